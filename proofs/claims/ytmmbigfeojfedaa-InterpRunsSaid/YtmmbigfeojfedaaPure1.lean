/- Runs of small programs, reckoned in plain Lean. -/
import Derived.Test.YtmmbigfeojfedaaRun0
namespace Go.Proofs.Ytmmbigfeojfedaa
open Go.RowKit

/-- A run's surroundings where the program has no names and the letter is empty. -/
def env0 (kA : Option Addr) (kC : Nat) (CL : List (Int × Int)) : Env := { nA := none, nC := 0, NL := [], kA := kA, kC := kC, CL := CL, frm := ⟨#[]⟩, serial := 0, kind := 0, aA := none, aC := 0, AL := [], now := 0 }

def awL : List (Int × Int) := [(2, 0), (4, 0), (6, 0), (3, 0)]
def awReg : Nat → Int := fun j => if j = 0 then 5 else 0
theorem awake_run (kA : Option Addr) (kC : Nat) (aA : Option Addr) (aC : Nat) : (runF { env0 kA kC awL with aA := aA, aC := aC, AL := [3] } awReg).1 = 0 ∧ (runF { env0 kA kC awL with aA := aA, aC := aC, AL := [3] } awReg).2.reg 0 = 8 ∧ (runF { env0 kA kC awL with aA := aA, aC := aC, AL := [3] } awReg).2.steps = 4 :=
  ⟨by kernel_rfl, by kernel_rfl, by kernel_rfl⟩

def rkL (x y : Int) (i : Nat) : List (Int × Int) := [(1, x), (1, y), (6 + i, 0), (3, 7)]
theorem reckon_run (kA : Option Addr) (kC : Nat) (x y : Int) (i : Nat) (hi : i < 5) :
    (runF (env0 kA kC (rkL x y i)) (fun _ => 0)).1 = 0 ∧ (runF (env0 kA kC (rkL x y i)) (fun _ => 0)).2.reg 7 = reckonV (6 + i) x y ∧ (runF (env0 kA kC (rkL x y i)) (fun _ => 0)).2.steps = 4 := by
  match i, hi with
  | 0, _ => exact ⟨by kernel_rfl, by kernel_rfl, by kernel_rfl⟩
  | 1, _ => exact ⟨by kernel_rfl, by kernel_rfl, by kernel_rfl⟩
  | 2, _ => exact ⟨by kernel_rfl, by kernel_rfl, by kernel_rfl⟩
  | 3, _ => exact ⟨by kernel_rfl, by kernel_rfl, by kernel_rfl⟩
  | 4, _ => exact ⟨by kernel_rfl, by kernel_rfl, by kernel_rfl⟩
def rk2L (x : Int) : List (Int × Int) := [(1, x), (12, 0), (11, 0), (14, 0), (3, 0), (3, 1)]
theorem reckon_run2 (kA : Option Addr) (kC : Nat) (x : Int) :
    (runF (env0 kA kC (rk2L x)) (fun _ => 0)).1 = 0 ∧ (runF (env0 kA kC (rk2L x)) (fun _ => 0)).2.reg 0 = x ∧ (runF (env0 kA kC (rk2L x)) (fun _ => 0)).2.reg 1 = truth (x == 0) :=
  ⟨by kernel_rfl, by kernel_rfl, by kernel_rfl⟩
end Go.Proofs.Ytmmbigfeojfedaa

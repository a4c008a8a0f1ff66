/- Keys, a letter's form, what an integer must be below, an operation's kind. -/
import Derived.Test.YtmmbigfeojfedaaOut
namespace Go.Proofs.Ytmmbigfeojfedaa
open Go.RowKit Go.Proofs.YtmmbigfeojfedaaW.PrintWords

def keyB (s : ByteArray) : Bool := decide (1 ≤ s.size ∧ s.size ≤ 40)
theorem size_zero {s : ByteArray} : s = ⟨#[]⟩ ↔ s.size = 0 := by
  obtain ⟨⟨x⟩⟩ := s
  cases x with
  | nil => exact ⟨fun _ => rfl, fun _ => rfl⟩
  | cons a l => exact ⟨(fun h => by cases h), (fun h => by simp [ByteArray.size] at h)⟩

set_option maxRecDepth 100000 in
theorem key_any (s : ByteArray) (w : World) : Calls Try.prog 27 #[.string s] w fun e w' => e = .returned (.bool (keyB s)) ∧ w' = w := by
  by_cases h0 : s = ⟨#[]⟩
  · subst h0
    go_enter Try.func27, Try.ntmps27
    go_wp2
    go_ret
    exact ⟨rfl, rfl⟩
  · have t1 := str_ne h0
    have h1 : 1 ≤ s.size := by
      have := mt size_zero.2 h0
      omega
    have hk : keyB s = decide ((s.size : Int) ≤ 40) := by
      unfold keyB
      by_cases h : s.size ≤ 40
      · rw [decide_eq_true ⟨h1, h⟩, decide_eq_true (by omega)]
      · rw [decide_eq_false (fun x => h x.2), decide_eq_false (by omega)]
    rw [hk]
    have HT := Lib.hid hk
    clear hk
    go_enter Try.func27, Try.ntmps27
    go_wp2
    go_ret
    exact ⟨rfl, rfl⟩

def letterB (f : ByteArray) (n : Nat) : Bool := decide (f.size ≤ 40 ∧ n ≤ 4)
set_option maxRecDepth 100000 in
theorem letter_any (f : ByteArray) (sr kd : Int) (A : Option Addr) (n m : Nat) (w : World) :
    Calls Try.prog 19 #[.agg #[.string f, .int .u64 sr, .int .i64 kd, .slice A n m]] w fun e w' => e = .returned (.bool (letterB f n)) ∧ w' = w.alloc (.cells #[.string f, .int .u64 sr, .int .i64 kd, .slice A n m] 30) := by
  by_cases h0 : f.size ≤ 40
  · have t0 : decide ((f.size : Int) ≤ 40) = true := decide_eq_true (by omega)
    have hk : letterB f n = decide ((n : Int) ≤ 4) := by
      unfold letterB
      by_cases h : n ≤ 4
      · rw [decide_eq_true ⟨h0, h⟩, decide_eq_true (by omega)]
      · rw [decide_eq_false (fun x => h x.2), decide_eq_false (by omega)]
    rw [hk]
    clear hk
    go_enter Try.func19, Try.ntmps19
    go_wp2
    go_ret
    exact ⟨rfl, rfl⟩
  · have t0 : decide ((f.size : Int) ≤ 40) = false := decide_eq_false (by omega)
    have hk : letterB f n = false := decide_eq_false (fun x => h0 x.1)
    rw [hk]
    clear hk
    go_enter Try.func19, Try.ntmps19
    go_wp2
    go_ret
    exact ⟨rfl, rfl⟩

def belowV (nl cl : Nat) (kind : Int) : Int := if kind = 2 then 8 else if kind = 3 then 4 else if kind = 4 then cl + 1 else if kind = 5 then nl else 1
set_option maxRecDepth 100000 in
theorem below_any (nA kA : Option Addr) (nl cl nC kC : Nat) (kind : Int) (hk : kind = 0 ∨ kind = 1 ∨ kind = 2 ∨ kind = 3 ∨ kind = 4 ∨ kind = 5) (hcl : cl ≤ 1000) (w : World) :
    Calls Try.prog 29 #[.agg #[.slice nA nl nC, .slice kA cl kC], .int .i64 kind] w fun e w' => e = .returned (.int .i64 (belowV nl cl kind)) ∧ w' = w.alloc (.cells #[.slice nA nl nC, .slice kA cl kC] 43) := by
  rcases hk with rfl | rfl | rfl | rfl | rfl | rfl
  · go_enter Try.func29, Try.ntmps29
    go_wp2
    go_ret
    exact ⟨rfl, rfl⟩
  · go_enter Try.func29, Try.ntmps29
    go_wp2
    go_ret
    exact ⟨rfl, rfl⟩
  · go_enter Try.func29, Try.ntmps29
    go_wp2
    go_ret
    exact ⟨rfl, rfl⟩
  · go_enter Try.func29, Try.ntmps29
    go_wp2
    go_ret
    exact ⟨rfl, rfl⟩
  · go_enter Try.func29, Try.ntmps29
    go_wp2
    go_ret
    exact ⟨rfl, rfl⟩
  · go_enter Try.func29, Try.ntmps29
    go_wp2
    go_ret
    exact ⟨rfl, rfl⟩

/-- What an operation's integer may be: 0 nothing, 1 any, 2 a register, 3 an argument, 4 a place, 5 a name. -/
def kindOf (op : Nat) : Int := [0, 1, 2, 2, 3, 0, 0, 0, 0, 0, 0, 0, 0, 0, 0, 4, 4, 5, 0, 5, 5, 0, 0, 0].getD op 0
end Go.Proofs.Ytmmbigfeojfedaa

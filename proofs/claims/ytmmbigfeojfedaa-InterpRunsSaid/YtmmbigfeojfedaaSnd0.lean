/- The run of InterpSends in plain Lean. -/
import Derived.Test.YtmmbigfeojfedaaStk0
namespace Go.Proofs.Ytmmbigfeojfedaa
open Go.RowKit Go.Proofs.YtmmbigfeojfedaaW.PrintWords

def sdOp (rep : Bool) (i : Nat) : Int := if (rep && i % 2 == 1) = true then 18 else 17
def sdI (rep : Bool) (kd : Int) (i : Nat) : List (Int × Int) := [(1, wrap64 (kd + i)), (4, (i : Int) % 4), (sdOp rep i, 0)]
def sdL (rep : Bool) (kd : Int) : Nat → List (Int × Int)
  | 0 => []
  | k + 1 => sdL rep kd k ++ sdI rep kd k
theorem sdL_len (rep : Bool) (kd : Int) : ∀ k, (sdL rep kd k).length = 3 * k
  | 0 => rfl
  | k + 1 => by simp [sdL, sdI, sdL_len rep kd k]; omega
def sdTo (rep : Bool) (i : Nat) : ByteArray := if (rep && i % 2 == 1) = true then ⟨#[109, 101]⟩ else ⟨#[98]⟩
def sdE (nb ab : Nat) (A : Option Addr) (c : Nat) (rep : Bool) (kd a0 a1 a2 a3 : Int) (n : Nat) : Env := { nA := some ⟨nb, 0, none⟩, nC := 1, NL := [⟨#[98]⟩], kA := A, kC := c, CL := sdL rep kd n, frm := ⟨#[109, 101]⟩, serial := 0, kind := 0, aA := some ⟨ab, 0, none⟩, aC := 4, AL := [a0, a1, a2, a3], now := 0 }
def sdS (rep : Bool) (kd a0 a1 a2 a3 : Int) (n : Nat) : List (ByteArray × Int × Int) := (List.range n).map fun i => (sdTo rep i, wrap64 (kd + (i : Nat)), [a0, a1, a2, a3].getD (i % 4) 0)
section
variable (nb ab : Nat) (A : Option Addr) (c : Nat) (rep : Bool) (kd a0 a1 a2 a3 : Int)
theorem sd_good (n : Nat) (h : n < 5) : (runF (sdE nb ab A c rep kd a0 a1 a2 a3 n) (fun _ => 0)).1 = 0 ∧ (runF (sdE nb ab A c rep kd a0 a1 a2 a3 n) (fun _ => 0)).2.sent = sdS rep kd a0 a1 a2 a3 n := by
  match rep, n, h with
  | true, 0, _ | true, 1, _ | true, 2, _ | true, 3, _ | true, 4, _ | false, 0, _ | false, 1, _ | false, 2, _ | false, 3, _ | false, 4, _ => exact ⟨by kernel_rfl, by kernel_rfl⟩
theorem sd_bad (n : Nat) (h : 5 ≤ n) (h7 : n < 7) : (runF (sdE nb ab A c rep kd a0 a1 a2 a3 n) (fun _ => 0)).1 = 12 ∧ (runF (sdE nb ab A c rep kd a0 a1 a2 a3 n) (fun _ => 0)).2.steps = 15 := by
  match rep, n, h, h7 with
  | true, 5, _, _ | true, 6, _, _ | false, 5, _, _ | false, 6, _, _ => exact ⟨by kernel_rfl, by kernel_rfl⟩
theorem sd_env {W : World} {n t t' : Nat} (hN : Blk W nb #[.string ⟨#[98]⟩] t) (hA : Blk W ab #[.int .i64 a0, .int .i64 a1, .int .i64 a2, .int .i64 a3] t') : EnvOk (sdE nb ab A c rep kd a0 a1 a2 a3 n) W :=
  ⟨reads_blk hN rfl (show 1 ≤ 9223372036854775807 by decide), reads_blk hA rfl (show 4 ≤ 9223372036854775807 by decide)⟩
abbrev sdA (n : Nat) : Array Value := #[.agg #[.slice (some ⟨nb, 0, none⟩) 1 1, .slice A (sdL rep kd n).length c], .agg #[.int .i64 0, .int .i64 0, .int .i64 0, .int .i64 0, .int .i64 0, .int .i64 0, .int .i64 0, .int .i64 0], .agg #[.string ⟨#[109, 101]⟩, .int .u64 0, .int .i64 0, .slice (some ⟨ab, 0, none⟩) 4 4], .int .i64 0]
theorem sd_runB (W : World) (n t t' : Nat) (hn : n < 7) (h : 4 < n) (hN : Blk W nb #[.string ⟨#[98]⟩] t) (hA : Blk W ab #[.int .i64 a0, .int .i64 a1, .int .i64 a2, .int .i64 a3] t') (hC : IsCode W A (sdL rep kd n)) :
    Calls Try.prog 12 (sdA nb ab A c rep kd n) W (BadPost 12 15 W) := by
  have hl : (sdL rep kd n).length ≤ 1000 := by rw [sdL_len]; omega
  obtain ⟨e1, e2⟩ := sd_bad nb ab A c rep kd a0 a1 a2 a3 n (by omega) hn
  exact (run_bad (sdE nb ab A c rep kd a0 a1 a2 a3 n) (fun _ => 0) W (sd_env nb ab A c rep kd a0 a1 a2 a3 hN hA) hC hl (by rw [e1]; decide)).mono fun e w1 ⟨h1, h2⟩ => ⟨by rw [h1, e1, e2], h2⟩
theorem sd_runG (W : World) (n t t' : Nat) (h : ¬ 4 < n) (hN : Blk W nb #[.string ⟨#[98]⟩] t) (hA : Blk W ab #[.int .i64 a0, .int .i64 a1, .int .i64 a2, .int .i64 a3] t') (hC : IsCode W A (sdL rep kd n)) :
    Calls Try.prog 12 (sdA nb ab A c rep kd n) W (OkPost (fun R => R.sent = sdS rep kd a0 a1 a2 a3 n) W) := by
  have hl : (sdL rep kd n).length ≤ 1000 := by rw [sdL_len]; omega
  obtain ⟨e1, e2⟩ := sd_good nb ab A c rep kd a0 a1 a2 a3 n (by omega)
  exact run_ok (fun R => R.sent = sdS rep kd a0 a1 a2 a3 n) (sdE nb ab A c rep kd a0 a1 a2 a3 n) (fun _ => 0) W (sd_env nb ab A c rep kd a0 a1 a2 a3 hN hA) hC hl e1 e2
end
end Go.Proofs.Ytmmbigfeojfedaa

/- The contracts of package counts' small functions (at, New, Add, Get, Take), one goroutine. -/
import Derived.Test.YteffdcpepjjkbaaRows
import Derived.WalkKit
import Derived.WalkSpells
import Derived.WalkLawsBesides
import Derived.Below
import Derived.OwnWalk
import Derived.Laws.LoneSync
import Derived.KernelRfl
import Derived.Outline
namespace Go.Proofs.Yteffdcpepjjkbaa
open Go.RowKit

theorem at_nil (i : Int) (w : World) : Calls Try.prog 15 #[.pointer none, .int .i64 i] w fun e w' => e = .returned (.pointer none) ∧ w = w' := by
  go_enter Try.func15, Try.ntmps15
  go_wp2
  go_ret
  exact ⟨rfl, rfl⟩

theorem at_in (b : Nat) (i : Int) (h0 : 0 ≤ i) (h1 : i ≤ 7) (w : World) : Calls Try.prog 15 #[.pointer (some ⟨b, 0, none⟩), .int .i64 i] w fun e w' => e = .returned (.pointer (some ⟨b, i.toNat, none⟩)) ∧ w = w' := by
  have g0 : decide (i < 0) = false := by simp; omega
  have g1 : decide (8 ≤ i) = false := by simp; omega
  go_enter Try.func15, Try.ntmps15
  go_wp2
  go_ret
  exact ⟨by simp, rfl⟩

theorem at_low (b : Nat) (i : Int) (h0 : i < 0) (w : World) : Calls Try.prog 15 #[.pointer (some ⟨b, 0, none⟩), .int .i64 i] w fun e w' => e = .returned (.pointer none) ∧ w = w' := by
  have g0 : decide (i < 0) = true := by simp; omega
  go_enter Try.func15, Try.ntmps15
  go_wp2
  go_ret
  exact ⟨rfl, rfl⟩

theorem at_high (b : Nat) (i : Int) (h0 : 7 < i) (w : World) : Calls Try.prog 15 #[.pointer (some ⟨b, 0, none⟩), .int .i64 i] w fun e w' => e = .returned (.pointer none) ∧ w = w' := by
  have g0 : decide (i < 0) = false := by simp; omega
  have g1 : decide (8 ≤ i) = true := by simp; omega
  go_enter Try.func15, Try.ntmps15
  go_wp2
  go_ret
  exact ⟨rfl, rfl⟩

theorem new_any (w : World) : Calls Try.prog 7 #[] w fun e w' => e = .returned (.pointer (some ⟨w.heap.size, 0, none⟩)) ∧
    w' = w.alloc (.cells #[.int .u64 0, .int .u64 0, .int .u64 0, .int .u64 0, .int .u64 0, .int .u64 0, .int .u64 0, .int .u64 0] 34) := by
  go_enter Try.func7, Try.ntmps7
  go_wp2
  go_ret
  exact ⟨rfl, rfl⟩

theorem aadd (a : Addr) (x n : Int) (w : World) (hc : w.cell? a = some (.int .u64 x)) (hz : w.frozen? a = false) :
    Calls Try.prog 16 #[.pointer (some a), .int .u64 n] w fun e w' => e = .returned (.int .u64 (IntKind.u64.wrap (x + n))) ∧ w' = w.setCell a (.int .u64 (IntKind.u64.wrap (x + n))) := by
  have hl := run_call_add (P := Try.prog) Try.func23 (by kernel_rfl) (by kernel_rfl) (by kernel_rfl) .u64 (by kernel_rfl) (x := x) (y := n) (s := IntKind.u64.wrap (x + n)) hc hz (by simp [go_sem])
  go_enter Try.func16, Try.ntmps16
  go_wp2
  go_ret
  exact ⟨rfl, rfl⟩

theorem aload (a : Addr) (x : Int) (w : World) (hc : w.cell? a = some (.int .u64 x)) :
    Calls Try.prog 17 #[.pointer (some a)] w fun e w' => e = .returned (.int .u64 x) ∧ w = w' := by
  have hl := run_call_load (P := Try.prog) Try.func24 (by kernel_rfl) (by kernel_rfl) (by kernel_rfl) .u64 (by kernel_rfl) hc
  go_enter Try.func17, Try.ntmps17
  go_wp2
  go_ret
  exact ⟨rfl, rfl⟩

theorem run_call_swap {P : Program} {f : FuncId} {fn : Func} (hf : P.funcs[f]? = some fn) (hname : (fn.name == "runtime.NumGoroutine") = false) (hb : fn.body.isNone = true) (hn : Extern.findNext fn = none) (k : IntKind)
    (he : Extern.find fn = some (Extern.Atomic.swapT (.int k))) {a : Addr} {x y : Int} {w : World} (hc : w.cell? a = some (.int k x)) (hz : w.frozen? a = false) :
    (callFunc f #[.pointer (some a), .int k y]).run P w = .ok (.value (.int k x)) (w.setCell a (.int k y)) := by
  rw [run_callFunc_extern hf hname hb hn he]
  change (Sem.run P (do
    let a' ← asAddr (.pointer (some a))
    let old ← Extern.Atomic.read (.int k) a'
    store a' (.int k y) .atomic
    pure old) w).andThen _ = _
  simp [Extern.Atomic.read, asAddr, hc, hz, run_store P w a (.int k y) .atomic rfl, Result.andThen]

theorem aswap (a : Addr) (x n : Int) (w : World) (hc : w.cell? a = some (.int .u64 x)) (hz : w.frozen? a = false) :
    Calls Try.prog 18 #[.pointer (some a), .int .u64 n] w fun e w' => e = .returned (.int .u64 x) ∧ w' = w.setCell a (.int .u64 n) := by
  have hl := run_call_swap (P := Try.prog) Try.func25 (by kernel_rfl) (by kernel_rfl) (by kernel_rfl) .u64 (by kernel_rfl) (x := x) (y := n) hc hz
  go_enter Try.func18, Try.ntmps18
  go_wp2
  go_ret
  exact ⟨rfl, rfl⟩

/-! The methods on a nil receiver. -/
theorem add_nil (i n : Int) (w : World) : Calls Try.prog 8 #[.pointer none, .int .i64 i, .int .u64 n] w fun e w' => e = .returned (.int .u64 0) ∧ w = w' := by
  go_enter Try.func8, Try.ntmps8
  go_wp2_with (go_at_call 15; refine (at_nil _ _).mono ?_; rintro e w' ⟨rfl, rfl⟩)
  go_ret
  exact ⟨rfl, rfl⟩
theorem get_nil (i : Int) (w : World) : Calls Try.prog 9 #[.pointer none, .int .i64 i] w fun e w' => e = .returned (.int .u64 0) ∧ w = w' := by
  go_enter Try.func9, Try.ntmps9
  go_wp2_with (go_at_call 15; refine (at_nil _ _).mono ?_; rintro e w' ⟨rfl, rfl⟩)
  go_ret
  exact ⟨rfl, rfl⟩
theorem take_nil (i : Int) (w : World) : Calls Try.prog 10 #[.pointer none, .int .i64 i] w fun e w' => e = .returned (.int .u64 0) ∧ w = w' := by
  go_enter Try.func10, Try.ntmps10
  go_wp2_with (go_at_call 15; refine (at_nil _ _).mono ?_; rintro e w' ⟨rfl, rfl⟩)
  go_ret
  exact ⟨rfl, rfl⟩
theorem all_nil (w : World) : Calls Try.prog 12 #[.pointer none] w fun e w' => e = .returned (.slice none 0 0) ∧ w = w' := by
  go_enter Try.func12, Try.ntmps12
  go_wp2
  go_ret
  exact ⟨rfl, rfl⟩

/-! An index that is none. -/
theorem at_out (b : Nat) (i : Int) (h : i < 0 ∨ 7 < i) (w : World) : Calls Try.prog 15 #[.pointer (some ⟨b, 0, none⟩), .int .i64 i] w fun e w' => e = .returned (.pointer none) ∧ w = w' := by
  rcases h with h | h
  · exact at_low b i h w
  · exact at_high b i h w
theorem add_out (b : Nat) (i n : Int) (h : i < 0 ∨ 7 < i) (w : World) : Calls Try.prog 8 #[.pointer (some ⟨b, 0, none⟩), .int .i64 i, .int .u64 n] w fun e w' => e = .returned (.int .u64 0) ∧ w = w' := by
  go_enter Try.func8, Try.ntmps8
  go_wp2_with (go_at_call 15; refine (at_out _ _ h _).mono ?_; rintro e w' ⟨rfl, rfl⟩)
  go_ret
  exact ⟨rfl, rfl⟩
theorem get_out (b : Nat) (i : Int) (h : i < 0 ∨ 7 < i) (w : World) : Calls Try.prog 9 #[.pointer (some ⟨b, 0, none⟩), .int .i64 i] w fun e w' => e = .returned (.int .u64 0) ∧ w = w' := by
  go_enter Try.func9, Try.ntmps9
  go_wp2_with (go_at_call 15; refine (at_out _ _ h _).mono ?_; rintro e w' ⟨rfl, rfl⟩)
  go_ret
  exact ⟨rfl, rfl⟩
theorem take_out (b : Nat) (i : Int) (h : i < 0 ∨ 7 < i) (w : World) : Calls Try.prog 10 #[.pointer (some ⟨b, 0, none⟩), .int .i64 i] w fun e w' => e = .returned (.int .u64 0) ∧ w = w' := by
  go_enter Try.func10, Try.ntmps10
  go_wp2_with (go_at_call 15; refine (at_out _ _ h _).mono ?_; rintro e w' ⟨rfl, rfl⟩)
  go_ret
  exact ⟨rfl, rfl⟩

/-! A counter that is there. -/
theorem add_in (b : Nat) (i n x : Int) (h0 : 0 ≤ i) (h1 : i ≤ 7) (w : World) (hc : w.cell? ⟨b, i.toNat, none⟩ = some (.int .u64 x)) (hz : w.frozen? ⟨b, i.toNat, none⟩ = false) :
    Calls Try.prog 8 #[.pointer (some ⟨b, 0, none⟩), .int .i64 i, .int .u64 n] w fun e w' => e = .returned (.int .u64 (IntKind.u64.wrap (x + n))) ∧ w' = w.setCell ⟨b, i.toNat, none⟩ (.int .u64 (IntKind.u64.wrap (x + n))) := by
  go_enter Try.func8, Try.ntmps8
  go_wp2_with (first | (go_at_call 15; refine (at_in _ _ h0 h1 _).mono ?_; rintro e w' ⟨rfl, rfl⟩) | (go_at_call 16; refine (aadd _ x n _ hc hz).mono ?_; rintro e w' ⟨rfl, rfl⟩))
  go_ret
  exact ⟨rfl, rfl⟩
theorem get_in (b : Nat) (i x : Int) (h0 : 0 ≤ i) (h1 : i ≤ 7) (w : World) (hc : w.cell? ⟨b, i.toNat, none⟩ = some (.int .u64 x)) :
    Calls Try.prog 9 #[.pointer (some ⟨b, 0, none⟩), .int .i64 i] w fun e w' => e = .returned (.int .u64 x) ∧ w = w' := by
  go_enter Try.func9, Try.ntmps9
  go_wp2_with (first | (go_at_call 15; refine (at_in _ _ h0 h1 _).mono ?_; rintro e w' ⟨rfl, rfl⟩) | (go_at_call 17; refine (aload _ x _ hc).mono ?_; rintro e w' ⟨rfl, rfl⟩))
  go_ret
  exact ⟨rfl, rfl⟩
theorem take_in (b : Nat) (i x : Int) (h0 : 0 ≤ i) (h1 : i ≤ 7) (w : World) (hc : w.cell? ⟨b, i.toNat, none⟩ = some (.int .u64 x)) (hz : w.frozen? ⟨b, i.toNat, none⟩ = false) :
    Calls Try.prog 10 #[.pointer (some ⟨b, 0, none⟩), .int .i64 i] w fun e w' => e = .returned (.int .u64 x) ∧ w' = w.setCell ⟨b, i.toNat, none⟩ (.int .u64 0) := by
  go_enter Try.func10, Try.ntmps10
  go_wp2_with (first | (go_at_call 15; refine (at_in _ _ h0 h1 _).mono ?_; rintro e w' ⟨rfl, rfl⟩) | (go_at_call 18; refine (aswap _ x 0 _ hc hz).mono ?_; rintro e w' ⟨rfl, rfl⟩))
  go_ret
  exact ⟨rfl, rfl⟩

theorem awake_any (w : World) : Calls Try.prog 6 #[] w fun e w' => e = .returned (.bool true) ∧ Below w.heap.size w w' := by
  go_enter Try.func6, Try.ntmps6
  go_wp2_with fail
  refine (new_any _).mono ?_
  rintro e w' ⟨rfl, rfl⟩
  go_wp2_with fail
  refine (add_in _ 2 5 0 (by omega) (by omega) _ ?_ ?_).mono ?_
  · simp
  · simp
  rintro e w' ⟨rfl, rfl⟩
  go_wp2_with fail
  refine (take_in _ 2 5 (by omega) (by omega) _ ?_ ?_).mono ?_
  · simp
  · simp
  rintro e w' ⟨rfl, rfl⟩
  go_wp2_with fail
  go_ret
  exact ⟨rfl, (Below.refl _ _).alloc (Nat.le_refl _) _⟩
end Go.Proofs.Yteffdcpepjjkbaa

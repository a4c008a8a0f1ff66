/- step, operation by operation: what only pushes what is at hand, or halts, or jumps. -/
import Derived.Test.YtmmbigfeojfedaaTwo
import Derived.StillTailTactics
namespace Go.Proofs.Ytmmbigfeojfedaa
open Go.RowKit Go.Proofs.YtmmbigfeojfedaaW.PrintWords

theorem rd1 (w : World) (x : Int) : ReadsOf (Value.int .i64) (0 : Int) (w.alloc (.cells #[.int .i64 x] 2)) (some ⟨w.heap.size, 0, none⟩) [x].length [x] :=
  ⟨rfl, by simp, fun _ => ⟨_, rfl, fun j hj => by
    have : j = 0 := by simp at hj; exact hj
    subst this
    rw [Go.WideShapes.add_plain, (Blk.new w #[.int .i64 x] 2).cell]
    rfl⟩⟩
theorem rd2 (w : World) (x y : Int) : ReadsOf (Value.int .i64) (0 : Int) (w.alloc (.cells #[.int .i64 x, .int .i64 y] 2)) (some ⟨w.heap.size, 0, none⟩) [x, y].length [x, y] :=
  ⟨rfl, by simp, fun _ => ⟨_, rfl, fun j hj => by
    rw [Go.WideShapes.add_plain, (Blk.new w #[.int .i64 x, .int .i64 y] 2).cell]
    match j, hj with
    | 0, _ | 1, _ => rfl⟩⟩

theorem push1 {c : Env} {w0 wb w : World} {mb : Nat} {s : St} (x : Int) (h : M c w0 wb mb s w) (hs : s.stack.length ≤ 16) :
    Calls Try.prog 30 #[mp mb, .slice (some ⟨w.heap.size, 0, none⟩) 1 1] (w.alloc (.cells #[.int .i64 x] 2)) fun e w' => e = .returned (.tuple #[]) ∧ M c w0 wb mb (pushF [x] s) w' :=
  push_any c w0 wb _ mb s _ 1 [x] (h.alloc _) (by simp) hs (rd1 w x)
theorem push2 {c : Env} {w0 wb w : World} {mb : Nat} {s : St} (x y : Int) (h : M c w0 wb mb s w) (hs : s.stack.length ≤ 16) :
    Calls Try.prog 30 #[mp mb, .slice (some ⟨w.heap.size, 0, none⟩) 2 2] (w.alloc (.cells #[.int .i64 x, .int .i64 y] 2)) fun e w' => e = .returned (.tuple #[]) ∧ M c w0 wb mb (pushF [x, y] s) w' :=
  push_any c w0 wb _ mb s _ 2 [x, y] (h.alloc _) (by simp) hs (rd2 w x y)

theorem push1d {c : Env} {w0 wb w : World} {mb : Nat} {s : St} (x : Int) (h : M c w0 wb mb s w) (hs : s.stack.length ≤ 16) :
    Calls Try.prog 30 #[mp mb, .slice (some ⟨w.heap.size, 0, none⟩) 1 1] (w.alloc (.cells #[.int .i64 x] 2)).drew fun e w' => e = .returned (.tuple #[]) ∧ M c w0 wb mb (pushF [x] s) w' :=
  push_any c w0 wb _ mb s _ 1 [x] (h.alloc _).drew (by simp) hs (rd1 w x)

/-- An instruction. -/
abbrev ins (op a : Int) : Value := .agg #[.int .i64 op, .int .i64 a]
abbrev boxed (w : World) (op a : Int) : World := w.alloc (.cells #[.int .i64 op, .int .i64 a] 60)

theorem cells_reg {c : Env} {s : St} {sv ev sn tv : Value} {k : Nat} (hk : k < 8) : (cellsOf c s sv ev sn tv)[9 + k]? = some (.int .i64 (s.reg k)) := by
  match k, hk with
  | 0, _ | 1, _ | 2, _ | 3, _ | 4, _ | 5, _ | 6, _ | 7, _ => rfl
def setReg (s : St) (k : Nat) (x : Int) : St := { s with reg := fun j => if j = k then x else s.reg j }
theorem cells_set {c : Env} {s : St} {sv ev sn tv : Value} {k : Nat} (x : Int) (hk : k < 8) : (cellsOf c s sv ev sn tv).setIfInBounds (9 + k) (.int .i64 x) = cellsOf c (setReg s k x) sv ev sn tv := by
  match k, hk with
  | 0, _ | 1, _ | 2, _ | 3, _ | 4, _ | 5, _ | 6, _ | 7, _ => rfl

set_option maxRecDepth 100000 in
set_option maxHeartbeats 2000000 in
theorem step_0 (c : Env) (w0 wb w : World) (mb : Nat) (s : St) (a : Int) (h : M c w0 wb mb s w) :
    Calls Try.prog 20 #[mp mb, ins 0 a] w fun e w' => e = .returned (.tuple #[]) ∧ M c w0 wb mb { s with done := true } w' := by
  obtain ⟨sv, ev, sn, tv, hb, hr, hm⟩ := h.alloc (.cells #[.int .i64 0, .int .i64 a] 60)
  have c22 := hb.cell 22
  have f22 := hb.free 22
  simp [cellsOf] at c22
  have HF := Lib.hid (show M c w0 wb mb { s with done := true } ((boxed w 0 a).setCell ⟨mb, 22, none⟩ (.bool true)) from ⟨sv, ev, sn, tv, by simpa [cellsOf] using hb.set 22 (.bool true), hr.put hb hm _ _, hm⟩)
  clear hb hr h
  go_enter Try.func20, Try.ntmps20
  go_wp2
  go_end0
  exact ⟨rfl, HF.out⟩

/-- Behind the box: the world by a name of its own. -/
theorem M.boxed {c : Env} {w0 wb w : World} {mb : Nat} {s : St} (h : M c w0 wb mb s w) (op a : Int) : ∃ w1 bk, w1 = boxed w op a ∧ bk = w.heap.size ∧ M c w0 wb mb s w1 ∧ Blk w1 bk #[.int .i64 op, .int .i64 a] 60 :=
  ⟨_, _, rfl, rfl, h.alloc _, Blk.new _ _ _⟩

set_option maxRecDepth 100000 in
set_option maxHeartbeats 1000000 in
theorem step_1 (c : Env) (w0 wb w : World) (mb : Nat) (s : St) (a : Int) (h : M c w0 wb mb s w) (hs : s.stack.length ≤ 16) :
    Calls Try.prog 20 #[mp mb, ins 1 a] w fun e w' => e = .returned (.tuple #[]) ∧ M c w0 wb mb (pushF [a] s) w' := by
  obtain ⟨w1, bk, hw1, hbkn, h1, hbk⟩ := h.boxed 1 a
  have q0 := hbk.cell 0
  have q1 := hbk.cell 1
  simp at q0 q1
  have HP := Lib.hid (push1 a h1 hs)
  clear h h1 hbk
  go_enter Try.func20, Try.ntmps20
  go_upto_region 1 with fail
  rw [show w.alloc (.cells #[.int .i64 1, .int .i64 a] 60) = w1 from hw1.symm, ← hbkn]
  clear hw1 hbkn
  go_wp2_with fail
  refine HP.out.mono ?_
  rintro e w2 ⟨rfl, h2⟩
  go_wp2
  go_end0
  exact ⟨rfl, h2⟩

set_option maxRecDepth 100000 in
set_option maxHeartbeats 1000000 in
theorem step_2 (c : Env) (w0 wb w : World) (mb : Nat) (s : St) (k : Nat) (hk : k < 8) (h : M c w0 wb mb s w) (hs : s.stack.length ≤ 16) :
    Calls Try.prog 20 #[mp mb, ins 2 (k : Int)] w fun e w' => e = .returned (.tuple #[]) ∧ M c w0 wb mb (pushF [s.reg k] s) w' := by
  obtain ⟨w1, bk, hw1, hbkn, h1, hbk⟩ := h.boxed 2 (k : Int)
  have q0 := hbk.cell 0
  have q1 := hbk.cell 1
  simp at q0 q1
  have HM := Lib.hid h1
  obtain ⟨sv, ev, sn, tv, hb, hr, hm⟩ := HM.out
  have ck := hb.cell (9 + k)
  rw [cells_reg hk] at ck
  have k0 : (0 : Int) ≤ (k : Int) := by omega
  have k1 : (k : Int) < 8 := by omega
  obtain ⟨x, hx⟩ : ∃ x, x = s.reg k := ⟨_, rfl⟩
  rw [← hx] at ck
  rw [← hx]
  clear hx hb hr h h1 hbk
  go_enter Try.func20, Try.ntmps20
  go_upto_region 1 with fail
  rw [show w.alloc (.cells #[.int .i64 2, .int .i64 (k : Int)] 60) = w1 from hw1.symm, ← hbkn]
  clear hw1 hbkn
  go_wp2_with fail
  go_region_with ((refine (push1d x HM.out hs).mono ?_; rintro e w2 ⟨rfl, h2⟩))
  all_goals
    go_wp2
    go_end0
    exact ⟨rfl, h2⟩
end Go.Proofs.Ytmmbigfeojfedaa

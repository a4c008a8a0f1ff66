/- step, operation by operation: what reckons and pushes. -/
import Derived.Test.YtmmbigfeojfedaaStep0
namespace Go.Proofs.Ytmmbigfeojfedaa
open Go.RowKit Go.Proofs.YtmmbigfeojfedaaW.PrintWords

set_option maxRecDepth 100000 in
set_option maxHeartbeats 1000000 in
theorem step_5 (c : Env) (w0 wb w : World) (mb : Nat) (s : St) (a : Int) (h : M c w0 wb mb s w) (hs : s.stack.length ≤ 16) :
    Calls Try.prog 20 #[mp mb, ins 5 a] w fun e w' => e = .returned (.tuple #[]) ∧ M c w0 wb mb (pushF [c.kind] s) w' := by
  obtain ⟨w1, bk, hw1, hbkn, h1, hbk⟩ := h.boxed 5 a
  have q0 := hbk.cell 0
  have q1 := hbk.cell 1
  simp at q0 q1
  have HM := Lib.hid h1
  have HBK := Lib.hid hbk
  obtain ⟨sv, ev, sn, tv, hb, hr, hm⟩ := HM.out
  have c4 := hb.cell 4
  simp [cellsOf] at c4
  clear hb hr
  clear h h1 hbk
  go_enter Try.func20, Try.ntmps20
  go_upto_region 1 with fail
  rw [show w.alloc (.cells #[.int .i64 5, .int .i64 a] 60) = w1 from hw1.symm, ← hbkn]
  clear hw1 hbkn
  go_wp2_with fail
  refine (push1 c.kind HM.out hs).mono ?_
  rintro e w2 ⟨rfl, h2⟩
  go_wp2
  go_end0
  exact ⟨rfl, h2⟩

set_option maxRecDepth 100000 in
set_option maxHeartbeats 1000000 in
theorem step_22 (c : Env) (w0 wb w : World) (mb : Nat) (s : St) (a : Int) (h : M c w0 wb mb s w) (hs : s.stack.length ≤ 16) :
    Calls Try.prog 20 #[mp mb, ins 22 a] w fun e w' => e = .returned (.tuple #[]) ∧ M c w0 wb mb (pushF [c.now] s) w' := by
  obtain ⟨w1, bk, hw1, hbkn, h1, hbk⟩ := h.boxed 22 a
  have q0 := hbk.cell 0
  have q1 := hbk.cell 1
  simp at q0 q1
  have HM := Lib.hid h1
  have HBK := Lib.hid hbk
  obtain ⟨sv, ev, sn, tv, hb, hr, hm⟩ := HM.out
  have c6 := hb.cell 6
  simp [cellsOf] at c6
  clear hb hr
  clear h h1 hbk
  go_enter Try.func20, Try.ntmps20
  go_upto_region 1 with fail
  rw [show w.alloc (.cells #[.int .i64 22, .int .i64 a] 60) = w1 from hw1.symm, ← hbkn]
  clear hw1 hbkn
  go_wp2_with fail
  refine (push1 c.now HM.out hs).mono ?_
  rintro e w2 ⟨rfl, h2⟩
  go_wp2
  go_end0
  exact ⟨rfl, h2⟩

set_option maxRecDepth 100000 in
set_option maxHeartbeats 1000000 in
theorem step_23 (c : Env) (w0 wb w : World) (mb : Nat) (s : St) (a : Int) (h : M c w0 wb mb s w) (hs : s.stack.length ≤ 16) :
    Calls Try.prog 20 #[mp mb, ins 23 a] w fun e w' => e = .returned (.tuple #[]) ∧ M c w0 wb mb (pushF [wrap64 c.serial] s) w' := by
  obtain ⟨w1, bk, hw1, hbkn, h1, hbk⟩ := h.boxed 23 a
  have q0 := hbk.cell 0
  have q1 := hbk.cell 1
  simp at q0 q1
  have HM := Lib.hid h1
  have HBK := Lib.hid hbk
  obtain ⟨sv, ev, sn, tv, hb, hr, hm⟩ := HM.out
  have c3 := hb.cell 3
  simp [cellsOf] at c3
  clear hb hr
  clear h h1 hbk
  go_enter Try.func20, Try.ntmps20
  go_upto_region 1 with fail
  rw [show w.alloc (.cells #[.int .i64 23, .int .i64 a] 60) = w1 from hw1.symm, ← hbkn]
  clear hw1 hbkn
  go_wp2_with fail
  refine (push1 (wrap64 c.serial) HM.out hs).mono ?_
  rintro e w2 ⟨rfl, h2⟩
  go_wp2
  go_end0
  exact ⟨rfl, h2⟩

set_option maxRecDepth 100000 in
set_option maxHeartbeats 1000000 in
theorem step_6 (c : Env) (w0 wb w : World) (mb : Nat) (s : St) (a : Int) (h : M c w0 wb mb s w) (hs : s.stack.length ≤ 16) :
    Calls Try.prog 20 #[mp mb, ins 6 a] w fun e w' => e = .returned (.tuple #[]) ∧ M c w0 wb mb (pushF [reckonV 6 (twoX s) (twoY s)] (twoF s)) w' := by
  obtain ⟨w1, bk, hw1, hbkn, h1, hbk⟩ := h.boxed 6 a
  have q0 := hbk.cell 0
  have q1 := hbk.cell 1
  simp at q0 q1
  have HM := Lib.hid h1
  have HBK := Lib.hid hbk
  have hs2 : (twoF s).stack.length ≤ 16 := Nat.le_trans (popF_len _) (Nat.le_trans (popF_len s) hs)
  clear h h1 hbk
  go_enter Try.func20, Try.ntmps20
  go_upto_region 1 with fail
  rw [show w.alloc (.cells #[.int .i64 6, .int .i64 a] 60) = w1 from hw1.symm, ← hbkn]
  clear hw1 hbkn
  go_wp2_with fail
  refine (reckon_any c w0 wb w1 mb s 6 HM.out hs (by simp)).mono ?_
  rintro e w2 ⟨rfl, h2⟩
  have H2 := Lib.hid h2
  clear h2
  go_wp2_with fail
  refine (push1 _ H2.out hs2).mono ?_
  rintro e w3 ⟨rfl, h3⟩
  go_wp2
  go_end0
  exact ⟨rfl, h3⟩

set_option maxRecDepth 100000 in
set_option maxHeartbeats 1000000 in
theorem step_7 (c : Env) (w0 wb w : World) (mb : Nat) (s : St) (a : Int) (h : M c w0 wb mb s w) (hs : s.stack.length ≤ 16) :
    Calls Try.prog 20 #[mp mb, ins 7 a] w fun e w' => e = .returned (.tuple #[]) ∧ M c w0 wb mb (pushF [reckonV 7 (twoX s) (twoY s)] (twoF s)) w' := by
  obtain ⟨w1, bk, hw1, hbkn, h1, hbk⟩ := h.boxed 7 a
  have q0 := hbk.cell 0
  have q1 := hbk.cell 1
  simp at q0 q1
  have HM := Lib.hid h1
  have HBK := Lib.hid hbk
  have hs2 : (twoF s).stack.length ≤ 16 := Nat.le_trans (popF_len _) (Nat.le_trans (popF_len s) hs)
  clear h h1 hbk
  go_enter Try.func20, Try.ntmps20
  go_upto_region 1 with fail
  rw [show w.alloc (.cells #[.int .i64 7, .int .i64 a] 60) = w1 from hw1.symm, ← hbkn]
  clear hw1 hbkn
  go_wp2_with fail
  refine (reckon_any c w0 wb w1 mb s 7 HM.out hs (by simp)).mono ?_
  rintro e w2 ⟨rfl, h2⟩
  have H2 := Lib.hid h2
  clear h2
  go_wp2_with fail
  refine (push1 _ H2.out hs2).mono ?_
  rintro e w3 ⟨rfl, h3⟩
  go_wp2
  go_end0
  exact ⟨rfl, h3⟩

set_option maxRecDepth 100000 in
set_option maxHeartbeats 1000000 in
theorem step_8 (c : Env) (w0 wb w : World) (mb : Nat) (s : St) (a : Int) (h : M c w0 wb mb s w) (hs : s.stack.length ≤ 16) :
    Calls Try.prog 20 #[mp mb, ins 8 a] w fun e w' => e = .returned (.tuple #[]) ∧ M c w0 wb mb (pushF [reckonV 8 (twoX s) (twoY s)] (twoF s)) w' := by
  obtain ⟨w1, bk, hw1, hbkn, h1, hbk⟩ := h.boxed 8 a
  have q0 := hbk.cell 0
  have q1 := hbk.cell 1
  simp at q0 q1
  have HM := Lib.hid h1
  have HBK := Lib.hid hbk
  have hs2 : (twoF s).stack.length ≤ 16 := Nat.le_trans (popF_len _) (Nat.le_trans (popF_len s) hs)
  clear h h1 hbk
  go_enter Try.func20, Try.ntmps20
  go_upto_region 1 with fail
  rw [show w.alloc (.cells #[.int .i64 8, .int .i64 a] 60) = w1 from hw1.symm, ← hbkn]
  clear hw1 hbkn
  go_wp2_with fail
  refine (reckon_any c w0 wb w1 mb s 8 HM.out hs (by simp)).mono ?_
  rintro e w2 ⟨rfl, h2⟩
  have H2 := Lib.hid h2
  clear h2
  go_wp2_with fail
  refine (push1 _ H2.out hs2).mono ?_
  rintro e w3 ⟨rfl, h3⟩
  go_wp2
  go_end0
  exact ⟨rfl, h3⟩

set_option maxRecDepth 100000 in
set_option maxHeartbeats 1000000 in
theorem step_9 (c : Env) (w0 wb w : World) (mb : Nat) (s : St) (a : Int) (h : M c w0 wb mb s w) (hs : s.stack.length ≤ 16) :
    Calls Try.prog 20 #[mp mb, ins 9 a] w fun e w' => e = .returned (.tuple #[]) ∧ M c w0 wb mb (pushF [reckonV 9 (twoX s) (twoY s)] (twoF s)) w' := by
  obtain ⟨w1, bk, hw1, hbkn, h1, hbk⟩ := h.boxed 9 a
  have q0 := hbk.cell 0
  have q1 := hbk.cell 1
  simp at q0 q1
  have HM := Lib.hid h1
  have HBK := Lib.hid hbk
  have hs2 : (twoF s).stack.length ≤ 16 := Nat.le_trans (popF_len _) (Nat.le_trans (popF_len s) hs)
  clear h h1 hbk
  go_enter Try.func20, Try.ntmps20
  go_upto_region 1 with fail
  rw [show w.alloc (.cells #[.int .i64 9, .int .i64 a] 60) = w1 from hw1.symm, ← hbkn]
  clear hw1 hbkn
  go_wp2_with fail
  refine (reckon_any c w0 wb w1 mb s 9 HM.out hs (by simp)).mono ?_
  rintro e w2 ⟨rfl, h2⟩
  have H2 := Lib.hid h2
  clear h2
  go_wp2_with fail
  refine (push1 _ H2.out hs2).mono ?_
  rintro e w3 ⟨rfl, h3⟩
  go_wp2
  go_end0
  exact ⟨rfl, h3⟩

set_option maxRecDepth 100000 in
set_option maxHeartbeats 1000000 in
theorem step_10 (c : Env) (w0 wb w : World) (mb : Nat) (s : St) (a : Int) (h : M c w0 wb mb s w) (hs : s.stack.length ≤ 16) :
    Calls Try.prog 20 #[mp mb, ins 10 a] w fun e w' => e = .returned (.tuple #[]) ∧ M c w0 wb mb (pushF [reckonV 10 (twoX s) (twoY s)] (twoF s)) w' := by
  obtain ⟨w1, bk, hw1, hbkn, h1, hbk⟩ := h.boxed 10 a
  have q0 := hbk.cell 0
  have q1 := hbk.cell 1
  simp at q0 q1
  have HM := Lib.hid h1
  have HBK := Lib.hid hbk
  have hs2 : (twoF s).stack.length ≤ 16 := Nat.le_trans (popF_len _) (Nat.le_trans (popF_len s) hs)
  clear h h1 hbk
  go_enter Try.func20, Try.ntmps20
  go_upto_region 1 with fail
  rw [show w.alloc (.cells #[.int .i64 10, .int .i64 a] 60) = w1 from hw1.symm, ← hbkn]
  clear hw1 hbkn
  go_wp2_with fail
  refine (reckon_any c w0 wb w1 mb s 10 HM.out hs (by simp)).mono ?_
  rintro e w2 ⟨rfl, h2⟩
  have H2 := Lib.hid h2
  clear h2
  go_wp2_with fail
  refine (push1 _ H2.out hs2).mono ?_
  rintro e w3 ⟨rfl, h3⟩
  go_wp2
  go_end0
  exact ⟨rfl, h3⟩

set_option maxRecDepth 100000 in
set_option maxHeartbeats 1000000 in
theorem step_11 (c : Env) (w0 wb w : World) (mb : Nat) (s : St) (a : Int) (h : M c w0 wb mb s w) (hs : s.stack.length ≤ 16) :
    Calls Try.prog 20 #[mp mb, ins 11 a] w fun e w' => e = .returned (.tuple #[]) ∧ M c w0 wb mb (pushF [truth (popV s == 0)] (popF s)) w' := by
  obtain ⟨w1, bk, hw1, hbkn, h1, hbk⟩ := h.boxed 11 a
  have q0 := hbk.cell 0
  have q1 := hbk.cell 1
  simp at q0 q1
  have HM := Lib.hid h1
  have HBK := Lib.hid hbk
  have hs1 : (popF s).stack.length ≤ 16 := Nat.le_trans (popF_len s) hs
  clear h h1 hbk
  go_enter Try.func20, Try.ntmps20
  go_upto_region 1 with fail
  rw [show w.alloc (.cells #[.int .i64 11, .int .i64 a] 60) = w1 from hw1.symm, ← hbkn]
  clear hw1 hbkn
  go_wp2_with fail
  refine (pop_any c w0 wb w1 mb s HM.out hs).mono ?_
  rintro e w2 ⟨rfl, h2⟩
  have H2 := Lib.hid h2
  clear h2
  go_wp2_with fail
  refine (truth_any _ _).mono ?_
  rintro e w' ⟨rfl, rfl⟩
  go_wp2_with fail
  refine (push1 _ H2.out hs1).mono ?_
  rintro e w3 ⟨rfl, h3⟩
  go_wp2
  go_end0
  exact ⟨rfl, h3⟩

set_option maxRecDepth 100000 in
set_option maxHeartbeats 1000000 in
theorem step_12 (c : Env) (w0 wb w : World) (mb : Nat) (s : St) (a : Int) (h : M c w0 wb mb s w) (hs : s.stack.length ≤ 16) :
    Calls Try.prog 20 #[mp mb, ins 12 a] w fun e w' => e = .returned (.tuple #[]) ∧ M c w0 wb mb (pushF [popV s, popV s] (popF s)) w' := by
  obtain ⟨w1, bk, hw1, hbkn, h1, hbk⟩ := h.boxed 12 a
  have q0 := hbk.cell 0
  have q1 := hbk.cell 1
  simp at q0 q1
  have HM := Lib.hid h1
  have HBK := Lib.hid hbk
  have hs1 : (popF s).stack.length ≤ 16 := Nat.le_trans (popF_len s) hs
  clear h h1 hbk
  go_enter Try.func20, Try.ntmps20
  go_upto_region 1 with fail
  rw [show w.alloc (.cells #[.int .i64 12, .int .i64 a] 60) = w1 from hw1.symm, ← hbkn]
  clear hw1 hbkn
  go_wp2_with fail
  refine (pop_any c w0 wb w1 mb s HM.out hs).mono ?_
  rintro e w2 ⟨rfl, h2⟩
  have H2 := Lib.hid h2
  clear h2
  go_wp2_with fail
  refine (push2 _ _ H2.out hs1).mono ?_
  rintro e w3 ⟨rfl, h3⟩
  go_wp2
  go_end0
  exact ⟨rfl, h3⟩

set_option maxRecDepth 100000 in
set_option maxHeartbeats 1000000 in
theorem step_13 (c : Env) (w0 wb w : World) (mb : Nat) (s : St) (a : Int) (h : M c w0 wb mb s w) (hs : s.stack.length ≤ 16) :
    Calls Try.prog 20 #[mp mb, ins 13 a] w fun e w' => e = .returned (.tuple #[]) ∧ M c w0 wb mb (popF s) w' := by
  obtain ⟨w1, bk, hw1, hbkn, h1, hbk⟩ := h.boxed 13 a
  have q0 := hbk.cell 0
  have q1 := hbk.cell 1
  simp at q0 q1
  have HM := Lib.hid h1
  have HBK := Lib.hid hbk
  clear h h1 hbk
  go_enter Try.func20, Try.ntmps20
  go_upto_region 1 with fail
  rw [show w.alloc (.cells #[.int .i64 13, .int .i64 a] 60) = w1 from hw1.symm, ← hbkn]
  clear hw1 hbkn
  go_wp2_with fail
  refine (pop_any c w0 wb w1 mb s HM.out hs).mono ?_
  rintro e w2 ⟨rfl, h2⟩
  go_wp2
  go_end0
  exact ⟨rfl, h2⟩

set_option maxRecDepth 100000 in
set_option maxHeartbeats 1000000 in
theorem step_14 (c : Env) (w0 wb w : World) (mb : Nat) (s : St) (a : Int) (h : M c w0 wb mb s w) (hs : s.stack.length ≤ 16) :
    Calls Try.prog 20 #[mp mb, ins 14 a] w fun e w' => e = .returned (.tuple #[]) ∧ M c w0 wb mb (pushF [twoY s, twoX s] (twoF s)) w' := by
  obtain ⟨w1, bk, hw1, hbkn, h1, hbk⟩ := h.boxed 14 a
  have q0 := hbk.cell 0
  have q1 := hbk.cell 1
  simp at q0 q1
  have HM := Lib.hid h1
  have HBK := Lib.hid hbk
  have hs2 : (twoF s).stack.length ≤ 16 := Nat.le_trans (popF_len _) (Nat.le_trans (popF_len s) hs)
  clear h h1 hbk
  go_enter Try.func20, Try.ntmps20
  go_upto_region 1 with fail
  rw [show w.alloc (.cells #[.int .i64 14, .int .i64 a] 60) = w1 from hw1.symm, ← hbkn]
  clear hw1 hbkn
  go_wp2_with fail
  refine (two_any c w0 wb w1 mb s HM.out hs).mono ?_
  rintro e w2 ⟨rfl, h2⟩
  have H2 := Lib.hid h2
  clear h2
  go_wp2_with fail
  refine (push2 _ _ H2.out hs2).mono ?_
  rintro e w3 ⟨rfl, h3⟩
  go_wp2
  go_end0
  exact ⟨rfl, h3⟩

set_option maxRecDepth 100000 in
set_option maxHeartbeats 1000000 in
theorem step_15 (c : Env) (w0 wb w : World) (mb : Nat) (s : St) (a : Int) (h : M c w0 wb mb s w) :
    Calls Try.prog 20 #[mp mb, ins 15 a] w fun e w' => e = .returned (.tuple #[]) ∧ M c w0 wb mb ({ s with at_ := a }) w' := by
  obtain ⟨w1, bk, hw1, hbkn, h1, hbk⟩ := h.boxed 15 a
  have q0 := hbk.cell 0
  have q1 := hbk.cell 1
  simp at q0 q1
  have HM := Lib.hid h1
  have HBK := Lib.hid hbk
  obtain ⟨sv, ev, sn, tv, hb, hr, hm⟩ := HM.out
  have c7 := hb.cell 7
  have f7 := hb.free 7
  simp [cellsOf] at c7
  have HF := Lib.hid (show M c w0 wb mb { s with at_ := a } (w1.setCell ⟨mb, 7, none⟩ (.int .i64 a)) from ⟨sv, ev, sn, tv, by simpa [cellsOf] using hb.set 7 (.int .i64 a), hr.put hb hm _ _, hm⟩)
  clear h h1 hbk hb hr
  go_enter Try.func20, Try.ntmps20
  go_upto_region 1 with fail
  rw [show w.alloc (.cells #[.int .i64 15, .int .i64 a] 60) = w1 from hw1.symm, ← hbkn]
  clear hw1 hbkn
  go_wp2
  go_end0
  exact ⟨rfl, HF.out⟩

set_option maxRecDepth 100000 in
set_option maxHeartbeats 1000000 in
theorem step_21 (c : Env) (w0 wb w : World) (mb : Nat) (s : St) (a : Int) (h : M c w0 wb mb s w) :
    Calls Try.prog 20 #[mp mb, ins 21 a] w fun e w' => e = .returned (.tuple #[]) ∧ M c w0 wb mb (refuseF true s) w' := by
  obtain ⟨w1, bk, hw1, hbkn, h1, hbk⟩ := h.boxed 21 a
  have q0 := hbk.cell 0
  have q1 := hbk.cell 1
  simp at q0 q1
  have HM := Lib.hid h1
  have HBK := Lib.hid hbk
  clear h h1 hbk
  go_enter Try.func20, Try.ntmps20
  go_upto_region 1 with fail
  rw [show w.alloc (.cells #[.int .i64 21, .int .i64 a] 60) = w1 from hw1.symm, ← hbkn]
  clear hw1 hbkn
  go_wp2_with fail
  refine (refuse_any c w0 wb w1 mb s true HM.out).mono ?_
  rintro e w2 ⟨rfl, h2⟩
  go_wp2
  go_end0
  exact ⟨rfl, h2⟩
end Go.Proofs.Ytmmbigfeojfedaa

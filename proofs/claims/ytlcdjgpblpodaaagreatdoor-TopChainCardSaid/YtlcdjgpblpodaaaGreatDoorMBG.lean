/- IpStep1, IpStep2, IpStep3, IpOut2, IpStep4 -/
import Derived.Test.YtlcdjgpblpodaaaGreatDoorMBF
import Derived.Test.YtlcdjgpblpodaaaGreatDoorMBA
import Derived.Deep.QuietTactic
import Derived.BigQuiet
import Derived.Deep.RegionLaw
import Derived.BigRegion
namespace Go.Proofs.YtlcdjgpblpodaaaGreatDoor.Ip
open Go.RowKit Go.Proofs.YtlcdjgpblpodaaaGreatDoorW.PrintWords

set_option maxRecDepth 100000 in
set_option maxHeartbeats 1000000 in
theorem step_5 (c : Env) (w0 wb w : World) (mb : Nat) (s : St) (a : Int) (h : M c w0 wb mb s w) (hs : s.stack.length ≤ 16) :
    Calls Tryz.prog 171 #[mp mb, ins 5 a] w fun e w' => e = .returned (.tuple #[]) ∧ M c w0 wb mb (pushF [c.kind] s) w' := by
  obtain ⟨w1, bk, hw1, hbkn, h1, hbk⟩ := h.boxed 5 a
  have q0 := hbk.cell 0
  have q1 := hbk.cell 1
  simp at q0 q1
  have HM := Lib.hid h1
  have HBK := Lib.hid hbk
  obtain ⟨sv, ev, sn, tv, hb, hr, hm⟩ := HM.out
  have c4 := hb.cell 4
  simp [cellsOf] at c4
  clear hb hr
  clear h h1 hbk
  go_enter Tryz.func171, Tryz.ntmps171
  go_upto_region 1 with fail
  rw [show w.alloc (.cells #[.int .i64 5, .int .i64 a] 51) = w1 from hw1.symm, ← hbkn]
  clear hw1 hbkn
  go_wp2_with fail
  refine (push1 c.kind HM.out hs).mono ?_
  rintro e w2 ⟨rfl, h2⟩
  go_wp2
  go_end0
  exact ⟨rfl, h2⟩

set_option maxRecDepth 100000 in
set_option maxHeartbeats 1000000 in
theorem step_22 (c : Env) (w0 wb w : World) (mb : Nat) (s : St) (a : Int) (h : M c w0 wb mb s w) (hs : s.stack.length ≤ 16) :
    Calls Tryz.prog 171 #[mp mb, ins 22 a] w fun e w' => e = .returned (.tuple #[]) ∧ M c w0 wb mb (pushF [c.now] s) w' := by
  obtain ⟨w1, bk, hw1, hbkn, h1, hbk⟩ := h.boxed 22 a
  have q0 := hbk.cell 0
  have q1 := hbk.cell 1
  simp at q0 q1
  have HM := Lib.hid h1
  have HBK := Lib.hid hbk
  obtain ⟨sv, ev, sn, tv, hb, hr, hm⟩ := HM.out
  have c6 := hb.cell 6
  simp [cellsOf] at c6
  clear hb hr
  clear h h1 hbk
  go_enter Tryz.func171, Tryz.ntmps171
  go_upto_region 1 with fail
  rw [show w.alloc (.cells #[.int .i64 22, .int .i64 a] 51) = w1 from hw1.symm, ← hbkn]
  clear hw1 hbkn
  go_wp2_with fail
  refine (push1 c.now HM.out hs).mono ?_
  rintro e w2 ⟨rfl, h2⟩
  go_wp2
  go_end0
  exact ⟨rfl, h2⟩

set_option maxRecDepth 100000 in
set_option maxHeartbeats 1000000 in
theorem step_23 (c : Env) (w0 wb w : World) (mb : Nat) (s : St) (a : Int) (h : M c w0 wb mb s w) (hs : s.stack.length ≤ 16) :
    Calls Tryz.prog 171 #[mp mb, ins 23 a] w fun e w' => e = .returned (.tuple #[]) ∧ M c w0 wb mb (pushF [wrap64 c.serial] s) w' := by
  obtain ⟨w1, bk, hw1, hbkn, h1, hbk⟩ := h.boxed 23 a
  have q0 := hbk.cell 0
  have q1 := hbk.cell 1
  simp at q0 q1
  have HM := Lib.hid h1
  have HBK := Lib.hid hbk
  obtain ⟨sv, ev, sn, tv, hb, hr, hm⟩ := HM.out
  have c3 := hb.cell 3
  simp [cellsOf] at c3
  clear hb hr
  clear h h1 hbk
  go_enter Tryz.func171, Tryz.ntmps171
  go_upto_region 1 with fail
  rw [show w.alloc (.cells #[.int .i64 23, .int .i64 a] 51) = w1 from hw1.symm, ← hbkn]
  clear hw1 hbkn
  go_wp2_with fail
  refine (push1 (wrap64 c.serial) HM.out hs).mono ?_
  rintro e w2 ⟨rfl, h2⟩
  go_wp2
  go_end0
  exact ⟨rfl, h2⟩

set_option maxRecDepth 100000 in
set_option maxHeartbeats 1000000 in
theorem step_6 (c : Env) (w0 wb w : World) (mb : Nat) (s : St) (a : Int) (h : M c w0 wb mb s w) (hs : s.stack.length ≤ 16) :
    Calls Tryz.prog 171 #[mp mb, ins 6 a] w fun e w' => e = .returned (.tuple #[]) ∧ M c w0 wb mb (pushF [reckonV 6 (twoX s) (twoY s)] (twoF s)) w' := by
  obtain ⟨w1, bk, hw1, hbkn, h1, hbk⟩ := h.boxed 6 a
  have q0 := hbk.cell 0
  have q1 := hbk.cell 1
  simp at q0 q1
  have HM := Lib.hid h1
  have HBK := Lib.hid hbk
  have hs2 : (twoF s).stack.length ≤ 16 := Nat.le_trans (popF_len _) (Nat.le_trans (popF_len s) hs)
  clear h h1 hbk
  go_enter Tryz.func171, Tryz.ntmps171
  go_upto_region 1 with fail
  rw [show w.alloc (.cells #[.int .i64 6, .int .i64 a] 51) = w1 from hw1.symm, ← hbkn]
  clear hw1 hbkn
  go_wp2_with fail
  refine (reckon_any c w0 wb w1 mb s 6 HM.out hs (by simp)).mono ?_
  rintro e w2 ⟨rfl, h2⟩
  have H2 := Lib.hid h2
  clear h2
  go_wp2_with fail
  refine (push1 _ H2.out hs2).mono ?_
  rintro e w3 ⟨rfl, h3⟩
  go_wp2
  go_end0
  exact ⟨rfl, h3⟩

set_option maxRecDepth 100000 in
set_option maxHeartbeats 1000000 in
theorem step_7 (c : Env) (w0 wb w : World) (mb : Nat) (s : St) (a : Int) (h : M c w0 wb mb s w) (hs : s.stack.length ≤ 16) :
    Calls Tryz.prog 171 #[mp mb, ins 7 a] w fun e w' => e = .returned (.tuple #[]) ∧ M c w0 wb mb (pushF [reckonV 7 (twoX s) (twoY s)] (twoF s)) w' := by
  obtain ⟨w1, bk, hw1, hbkn, h1, hbk⟩ := h.boxed 7 a
  have q0 := hbk.cell 0
  have q1 := hbk.cell 1
  simp at q0 q1
  have HM := Lib.hid h1
  have HBK := Lib.hid hbk
  have hs2 : (twoF s).stack.length ≤ 16 := Nat.le_trans (popF_len _) (Nat.le_trans (popF_len s) hs)
  clear h h1 hbk
  go_enter Tryz.func171, Tryz.ntmps171
  go_upto_region 1 with fail
  rw [show w.alloc (.cells #[.int .i64 7, .int .i64 a] 51) = w1 from hw1.symm, ← hbkn]
  clear hw1 hbkn
  go_wp2_with fail
  refine (reckon_any c w0 wb w1 mb s 7 HM.out hs (by simp)).mono ?_
  rintro e w2 ⟨rfl, h2⟩
  have H2 := Lib.hid h2
  clear h2
  go_wp2_with fail
  refine (push1 _ H2.out hs2).mono ?_
  rintro e w3 ⟨rfl, h3⟩
  go_wp2
  go_end0
  exact ⟨rfl, h3⟩

set_option maxRecDepth 100000 in
set_option maxHeartbeats 1000000 in
theorem step_8 (c : Env) (w0 wb w : World) (mb : Nat) (s : St) (a : Int) (h : M c w0 wb mb s w) (hs : s.stack.length ≤ 16) :
    Calls Tryz.prog 171 #[mp mb, ins 8 a] w fun e w' => e = .returned (.tuple #[]) ∧ M c w0 wb mb (pushF [reckonV 8 (twoX s) (twoY s)] (twoF s)) w' := by
  obtain ⟨w1, bk, hw1, hbkn, h1, hbk⟩ := h.boxed 8 a
  have q0 := hbk.cell 0
  have q1 := hbk.cell 1
  simp at q0 q1
  have HM := Lib.hid h1
  have HBK := Lib.hid hbk
  have hs2 : (twoF s).stack.length ≤ 16 := Nat.le_trans (popF_len _) (Nat.le_trans (popF_len s) hs)
  clear h h1 hbk
  go_enter Tryz.func171, Tryz.ntmps171
  go_upto_region 1 with fail
  rw [show w.alloc (.cells #[.int .i64 8, .int .i64 a] 51) = w1 from hw1.symm, ← hbkn]
  clear hw1 hbkn
  go_wp2_with fail
  refine (reckon_any c w0 wb w1 mb s 8 HM.out hs (by simp)).mono ?_
  rintro e w2 ⟨rfl, h2⟩
  have H2 := Lib.hid h2
  clear h2
  go_wp2_with fail
  refine (push1 _ H2.out hs2).mono ?_
  rintro e w3 ⟨rfl, h3⟩
  go_wp2
  go_end0
  exact ⟨rfl, h3⟩

set_option maxRecDepth 100000 in
set_option maxHeartbeats 1000000 in
theorem step_9 (c : Env) (w0 wb w : World) (mb : Nat) (s : St) (a : Int) (h : M c w0 wb mb s w) (hs : s.stack.length ≤ 16) :
    Calls Tryz.prog 171 #[mp mb, ins 9 a] w fun e w' => e = .returned (.tuple #[]) ∧ M c w0 wb mb (pushF [reckonV 9 (twoX s) (twoY s)] (twoF s)) w' := by
  obtain ⟨w1, bk, hw1, hbkn, h1, hbk⟩ := h.boxed 9 a
  have q0 := hbk.cell 0
  have q1 := hbk.cell 1
  simp at q0 q1
  have HM := Lib.hid h1
  have HBK := Lib.hid hbk
  have hs2 : (twoF s).stack.length ≤ 16 := Nat.le_trans (popF_len _) (Nat.le_trans (popF_len s) hs)
  clear h h1 hbk
  go_enter Tryz.func171, Tryz.ntmps171
  go_upto_region 1 with fail
  rw [show w.alloc (.cells #[.int .i64 9, .int .i64 a] 51) = w1 from hw1.symm, ← hbkn]
  clear hw1 hbkn
  go_wp2_with fail
  refine (reckon_any c w0 wb w1 mb s 9 HM.out hs (by simp)).mono ?_
  rintro e w2 ⟨rfl, h2⟩
  have H2 := Lib.hid h2
  clear h2
  go_wp2_with fail
  refine (push1 _ H2.out hs2).mono ?_
  rintro e w3 ⟨rfl, h3⟩
  go_wp2
  go_end0
  exact ⟨rfl, h3⟩

set_option maxRecDepth 100000 in
set_option maxHeartbeats 1000000 in
theorem step_10 (c : Env) (w0 wb w : World) (mb : Nat) (s : St) (a : Int) (h : M c w0 wb mb s w) (hs : s.stack.length ≤ 16) :
    Calls Tryz.prog 171 #[mp mb, ins 10 a] w fun e w' => e = .returned (.tuple #[]) ∧ M c w0 wb mb (pushF [reckonV 10 (twoX s) (twoY s)] (twoF s)) w' := by
  obtain ⟨w1, bk, hw1, hbkn, h1, hbk⟩ := h.boxed 10 a
  have q0 := hbk.cell 0
  have q1 := hbk.cell 1
  simp at q0 q1
  have HM := Lib.hid h1
  have HBK := Lib.hid hbk
  have hs2 : (twoF s).stack.length ≤ 16 := Nat.le_trans (popF_len _) (Nat.le_trans (popF_len s) hs)
  clear h h1 hbk
  go_enter Tryz.func171, Tryz.ntmps171
  go_upto_region 1 with fail
  rw [show w.alloc (.cells #[.int .i64 10, .int .i64 a] 51) = w1 from hw1.symm, ← hbkn]
  clear hw1 hbkn
  go_wp2_with fail
  refine (reckon_any c w0 wb w1 mb s 10 HM.out hs (by simp)).mono ?_
  rintro e w2 ⟨rfl, h2⟩
  have H2 := Lib.hid h2
  clear h2
  go_wp2_with fail
  refine (push1 _ H2.out hs2).mono ?_
  rintro e w3 ⟨rfl, h3⟩
  go_wp2
  go_end0
  exact ⟨rfl, h3⟩

set_option maxRecDepth 100000 in
set_option maxHeartbeats 1000000 in
theorem step_11 (c : Env) (w0 wb w : World) (mb : Nat) (s : St) (a : Int) (h : M c w0 wb mb s w) (hs : s.stack.length ≤ 16) :
    Calls Tryz.prog 171 #[mp mb, ins 11 a] w fun e w' => e = .returned (.tuple #[]) ∧ M c w0 wb mb (pushF [truth (popV s == 0)] (popF s)) w' := by
  obtain ⟨w1, bk, hw1, hbkn, h1, hbk⟩ := h.boxed 11 a
  have q0 := hbk.cell 0
  have q1 := hbk.cell 1
  simp at q0 q1
  have HM := Lib.hid h1
  have HBK := Lib.hid hbk
  have hs1 : (popF s).stack.length ≤ 16 := Nat.le_trans (popF_len s) hs
  clear h h1 hbk
  go_enter Tryz.func171, Tryz.ntmps171
  go_upto_region 1 with fail
  rw [show w.alloc (.cells #[.int .i64 11, .int .i64 a] 51) = w1 from hw1.symm, ← hbkn]
  clear hw1 hbkn
  go_wp2_with fail
  refine (pop_any c w0 wb w1 mb s HM.out hs).mono ?_
  rintro e w2 ⟨rfl, h2⟩
  have H2 := Lib.hid h2
  clear h2
  go_wp2_with fail
  refine (truth_any _ _).mono ?_
  rintro e w' ⟨rfl, rfl⟩
  go_wp2_with fail
  refine (push1 _ H2.out hs1).mono ?_
  rintro e w3 ⟨rfl, h3⟩
  go_wp2
  go_end0
  exact ⟨rfl, h3⟩

set_option maxRecDepth 100000 in
set_option maxHeartbeats 1000000 in
theorem step_12 (c : Env) (w0 wb w : World) (mb : Nat) (s : St) (a : Int) (h : M c w0 wb mb s w) (hs : s.stack.length ≤ 16) :
    Calls Tryz.prog 171 #[mp mb, ins 12 a] w fun e w' => e = .returned (.tuple #[]) ∧ M c w0 wb mb (pushF [popV s, popV s] (popF s)) w' := by
  obtain ⟨w1, bk, hw1, hbkn, h1, hbk⟩ := h.boxed 12 a
  have q0 := hbk.cell 0
  have q1 := hbk.cell 1
  simp at q0 q1
  have HM := Lib.hid h1
  have HBK := Lib.hid hbk
  have hs1 : (popF s).stack.length ≤ 16 := Nat.le_trans (popF_len s) hs
  clear h h1 hbk
  go_enter Tryz.func171, Tryz.ntmps171
  go_upto_region 1 with fail
  rw [show w.alloc (.cells #[.int .i64 12, .int .i64 a] 51) = w1 from hw1.symm, ← hbkn]
  clear hw1 hbkn
  go_wp2_with fail
  refine (pop_any c w0 wb w1 mb s HM.out hs).mono ?_
  rintro e w2 ⟨rfl, h2⟩
  have H2 := Lib.hid h2
  clear h2
  go_wp2_with fail
  refine (push2 _ _ H2.out hs1).mono ?_
  rintro e w3 ⟨rfl, h3⟩
  go_wp2
  go_end0
  exact ⟨rfl, h3⟩

set_option maxRecDepth 100000 in
set_option maxHeartbeats 1000000 in
theorem step_13 (c : Env) (w0 wb w : World) (mb : Nat) (s : St) (a : Int) (h : M c w0 wb mb s w) (hs : s.stack.length ≤ 16) :
    Calls Tryz.prog 171 #[mp mb, ins 13 a] w fun e w' => e = .returned (.tuple #[]) ∧ M c w0 wb mb (popF s) w' := by
  obtain ⟨w1, bk, hw1, hbkn, h1, hbk⟩ := h.boxed 13 a
  have q0 := hbk.cell 0
  have q1 := hbk.cell 1
  simp at q0 q1
  have HM := Lib.hid h1
  have HBK := Lib.hid hbk
  clear h h1 hbk
  go_enter Tryz.func171, Tryz.ntmps171
  go_upto_region 1 with fail
  rw [show w.alloc (.cells #[.int .i64 13, .int .i64 a] 51) = w1 from hw1.symm, ← hbkn]
  clear hw1 hbkn
  go_wp2_with fail
  refine (pop_any c w0 wb w1 mb s HM.out hs).mono ?_
  rintro e w2 ⟨rfl, h2⟩
  go_wp2
  go_end0
  exact ⟨rfl, h2⟩

set_option maxRecDepth 100000 in
set_option maxHeartbeats 1000000 in
theorem step_14 (c : Env) (w0 wb w : World) (mb : Nat) (s : St) (a : Int) (h : M c w0 wb mb s w) (hs : s.stack.length ≤ 16) :
    Calls Tryz.prog 171 #[mp mb, ins 14 a] w fun e w' => e = .returned (.tuple #[]) ∧ M c w0 wb mb (pushF [twoY s, twoX s] (twoF s)) w' := by
  obtain ⟨w1, bk, hw1, hbkn, h1, hbk⟩ := h.boxed 14 a
  have q0 := hbk.cell 0
  have q1 := hbk.cell 1
  simp at q0 q1
  have HM := Lib.hid h1
  have HBK := Lib.hid hbk
  have hs2 : (twoF s).stack.length ≤ 16 := Nat.le_trans (popF_len _) (Nat.le_trans (popF_len s) hs)
  clear h h1 hbk
  go_enter Tryz.func171, Tryz.ntmps171
  go_upto_region 1 with fail
  rw [show w.alloc (.cells #[.int .i64 14, .int .i64 a] 51) = w1 from hw1.symm, ← hbkn]
  clear hw1 hbkn
  go_wp2_with fail
  refine (two_any c w0 wb w1 mb s HM.out hs).mono ?_
  rintro e w2 ⟨rfl, h2⟩
  have H2 := Lib.hid h2
  clear h2
  go_wp2_with fail
  refine (push2 _ _ H2.out hs2).mono ?_
  rintro e w3 ⟨rfl, h3⟩
  go_wp2
  go_end0
  exact ⟨rfl, h3⟩

set_option maxRecDepth 100000 in
set_option maxHeartbeats 1000000 in
theorem step_15 (c : Env) (w0 wb w : World) (mb : Nat) (s : St) (a : Int) (h : M c w0 wb mb s w) :
    Calls Tryz.prog 171 #[mp mb, ins 15 a] w fun e w' => e = .returned (.tuple #[]) ∧ M c w0 wb mb ({ s with at_ := a }) w' := by
  obtain ⟨w1, bk, hw1, hbkn, h1, hbk⟩ := h.boxed 15 a
  have q0 := hbk.cell 0
  have q1 := hbk.cell 1
  simp at q0 q1
  have HM := Lib.hid h1
  have HBK := Lib.hid hbk
  obtain ⟨sv, ev, sn, tv, hb, hr, hm⟩ := HM.out
  have c7 := hb.cell 7
  have f7 := hb.free 7
  simp [cellsOf] at c7
  have HF := Lib.hid (show M c w0 wb mb { s with at_ := a } (w1.setCell ⟨mb, 7, none⟩ (.int .i64 a)) from ⟨sv, ev, sn, tv, by simpa [cellsOf] using hb.set 7 (.int .i64 a), hr.put hb hm _ _, hm⟩)
  clear h h1 hbk hb hr
  go_enter Tryz.func171, Tryz.ntmps171
  go_upto_region 1 with fail
  rw [show w.alloc (.cells #[.int .i64 15, .int .i64 a] 51) = w1 from hw1.symm, ← hbkn]
  clear hw1 hbkn
  go_wp2
  go_end0
  exact ⟨rfl, HF.out⟩

set_option maxRecDepth 100000 in
set_option maxHeartbeats 1000000 in
theorem step_21 (c : Env) (w0 wb w : World) (mb : Nat) (s : St) (a : Int) (h : M c w0 wb mb s w) :
    Calls Tryz.prog 171 #[mp mb, ins 21 a] w fun e w' => e = .returned (.tuple #[]) ∧ M c w0 wb mb (refuseF true s) w' := by
  obtain ⟨w1, bk, hw1, hbkn, h1, hbk⟩ := h.boxed 21 a
  have q0 := hbk.cell 0
  have q1 := hbk.cell 1
  simp at q0 q1
  have HM := Lib.hid h1
  have HBK := Lib.hid hbk
  clear h h1 hbk
  go_enter Tryz.func171, Tryz.ntmps171
  go_upto_region 1 with fail
  rw [show w.alloc (.cells #[.int .i64 21, .int .i64 a] 51) = w1 from hw1.symm, ← hbkn]
  clear hw1 hbkn
  go_wp2_with fail
  refine (refuse_any c w0 wb w1 mb s true HM.out).mono ?_
  rintro e w2 ⟨rfl, h2⟩
  go_wp2
  go_end0
  exact ⟨rfl, h2⟩
end Go.Proofs.YtlcdjgpblpodaaaGreatDoor.Ip
namespace Go.Proofs.YtlcdjgpblpodaaaGreatDoor.Ip
open Go.RowKit Go.Proofs.YtlcdjgpblpodaaaGreatDoorW.PrintWords

set_option maxRecDepth 100000 in
set_option maxHeartbeats 1000000 in
theorem step_4 (c : Env) (w0 wb w : World) (mb : Nat) (s : St) (k : Nat) (hE : EnvOk c w0) (h : M c w0 wb mb s w) (hs : s.stack.length ≤ 16) :
    Calls Tryz.prog 171 #[mp mb, ins 4 (k : Int)] w fun e w' => e = .returned (.tuple #[]) ∧ M c w0 wb mb (pushF [c.AL.getD k 0] s) w' := by
  obtain ⟨w1, bk, hw1, hbkn, h1, hbk⟩ := h.boxed 4 (k : Int)
  have q0 := hbk.cell 0
  have q1 := hbk.cell 1
  simp at q0 q1
  have HM := Lib.hid h1
  have HBK := Lib.hid hbk
  obtain ⟨sv, ev, sn, tv, hb, hr, hm⟩ := HM.out
  have c5 := hb.cell 5
  simp [cellsOf] at c5
  clear hb hr
  have HE := Lib.hid hE
  have k0 : (0 : Int) ≤ (k : Int) := by omega
  have HX := Lib.hid (hm)
  obtain ⟨x, hx⟩ : ∃ x, x = c.AL.getD k 0 := ⟨_, rfl⟩
  rw [← hx]
  have hBl := HM.out.below
  have HBL := Lib.hid hBl
  have HXX := Lib.hid hx
  clear hBl hx
  clear h h1 hbk
  go_enter Tryz.func171, Tryz.ntmps171
  go_upto_region 1 with fail
  rw [show w.alloc (.cells #[.int .i64 4, .int .i64 (k : Int)] 51) = w1 from hw1.symm, ← hbkn]
  clear hw1 hbkn
  by_cases hlt : k < c.AL.length
  · obtain ⟨b, off, hA, hc⟩ := (HE.out.below HBL.out).arg hlt
    rw [← HXX.out] at hc
    rw [hA] at c5
    have k1 : (k : Int) < (c.AL.length : Int) := by omega
    have t0 : decide ((k : Int) < (c.AL.length : Int)) = true := decide_eq_true k1
    go_wp2_with fail
    go_quiet (fail)
    go_wp2_with fail
    go_quiet (fail)
    go_wp2_with fail
    refine (push1 x (HM.out.drewN _) hs).mono ?_
    rintro e w3 ⟨rfl, h3⟩
    go_wp2
    go_end0
    exact ⟨rfl, h3⟩
  · have hx0 : x = 0 := by rw [HXX.out]; simp [List.getD, List.getElem?_eq_none (by omega : c.AL.length ≤ k)]
    have k1 : ¬ (k : Int) < (c.AL.length : Int) := by omega
    have t0 : decide ((k : Int) < (c.AL.length : Int)) = false := decide_eq_false k1
    have HX0 := Lib.hid hx0
    clear hx0
    go_wp2_with fail
    go_quiet (fail)
    go_wp2_with fail
    refine (push1 0 (HM.out.drewN _) hs).mono ?_
    rintro e w3 ⟨rfl, h3⟩
    go_wp2
    go_end0
    rw [HX0.out]
    exact ⟨rfl, h3⟩

set_option maxRecDepth 100000 in
set_option maxHeartbeats 1000000 in
theorem step_16 (c : Env) (w0 wb w : World) (mb : Nat) (s : St) (a : Int) (h : M c w0 wb mb s w) (hs : s.stack.length ≤ 16) :
    Calls Tryz.prog 171 #[mp mb, ins 16 a] w fun e w' => e = .returned (.tuple #[]) ∧ M c w0 wb mb (if popV s = 0 ∧ (popF s).failed = 0 then { popF s with at_ := a } else popF s) w' := by
  obtain ⟨w1, bk, hw1, hbkn, h1, hbk⟩ := h.boxed 16 a
  have q0 := hbk.cell 0
  have q1 := hbk.cell 1
  simp at q0 q1
  have HM := Lib.hid h1
  have HBK := Lib.hid hbk
  obtain ⟨x, hx⟩ : ∃ x, x = popV s := ⟨_, rfl⟩
  obtain ⟨s1, hs1⟩ : ∃ s1, s1 = popF s := ⟨_, rfl⟩
  have HP := Lib.hid (pop_any c w0 w1 w1 mb s h1.here hs)
  rw [← hx, ← hs1] at HP
  rw [← hx, ← hs1]
  obtain ⟨R, hR⟩ : ∃ r, r = if x = 0 ∧ s1.failed = 0 then { s1 with at_ := a } else s1 := ⟨_, rfl⟩
  rw [← hR]
  clear hx hs1
  clear h h1 hbk
  go_enter Tryz.func171, Tryz.ntmps171
  go_upto_region 1 with fail
  rw [show w.alloc (.cells #[.int .i64 16, .int .i64 a] 51) = w1 from hw1.symm, ← hbkn]
  clear hw1 hbkn
  go_wp2_with fail
  refine HP.out.mono ?_
  rintro e w2 ⟨rfl, h2⟩
  have hbk2 := h2.stay.blk HBK.out (by decide)
  have p0 := hbk2.cell 0
  have p1 := hbk2.cell 1
  simp at p0 p1
  have H2 := Lib.hid (h2.rebase HM.out.stay)
  obtain ⟨sv, ev, sn, tv, hb, hr, hm⟩ := H2.out
  have c7 := hb.cell 7
  have c21 := hb.cell 21
  have f7 := hb.free 7
  simp [cellsOf] at c7 c21
  have HF := Lib.hid (show M c w0 wb mb { s1 with at_ := a } (w2.setCell ⟨mb, 7, none⟩ (.int .i64 a)) from ⟨sv, ev, sn, tv, by simpa [cellsOf] using hb.set 7 (.int .i64 a), hr.put hb hm _ _, hm⟩)
  have HR := Lib.hid hR
  clear h2 hbk2 hb hr q0 q1 hR
  by_cases hx0 : x = 0
  · have t0 : (x == 0) = true := by simp [hx0]
    by_cases hf : s1.failed = 0
    · have t1 : (s1.failed == 0) = true := by simp [hf]
      go_wp2
      go_end0
      rw [HR.out, if_pos ⟨hx0, hf⟩]
      exact ⟨rfl, HF.out⟩
    · have t1 : (s1.failed == 0) = false := by simp [hf]
      go_wp2
      go_end0
      rw [HR.out, if_neg (fun h => hf h.2)]
      exact ⟨rfl, H2.out⟩
  · have t0 : (x == 0) = false := by simp [hx0]
    go_wp2
    go_end0
    rw [HR.out, if_neg (fun h => hx0 h.1)]
    exact ⟨rfl, H2.out⟩
end Go.Proofs.YtlcdjgpblpodaaaGreatDoor.Ip
namespace Go.Proofs.YtlcdjgpblpodaaaGreatDoor.Ip
open Go.RowKit Go.Proofs.YtlcdjgpblpodaaaGreatDoorW.PrintWords

def tellF (k : Nat) (x : Int) (s : St) : St := { setReg s k x with ev := s.ev ++ [((k : Int), x)] }

theorem M.tell {c : Env} {w0 wb w w1 : World} {mb : Nat} {s : St} {sv ev sn tv v1 : Value} (r x : Int) (hb : Blk w mb (cellsOf c s sv ev sn tv) 327) (hr : Rws w0 wb w s.stack s.ev s.sent s.tm sv ev sn tv) (hm : w0.heap.size ≤ mb)
    (ho : w1.ownsRow w0.heap.size 146 2 v1 (s.ev.length + 1) (encE s.ev ++ [.int .i64 r, .int .i64 x])) (hg : w.grownBy w1 ev.ownBlock) (hB : Below w0.heap.size w0 w1) :
    Blk w1 mb (cellsOf c s sv ev sn tv) 327 ∧ M c w0 wb mb { s with ev := s.ev ++ [(r, x)] } (w1.setCell ⟨mb, 17, none⟩ v1) := by
  have hb1 := blk_grown hb hr.ev (by decide) hg
  have hr1 := hr.grow_ev (ev1 := s.ev ++ [(r, x)]) (by rw [encE_snoc, List.length_append]; exact ho) hg hB
  exact ⟨hb1, sv, v1, sn, tv, by simpa [cellsOf] using hb1.set 17 v1, hr1.put hb1 hm _ _, hm⟩

set_option maxRecDepth 100000 in
set_option maxHeartbeats 2000000 in
theorem step_3 (c : Env) (w0 wb w : World) (mb : Nat) (s : St) (k : Nat) (hk : k < 8) (hev : s.ev.length ≤ 1000) (h : M c w0 wb mb s w) (hs : s.stack.length ≤ 16) :
    Calls Tryz.prog 171 #[mp mb, ins 3 (k : Int)] w fun e w' => e = .returned (.tuple #[]) ∧ M c w0 wb mb (if (popF s).failed = 0 then tellF k (popV s) (popF s) else popF s) w' := by
  obtain ⟨w1, bk, hw1, hbkn, h1, hbk⟩ := h.boxed 3 (k : Int)
  have q0 := hbk.cell 0
  have q1 := hbk.cell 1
  simp at q0 q1
  have HM := Lib.hid h1
  have HBK := Lib.hid hbk
  have hev2 : (popF s).ev.length ≤ 1000 := by rw [popF_ev]; exact hev
  obtain ⟨x, hx⟩ : ∃ x, x = popV s := ⟨_, rfl⟩
  obtain ⟨s1, hs1⟩ : ∃ s1, s1 = popF s := ⟨_, rfl⟩
  have HP := Lib.hid (pop_any c w0 w1 w1 mb s h1.here hs)
  rw [← hx, ← hs1] at HP
  rw [← hs1] at hev2
  rw [← hx, ← hs1]
  obtain ⟨R, hR⟩ : ∃ r, r = if s1.failed = 0 then tellF k x s1 else s1 := ⟨_, rfl⟩
  rw [← hR]
  have HR := Lib.hid hR
  have k0 : (0 : Int) ≤ (k : Int) := by omega
  have k1 : (k : Int) < 8 := by omega
  clear h h1 hbk hR hx hs1 hev
  go_enter Tryz.func171, Tryz.ntmps171
  go_upto_region 1 with fail
  rw [show w.alloc (.cells #[.int .i64 3, .int .i64 (k : Int)] 51) = w1 from hw1.symm, ← hbkn]
  clear hw1 hbkn
  go_wp2_with fail
  refine HP.out.mono ?_
  rintro e w2 ⟨rfl, h2⟩
  have hbk2 := h2.stay.blk HBK.out (by decide)
  have H2 := Lib.hid (h2.rebase HM.out.stay)
  obtain ⟨sv, ev, sn, tv, hb, hr, hm⟩ := H2.out
  have c21 := hb.cell 21
  simp [cellsOf] at c21
  by_cases hf : s1.failed = 0
  · have hR2 := HR.out
    rw [if_pos hf] at hR2
    have HR2 := Lib.hid hR2
    have t0 : (s1.failed == 0) = true := by simp [hf]
    have ck := hb.cell (9 + k)
    rw [cells_reg hk] at ck
    have fk := hb.free (9 + k)
    have HBL := Lib.hid hb
    have HRW := Lib.hid hr
    have HB2 := Lib.hid hbk2
    have p0 := hbk2.cell 0
    have p1 := hbk2.cell 1
    simp at p0 p1
    clear h2 hbk2 hb hr q0 q1 hR2 HP HR
    go_upto_region 12 with fail
    go_cut [10] (fun _ wc => M c w0 wb mb (setReg s1 k x) wc ∧ Blk wc bk #[.int .i64 3, .int .i64 (k : Int)] 51)
    case first =>
      have HF := Lib.hid (show ∀ n, M c w0 wb mb (setReg s1 k x) ((w2.drewN n).setCell ⟨mb, 9 + k, none⟩ (.int .i64 x)) ∧ Blk ((w2.drewN n).setCell ⟨mb, 9 + k, none⟩ (.int .i64 x)) bk #[.int .i64 3, .int .i64 (k : Int)] 51 from fun n => ⟨⟨sv, ev, sn, tv, by rw [← cells_set x hk]; exact (HBL.out.drewN n).set (9 + k) (.int .i64 x), (HRW.out.drewN n).put (HBL.out.drewN n) hm _ _, hm⟩, (HB2.out.drewN n).other (by
        intro e1
        have e2 : bk = mb := e1
        have h3 := HB2.out
        have h4 := HBL.out
        unfold Blk at h3 h4
        rw [e2] at h3
        rw [h3] at h4
        injection h4 with h4
        injection h4 with _ h5 _
        exact absurd h5 (by decide)) _⟩)
      go_region
      go_wp2
      go_meet
      exact HF.out _
    obtain ⟨h3, hbk3⟩ := hcut
    have hl3 : (setReg s1 k x).ev.length ≤ 1000 := hev2
    obtain ⟨s2, hs2⟩ : ∃ s2, s2 = setReg s1 k x := ⟨_, rfl⟩
    have hR4 : R = { s2 with ev := s2.ev ++ [((k : Int), x)] } := by rw [HR2.out, hs2]; rfl
    have HR4 := Lib.hid hR4
    rw [← hs2] at h3 hl3
    clear hR4 hs2 HR2 HBL HRW HB2 p0 p1 ck fk c21 H2
    have p0 := hbk3.cell 0
    have p1 := hbk3.cell 1
    simp at p0 p1
    have hkl := hbk3.lt
    obtain ⟨sv3, ev3, sn3, tv3, hb3, hr3, hm3⟩ := h3
    obtain ⟨T, tc, rfl⟩ := own_slice hr3.ev
    have c17 := hb3.cell 17
    simp [cellsOf] at c17
    have hml := hb3.lt
    have HB := Lib.hid hb3
    have HR := Lib.hid hr3
    clear hb3 hr3 hbk3
    go_wp2
    go_region_law ((refine step_append_cells (w0 := w0) w0.heap.size (by rfl) (.tmp 62) (.tmp 67) 142 146 _ 2 16 (by rfl) Tryz.underlying142 info56 rfl (by omega) (by omega) _ s2.ev.length (encE s2.ev) [.int .i64 (k : Int), .int .i64 x] (by rfl) (by rfl) rfl (by simp [Value.oneCell']) (HR.out.drewN _).ev (HR.out.drewN _).below (HR.out.drewN _).below.size (by omega) ?_; intro v1 w4 ho hbl hg hat; obtain ⟨V, vn, rfl⟩ := own_slice ho; have HS := Lib.hid (M.tell (k : Int) x (HB.out.drewN _) (HR.out.drewN _) hm3 ho hg hbl); have f17 := HS.out.1.free 17; have e17 := HS.out.1.cell 17; simp [cellsOf] at e17; clear ho hbl hg hat))
    all_goals
      go_wp2
      go_end0
      rw [HR4.out]
      exact ⟨rfl, HS.out.2⟩
  · have hR2 := HR.out
    rw [if_neg hf] at hR2
    have HR2 := Lib.hid hR2
    have t0 : (s1.failed == 0) = false := by simp [hf]
    clear h2 hbk2 hb hr q0 q1 hR2 HP HR
    go_wp2
    go_end0
    rw [HR2.out]
    exact ⟨rfl, H2.out⟩
end Go.Proofs.YtlcdjgpblpodaaaGreatDoor.Ip
namespace Go.Proofs.YtlcdjgpblpodaaaGreatDoor.Ip
open Go.RowKit Go.Proofs.YtlcdjgpblpodaaaGreatDoorW.PrintWords

set_option maxRecDepth 100000 in
set_option maxHeartbeats 1000000 in
theorem out_cancel (c : Env) (w0 wb w : World) (mb : Nat) (s : St) (k : Nat) (h : M c w0 wb mb s w) (htm : s.tm.length ≤ 1000) (hk : k < c.NL.length) (hE : EnvOk c w0) :
    Calls Tryz.prog 232 #[mp mb, .agg #[.int .i64 20, .int .i64 (k : Int)]] w fun e w' => e = .returned (.tuple #[]) ∧ M c w0 wb mb { s with tm := s.tm ++ [(c.NL.getD k ⟨#[]⟩, true, 0, 0, 0)] } w' := by
  obtain ⟨D, hD⟩ : ∃ D, D = c.NL.getD k ⟨#[]⟩ := ⟨_, rfl⟩
  rw [← hD]
  have H1 := h.alloc (.cells #[.int .i64 20, .int .i64 (k : Int)] 51)
  have hbk := Blk.new w #[.int .i64 20, .int .i64 (k : Int)] 51
  obtain ⟨w1, hw1⟩ : ∃ w1, w1 = w.alloc (.cells #[.int .i64 20, .int .i64 (k : Int)] 51) := ⟨_, rfl⟩
  obtain ⟨bk, hbkn⟩ : ∃ bk, bk = w.heap.size := ⟨_, rfl⟩
  rw [← hw1] at H1 hbk
  rw [← hbkn] at hbk
  have q0 := hbk.cell 0
  have q1 := hbk.cell 1
  simp at q0 q1
  obtain ⟨sv, ev, sn, tv, hb, hr, hm⟩ := H1
  obtain ⟨T, tc, rfl⟩ := own_slice hr.tm
  have c0 := hb.cell 0
  have c19 := hb.cell 19
  simp [cellsOf] at c0 c19
  obtain ⟨nb, no, hnA, hnc⟩ := (hE.below hr.below).name hk
  rw [← hD] at hnc
  rw [hnA] at c0
  have k0 : (0 : Int) ≤ (k : Int) := by omega
  have k1 : (k : Int) < (c.NL.length : Int) := by omega
  have hml := hb.lt
  have hnl := World.block_lt_of_cell? w1 _ hnc
  simp at hnl
  have HB := Lib.hid hb
  have HR := Lib.hid hr
  have HW := Lib.hid hw1
  clear hb hr hbk hD h hE
  go_enter Tryz.func232, Tryz.ntmps232
  go_upto_region 1 with fail
  rw [← hw1, ← hbkn]
  clear hw1 hbkn
  go_wp2
  go_region_law ((refine step_append_cells (w0 := w0) w0.heap.size (by rfl) (.tmp 126) (.tmp 137) 33 125 _ 5 48 (by rfl) Tryz.underlying33 info58 rfl (by omega) (by omega) _ s.tm.length (encT s.tm) [.string D, .bool true, .int .i64 0, .int .i64 0, .int .i64 0] (by rfl) (by rfl) rfl (by simp [Value.oneCell']) (HR.out.drewN _).tm (HR.out.drewN _).below (HR.out.drewN _).below.size (by omega) ?_; intro v1 w3 ho hbl hg hat; obtain ⟨V, vn, rfl⟩ := own_slice ho; have HS := Lib.hid (M.remind D true 0 0 0 (HB.out.drewN _) (HR.out.drewN _) hm ho hg hbl); have f19 := HS.out.1.free 19; have e19 := HS.out.1.cell 19; simp [cellsOf] at e19; clear ho hbl hg hat))
  all_goals
    go_wp2
    go_end0
    exact ⟨rfl, HS.out.2⟩
end Go.Proofs.YtlcdjgpblpodaaaGreatDoor.Ip
namespace Go.Proofs.YtlcdjgpblpodaaaGreatDoor.Ip
open Go.RowKit Go.Proofs.YtlcdjgpblpodaaaGreatDoorW.PrintWords

set_option maxRecDepth 100000 in
set_option maxHeartbeats 1000000 in
theorem step_17 (c : Env) (w0 wb w : World) (mb : Nat) (s : St) (k : Nat) (hk : k < c.NL.length) (hE : EnvOk c w0) (hsn : s.sent.length ≤ 1000) (h : M c w0 wb mb s w) (hs : s.stack.length ≤ 16) :
    Calls Tryz.prog 171 #[mp mb, ins 17 (k : Int)] w fun e w' => e = .returned (.tuple #[]) ∧ M c w0 wb mb (sendF (c.NL.getD k ⟨#[]⟩) (twoX s) (twoY s) (twoF s)) w' := by
  obtain ⟨w1, bk, hw1, hbkn, h1, hbk⟩ := h.boxed 17 (k : Int)
  have q0 := hbk.cell 0
  have q1 := hbk.cell 1
  simp at q0 q1
  have HM := Lib.hid h1
  have HBK := Lib.hid hbk
  clear h h1 hbk
  go_enter Tryz.func171, Tryz.ntmps171
  go_upto_region 1 with fail
  rw [show w.alloc (.cells #[.int .i64 17, .int .i64 (k : Int)] 51) = w1 from hw1.symm, ← hbkn]
  clear hw1 hbkn
  go_wp2_with fail
  refine (out_send c w0 wb w1 mb s k HM.out hs hsn hk hE).mono ?_
  rintro e w2 ⟨rfl, h2⟩
  go_wp2
  go_end0
  exact ⟨rfl, h2⟩

set_option maxRecDepth 100000 in
set_option maxHeartbeats 1000000 in
theorem step_18 (c : Env) (w0 wb w : World) (mb : Nat) (s : St) (a : Int) (hsn : s.sent.length ≤ 1000) (h : M c w0 wb mb s w) (hs : s.stack.length ≤ 16) :
    Calls Tryz.prog 171 #[mp mb, ins 18 a] w fun e w' => e = .returned (.tuple #[]) ∧ M c w0 wb mb (sendF c.frm (twoX s) (twoY s) (twoF s)) w' := by
  obtain ⟨w1, bk, hw1, hbkn, h1, hbk⟩ := h.boxed 18 a
  have q0 := hbk.cell 0
  have q1 := hbk.cell 1
  simp at q0 q1
  have HM := Lib.hid h1
  have HBK := Lib.hid hbk
  clear h h1 hbk
  go_enter Tryz.func171, Tryz.ntmps171
  go_upto_region 1 with fail
  rw [show w.alloc (.cells #[.int .i64 18, .int .i64 a] 51) = w1 from hw1.symm, ← hbkn]
  clear hw1 hbkn
  go_wp2_with fail
  refine (out_reply c w0 wb w1 mb s a HM.out hs hsn).mono ?_
  rintro e w2 ⟨rfl, h2⟩
  go_wp2
  go_end0
  exact ⟨rfl, h2⟩

set_option maxRecDepth 100000 in
set_option maxHeartbeats 1000000 in
theorem step_20 (c : Env) (w0 wb w : World) (mb : Nat) (s : St) (k : Nat) (hk : k < c.NL.length) (hE : EnvOk c w0) (htm : s.tm.length ≤ 1000) (h : M c w0 wb mb s w) :
    Calls Tryz.prog 171 #[mp mb, ins 20 (k : Int)] w fun e w' => e = .returned (.tuple #[]) ∧ M c w0 wb mb ({ s with tm := s.tm ++ [(c.NL.getD k ⟨#[]⟩, true, 0, 0, 0)] }) w' := by
  obtain ⟨w1, bk, hw1, hbkn, h1, hbk⟩ := h.boxed 20 (k : Int)
  have q0 := hbk.cell 0
  have q1 := hbk.cell 1
  simp at q0 q1
  have HM := Lib.hid h1
  have HBK := Lib.hid hbk
  clear h h1 hbk
  go_enter Tryz.func171, Tryz.ntmps171
  go_upto_region 1 with fail
  rw [show w.alloc (.cells #[.int .i64 20, .int .i64 (k : Int)] 51) = w1 from hw1.symm, ← hbkn]
  clear hw1 hbkn
  go_wp2_with fail
  refine (out_cancel c w0 wb w1 mb s k HM.out htm hk hE).mono ?_
  rintro e w2 ⟨rfl, h2⟩
  go_wp2
  go_end0
  exact ⟨rfl, h2⟩
end Go.Proofs.YtlcdjgpblpodaaaGreatDoor.Ip

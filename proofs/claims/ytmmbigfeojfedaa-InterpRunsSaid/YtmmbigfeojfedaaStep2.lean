/- step: an argument of the letter; a jump on zero. -/
import Derived.Test.YtmmbigfeojfedaaStep0
import Derived.Test.YtmmbigfeojfedaaOut
import Derived.Deep.QuietTactic
import Derived.BigQuiet
namespace Go.Proofs.Ytmmbigfeojfedaa
open Go.RowKit Go.Proofs.YtmmbigfeojfedaaW.PrintWords

set_option maxRecDepth 100000 in
set_option maxHeartbeats 1000000 in
theorem step_4 (c : Env) (w0 wb w : World) (mb : Nat) (s : St) (k : Nat) (hE : EnvOk c w0) (h : M c w0 wb mb s w) (hs : s.stack.length ≤ 16) :
    Calls Try.prog 20 #[mp mb, ins 4 (k : Int)] w fun e w' => e = .returned (.tuple #[]) ∧ M c w0 wb mb (pushF [c.AL.getD k 0] s) w' := by
  obtain ⟨w1, bk, hw1, hbkn, h1, hbk⟩ := h.boxed 4 (k : Int)
  have q0 := hbk.cell 0
  have q1 := hbk.cell 1
  simp at q0 q1
  have HM := Lib.hid h1
  have HBK := Lib.hid hbk
  obtain ⟨sv, ev, sn, tv, hb, hr, hm⟩ := HM.out
  have c5 := hb.cell 5
  simp [cellsOf] at c5
  clear hb hr
  have HE := Lib.hid hE
  have k0 : (0 : Int) ≤ (k : Int) := by omega
  have HX := Lib.hid (hm)
  obtain ⟨x, hx⟩ : ∃ x, x = c.AL.getD k 0 := ⟨_, rfl⟩
  rw [← hx]
  have hBl := HM.out.below
  have HBL := Lib.hid hBl
  have HXX := Lib.hid hx
  clear hBl hx
  clear h h1 hbk
  go_enter Try.func20, Try.ntmps20
  go_upto_region 1 with fail
  rw [show w.alloc (.cells #[.int .i64 4, .int .i64 (k : Int)] 60) = w1 from hw1.symm, ← hbkn]
  clear hw1 hbkn
  by_cases hlt : k < c.AL.length
  · obtain ⟨b, off, hA, hc⟩ := (HE.out.below HBL.out).arg hlt
    rw [← HXX.out] at hc
    rw [hA] at c5
    have k1 : (k : Int) < (c.AL.length : Int) := by omega
    have t0 : decide ((k : Int) < (c.AL.length : Int)) = true := decide_eq_true k1
    go_wp2_with fail
    go_quiet (fail)
    go_wp2_with fail
    go_quiet (fail)
    go_wp2_with fail
    refine (push1 x (HM.out.drewN _) hs).mono ?_
    rintro e w3 ⟨rfl, h3⟩
    go_wp2
    go_end0
    exact ⟨rfl, h3⟩
  · have hx0 : x = 0 := by rw [HXX.out]; simp [List.getD, List.getElem?_eq_none (by omega : c.AL.length ≤ k)]
    have k1 : ¬ (k : Int) < (c.AL.length : Int) := by omega
    have t0 : decide ((k : Int) < (c.AL.length : Int)) = false := decide_eq_false k1
    have HX0 := Lib.hid hx0
    clear hx0
    go_wp2_with fail
    go_quiet (fail)
    go_wp2_with fail
    refine (push1 0 (HM.out.drewN _) hs).mono ?_
    rintro e w3 ⟨rfl, h3⟩
    go_wp2
    go_end0
    rw [HX0.out]
    exact ⟨rfl, h3⟩

set_option maxRecDepth 100000 in
set_option maxHeartbeats 1000000 in
theorem step_16 (c : Env) (w0 wb w : World) (mb : Nat) (s : St) (a : Int) (h : M c w0 wb mb s w) (hs : s.stack.length ≤ 16) :
    Calls Try.prog 20 #[mp mb, ins 16 a] w fun e w' => e = .returned (.tuple #[]) ∧ M c w0 wb mb (if popV s = 0 ∧ (popF s).failed = 0 then { popF s with at_ := a } else popF s) w' := by
  obtain ⟨w1, bk, hw1, hbkn, h1, hbk⟩ := h.boxed 16 a
  have q0 := hbk.cell 0
  have q1 := hbk.cell 1
  simp at q0 q1
  have HM := Lib.hid h1
  have HBK := Lib.hid hbk
  obtain ⟨x, hx⟩ : ∃ x, x = popV s := ⟨_, rfl⟩
  obtain ⟨s1, hs1⟩ : ∃ s1, s1 = popF s := ⟨_, rfl⟩
  have HP := Lib.hid (pop_any c w0 w1 w1 mb s h1.here hs)
  rw [← hx, ← hs1] at HP
  rw [← hx, ← hs1]
  obtain ⟨R, hR⟩ : ∃ r, r = if x = 0 ∧ s1.failed = 0 then { s1 with at_ := a } else s1 := ⟨_, rfl⟩
  rw [← hR]
  clear hx hs1
  clear h h1 hbk
  go_enter Try.func20, Try.ntmps20
  go_upto_region 1 with fail
  rw [show w.alloc (.cells #[.int .i64 16, .int .i64 a] 60) = w1 from hw1.symm, ← hbkn]
  clear hw1 hbkn
  go_wp2_with fail
  refine HP.out.mono ?_
  rintro e w2 ⟨rfl, h2⟩
  have hbk2 := h2.stay.blk HBK.out (by decide)
  have p0 := hbk2.cell 0
  have p1 := hbk2.cell 1
  simp at p0 p1
  have H2 := Lib.hid (h2.rebase HM.out.stay)
  obtain ⟨sv, ev, sn, tv, hb, hr, hm⟩ := H2.out
  have c7 := hb.cell 7
  have c21 := hb.cell 21
  have f7 := hb.free 7
  simp [cellsOf] at c7 c21
  have HF := Lib.hid (show M c w0 wb mb { s1 with at_ := a } (w2.setCell ⟨mb, 7, none⟩ (.int .i64 a)) from ⟨sv, ev, sn, tv, by simpa [cellsOf] using hb.set 7 (.int .i64 a), hr.put hb hm _ _, hm⟩)
  have HR := Lib.hid hR
  clear h2 hbk2 hb hr q0 q1 hR
  by_cases hx0 : x = 0
  · have t0 : (x == 0) = true := by simp [hx0]
    by_cases hf : s1.failed = 0
    · have t1 : (s1.failed == 0) = true := by simp [hf]
      go_wp2
      go_end0
      rw [HR.out, if_pos ⟨hx0, hf⟩]
      exact ⟨rfl, HF.out⟩
    · have t1 : (s1.failed == 0) = false := by simp [hf]
      go_wp2
      go_end0
      rw [HR.out, if_neg (fun h => hf h.2)]
      exact ⟨rfl, H2.out⟩
  · have t0 : (x == 0) = false := by simp [hx0]
    go_wp2
    go_end0
    rw [HR.out, if_neg (fun h => hx0 h.1)]
    exact ⟨rfl, H2.out⟩
end Go.Proofs.Ytmmbigfeojfedaa

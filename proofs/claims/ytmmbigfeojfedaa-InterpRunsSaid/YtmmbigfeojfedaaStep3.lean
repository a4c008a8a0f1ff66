/- step: a register is set, and the event told. -/
import Derived.Test.YtmmbigfeojfedaaStep0
import Derived.Test.YtmmbigfeojfedaaOut
import Derived.Deep.RegionLaw
import Derived.BigRegion
namespace Go.Proofs.Ytmmbigfeojfedaa
open Go.RowKit Go.Proofs.YtmmbigfeojfedaaW.PrintWords

def tellF (k : Nat) (x : Int) (s : St) : St := { setReg s k x with ev := s.ev ++ [((k : Int), x)] }

theorem M.tell {c : Env} {w0 wb w w1 : World} {mb : Nat} {s : St} {sv ev sn tv v1 : Value} (r x : Int) (hb : Blk w mb (cellsOf c s sv ev sn tv) 74) (hr : Rws w0 wb w s.stack s.ev s.sent s.tm sv ev sn tv) (hm : w0.heap.size ≤ mb)
    (ho : w1.ownsRow w0.heap.size 56 2 v1 (s.ev.length + 1) (encE s.ev ++ [.int .i64 r, .int .i64 x])) (hg : w.grownBy w1 ev.ownBlock) (hB : Below w0.heap.size w0 w1) :
    Blk w1 mb (cellsOf c s sv ev sn tv) 74 ∧ M c w0 wb mb { s with ev := s.ev ++ [(r, x)] } (w1.setCell ⟨mb, 17, none⟩ v1) := by
  have hb1 := blk_grown hb hr.ev (by decide) hg
  have hr1 := hr.grow_ev (ev1 := s.ev ++ [(r, x)]) (by rw [encE_snoc, List.length_append]; exact ho) hg hB
  exact ⟨hb1, sv, v1, sn, tv, by simpa [cellsOf] using hb1.set 17 v1, hr1.put hb1 hm _ _, hm⟩

set_option maxRecDepth 100000 in
set_option maxHeartbeats 2000000 in
theorem step_3 (c : Env) (w0 wb w : World) (mb : Nat) (s : St) (k : Nat) (hk : k < 8) (hev : s.ev.length ≤ 1000) (h : M c w0 wb mb s w) (hs : s.stack.length ≤ 16) :
    Calls Try.prog 20 #[mp mb, ins 3 (k : Int)] w fun e w' => e = .returned (.tuple #[]) ∧ M c w0 wb mb (if (popF s).failed = 0 then tellF k (popV s) (popF s) else popF s) w' := by
  obtain ⟨w1, bk, hw1, hbkn, h1, hbk⟩ := h.boxed 3 (k : Int)
  have q0 := hbk.cell 0
  have q1 := hbk.cell 1
  simp at q0 q1
  have HM := Lib.hid h1
  have HBK := Lib.hid hbk
  have hev2 : (popF s).ev.length ≤ 1000 := by rw [popF_ev]; exact hev
  obtain ⟨x, hx⟩ : ∃ x, x = popV s := ⟨_, rfl⟩
  obtain ⟨s1, hs1⟩ : ∃ s1, s1 = popF s := ⟨_, rfl⟩
  have HP := Lib.hid (pop_any c w0 w1 w1 mb s h1.here hs)
  rw [← hx, ← hs1] at HP
  rw [← hs1] at hev2
  rw [← hx, ← hs1]
  obtain ⟨R, hR⟩ : ∃ r, r = if s1.failed = 0 then tellF k x s1 else s1 := ⟨_, rfl⟩
  rw [← hR]
  have HR := Lib.hid hR
  have k0 : (0 : Int) ≤ (k : Int) := by omega
  have k1 : (k : Int) < 8 := by omega
  clear h h1 hbk hR hx hs1 hev
  go_enter Try.func20, Try.ntmps20
  go_upto_region 1 with fail
  rw [show w.alloc (.cells #[.int .i64 3, .int .i64 (k : Int)] 60) = w1 from hw1.symm, ← hbkn]
  clear hw1 hbkn
  go_wp2_with fail
  refine HP.out.mono ?_
  rintro e w2 ⟨rfl, h2⟩
  have hbk2 := h2.stay.blk HBK.out (by decide)
  have H2 := Lib.hid (h2.rebase HM.out.stay)
  obtain ⟨sv, ev, sn, tv, hb, hr, hm⟩ := H2.out
  have c21 := hb.cell 21
  simp [cellsOf] at c21
  by_cases hf : s1.failed = 0
  · have hR2 := HR.out
    rw [if_pos hf] at hR2
    have HR2 := Lib.hid hR2
    have t0 : (s1.failed == 0) = true := by simp [hf]
    have ck := hb.cell (9 + k)
    rw [cells_reg hk] at ck
    have fk := hb.free (9 + k)
    have HBL := Lib.hid hb
    have HRW := Lib.hid hr
    have HB2 := Lib.hid hbk2
    have p0 := hbk2.cell 0
    have p1 := hbk2.cell 1
    simp at p0 p1
    clear h2 hbk2 hb hr q0 q1 hR2 HP HR
    go_upto_region 12 with fail
    go_cut [10] (fun _ wc => M c w0 wb mb (setReg s1 k x) wc ∧ Blk wc bk #[.int .i64 3, .int .i64 (k : Int)] 60)
    case first =>
      have HF := Lib.hid (show ∀ n, M c w0 wb mb (setReg s1 k x) ((w2.drewN n).setCell ⟨mb, 9 + k, none⟩ (.int .i64 x)) ∧ Blk ((w2.drewN n).setCell ⟨mb, 9 + k, none⟩ (.int .i64 x)) bk #[.int .i64 3, .int .i64 (k : Int)] 60 from fun n => ⟨⟨sv, ev, sn, tv, by rw [← cells_set x hk]; exact (HBL.out.drewN n).set (9 + k) (.int .i64 x), (HRW.out.drewN n).put (HBL.out.drewN n) hm _ _, hm⟩, (HB2.out.drewN n).other (by
        intro e1
        have e2 : bk = mb := e1
        have h3 := HB2.out
        have h4 := HBL.out
        unfold Blk at h3 h4
        rw [e2] at h3
        rw [h3] at h4
        injection h4 with h4
        injection h4 with _ h5 _
        exact absurd h5 (by decide)) _⟩)
      go_region
      go_wp2
      go_meet
      exact HF.out _
    obtain ⟨h3, hbk3⟩ := hcut
    have hl3 : (setReg s1 k x).ev.length ≤ 1000 := hev2
    obtain ⟨s2, hs2⟩ : ∃ s2, s2 = setReg s1 k x := ⟨_, rfl⟩
    have hR4 : R = { s2 with ev := s2.ev ++ [((k : Int), x)] } := by rw [HR2.out, hs2]; rfl
    have HR4 := Lib.hid hR4
    rw [← hs2] at h3 hl3
    clear hR4 hs2 HR2 HBL HRW HB2 p0 p1 ck fk c21 H2
    have p0 := hbk3.cell 0
    have p1 := hbk3.cell 1
    simp at p0 p1
    have hkl := hbk3.lt
    obtain ⟨sv3, ev3, sn3, tv3, hb3, hr3, hm3⟩ := h3
    obtain ⟨T, tc, rfl⟩ := own_slice hr3.ev
    have c17 := hb3.cell 17
    simp [cellsOf] at c17
    have hml := hb3.lt
    have HB := Lib.hid hb3
    have HR := Lib.hid hr3
    clear hb3 hr3 hbk3
    go_wp2
    go_region_law ((refine step_append_cells (w0 := w0) w0.heap.size (by rfl) (.tmp 62) (.tmp 67) 33 56 _ 2 16 (by rfl) Try.underlying33 info56 rfl (by omega) (by omega) _ s2.ev.length (encE s2.ev) [.int .i64 (k : Int), .int .i64 x] (by rfl) (by rfl) rfl (by simp [Value.oneCell']) (HR.out.drewN _).ev (HR.out.drewN _).below (HR.out.drewN _).below.size (by omega) ?_; intro v1 w4 ho hbl hg hat; obtain ⟨V, vn, rfl⟩ := own_slice ho; have HS := Lib.hid (M.tell (k : Int) x (HB.out.drewN _) (HR.out.drewN _) hm3 ho hg hbl); have f17 := HS.out.1.free 17; have e17 := HS.out.1.cell 17; simp [cellsOf] at e17; clear ho hbl hg hat))
    all_goals
      go_wp2
      go_end0
      rw [HR4.out]
      exact ⟨rfl, HS.out.2⟩
  · have hR2 := HR.out
    rw [if_neg hf] at hR2
    have HR2 := Lib.hid hR2
    have t0 : (s1.failed == 0) = false := by simp [hf]
    clear h2 hbk2 hb hr q0 q1 hR2 HP HR
    go_wp2
    go_end0
    rw [HR2.out]
    exact ⟨rfl, H2.out⟩
end Go.Proofs.Ytmmbigfeojfedaa

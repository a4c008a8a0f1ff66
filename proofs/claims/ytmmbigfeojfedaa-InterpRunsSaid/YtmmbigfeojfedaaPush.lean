/- push, pop, two, reckon. -/
import Derived.Test.YtmmbigfeojfedaaMeth
namespace Go.Proofs.Ytmmbigfeojfedaa
open Go.RowKit Go.Proofs.YtmmbigfeojfedaaW.PrintWords

theorem own_slice {w : World} {base n size : Nat} {e : TypeId} {v : Value} {xs : List Value} (h : w.ownsRow base e size v n xs) : ∃ A c, v = .slice A n c := by
  rcases h.2 with ⟨rfl, hn⟩ | ⟨g, cap, cur, rfl, _⟩
  · subst hn; exact ⟨none, 0, rfl⟩
  · exact ⟨_, _, rfl⟩

set_option maxRecDepth 100000 in
theorem push_any (c : Env) (w0 wb w : World) (mb : Nat) (s : St) (A : Option Addr) (n : Nat) (xs : List Int) (h : M c w0 wb mb s w) (hl : xs.length ≤ 16) (hs : s.stack.length ≤ 16) (hr : ReadsOf (Value.int .i64) (0 : Int) w A xs.length xs) :
    Calls Try.prog 30 #[mp mb, .slice A xs.length n] w fun e w' => e = .returned (.tuple #[]) ∧ M c w0 wb mb (pushF xs s) w' := by
  obtain ⟨S, m, ev, sn, tv, hb, hrw, hm, hrd, hcap⟩ := h.start
  have c21 := hb.cell 21
  have c8 := hb.cell 8
  have f21 := hb.free 21
  have f8 := hb.free 8
  simp [cellsOf] at c21 c8
  have HB := Lib.hid hb
  have HRW := Lib.hid hrw
  have HR := Lib.hid hr
  have HM := Lib.hid h
  clear hb hrw hr hrd h
  by_cases hf : s.failed = 0
  · rw [hf] at c21
    by_cases hlen : s.stack.length + xs.length > 16
    · have e : pushF xs s = { s with failed := 10 } := by simp [pushF, hf, hlen]
      rw [e]
      have HF := Lib.hid (show M c w0 wb mb { s with failed := 10 } (w.setCell ⟨mb, 21, none⟩ (.int .i64 10)) from ⟨_, ev, sn, tv, by simpa [cellsOf] using HB.out.set 21 (.int .i64 10), HRW.out.put HB.out hm _ _, hm⟩)
      have t0 : decide ((s.stack.length : Int) + (xs.length : Int) > 16) = true := by simp; omega
      have t1 : decide ((16 : Int) < (s.stack.length : Int) + (xs.length : Int)) = true := by simp; omega
      go_enter Try.func30, Try.ntmps30
      go_wp2
      refine bodyPost_ret (results_none rfl _ _ _) rfl ?_
      exact ⟨rfl, HF.out⟩
    · have e : pushF xs s = { s with stack := s.stack ++ xs } := by simp [pushF, hf, hlen]
      rw [e]
      have t0 : decide ((s.stack.length : Int) + (xs.length : Int) > 16) = false := by simp; omega
      have t1 : decide ((16 : Int) < (s.stack.length : Int) + (xs.length : Int)) = false := by simp; omega
      clear e
      go_enter Try.func30, Try.ntmps30
      go_wp2_with (at_builtin; refine print_append_row_of (w0 := w0) (Value.int .i64) (0 : Int) w0.heap.size rfl (.tmp 25) (.tmp 26) 28 2 (.int .i64 0) 8 rfl Try.underlying28 info2 rfl (by omega) (fun _ => rfl) _ s.stack xs A xs.length n rfl rfl HRW.out.st HR.out HRW.out.below HRW.out.below.size (by omega) ?_; intro v1 w1 ho hbl hg hat; obtain ⟨V, vn, rfl⟩ := own_slice ho; have HB1 := Lib.hid (blk_grown HB.out HRW.out.st (by decide) hg); have HR1 := Lib.hid (HRW.out.grow_st ho hg hbl); have f8' := HB1.out.free 8; have c8' := HB1.out.cell 8; simp [cellsOf] at c8'; clear ho hbl hg hat f8 f21)
      go_end0
      exact ⟨rfl, _, ev, sn, tv, by simpa [cellsOf, hf] using HB1.out.set 8 (.slice V (s.stack.length + xs.length) vn), by simpa using HR1.out.put HB1.out hm 8 (.slice V (s.stack.length + xs.length) vn), hm⟩
  · have e : pushF xs s = s := by simp [pushF, hf]
    rw [e]
    have t0 : (s.failed != 0) = true := by simpa using hf
    have t1 : (s.failed == 0) = false := by simpa using hf
    go_enter Try.func30, Try.ntmps30
    go_wp2
    refine bodyPost_ret (results_none rfl _ _ _) rfl ?_
    exact ⟨rfl, HM.out⟩

set_option maxRecDepth 100000 in
theorem pop_any (c : Env) (w0 wb w : World) (mb : Nat) (s : St) (h : M c w0 wb mb s w) (hs : s.stack.length ≤ 16) :
    Calls Try.prog 31 #[mp mb] w fun e w' => e = .returned (.int .i64 (popV s)) ∧ M c w0 wb mb (popF s) w' := by
  obtain ⟨S, m, ev, sn, tv, hb, hrw, hm, hrd, hcap⟩ := h.start
  have c21 := hb.cell 21
  have c8 := hb.cell 8
  have f21 := hb.free 21
  have f8 := hb.free 8
  simp [cellsOf] at c21 c8
  have HB := Lib.hid hb
  have HRW := Lib.hid hrw
  have HRD := Lib.hid hrd
  have HM := Lib.hid h
  clear hb hrw hrd h
  by_cases hf : s.failed = 0
  · rw [hf] at c21
    by_cases hlen : s.stack.length = 0
    · have e : popF s = { s with failed := 10 } := by simp [popF, hf, hlen]
      have e2 : popV s = 0 := by simp [popV, hf, List.getD, List.getElem?_eq_none (show s.stack.length ≤ s.stack.length - 1 by omega)]
      rw [e, e2]
      have HF := Lib.hid (show M c w0 wb mb { s with failed := 10 } (w.setCell ⟨mb, 21, none⟩ (.int .i64 10)) from ⟨_, ev, sn, tv, by simpa [cellsOf] using HB.out.set 21 (.int .i64 10), HRW.out.put HB.out hm _ _, hm⟩)
      have t0 : ((s.stack.length : Int) == 0) = true := by rw [hlen]; rfl
      go_enter Try.func31, Try.ntmps31
      go_wp2
      go_ret
      exact ⟨rfl, HF.out⟩
    · obtain ⟨k, hk⟩ : ∃ k, s.stack.length = k + 1 := ⟨s.stack.length - 1, by omega⟩
      have e : popF s = { s with stack := s.stack.take k } := by simp [popF, hf, hk]
      have e2 : popV s = s.stack.getD k 0 := by simp [popV, hf, hk]
      obtain ⟨a, rfl, hcell⟩ := HRD.out.2.2 (by omega)
      rw [e, e2]
      have hown := own_take HRW.out.st (show k ≤ s.stack.length by omega)
      have hr2 : Rws w0 wb w (s.stack.take k) s.ev s.sent s.tm (.slice (some a) k m) ev sn tv := ⟨by
        have hl : (s.stack.take k).length = k := by rw [List.length_take]; omega
        rw [hl]
        simpa [encs, List.map_take] using hown, HRW.out.ev, HRW.out.sn, HRW.out.tm, HRW.out.below, HRW.out.stay⟩
      have hl : (s.stack.take k).length = k := by rw [List.length_take]; omega
      have HF := Lib.hid (show ∀ n, M c w0 wb mb { s with stack := s.stack.take k } ((w.drewN n).setCell ⟨mb, 8, none⟩ (.slice (some a) k m)) from fun n => ⟨_, ev, sn, tv, by simpa [cellsOf, hf, hl] using (HB.out.drewN n).set 8 (.slice (some a) k m), (hr2.drewN n).put (HB.out.drewN n) hm _ _, hm⟩)
      obtain ⟨b, off, sp⟩ := a
      obtain rfl : sp = none := by
        have := hcell 0 (by omega)
        simpa [Addr.add] using World.cell?_spot this
      have g0 := hcell k (by omega)
      rw [show (⟨b, off, none⟩ : Addr).add k = ⟨b, off + k, none⟩ from Go.WideShapes.add_plain b off k] at g0
      have t0 : ((s.stack.length : Int) == 0) = false := beq_eq_false_iff_ne.mpr (by omega)
      have k0 : (0 : Int) ≤ (k : Int) := by omega
      have k1 : (k : Int) < (s.stack.length : Int) := by omega
      have k2 : wrap64 ((s.stack.length : Int) - 1) = (k : Int) := by unfold wrap64; omega
      have k3 : (s.stack.length : Int) - 1 = (k : Int) := by omega
      have hcut := cut_hi (P := Try.prog) 28 2 .i64 Try.underlying28 (i := (Try.prog.info? 2).get (by kernel_rfl)) (by kernel_rfl) (by kernel_rfl) (some ⟨b, off, none⟩) s.stack.length m k (by omega)
      clear hcell hown hr2 e e2 hk hl hlen
      go_enter Try.func31, Try.ntmps31
      go_wp2
      go_quiet (fail)
      go_wp2
      go_region
      go_wp2
      go_ret
      exact ⟨by simp, HF.out _⟩
  · have e : popF s = s := by simp [popF, hf]
    have e2 : popV s = 0 := by simp [popV, hf]
    rw [e, e2]
    have t0 : (s.failed != 0) = true := by simpa using hf
    have t1 : (s.failed == 0) = false := by simpa using hf
    go_enter Try.func31, Try.ntmps31
    go_wp2
    go_ret
    exact ⟨rfl, HM.out⟩
end Go.Proofs.Ytmmbigfeojfedaa

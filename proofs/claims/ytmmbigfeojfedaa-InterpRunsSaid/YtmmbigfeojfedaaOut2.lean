/- out: the reminders. -/
import Derived.Test.YtmmbigfeojfedaaOut
import Derived.Deep.RegionLaw
import Derived.BigRegion
namespace Go.Proofs.Ytmmbigfeojfedaa
open Go.RowKit Go.Proofs.YtmmbigfeojfedaaW.PrintWords

set_option maxRecDepth 100000 in
set_option maxHeartbeats 1000000 in
theorem out_cancel (c : Env) (w0 wb w : World) (mb : Nat) (s : St) (k : Nat) (h : M c w0 wb mb s w) (htm : s.tm.length ≤ 1000) (hk : k < c.NL.length) (hE : EnvOk c w0) :
    Calls Try.prog 36 #[mp mb, .agg #[.int .i64 20, .int .i64 (k : Int)]] w fun e w' => e = .returned (.tuple #[]) ∧ M c w0 wb mb { s with tm := s.tm ++ [(c.NL.getD k ⟨#[]⟩, true, 0, 0, 0)] } w' := by
  obtain ⟨D, hD⟩ : ∃ D, D = c.NL.getD k ⟨#[]⟩ := ⟨_, rfl⟩
  rw [← hD]
  have H1 := h.alloc (.cells #[.int .i64 20, .int .i64 (k : Int)] 60)
  have hbk := Blk.new w #[.int .i64 20, .int .i64 (k : Int)] 60
  obtain ⟨w1, hw1⟩ : ∃ w1, w1 = w.alloc (.cells #[.int .i64 20, .int .i64 (k : Int)] 60) := ⟨_, rfl⟩
  obtain ⟨bk, hbkn⟩ : ∃ bk, bk = w.heap.size := ⟨_, rfl⟩
  rw [← hw1] at H1 hbk
  rw [← hbkn] at hbk
  have q0 := hbk.cell 0
  have q1 := hbk.cell 1
  simp at q0 q1
  obtain ⟨sv, ev, sn, tv, hb, hr, hm⟩ := H1
  obtain ⟨T, tc, rfl⟩ := own_slice hr.tm
  have c0 := hb.cell 0
  have c19 := hb.cell 19
  simp [cellsOf] at c0 c19
  obtain ⟨nb, no, hnA, hnc⟩ := (hE.below hr.below).name hk
  rw [← hD] at hnc
  rw [hnA] at c0
  have k0 : (0 : Int) ≤ (k : Int) := by omega
  have k1 : (k : Int) < (c.NL.length : Int) := by omega
  have hml := hb.lt
  have hnl := World.block_lt_of_cell? w1 _ hnc
  simp at hnl
  have HB := Lib.hid hb
  have HR := Lib.hid hr
  have HW := Lib.hid hw1
  clear hb hr hbk hD h hE
  go_enter Try.func36, Try.ntmps36
  go_upto_region 1 with fail
  rw [← hw1, ← hbkn]
  clear hw1 hbkn
  go_wp2
  go_region_law ((refine step_append_cells (w0 := w0) w0.heap.size (by rfl) (.tmp 126) (.tmp 137) 35 58 _ 5 48 (by rfl) Try.underlying35 info58 rfl (by omega) (by omega) _ s.tm.length (encT s.tm) [.string D, .bool true, .int .i64 0, .int .i64 0, .int .i64 0] (by rfl) (by rfl) rfl (by simp [Value.oneCell']) (HR.out.drewN _).tm (HR.out.drewN _).below (HR.out.drewN _).below.size (by omega) ?_; intro v1 w3 ho hbl hg hat; obtain ⟨V, vn, rfl⟩ := own_slice ho; have HS := Lib.hid (M.remind D true 0 0 0 (HB.out.drewN _) (HR.out.drewN _) hm ho hg hbl); have f19 := HS.out.1.free 19; have e19 := HS.out.1.cell 19; simp [cellsOf] at e19; clear ho hbl hg hat))
  all_goals
    go_wp2
    go_end0
    exact ⟨rfl, HS.out.2⟩
end Go.Proofs.Ytmmbigfeojfedaa

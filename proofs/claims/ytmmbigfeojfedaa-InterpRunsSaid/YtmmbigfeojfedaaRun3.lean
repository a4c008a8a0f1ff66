/- Run: the arm that runs out of steps. -/
import Derived.Test.YtmmbigfeojfedaaRunA
namespace Go.Proofs.Ytmmbigfeojfedaa
open Go.RowKit Go.Proofs.YtmmbigfeojfedaaW.PrintWords

set_option maxRecDepth 100000 in
set_option maxHeartbeats 4000000 in
theorem arm_budget (c : Env) (reg : Nat → Int) (w wS : World) (mb b4 b5 b6 b8 : Nat) (n : Nat) (wr : World) (s : St) (x0 x1 x2 x3 x5 x6 x7 x12 x13 x14 x15 x16 x17 x18 x19 x20 x21 x22 x23 x24 x25 x26 x27 x28 x29 x30 x31 x32 x33 x34 x99 x100 x101 x102 u9 u11 u35 u36 u37 u38 u39 u40 u41 u42 u43 u44 u45 u46 u47 u48 u49 u50 u51 u52 u53 u54 u55 u56 u57 u58 u59 u60 u61 u62 u63 u64 u65 u66 u67 u68 u69 u70 u71 u72 u73 u74 u75 u76 u77 u78 u79 u80 u81 u82 u83 u84 u85 u86 u87 u88 u89 u90 u91 u92 u93 u94 u95 u96 u97 u98 : Value) (K : Act → World → Prop) (Q : Exit → Act → World → Prop)
    (hQ : ∀ a w', bodyPost Try.prog Try.f12 (RunPost c reg w) .ret a w' → Q .ret a w') (HB4 : Hid (Boxed c reg w wS b4 b5 b6 b8))
    (HM : Hid (M c w wS mb s wr)) (HRU2 : Hid (runF c reg = loopF c (n + 1) s))
    (hd : s.done = false) (hlt : s.at_ < c.CL.length) (h5 : s.steps = 500) :
    Code.wp Try.prog body12 (Exit.then K Q) ⟨#[x0, x1, x2, x3, .pointer (some ⟨b4, 0, none⟩), x5, x6, x7, .pointer (some ⟨b8, 0, none⟩), u9, .pointer (some ⟨mb, 0, none⟩), u11, x12, x13, x14, x15, x16, x17, x18, x19, x20, x21, x22, x23, x24, x25, x26, x27, x28, x29, x30, x31, x32, x33, x34, u35, u36, u37, u38, u39, u40, u41, u42, u43, u44, u45, u46, u47, u48, u49, u50, u51, u52, u53, u54, u55, u56, u57, u58, u59, u60, u61, u62, u63, u64, u65, u66, u67, u68, u69, u70, u71, u72, u73, u74, u75, u76, u77, u78, u79, u80, u81, u82, u83, u84, u85, u86, u87, u88, u89, u90, u91, u92, u93, u94, u95, u96, u97, u98, x99, x100, x101, x102], []⟩ wr := by
  have H4 := Lib.hid (HM.out.stay.blk HB4.out.p (by decide))
  have H8 := Lib.hid (HM.out.stay.blk HB4.out.r (by decide))
  obtain ⟨sv, ev, sn, tv, hb, hr, hm⟩ := HM.out
  obtain ⟨eA, ec, rfl⟩ := own_slice hr.ev
  obtain ⟨nA, nc, rfl⟩ := own_slice hr.sn
  obtain ⟨tA, tc, rfl⟩ := own_slice hr.tm
  have HRW := Lib.hid hr
  have um' : ∀ i, wr.cell? ⟨mb, i, none⟩ = _ := fun i => hb.cell i
  unfold cellsOf at um'
  rw [hd] at um'
  have up : ∀ i, wr.cell? ⟨b4, i, none⟩ = _ := fun i => H4.out.cell i
  have u8 : ∀ i, wr.cell? ⟨b8, i, none⟩ = _ := fun i => H8.out.cell i
  have f8 : ∀ i, wr.frozen? ⟨b8, i, none⟩ = false := fun i => H8.out.free i
  clear hb hr HM
  conv => arg 2; whnf
  have d1 : decide (s.at_ < (c.CL.length : Int)) = true := decide_eq_true hlt
  have HRN := Lib.hid (HRU2.out.trans (show loopF c (n + 1) s = (11, s) by simp [loopF, hd, hlt, h5]))
  rw [h5] at um'
  go_wp2_with fail
  go_quiet (fail)
  go_wp2
  refine bodyPost_ret (results_ct rfl _ _ b8 37 _ (0, 0) _ rfl ((H8.out.drewN _).twelve rfl _ _ _ _ _ _ _ _ _ _ _ _) Try.underlying37 rfl (by kernel_rfl)) rfl ?_
  refine ⟨below12 (below_drewN HRW.out.below _) HB4.out.lo _ _ _ _ _ _ _ _ _ _ _ _, .inr ⟨by rw [HRN.out]; show (11 : Int) ≠ 0; decide, by rw [HRN.out]; show _ = Ending.returned (.tuple #[.agg (resC (fun _ => 0) (.slice none 0 0) (.slice none 0 0) (.slice none 0 0) s.steps), .int .i64 11]); rw [h5]; rfl⟩⟩
end Go.Proofs.Ytmmbigfeojfedaa

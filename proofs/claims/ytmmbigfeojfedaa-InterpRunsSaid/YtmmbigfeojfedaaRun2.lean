/- Run: the arm that steps. -/
import Derived.Test.YtmmbigfeojfedaaRunA
namespace Go.Proofs.Ytmmbigfeojfedaa
open Go.RowKit Go.Proofs.YtmmbigfeojfedaaW.PrintWords

set_option maxRecDepth 100000 in
set_option maxHeartbeats 4000000 in
theorem arm_go (c : Env) (reg : Nat → Int) (w wS : World) (mb b4 b5 b6 b8 : Nat) (n : Nat) (wr : World) (s : St) (x0 x1 x2 x3 x5 x6 x7 x12 x13 x14 x15 x16 x17 x18 x19 x20 x21 x22 x23 x24 x25 x26 x27 x28 x29 x30 x31 x32 x33 x34 x99 x100 x101 x102 u9 u11 u35 u36 u37 u38 u39 u40 u41 u42 u43 u44 u45 u46 u47 u48 u49 u50 u51 u52 u53 u54 u55 u56 u57 u58 u59 u60 u61 u62 u63 u64 u65 u66 u67 u68 u69 u70 u71 u72 u73 u74 u75 u76 u77 u78 u79 u80 u81 u82 u83 u84 u85 u86 u87 u88 u89 u90 u91 u92 u93 u94 u95 u96 u97 u98 : Value) (J : Nat → Act → World → Prop) (K : Act → World → Prop) (Q : Exit → Act → World → Prop)
    (hJ : ∀ k a' w', LI c reg w wS mb b4 b8 x0 x1 x2 x3 x5 x6 x7 x12 x13 x14 x15 x16 x17 x18 x19 x20 x21 x22 x23 x24 x25 x26 x27 x28 x29 x30 x31 x32 x33 x34 x99 x100 x101 x102 k a' w' → J k a' w') (hK : ∀ a' w', Handed J (n + 1) a' w' → K a' w') (hQ : ∀ a w', bodyPost Try.prog Try.f12 (RunPost c reg w) .ret a w' → Q .ret a w')
    (HE : Hid (EnvOk c w)) (HC : Hid (IsCode w c.kA c.CL)) (hcl : c.CL.length ≤ 1000) (hF : formedB c.NL c.CL = true) (HB4 : Hid (Boxed c reg w wS b4 b5 b6 b8))
    (HM : Hid (M c w wS mb s wr)) (hst : s.stack.length ≤ 16) (he : (s.ev.length : Int) ≤ s.steps) (hsn : (s.sent.length : Int) ≤ s.steps) (htm : (s.tm.length : Int) ≤ s.steps) (hat : 0 ≤ s.at_) (hs0 : 0 ≤ s.steps) (hs5 : s.steps ≤ 500) (hf : s.failed = 0)
    (hgk : ((n + 1 : Nat) : Int) = 501 - s.steps) (HRU2 : Hid (runF c reg = loopF c (n + 1) s)) (hd : s.done = false) (hlt : s.at_ < c.CL.length) (h5 : ¬ s.steps = 500) :
    Code.wp Try.prog body12 (Exit.then K Q) ⟨#[x0, x1, x2, x3, .pointer (some ⟨b4, 0, none⟩), x5, x6, x7, .pointer (some ⟨b8, 0, none⟩), u9, .pointer (some ⟨mb, 0, none⟩), u11, x12, x13, x14, x15, x16, x17, x18, x19, x20, x21, x22, x23, x24, x25, x26, x27, x28, x29, x30, x31, x32, x33, x34, u35, u36, u37, u38, u39, u40, u41, u42, u43, u44, u45, u46, u47, u48, u49, u50, u51, u52, u53, u54, u55, u56, u57, u58, u59, u60, u61, u62, u63, u64, u65, u66, u67, u68, u69, u70, u71, u72, u73, u74, u75, u76, u77, u78, u79, u80, u81, u82, u83, u84, u85, u86, u87, u88, u89, u90, u91, u92, u93, u94, u95, u96, u97, u98, x99, x100, x101, x102], []⟩ wr := by
  have H4 := Lib.hid (HM.out.stay.blk HB4.out.p (by decide))
  obtain ⟨sv, ev, sn, tv, hb, hr, hm⟩ := HM.out
  have HMB := Lib.hid hb
  have HRW := Lib.hid hr
  have um' : ∀ i, wr.cell? ⟨mb, i, none⟩ = _ := fun i => hb.cell i
  unfold cellsOf at um'
  rw [hd] at um'
  have fm' : ∀ i, wr.frozen? ⟨mb, i, none⟩ = false := fun i => hb.free i
  have up : ∀ i, wr.cell? ⟨b4, i, none⟩ = _ := fun i => H4.out.cell i
  have d1 : decide (s.at_ < (c.CL.length : Int)) = true := decide_eq_true hlt
  clear hb hr
  conv => arg 2; whnf
  have t5 : (s.steps == 500) = false := by simpa using h5
  have ks : wrap64 (s.steps + 1) = s.steps + 1 := by unfold wrap64; omega
  obtain ⟨k, hk⟩ : ∃ k : Nat, s.at_ = (k : Int) := ⟨s.at_.toNat, by omega⟩
  have hkl : k < c.CL.length := by omega
  have HS1 := Lib.hid (show ∀ j, M c w wS mb { s with steps := s.steps + 1 } ((wr.drewN j).setCell ⟨mb, 20, none⟩ (.int .i64 (s.steps + 1))) from fun j => (HM.out.drewN j).stepsK (s.steps + 1))
  go_upto_region 8 with (go_quiet (fail))
  go_cut [] from 35 to 98 (fun wy => M c w wS mb { s with steps := s.steps + 1 } wy)
  case first =>
    go_wp2
    go_meet
    exact HS1.out _
  have HC1 := Lib.hid hcut
  clear hcut HS1 um' fm' up H4 HMB HRW HM ks t5
  obtain ⟨wA, hwA⟩ : ∃ x, x = wc := ⟨_, rfl⟩
  subst hwA
  have H4 := Lib.hid (HC1.out.stay.blk HB4.out.p (by decide))
  obtain ⟨sv1, ev1, sn1, tv1, hb1, hr1, hm1⟩ := HC1.out
  have um1 : ∀ i, wA.cell? ⟨mb, i, none⟩ = _ := fun i => hb1.cell i
  unfold cellsOf at um1
  have up1 : ∀ i, wA.cell? ⟨b4, i, none⟩ = _ := fun i => H4.out.cell i
  obtain ⟨b, off, hkA, q⟩ := (HC.out.below HC1.out.below) (by omega)
  obtain ⟨p0, p1⟩ := q k hkl
  obtain ⟨op, hop⟩ : ∃ op, op = (c.CL.getD k (0, 0)).1 := ⟨_, rfl⟩
  obtain ⟨arg, harg⟩ : ∃ arg, arg = (c.CL.getD k (0, 0)).2 := ⟨_, rfl⟩
  rw [← hop] at p0
  rw [← harg] at p1
  have HOP := Lib.hid hop
  have HARG := Lib.hid harg
  have HB1 := Lib.hid hb1
  have HR1 := Lib.hid hr1
  dsimp only at um1
  rw [hk] at um1
  rw [hkA] at up1
  have k0 : (0 : Int) ≤ (k : Int) := by omega
  have k1 : (k : Int) < (c.CL.length : Int) := by omega
  have lm := hb1.lt
  have l4 := H4.out.lt
  have lb := World.block_lt_of_cell? wA _ p0
  simp at lb
  clear q hb1 hr1 hop harg
  go_upto_region 9 with fail
  go_cut [11] from 35 to 98 (fun v wy => ∃ ib, v = .pointer (some ⟨ib, 0, none⟩) ∧ M c w wS mb { s with steps := s.steps + 1 } wy ∧ Blk wy ib #[.int .i64 op, .int .i64 arg] 60)
  case first =>
    go_region
    all_goals
      go_wp2
      go_meet
      exact ⟨_, rfl, (HC1.out.alloc _).drew, (Blk.new _ _ _).drew⟩
  obtain ⟨ib, rfl, hM2, hib⟩ := hcut
  have HM2 := Lib.hid hM2
  have HI2 := Lib.hid hib
  clear hM2 hib um1 up1 p0 p1 lm l4 lb HB1 HR1 HC1 H4
  obtain ⟨wB, hwB⟩ : ∃ x, x = wc := ⟨_, rfl⟩
  subst hwB
  obtain ⟨sv2, ev2, sn2, tv2, hb2, hr2, hm2⟩ := HM2.out
  have um2 : ∀ i, wB.cell? ⟨mb, i, none⟩ = _ := fun i => hb2.cell i
  unfold cellsOf at um2
  dsimp only at um2
  have fm2 : ∀ i, wB.frozen? ⟨mb, i, none⟩ = false := fun i => hb2.free i
  have ka : wrap64 (s.at_ + 1) = s.at_ + 1 := by unfold wrap64; omega
  obtain ⟨s2, hs2⟩ : ∃ s2, s2 = { s with steps := s.steps + 1, at_ := s.at_ + 1 } := ⟨_, rfl⟩
  have HS2 := Lib.hid (show M c w wS mb s2 (wB.setCell ⟨mb, 7, none⟩ (.int .i64 (s.at_ + 1))) ∧ Blk (wB.setCell ⟨mb, 7, none⟩ (.int .i64 (s.at_ + 1))) ib #[.int .i64 op, .int .i64 arg] 60 from by rw [hs2]; exact two_sets HM2.out HI2.out _)
  have HS2D := Lib.hid hs2
  clear hs2 hb2 hr2
  have HK := Lib.hid hk
  clear hk
  go_upto_region 10 with fail
  go_cut [] from 35 to 98 (fun wy => M c w wS mb s2 wy ∧ Blk wy ib #[.int .i64 op, .int .i64 arg] 60)
  case first =>
    go_wp2
    go_meet
    exact HS2.out
  obtain ⟨hM3, hi3⟩ := hcut
  have HM3 := Lib.hid hM3
  have r0 : ∀ i, wc.cell? ⟨ib, i, none⟩ = _ := fun i => hi3.cell i
  clear hM3 hi3 HS2 um2 fm2 HM2 HI2 ka
  obtain ⟨hok, hop0⟩ := argOk_of hF hkl
  rw [← HOP.out] at hok hop0
  rw [← HARG.out] at hok
  have hopn : op = (op.toNat : Int) := by omega
  have hsm : Small s2 := by
    rw [HS2D.out]
    exact ⟨hst, by show s.ev.length ≤ 1000; omega, by show s.sent.length ≤ 1000; omega, by show s.tm.length ≤ 1000; omega⟩
  have HST := Lib.hid (step_any c w wc wc mb s2 op.toNat arg HM3.out.here hsm (HE.out) hok)
  have hnear := stepF_near c op.toNat arg s2 hsm.stack hok
  obtain ⟨s3, hs3⟩ : ∃ s3, s3 = stepF c op.toNat arg s2 := ⟨_, rfl⟩
  rw [← hs3] at HST hnear
  rw [← hopn] at HST
  have HGO := Lib.hid (HRU2.out.trans (loopF_go (n := n) hd hlt h5 (show s3 = _ by rw [hs3, HS2D.out, HK.out, Int.toNat_natCast, ← HOP.out, ← HARG.out])))
  have HNR := Lib.hid hnear
  clear hs3 hnear hok hop0 hopn
  go_wp2_with fail
  refine HST.out.mono ?_
  rintro e w5 ⟨rfl, hM5⟩
  have HM5 := Lib.hid (hM5.rebase HM3.out.stay)
  clear hM5 r0
  have H8 := Lib.hid (HM5.out.stay.blk HB4.out.r (by decide))
  obtain ⟨sv5, ev5, sn5, tv5, hb5, hr5, hm5⟩ := HM5.out
  have um5 : ∀ i, w5.cell? ⟨mb, i, none⟩ = _ := fun i => hb5.cell i
  unfold cellsOf at um5
  have u8 : ∀ i, w5.cell? ⟨b8, i, none⟩ = _ := fun i => H8.out.cell i
  have f8 : ∀ i, w5.frozen? ⟨b8, i, none⟩ = false := fun i => H8.out.free i
  have HR5 := Lib.hid hr5
  clear hb5 hr5
  by_cases hf3 : s3.failed = 0
  · rw [hf3] at um5
    go_wp2_with fail
    have n1 := HNR.out.ev
    have n2 := HNR.out.sent
    have n3 := HNR.out.tm
    have n4 := HNR.out.steps
    have n5 := HNR.out.at_
    rw [HS2D.out] at n1 n2 n3 n4 n5
    dsimp only at n1 n2 n3 n4 n5
    go_roundg n
    case measure => omega
    case rel => exact ⟨s3, HM5.out, HNR.out.stack, ⟨by omega, by omega, by omega⟩, by omega, ⟨by omega, by omega⟩, hf3, by omega, by rw [HGO.out, if_pos hf3]⟩
  · have t3 : (s3.failed != 0) = true := by simpa using hf3
    have t4 : (s3.failed == 0) = false := by simpa using hf3
    have HRN := Lib.hid (show runF c reg = (s3.failed, s3) by rw [HGO.out, if_neg hf3])
    go_wp2_with fail
    go_region
    go_wp2
    refine bodyPost_ret (results_ct rfl _ _ b8 37 _ (0, 0) _ rfl ((H8.out.twelve rfl _ _ _ _ _ _ _ _ _ _ _ _).drewN 1) Try.underlying37 rfl (by kernel_rfl)) rfl ?_
    exact ⟨below_drewN (below12 HR5.out.below HB4.out.lo _ _ _ _ _ _ _ _ _ _ _ _) 1, .inr ⟨by rw [HRN.out]; exact hf3, by rw [HRN.out]; rfl⟩⟩

end Go.Proofs.Ytmmbigfeojfedaa

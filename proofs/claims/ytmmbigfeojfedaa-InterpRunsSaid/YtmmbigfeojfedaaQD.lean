/- The reference's step: the other operations. -/
import Derived.Test.YtmmbigfeojfedaaQB
import Derived.Deep.RegionLaw
import Derived.BigRegion
import Derived.Test.YtmmbigfeojfedaaQC
namespace Go.Proofs.Ytmmbigfeojfedaa.R
open Go.RowKit Go.Proofs.YtmmbigfeojfedaaW.PrintWords

set_option maxRecDepth 100000 in
set_option maxHeartbeats 4000000 in
theorem one_2 (c : Env) (w0 wb w : World) (mb : Nat) (s s1 : St) (k : Nat) (kk : Nat) (hkk : kk < 8) (h : M c w0 wb mb s w) (hsm : Small s1) (hE : EnvOk c w0) (hC : IsCode w0 c.kA c.CL) (hcl : c.CL.length ≤ 1000) (hat : s.at_ = (k : Int)) (hkl : k < c.CL.length) (hop : c.CL.getD k (0, 0) = (2, (kk : Int))) (hs1 : s1 = { s with at_ := (k : Int) + 1 }) :
    Calls Try.prog 23 #[mp mb] w fun e w' => e = .returned (.tuple #[.bool (oneG c 2 (kk : Int) s1).1, .int .i64 (oneG c 2 (kk : Int) s1).2.1]) ∧ M c w0 wb mb (oneG c 2 (kk : Int) s1).2.2 w' := by
  obtain ⟨G, hG⟩ : ∃ G, G = oneG c 2 (kk : Int) s1 := ⟨_, rfl⟩
  rw [← hG]
  have HG := Lib.hid hG
  have HM := Lib.hid h
  have HS1 := Lib.hid hs1
  have HSM := Lib.hid hsm
  obtain ⟨sv, ev, sn, tv, hb, hr, hm⟩ := HM.out
  have um : ∀ i, w.cell? ⟨mb, i, none⟩ = _ := fun i => hb.cell i
  unfold cellsOf at um
  rw [hat] at um
  obtain ⟨b, off, hkA, q⟩ := (hC.below hr.below) (by omega)
  obtain ⟨p0, p1⟩ := q k hkl
  rw [hop] at p0 p1
  dsimp only at p0 p1
  rw [hkA] at um
  have k0 : (0 : Int) ≤ (k : Int) := by omega
  have k1 : (k : Int) < (c.CL.length : Int) := by omega
  have k2 : (k : Int) < 1000 := by omega
  have lm := hb.lt
  have lb := World.block_lt_of_cell? w _ p0
  simp at lb
  have HE := Lib.hid hE
  clear hE hC hcl hop hG h hb hr q hs1 hkl hkA hsm
  go_enter Try.func23, Try.ntmps23
  go_upto_region 1 with fail
  go_cut [4] (fun v wy => ∃ ib, v = .pointer (some ⟨ib, 0, none⟩) ∧ M c w0 wb mb s wy ∧ Blk wy ib #[.int .i64 2, .int .i64 (kk : Int)] 76)
  case first =>
    go_region
    all_goals
      go_wp2
      go_meet
      exact ⟨_, rfl, (HM.out.alloc _).drew, (Blk.new _ _ _).drew⟩
  obtain ⟨ib, rfl, hM2, hib⟩ := hcut
  have HM2 := Lib.hid hM2
  have HI2 := Lib.hid hib
  clear hM2 hib um p0 p1 lm lb HM
  obtain ⟨wA, hwA⟩ : ∃ x, x = wc := ⟨_, rfl⟩
  subst hwA
  obtain ⟨sv, ev, sn, tv, hb, hr, hm⟩ := HM2.out
  have um : ∀ i, wA.cell? ⟨mb, i, none⟩ = _ := fun i => hb.cell i
  unfold cellsOf at um
  rw [hat] at um
  have fm : ∀ i, wA.frozen? ⟨mb, i, none⟩ = false := fun i => hb.free i
  have ka : wrap64 ((k : Int) + 1) = (k : Int) + 1 := by unfold wrap64; omega
  have HA := Lib.hid (show M c w0 wb mb s1 (wA.setCell ⟨mb, 7, none⟩ (.int .i64 ((k : Int) + 1))) ∧ Blk (wA.setCell ⟨mb, 7, none⟩ (.int .i64 ((k : Int) + 1))) ib #[.int .i64 2, .int .i64 (kk : Int)] 76 from by rw [HS1.out]; exact at_sets HM2.out HI2.out _)
  clear hb hr hat
  go_upto_region 2 with fail
  go_cut [] (fun wy => M c w0 wb mb s1 wy ∧ Blk wy ib #[.int .i64 2, .int .i64 (kk : Int)] 76)
  case first =>
    go_wp2
    go_meet
    exact HA.out
  obtain ⟨hM3, hi3⟩ := hcut
  have HM3 := Lib.hid hM3
  have HI3 := Lib.hid hi3
  have u4 : ∀ i, wc.cell? ⟨ib, i, none⟩ = _ := fun i => hi3.cell i
  obtain ⟨sv, ev, sn, tv, hb, hr, hm⟩ := HM3.out
  obtain ⟨A, n, rfl⟩ := own_slice hr.st
  have um2 : ∀ i, wc.cell? ⟨mb, i, none⟩ = _ := fun i => hb.cell i
  have fm2 : ∀ i, wc.frozen? ⟨mb, i, none⟩ = false := fun i => hb.free i
  unfold cellsOf at um2
  have hst := HSM.out.stack
  clear hM3 hi3 hb hr HA HM2 HI2 um fm ka
  go_wp2_with fail
  refine (show Calls Try.prog 39 #[.int .i64 2] wc (fun e w' => e = .returned (.tuple #[.int .i64 0, .int .i64 1]) ∧ w' = wc) from effect_any 2 (by decide) wc).mono ?_
  rintro e w' ⟨rfl, hw'⟩
  subst w'
  have d1 : decide ((s1.stack.length : Int) < 0) = false := decide_eq_false (by omega)
  by_cases h16 : 16 < s1.stack.length - 0 + 1
  · have d2 : decide ((16 : Int) < ((s1.stack.length : Int) + 1)) = true := decide_eq_true (by omega)
    have HE2 := Lib.hid (show G = (false, 10, s1) by rw [HG.out, oneG_short (by show _ < (0 : Nat) ∨ 16 < _ - (0 : Nat) + (1 : Nat); omega)])
    go_wp2
    refine bodyPost_ret (results_tmp2 rfl _ _ _) rfl ?_
    rw [HE2.out]
    exact ⟨rfl, HM3.out⟩
  have d2 : decide ((16 : Int) < ((s1.stack.length : Int) + 1)) = false := decide_eq_false (by omega)
  have HGL := Lib.hid (show G = gF c 2 (kk : Int) (xOf 0 s1) (yOf 0 s1) (tookF 0 s1) by rw [HG.out, oneG_long (by show ¬ (_ < (0 : Nat) ∨ 16 < _ - (0 : Nat) + (1 : Nat)); omega)]; rfl)
  obtain ⟨s2, hs2⟩ : ∃ s2, s2 = tookF 0 s1 := ⟨_, rfl⟩
  have HT := Lib.hid (show s2 = s1 by rw [hs2, took0])
  rw [← hs2] at HGL
  clear hs2
  have HM4 := Lib.hid (show M c w0 wb mb s2 wc by rw [HT.out]; exact HM3.out)
  have HI4 := HI3
  obtain ⟨x, hx⟩ : ∃ x, x = xOf 0 s1 := ⟨_, rfl⟩
  obtain ⟨y, hy⟩ : ∃ y, y = yOf 0 s1 := ⟨_, rfl⟩
  rw [← hx, ← hy] at HGL
  obtain rfl : x = 0 := hx
  obtain rfl : y = 0 := hy
  have hl2 : s2.stack.length ≤ 16 := by rw [HT.out]; exact hst
  have hsm2 : Small s2 := by rw [HT.out]; exact HSM.out
  have HS2 := Lib.hid hsm2
  clear hsm2
  obtain ⟨z, hz⟩ : ∃ z, z = valF c 2 (kk : Int) 0 0 s2 := ⟨_, rfl⟩
  have HG3 := Lib.hid (show G = (true, 0, { s2 with stack := s2.stack ++ [z] }) from by rw [HGL.out, hz]; rfl)
  have HV := Lib.hid (show Calls Try.prog 43 #[mp mb, .agg #[.int .i64 2, .int .i64 (kk : Int)], .int .i64 0, .int .i64 0] wc fun e w' => e = .returned (.int .i64 z) ∧ M c w0 wc mb s2 w' from by rw [hz]; exact value_2 c w0 _ _ mb s2 kk hkk 0 0 HM4.out.here)
  clear hz HGL
  go_wp2_with fail
  refine HV.out.mono ?_
  rintro e w3 ⟨rfl, hM5⟩
  have HI5 := Lib.hid (hM5.stay.blk HI4.out (by decide))
  have HM5 := Lib.hid (hM5.rebase HM4.out.stay)
  clear u4 hM5
  have u5 : ∀ i, w3.cell? ⟨ib, i, none⟩ = _ := fun i => HI5.out.cell i
  go_wp2_with fail
  refine (pushb c w0 wb _ mb ib _ s2 z HM5.out HI5.out (by omega)).mono ?_
  rintro e w4 ⟨rfl, hM6, hi6⟩
  have HM6 := Lib.hid hM6
  clear u5 hM6 hi6
  go_wp2
  refine bodyPost_ret (results_tmp2 rfl _ _ _) rfl ?_
  rw [HG3.out]
  exact ⟨rfl, HM6.out⟩

set_option maxRecDepth 100000 in
set_option maxHeartbeats 4000000 in
theorem one_4 (c : Env) (w0 wb w : World) (mb : Nat) (s s1 : St) (k : Nat) (kk : Nat) (h : M c w0 wb mb s w) (hsm : Small s1) (hE : EnvOk c w0) (hC : IsCode w0 c.kA c.CL) (hcl : c.CL.length ≤ 1000) (hat : s.at_ = (k : Int)) (hkl : k < c.CL.length) (hop : c.CL.getD k (0, 0) = (4, (kk : Int))) (hs1 : s1 = { s with at_ := (k : Int) + 1 }) :
    Calls Try.prog 23 #[mp mb] w fun e w' => e = .returned (.tuple #[.bool (oneG c 4 (kk : Int) s1).1, .int .i64 (oneG c 4 (kk : Int) s1).2.1]) ∧ M c w0 wb mb (oneG c 4 (kk : Int) s1).2.2 w' := by
  obtain ⟨G, hG⟩ : ∃ G, G = oneG c 4 (kk : Int) s1 := ⟨_, rfl⟩
  rw [← hG]
  have HG := Lib.hid hG
  have HM := Lib.hid h
  have HS1 := Lib.hid hs1
  have HSM := Lib.hid hsm
  obtain ⟨sv, ev, sn, tv, hb, hr, hm⟩ := HM.out
  have um : ∀ i, w.cell? ⟨mb, i, none⟩ = _ := fun i => hb.cell i
  unfold cellsOf at um
  rw [hat] at um
  obtain ⟨b, off, hkA, q⟩ := (hC.below hr.below) (by omega)
  obtain ⟨p0, p1⟩ := q k hkl
  rw [hop] at p0 p1
  dsimp only at p0 p1
  rw [hkA] at um
  have k0 : (0 : Int) ≤ (k : Int) := by omega
  have k1 : (k : Int) < (c.CL.length : Int) := by omega
  have k2 : (k : Int) < 1000 := by omega
  have lm := hb.lt
  have lb := World.block_lt_of_cell? w _ p0
  simp at lb
  have HE := Lib.hid hE
  clear hE hC hcl hop hG h hb hr q hs1 hkl hkA hsm
  go_enter Try.func23, Try.ntmps23
  go_upto_region 1 with fail
  go_cut [4] (fun v wy => ∃ ib, v = .pointer (some ⟨ib, 0, none⟩) ∧ M c w0 wb mb s wy ∧ Blk wy ib #[.int .i64 4, .int .i64 (kk : Int)] 76)
  case first =>
    go_region
    all_goals
      go_wp2
      go_meet
      exact ⟨_, rfl, (HM.out.alloc _).drew, (Blk.new _ _ _).drew⟩
  obtain ⟨ib, rfl, hM2, hib⟩ := hcut
  have HM2 := Lib.hid hM2
  have HI2 := Lib.hid hib
  clear hM2 hib um p0 p1 lm lb HM
  obtain ⟨wA, hwA⟩ : ∃ x, x = wc := ⟨_, rfl⟩
  subst hwA
  obtain ⟨sv, ev, sn, tv, hb, hr, hm⟩ := HM2.out
  have um : ∀ i, wA.cell? ⟨mb, i, none⟩ = _ := fun i => hb.cell i
  unfold cellsOf at um
  rw [hat] at um
  have fm : ∀ i, wA.frozen? ⟨mb, i, none⟩ = false := fun i => hb.free i
  have ka : wrap64 ((k : Int) + 1) = (k : Int) + 1 := by unfold wrap64; omega
  have HA := Lib.hid (show M c w0 wb mb s1 (wA.setCell ⟨mb, 7, none⟩ (.int .i64 ((k : Int) + 1))) ∧ Blk (wA.setCell ⟨mb, 7, none⟩ (.int .i64 ((k : Int) + 1))) ib #[.int .i64 4, .int .i64 (kk : Int)] 76 from by rw [HS1.out]; exact at_sets HM2.out HI2.out _)
  clear hb hr hat
  go_upto_region 2 with fail
  go_cut [] (fun wy => M c w0 wb mb s1 wy ∧ Blk wy ib #[.int .i64 4, .int .i64 (kk : Int)] 76)
  case first =>
    go_wp2
    go_meet
    exact HA.out
  obtain ⟨hM3, hi3⟩ := hcut
  have HM3 := Lib.hid hM3
  have HI3 := Lib.hid hi3
  have u4 : ∀ i, wc.cell? ⟨ib, i, none⟩ = _ := fun i => hi3.cell i
  obtain ⟨sv, ev, sn, tv, hb, hr, hm⟩ := HM3.out
  obtain ⟨A, n, rfl⟩ := own_slice hr.st
  have um2 : ∀ i, wc.cell? ⟨mb, i, none⟩ = _ := fun i => hb.cell i
  have fm2 : ∀ i, wc.frozen? ⟨mb, i, none⟩ = false := fun i => hb.free i
  unfold cellsOf at um2
  have hst := HSM.out.stack
  clear hM3 hi3 hb hr HA HM2 HI2 um fm ka
  go_wp2_with fail
  refine (show Calls Try.prog 39 #[.int .i64 4] wc (fun e w' => e = .returned (.tuple #[.int .i64 0, .int .i64 1]) ∧ w' = wc) from effect_any 4 (by decide) wc).mono ?_
  rintro e w' ⟨rfl, hw'⟩
  subst w'
  have d1 : decide ((s1.stack.length : Int) < 0) = false := decide_eq_false (by omega)
  by_cases h16 : 16 < s1.stack.length - 0 + 1
  · have d2 : decide ((16 : Int) < ((s1.stack.length : Int) + 1)) = true := decide_eq_true (by omega)
    have HE2 := Lib.hid (show G = (false, 10, s1) by rw [HG.out, oneG_short (by show _ < (0 : Nat) ∨ 16 < _ - (0 : Nat) + (1 : Nat); omega)])
    go_wp2
    refine bodyPost_ret (results_tmp2 rfl _ _ _) rfl ?_
    rw [HE2.out]
    exact ⟨rfl, HM3.out⟩
  have d2 : decide ((16 : Int) < ((s1.stack.length : Int) + 1)) = false := decide_eq_false (by omega)
  have HGL := Lib.hid (show G = gF c 4 (kk : Int) (xOf 0 s1) (yOf 0 s1) (tookF 0 s1) by rw [HG.out, oneG_long (by show ¬ (_ < (0 : Nat) ∨ 16 < _ - (0 : Nat) + (1 : Nat)); omega)]; rfl)
  obtain ⟨s2, hs2⟩ : ∃ s2, s2 = tookF 0 s1 := ⟨_, rfl⟩
  have HT := Lib.hid (show s2 = s1 by rw [hs2, took0])
  rw [← hs2] at HGL
  clear hs2
  have HM4 := Lib.hid (show M c w0 wb mb s2 wc by rw [HT.out]; exact HM3.out)
  have HI4 := HI3
  obtain ⟨x, hx⟩ : ∃ x, x = xOf 0 s1 := ⟨_, rfl⟩
  obtain ⟨y, hy⟩ : ∃ y, y = yOf 0 s1 := ⟨_, rfl⟩
  rw [← hx, ← hy] at HGL
  obtain rfl : x = 0 := hx
  obtain rfl : y = 0 := hy
  have hl2 : s2.stack.length ≤ 16 := by rw [HT.out]; exact hst
  have hsm2 : Small s2 := by rw [HT.out]; exact HSM.out
  have HS2 := Lib.hid hsm2
  clear hsm2
  obtain ⟨z, hz⟩ : ∃ z, z = valF c 4 (kk : Int) 0 0 s2 := ⟨_, rfl⟩
  have HG3 := Lib.hid (show G = (true, 0, { s2 with stack := s2.stack ++ [z] }) from by rw [HGL.out, hz]; rfl)
  have HV := Lib.hid (show Calls Try.prog 43 #[mp mb, .agg #[.int .i64 4, .int .i64 (kk : Int)], .int .i64 0, .int .i64 0] wc fun e w' => e = .returned (.int .i64 z) ∧ M c w0 wc mb s2 w' from by rw [hz]; exact value_4 c w0 _ _ mb s2 kk 0 0 HE.out HM4.out.here)
  clear hz HGL
  go_wp2_with fail
  refine HV.out.mono ?_
  rintro e w3 ⟨rfl, hM5⟩
  have HI5 := Lib.hid (hM5.stay.blk HI4.out (by decide))
  have HM5 := Lib.hid (hM5.rebase HM4.out.stay)
  clear u4 hM5
  have u5 : ∀ i, w3.cell? ⟨ib, i, none⟩ = _ := fun i => HI5.out.cell i
  go_wp2_with fail
  refine (pushb c w0 wb _ mb ib _ s2 z HM5.out HI5.out (by omega)).mono ?_
  rintro e w4 ⟨rfl, hM6, hi6⟩
  have HM6 := Lib.hid hM6
  clear u5 hM6 hi6
  go_wp2
  refine bodyPost_ret (results_tmp2 rfl _ _ _) rfl ?_
  rw [HG3.out]
  exact ⟨rfl, HM6.out⟩

set_option maxRecDepth 100000 in
set_option maxHeartbeats 4000000 in
theorem one_11 (c : Env) (w0 wb w : World) (mb : Nat) (s s1 : St) (k : Nat) (a : Int) (h : M c w0 wb mb s w) (hsm : Small s1) (hE : EnvOk c w0) (hC : IsCode w0 c.kA c.CL) (hcl : c.CL.length ≤ 1000) (hat : s.at_ = (k : Int)) (hkl : k < c.CL.length) (hop : c.CL.getD k (0, 0) = (11, a)) (hs1 : s1 = { s with at_ := (k : Int) + 1 }) :
    Calls Try.prog 23 #[mp mb] w fun e w' => e = .returned (.tuple #[.bool (oneG c 11 a s1).1, .int .i64 (oneG c 11 a s1).2.1]) ∧ M c w0 wb mb (oneG c 11 a s1).2.2 w' := by
  obtain ⟨G, hG⟩ : ∃ G, G = oneG c 11 a s1 := ⟨_, rfl⟩
  rw [← hG]
  have HG := Lib.hid hG
  have HM := Lib.hid h
  have HS1 := Lib.hid hs1
  have HSM := Lib.hid hsm
  obtain ⟨sv, ev, sn, tv, hb, hr, hm⟩ := HM.out
  have um : ∀ i, w.cell? ⟨mb, i, none⟩ = _ := fun i => hb.cell i
  unfold cellsOf at um
  rw [hat] at um
  obtain ⟨b, off, hkA, q⟩ := (hC.below hr.below) (by omega)
  obtain ⟨p0, p1⟩ := q k hkl
  rw [hop] at p0 p1
  dsimp only at p0 p1
  rw [hkA] at um
  have k0 : (0 : Int) ≤ (k : Int) := by omega
  have k1 : (k : Int) < (c.CL.length : Int) := by omega
  have k2 : (k : Int) < 1000 := by omega
  have lm := hb.lt
  have lb := World.block_lt_of_cell? w _ p0
  simp at lb
  have HE := Lib.hid hE
  clear hE hC hcl hop hG h hb hr q hs1 hkl hkA hsm
  go_enter Try.func23, Try.ntmps23
  go_upto_region 1 with fail
  go_cut [4] (fun v wy => ∃ ib, v = .pointer (some ⟨ib, 0, none⟩) ∧ M c w0 wb mb s wy ∧ Blk wy ib #[.int .i64 11, .int .i64 a] 76)
  case first =>
    go_region
    all_goals
      go_wp2
      go_meet
      exact ⟨_, rfl, (HM.out.alloc _).drew, (Blk.new _ _ _).drew⟩
  obtain ⟨ib, rfl, hM2, hib⟩ := hcut
  have HM2 := Lib.hid hM2
  have HI2 := Lib.hid hib
  clear hM2 hib um p0 p1 lm lb HM
  obtain ⟨wA, hwA⟩ : ∃ x, x = wc := ⟨_, rfl⟩
  subst hwA
  obtain ⟨sv, ev, sn, tv, hb, hr, hm⟩ := HM2.out
  have um : ∀ i, wA.cell? ⟨mb, i, none⟩ = _ := fun i => hb.cell i
  unfold cellsOf at um
  rw [hat] at um
  have fm : ∀ i, wA.frozen? ⟨mb, i, none⟩ = false := fun i => hb.free i
  have ka : wrap64 ((k : Int) + 1) = (k : Int) + 1 := by unfold wrap64; omega
  have HA := Lib.hid (show M c w0 wb mb s1 (wA.setCell ⟨mb, 7, none⟩ (.int .i64 ((k : Int) + 1))) ∧ Blk (wA.setCell ⟨mb, 7, none⟩ (.int .i64 ((k : Int) + 1))) ib #[.int .i64 11, .int .i64 a] 76 from by rw [HS1.out]; exact at_sets HM2.out HI2.out _)
  clear hb hr hat
  go_upto_region 2 with fail
  go_cut [] (fun wy => M c w0 wb mb s1 wy ∧ Blk wy ib #[.int .i64 11, .int .i64 a] 76)
  case first =>
    go_wp2
    go_meet
    exact HA.out
  obtain ⟨hM3, hi3⟩ := hcut
  have HM3 := Lib.hid hM3
  have HI3 := Lib.hid hi3
  have u4 : ∀ i, wc.cell? ⟨ib, i, none⟩ = _ := fun i => hi3.cell i
  obtain ⟨sv, ev, sn, tv, hb, hr, hm⟩ := HM3.out
  obtain ⟨A, n, rfl⟩ := own_slice hr.st
  have um2 : ∀ i, wc.cell? ⟨mb, i, none⟩ = _ := fun i => hb.cell i
  have fm2 : ∀ i, wc.frozen? ⟨mb, i, none⟩ = false := fun i => hb.free i
  unfold cellsOf at um2
  have hst := HSM.out.stack
  clear hM3 hi3 hb hr HA HM2 HI2 um fm ka
  go_wp2_with fail
  refine (show Calls Try.prog 39 #[.int .i64 11] wc (fun e w' => e = .returned (.tuple #[.int .i64 1, .int .i64 1]) ∧ w' = wc) from effect_any 11 (by decide) wc).mono ?_
  rintro e w' ⟨rfl, hw'⟩
  subst w'
  by_cases hT : s1.stack.length < 1
  · have d1 : decide ((s1.stack.length : Int) < 1) = true := decide_eq_true (by omega)
    have HE2 := Lib.hid (show G = (false, 10, s1) by rw [HG.out, oneG_short (by show _ < (1 : Nat) ∨ 16 < _ - (1 : Nat) + (1 : Nat); omega)])
    go_wp2
    refine bodyPost_ret (results_tmp2 rfl _ _ _) rfl ?_
    rw [HE2.out]
    exact ⟨rfl, HM3.out⟩
  have d1 : decide ((s1.stack.length : Int) < 1) = false := decide_eq_false (by omega)
  have d2 : decide ((16 : Int) < (((s1.stack.length : Int) - 1) + 1)) = false := decide_eq_false (by omega)
  have HGL := Lib.hid (show G = gF c 11 a (xOf 1 s1) (yOf 1 s1) (tookF 1 s1) by rw [HG.out, oneG_long (by show ¬ (_ < (1 : Nat) ∨ 16 < _ - (1 : Nat) + (1 : Nat)); omega)]; rfl)
  go_wp2_with fail
  refine (pops c w0 wb _ mb ib _ s1 HM3.out HI3.out (by omega) hst).mono ?_
  rintro e w2 ⟨rfl, hM4, hi4⟩
  obtain ⟨s2, hs2⟩ : ∃ s2, s2 = tookF 1 s1 := ⟨_, rfl⟩
  obtain ⟨x, hx⟩ : ∃ x, x = xOf 1 s1 := ⟨_, rfl⟩
  have hx' : s1.stack.getD (s1.stack.length - 1) 0 = x := hx.symm
  rw [hx']
  rw [← hs2] at HGL hM4
  rw [← hx] at HGL
  obtain ⟨y, hy⟩ : ∃ y, y = yOf 1 s1 := ⟨_, rfl⟩
  rw [← hy] at HGL
  obtain rfl : y = 0 := hy
  have hl2 : s2.stack.length + 1 ≤ 16 := by rw [hs2, took_len]; omega
  have HS2 := Lib.hid (show Small s2 by rw [hs2]; exact ⟨by rw [took_len]; omega, HSM.out.ev, HSM.out.sent, HSM.out.tm⟩)
  have HM4 := Lib.hid hM4
  have HI4 := Lib.hid hi4
  have HX := Lib.hid hx
  clear hM4 hi4 hx' hs2 hx u4 um2 fm2 d1 d2 hT HM3 HI3
  have u4 : ∀ i, w2.cell? ⟨ib, i, none⟩ = _ := fun i => HI4.out.cell i
  obtain ⟨z, hz⟩ : ∃ z, z = valF c 11 a x 0 s2 := ⟨_, rfl⟩
  have HG3 := Lib.hid (show G = (true, 0, { s2 with stack := s2.stack ++ [z] }) from by rw [HGL.out, hz]; rfl)
  have HV := Lib.hid (show Calls Try.prog 43 #[mp mb, .agg #[.int .i64 11, .int .i64 a], .int .i64 x, .int .i64 0] w2 fun e w' => e = .returned (.int .i64 z) ∧ M c w0 w2 mb s2 w' from by rw [hz]; exact value_plain c w0 _ _ mb s2 11 a x 0 HM4.out.here rfl)
  clear hz HGL
  go_wp2_with fail
  refine HV.out.mono ?_
  rintro e w3 ⟨rfl, hM5⟩
  have HI5 := Lib.hid (hM5.stay.blk HI4.out (by decide))
  have HM5 := Lib.hid (hM5.rebase HM4.out.stay)
  clear u4 hM5
  have u5 : ∀ i, w3.cell? ⟨ib, i, none⟩ = _ := fun i => HI5.out.cell i
  go_wp2_with fail
  refine (pushb c w0 wb _ mb ib _ s2 z HM5.out HI5.out (by omega)).mono ?_
  rintro e w4 ⟨rfl, hM6, hi6⟩
  have HM6 := Lib.hid hM6
  clear u5 hM6 hi6
  go_wp2
  refine bodyPost_ret (results_tmp2 rfl _ _ _) rfl ?_
  rw [HG3.out]
  exact ⟨rfl, HM6.out⟩

set_option maxRecDepth 100000 in
set_option maxHeartbeats 4000000 in
theorem one_6 (c : Env) (w0 wb w : World) (mb : Nat) (s s1 : St) (k : Nat) (a : Int) (h : M c w0 wb mb s w) (hsm : Small s1) (hE : EnvOk c w0) (hC : IsCode w0 c.kA c.CL) (hcl : c.CL.length ≤ 1000) (hat : s.at_ = (k : Int)) (hkl : k < c.CL.length) (hop : c.CL.getD k (0, 0) = (6, a)) (hs1 : s1 = { s with at_ := (k : Int) + 1 }) :
    Calls Try.prog 23 #[mp mb] w fun e w' => e = .returned (.tuple #[.bool (oneG c 6 a s1).1, .int .i64 (oneG c 6 a s1).2.1]) ∧ M c w0 wb mb (oneG c 6 a s1).2.2 w' := by
  obtain ⟨G, hG⟩ : ∃ G, G = oneG c 6 a s1 := ⟨_, rfl⟩
  rw [← hG]
  have HG := Lib.hid hG
  have HM := Lib.hid h
  have HS1 := Lib.hid hs1
  have HSM := Lib.hid hsm
  obtain ⟨sv, ev, sn, tv, hb, hr, hm⟩ := HM.out
  have um : ∀ i, w.cell? ⟨mb, i, none⟩ = _ := fun i => hb.cell i
  unfold cellsOf at um
  rw [hat] at um
  obtain ⟨b, off, hkA, q⟩ := (hC.below hr.below) (by omega)
  obtain ⟨p0, p1⟩ := q k hkl
  rw [hop] at p0 p1
  dsimp only at p0 p1
  rw [hkA] at um
  have k0 : (0 : Int) ≤ (k : Int) := by omega
  have k1 : (k : Int) < (c.CL.length : Int) := by omega
  have k2 : (k : Int) < 1000 := by omega
  have lm := hb.lt
  have lb := World.block_lt_of_cell? w _ p0
  simp at lb
  have HE := Lib.hid hE
  clear hE hC hcl hop hG h hb hr q hs1 hkl hkA hsm
  go_enter Try.func23, Try.ntmps23
  go_upto_region 1 with fail
  go_cut [4] (fun v wy => ∃ ib, v = .pointer (some ⟨ib, 0, none⟩) ∧ M c w0 wb mb s wy ∧ Blk wy ib #[.int .i64 6, .int .i64 a] 76)
  case first =>
    go_region
    all_goals
      go_wp2
      go_meet
      exact ⟨_, rfl, (HM.out.alloc _).drew, (Blk.new _ _ _).drew⟩
  obtain ⟨ib, rfl, hM2, hib⟩ := hcut
  have HM2 := Lib.hid hM2
  have HI2 := Lib.hid hib
  clear hM2 hib um p0 p1 lm lb HM
  obtain ⟨wA, hwA⟩ : ∃ x, x = wc := ⟨_, rfl⟩
  subst hwA
  obtain ⟨sv, ev, sn, tv, hb, hr, hm⟩ := HM2.out
  have um : ∀ i, wA.cell? ⟨mb, i, none⟩ = _ := fun i => hb.cell i
  unfold cellsOf at um
  rw [hat] at um
  have fm : ∀ i, wA.frozen? ⟨mb, i, none⟩ = false := fun i => hb.free i
  have ka : wrap64 ((k : Int) + 1) = (k : Int) + 1 := by unfold wrap64; omega
  have HA := Lib.hid (show M c w0 wb mb s1 (wA.setCell ⟨mb, 7, none⟩ (.int .i64 ((k : Int) + 1))) ∧ Blk (wA.setCell ⟨mb, 7, none⟩ (.int .i64 ((k : Int) + 1))) ib #[.int .i64 6, .int .i64 a] 76 from by rw [HS1.out]; exact at_sets HM2.out HI2.out _)
  clear hb hr hat
  go_upto_region 2 with fail
  go_cut [] (fun wy => M c w0 wb mb s1 wy ∧ Blk wy ib #[.int .i64 6, .int .i64 a] 76)
  case first =>
    go_wp2
    go_meet
    exact HA.out
  obtain ⟨hM3, hi3⟩ := hcut
  have HM3 := Lib.hid hM3
  have HI3 := Lib.hid hi3
  have u4 : ∀ i, wc.cell? ⟨ib, i, none⟩ = _ := fun i => hi3.cell i
  obtain ⟨sv, ev, sn, tv, hb, hr, hm⟩ := HM3.out
  obtain ⟨A, n, rfl⟩ := own_slice hr.st
  have um2 : ∀ i, wc.cell? ⟨mb, i, none⟩ = _ := fun i => hb.cell i
  have fm2 : ∀ i, wc.frozen? ⟨mb, i, none⟩ = false := fun i => hb.free i
  unfold cellsOf at um2
  have hst := HSM.out.stack
  clear hM3 hi3 hb hr HA HM2 HI2 um fm ka
  go_wp2_with fail
  refine (show Calls Try.prog 39 #[.int .i64 6] wc (fun e w' => e = .returned (.tuple #[.int .i64 2, .int .i64 1]) ∧ w' = wc) from effect_any 6 (by decide) wc).mono ?_
  rintro e w' ⟨rfl, hw'⟩
  subst w'
  by_cases hT : s1.stack.length < 2
  · have d1 : decide ((s1.stack.length : Int) < 2) = true := decide_eq_true (by omega)
    have HE2 := Lib.hid (show G = (false, 10, s1) by rw [HG.out, oneG_short (by show _ < (2 : Nat) ∨ 16 < _ - (2 : Nat) + (1 : Nat); omega)])
    go_wp2
    refine bodyPost_ret (results_tmp2 rfl _ _ _) rfl ?_
    rw [HE2.out]
    exact ⟨rfl, HM3.out⟩
  have d1 : decide ((s1.stack.length : Int) < 2) = false := decide_eq_false (by omega)
  have d2 : decide ((16 : Int) < (((s1.stack.length : Int) - 2) + 1)) = false := decide_eq_false (by omega)
  have HGL := Lib.hid (show G = gF c 6 a (xOf 2 s1) (yOf 2 s1) (tookF 2 s1) by rw [HG.out, oneG_long (by show ¬ (_ < (2 : Nat) ∨ 16 < _ - (2 : Nat) + (1 : Nat)); omega)]; rfl)
  go_wp2_with fail
  refine (pops c w0 wb _ mb ib _ s1 HM3.out HI3.out (by omega) hst).mono ?_
  rintro e w1 ⟨rfl, hM5, hi5⟩
  have HM5 := Lib.hid hM5
  have HI5 := Lib.hid hi5
  have hx' : yOf 2 s1 = s1.stack.getD (s1.stack.length - 1) 0 := rfl
  rw [← hx']
  obtain ⟨y, hy⟩ : ∃ y, y = yOf 2 s1 := ⟨_, rfl⟩
  rw [← hy] at HGL
  rw [← hy]
  clear hM5 hi5 hx' hy
  go_wp2_with fail
  refine (pops2 c w0 wb _ mb ib _ s1 HM5.out HI5.out (by omega) hst).mono ?_
  rintro e w2 ⟨rfl, hM4, hi4⟩
  obtain ⟨s2, hs2⟩ : ∃ s2, s2 = tookF 2 s1 := ⟨_, rfl⟩
  obtain ⟨x, hx⟩ : ∃ x, x = xOf 2 s1 := ⟨_, rfl⟩
  rw [← hs2] at HGL hM4
  rw [← hx] at HGL
  rw [← hx]
  have hl2 : s2.stack.length + 2 ≤ 16 := by rw [hs2, took_len]; omega
  have HS2 := Lib.hid (show Small s2 by rw [hs2]; exact ⟨by rw [took_len]; omega, HSM.out.ev, HSM.out.sent, HSM.out.tm⟩)
  have HM4 := Lib.hid hM4
  have HI4 := Lib.hid hi4
  have HX := Lib.hid hx
  clear hM4 hi4 hs2 hx u4 um2 fm2 d1 d2 hT HM3 HI3 HM5 HI5
  have u4 : ∀ i, w2.cell? ⟨ib, i, none⟩ = _ := fun i => HI4.out.cell i
  obtain ⟨z, hz⟩ : ∃ z, z = valF c 6 a x y s2 := ⟨_, rfl⟩
  have HG3 := Lib.hid (show G = (true, 0, { s2 with stack := s2.stack ++ [z] }) from by rw [HGL.out, hz]; rfl)
  have HV := Lib.hid (show Calls Try.prog 43 #[mp mb, .agg #[.int .i64 6, .int .i64 a], .int .i64 x, .int .i64 y] w2 fun e w' => e = .returned (.int .i64 z) ∧ M c w0 w2 mb s2 w' from by rw [hz]; exact value_plain c w0 _ _ mb s2 6 a x y HM4.out.here rfl)
  clear hz HGL
  go_wp2_with fail
  refine HV.out.mono ?_
  rintro e w3 ⟨rfl, hM5⟩
  have HI5 := Lib.hid (hM5.stay.blk HI4.out (by decide))
  have HM5 := Lib.hid (hM5.rebase HM4.out.stay)
  clear u4 hM5
  have u5 : ∀ i, w3.cell? ⟨ib, i, none⟩ = _ := fun i => HI5.out.cell i
  go_wp2_with fail
  refine (pushb c w0 wb _ mb ib _ s2 z HM5.out HI5.out (by omega)).mono ?_
  rintro e w4 ⟨rfl, hM6, hi6⟩
  have HM6 := Lib.hid hM6
  clear u5 hM6 hi6
  go_wp2
  refine bodyPost_ret (results_tmp2 rfl _ _ _) rfl ?_
  rw [HG3.out]
  exact ⟨rfl, HM6.out⟩
end Go.Proofs.Ytmmbigfeojfedaa.R
namespace Go.Proofs.Ytmmbigfeojfedaa.R
open Go.RowKit Go.Proofs.YtmmbigfeojfedaaW.PrintWords

set_option maxRecDepth 100000 in
set_option maxHeartbeats 4000000 in
theorem one_7 (c : Env) (w0 wb w : World) (mb : Nat) (s s1 : St) (k : Nat) (a : Int) (h : M c w0 wb mb s w) (hsm : Small s1) (hE : EnvOk c w0) (hC : IsCode w0 c.kA c.CL) (hcl : c.CL.length ≤ 1000) (hat : s.at_ = (k : Int)) (hkl : k < c.CL.length) (hop : c.CL.getD k (0, 0) = (7, a)) (hs1 : s1 = { s with at_ := (k : Int) + 1 }) :
    Calls Try.prog 23 #[mp mb] w fun e w' => e = .returned (.tuple #[.bool (oneG c 7 a s1).1, .int .i64 (oneG c 7 a s1).2.1]) ∧ M c w0 wb mb (oneG c 7 a s1).2.2 w' := by
  obtain ⟨G, hG⟩ : ∃ G, G = oneG c 7 a s1 := ⟨_, rfl⟩
  rw [← hG]
  have HG := Lib.hid hG
  have HM := Lib.hid h
  have HS1 := Lib.hid hs1
  have HSM := Lib.hid hsm
  obtain ⟨sv, ev, sn, tv, hb, hr, hm⟩ := HM.out
  have um : ∀ i, w.cell? ⟨mb, i, none⟩ = _ := fun i => hb.cell i
  unfold cellsOf at um
  rw [hat] at um
  obtain ⟨b, off, hkA, q⟩ := (hC.below hr.below) (by omega)
  obtain ⟨p0, p1⟩ := q k hkl
  rw [hop] at p0 p1
  dsimp only at p0 p1
  rw [hkA] at um
  have k0 : (0 : Int) ≤ (k : Int) := by omega
  have k1 : (k : Int) < (c.CL.length : Int) := by omega
  have k2 : (k : Int) < 1000 := by omega
  have lm := hb.lt
  have lb := World.block_lt_of_cell? w _ p0
  simp at lb
  have HE := Lib.hid hE
  clear hE hC hcl hop hG h hb hr q hs1 hkl hkA hsm
  go_enter Try.func23, Try.ntmps23
  go_upto_region 1 with fail
  go_cut [4] (fun v wy => ∃ ib, v = .pointer (some ⟨ib, 0, none⟩) ∧ M c w0 wb mb s wy ∧ Blk wy ib #[.int .i64 7, .int .i64 a] 76)
  case first =>
    go_region
    all_goals
      go_wp2
      go_meet
      exact ⟨_, rfl, (HM.out.alloc _).drew, (Blk.new _ _ _).drew⟩
  obtain ⟨ib, rfl, hM2, hib⟩ := hcut
  have HM2 := Lib.hid hM2
  have HI2 := Lib.hid hib
  clear hM2 hib um p0 p1 lm lb HM
  obtain ⟨wA, hwA⟩ : ∃ x, x = wc := ⟨_, rfl⟩
  subst hwA
  obtain ⟨sv, ev, sn, tv, hb, hr, hm⟩ := HM2.out
  have um : ∀ i, wA.cell? ⟨mb, i, none⟩ = _ := fun i => hb.cell i
  unfold cellsOf at um
  rw [hat] at um
  have fm : ∀ i, wA.frozen? ⟨mb, i, none⟩ = false := fun i => hb.free i
  have ka : wrap64 ((k : Int) + 1) = (k : Int) + 1 := by unfold wrap64; omega
  have HA := Lib.hid (show M c w0 wb mb s1 (wA.setCell ⟨mb, 7, none⟩ (.int .i64 ((k : Int) + 1))) ∧ Blk (wA.setCell ⟨mb, 7, none⟩ (.int .i64 ((k : Int) + 1))) ib #[.int .i64 7, .int .i64 a] 76 from by rw [HS1.out]; exact at_sets HM2.out HI2.out _)
  clear hb hr hat
  go_upto_region 2 with fail
  go_cut [] (fun wy => M c w0 wb mb s1 wy ∧ Blk wy ib #[.int .i64 7, .int .i64 a] 76)
  case first =>
    go_wp2
    go_meet
    exact HA.out
  obtain ⟨hM3, hi3⟩ := hcut
  have HM3 := Lib.hid hM3
  have HI3 := Lib.hid hi3
  have u4 : ∀ i, wc.cell? ⟨ib, i, none⟩ = _ := fun i => hi3.cell i
  obtain ⟨sv, ev, sn, tv, hb, hr, hm⟩ := HM3.out
  obtain ⟨A, n, rfl⟩ := own_slice hr.st
  have um2 : ∀ i, wc.cell? ⟨mb, i, none⟩ = _ := fun i => hb.cell i
  have fm2 : ∀ i, wc.frozen? ⟨mb, i, none⟩ = false := fun i => hb.free i
  unfold cellsOf at um2
  have hst := HSM.out.stack
  clear hM3 hi3 hb hr HA HM2 HI2 um fm ka
  go_wp2_with fail
  refine (show Calls Try.prog 39 #[.int .i64 7] wc (fun e w' => e = .returned (.tuple #[.int .i64 2, .int .i64 1]) ∧ w' = wc) from effect_any 7 (by decide) wc).mono ?_
  rintro e w' ⟨rfl, hw'⟩
  subst w'
  by_cases hT : s1.stack.length < 2
  · have d1 : decide ((s1.stack.length : Int) < 2) = true := decide_eq_true (by omega)
    have HE2 := Lib.hid (show G = (false, 10, s1) by rw [HG.out, oneG_short (by show _ < (2 : Nat) ∨ 16 < _ - (2 : Nat) + (1 : Nat); omega)])
    go_wp2
    refine bodyPost_ret (results_tmp2 rfl _ _ _) rfl ?_
    rw [HE2.out]
    exact ⟨rfl, HM3.out⟩
  have d1 : decide ((s1.stack.length : Int) < 2) = false := decide_eq_false (by omega)
  have d2 : decide ((16 : Int) < (((s1.stack.length : Int) - 2) + 1)) = false := decide_eq_false (by omega)
  have HGL := Lib.hid (show G = gF c 7 a (xOf 2 s1) (yOf 2 s1) (tookF 2 s1) by rw [HG.out, oneG_long (by show ¬ (_ < (2 : Nat) ∨ 16 < _ - (2 : Nat) + (1 : Nat)); omega)]; rfl)
  go_wp2_with fail
  refine (pops c w0 wb _ mb ib _ s1 HM3.out HI3.out (by omega) hst).mono ?_
  rintro e w1 ⟨rfl, hM5, hi5⟩
  have HM5 := Lib.hid hM5
  have HI5 := Lib.hid hi5
  have hx' : yOf 2 s1 = s1.stack.getD (s1.stack.length - 1) 0 := rfl
  rw [← hx']
  obtain ⟨y, hy⟩ : ∃ y, y = yOf 2 s1 := ⟨_, rfl⟩
  rw [← hy] at HGL
  rw [← hy]
  clear hM5 hi5 hx' hy
  go_wp2_with fail
  refine (pops2 c w0 wb _ mb ib _ s1 HM5.out HI5.out (by omega) hst).mono ?_
  rintro e w2 ⟨rfl, hM4, hi4⟩
  obtain ⟨s2, hs2⟩ : ∃ s2, s2 = tookF 2 s1 := ⟨_, rfl⟩
  obtain ⟨x, hx⟩ : ∃ x, x = xOf 2 s1 := ⟨_, rfl⟩
  rw [← hs2] at HGL hM4
  rw [← hx] at HGL
  rw [← hx]
  have hl2 : s2.stack.length + 2 ≤ 16 := by rw [hs2, took_len]; omega
  have HS2 := Lib.hid (show Small s2 by rw [hs2]; exact ⟨by rw [took_len]; omega, HSM.out.ev, HSM.out.sent, HSM.out.tm⟩)
  have HM4 := Lib.hid hM4
  have HI4 := Lib.hid hi4
  have HX := Lib.hid hx
  clear hM4 hi4 hs2 hx u4 um2 fm2 d1 d2 hT HM3 HI3 HM5 HI5
  have u4 : ∀ i, w2.cell? ⟨ib, i, none⟩ = _ := fun i => HI4.out.cell i
  obtain ⟨z, hz⟩ : ∃ z, z = valF c 7 a x y s2 := ⟨_, rfl⟩
  have HG3 := Lib.hid (show G = (true, 0, { s2 with stack := s2.stack ++ [z] }) from by rw [HGL.out, hz]; rfl)
  have HV := Lib.hid (show Calls Try.prog 43 #[mp mb, .agg #[.int .i64 7, .int .i64 a], .int .i64 x, .int .i64 y] w2 fun e w' => e = .returned (.int .i64 z) ∧ M c w0 w2 mb s2 w' from by rw [hz]; exact value_plain c w0 _ _ mb s2 7 a x y HM4.out.here rfl)
  clear hz HGL
  go_wp2_with fail
  refine HV.out.mono ?_
  rintro e w3 ⟨rfl, hM5⟩
  have HI5 := Lib.hid (hM5.stay.blk HI4.out (by decide))
  have HM5 := Lib.hid (hM5.rebase HM4.out.stay)
  clear u4 hM5
  have u5 : ∀ i, w3.cell? ⟨ib, i, none⟩ = _ := fun i => HI5.out.cell i
  go_wp2_with fail
  refine (pushb c w0 wb _ mb ib _ s2 z HM5.out HI5.out (by omega)).mono ?_
  rintro e w4 ⟨rfl, hM6, hi6⟩
  have HM6 := Lib.hid hM6
  clear u5 hM6 hi6
  go_wp2
  refine bodyPost_ret (results_tmp2 rfl _ _ _) rfl ?_
  rw [HG3.out]
  exact ⟨rfl, HM6.out⟩

set_option maxRecDepth 100000 in
set_option maxHeartbeats 4000000 in
theorem one_8 (c : Env) (w0 wb w : World) (mb : Nat) (s s1 : St) (k : Nat) (a : Int) (h : M c w0 wb mb s w) (hsm : Small s1) (hE : EnvOk c w0) (hC : IsCode w0 c.kA c.CL) (hcl : c.CL.length ≤ 1000) (hat : s.at_ = (k : Int)) (hkl : k < c.CL.length) (hop : c.CL.getD k (0, 0) = (8, a)) (hs1 : s1 = { s with at_ := (k : Int) + 1 }) :
    Calls Try.prog 23 #[mp mb] w fun e w' => e = .returned (.tuple #[.bool (oneG c 8 a s1).1, .int .i64 (oneG c 8 a s1).2.1]) ∧ M c w0 wb mb (oneG c 8 a s1).2.2 w' := by
  obtain ⟨G, hG⟩ : ∃ G, G = oneG c 8 a s1 := ⟨_, rfl⟩
  rw [← hG]
  have HG := Lib.hid hG
  have HM := Lib.hid h
  have HS1 := Lib.hid hs1
  have HSM := Lib.hid hsm
  obtain ⟨sv, ev, sn, tv, hb, hr, hm⟩ := HM.out
  have um : ∀ i, w.cell? ⟨mb, i, none⟩ = _ := fun i => hb.cell i
  unfold cellsOf at um
  rw [hat] at um
  obtain ⟨b, off, hkA, q⟩ := (hC.below hr.below) (by omega)
  obtain ⟨p0, p1⟩ := q k hkl
  rw [hop] at p0 p1
  dsimp only at p0 p1
  rw [hkA] at um
  have k0 : (0 : Int) ≤ (k : Int) := by omega
  have k1 : (k : Int) < (c.CL.length : Int) := by omega
  have k2 : (k : Int) < 1000 := by omega
  have lm := hb.lt
  have lb := World.block_lt_of_cell? w _ p0
  simp at lb
  have HE := Lib.hid hE
  clear hE hC hcl hop hG h hb hr q hs1 hkl hkA hsm
  go_enter Try.func23, Try.ntmps23
  go_upto_region 1 with fail
  go_cut [4] (fun v wy => ∃ ib, v = .pointer (some ⟨ib, 0, none⟩) ∧ M c w0 wb mb s wy ∧ Blk wy ib #[.int .i64 8, .int .i64 a] 76)
  case first =>
    go_region
    all_goals
      go_wp2
      go_meet
      exact ⟨_, rfl, (HM.out.alloc _).drew, (Blk.new _ _ _).drew⟩
  obtain ⟨ib, rfl, hM2, hib⟩ := hcut
  have HM2 := Lib.hid hM2
  have HI2 := Lib.hid hib
  clear hM2 hib um p0 p1 lm lb HM
  obtain ⟨wA, hwA⟩ : ∃ x, x = wc := ⟨_, rfl⟩
  subst hwA
  obtain ⟨sv, ev, sn, tv, hb, hr, hm⟩ := HM2.out
  have um : ∀ i, wA.cell? ⟨mb, i, none⟩ = _ := fun i => hb.cell i
  unfold cellsOf at um
  rw [hat] at um
  have fm : ∀ i, wA.frozen? ⟨mb, i, none⟩ = false := fun i => hb.free i
  have ka : wrap64 ((k : Int) + 1) = (k : Int) + 1 := by unfold wrap64; omega
  have HA := Lib.hid (show M c w0 wb mb s1 (wA.setCell ⟨mb, 7, none⟩ (.int .i64 ((k : Int) + 1))) ∧ Blk (wA.setCell ⟨mb, 7, none⟩ (.int .i64 ((k : Int) + 1))) ib #[.int .i64 8, .int .i64 a] 76 from by rw [HS1.out]; exact at_sets HM2.out HI2.out _)
  clear hb hr hat
  go_upto_region 2 with fail
  go_cut [] (fun wy => M c w0 wb mb s1 wy ∧ Blk wy ib #[.int .i64 8, .int .i64 a] 76)
  case first =>
    go_wp2
    go_meet
    exact HA.out
  obtain ⟨hM3, hi3⟩ := hcut
  have HM3 := Lib.hid hM3
  have HI3 := Lib.hid hi3
  have u4 : ∀ i, wc.cell? ⟨ib, i, none⟩ = _ := fun i => hi3.cell i
  obtain ⟨sv, ev, sn, tv, hb, hr, hm⟩ := HM3.out
  obtain ⟨A, n, rfl⟩ := own_slice hr.st
  have um2 : ∀ i, wc.cell? ⟨mb, i, none⟩ = _ := fun i => hb.cell i
  have fm2 : ∀ i, wc.frozen? ⟨mb, i, none⟩ = false := fun i => hb.free i
  unfold cellsOf at um2
  have hst := HSM.out.stack
  clear hM3 hi3 hb hr HA HM2 HI2 um fm ka
  go_wp2_with fail
  refine (show Calls Try.prog 39 #[.int .i64 8] wc (fun e w' => e = .returned (.tuple #[.int .i64 2, .int .i64 1]) ∧ w' = wc) from effect_any 8 (by decide) wc).mono ?_
  rintro e w' ⟨rfl, hw'⟩
  subst w'
  by_cases hT : s1.stack.length < 2
  · have d1 : decide ((s1.stack.length : Int) < 2) = true := decide_eq_true (by omega)
    have HE2 := Lib.hid (show G = (false, 10, s1) by rw [HG.out, oneG_short (by show _ < (2 : Nat) ∨ 16 < _ - (2 : Nat) + (1 : Nat); omega)])
    go_wp2
    refine bodyPost_ret (results_tmp2 rfl _ _ _) rfl ?_
    rw [HE2.out]
    exact ⟨rfl, HM3.out⟩
  have d1 : decide ((s1.stack.length : Int) < 2) = false := decide_eq_false (by omega)
  have d2 : decide ((16 : Int) < (((s1.stack.length : Int) - 2) + 1)) = false := decide_eq_false (by omega)
  have HGL := Lib.hid (show G = gF c 8 a (xOf 2 s1) (yOf 2 s1) (tookF 2 s1) by rw [HG.out, oneG_long (by show ¬ (_ < (2 : Nat) ∨ 16 < _ - (2 : Nat) + (1 : Nat)); omega)]; rfl)
  go_wp2_with fail
  refine (pops c w0 wb _ mb ib _ s1 HM3.out HI3.out (by omega) hst).mono ?_
  rintro e w1 ⟨rfl, hM5, hi5⟩
  have HM5 := Lib.hid hM5
  have HI5 := Lib.hid hi5
  have hx' : yOf 2 s1 = s1.stack.getD (s1.stack.length - 1) 0 := rfl
  rw [← hx']
  obtain ⟨y, hy⟩ : ∃ y, y = yOf 2 s1 := ⟨_, rfl⟩
  rw [← hy] at HGL
  rw [← hy]
  clear hM5 hi5 hx' hy
  go_wp2_with fail
  refine (pops2 c w0 wb _ mb ib _ s1 HM5.out HI5.out (by omega) hst).mono ?_
  rintro e w2 ⟨rfl, hM4, hi4⟩
  obtain ⟨s2, hs2⟩ : ∃ s2, s2 = tookF 2 s1 := ⟨_, rfl⟩
  obtain ⟨x, hx⟩ : ∃ x, x = xOf 2 s1 := ⟨_, rfl⟩
  rw [← hs2] at HGL hM4
  rw [← hx] at HGL
  rw [← hx]
  have hl2 : s2.stack.length + 2 ≤ 16 := by rw [hs2, took_len]; omega
  have HS2 := Lib.hid (show Small s2 by rw [hs2]; exact ⟨by rw [took_len]; omega, HSM.out.ev, HSM.out.sent, HSM.out.tm⟩)
  have HM4 := Lib.hid hM4
  have HI4 := Lib.hid hi4
  have HX := Lib.hid hx
  clear hM4 hi4 hs2 hx u4 um2 fm2 d1 d2 hT HM3 HI3 HM5 HI5
  have u4 : ∀ i, w2.cell? ⟨ib, i, none⟩ = _ := fun i => HI4.out.cell i
  obtain ⟨z, hz⟩ : ∃ z, z = valF c 8 a x y s2 := ⟨_, rfl⟩
  have HG3 := Lib.hid (show G = (true, 0, { s2 with stack := s2.stack ++ [z] }) from by rw [HGL.out, hz]; rfl)
  have HV := Lib.hid (show Calls Try.prog 43 #[mp mb, .agg #[.int .i64 8, .int .i64 a], .int .i64 x, .int .i64 y] w2 fun e w' => e = .returned (.int .i64 z) ∧ M c w0 w2 mb s2 w' from by rw [hz]; exact value_plain c w0 _ _ mb s2 8 a x y HM4.out.here rfl)
  clear hz HGL
  go_wp2_with fail
  refine HV.out.mono ?_
  rintro e w3 ⟨rfl, hM5⟩
  have HI5 := Lib.hid (hM5.stay.blk HI4.out (by decide))
  have HM5 := Lib.hid (hM5.rebase HM4.out.stay)
  clear u4 hM5
  have u5 : ∀ i, w3.cell? ⟨ib, i, none⟩ = _ := fun i => HI5.out.cell i
  go_wp2_with fail
  refine (pushb c w0 wb _ mb ib _ s2 z HM5.out HI5.out (by omega)).mono ?_
  rintro e w4 ⟨rfl, hM6, hi6⟩
  have HM6 := Lib.hid hM6
  clear u5 hM6 hi6
  go_wp2
  refine bodyPost_ret (results_tmp2 rfl _ _ _) rfl ?_
  rw [HG3.out]
  exact ⟨rfl, HM6.out⟩

set_option maxRecDepth 100000 in
set_option maxHeartbeats 4000000 in
theorem one_9 (c : Env) (w0 wb w : World) (mb : Nat) (s s1 : St) (k : Nat) (a : Int) (h : M c w0 wb mb s w) (hsm : Small s1) (hE : EnvOk c w0) (hC : IsCode w0 c.kA c.CL) (hcl : c.CL.length ≤ 1000) (hat : s.at_ = (k : Int)) (hkl : k < c.CL.length) (hop : c.CL.getD k (0, 0) = (9, a)) (hs1 : s1 = { s with at_ := (k : Int) + 1 }) :
    Calls Try.prog 23 #[mp mb] w fun e w' => e = .returned (.tuple #[.bool (oneG c 9 a s1).1, .int .i64 (oneG c 9 a s1).2.1]) ∧ M c w0 wb mb (oneG c 9 a s1).2.2 w' := by
  obtain ⟨G, hG⟩ : ∃ G, G = oneG c 9 a s1 := ⟨_, rfl⟩
  rw [← hG]
  have HG := Lib.hid hG
  have HM := Lib.hid h
  have HS1 := Lib.hid hs1
  have HSM := Lib.hid hsm
  obtain ⟨sv, ev, sn, tv, hb, hr, hm⟩ := HM.out
  have um : ∀ i, w.cell? ⟨mb, i, none⟩ = _ := fun i => hb.cell i
  unfold cellsOf at um
  rw [hat] at um
  obtain ⟨b, off, hkA, q⟩ := (hC.below hr.below) (by omega)
  obtain ⟨p0, p1⟩ := q k hkl
  rw [hop] at p0 p1
  dsimp only at p0 p1
  rw [hkA] at um
  have k0 : (0 : Int) ≤ (k : Int) := by omega
  have k1 : (k : Int) < (c.CL.length : Int) := by omega
  have k2 : (k : Int) < 1000 := by omega
  have lm := hb.lt
  have lb := World.block_lt_of_cell? w _ p0
  simp at lb
  have HE := Lib.hid hE
  clear hE hC hcl hop hG h hb hr q hs1 hkl hkA hsm
  go_enter Try.func23, Try.ntmps23
  go_upto_region 1 with fail
  go_cut [4] (fun v wy => ∃ ib, v = .pointer (some ⟨ib, 0, none⟩) ∧ M c w0 wb mb s wy ∧ Blk wy ib #[.int .i64 9, .int .i64 a] 76)
  case first =>
    go_region
    all_goals
      go_wp2
      go_meet
      exact ⟨_, rfl, (HM.out.alloc _).drew, (Blk.new _ _ _).drew⟩
  obtain ⟨ib, rfl, hM2, hib⟩ := hcut
  have HM2 := Lib.hid hM2
  have HI2 := Lib.hid hib
  clear hM2 hib um p0 p1 lm lb HM
  obtain ⟨wA, hwA⟩ : ∃ x, x = wc := ⟨_, rfl⟩
  subst hwA
  obtain ⟨sv, ev, sn, tv, hb, hr, hm⟩ := HM2.out
  have um : ∀ i, wA.cell? ⟨mb, i, none⟩ = _ := fun i => hb.cell i
  unfold cellsOf at um
  rw [hat] at um
  have fm : ∀ i, wA.frozen? ⟨mb, i, none⟩ = false := fun i => hb.free i
  have ka : wrap64 ((k : Int) + 1) = (k : Int) + 1 := by unfold wrap64; omega
  have HA := Lib.hid (show M c w0 wb mb s1 (wA.setCell ⟨mb, 7, none⟩ (.int .i64 ((k : Int) + 1))) ∧ Blk (wA.setCell ⟨mb, 7, none⟩ (.int .i64 ((k : Int) + 1))) ib #[.int .i64 9, .int .i64 a] 76 from by rw [HS1.out]; exact at_sets HM2.out HI2.out _)
  clear hb hr hat
  go_upto_region 2 with fail
  go_cut [] (fun wy => M c w0 wb mb s1 wy ∧ Blk wy ib #[.int .i64 9, .int .i64 a] 76)
  case first =>
    go_wp2
    go_meet
    exact HA.out
  obtain ⟨hM3, hi3⟩ := hcut
  have HM3 := Lib.hid hM3
  have HI3 := Lib.hid hi3
  have u4 : ∀ i, wc.cell? ⟨ib, i, none⟩ = _ := fun i => hi3.cell i
  obtain ⟨sv, ev, sn, tv, hb, hr, hm⟩ := HM3.out
  obtain ⟨A, n, rfl⟩ := own_slice hr.st
  have um2 : ∀ i, wc.cell? ⟨mb, i, none⟩ = _ := fun i => hb.cell i
  have fm2 : ∀ i, wc.frozen? ⟨mb, i, none⟩ = false := fun i => hb.free i
  unfold cellsOf at um2
  have hst := HSM.out.stack
  clear hM3 hi3 hb hr HA HM2 HI2 um fm ka
  go_wp2_with fail
  refine (show Calls Try.prog 39 #[.int .i64 9] wc (fun e w' => e = .returned (.tuple #[.int .i64 2, .int .i64 1]) ∧ w' = wc) from effect_any 9 (by decide) wc).mono ?_
  rintro e w' ⟨rfl, hw'⟩
  subst w'
  by_cases hT : s1.stack.length < 2
  · have d1 : decide ((s1.stack.length : Int) < 2) = true := decide_eq_true (by omega)
    have HE2 := Lib.hid (show G = (false, 10, s1) by rw [HG.out, oneG_short (by show _ < (2 : Nat) ∨ 16 < _ - (2 : Nat) + (1 : Nat); omega)])
    go_wp2
    refine bodyPost_ret (results_tmp2 rfl _ _ _) rfl ?_
    rw [HE2.out]
    exact ⟨rfl, HM3.out⟩
  have d1 : decide ((s1.stack.length : Int) < 2) = false := decide_eq_false (by omega)
  have d2 : decide ((16 : Int) < (((s1.stack.length : Int) - 2) + 1)) = false := decide_eq_false (by omega)
  have HGL := Lib.hid (show G = gF c 9 a (xOf 2 s1) (yOf 2 s1) (tookF 2 s1) by rw [HG.out, oneG_long (by show ¬ (_ < (2 : Nat) ∨ 16 < _ - (2 : Nat) + (1 : Nat)); omega)]; rfl)
  go_wp2_with fail
  refine (pops c w0 wb _ mb ib _ s1 HM3.out HI3.out (by omega) hst).mono ?_
  rintro e w1 ⟨rfl, hM5, hi5⟩
  have HM5 := Lib.hid hM5
  have HI5 := Lib.hid hi5
  have hx' : yOf 2 s1 = s1.stack.getD (s1.stack.length - 1) 0 := rfl
  rw [← hx']
  obtain ⟨y, hy⟩ : ∃ y, y = yOf 2 s1 := ⟨_, rfl⟩
  rw [← hy] at HGL
  rw [← hy]
  clear hM5 hi5 hx' hy
  go_wp2_with fail
  refine (pops2 c w0 wb _ mb ib _ s1 HM5.out HI5.out (by omega) hst).mono ?_
  rintro e w2 ⟨rfl, hM4, hi4⟩
  obtain ⟨s2, hs2⟩ : ∃ s2, s2 = tookF 2 s1 := ⟨_, rfl⟩
  obtain ⟨x, hx⟩ : ∃ x, x = xOf 2 s1 := ⟨_, rfl⟩
  rw [← hs2] at HGL hM4
  rw [← hx] at HGL
  rw [← hx]
  have hl2 : s2.stack.length + 2 ≤ 16 := by rw [hs2, took_len]; omega
  have HS2 := Lib.hid (show Small s2 by rw [hs2]; exact ⟨by rw [took_len]; omega, HSM.out.ev, HSM.out.sent, HSM.out.tm⟩)
  have HM4 := Lib.hid hM4
  have HI4 := Lib.hid hi4
  have HX := Lib.hid hx
  clear hM4 hi4 hs2 hx u4 um2 fm2 d1 d2 hT HM3 HI3 HM5 HI5
  have u4 : ∀ i, w2.cell? ⟨ib, i, none⟩ = _ := fun i => HI4.out.cell i
  obtain ⟨z, hz⟩ : ∃ z, z = valF c 9 a x y s2 := ⟨_, rfl⟩
  have HG3 := Lib.hid (show G = (true, 0, { s2 with stack := s2.stack ++ [z] }) from by rw [HGL.out, hz]; rfl)
  have HV := Lib.hid (show Calls Try.prog 43 #[mp mb, .agg #[.int .i64 9, .int .i64 a], .int .i64 x, .int .i64 y] w2 fun e w' => e = .returned (.int .i64 z) ∧ M c w0 w2 mb s2 w' from by rw [hz]; exact value_plain c w0 _ _ mb s2 9 a x y HM4.out.here rfl)
  clear hz HGL
  go_wp2_with fail
  refine HV.out.mono ?_
  rintro e w3 ⟨rfl, hM5⟩
  have HI5 := Lib.hid (hM5.stay.blk HI4.out (by decide))
  have HM5 := Lib.hid (hM5.rebase HM4.out.stay)
  clear u4 hM5
  have u5 : ∀ i, w3.cell? ⟨ib, i, none⟩ = _ := fun i => HI5.out.cell i
  go_wp2_with fail
  refine (pushb c w0 wb _ mb ib _ s2 z HM5.out HI5.out (by omega)).mono ?_
  rintro e w4 ⟨rfl, hM6, hi6⟩
  have HM6 := Lib.hid hM6
  clear u5 hM6 hi6
  go_wp2
  refine bodyPost_ret (results_tmp2 rfl _ _ _) rfl ?_
  rw [HG3.out]
  exact ⟨rfl, HM6.out⟩

set_option maxRecDepth 100000 in
set_option maxHeartbeats 4000000 in
theorem one_10 (c : Env) (w0 wb w : World) (mb : Nat) (s s1 : St) (k : Nat) (a : Int) (h : M c w0 wb mb s w) (hsm : Small s1) (hE : EnvOk c w0) (hC : IsCode w0 c.kA c.CL) (hcl : c.CL.length ≤ 1000) (hat : s.at_ = (k : Int)) (hkl : k < c.CL.length) (hop : c.CL.getD k (0, 0) = (10, a)) (hs1 : s1 = { s with at_ := (k : Int) + 1 }) :
    Calls Try.prog 23 #[mp mb] w fun e w' => e = .returned (.tuple #[.bool (oneG c 10 a s1).1, .int .i64 (oneG c 10 a s1).2.1]) ∧ M c w0 wb mb (oneG c 10 a s1).2.2 w' := by
  obtain ⟨G, hG⟩ : ∃ G, G = oneG c 10 a s1 := ⟨_, rfl⟩
  rw [← hG]
  have HG := Lib.hid hG
  have HM := Lib.hid h
  have HS1 := Lib.hid hs1
  have HSM := Lib.hid hsm
  obtain ⟨sv, ev, sn, tv, hb, hr, hm⟩ := HM.out
  have um : ∀ i, w.cell? ⟨mb, i, none⟩ = _ := fun i => hb.cell i
  unfold cellsOf at um
  rw [hat] at um
  obtain ⟨b, off, hkA, q⟩ := (hC.below hr.below) (by omega)
  obtain ⟨p0, p1⟩ := q k hkl
  rw [hop] at p0 p1
  dsimp only at p0 p1
  rw [hkA] at um
  have k0 : (0 : Int) ≤ (k : Int) := by omega
  have k1 : (k : Int) < (c.CL.length : Int) := by omega
  have k2 : (k : Int) < 1000 := by omega
  have lm := hb.lt
  have lb := World.block_lt_of_cell? w _ p0
  simp at lb
  have HE := Lib.hid hE
  clear hE hC hcl hop hG h hb hr q hs1 hkl hkA hsm
  go_enter Try.func23, Try.ntmps23
  go_upto_region 1 with fail
  go_cut [4] (fun v wy => ∃ ib, v = .pointer (some ⟨ib, 0, none⟩) ∧ M c w0 wb mb s wy ∧ Blk wy ib #[.int .i64 10, .int .i64 a] 76)
  case first =>
    go_region
    all_goals
      go_wp2
      go_meet
      exact ⟨_, rfl, (HM.out.alloc _).drew, (Blk.new _ _ _).drew⟩
  obtain ⟨ib, rfl, hM2, hib⟩ := hcut
  have HM2 := Lib.hid hM2
  have HI2 := Lib.hid hib
  clear hM2 hib um p0 p1 lm lb HM
  obtain ⟨wA, hwA⟩ : ∃ x, x = wc := ⟨_, rfl⟩
  subst hwA
  obtain ⟨sv, ev, sn, tv, hb, hr, hm⟩ := HM2.out
  have um : ∀ i, wA.cell? ⟨mb, i, none⟩ = _ := fun i => hb.cell i
  unfold cellsOf at um
  rw [hat] at um
  have fm : ∀ i, wA.frozen? ⟨mb, i, none⟩ = false := fun i => hb.free i
  have ka : wrap64 ((k : Int) + 1) = (k : Int) + 1 := by unfold wrap64; omega
  have HA := Lib.hid (show M c w0 wb mb s1 (wA.setCell ⟨mb, 7, none⟩ (.int .i64 ((k : Int) + 1))) ∧ Blk (wA.setCell ⟨mb, 7, none⟩ (.int .i64 ((k : Int) + 1))) ib #[.int .i64 10, .int .i64 a] 76 from by rw [HS1.out]; exact at_sets HM2.out HI2.out _)
  clear hb hr hat
  go_upto_region 2 with fail
  go_cut [] (fun wy => M c w0 wb mb s1 wy ∧ Blk wy ib #[.int .i64 10, .int .i64 a] 76)
  case first =>
    go_wp2
    go_meet
    exact HA.out
  obtain ⟨hM3, hi3⟩ := hcut
  have HM3 := Lib.hid hM3
  have HI3 := Lib.hid hi3
  have u4 : ∀ i, wc.cell? ⟨ib, i, none⟩ = _ := fun i => hi3.cell i
  obtain ⟨sv, ev, sn, tv, hb, hr, hm⟩ := HM3.out
  obtain ⟨A, n, rfl⟩ := own_slice hr.st
  have um2 : ∀ i, wc.cell? ⟨mb, i, none⟩ = _ := fun i => hb.cell i
  have fm2 : ∀ i, wc.frozen? ⟨mb, i, none⟩ = false := fun i => hb.free i
  unfold cellsOf at um2
  have hst := HSM.out.stack
  clear hM3 hi3 hb hr HA HM2 HI2 um fm ka
  go_wp2_with fail
  refine (show Calls Try.prog 39 #[.int .i64 10] wc (fun e w' => e = .returned (.tuple #[.int .i64 2, .int .i64 1]) ∧ w' = wc) from effect_any 10 (by decide) wc).mono ?_
  rintro e w' ⟨rfl, hw'⟩
  subst w'
  by_cases hT : s1.stack.length < 2
  · have d1 : decide ((s1.stack.length : Int) < 2) = true := decide_eq_true (by omega)
    have HE2 := Lib.hid (show G = (false, 10, s1) by rw [HG.out, oneG_short (by show _ < (2 : Nat) ∨ 16 < _ - (2 : Nat) + (1 : Nat); omega)])
    go_wp2
    refine bodyPost_ret (results_tmp2 rfl _ _ _) rfl ?_
    rw [HE2.out]
    exact ⟨rfl, HM3.out⟩
  have d1 : decide ((s1.stack.length : Int) < 2) = false := decide_eq_false (by omega)
  have d2 : decide ((16 : Int) < (((s1.stack.length : Int) - 2) + 1)) = false := decide_eq_false (by omega)
  have HGL := Lib.hid (show G = gF c 10 a (xOf 2 s1) (yOf 2 s1) (tookF 2 s1) by rw [HG.out, oneG_long (by show ¬ (_ < (2 : Nat) ∨ 16 < _ - (2 : Nat) + (1 : Nat)); omega)]; rfl)
  go_wp2_with fail
  refine (pops c w0 wb _ mb ib _ s1 HM3.out HI3.out (by omega) hst).mono ?_
  rintro e w1 ⟨rfl, hM5, hi5⟩
  have HM5 := Lib.hid hM5
  have HI5 := Lib.hid hi5
  have hx' : yOf 2 s1 = s1.stack.getD (s1.stack.length - 1) 0 := rfl
  rw [← hx']
  obtain ⟨y, hy⟩ : ∃ y, y = yOf 2 s1 := ⟨_, rfl⟩
  rw [← hy] at HGL
  rw [← hy]
  clear hM5 hi5 hx' hy
  go_wp2_with fail
  refine (pops2 c w0 wb _ mb ib _ s1 HM5.out HI5.out (by omega) hst).mono ?_
  rintro e w2 ⟨rfl, hM4, hi4⟩
  obtain ⟨s2, hs2⟩ : ∃ s2, s2 = tookF 2 s1 := ⟨_, rfl⟩
  obtain ⟨x, hx⟩ : ∃ x, x = xOf 2 s1 := ⟨_, rfl⟩
  rw [← hs2] at HGL hM4
  rw [← hx] at HGL
  rw [← hx]
  have hl2 : s2.stack.length + 2 ≤ 16 := by rw [hs2, took_len]; omega
  have HS2 := Lib.hid (show Small s2 by rw [hs2]; exact ⟨by rw [took_len]; omega, HSM.out.ev, HSM.out.sent, HSM.out.tm⟩)
  have HM4 := Lib.hid hM4
  have HI4 := Lib.hid hi4
  have HX := Lib.hid hx
  clear hM4 hi4 hs2 hx u4 um2 fm2 d1 d2 hT HM3 HI3 HM5 HI5
  have u4 : ∀ i, w2.cell? ⟨ib, i, none⟩ = _ := fun i => HI4.out.cell i
  obtain ⟨z, hz⟩ : ∃ z, z = valF c 10 a x y s2 := ⟨_, rfl⟩
  have HG3 := Lib.hid (show G = (true, 0, { s2 with stack := s2.stack ++ [z] }) from by rw [HGL.out, hz]; rfl)
  have HV := Lib.hid (show Calls Try.prog 43 #[mp mb, .agg #[.int .i64 10, .int .i64 a], .int .i64 x, .int .i64 y] w2 fun e w' => e = .returned (.int .i64 z) ∧ M c w0 w2 mb s2 w' from by rw [hz]; exact value_plain c w0 _ _ mb s2 10 a x y HM4.out.here rfl)
  clear hz HGL
  go_wp2_with fail
  refine HV.out.mono ?_
  rintro e w3 ⟨rfl, hM5⟩
  have HI5 := Lib.hid (hM5.stay.blk HI4.out (by decide))
  have HM5 := Lib.hid (hM5.rebase HM4.out.stay)
  clear u4 hM5
  have u5 : ∀ i, w3.cell? ⟨ib, i, none⟩ = _ := fun i => HI5.out.cell i
  go_wp2_with fail
  refine (pushb c w0 wb _ mb ib _ s2 z HM5.out HI5.out (by omega)).mono ?_
  rintro e w4 ⟨rfl, hM6, hi6⟩
  have HM6 := Lib.hid hM6
  clear u5 hM6 hi6
  go_wp2
  refine bodyPost_ret (results_tmp2 rfl _ _ _) rfl ?_
  rw [HG3.out]
  exact ⟨rfl, HM6.out⟩
end Go.Proofs.Ytmmbigfeojfedaa.R
namespace Go.Proofs.Ytmmbigfeojfedaa.R
open Go.RowKit Go.Proofs.YtmmbigfeojfedaaW.PrintWords

set_option maxRecDepth 100000 in
set_option maxHeartbeats 4000000 in
theorem one_14 (c : Env) (w0 wb w : World) (mb : Nat) (s s1 : St) (k : Nat) (a : Int) (h : M c w0 wb mb s w) (hsm : Small s1) (hE : EnvOk c w0) (hC : IsCode w0 c.kA c.CL) (hcl : c.CL.length ≤ 1000) (hat : s.at_ = (k : Int)) (hkl : k < c.CL.length) (hop : c.CL.getD k (0, 0) = (14, a)) (hs1 : s1 = { s with at_ := (k : Int) + 1 }) :
    Calls Try.prog 23 #[mp mb] w fun e w' => e = .returned (.tuple #[.bool (oneG c 14 a s1).1, .int .i64 (oneG c 14 a s1).2.1]) ∧ M c w0 wb mb (oneG c 14 a s1).2.2 w' := by
  obtain ⟨G, hG⟩ : ∃ G, G = oneG c 14 a s1 := ⟨_, rfl⟩
  rw [← hG]
  have HG := Lib.hid hG
  have HM := Lib.hid h
  have HS1 := Lib.hid hs1
  have HSM := Lib.hid hsm
  obtain ⟨sv, ev, sn, tv, hb, hr, hm⟩ := HM.out
  have um : ∀ i, w.cell? ⟨mb, i, none⟩ = _ := fun i => hb.cell i
  unfold cellsOf at um
  rw [hat] at um
  obtain ⟨b, off, hkA, q⟩ := (hC.below hr.below) (by omega)
  obtain ⟨p0, p1⟩ := q k hkl
  rw [hop] at p0 p1
  dsimp only at p0 p1
  rw [hkA] at um
  have k0 : (0 : Int) ≤ (k : Int) := by omega
  have k1 : (k : Int) < (c.CL.length : Int) := by omega
  have k2 : (k : Int) < 1000 := by omega
  have lm := hb.lt
  have lb := World.block_lt_of_cell? w _ p0
  simp at lb
  have HE := Lib.hid hE
  clear hE hC hcl hop hG h hb hr q hs1 hkl hkA hsm
  go_enter Try.func23, Try.ntmps23
  go_upto_region 1 with fail
  go_cut [4] (fun v wy => ∃ ib, v = .pointer (some ⟨ib, 0, none⟩) ∧ M c w0 wb mb s wy ∧ Blk wy ib #[.int .i64 14, .int .i64 a] 76)
  case first =>
    go_region
    all_goals
      go_wp2
      go_meet
      exact ⟨_, rfl, (HM.out.alloc _).drew, (Blk.new _ _ _).drew⟩
  obtain ⟨ib, rfl, hM2, hib⟩ := hcut
  have HM2 := Lib.hid hM2
  have HI2 := Lib.hid hib
  clear hM2 hib um p0 p1 lm lb HM
  obtain ⟨wA, hwA⟩ : ∃ x, x = wc := ⟨_, rfl⟩
  subst hwA
  obtain ⟨sv, ev, sn, tv, hb, hr, hm⟩ := HM2.out
  have um : ∀ i, wA.cell? ⟨mb, i, none⟩ = _ := fun i => hb.cell i
  unfold cellsOf at um
  rw [hat] at um
  have fm : ∀ i, wA.frozen? ⟨mb, i, none⟩ = false := fun i => hb.free i
  have ka : wrap64 ((k : Int) + 1) = (k : Int) + 1 := by unfold wrap64; omega
  have HA := Lib.hid (show M c w0 wb mb s1 (wA.setCell ⟨mb, 7, none⟩ (.int .i64 ((k : Int) + 1))) ∧ Blk (wA.setCell ⟨mb, 7, none⟩ (.int .i64 ((k : Int) + 1))) ib #[.int .i64 14, .int .i64 a] 76 from by rw [HS1.out]; exact at_sets HM2.out HI2.out _)
  clear hb hr hat
  go_upto_region 2 with fail
  go_cut [] (fun wy => M c w0 wb mb s1 wy ∧ Blk wy ib #[.int .i64 14, .int .i64 a] 76)
  case first =>
    go_wp2
    go_meet
    exact HA.out
  obtain ⟨hM3, hi3⟩ := hcut
  have HM3 := Lib.hid hM3
  have HI3 := Lib.hid hi3
  have u4 : ∀ i, wc.cell? ⟨ib, i, none⟩ = _ := fun i => hi3.cell i
  obtain ⟨sv, ev, sn, tv, hb, hr, hm⟩ := HM3.out
  obtain ⟨A, n, rfl⟩ := own_slice hr.st
  have um2 : ∀ i, wc.cell? ⟨mb, i, none⟩ = _ := fun i => hb.cell i
  have fm2 : ∀ i, wc.frozen? ⟨mb, i, none⟩ = false := fun i => hb.free i
  unfold cellsOf at um2
  have hst := HSM.out.stack
  clear hM3 hi3 hb hr HA HM2 HI2 um fm ka
  go_wp2_with fail
  refine (show Calls Try.prog 39 #[.int .i64 14] wc (fun e w' => e = .returned (.tuple #[.int .i64 2, .int .i64 2]) ∧ w' = wc) from effect_any 14 (by decide) wc).mono ?_
  rintro e w' ⟨rfl, hw'⟩
  subst w'
  by_cases hT : s1.stack.length < 2
  · have d1 : decide ((s1.stack.length : Int) < 2) = true := decide_eq_true (by omega)
    have HE2 := Lib.hid (show G = (false, 10, s1) by rw [HG.out, oneG_short (by show _ < (2 : Nat) ∨ 16 < _ - (2 : Nat) + (2 : Nat); omega)])
    go_wp2
    refine bodyPost_ret (results_tmp2 rfl _ _ _) rfl ?_
    rw [HE2.out]
    exact ⟨rfl, HM3.out⟩
  have d1 : decide ((s1.stack.length : Int) < 2) = false := decide_eq_false (by omega)
  have d2 : decide ((16 : Int) < (((s1.stack.length : Int) - 2) + 2)) = false := decide_eq_false (by omega)
  have HGL := Lib.hid (show G = gF c 14 a (xOf 2 s1) (yOf 2 s1) (tookF 2 s1) by rw [HG.out, oneG_long (by show ¬ (_ < (2 : Nat) ∨ 16 < _ - (2 : Nat) + (2 : Nat)); omega)]; rfl)
  go_wp2_with fail
  refine (pops c w0 wb _ mb ib _ s1 HM3.out HI3.out (by omega) hst).mono ?_
  rintro e w1 ⟨rfl, hM5, hi5⟩
  have HM5 := Lib.hid hM5
  have HI5 := Lib.hid hi5
  have hx' : yOf 2 s1 = s1.stack.getD (s1.stack.length - 1) 0 := rfl
  rw [← hx']
  obtain ⟨y, hy⟩ : ∃ y, y = yOf 2 s1 := ⟨_, rfl⟩
  rw [← hy] at HGL
  rw [← hy]
  clear hM5 hi5 hx' hy
  go_wp2_with fail
  refine (pops2 c w0 wb _ mb ib _ s1 HM5.out HI5.out (by omega) hst).mono ?_
  rintro e w2 ⟨rfl, hM4, hi4⟩
  obtain ⟨s2, hs2⟩ : ∃ s2, s2 = tookF 2 s1 := ⟨_, rfl⟩
  obtain ⟨x, hx⟩ : ∃ x, x = xOf 2 s1 := ⟨_, rfl⟩
  rw [← hs2] at HGL hM4
  rw [← hx] at HGL
  rw [← hx]
  have hl2 : s2.stack.length + 2 ≤ 16 := by rw [hs2, took_len]; omega
  have HS2 := Lib.hid (show Small s2 by rw [hs2]; exact ⟨by rw [took_len]; omega, HSM.out.ev, HSM.out.sent, HSM.out.tm⟩)
  have HM4 := Lib.hid hM4
  have HI4 := Lib.hid hi4
  have HX := Lib.hid hx
  clear hM4 hi4 hs2 hx u4 um2 fm2 d1 d2 hT HM3 HI3 HM5 HI5
  have u4 : ∀ i, w2.cell? ⟨ib, i, none⟩ = _ := fun i => HI4.out.cell i
  go_wp2_with fail
  refine (pushb c w0 wb _ mb ib _ s2 y HM4.out HI4.out (by omega)).mono ?_
  rintro e w3 ⟨rfl, hM5, hi5⟩
  have HM5 := Lib.hid hM5
  have HI5 := Lib.hid hi5
  clear u4 hM5 hi5
  have u5 : ∀ i, w3.cell? ⟨ib, i, none⟩ = _ := fun i => HI5.out.cell i
  go_wp2_with fail
  refine (pushb c w0 wb _ mb ib _ _ x HM5.out HI5.out (by simp only [List.length_append, List.length_cons, List.length_nil]; omega)).mono ?_
  rintro e w4 ⟨rfl, hM6, hi6⟩
  have HM6 := Lib.hid hM6
  clear u5 hM6 hi6
  go_wp2
  refine bodyPost_ret (results_tmp2 rfl _ _ _) rfl ?_
  rw [HGL.out]
  exact ⟨rfl, HM6.out⟩

set_option maxRecDepth 100000 in
set_option maxHeartbeats 4000000 in
theorem one_17 (c : Env) (w0 wb w : World) (mb : Nat) (s s1 : St) (k : Nat) (kk : Nat) (hkk : kk < c.NL.length) (h : M c w0 wb mb s w) (hsm : Small s1) (hE : EnvOk c w0) (hC : IsCode w0 c.kA c.CL) (hcl : c.CL.length ≤ 1000) (hat : s.at_ = (k : Int)) (hkl : k < c.CL.length) (hop : c.CL.getD k (0, 0) = (17, (kk : Int))) (hs1 : s1 = { s with at_ := (k : Int) + 1 }) :
    Calls Try.prog 23 #[mp mb] w fun e w' => e = .returned (.tuple #[.bool (oneG c 17 (kk : Int) s1).1, .int .i64 (oneG c 17 (kk : Int) s1).2.1]) ∧ M c w0 wb mb (oneG c 17 (kk : Int) s1).2.2 w' := by
  obtain ⟨G, hG⟩ : ∃ G, G = oneG c 17 (kk : Int) s1 := ⟨_, rfl⟩
  rw [← hG]
  have HG := Lib.hid hG
  have HM := Lib.hid h
  have HS1 := Lib.hid hs1
  have HSM := Lib.hid hsm
  obtain ⟨sv, ev, sn, tv, hb, hr, hm⟩ := HM.out
  have um : ∀ i, w.cell? ⟨mb, i, none⟩ = _ := fun i => hb.cell i
  unfold cellsOf at um
  rw [hat] at um
  obtain ⟨b, off, hkA, q⟩ := (hC.below hr.below) (by omega)
  obtain ⟨p0, p1⟩ := q k hkl
  rw [hop] at p0 p1
  dsimp only at p0 p1
  rw [hkA] at um
  have k0 : (0 : Int) ≤ (k : Int) := by omega
  have k1 : (k : Int) < (c.CL.length : Int) := by omega
  have k2 : (k : Int) < 1000 := by omega
  have lm := hb.lt
  have lb := World.block_lt_of_cell? w _ p0
  simp at lb
  have HE := Lib.hid hE
  clear hE hC hcl hop hG h hb hr q hs1 hkl hkA hsm
  go_enter Try.func23, Try.ntmps23
  go_upto_region 1 with fail
  go_cut [4] (fun v wy => ∃ ib, v = .pointer (some ⟨ib, 0, none⟩) ∧ M c w0 wb mb s wy ∧ Blk wy ib #[.int .i64 17, .int .i64 (kk : Int)] 76)
  case first =>
    go_region
    all_goals
      go_wp2
      go_meet
      exact ⟨_, rfl, (HM.out.alloc _).drew, (Blk.new _ _ _).drew⟩
  obtain ⟨ib, rfl, hM2, hib⟩ := hcut
  have HM2 := Lib.hid hM2
  have HI2 := Lib.hid hib
  clear hM2 hib um p0 p1 lm lb HM
  obtain ⟨wA, hwA⟩ : ∃ x, x = wc := ⟨_, rfl⟩
  subst hwA
  obtain ⟨sv, ev, sn, tv, hb, hr, hm⟩ := HM2.out
  have um : ∀ i, wA.cell? ⟨mb, i, none⟩ = _ := fun i => hb.cell i
  unfold cellsOf at um
  rw [hat] at um
  have fm : ∀ i, wA.frozen? ⟨mb, i, none⟩ = false := fun i => hb.free i
  have ka : wrap64 ((k : Int) + 1) = (k : Int) + 1 := by unfold wrap64; omega
  have HA := Lib.hid (show M c w0 wb mb s1 (wA.setCell ⟨mb, 7, none⟩ (.int .i64 ((k : Int) + 1))) ∧ Blk (wA.setCell ⟨mb, 7, none⟩ (.int .i64 ((k : Int) + 1))) ib #[.int .i64 17, .int .i64 (kk : Int)] 76 from by rw [HS1.out]; exact at_sets HM2.out HI2.out _)
  clear hb hr hat
  go_upto_region 2 with fail
  go_cut [] (fun wy => M c w0 wb mb s1 wy ∧ Blk wy ib #[.int .i64 17, .int .i64 (kk : Int)] 76)
  case first =>
    go_wp2
    go_meet
    exact HA.out
  obtain ⟨hM3, hi3⟩ := hcut
  have HM3 := Lib.hid hM3
  have HI3 := Lib.hid hi3
  have u4 : ∀ i, wc.cell? ⟨ib, i, none⟩ = _ := fun i => hi3.cell i
  obtain ⟨sv, ev, sn, tv, hb, hr, hm⟩ := HM3.out
  obtain ⟨A, n, rfl⟩ := own_slice hr.st
  have um2 : ∀ i, wc.cell? ⟨mb, i, none⟩ = _ := fun i => hb.cell i
  have fm2 : ∀ i, wc.frozen? ⟨mb, i, none⟩ = false := fun i => hb.free i
  unfold cellsOf at um2
  have hst := HSM.out.stack
  clear hM3 hi3 hb hr HA HM2 HI2 um fm ka
  go_wp2_with fail
  refine (show Calls Try.prog 39 #[.int .i64 17] wc (fun e w' => e = .returned (.tuple #[.int .i64 2, .int .i64 0]) ∧ w' = wc) from effect_any 17 (by decide) wc).mono ?_
  rintro e w' ⟨rfl, hw'⟩
  subst w'
  by_cases hT : s1.stack.length < 2
  · have d1 : decide ((s1.stack.length : Int) < 2) = true := decide_eq_true (by omega)
    have HE2 := Lib.hid (show G = (false, 10, s1) by rw [HG.out, oneG_short (by show _ < (2 : Nat) ∨ 16 < _ - (2 : Nat) + (0 : Nat); omega)])
    go_wp2
    refine bodyPost_ret (results_tmp2 rfl _ _ _) rfl ?_
    rw [HE2.out]
    exact ⟨rfl, HM3.out⟩
  have d1 : decide ((s1.stack.length : Int) < 2) = false := decide_eq_false (by omega)
  have d2 : decide ((16 : Int) < ((s1.stack.length : Int) - 2)) = false := decide_eq_false (by omega)
  have HGL := Lib.hid (show G = gF c 17 (kk : Int) (xOf 2 s1) (yOf 2 s1) (tookF 2 s1) by rw [HG.out, oneG_long (by show ¬ (_ < (2 : Nat) ∨ 16 < _ - (2 : Nat) + (0 : Nat)); omega)]; rfl)
  go_wp2_with fail
  refine (pops c w0 wb _ mb ib _ s1 HM3.out HI3.out (by omega) hst).mono ?_
  rintro e w1 ⟨rfl, hM5, hi5⟩
  have HM5 := Lib.hid hM5
  have HI5 := Lib.hid hi5
  have hx' : yOf 2 s1 = s1.stack.getD (s1.stack.length - 1) 0 := rfl
  rw [← hx']
  obtain ⟨y, hy⟩ : ∃ y, y = yOf 2 s1 := ⟨_, rfl⟩
  rw [← hy] at HGL
  rw [← hy]
  clear hM5 hi5 hx' hy
  go_wp2_with fail
  refine (pops2 c w0 wb _ mb ib _ s1 HM5.out HI5.out (by omega) hst).mono ?_
  rintro e w2 ⟨rfl, hM4, hi4⟩
  obtain ⟨s2, hs2⟩ : ∃ s2, s2 = tookF 2 s1 := ⟨_, rfl⟩
  obtain ⟨x, hx⟩ : ∃ x, x = xOf 2 s1 := ⟨_, rfl⟩
  rw [← hs2] at HGL hM4
  rw [← hx] at HGL
  rw [← hx]
  have hl2 : s2.stack.length + 2 ≤ 16 := by rw [hs2, took_len]; omega
  have HS2 := Lib.hid (show Small s2 by rw [hs2]; exact ⟨by rw [took_len]; omega, HSM.out.ev, HSM.out.sent, HSM.out.tm⟩)
  have HM4 := Lib.hid hM4
  have HI4 := Lib.hid hi4
  have HX := Lib.hid hx
  clear hM4 hi4 hs2 hx u4 um2 fm2 d1 d2 hT HM3 HI3 HM5 HI5
  have u4 : ∀ i, w2.cell? ⟨ib, i, none⟩ = _ := fun i => HI4.out.cell i
  have HG3 := Lib.hid (show G = sendG (c.NL.getD kk ⟨#[]⟩) x y s2 from HGL.out)
  have HOUT := Lib.hid (out_17 c w0 wb _ mb s2 kk x y hkk HE.out HM4.out HS2.out.sent)
  rw [← HG3.out] at HOUT
  go_wp2_with fail
  refine HOUT.out.mono ?_
  rintro e w5 ⟨rfl, hM6⟩
  have HM6 := Lib.hid hM6
  clear u4 hM6
  go_wp2
  refine bodyPost_ret (results_tmp2 rfl _ _ _) rfl ?_
  exact ⟨rfl, HM6.out⟩

set_option maxRecDepth 100000 in
set_option maxHeartbeats 4000000 in
theorem one_18 (c : Env) (w0 wb w : World) (mb : Nat) (s s1 : St) (k : Nat) (a : Int) (h : M c w0 wb mb s w) (hsm : Small s1) (hE : EnvOk c w0) (hC : IsCode w0 c.kA c.CL) (hcl : c.CL.length ≤ 1000) (hat : s.at_ = (k : Int)) (hkl : k < c.CL.length) (hop : c.CL.getD k (0, 0) = (18, a)) (hs1 : s1 = { s with at_ := (k : Int) + 1 }) :
    Calls Try.prog 23 #[mp mb] w fun e w' => e = .returned (.tuple #[.bool (oneG c 18 a s1).1, .int .i64 (oneG c 18 a s1).2.1]) ∧ M c w0 wb mb (oneG c 18 a s1).2.2 w' := by
  obtain ⟨G, hG⟩ : ∃ G, G = oneG c 18 a s1 := ⟨_, rfl⟩
  rw [← hG]
  have HG := Lib.hid hG
  have HM := Lib.hid h
  have HS1 := Lib.hid hs1
  have HSM := Lib.hid hsm
  obtain ⟨sv, ev, sn, tv, hb, hr, hm⟩ := HM.out
  have um : ∀ i, w.cell? ⟨mb, i, none⟩ = _ := fun i => hb.cell i
  unfold cellsOf at um
  rw [hat] at um
  obtain ⟨b, off, hkA, q⟩ := (hC.below hr.below) (by omega)
  obtain ⟨p0, p1⟩ := q k hkl
  rw [hop] at p0 p1
  dsimp only at p0 p1
  rw [hkA] at um
  have k0 : (0 : Int) ≤ (k : Int) := by omega
  have k1 : (k : Int) < (c.CL.length : Int) := by omega
  have k2 : (k : Int) < 1000 := by omega
  have lm := hb.lt
  have lb := World.block_lt_of_cell? w _ p0
  simp at lb
  have HE := Lib.hid hE
  clear hE hC hcl hop hG h hb hr q hs1 hkl hkA hsm
  go_enter Try.func23, Try.ntmps23
  go_upto_region 1 with fail
  go_cut [4] (fun v wy => ∃ ib, v = .pointer (some ⟨ib, 0, none⟩) ∧ M c w0 wb mb s wy ∧ Blk wy ib #[.int .i64 18, .int .i64 a] 76)
  case first =>
    go_region
    all_goals
      go_wp2
      go_meet
      exact ⟨_, rfl, (HM.out.alloc _).drew, (Blk.new _ _ _).drew⟩
  obtain ⟨ib, rfl, hM2, hib⟩ := hcut
  have HM2 := Lib.hid hM2
  have HI2 := Lib.hid hib
  clear hM2 hib um p0 p1 lm lb HM
  obtain ⟨wA, hwA⟩ : ∃ x, x = wc := ⟨_, rfl⟩
  subst hwA
  obtain ⟨sv, ev, sn, tv, hb, hr, hm⟩ := HM2.out
  have um : ∀ i, wA.cell? ⟨mb, i, none⟩ = _ := fun i => hb.cell i
  unfold cellsOf at um
  rw [hat] at um
  have fm : ∀ i, wA.frozen? ⟨mb, i, none⟩ = false := fun i => hb.free i
  have ka : wrap64 ((k : Int) + 1) = (k : Int) + 1 := by unfold wrap64; omega
  have HA := Lib.hid (show M c w0 wb mb s1 (wA.setCell ⟨mb, 7, none⟩ (.int .i64 ((k : Int) + 1))) ∧ Blk (wA.setCell ⟨mb, 7, none⟩ (.int .i64 ((k : Int) + 1))) ib #[.int .i64 18, .int .i64 a] 76 from by rw [HS1.out]; exact at_sets HM2.out HI2.out _)
  clear hb hr hat
  go_upto_region 2 with fail
  go_cut [] (fun wy => M c w0 wb mb s1 wy ∧ Blk wy ib #[.int .i64 18, .int .i64 a] 76)
  case first =>
    go_wp2
    go_meet
    exact HA.out
  obtain ⟨hM3, hi3⟩ := hcut
  have HM3 := Lib.hid hM3
  have HI3 := Lib.hid hi3
  have u4 : ∀ i, wc.cell? ⟨ib, i, none⟩ = _ := fun i => hi3.cell i
  obtain ⟨sv, ev, sn, tv, hb, hr, hm⟩ := HM3.out
  obtain ⟨A, n, rfl⟩ := own_slice hr.st
  have um2 : ∀ i, wc.cell? ⟨mb, i, none⟩ = _ := fun i => hb.cell i
  have fm2 : ∀ i, wc.frozen? ⟨mb, i, none⟩ = false := fun i => hb.free i
  unfold cellsOf at um2
  have hst := HSM.out.stack
  clear hM3 hi3 hb hr HA HM2 HI2 um fm ka
  go_wp2_with fail
  refine (show Calls Try.prog 39 #[.int .i64 18] wc (fun e w' => e = .returned (.tuple #[.int .i64 2, .int .i64 0]) ∧ w' = wc) from effect_any 18 (by decide) wc).mono ?_
  rintro e w' ⟨rfl, hw'⟩
  subst w'
  by_cases hT : s1.stack.length < 2
  · have d1 : decide ((s1.stack.length : Int) < 2) = true := decide_eq_true (by omega)
    have HE2 := Lib.hid (show G = (false, 10, s1) by rw [HG.out, oneG_short (by show _ < (2 : Nat) ∨ 16 < _ - (2 : Nat) + (0 : Nat); omega)])
    go_wp2
    refine bodyPost_ret (results_tmp2 rfl _ _ _) rfl ?_
    rw [HE2.out]
    exact ⟨rfl, HM3.out⟩
  have d1 : decide ((s1.stack.length : Int) < 2) = false := decide_eq_false (by omega)
  have d2 : decide ((16 : Int) < ((s1.stack.length : Int) - 2)) = false := decide_eq_false (by omega)
  have HGL := Lib.hid (show G = gF c 18 a (xOf 2 s1) (yOf 2 s1) (tookF 2 s1) by rw [HG.out, oneG_long (by show ¬ (_ < (2 : Nat) ∨ 16 < _ - (2 : Nat) + (0 : Nat)); omega)]; rfl)
  go_wp2_with fail
  refine (pops c w0 wb _ mb ib _ s1 HM3.out HI3.out (by omega) hst).mono ?_
  rintro e w1 ⟨rfl, hM5, hi5⟩
  have HM5 := Lib.hid hM5
  have HI5 := Lib.hid hi5
  have hx' : yOf 2 s1 = s1.stack.getD (s1.stack.length - 1) 0 := rfl
  rw [← hx']
  obtain ⟨y, hy⟩ : ∃ y, y = yOf 2 s1 := ⟨_, rfl⟩
  rw [← hy] at HGL
  rw [← hy]
  clear hM5 hi5 hx' hy
  go_wp2_with fail
  refine (pops2 c w0 wb _ mb ib _ s1 HM5.out HI5.out (by omega) hst).mono ?_
  rintro e w2 ⟨rfl, hM4, hi4⟩
  obtain ⟨s2, hs2⟩ : ∃ s2, s2 = tookF 2 s1 := ⟨_, rfl⟩
  obtain ⟨x, hx⟩ : ∃ x, x = xOf 2 s1 := ⟨_, rfl⟩
  rw [← hs2] at HGL hM4
  rw [← hx] at HGL
  rw [← hx]
  have hl2 : s2.stack.length + 2 ≤ 16 := by rw [hs2, took_len]; omega
  have HS2 := Lib.hid (show Small s2 by rw [hs2]; exact ⟨by rw [took_len]; omega, HSM.out.ev, HSM.out.sent, HSM.out.tm⟩)
  have HM4 := Lib.hid hM4
  have HI4 := Lib.hid hi4
  have HX := Lib.hid hx
  clear hM4 hi4 hs2 hx u4 um2 fm2 d1 d2 hT HM3 HI3 HM5 HI5
  have u4 : ∀ i, w2.cell? ⟨ib, i, none⟩ = _ := fun i => HI4.out.cell i
  have HG3 := Lib.hid (show G = sendG c.frm x y s2 from HGL.out)
  have HOUT := Lib.hid (out_18 c w0 wb _ mb s2 a x y HM4.out HS2.out.sent)
  rw [← HG3.out] at HOUT
  go_wp2_with fail
  refine HOUT.out.mono ?_
  rintro e w5 ⟨rfl, hM6⟩
  have HM6 := Lib.hid hM6
  clear u4 hM6
  go_wp2
  refine bodyPost_ret (results_tmp2 rfl _ _ _) rfl ?_
  exact ⟨rfl, HM6.out⟩

set_option maxRecDepth 100000 in
set_option maxHeartbeats 4000000 in
theorem one_19 (c : Env) (w0 wb w : World) (mb : Nat) (s s1 : St) (k : Nat) (kk : Nat) (hkk : kk < c.NL.length) (h : M c w0 wb mb s w) (hsm : Small s1) (hE : EnvOk c w0) (hC : IsCode w0 c.kA c.CL) (hcl : c.CL.length ≤ 1000) (hat : s.at_ = (k : Int)) (hkl : k < c.CL.length) (hop : c.CL.getD k (0, 0) = (19, (kk : Int))) (hs1 : s1 = { s with at_ := (k : Int) + 1 }) (hn0 : 0 ≤ c.now) (hn1 : c.now ≤ 9223372036854775807) (hx1 : xOf 2 s1 ≤ 9223372036854775807) :
    Calls Try.prog 23 #[mp mb] w fun e w' => e = .returned (.tuple #[.bool (oneG c 19 (kk : Int) s1).1, .int .i64 (oneG c 19 (kk : Int) s1).2.1]) ∧ M c w0 wb mb (oneG c 19 (kk : Int) s1).2.2 w' := by
  obtain ⟨G, hG⟩ : ∃ G, G = oneG c 19 (kk : Int) s1 := ⟨_, rfl⟩
  rw [← hG]
  have HG := Lib.hid hG
  have HM := Lib.hid h
  have HS1 := Lib.hid hs1
  have HSM := Lib.hid hsm
  obtain ⟨sv, ev, sn, tv, hb, hr, hm⟩ := HM.out
  have um : ∀ i, w.cell? ⟨mb, i, none⟩ = _ := fun i => hb.cell i
  unfold cellsOf at um
  rw [hat] at um
  obtain ⟨b, off, hkA, q⟩ := (hC.below hr.below) (by omega)
  obtain ⟨p0, p1⟩ := q k hkl
  rw [hop] at p0 p1
  dsimp only at p0 p1
  rw [hkA] at um
  have k0 : (0 : Int) ≤ (k : Int) := by omega
  have k1 : (k : Int) < (c.CL.length : Int) := by omega
  have k2 : (k : Int) < 1000 := by omega
  have lm := hb.lt
  have lb := World.block_lt_of_cell? w _ p0
  simp at lb
  have HE := Lib.hid hE
  clear hE hC hcl hop hG h hb hr q hs1 hkl hkA hsm
  go_enter Try.func23, Try.ntmps23
  go_upto_region 1 with fail
  go_cut [4] (fun v wy => ∃ ib, v = .pointer (some ⟨ib, 0, none⟩) ∧ M c w0 wb mb s wy ∧ Blk wy ib #[.int .i64 19, .int .i64 (kk : Int)] 76)
  case first =>
    go_region
    all_goals
      go_wp2
      go_meet
      exact ⟨_, rfl, (HM.out.alloc _).drew, (Blk.new _ _ _).drew⟩
  obtain ⟨ib, rfl, hM2, hib⟩ := hcut
  have HM2 := Lib.hid hM2
  have HI2 := Lib.hid hib
  clear hM2 hib um p0 p1 lm lb HM
  obtain ⟨wA, hwA⟩ : ∃ x, x = wc := ⟨_, rfl⟩
  subst hwA
  obtain ⟨sv, ev, sn, tv, hb, hr, hm⟩ := HM2.out
  have um : ∀ i, wA.cell? ⟨mb, i, none⟩ = _ := fun i => hb.cell i
  unfold cellsOf at um
  rw [hat] at um
  have fm : ∀ i, wA.frozen? ⟨mb, i, none⟩ = false := fun i => hb.free i
  have ka : wrap64 ((k : Int) + 1) = (k : Int) + 1 := by unfold wrap64; omega
  have HA := Lib.hid (show M c w0 wb mb s1 (wA.setCell ⟨mb, 7, none⟩ (.int .i64 ((k : Int) + 1))) ∧ Blk (wA.setCell ⟨mb, 7, none⟩ (.int .i64 ((k : Int) + 1))) ib #[.int .i64 19, .int .i64 (kk : Int)] 76 from by rw [HS1.out]; exact at_sets HM2.out HI2.out _)
  clear hb hr hat
  go_upto_region 2 with fail
  go_cut [] (fun wy => M c w0 wb mb s1 wy ∧ Blk wy ib #[.int .i64 19, .int .i64 (kk : Int)] 76)
  case first =>
    go_wp2
    go_meet
    exact HA.out
  obtain ⟨hM3, hi3⟩ := hcut
  have HM3 := Lib.hid hM3
  have HI3 := Lib.hid hi3
  have u4 : ∀ i, wc.cell? ⟨ib, i, none⟩ = _ := fun i => hi3.cell i
  obtain ⟨sv, ev, sn, tv, hb, hr, hm⟩ := HM3.out
  obtain ⟨A, n, rfl⟩ := own_slice hr.st
  have um2 : ∀ i, wc.cell? ⟨mb, i, none⟩ = _ := fun i => hb.cell i
  have fm2 : ∀ i, wc.frozen? ⟨mb, i, none⟩ = false := fun i => hb.free i
  unfold cellsOf at um2
  have hst := HSM.out.stack
  clear hM3 hi3 hb hr HA HM2 HI2 um fm ka
  go_wp2_with fail
  refine (show Calls Try.prog 39 #[.int .i64 19] wc (fun e w' => e = .returned (.tuple #[.int .i64 2, .int .i64 0]) ∧ w' = wc) from effect_any 19 (by decide) wc).mono ?_
  rintro e w' ⟨rfl, hw'⟩
  subst w'
  by_cases hT : s1.stack.length < 2
  · have d1 : decide ((s1.stack.length : Int) < 2) = true := decide_eq_true (by omega)
    have HE2 := Lib.hid (show G = (false, 10, s1) by rw [HG.out, oneG_short (by show _ < (2 : Nat) ∨ 16 < _ - (2 : Nat) + (0 : Nat); omega)])
    go_wp2
    refine bodyPost_ret (results_tmp2 rfl _ _ _) rfl ?_
    rw [HE2.out]
    exact ⟨rfl, HM3.out⟩
  have d1 : decide ((s1.stack.length : Int) < 2) = false := decide_eq_false (by omega)
  have d2 : decide ((16 : Int) < ((s1.stack.length : Int) - 2)) = false := decide_eq_false (by omega)
  have HGL := Lib.hid (show G = gF c 19 (kk : Int) (xOf 2 s1) (yOf 2 s1) (tookF 2 s1) by rw [HG.out, oneG_long (by show ¬ (_ < (2 : Nat) ∨ 16 < _ - (2 : Nat) + (0 : Nat)); omega)]; rfl)
  go_wp2_with fail
  refine (pops c w0 wb _ mb ib _ s1 HM3.out HI3.out (by omega) hst).mono ?_
  rintro e w1 ⟨rfl, hM5, hi5⟩
  have HM5 := Lib.hid hM5
  have HI5 := Lib.hid hi5
  have hx' : yOf 2 s1 = s1.stack.getD (s1.stack.length - 1) 0 := rfl
  rw [← hx']
  obtain ⟨y, hy⟩ : ∃ y, y = yOf 2 s1 := ⟨_, rfl⟩
  rw [← hy] at HGL
  rw [← hy]
  clear hM5 hi5 hx' hy
  go_wp2_with fail
  refine (pops2 c w0 wb _ mb ib _ s1 HM5.out HI5.out (by omega) hst).mono ?_
  rintro e w2 ⟨rfl, hM4, hi4⟩
  obtain ⟨s2, hs2⟩ : ∃ s2, s2 = tookF 2 s1 := ⟨_, rfl⟩
  obtain ⟨x, hx⟩ : ∃ x, x = xOf 2 s1 := ⟨_, rfl⟩
  rw [← hs2] at HGL hM4
  rw [← hx] at HGL
  rw [← hx]
  have hl2 : s2.stack.length + 2 ≤ 16 := by rw [hs2, took_len]; omega
  have HS2 := Lib.hid (show Small s2 by rw [hs2]; exact ⟨by rw [took_len]; omega, HSM.out.ev, HSM.out.sent, HSM.out.tm⟩)
  have HM4 := Lib.hid hM4
  have HI4 := Lib.hid hi4
  have HX := Lib.hid hx
  clear hM4 hi4 hs2 hx u4 um2 fm2 d1 d2 hT HM3 HI3 HM5 HI5
  have u4 : ∀ i, w2.cell? ⟨ib, i, none⟩ = _ := fun i => HI4.out.cell i
  have HG3 := Lib.hid (show G = remG (c.NL.getD kk ⟨#[]⟩) c.now c.kind x y s2 from HGL.out)
  have HOUT := Lib.hid (out_19 c w0 wb _ mb s2 kk x y hkk HE.out HM4.out HS2.out.tm hn0 hn1 (by rw [HX.out]; exact hx1))
  rw [← HG3.out] at HOUT
  go_wp2_with fail
  refine HOUT.out.mono ?_
  rintro e w5 ⟨rfl, hM6⟩
  have HM6 := Lib.hid hM6
  clear u4 hM6
  go_wp2
  refine bodyPost_ret (results_tmp2 rfl _ _ _) rfl ?_
  exact ⟨rfl, HM6.out⟩
end Go.Proofs.Ytmmbigfeojfedaa.R
namespace Go.Proofs.Ytmmbigfeojfedaa.R
open Go.RowKit Go.Proofs.YtmmbigfeojfedaaW.PrintWords

set_option maxRecDepth 100000 in
set_option maxHeartbeats 4000000 in
theorem one_3 (c : Env) (w0 wb w : World) (mb : Nat) (s s1 : St) (k : Nat) (kk : Nat) (hkk : kk < 8) (h : M c w0 wb mb s w) (hsm : Small s1) (hE : EnvOk c w0) (hC : IsCode w0 c.kA c.CL) (hcl : c.CL.length ≤ 1000) (hat : s.at_ = (k : Int)) (hkl : k < c.CL.length) (hop : c.CL.getD k (0, 0) = (3, (kk : Int))) (hs1 : s1 = { s with at_ := (k : Int) + 1 }) :
    Calls Try.prog 23 #[mp mb] w fun e w' => e = .returned (.tuple #[.bool (oneG c 3 (kk : Int) s1).1, .int .i64 (oneG c 3 (kk : Int) s1).2.1]) ∧ M c w0 wb mb (oneG c 3 (kk : Int) s1).2.2 w' := by
  obtain ⟨G, hG⟩ : ∃ G, G = oneG c 3 (kk : Int) s1 := ⟨_, rfl⟩
  rw [← hG]
  have HG := Lib.hid hG
  have HM := Lib.hid h
  have HS1 := Lib.hid hs1
  have HSM := Lib.hid hsm
  obtain ⟨sv, ev, sn, tv, hb, hr, hm⟩ := HM.out
  have um : ∀ i, w.cell? ⟨mb, i, none⟩ = _ := fun i => hb.cell i
  unfold cellsOf at um
  rw [hat] at um
  obtain ⟨b, off, hkA, q⟩ := (hC.below hr.below) (by omega)
  obtain ⟨p0, p1⟩ := q k hkl
  rw [hop] at p0 p1
  dsimp only at p0 p1
  rw [hkA] at um
  have k0 : (0 : Int) ≤ (k : Int) := by omega
  have k1 : (k : Int) < (c.CL.length : Int) := by omega
  have k2 : (k : Int) < 1000 := by omega
  have lm := hb.lt
  have lb := World.block_lt_of_cell? w _ p0
  simp at lb
  have HE := Lib.hid hE
  clear hE hC hcl hop hG h hb hr q hs1 hkl hkA hsm
  go_enter Try.func23, Try.ntmps23
  go_upto_region 1 with fail
  go_cut [4] (fun v wy => ∃ ib, v = .pointer (some ⟨ib, 0, none⟩) ∧ M c w0 wb mb s wy ∧ Blk wy ib #[.int .i64 3, .int .i64 (kk : Int)] 76)
  case first =>
    go_region
    all_goals
      go_wp2
      go_meet
      exact ⟨_, rfl, (HM.out.alloc _).drew, (Blk.new _ _ _).drew⟩
  obtain ⟨ib, rfl, hM2, hib⟩ := hcut
  have HM2 := Lib.hid hM2
  have HI2 := Lib.hid hib
  clear hM2 hib um p0 p1 lm lb HM
  obtain ⟨wA, hwA⟩ : ∃ x, x = wc := ⟨_, rfl⟩
  subst hwA
  obtain ⟨sv, ev, sn, tv, hb, hr, hm⟩ := HM2.out
  have um : ∀ i, wA.cell? ⟨mb, i, none⟩ = _ := fun i => hb.cell i
  unfold cellsOf at um
  rw [hat] at um
  have fm : ∀ i, wA.frozen? ⟨mb, i, none⟩ = false := fun i => hb.free i
  have ka : wrap64 ((k : Int) + 1) = (k : Int) + 1 := by unfold wrap64; omega
  have HA := Lib.hid (show M c w0 wb mb s1 (wA.setCell ⟨mb, 7, none⟩ (.int .i64 ((k : Int) + 1))) ∧ Blk (wA.setCell ⟨mb, 7, none⟩ (.int .i64 ((k : Int) + 1))) ib #[.int .i64 3, .int .i64 (kk : Int)] 76 from by rw [HS1.out]; exact at_sets HM2.out HI2.out _)
  clear hb hr hat
  go_upto_region 2 with fail
  go_cut [] (fun wy => M c w0 wb mb s1 wy ∧ Blk wy ib #[.int .i64 3, .int .i64 (kk : Int)] 76)
  case first =>
    go_wp2
    go_meet
    exact HA.out
  obtain ⟨hM3, hi3⟩ := hcut
  have HM3 := Lib.hid hM3
  have HI3 := Lib.hid hi3
  have u4 : ∀ i, wc.cell? ⟨ib, i, none⟩ = _ := fun i => hi3.cell i
  obtain ⟨sv, ev, sn, tv, hb, hr, hm⟩ := HM3.out
  obtain ⟨A, n, rfl⟩ := own_slice hr.st
  have um2 : ∀ i, wc.cell? ⟨mb, i, none⟩ = _ := fun i => hb.cell i
  have fm2 : ∀ i, wc.frozen? ⟨mb, i, none⟩ = false := fun i => hb.free i
  unfold cellsOf at um2
  have hst := HSM.out.stack
  clear hM3 hi3 hb hr HA HM2 HI2 um fm ka
  go_wp2_with fail
  refine (show Calls Try.prog 39 #[.int .i64 3] wc (fun e w' => e = .returned (.tuple #[.int .i64 1, .int .i64 0]) ∧ w' = wc) from effect_any 3 (by decide) wc).mono ?_
  rintro e w' ⟨rfl, hw'⟩
  subst w'
  by_cases hT : s1.stack.length < 1
  · have d1 : decide ((s1.stack.length : Int) < 1) = true := decide_eq_true (by omega)
    have HE2 := Lib.hid (show G = (false, 10, s1) by rw [HG.out, oneG_short (by show _ < (1 : Nat) ∨ 16 < _ - (1 : Nat) + (0 : Nat); omega)])
    go_wp2
    refine bodyPost_ret (results_tmp2 rfl _ _ _) rfl ?_
    rw [HE2.out]
    exact ⟨rfl, HM3.out⟩
  have d1 : decide ((s1.stack.length : Int) < 1) = false := decide_eq_false (by omega)
  have d2 : decide ((16 : Int) < ((s1.stack.length : Int) - 1)) = false := decide_eq_false (by omega)
  have HGL := Lib.hid (show G = gF c 3 (kk : Int) (xOf 1 s1) (yOf 1 s1) (tookF 1 s1) by rw [HG.out, oneG_long (by show ¬ (_ < (1 : Nat) ∨ 16 < _ - (1 : Nat) + (0 : Nat)); omega)]; rfl)
  go_wp2_with fail
  refine (pops c w0 wb _ mb ib _ s1 HM3.out HI3.out (by omega) hst).mono ?_
  rintro e w2 ⟨rfl, hM4, hi4⟩
  obtain ⟨s2, hs2⟩ : ∃ s2, s2 = tookF 1 s1 := ⟨_, rfl⟩
  obtain ⟨x, hx⟩ : ∃ x, x = xOf 1 s1 := ⟨_, rfl⟩
  have hx' : s1.stack.getD (s1.stack.length - 1) 0 = x := hx.symm
  rw [hx']
  rw [← hs2] at HGL hM4
  rw [← hx] at HGL
  obtain ⟨y, hy⟩ : ∃ y, y = yOf 1 s1 := ⟨_, rfl⟩
  rw [← hy] at HGL
  obtain rfl : y = 0 := hy
  have hl2 : s2.stack.length + 1 ≤ 16 := by rw [hs2, took_len]; omega
  have HS2 := Lib.hid (show Small s2 by rw [hs2]; exact ⟨by rw [took_len]; omega, HSM.out.ev, HSM.out.sent, HSM.out.tm⟩)
  have HM4 := Lib.hid hM4
  have HI4 := Lib.hid hi4
  have HX := Lib.hid hx
  clear hM4 hi4 hx' hs2 hx u4 um2 fm2 d1 d2 hT HM3 HI3
  have u4 : ∀ i, w2.cell? ⟨ib, i, none⟩ = _ := fun i => HI4.out.cell i
  obtain ⟨sv4, ev4, sn4, tv4, hb4, hr4, hm4⟩ := HM4.out
  have ck : w2.cell? ⟨mb, 9 + kk, none⟩ = _ := hb4.cell (9 + kk)
  rw [cells_reg hkk] at ck
  have fk := hb4.free (9 + kk)
  have HB4 := Lib.hid hb4
  have HR4 := Lib.hid hr4
  have j0 : (0 : Int) ≤ (kk : Int) := by omega
  have j1 : (kk : Int) < 8 := by omega
  have HG3 := Lib.hid (show G = (true, 0, { setReg s2 kk x with ev := (setReg s2 kk x).ev ++ [((kk : Int), x)] }) from by rw [HGL.out]; show (true, (0 : Int), tellF (kk : Int).toNat x s2) = _; rw [Int.toNat_natCast]; rfl)
  clear hb4 hr4 HGL
  go_upto_region 19 with fail
  go_cut [] (fun wy => M c w0 wb mb (setReg s2 kk x) wy ∧ Blk wy ib #[.int .i64 3, .int .i64 (kk : Int)] 76)
  case first =>
    have HF := Lib.hid (show ∀ n, M c w0 wb mb (setReg s2 kk x) ((w2.drewN n).setCell ⟨mb, 9 + kk, none⟩ (.int .i64 x)) ∧ Blk ((w2.drewN n).setCell ⟨mb, 9 + kk, none⟩ (.int .i64 x)) ib #[.int .i64 3, .int .i64 (kk : Int)] 76 from fun n => ⟨⟨sv4, ev4, sn4, tv4, by rw [← cells_set x hkk]; exact (HB4.out.drewN n).set (9 + kk) (.int .i64 x), (HR4.out.drewN n).put (HB4.out.drewN n) hm4 _ _, hm4⟩, (HI4.out.drewN n).other (a := ⟨mb, 9 + kk, none⟩) (blk_apart HI4.out HB4.out (by decide)) _⟩)
    go_region
    go_wp2
    go_meet
    exact HF.out _
  obtain ⟨h5, hi5⟩ := hcut
  have hl3 : (setReg s2 kk x).ev.length ≤ 1000 := HS2.out.ev
  obtain ⟨s3, hs3⟩ : ∃ s3, s3 = setReg s2 kk x := ⟨_, rfl⟩
  rw [← hs3] at h5 hl3 HG3
  clear hs3 HB4 HR4 u4 ck fk HM4 HI4
  have u5 : ∀ i, wc.cell? ⟨ib, i, none⟩ = _ := fun i => hi5.cell i
  have hkl := hi5.lt
  obtain ⟨sv3, ev3, sn3, tv3, hb3, hr3, hm3⟩ := h5
  obtain ⟨E, tc, rfl⟩ := own_slice hr3.ev
  have c17 := hb3.cell 17
  simp [cellsOf] at c17
  have hml := hb3.lt
  have HB := Lib.hid hb3
  have HR := Lib.hid hr3
  clear hb3 hr3 hi5
  go_wp2
  go_region_law ((refine step_append_cells (w0 := w0) w0.heap.size (by rfl) (.tmp 90) (.tmp 95) 45 86 _ 2 16 (by rfl) Try.underlying45 info86 rfl (by omega) (by omega) _ s3.ev.length (encE s3.ev) [.int .i64 (kk : Int), .int .i64 x] (by rfl) (by rfl) rfl (by simp [Value.oneCell']) (HR.out.drewN _).ev (HR.out.drewN _).below (HR.out.drewN _).below.size (by omega) ?_; intro v1 w4 ho hbl hg hat; obtain ⟨V, vn, rfl⟩ := own_slice ho; have HS := Lib.hid (M.tell (kk : Int) x (HB.out.drewN _) (HR.out.drewN _) hm3 ho hg hbl); have f17 := HS.out.1.free 17; have e17 := HS.out.1.cell 17; simp [cellsOf] at e17; clear ho hbl hg hat))
  all_goals
    go_wp2
    refine bodyPost_ret (results_tmp2 rfl _ _ _) rfl ?_
    rw [HG3.out]
    exact ⟨rfl, HS.out.2⟩
end Go.Proofs.Ytmmbigfeojfedaa.R
namespace Go.Proofs.Ytmmbigfeojfedaa.R
open Go.RowKit Go.Proofs.YtmmbigfeojfedaaW.PrintWords

theorem one_any (c : Env) (w0 wb w : World) (mb : Nat) (s s1 : St) (k op : Nat) (a : Int) (h : M c w0 wb mb s w) (hsm : Small s1) (hE : EnvOk c w0) (hC : IsCode w0 c.kA c.CL) (hcl : c.CL.length ≤ 1000) (hat : s.at_ = (k : Int)) (hkl : k < c.CL.length) (hop : c.CL.getD k (0, 0) = ((op : Int), a)) (hs1 : s1 = { s with at_ := (k : Int) + 1 })
    (ha : argOk c.NL.length c.CL.length op a) (hn0 : 0 ≤ c.now) (hn1 : c.now ≤ 9223372036854775807) (hx : ∀ j, s1.stack.getD j 0 ≤ 9223372036854775807) :
    Calls Try.prog 23 #[mp mb] w fun e w' => e = .returned (.tuple #[.bool (oneG c op a s1).1, .int .i64 (oneG c op a s1).2.1]) ∧ M c w0 wb mb (oneG c op a s1).2.2 w' := by
  obtain ⟨hlt, hk⟩ := ha
  have hx1 : xOf 2 s1 ≤ 9223372036854775807 := by rw [xOf, if_neg (by decide)]; exact hx _
  have nat : ∀ {a : Int}, 0 ≤ a → ∃ kk : Nat, a = (kk : Int) := fun {a} h => ⟨a.toNat, by omega⟩
  match op, hlt with
  | 0, _ => exact one_0 c w0 wb w mb s s1 k a h hsm hE hC hcl hat hkl hop hs1
  | 1, _ => exact one_1 c w0 wb w mb s s1 k a h hsm hE hC hcl hat hkl hop hs1
  | 2, _ =>
    simp [kindOf, belowV] at hk
    obtain ⟨kk, rfl⟩ := nat hk.1
    exact one_2 c w0 wb w mb s s1 k kk (by omega) h hsm hE hC hcl hat hkl hop hs1
  | 3, _ =>
    simp [kindOf, belowV] at hk
    obtain ⟨kk, rfl⟩ := nat hk.1
    exact one_3 c w0 wb w mb s s1 k kk (by omega) h hsm hE hC hcl hat hkl hop hs1
  | 4, _ =>
    simp [kindOf, belowV] at hk
    obtain ⟨kk, rfl⟩ := nat hk.1
    exact one_4 c w0 wb w mb s s1 k kk h hsm hE hC hcl hat hkl hop hs1
  | 5, _ => exact one_5 c w0 wb w mb s s1 k a h hsm hE hC hcl hat hkl hop hs1
  | 6, _ => exact one_6 c w0 wb w mb s s1 k a h hsm hE hC hcl hat hkl hop hs1
  | 7, _ => exact one_7 c w0 wb w mb s s1 k a h hsm hE hC hcl hat hkl hop hs1
  | 8, _ => exact one_8 c w0 wb w mb s s1 k a h hsm hE hC hcl hat hkl hop hs1
  | 9, _ => exact one_9 c w0 wb w mb s s1 k a h hsm hE hC hcl hat hkl hop hs1
  | 10, _ => exact one_10 c w0 wb w mb s s1 k a h hsm hE hC hcl hat hkl hop hs1
  | 11, _ => exact one_11 c w0 wb w mb s s1 k a h hsm hE hC hcl hat hkl hop hs1
  | 12, _ => exact one_12 c w0 wb w mb s s1 k a h hsm hE hC hcl hat hkl hop hs1
  | 13, _ => exact one_13 c w0 wb w mb s s1 k a h hsm hE hC hcl hat hkl hop hs1
  | 14, _ => exact one_14 c w0 wb w mb s s1 k a h hsm hE hC hcl hat hkl hop hs1
  | 15, _ => exact one_15 c w0 wb w mb s s1 k a h hsm hE hC hcl hat hkl hop hs1
  | 16, _ => exact one_16 c w0 wb w mb s s1 k a h hsm hE hC hcl hat hkl hop hs1
  | 17, _ =>
    simp [kindOf, belowV] at hk
    obtain ⟨kk, rfl⟩ := nat hk.1
    exact one_17 c w0 wb w mb s s1 k kk (by omega) h hsm hE hC hcl hat hkl hop hs1
  | 18, _ => exact one_18 c w0 wb w mb s s1 k a h hsm hE hC hcl hat hkl hop hs1
  | 19, _ =>
    simp [kindOf, belowV] at hk
    obtain ⟨kk, rfl⟩ := nat hk.1
    exact one_19 c w0 wb w mb s s1 k kk (by omega) h hsm hE hC hcl hat hkl hop hs1 hn0 hn1 hx1
  | 20, _ =>
    simp [kindOf, belowV] at hk
    obtain ⟨kk, rfl⟩ := nat hk.1
    exact one_20 c w0 wb w mb s s1 k kk (by omega) h hsm hE hC hcl hat hkl hop hs1
  | 21, _ => exact one_21 c w0 wb w mb s s1 k a h hsm hE hC hcl hat hkl hop hs1
  | 22, _ => exact one_22 c w0 wb w mb s s1 k a h hsm hE hC hcl hat hkl hop hs1
  | 23, _ => exact one_23 c w0 wb w mb s s1 k a h hsm hE hC hcl hat hkl hop hs1
  | n + 24, h => exact absurd h (by omega)
end Go.Proofs.Ytmmbigfeojfedaa.R

/- The reference's step: the first operations. -/
import Derived.Test.YtmmbigfeojfedaaQB
import Derived.Deep.RegionLaw
import Derived.BigRegion
namespace Go.Proofs.Ytmmbigfeojfedaa.R
open Go.RowKit Go.Proofs.YtmmbigfeojfedaaW.PrintWords

set_option maxRecDepth 100000 in
set_option maxHeartbeats 4000000 in
theorem one_0 (c : Env) (w0 wb w : World) (mb : Nat) (s s1 : St) (k : Nat) (a : Int) (h : M c w0 wb mb s w) (hsm : Small s1) (hE : EnvOk c w0) (hC : IsCode w0 c.kA c.CL) (hcl : c.CL.length ≤ 1000) (hat : s.at_ = (k : Int)) (hkl : k < c.CL.length) (hop : c.CL.getD k (0, 0) = (0, a)) (hs1 : s1 = { s with at_ := (k : Int) + 1 }) :
    Calls Try.prog 23 #[mp mb] w fun e w' => e = .returned (.tuple #[.bool (oneG c 0 a s1).1, .int .i64 (oneG c 0 a s1).2.1]) ∧ M c w0 wb mb (oneG c 0 a s1).2.2 w' := by
  obtain ⟨G, hG⟩ : ∃ G, G = oneG c 0 a s1 := ⟨_, rfl⟩
  rw [← hG]
  have HG := Lib.hid hG
  have HM := Lib.hid h
  have HS1 := Lib.hid hs1
  have HSM := Lib.hid hsm
  obtain ⟨sv, ev, sn, tv, hb, hr, hm⟩ := HM.out
  have um : ∀ i, w.cell? ⟨mb, i, none⟩ = _ := fun i => hb.cell i
  unfold cellsOf at um
  rw [hat] at um
  obtain ⟨b, off, hkA, q⟩ := (hC.below hr.below) (by omega)
  obtain ⟨p0, p1⟩ := q k hkl
  rw [hop] at p0 p1
  dsimp only at p0 p1
  rw [hkA] at um
  have k0 : (0 : Int) ≤ (k : Int) := by omega
  have k1 : (k : Int) < (c.CL.length : Int) := by omega
  have k2 : (k : Int) < 1000 := by omega
  have lm := hb.lt
  have lb := World.block_lt_of_cell? w _ p0
  simp at lb
  have HE := Lib.hid hE
  clear hE hC hcl hop hG h hb hr q hs1 hkl hkA hsm
  go_enter Try.func23, Try.ntmps23
  go_upto_region 1 with fail
  go_cut [4] (fun v wy => ∃ ib, v = .pointer (some ⟨ib, 0, none⟩) ∧ M c w0 wb mb s wy ∧ Blk wy ib #[.int .i64 0, .int .i64 a] 76)
  case first =>
    go_region
    all_goals
      go_wp2
      go_meet
      exact ⟨_, rfl, (HM.out.alloc _).drew, (Blk.new _ _ _).drew⟩
  obtain ⟨ib, rfl, hM2, hib⟩ := hcut
  have HM2 := Lib.hid hM2
  have HI2 := Lib.hid hib
  clear hM2 hib um p0 p1 lm lb HM
  obtain ⟨wA, hwA⟩ : ∃ x, x = wc := ⟨_, rfl⟩
  subst hwA
  obtain ⟨sv, ev, sn, tv, hb, hr, hm⟩ := HM2.out
  have um : ∀ i, wA.cell? ⟨mb, i, none⟩ = _ := fun i => hb.cell i
  unfold cellsOf at um
  rw [hat] at um
  have fm : ∀ i, wA.frozen? ⟨mb, i, none⟩ = false := fun i => hb.free i
  have ka : wrap64 ((k : Int) + 1) = (k : Int) + 1 := by unfold wrap64; omega
  have HA := Lib.hid (show M c w0 wb mb s1 (wA.setCell ⟨mb, 7, none⟩ (.int .i64 ((k : Int) + 1))) ∧ Blk (wA.setCell ⟨mb, 7, none⟩ (.int .i64 ((k : Int) + 1))) ib #[.int .i64 0, .int .i64 a] 76 from by rw [HS1.out]; exact at_sets HM2.out HI2.out _)
  clear hb hr hat
  go_upto_region 2 with fail
  go_cut [] (fun wy => M c w0 wb mb s1 wy ∧ Blk wy ib #[.int .i64 0, .int .i64 a] 76)
  case first =>
    go_wp2
    go_meet
    exact HA.out
  obtain ⟨hM3, hi3⟩ := hcut
  have HM3 := Lib.hid hM3
  have HI3 := Lib.hid hi3
  have u4 : ∀ i, wc.cell? ⟨ib, i, none⟩ = _ := fun i => hi3.cell i
  obtain ⟨sv, ev, sn, tv, hb, hr, hm⟩ := HM3.out
  obtain ⟨A, n, rfl⟩ := own_slice hr.st
  have um2 : ∀ i, wc.cell? ⟨mb, i, none⟩ = _ := fun i => hb.cell i
  have fm2 : ∀ i, wc.frozen? ⟨mb, i, none⟩ = false := fun i => hb.free i
  unfold cellsOf at um2
  have hst := HSM.out.stack
  clear hM3 hi3 hb hr HA HM2 HI2 um fm ka
  go_wp2_with fail
  refine (show Calls Try.prog 39 #[.int .i64 0] wc (fun e w' => e = .returned (.tuple #[.int .i64 0, .int .i64 0]) ∧ w' = wc) from effect_any 0 (by decide) wc).mono ?_
  rintro e w' ⟨rfl, hw'⟩
  subst w'
  have d1 : decide ((s1.stack.length : Int) < 0) = false := decide_eq_false (by omega)
  have d2 : decide ((16 : Int) < (s1.stack.length : Int)) = false := decide_eq_false (by omega)
  have HGL := Lib.hid (show G = gF c 0 a (xOf 0 s1) (yOf 0 s1) (tookF 0 s1) by rw [HG.out, oneG_long (by show ¬ (_ < (0 : Nat) ∨ 16 < _ - (0 : Nat) + (0 : Nat)); omega)]; rfl)
  obtain ⟨s2, hs2⟩ : ∃ s2, s2 = tookF 0 s1 := ⟨_, rfl⟩
  have HT := Lib.hid (show s2 = s1 by rw [hs2, took0])
  rw [← hs2] at HGL
  clear hs2
  have HM4 := Lib.hid (show M c w0 wb mb s2 wc by rw [HT.out]; exact HM3.out)
  have HI4 := HI3
  obtain ⟨x, hx⟩ : ∃ x, x = xOf 0 s1 := ⟨_, rfl⟩
  obtain ⟨y, hy⟩ : ∃ y, y = yOf 0 s1 := ⟨_, rfl⟩
  rw [← hx, ← hy] at HGL
  obtain rfl : x = 0 := hx
  obtain rfl : y = 0 := hy
  have hl2 : s2.stack.length ≤ 16 := by rw [HT.out]; exact hst
  have hsm2 : Small s2 := by rw [HT.out]; exact HSM.out
  have HS2 := Lib.hid hsm2
  clear hsm2
  go_wp2
  refine bodyPost_ret (results_tmp2 rfl _ _ _) rfl ?_
  rw [HGL.out]
  exact ⟨rfl, HM4.out⟩

set_option maxRecDepth 100000 in
set_option maxHeartbeats 4000000 in
theorem one_21 (c : Env) (w0 wb w : World) (mb : Nat) (s s1 : St) (k : Nat) (a : Int) (h : M c w0 wb mb s w) (hsm : Small s1) (hE : EnvOk c w0) (hC : IsCode w0 c.kA c.CL) (hcl : c.CL.length ≤ 1000) (hat : s.at_ = (k : Int)) (hkl : k < c.CL.length) (hop : c.CL.getD k (0, 0) = (21, a)) (hs1 : s1 = { s with at_ := (k : Int) + 1 }) :
    Calls Try.prog 23 #[mp mb] w fun e w' => e = .returned (.tuple #[.bool (oneG c 21 a s1).1, .int .i64 (oneG c 21 a s1).2.1]) ∧ M c w0 wb mb (oneG c 21 a s1).2.2 w' := by
  obtain ⟨G, hG⟩ : ∃ G, G = oneG c 21 a s1 := ⟨_, rfl⟩
  rw [← hG]
  have HG := Lib.hid hG
  have HM := Lib.hid h
  have HS1 := Lib.hid hs1
  have HSM := Lib.hid hsm
  obtain ⟨sv, ev, sn, tv, hb, hr, hm⟩ := HM.out
  have um : ∀ i, w.cell? ⟨mb, i, none⟩ = _ := fun i => hb.cell i
  unfold cellsOf at um
  rw [hat] at um
  obtain ⟨b, off, hkA, q⟩ := (hC.below hr.below) (by omega)
  obtain ⟨p0, p1⟩ := q k hkl
  rw [hop] at p0 p1
  dsimp only at p0 p1
  rw [hkA] at um
  have k0 : (0 : Int) ≤ (k : Int) := by omega
  have k1 : (k : Int) < (c.CL.length : Int) := by omega
  have k2 : (k : Int) < 1000 := by omega
  have lm := hb.lt
  have lb := World.block_lt_of_cell? w _ p0
  simp at lb
  have HE := Lib.hid hE
  clear hE hC hcl hop hG h hb hr q hs1 hkl hkA hsm
  go_enter Try.func23, Try.ntmps23
  go_upto_region 1 with fail
  go_cut [4] (fun v wy => ∃ ib, v = .pointer (some ⟨ib, 0, none⟩) ∧ M c w0 wb mb s wy ∧ Blk wy ib #[.int .i64 21, .int .i64 a] 76)
  case first =>
    go_region
    all_goals
      go_wp2
      go_meet
      exact ⟨_, rfl, (HM.out.alloc _).drew, (Blk.new _ _ _).drew⟩
  obtain ⟨ib, rfl, hM2, hib⟩ := hcut
  have HM2 := Lib.hid hM2
  have HI2 := Lib.hid hib
  clear hM2 hib um p0 p1 lm lb HM
  obtain ⟨wA, hwA⟩ : ∃ x, x = wc := ⟨_, rfl⟩
  subst hwA
  obtain ⟨sv, ev, sn, tv, hb, hr, hm⟩ := HM2.out
  have um : ∀ i, wA.cell? ⟨mb, i, none⟩ = _ := fun i => hb.cell i
  unfold cellsOf at um
  rw [hat] at um
  have fm : ∀ i, wA.frozen? ⟨mb, i, none⟩ = false := fun i => hb.free i
  have ka : wrap64 ((k : Int) + 1) = (k : Int) + 1 := by unfold wrap64; omega
  have HA := Lib.hid (show M c w0 wb mb s1 (wA.setCell ⟨mb, 7, none⟩ (.int .i64 ((k : Int) + 1))) ∧ Blk (wA.setCell ⟨mb, 7, none⟩ (.int .i64 ((k : Int) + 1))) ib #[.int .i64 21, .int .i64 a] 76 from by rw [HS1.out]; exact at_sets HM2.out HI2.out _)
  clear hb hr hat
  go_upto_region 2 with fail
  go_cut [] (fun wy => M c w0 wb mb s1 wy ∧ Blk wy ib #[.int .i64 21, .int .i64 a] 76)
  case first =>
    go_wp2
    go_meet
    exact HA.out
  obtain ⟨hM3, hi3⟩ := hcut
  have HM3 := Lib.hid hM3
  have HI3 := Lib.hid hi3
  have u4 : ∀ i, wc.cell? ⟨ib, i, none⟩ = _ := fun i => hi3.cell i
  obtain ⟨sv, ev, sn, tv, hb, hr, hm⟩ := HM3.out
  obtain ⟨A, n, rfl⟩ := own_slice hr.st
  have um2 : ∀ i, wc.cell? ⟨mb, i, none⟩ = _ := fun i => hb.cell i
  have fm2 : ∀ i, wc.frozen? ⟨mb, i, none⟩ = false := fun i => hb.free i
  unfold cellsOf at um2
  have hst := HSM.out.stack
  clear hM3 hi3 hb hr HA HM2 HI2 um fm ka
  go_wp2_with fail
  refine (show Calls Try.prog 39 #[.int .i64 21] wc (fun e w' => e = .returned (.tuple #[.int .i64 0, .int .i64 0]) ∧ w' = wc) from effect_any 21 (by decide) wc).mono ?_
  rintro e w' ⟨rfl, hw'⟩
  subst w'
  have d1 : decide ((s1.stack.length : Int) < 0) = false := decide_eq_false (by omega)
  have d2 : decide ((16 : Int) < (s1.stack.length : Int)) = false := decide_eq_false (by omega)
  have HGL := Lib.hid (show G = gF c 21 a (xOf 0 s1) (yOf 0 s1) (tookF 0 s1) by rw [HG.out, oneG_long (by show ¬ (_ < (0 : Nat) ∨ 16 < _ - (0 : Nat) + (0 : Nat)); omega)]; rfl)
  obtain ⟨s2, hs2⟩ : ∃ s2, s2 = tookF 0 s1 := ⟨_, rfl⟩
  have HT := Lib.hid (show s2 = s1 by rw [hs2, took0])
  rw [← hs2] at HGL
  clear hs2
  have HM4 := Lib.hid (show M c w0 wb mb s2 wc by rw [HT.out]; exact HM3.out)
  have HI4 := HI3
  obtain ⟨x, hx⟩ : ∃ x, x = xOf 0 s1 := ⟨_, rfl⟩
  obtain ⟨y, hy⟩ : ∃ y, y = yOf 0 s1 := ⟨_, rfl⟩
  rw [← hx, ← hy] at HGL
  obtain rfl : x = 0 := hx
  obtain rfl : y = 0 := hy
  have hl2 : s2.stack.length ≤ 16 := by rw [HT.out]; exact hst
  have hsm2 : Small s2 := by rw [HT.out]; exact HSM.out
  have HS2 := Lib.hid hsm2
  clear hsm2
  go_wp2
  refine bodyPost_ret (results_tmp2 rfl _ _ _) rfl ?_
  rw [HGL.out]
  exact ⟨rfl, HM4.out⟩

set_option maxRecDepth 100000 in
set_option maxHeartbeats 4000000 in
theorem one_15 (c : Env) (w0 wb w : World) (mb : Nat) (s s1 : St) (k : Nat) (a : Int) (h : M c w0 wb mb s w) (hsm : Small s1) (hE : EnvOk c w0) (hC : IsCode w0 c.kA c.CL) (hcl : c.CL.length ≤ 1000) (hat : s.at_ = (k : Int)) (hkl : k < c.CL.length) (hop : c.CL.getD k (0, 0) = (15, a)) (hs1 : s1 = { s with at_ := (k : Int) + 1 }) :
    Calls Try.prog 23 #[mp mb] w fun e w' => e = .returned (.tuple #[.bool (oneG c 15 a s1).1, .int .i64 (oneG c 15 a s1).2.1]) ∧ M c w0 wb mb (oneG c 15 a s1).2.2 w' := by
  obtain ⟨G, hG⟩ : ∃ G, G = oneG c 15 a s1 := ⟨_, rfl⟩
  rw [← hG]
  have HG := Lib.hid hG
  have HM := Lib.hid h
  have HS1 := Lib.hid hs1
  have HSM := Lib.hid hsm
  obtain ⟨sv, ev, sn, tv, hb, hr, hm⟩ := HM.out
  have um : ∀ i, w.cell? ⟨mb, i, none⟩ = _ := fun i => hb.cell i
  unfold cellsOf at um
  rw [hat] at um
  obtain ⟨b, off, hkA, q⟩ := (hC.below hr.below) (by omega)
  obtain ⟨p0, p1⟩ := q k hkl
  rw [hop] at p0 p1
  dsimp only at p0 p1
  rw [hkA] at um
  have k0 : (0 : Int) ≤ (k : Int) := by omega
  have k1 : (k : Int) < (c.CL.length : Int) := by omega
  have k2 : (k : Int) < 1000 := by omega
  have lm := hb.lt
  have lb := World.block_lt_of_cell? w _ p0
  simp at lb
  have HE := Lib.hid hE
  clear hE hC hcl hop hG h hb hr q hs1 hkl hkA hsm
  go_enter Try.func23, Try.ntmps23
  go_upto_region 1 with fail
  go_cut [4] (fun v wy => ∃ ib, v = .pointer (some ⟨ib, 0, none⟩) ∧ M c w0 wb mb s wy ∧ Blk wy ib #[.int .i64 15, .int .i64 a] 76)
  case first =>
    go_region
    all_goals
      go_wp2
      go_meet
      exact ⟨_, rfl, (HM.out.alloc _).drew, (Blk.new _ _ _).drew⟩
  obtain ⟨ib, rfl, hM2, hib⟩ := hcut
  have HM2 := Lib.hid hM2
  have HI2 := Lib.hid hib
  clear hM2 hib um p0 p1 lm lb HM
  obtain ⟨wA, hwA⟩ : ∃ x, x = wc := ⟨_, rfl⟩
  subst hwA
  obtain ⟨sv, ev, sn, tv, hb, hr, hm⟩ := HM2.out
  have um : ∀ i, wA.cell? ⟨mb, i, none⟩ = _ := fun i => hb.cell i
  unfold cellsOf at um
  rw [hat] at um
  have fm : ∀ i, wA.frozen? ⟨mb, i, none⟩ = false := fun i => hb.free i
  have ka : wrap64 ((k : Int) + 1) = (k : Int) + 1 := by unfold wrap64; omega
  have HA := Lib.hid (show M c w0 wb mb s1 (wA.setCell ⟨mb, 7, none⟩ (.int .i64 ((k : Int) + 1))) ∧ Blk (wA.setCell ⟨mb, 7, none⟩ (.int .i64 ((k : Int) + 1))) ib #[.int .i64 15, .int .i64 a] 76 from by rw [HS1.out]; exact at_sets HM2.out HI2.out _)
  clear hb hr hat
  go_upto_region 2 with fail
  go_cut [] (fun wy => M c w0 wb mb s1 wy ∧ Blk wy ib #[.int .i64 15, .int .i64 a] 76)
  case first =>
    go_wp2
    go_meet
    exact HA.out
  obtain ⟨hM3, hi3⟩ := hcut
  have HM3 := Lib.hid hM3
  have HI3 := Lib.hid hi3
  have u4 : ∀ i, wc.cell? ⟨ib, i, none⟩ = _ := fun i => hi3.cell i
  obtain ⟨sv, ev, sn, tv, hb, hr, hm⟩ := HM3.out
  obtain ⟨A, n, rfl⟩ := own_slice hr.st
  have um2 : ∀ i, wc.cell? ⟨mb, i, none⟩ = _ := fun i => hb.cell i
  have fm2 : ∀ i, wc.frozen? ⟨mb, i, none⟩ = false := fun i => hb.free i
  unfold cellsOf at um2
  have hst := HSM.out.stack
  clear hM3 hi3 hb hr HA HM2 HI2 um fm ka
  go_wp2_with fail
  refine (show Calls Try.prog 39 #[.int .i64 15] wc (fun e w' => e = .returned (.tuple #[.int .i64 0, .int .i64 0]) ∧ w' = wc) from effect_any 15 (by decide) wc).mono ?_
  rintro e w' ⟨rfl, hw'⟩
  subst w'
  have d1 : decide ((s1.stack.length : Int) < 0) = false := decide_eq_false (by omega)
  have d2 : decide ((16 : Int) < (s1.stack.length : Int)) = false := decide_eq_false (by omega)
  have HGL := Lib.hid (show G = gF c 15 a (xOf 0 s1) (yOf 0 s1) (tookF 0 s1) by rw [HG.out, oneG_long (by show ¬ (_ < (0 : Nat) ∨ 16 < _ - (0 : Nat) + (0 : Nat)); omega)]; rfl)
  obtain ⟨s2, hs2⟩ : ∃ s2, s2 = tookF 0 s1 := ⟨_, rfl⟩
  have HT := Lib.hid (show s2 = s1 by rw [hs2, took0])
  rw [← hs2] at HGL
  clear hs2
  have HM4 := Lib.hid (show M c w0 wb mb s2 wc by rw [HT.out]; exact HM3.out)
  have HI4 := HI3
  obtain ⟨x, hx⟩ : ∃ x, x = xOf 0 s1 := ⟨_, rfl⟩
  obtain ⟨y, hy⟩ : ∃ y, y = yOf 0 s1 := ⟨_, rfl⟩
  rw [← hx, ← hy] at HGL
  obtain rfl : x = 0 := hx
  obtain rfl : y = 0 := hy
  have hl2 : s2.stack.length ≤ 16 := by rw [HT.out]; exact hst
  have hsm2 : Small s2 := by rw [HT.out]; exact HSM.out
  have HS2 := Lib.hid hsm2
  clear hsm2
  have HF := Lib.hid (HM4.out.atK a)
  go_wp2
  refine bodyPost_ret (results_tmp2 rfl _ _ _) rfl ?_
  rw [HGL.out]
  exact ⟨rfl, HF.out⟩

set_option maxRecDepth 100000 in
set_option maxHeartbeats 4000000 in
theorem one_20 (c : Env) (w0 wb w : World) (mb : Nat) (s s1 : St) (k : Nat) (kk : Nat) (hkk : kk < c.NL.length) (h : M c w0 wb mb s w) (hsm : Small s1) (hE : EnvOk c w0) (hC : IsCode w0 c.kA c.CL) (hcl : c.CL.length ≤ 1000) (hat : s.at_ = (k : Int)) (hkl : k < c.CL.length) (hop : c.CL.getD k (0, 0) = (20, (kk : Int))) (hs1 : s1 = { s with at_ := (k : Int) + 1 }) :
    Calls Try.prog 23 #[mp mb] w fun e w' => e = .returned (.tuple #[.bool (oneG c 20 (kk : Int) s1).1, .int .i64 (oneG c 20 (kk : Int) s1).2.1]) ∧ M c w0 wb mb (oneG c 20 (kk : Int) s1).2.2 w' := by
  obtain ⟨G, hG⟩ : ∃ G, G = oneG c 20 (kk : Int) s1 := ⟨_, rfl⟩
  rw [← hG]
  have HG := Lib.hid hG
  have HM := Lib.hid h
  have HS1 := Lib.hid hs1
  have HSM := Lib.hid hsm
  obtain ⟨sv, ev, sn, tv, hb, hr, hm⟩ := HM.out
  have um : ∀ i, w.cell? ⟨mb, i, none⟩ = _ := fun i => hb.cell i
  unfold cellsOf at um
  rw [hat] at um
  obtain ⟨b, off, hkA, q⟩ := (hC.below hr.below) (by omega)
  obtain ⟨p0, p1⟩ := q k hkl
  rw [hop] at p0 p1
  dsimp only at p0 p1
  rw [hkA] at um
  have k0 : (0 : Int) ≤ (k : Int) := by omega
  have k1 : (k : Int) < (c.CL.length : Int) := by omega
  have k2 : (k : Int) < 1000 := by omega
  have lm := hb.lt
  have lb := World.block_lt_of_cell? w _ p0
  simp at lb
  have HE := Lib.hid hE
  clear hE hC hcl hop hG h hb hr q hs1 hkl hkA hsm
  go_enter Try.func23, Try.ntmps23
  go_upto_region 1 with fail
  go_cut [4] (fun v wy => ∃ ib, v = .pointer (some ⟨ib, 0, none⟩) ∧ M c w0 wb mb s wy ∧ Blk wy ib #[.int .i64 20, .int .i64 (kk : Int)] 76)
  case first =>
    go_region
    all_goals
      go_wp2
      go_meet
      exact ⟨_, rfl, (HM.out.alloc _).drew, (Blk.new _ _ _).drew⟩
  obtain ⟨ib, rfl, hM2, hib⟩ := hcut
  have HM2 := Lib.hid hM2
  have HI2 := Lib.hid hib
  clear hM2 hib um p0 p1 lm lb HM
  obtain ⟨wA, hwA⟩ : ∃ x, x = wc := ⟨_, rfl⟩
  subst hwA
  obtain ⟨sv, ev, sn, tv, hb, hr, hm⟩ := HM2.out
  have um : ∀ i, wA.cell? ⟨mb, i, none⟩ = _ := fun i => hb.cell i
  unfold cellsOf at um
  rw [hat] at um
  have fm : ∀ i, wA.frozen? ⟨mb, i, none⟩ = false := fun i => hb.free i
  have ka : wrap64 ((k : Int) + 1) = (k : Int) + 1 := by unfold wrap64; omega
  have HA := Lib.hid (show M c w0 wb mb s1 (wA.setCell ⟨mb, 7, none⟩ (.int .i64 ((k : Int) + 1))) ∧ Blk (wA.setCell ⟨mb, 7, none⟩ (.int .i64 ((k : Int) + 1))) ib #[.int .i64 20, .int .i64 (kk : Int)] 76 from by rw [HS1.out]; exact at_sets HM2.out HI2.out _)
  clear hb hr hat
  go_upto_region 2 with fail
  go_cut [] (fun wy => M c w0 wb mb s1 wy ∧ Blk wy ib #[.int .i64 20, .int .i64 (kk : Int)] 76)
  case first =>
    go_wp2
    go_meet
    exact HA.out
  obtain ⟨hM3, hi3⟩ := hcut
  have HM3 := Lib.hid hM3
  have HI3 := Lib.hid hi3
  have u4 : ∀ i, wc.cell? ⟨ib, i, none⟩ = _ := fun i => hi3.cell i
  obtain ⟨sv, ev, sn, tv, hb, hr, hm⟩ := HM3.out
  obtain ⟨A, n, rfl⟩ := own_slice hr.st
  have um2 : ∀ i, wc.cell? ⟨mb, i, none⟩ = _ := fun i => hb.cell i
  have fm2 : ∀ i, wc.frozen? ⟨mb, i, none⟩ = false := fun i => hb.free i
  unfold cellsOf at um2
  have hst := HSM.out.stack
  clear hM3 hi3 hb hr HA HM2 HI2 um fm ka
  go_wp2_with fail
  refine (show Calls Try.prog 39 #[.int .i64 20] wc (fun e w' => e = .returned (.tuple #[.int .i64 0, .int .i64 0]) ∧ w' = wc) from effect_any 20 (by decide) wc).mono ?_
  rintro e w' ⟨rfl, hw'⟩
  subst w'
  have d1 : decide ((s1.stack.length : Int) < 0) = false := decide_eq_false (by omega)
  have d2 : decide ((16 : Int) < (s1.stack.length : Int)) = false := decide_eq_false (by omega)
  have HGL := Lib.hid (show G = gF c 20 (kk : Int) (xOf 0 s1) (yOf 0 s1) (tookF 0 s1) by rw [HG.out, oneG_long (by show ¬ (_ < (0 : Nat) ∨ 16 < _ - (0 : Nat) + (0 : Nat)); omega)]; rfl)
  obtain ⟨s2, hs2⟩ : ∃ s2, s2 = tookF 0 s1 := ⟨_, rfl⟩
  have HT := Lib.hid (show s2 = s1 by rw [hs2, took0])
  rw [← hs2] at HGL
  clear hs2
  have HM4 := Lib.hid (show M c w0 wb mb s2 wc by rw [HT.out]; exact HM3.out)
  have HI4 := HI3
  obtain ⟨x, hx⟩ : ∃ x, x = xOf 0 s1 := ⟨_, rfl⟩
  obtain ⟨y, hy⟩ : ∃ y, y = yOf 0 s1 := ⟨_, rfl⟩
  rw [← hx, ← hy] at HGL
  obtain rfl : x = 0 := hx
  obtain rfl : y = 0 := hy
  have hl2 : s2.stack.length ≤ 16 := by rw [HT.out]; exact hst
  have hsm2 : Small s2 := by rw [HT.out]; exact HSM.out
  have HS2 := Lib.hid hsm2
  clear hsm2
  have HOUT := Lib.hid (out_20 c w0 wb _ mb s2 kk 0 0 hkk HE.out HM4.out HS2.out.tm)
  go_wp2_with fail
  refine HOUT.out.mono ?_
  rintro e w5 ⟨rfl, hM6⟩
  have HM6 := Lib.hid hM6
  clear u4 hM6
  go_wp2
  refine bodyPost_ret (results_tmp2 rfl _ _ _) rfl ?_
  rw [HGL.out]
  refine ⟨rfl, ?_⟩
  show M c w0 wb mb { s2 with tm := s2.tm ++ [(c.NL.getD (kk : Int).toNat ⟨#[]⟩, true, 0, 0, 0)] } w5
  rw [Int.toNat_natCast]
  exact HM6.out
end Go.Proofs.Ytmmbigfeojfedaa.R
namespace Go.Proofs.Ytmmbigfeojfedaa.R
open Go.RowKit Go.Proofs.YtmmbigfeojfedaaW.PrintWords

set_option maxRecDepth 100000 in
set_option maxHeartbeats 4000000 in
theorem one_13 (c : Env) (w0 wb w : World) (mb : Nat) (s s1 : St) (k : Nat) (a : Int) (h : M c w0 wb mb s w) (hsm : Small s1) (hE : EnvOk c w0) (hC : IsCode w0 c.kA c.CL) (hcl : c.CL.length ≤ 1000) (hat : s.at_ = (k : Int)) (hkl : k < c.CL.length) (hop : c.CL.getD k (0, 0) = (13, a)) (hs1 : s1 = { s with at_ := (k : Int) + 1 }) :
    Calls Try.prog 23 #[mp mb] w fun e w' => e = .returned (.tuple #[.bool (oneG c 13 a s1).1, .int .i64 (oneG c 13 a s1).2.1]) ∧ M c w0 wb mb (oneG c 13 a s1).2.2 w' := by
  obtain ⟨G, hG⟩ : ∃ G, G = oneG c 13 a s1 := ⟨_, rfl⟩
  rw [← hG]
  have HG := Lib.hid hG
  have HM := Lib.hid h
  have HS1 := Lib.hid hs1
  have HSM := Lib.hid hsm
  obtain ⟨sv, ev, sn, tv, hb, hr, hm⟩ := HM.out
  have um : ∀ i, w.cell? ⟨mb, i, none⟩ = _ := fun i => hb.cell i
  unfold cellsOf at um
  rw [hat] at um
  obtain ⟨b, off, hkA, q⟩ := (hC.below hr.below) (by omega)
  obtain ⟨p0, p1⟩ := q k hkl
  rw [hop] at p0 p1
  dsimp only at p0 p1
  rw [hkA] at um
  have k0 : (0 : Int) ≤ (k : Int) := by omega
  have k1 : (k : Int) < (c.CL.length : Int) := by omega
  have k2 : (k : Int) < 1000 := by omega
  have lm := hb.lt
  have lb := World.block_lt_of_cell? w _ p0
  simp at lb
  have HE := Lib.hid hE
  clear hE hC hcl hop hG h hb hr q hs1 hkl hkA hsm
  go_enter Try.func23, Try.ntmps23
  go_upto_region 1 with fail
  go_cut [4] (fun v wy => ∃ ib, v = .pointer (some ⟨ib, 0, none⟩) ∧ M c w0 wb mb s wy ∧ Blk wy ib #[.int .i64 13, .int .i64 a] 76)
  case first =>
    go_region
    all_goals
      go_wp2
      go_meet
      exact ⟨_, rfl, (HM.out.alloc _).drew, (Blk.new _ _ _).drew⟩
  obtain ⟨ib, rfl, hM2, hib⟩ := hcut
  have HM2 := Lib.hid hM2
  have HI2 := Lib.hid hib
  clear hM2 hib um p0 p1 lm lb HM
  obtain ⟨wA, hwA⟩ : ∃ x, x = wc := ⟨_, rfl⟩
  subst hwA
  obtain ⟨sv, ev, sn, tv, hb, hr, hm⟩ := HM2.out
  have um : ∀ i, wA.cell? ⟨mb, i, none⟩ = _ := fun i => hb.cell i
  unfold cellsOf at um
  rw [hat] at um
  have fm : ∀ i, wA.frozen? ⟨mb, i, none⟩ = false := fun i => hb.free i
  have ka : wrap64 ((k : Int) + 1) = (k : Int) + 1 := by unfold wrap64; omega
  have HA := Lib.hid (show M c w0 wb mb s1 (wA.setCell ⟨mb, 7, none⟩ (.int .i64 ((k : Int) + 1))) ∧ Blk (wA.setCell ⟨mb, 7, none⟩ (.int .i64 ((k : Int) + 1))) ib #[.int .i64 13, .int .i64 a] 76 from by rw [HS1.out]; exact at_sets HM2.out HI2.out _)
  clear hb hr hat
  go_upto_region 2 with fail
  go_cut [] (fun wy => M c w0 wb mb s1 wy ∧ Blk wy ib #[.int .i64 13, .int .i64 a] 76)
  case first =>
    go_wp2
    go_meet
    exact HA.out
  obtain ⟨hM3, hi3⟩ := hcut
  have HM3 := Lib.hid hM3
  have HI3 := Lib.hid hi3
  have u4 : ∀ i, wc.cell? ⟨ib, i, none⟩ = _ := fun i => hi3.cell i
  obtain ⟨sv, ev, sn, tv, hb, hr, hm⟩ := HM3.out
  obtain ⟨A, n, rfl⟩ := own_slice hr.st
  have um2 : ∀ i, wc.cell? ⟨mb, i, none⟩ = _ := fun i => hb.cell i
  have fm2 : ∀ i, wc.frozen? ⟨mb, i, none⟩ = false := fun i => hb.free i
  unfold cellsOf at um2
  have hst := HSM.out.stack
  clear hM3 hi3 hb hr HA HM2 HI2 um fm ka
  go_wp2_with fail
  refine (show Calls Try.prog 39 #[.int .i64 13] wc (fun e w' => e = .returned (.tuple #[.int .i64 1, .int .i64 0]) ∧ w' = wc) from effect_any 13 (by decide) wc).mono ?_
  rintro e w' ⟨rfl, hw'⟩
  subst w'
  by_cases hT : s1.stack.length < 1
  · have d1 : decide ((s1.stack.length : Int) < 1) = true := decide_eq_true (by omega)
    have HE2 := Lib.hid (show G = (false, 10, s1) by rw [HG.out, oneG_short (by show _ < (1 : Nat) ∨ 16 < _ - (1 : Nat) + (0 : Nat); omega)])
    go_wp2
    refine bodyPost_ret (results_tmp2 rfl _ _ _) rfl ?_
    rw [HE2.out]
    exact ⟨rfl, HM3.out⟩
  have d1 : decide ((s1.stack.length : Int) < 1) = false := decide_eq_false (by omega)
  have d2 : decide ((16 : Int) < ((s1.stack.length : Int) - 1)) = false := decide_eq_false (by omega)
  have HGL := Lib.hid (show G = gF c 13 a (xOf 1 s1) (yOf 1 s1) (tookF 1 s1) by rw [HG.out, oneG_long (by show ¬ (_ < (1 : Nat) ∨ 16 < _ - (1 : Nat) + (0 : Nat)); omega)]; rfl)
  go_wp2_with fail
  refine (pops c w0 wb _ mb ib _ s1 HM3.out HI3.out (by omega) hst).mono ?_
  rintro e w2 ⟨rfl, hM4, hi4⟩
  obtain ⟨s2, hs2⟩ : ∃ s2, s2 = tookF 1 s1 := ⟨_, rfl⟩
  obtain ⟨x, hx⟩ : ∃ x, x = xOf 1 s1 := ⟨_, rfl⟩
  have hx' : s1.stack.getD (s1.stack.length - 1) 0 = x := hx.symm
  rw [hx']
  rw [← hs2] at HGL hM4
  rw [← hx] at HGL
  obtain ⟨y, hy⟩ : ∃ y, y = yOf 1 s1 := ⟨_, rfl⟩
  rw [← hy] at HGL
  obtain rfl : y = 0 := hy
  have hl2 : s2.stack.length + 1 ≤ 16 := by rw [hs2, took_len]; omega
  have HS2 := Lib.hid (show Small s2 by rw [hs2]; exact ⟨by rw [took_len]; omega, HSM.out.ev, HSM.out.sent, HSM.out.tm⟩)
  have HM4 := Lib.hid hM4
  have HI4 := Lib.hid hi4
  have HX := Lib.hid hx
  clear hM4 hi4 hx' hs2 hx u4 um2 fm2 d1 d2 hT HM3 HI3
  have u4 : ∀ i, w2.cell? ⟨ib, i, none⟩ = _ := fun i => HI4.out.cell i
  go_wp2
  refine bodyPost_ret (results_tmp2 rfl _ _ _) rfl ?_
  rw [HGL.out]
  exact ⟨rfl, HM4.out⟩

set_option maxRecDepth 100000 in
set_option maxHeartbeats 4000000 in
theorem one_16 (c : Env) (w0 wb w : World) (mb : Nat) (s s1 : St) (k : Nat) (a : Int) (h : M c w0 wb mb s w) (hsm : Small s1) (hE : EnvOk c w0) (hC : IsCode w0 c.kA c.CL) (hcl : c.CL.length ≤ 1000) (hat : s.at_ = (k : Int)) (hkl : k < c.CL.length) (hop : c.CL.getD k (0, 0) = (16, a)) (hs1 : s1 = { s with at_ := (k : Int) + 1 }) :
    Calls Try.prog 23 #[mp mb] w fun e w' => e = .returned (.tuple #[.bool (oneG c 16 a s1).1, .int .i64 (oneG c 16 a s1).2.1]) ∧ M c w0 wb mb (oneG c 16 a s1).2.2 w' := by
  obtain ⟨G, hG⟩ : ∃ G, G = oneG c 16 a s1 := ⟨_, rfl⟩
  rw [← hG]
  have HG := Lib.hid hG
  have HM := Lib.hid h
  have HS1 := Lib.hid hs1
  have HSM := Lib.hid hsm
  obtain ⟨sv, ev, sn, tv, hb, hr, hm⟩ := HM.out
  have um : ∀ i, w.cell? ⟨mb, i, none⟩ = _ := fun i => hb.cell i
  unfold cellsOf at um
  rw [hat] at um
  obtain ⟨b, off, hkA, q⟩ := (hC.below hr.below) (by omega)
  obtain ⟨p0, p1⟩ := q k hkl
  rw [hop] at p0 p1
  dsimp only at p0 p1
  rw [hkA] at um
  have k0 : (0 : Int) ≤ (k : Int) := by omega
  have k1 : (k : Int) < (c.CL.length : Int) := by omega
  have k2 : (k : Int) < 1000 := by omega
  have lm := hb.lt
  have lb := World.block_lt_of_cell? w _ p0
  simp at lb
  have HE := Lib.hid hE
  clear hE hC hcl hop hG h hb hr q hs1 hkl hkA hsm
  go_enter Try.func23, Try.ntmps23
  go_upto_region 1 with fail
  go_cut [4] (fun v wy => ∃ ib, v = .pointer (some ⟨ib, 0, none⟩) ∧ M c w0 wb mb s wy ∧ Blk wy ib #[.int .i64 16, .int .i64 a] 76)
  case first =>
    go_region
    all_goals
      go_wp2
      go_meet
      exact ⟨_, rfl, (HM.out.alloc _).drew, (Blk.new _ _ _).drew⟩
  obtain ⟨ib, rfl, hM2, hib⟩ := hcut
  have HM2 := Lib.hid hM2
  have HI2 := Lib.hid hib
  clear hM2 hib um p0 p1 lm lb HM
  obtain ⟨wA, hwA⟩ : ∃ x, x = wc := ⟨_, rfl⟩
  subst hwA
  obtain ⟨sv, ev, sn, tv, hb, hr, hm⟩ := HM2.out
  have um : ∀ i, wA.cell? ⟨mb, i, none⟩ = _ := fun i => hb.cell i
  unfold cellsOf at um
  rw [hat] at um
  have fm : ∀ i, wA.frozen? ⟨mb, i, none⟩ = false := fun i => hb.free i
  have ka : wrap64 ((k : Int) + 1) = (k : Int) + 1 := by unfold wrap64; omega
  have HA := Lib.hid (show M c w0 wb mb s1 (wA.setCell ⟨mb, 7, none⟩ (.int .i64 ((k : Int) + 1))) ∧ Blk (wA.setCell ⟨mb, 7, none⟩ (.int .i64 ((k : Int) + 1))) ib #[.int .i64 16, .int .i64 a] 76 from by rw [HS1.out]; exact at_sets HM2.out HI2.out _)
  clear hb hr hat
  go_upto_region 2 with fail
  go_cut [] (fun wy => M c w0 wb mb s1 wy ∧ Blk wy ib #[.int .i64 16, .int .i64 a] 76)
  case first =>
    go_wp2
    go_meet
    exact HA.out
  obtain ⟨hM3, hi3⟩ := hcut
  have HM3 := Lib.hid hM3
  have HI3 := Lib.hid hi3
  have u4 : ∀ i, wc.cell? ⟨ib, i, none⟩ = _ := fun i => hi3.cell i
  obtain ⟨sv, ev, sn, tv, hb, hr, hm⟩ := HM3.out
  obtain ⟨A, n, rfl⟩ := own_slice hr.st
  have um2 : ∀ i, wc.cell? ⟨mb, i, none⟩ = _ := fun i => hb.cell i
  have fm2 : ∀ i, wc.frozen? ⟨mb, i, none⟩ = false := fun i => hb.free i
  unfold cellsOf at um2
  have hst := HSM.out.stack
  clear hM3 hi3 hb hr HA HM2 HI2 um fm ka
  go_wp2_with fail
  refine (show Calls Try.prog 39 #[.int .i64 16] wc (fun e w' => e = .returned (.tuple #[.int .i64 1, .int .i64 0]) ∧ w' = wc) from effect_any 16 (by decide) wc).mono ?_
  rintro e w' ⟨rfl, hw'⟩
  subst w'
  by_cases hT : s1.stack.length < 1
  · have d1 : decide ((s1.stack.length : Int) < 1) = true := decide_eq_true (by omega)
    have HE2 := Lib.hid (show G = (false, 10, s1) by rw [HG.out, oneG_short (by show _ < (1 : Nat) ∨ 16 < _ - (1 : Nat) + (0 : Nat); omega)])
    go_wp2
    refine bodyPost_ret (results_tmp2 rfl _ _ _) rfl ?_
    rw [HE2.out]
    exact ⟨rfl, HM3.out⟩
  have d1 : decide ((s1.stack.length : Int) < 1) = false := decide_eq_false (by omega)
  have d2 : decide ((16 : Int) < ((s1.stack.length : Int) - 1)) = false := decide_eq_false (by omega)
  have HGL := Lib.hid (show G = gF c 16 a (xOf 1 s1) (yOf 1 s1) (tookF 1 s1) by rw [HG.out, oneG_long (by show ¬ (_ < (1 : Nat) ∨ 16 < _ - (1 : Nat) + (0 : Nat)); omega)]; rfl)
  go_wp2_with fail
  refine (pops c w0 wb _ mb ib _ s1 HM3.out HI3.out (by omega) hst).mono ?_
  rintro e w2 ⟨rfl, hM4, hi4⟩
  obtain ⟨s2, hs2⟩ : ∃ s2, s2 = tookF 1 s1 := ⟨_, rfl⟩
  obtain ⟨x, hx⟩ : ∃ x, x = xOf 1 s1 := ⟨_, rfl⟩
  have hx' : s1.stack.getD (s1.stack.length - 1) 0 = x := hx.symm
  rw [hx']
  rw [← hs2] at HGL hM4
  rw [← hx] at HGL
  obtain ⟨y, hy⟩ : ∃ y, y = yOf 1 s1 := ⟨_, rfl⟩
  rw [← hy] at HGL
  obtain rfl : y = 0 := hy
  have hl2 : s2.stack.length + 1 ≤ 16 := by rw [hs2, took_len]; omega
  have HS2 := Lib.hid (show Small s2 by rw [hs2]; exact ⟨by rw [took_len]; omega, HSM.out.ev, HSM.out.sent, HSM.out.tm⟩)
  have HM4 := Lib.hid hM4
  have HI4 := Lib.hid hi4
  have HX := Lib.hid hx
  clear hM4 hi4 hx' hs2 hx u4 um2 fm2 d1 d2 hT HM3 HI3
  have u4 : ∀ i, w2.cell? ⟨ib, i, none⟩ = _ := fun i => HI4.out.cell i
  by_cases hx0 : x = 0
  · have t0 : (x == 0) = true := by rw [hx0]; rfl
    have HG3 := Lib.hid (show G = (true, 0, { s2 with at_ := a }) by rw [HGL.out]; show (true, (0 : Int), if x = 0 then { s2 with at_ := a } else s2) = _; rw [if_pos hx0])
    clear hx0
    obtain ⟨sv4, ev4, sn4, tv4, hb4, hr4, hm4⟩ := HM4.out
    have um4 : ∀ i, w2.cell? ⟨mb, i, none⟩ = _ := fun i => hb4.cell i
    have fm4 : ∀ i, w2.frozen? ⟨mb, i, none⟩ = false := fun i => hb4.free i
    unfold cellsOf at um4
    have HF := Lib.hid (HM4.out.atK a)
    clear hb4 hr4
    go_wp2
    refine bodyPost_ret (results_tmp2 rfl _ _ _) rfl ?_
    rw [HG3.out]
    exact ⟨rfl, HF.out⟩
  · have t0 : (x == 0) = false := by simpa using hx0
    have HG3 := Lib.hid (show G = (true, 0, s2) by rw [HGL.out]; show (true, (0 : Int), if x = 0 then { s2 with at_ := a } else s2) = _; rw [if_neg hx0])
    clear hx0
    go_wp2
    refine bodyPost_ret (results_tmp2 rfl _ _ _) rfl ?_
    rw [HG3.out]
    exact ⟨rfl, HM4.out⟩

set_option maxRecDepth 100000 in
set_option maxHeartbeats 4000000 in
theorem one_12 (c : Env) (w0 wb w : World) (mb : Nat) (s s1 : St) (k : Nat) (a : Int) (h : M c w0 wb mb s w) (hsm : Small s1) (hE : EnvOk c w0) (hC : IsCode w0 c.kA c.CL) (hcl : c.CL.length ≤ 1000) (hat : s.at_ = (k : Int)) (hkl : k < c.CL.length) (hop : c.CL.getD k (0, 0) = (12, a)) (hs1 : s1 = { s with at_ := (k : Int) + 1 }) :
    Calls Try.prog 23 #[mp mb] w fun e w' => e = .returned (.tuple #[.bool (oneG c 12 a s1).1, .int .i64 (oneG c 12 a s1).2.1]) ∧ M c w0 wb mb (oneG c 12 a s1).2.2 w' := by
  obtain ⟨G, hG⟩ : ∃ G, G = oneG c 12 a s1 := ⟨_, rfl⟩
  rw [← hG]
  have HG := Lib.hid hG
  have HM := Lib.hid h
  have HS1 := Lib.hid hs1
  have HSM := Lib.hid hsm
  obtain ⟨sv, ev, sn, tv, hb, hr, hm⟩ := HM.out
  have um : ∀ i, w.cell? ⟨mb, i, none⟩ = _ := fun i => hb.cell i
  unfold cellsOf at um
  rw [hat] at um
  obtain ⟨b, off, hkA, q⟩ := (hC.below hr.below) (by omega)
  obtain ⟨p0, p1⟩ := q k hkl
  rw [hop] at p0 p1
  dsimp only at p0 p1
  rw [hkA] at um
  have k0 : (0 : Int) ≤ (k : Int) := by omega
  have k1 : (k : Int) < (c.CL.length : Int) := by omega
  have k2 : (k : Int) < 1000 := by omega
  have lm := hb.lt
  have lb := World.block_lt_of_cell? w _ p0
  simp at lb
  have HE := Lib.hid hE
  clear hE hC hcl hop hG h hb hr q hs1 hkl hkA hsm
  go_enter Try.func23, Try.ntmps23
  go_upto_region 1 with fail
  go_cut [4] (fun v wy => ∃ ib, v = .pointer (some ⟨ib, 0, none⟩) ∧ M c w0 wb mb s wy ∧ Blk wy ib #[.int .i64 12, .int .i64 a] 76)
  case first =>
    go_region
    all_goals
      go_wp2
      go_meet
      exact ⟨_, rfl, (HM.out.alloc _).drew, (Blk.new _ _ _).drew⟩
  obtain ⟨ib, rfl, hM2, hib⟩ := hcut
  have HM2 := Lib.hid hM2
  have HI2 := Lib.hid hib
  clear hM2 hib um p0 p1 lm lb HM
  obtain ⟨wA, hwA⟩ : ∃ x, x = wc := ⟨_, rfl⟩
  subst hwA
  obtain ⟨sv, ev, sn, tv, hb, hr, hm⟩ := HM2.out
  have um : ∀ i, wA.cell? ⟨mb, i, none⟩ = _ := fun i => hb.cell i
  unfold cellsOf at um
  rw [hat] at um
  have fm : ∀ i, wA.frozen? ⟨mb, i, none⟩ = false := fun i => hb.free i
  have ka : wrap64 ((k : Int) + 1) = (k : Int) + 1 := by unfold wrap64; omega
  have HA := Lib.hid (show M c w0 wb mb s1 (wA.setCell ⟨mb, 7, none⟩ (.int .i64 ((k : Int) + 1))) ∧ Blk (wA.setCell ⟨mb, 7, none⟩ (.int .i64 ((k : Int) + 1))) ib #[.int .i64 12, .int .i64 a] 76 from by rw [HS1.out]; exact at_sets HM2.out HI2.out _)
  clear hb hr hat
  go_upto_region 2 with fail
  go_cut [] (fun wy => M c w0 wb mb s1 wy ∧ Blk wy ib #[.int .i64 12, .int .i64 a] 76)
  case first =>
    go_wp2
    go_meet
    exact HA.out
  obtain ⟨hM3, hi3⟩ := hcut
  have HM3 := Lib.hid hM3
  have HI3 := Lib.hid hi3
  have u4 : ∀ i, wc.cell? ⟨ib, i, none⟩ = _ := fun i => hi3.cell i
  obtain ⟨sv, ev, sn, tv, hb, hr, hm⟩ := HM3.out
  obtain ⟨A, n, rfl⟩ := own_slice hr.st
  have um2 : ∀ i, wc.cell? ⟨mb, i, none⟩ = _ := fun i => hb.cell i
  have fm2 : ∀ i, wc.frozen? ⟨mb, i, none⟩ = false := fun i => hb.free i
  unfold cellsOf at um2
  have hst := HSM.out.stack
  clear hM3 hi3 hb hr HA HM2 HI2 um fm ka
  go_wp2_with fail
  refine (show Calls Try.prog 39 #[.int .i64 12] wc (fun e w' => e = .returned (.tuple #[.int .i64 1, .int .i64 2]) ∧ w' = wc) from effect_any 12 (by decide) wc).mono ?_
  rintro e w' ⟨rfl, hw'⟩
  subst w'
  by_cases hT : s1.stack.length < 1
  · have d1 : decide ((s1.stack.length : Int) < 1) = true := decide_eq_true (by omega)
    have HE2 := Lib.hid (show G = (false, 10, s1) by rw [HG.out, oneG_short (by show _ < (1 : Nat) ∨ 16 < _ - (1 : Nat) + (2 : Nat); omega)])
    go_wp2
    refine bodyPost_ret (results_tmp2 rfl _ _ _) rfl ?_
    rw [HE2.out]
    exact ⟨rfl, HM3.out⟩
  have d1 : decide ((s1.stack.length : Int) < 1) = false := decide_eq_false (by omega)
  by_cases h16 : 16 < s1.stack.length - 1 + 2
  · have d2 : decide ((16 : Int) < (((s1.stack.length : Int) - 1) + 2)) = true := decide_eq_true (by omega)
    have HE2 := Lib.hid (show G = (false, 10, s1) by rw [HG.out, oneG_short (by show _ < (1 : Nat) ∨ 16 < _ - (1 : Nat) + (2 : Nat); omega)])
    go_wp2
    refine bodyPost_ret (results_tmp2 rfl _ _ _) rfl ?_
    rw [HE2.out]
    exact ⟨rfl, HM3.out⟩
  have d2 : decide ((16 : Int) < (((s1.stack.length : Int) - 1) + 2)) = false := decide_eq_false (by omega)
  have HGL := Lib.hid (show G = gF c 12 a (xOf 1 s1) (yOf 1 s1) (tookF 1 s1) by rw [HG.out, oneG_long (by show ¬ (_ < (1 : Nat) ∨ 16 < _ - (1 : Nat) + (2 : Nat)); omega)]; rfl)
  go_wp2_with fail
  refine (pops c w0 wb _ mb ib _ s1 HM3.out HI3.out (by omega) hst).mono ?_
  rintro e w2 ⟨rfl, hM4, hi4⟩
  obtain ⟨s2, hs2⟩ : ∃ s2, s2 = tookF 1 s1 := ⟨_, rfl⟩
  obtain ⟨x, hx⟩ : ∃ x, x = xOf 1 s1 := ⟨_, rfl⟩
  have hx' : s1.stack.getD (s1.stack.length - 1) 0 = x := hx.symm
  rw [hx']
  rw [← hs2] at HGL hM4
  rw [← hx] at HGL
  obtain ⟨y, hy⟩ : ∃ y, y = yOf 1 s1 := ⟨_, rfl⟩
  rw [← hy] at HGL
  obtain rfl : y = 0 := hy
  have hl2 : s2.stack.length + 1 ≤ 16 := by rw [hs2, took_len]; omega
  have HS2 := Lib.hid (show Small s2 by rw [hs2]; exact ⟨by rw [took_len]; omega, HSM.out.ev, HSM.out.sent, HSM.out.tm⟩)
  have HM4 := Lib.hid hM4
  have HI4 := Lib.hid hi4
  have HX := Lib.hid hx
  clear hM4 hi4 hx' hs2 hx u4 um2 fm2 d1 d2 hT HM3 HI3
  have u4 : ∀ i, w2.cell? ⟨ib, i, none⟩ = _ := fun i => HI4.out.cell i
  go_wp2_with fail
  refine (pushb c w0 wb _ mb ib _ s2 x HM4.out HI4.out (by omega)).mono ?_
  rintro e w3 ⟨rfl, hM5, hi5⟩
  have HM5 := Lib.hid hM5
  have HI5 := Lib.hid hi5
  clear u4 hM5 hi5
  have u5 : ∀ i, w3.cell? ⟨ib, i, none⟩ = _ := fun i => HI5.out.cell i
  go_wp2_with fail
  refine (pushb c w0 wb _ mb ib _ _ x HM5.out HI5.out (by simp only [List.length_append, List.length_cons, List.length_nil]; omega)).mono ?_
  rintro e w4 ⟨rfl, hM6, hi6⟩
  have HM6 := Lib.hid hM6
  clear u5 hM6 hi6
  go_wp2
  refine bodyPost_ret (results_tmp2 rfl _ _ _) rfl ?_
  rw [HGL.out]
  exact ⟨rfl, HM6.out⟩
end Go.Proofs.Ytmmbigfeojfedaa.R
namespace Go.Proofs.Ytmmbigfeojfedaa.R
open Go.RowKit Go.Proofs.YtmmbigfeojfedaaW.PrintWords

set_option maxRecDepth 100000 in
set_option maxHeartbeats 4000000 in
theorem one_1 (c : Env) (w0 wb w : World) (mb : Nat) (s s1 : St) (k : Nat) (a : Int) (h : M c w0 wb mb s w) (hsm : Small s1) (hE : EnvOk c w0) (hC : IsCode w0 c.kA c.CL) (hcl : c.CL.length ≤ 1000) (hat : s.at_ = (k : Int)) (hkl : k < c.CL.length) (hop : c.CL.getD k (0, 0) = (1, a)) (hs1 : s1 = { s with at_ := (k : Int) + 1 }) :
    Calls Try.prog 23 #[mp mb] w fun e w' => e = .returned (.tuple #[.bool (oneG c 1 a s1).1, .int .i64 (oneG c 1 a s1).2.1]) ∧ M c w0 wb mb (oneG c 1 a s1).2.2 w' := by
  obtain ⟨G, hG⟩ : ∃ G, G = oneG c 1 a s1 := ⟨_, rfl⟩
  rw [← hG]
  have HG := Lib.hid hG
  have HM := Lib.hid h
  have HS1 := Lib.hid hs1
  have HSM := Lib.hid hsm
  obtain ⟨sv, ev, sn, tv, hb, hr, hm⟩ := HM.out
  have um : ∀ i, w.cell? ⟨mb, i, none⟩ = _ := fun i => hb.cell i
  unfold cellsOf at um
  rw [hat] at um
  obtain ⟨b, off, hkA, q⟩ := (hC.below hr.below) (by omega)
  obtain ⟨p0, p1⟩ := q k hkl
  rw [hop] at p0 p1
  dsimp only at p0 p1
  rw [hkA] at um
  have k0 : (0 : Int) ≤ (k : Int) := by omega
  have k1 : (k : Int) < (c.CL.length : Int) := by omega
  have k2 : (k : Int) < 1000 := by omega
  have lm := hb.lt
  have lb := World.block_lt_of_cell? w _ p0
  simp at lb
  have HE := Lib.hid hE
  clear hE hC hcl hop hG h hb hr q hs1 hkl hkA hsm
  go_enter Try.func23, Try.ntmps23
  go_upto_region 1 with fail
  go_cut [4] (fun v wy => ∃ ib, v = .pointer (some ⟨ib, 0, none⟩) ∧ M c w0 wb mb s wy ∧ Blk wy ib #[.int .i64 1, .int .i64 a] 76)
  case first =>
    go_region
    all_goals
      go_wp2
      go_meet
      exact ⟨_, rfl, (HM.out.alloc _).drew, (Blk.new _ _ _).drew⟩
  obtain ⟨ib, rfl, hM2, hib⟩ := hcut
  have HM2 := Lib.hid hM2
  have HI2 := Lib.hid hib
  clear hM2 hib um p0 p1 lm lb HM
  obtain ⟨wA, hwA⟩ : ∃ x, x = wc := ⟨_, rfl⟩
  subst hwA
  obtain ⟨sv, ev, sn, tv, hb, hr, hm⟩ := HM2.out
  have um : ∀ i, wA.cell? ⟨mb, i, none⟩ = _ := fun i => hb.cell i
  unfold cellsOf at um
  rw [hat] at um
  have fm : ∀ i, wA.frozen? ⟨mb, i, none⟩ = false := fun i => hb.free i
  have ka : wrap64 ((k : Int) + 1) = (k : Int) + 1 := by unfold wrap64; omega
  have HA := Lib.hid (show M c w0 wb mb s1 (wA.setCell ⟨mb, 7, none⟩ (.int .i64 ((k : Int) + 1))) ∧ Blk (wA.setCell ⟨mb, 7, none⟩ (.int .i64 ((k : Int) + 1))) ib #[.int .i64 1, .int .i64 a] 76 from by rw [HS1.out]; exact at_sets HM2.out HI2.out _)
  clear hb hr hat
  go_upto_region 2 with fail
  go_cut [] (fun wy => M c w0 wb mb s1 wy ∧ Blk wy ib #[.int .i64 1, .int .i64 a] 76)
  case first =>
    go_wp2
    go_meet
    exact HA.out
  obtain ⟨hM3, hi3⟩ := hcut
  have HM3 := Lib.hid hM3
  have HI3 := Lib.hid hi3
  have u4 : ∀ i, wc.cell? ⟨ib, i, none⟩ = _ := fun i => hi3.cell i
  obtain ⟨sv, ev, sn, tv, hb, hr, hm⟩ := HM3.out
  obtain ⟨A, n, rfl⟩ := own_slice hr.st
  have um2 : ∀ i, wc.cell? ⟨mb, i, none⟩ = _ := fun i => hb.cell i
  have fm2 : ∀ i, wc.frozen? ⟨mb, i, none⟩ = false := fun i => hb.free i
  unfold cellsOf at um2
  have hst := HSM.out.stack
  clear hM3 hi3 hb hr HA HM2 HI2 um fm ka
  go_wp2_with fail
  refine (show Calls Try.prog 39 #[.int .i64 1] wc (fun e w' => e = .returned (.tuple #[.int .i64 0, .int .i64 1]) ∧ w' = wc) from effect_any 1 (by decide) wc).mono ?_
  rintro e w' ⟨rfl, hw'⟩
  subst w'
  have d1 : decide ((s1.stack.length : Int) < 0) = false := decide_eq_false (by omega)
  by_cases h16 : 16 < s1.stack.length - 0 + 1
  · have d2 : decide ((16 : Int) < ((s1.stack.length : Int) + 1)) = true := decide_eq_true (by omega)
    have HE2 := Lib.hid (show G = (false, 10, s1) by rw [HG.out, oneG_short (by show _ < (0 : Nat) ∨ 16 < _ - (0 : Nat) + (1 : Nat); omega)])
    go_wp2
    refine bodyPost_ret (results_tmp2 rfl _ _ _) rfl ?_
    rw [HE2.out]
    exact ⟨rfl, HM3.out⟩
  have d2 : decide ((16 : Int) < ((s1.stack.length : Int) + 1)) = false := decide_eq_false (by omega)
  have HGL := Lib.hid (show G = gF c 1 a (xOf 0 s1) (yOf 0 s1) (tookF 0 s1) by rw [HG.out, oneG_long (by show ¬ (_ < (0 : Nat) ∨ 16 < _ - (0 : Nat) + (1 : Nat)); omega)]; rfl)
  obtain ⟨s2, hs2⟩ : ∃ s2, s2 = tookF 0 s1 := ⟨_, rfl⟩
  have HT := Lib.hid (show s2 = s1 by rw [hs2, took0])
  rw [← hs2] at HGL
  clear hs2
  have HM4 := Lib.hid (show M c w0 wb mb s2 wc by rw [HT.out]; exact HM3.out)
  have HI4 := HI3
  obtain ⟨x, hx⟩ : ∃ x, x = xOf 0 s1 := ⟨_, rfl⟩
  obtain ⟨y, hy⟩ : ∃ y, y = yOf 0 s1 := ⟨_, rfl⟩
  rw [← hx, ← hy] at HGL
  obtain rfl : x = 0 := hx
  obtain rfl : y = 0 := hy
  have hl2 : s2.stack.length ≤ 16 := by rw [HT.out]; exact hst
  have hsm2 : Small s2 := by rw [HT.out]; exact HSM.out
  have HS2 := Lib.hid hsm2
  clear hsm2
  obtain ⟨z, hz⟩ : ∃ z, z = valF c 1 a 0 0 s2 := ⟨_, rfl⟩
  have HG3 := Lib.hid (show G = (true, 0, { s2 with stack := s2.stack ++ [z] }) from by rw [HGL.out, hz]; rfl)
  have HV := Lib.hid (show Calls Try.prog 43 #[mp mb, .agg #[.int .i64 1, .int .i64 a], .int .i64 0, .int .i64 0] wc fun e w' => e = .returned (.int .i64 z) ∧ M c w0 wc mb s2 w' from by rw [hz]; exact value_plain c w0 _ _ mb s2 1 a 0 0 HM4.out.here rfl)
  clear hz HGL
  go_wp2_with fail
  refine HV.out.mono ?_
  rintro e w3 ⟨rfl, hM5⟩
  have HI5 := Lib.hid (hM5.stay.blk HI4.out (by decide))
  have HM5 := Lib.hid (hM5.rebase HM4.out.stay)
  clear u4 hM5
  have u5 : ∀ i, w3.cell? ⟨ib, i, none⟩ = _ := fun i => HI5.out.cell i
  go_wp2_with fail
  refine (pushb c w0 wb _ mb ib _ s2 z HM5.out HI5.out (by omega)).mono ?_
  rintro e w4 ⟨rfl, hM6, hi6⟩
  have HM6 := Lib.hid hM6
  clear u5 hM6 hi6
  go_wp2
  refine bodyPost_ret (results_tmp2 rfl _ _ _) rfl ?_
  rw [HG3.out]
  exact ⟨rfl, HM6.out⟩

set_option maxRecDepth 100000 in
set_option maxHeartbeats 4000000 in
theorem one_5 (c : Env) (w0 wb w : World) (mb : Nat) (s s1 : St) (k : Nat) (a : Int) (h : M c w0 wb mb s w) (hsm : Small s1) (hE : EnvOk c w0) (hC : IsCode w0 c.kA c.CL) (hcl : c.CL.length ≤ 1000) (hat : s.at_ = (k : Int)) (hkl : k < c.CL.length) (hop : c.CL.getD k (0, 0) = (5, a)) (hs1 : s1 = { s with at_ := (k : Int) + 1 }) :
    Calls Try.prog 23 #[mp mb] w fun e w' => e = .returned (.tuple #[.bool (oneG c 5 a s1).1, .int .i64 (oneG c 5 a s1).2.1]) ∧ M c w0 wb mb (oneG c 5 a s1).2.2 w' := by
  obtain ⟨G, hG⟩ : ∃ G, G = oneG c 5 a s1 := ⟨_, rfl⟩
  rw [← hG]
  have HG := Lib.hid hG
  have HM := Lib.hid h
  have HS1 := Lib.hid hs1
  have HSM := Lib.hid hsm
  obtain ⟨sv, ev, sn, tv, hb, hr, hm⟩ := HM.out
  have um : ∀ i, w.cell? ⟨mb, i, none⟩ = _ := fun i => hb.cell i
  unfold cellsOf at um
  rw [hat] at um
  obtain ⟨b, off, hkA, q⟩ := (hC.below hr.below) (by omega)
  obtain ⟨p0, p1⟩ := q k hkl
  rw [hop] at p0 p1
  dsimp only at p0 p1
  rw [hkA] at um
  have k0 : (0 : Int) ≤ (k : Int) := by omega
  have k1 : (k : Int) < (c.CL.length : Int) := by omega
  have k2 : (k : Int) < 1000 := by omega
  have lm := hb.lt
  have lb := World.block_lt_of_cell? w _ p0
  simp at lb
  have HE := Lib.hid hE
  clear hE hC hcl hop hG h hb hr q hs1 hkl hkA hsm
  go_enter Try.func23, Try.ntmps23
  go_upto_region 1 with fail
  go_cut [4] (fun v wy => ∃ ib, v = .pointer (some ⟨ib, 0, none⟩) ∧ M c w0 wb mb s wy ∧ Blk wy ib #[.int .i64 5, .int .i64 a] 76)
  case first =>
    go_region
    all_goals
      go_wp2
      go_meet
      exact ⟨_, rfl, (HM.out.alloc _).drew, (Blk.new _ _ _).drew⟩
  obtain ⟨ib, rfl, hM2, hib⟩ := hcut
  have HM2 := Lib.hid hM2
  have HI2 := Lib.hid hib
  clear hM2 hib um p0 p1 lm lb HM
  obtain ⟨wA, hwA⟩ : ∃ x, x = wc := ⟨_, rfl⟩
  subst hwA
  obtain ⟨sv, ev, sn, tv, hb, hr, hm⟩ := HM2.out
  have um : ∀ i, wA.cell? ⟨mb, i, none⟩ = _ := fun i => hb.cell i
  unfold cellsOf at um
  rw [hat] at um
  have fm : ∀ i, wA.frozen? ⟨mb, i, none⟩ = false := fun i => hb.free i
  have ka : wrap64 ((k : Int) + 1) = (k : Int) + 1 := by unfold wrap64; omega
  have HA := Lib.hid (show M c w0 wb mb s1 (wA.setCell ⟨mb, 7, none⟩ (.int .i64 ((k : Int) + 1))) ∧ Blk (wA.setCell ⟨mb, 7, none⟩ (.int .i64 ((k : Int) + 1))) ib #[.int .i64 5, .int .i64 a] 76 from by rw [HS1.out]; exact at_sets HM2.out HI2.out _)
  clear hb hr hat
  go_upto_region 2 with fail
  go_cut [] (fun wy => M c w0 wb mb s1 wy ∧ Blk wy ib #[.int .i64 5, .int .i64 a] 76)
  case first =>
    go_wp2
    go_meet
    exact HA.out
  obtain ⟨hM3, hi3⟩ := hcut
  have HM3 := Lib.hid hM3
  have HI3 := Lib.hid hi3
  have u4 : ∀ i, wc.cell? ⟨ib, i, none⟩ = _ := fun i => hi3.cell i
  obtain ⟨sv, ev, sn, tv, hb, hr, hm⟩ := HM3.out
  obtain ⟨A, n, rfl⟩ := own_slice hr.st
  have um2 : ∀ i, wc.cell? ⟨mb, i, none⟩ = _ := fun i => hb.cell i
  have fm2 : ∀ i, wc.frozen? ⟨mb, i, none⟩ = false := fun i => hb.free i
  unfold cellsOf at um2
  have hst := HSM.out.stack
  clear hM3 hi3 hb hr HA HM2 HI2 um fm ka
  go_wp2_with fail
  refine (show Calls Try.prog 39 #[.int .i64 5] wc (fun e w' => e = .returned (.tuple #[.int .i64 0, .int .i64 1]) ∧ w' = wc) from effect_any 5 (by decide) wc).mono ?_
  rintro e w' ⟨rfl, hw'⟩
  subst w'
  have d1 : decide ((s1.stack.length : Int) < 0) = false := decide_eq_false (by omega)
  by_cases h16 : 16 < s1.stack.length - 0 + 1
  · have d2 : decide ((16 : Int) < ((s1.stack.length : Int) + 1)) = true := decide_eq_true (by omega)
    have HE2 := Lib.hid (show G = (false, 10, s1) by rw [HG.out, oneG_short (by show _ < (0 : Nat) ∨ 16 < _ - (0 : Nat) + (1 : Nat); omega)])
    go_wp2
    refine bodyPost_ret (results_tmp2 rfl _ _ _) rfl ?_
    rw [HE2.out]
    exact ⟨rfl, HM3.out⟩
  have d2 : decide ((16 : Int) < ((s1.stack.length : Int) + 1)) = false := decide_eq_false (by omega)
  have HGL := Lib.hid (show G = gF c 5 a (xOf 0 s1) (yOf 0 s1) (tookF 0 s1) by rw [HG.out, oneG_long (by show ¬ (_ < (0 : Nat) ∨ 16 < _ - (0 : Nat) + (1 : Nat)); omega)]; rfl)
  obtain ⟨s2, hs2⟩ : ∃ s2, s2 = tookF 0 s1 := ⟨_, rfl⟩
  have HT := Lib.hid (show s2 = s1 by rw [hs2, took0])
  rw [← hs2] at HGL
  clear hs2
  have HM4 := Lib.hid (show M c w0 wb mb s2 wc by rw [HT.out]; exact HM3.out)
  have HI4 := HI3
  obtain ⟨x, hx⟩ : ∃ x, x = xOf 0 s1 := ⟨_, rfl⟩
  obtain ⟨y, hy⟩ : ∃ y, y = yOf 0 s1 := ⟨_, rfl⟩
  rw [← hx, ← hy] at HGL
  obtain rfl : x = 0 := hx
  obtain rfl : y = 0 := hy
  have hl2 : s2.stack.length ≤ 16 := by rw [HT.out]; exact hst
  have hsm2 : Small s2 := by rw [HT.out]; exact HSM.out
  have HS2 := Lib.hid hsm2
  clear hsm2
  obtain ⟨z, hz⟩ : ∃ z, z = valF c 5 a 0 0 s2 := ⟨_, rfl⟩
  have HG3 := Lib.hid (show G = (true, 0, { s2 with stack := s2.stack ++ [z] }) from by rw [HGL.out, hz]; rfl)
  have HV := Lib.hid (show Calls Try.prog 43 #[mp mb, .agg #[.int .i64 5, .int .i64 a], .int .i64 0, .int .i64 0] wc fun e w' => e = .returned (.int .i64 z) ∧ M c w0 wc mb s2 w' from by rw [hz]; exact value_plain c w0 _ _ mb s2 5 a 0 0 HM4.out.here rfl)
  clear hz HGL
  go_wp2_with fail
  refine HV.out.mono ?_
  rintro e w3 ⟨rfl, hM5⟩
  have HI5 := Lib.hid (hM5.stay.blk HI4.out (by decide))
  have HM5 := Lib.hid (hM5.rebase HM4.out.stay)
  clear u4 hM5
  have u5 : ∀ i, w3.cell? ⟨ib, i, none⟩ = _ := fun i => HI5.out.cell i
  go_wp2_with fail
  refine (pushb c w0 wb _ mb ib _ s2 z HM5.out HI5.out (by omega)).mono ?_
  rintro e w4 ⟨rfl, hM6, hi6⟩
  have HM6 := Lib.hid hM6
  clear u5 hM6 hi6
  go_wp2
  refine bodyPost_ret (results_tmp2 rfl _ _ _) rfl ?_
  rw [HG3.out]
  exact ⟨rfl, HM6.out⟩

set_option maxRecDepth 100000 in
set_option maxHeartbeats 4000000 in
theorem one_22 (c : Env) (w0 wb w : World) (mb : Nat) (s s1 : St) (k : Nat) (a : Int) (h : M c w0 wb mb s w) (hsm : Small s1) (hE : EnvOk c w0) (hC : IsCode w0 c.kA c.CL) (hcl : c.CL.length ≤ 1000) (hat : s.at_ = (k : Int)) (hkl : k < c.CL.length) (hop : c.CL.getD k (0, 0) = (22, a)) (hs1 : s1 = { s with at_ := (k : Int) + 1 }) :
    Calls Try.prog 23 #[mp mb] w fun e w' => e = .returned (.tuple #[.bool (oneG c 22 a s1).1, .int .i64 (oneG c 22 a s1).2.1]) ∧ M c w0 wb mb (oneG c 22 a s1).2.2 w' := by
  obtain ⟨G, hG⟩ : ∃ G, G = oneG c 22 a s1 := ⟨_, rfl⟩
  rw [← hG]
  have HG := Lib.hid hG
  have HM := Lib.hid h
  have HS1 := Lib.hid hs1
  have HSM := Lib.hid hsm
  obtain ⟨sv, ev, sn, tv, hb, hr, hm⟩ := HM.out
  have um : ∀ i, w.cell? ⟨mb, i, none⟩ = _ := fun i => hb.cell i
  unfold cellsOf at um
  rw [hat] at um
  obtain ⟨b, off, hkA, q⟩ := (hC.below hr.below) (by omega)
  obtain ⟨p0, p1⟩ := q k hkl
  rw [hop] at p0 p1
  dsimp only at p0 p1
  rw [hkA] at um
  have k0 : (0 : Int) ≤ (k : Int) := by omega
  have k1 : (k : Int) < (c.CL.length : Int) := by omega
  have k2 : (k : Int) < 1000 := by omega
  have lm := hb.lt
  have lb := World.block_lt_of_cell? w _ p0
  simp at lb
  have HE := Lib.hid hE
  clear hE hC hcl hop hG h hb hr q hs1 hkl hkA hsm
  go_enter Try.func23, Try.ntmps23
  go_upto_region 1 with fail
  go_cut [4] (fun v wy => ∃ ib, v = .pointer (some ⟨ib, 0, none⟩) ∧ M c w0 wb mb s wy ∧ Blk wy ib #[.int .i64 22, .int .i64 a] 76)
  case first =>
    go_region
    all_goals
      go_wp2
      go_meet
      exact ⟨_, rfl, (HM.out.alloc _).drew, (Blk.new _ _ _).drew⟩
  obtain ⟨ib, rfl, hM2, hib⟩ := hcut
  have HM2 := Lib.hid hM2
  have HI2 := Lib.hid hib
  clear hM2 hib um p0 p1 lm lb HM
  obtain ⟨wA, hwA⟩ : ∃ x, x = wc := ⟨_, rfl⟩
  subst hwA
  obtain ⟨sv, ev, sn, tv, hb, hr, hm⟩ := HM2.out
  have um : ∀ i, wA.cell? ⟨mb, i, none⟩ = _ := fun i => hb.cell i
  unfold cellsOf at um
  rw [hat] at um
  have fm : ∀ i, wA.frozen? ⟨mb, i, none⟩ = false := fun i => hb.free i
  have ka : wrap64 ((k : Int) + 1) = (k : Int) + 1 := by unfold wrap64; omega
  have HA := Lib.hid (show M c w0 wb mb s1 (wA.setCell ⟨mb, 7, none⟩ (.int .i64 ((k : Int) + 1))) ∧ Blk (wA.setCell ⟨mb, 7, none⟩ (.int .i64 ((k : Int) + 1))) ib #[.int .i64 22, .int .i64 a] 76 from by rw [HS1.out]; exact at_sets HM2.out HI2.out _)
  clear hb hr hat
  go_upto_region 2 with fail
  go_cut [] (fun wy => M c w0 wb mb s1 wy ∧ Blk wy ib #[.int .i64 22, .int .i64 a] 76)
  case first =>
    go_wp2
    go_meet
    exact HA.out
  obtain ⟨hM3, hi3⟩ := hcut
  have HM3 := Lib.hid hM3
  have HI3 := Lib.hid hi3
  have u4 : ∀ i, wc.cell? ⟨ib, i, none⟩ = _ := fun i => hi3.cell i
  obtain ⟨sv, ev, sn, tv, hb, hr, hm⟩ := HM3.out
  obtain ⟨A, n, rfl⟩ := own_slice hr.st
  have um2 : ∀ i, wc.cell? ⟨mb, i, none⟩ = _ := fun i => hb.cell i
  have fm2 : ∀ i, wc.frozen? ⟨mb, i, none⟩ = false := fun i => hb.free i
  unfold cellsOf at um2
  have hst := HSM.out.stack
  clear hM3 hi3 hb hr HA HM2 HI2 um fm ka
  go_wp2_with fail
  refine (show Calls Try.prog 39 #[.int .i64 22] wc (fun e w' => e = .returned (.tuple #[.int .i64 0, .int .i64 1]) ∧ w' = wc) from effect_any 22 (by decide) wc).mono ?_
  rintro e w' ⟨rfl, hw'⟩
  subst w'
  have d1 : decide ((s1.stack.length : Int) < 0) = false := decide_eq_false (by omega)
  by_cases h16 : 16 < s1.stack.length - 0 + 1
  · have d2 : decide ((16 : Int) < ((s1.stack.length : Int) + 1)) = true := decide_eq_true (by omega)
    have HE2 := Lib.hid (show G = (false, 10, s1) by rw [HG.out, oneG_short (by show _ < (0 : Nat) ∨ 16 < _ - (0 : Nat) + (1 : Nat); omega)])
    go_wp2
    refine bodyPost_ret (results_tmp2 rfl _ _ _) rfl ?_
    rw [HE2.out]
    exact ⟨rfl, HM3.out⟩
  have d2 : decide ((16 : Int) < ((s1.stack.length : Int) + 1)) = false := decide_eq_false (by omega)
  have HGL := Lib.hid (show G = gF c 22 a (xOf 0 s1) (yOf 0 s1) (tookF 0 s1) by rw [HG.out, oneG_long (by show ¬ (_ < (0 : Nat) ∨ 16 < _ - (0 : Nat) + (1 : Nat)); omega)]; rfl)
  obtain ⟨s2, hs2⟩ : ∃ s2, s2 = tookF 0 s1 := ⟨_, rfl⟩
  have HT := Lib.hid (show s2 = s1 by rw [hs2, took0])
  rw [← hs2] at HGL
  clear hs2
  have HM4 := Lib.hid (show M c w0 wb mb s2 wc by rw [HT.out]; exact HM3.out)
  have HI4 := HI3
  obtain ⟨x, hx⟩ : ∃ x, x = xOf 0 s1 := ⟨_, rfl⟩
  obtain ⟨y, hy⟩ : ∃ y, y = yOf 0 s1 := ⟨_, rfl⟩
  rw [← hx, ← hy] at HGL
  obtain rfl : x = 0 := hx
  obtain rfl : y = 0 := hy
  have hl2 : s2.stack.length ≤ 16 := by rw [HT.out]; exact hst
  have hsm2 : Small s2 := by rw [HT.out]; exact HSM.out
  have HS2 := Lib.hid hsm2
  clear hsm2
  obtain ⟨z, hz⟩ : ∃ z, z = valF c 22 a 0 0 s2 := ⟨_, rfl⟩
  have HG3 := Lib.hid (show G = (true, 0, { s2 with stack := s2.stack ++ [z] }) from by rw [HGL.out, hz]; rfl)
  have HV := Lib.hid (show Calls Try.prog 43 #[mp mb, .agg #[.int .i64 22, .int .i64 a], .int .i64 0, .int .i64 0] wc fun e w' => e = .returned (.int .i64 z) ∧ M c w0 wc mb s2 w' from by rw [hz]; exact value_plain c w0 _ _ mb s2 22 a 0 0 HM4.out.here rfl)
  clear hz HGL
  go_wp2_with fail
  refine HV.out.mono ?_
  rintro e w3 ⟨rfl, hM5⟩
  have HI5 := Lib.hid (hM5.stay.blk HI4.out (by decide))
  have HM5 := Lib.hid (hM5.rebase HM4.out.stay)
  clear u4 hM5
  have u5 : ∀ i, w3.cell? ⟨ib, i, none⟩ = _ := fun i => HI5.out.cell i
  go_wp2_with fail
  refine (pushb c w0 wb _ mb ib _ s2 z HM5.out HI5.out (by omega)).mono ?_
  rintro e w4 ⟨rfl, hM6, hi6⟩
  have HM6 := Lib.hid hM6
  clear u5 hM6 hi6
  go_wp2
  refine bodyPost_ret (results_tmp2 rfl _ _ _) rfl ?_
  rw [HG3.out]
  exact ⟨rfl, HM6.out⟩

set_option maxRecDepth 100000 in
set_option maxHeartbeats 4000000 in
theorem one_23 (c : Env) (w0 wb w : World) (mb : Nat) (s s1 : St) (k : Nat) (a : Int) (h : M c w0 wb mb s w) (hsm : Small s1) (hE : EnvOk c w0) (hC : IsCode w0 c.kA c.CL) (hcl : c.CL.length ≤ 1000) (hat : s.at_ = (k : Int)) (hkl : k < c.CL.length) (hop : c.CL.getD k (0, 0) = (23, a)) (hs1 : s1 = { s with at_ := (k : Int) + 1 }) :
    Calls Try.prog 23 #[mp mb] w fun e w' => e = .returned (.tuple #[.bool (oneG c 23 a s1).1, .int .i64 (oneG c 23 a s1).2.1]) ∧ M c w0 wb mb (oneG c 23 a s1).2.2 w' := by
  obtain ⟨G, hG⟩ : ∃ G, G = oneG c 23 a s1 := ⟨_, rfl⟩
  rw [← hG]
  have HG := Lib.hid hG
  have HM := Lib.hid h
  have HS1 := Lib.hid hs1
  have HSM := Lib.hid hsm
  obtain ⟨sv, ev, sn, tv, hb, hr, hm⟩ := HM.out
  have um : ∀ i, w.cell? ⟨mb, i, none⟩ = _ := fun i => hb.cell i
  unfold cellsOf at um
  rw [hat] at um
  obtain ⟨b, off, hkA, q⟩ := (hC.below hr.below) (by omega)
  obtain ⟨p0, p1⟩ := q k hkl
  rw [hop] at p0 p1
  dsimp only at p0 p1
  rw [hkA] at um
  have k0 : (0 : Int) ≤ (k : Int) := by omega
  have k1 : (k : Int) < (c.CL.length : Int) := by omega
  have k2 : (k : Int) < 1000 := by omega
  have lm := hb.lt
  have lb := World.block_lt_of_cell? w _ p0
  simp at lb
  have HE := Lib.hid hE
  clear hE hC hcl hop hG h hb hr q hs1 hkl hkA hsm
  go_enter Try.func23, Try.ntmps23
  go_upto_region 1 with fail
  go_cut [4] (fun v wy => ∃ ib, v = .pointer (some ⟨ib, 0, none⟩) ∧ M c w0 wb mb s wy ∧ Blk wy ib #[.int .i64 23, .int .i64 a] 76)
  case first =>
    go_region
    all_goals
      go_wp2
      go_meet
      exact ⟨_, rfl, (HM.out.alloc _).drew, (Blk.new _ _ _).drew⟩
  obtain ⟨ib, rfl, hM2, hib⟩ := hcut
  have HM2 := Lib.hid hM2
  have HI2 := Lib.hid hib
  clear hM2 hib um p0 p1 lm lb HM
  obtain ⟨wA, hwA⟩ : ∃ x, x = wc := ⟨_, rfl⟩
  subst hwA
  obtain ⟨sv, ev, sn, tv, hb, hr, hm⟩ := HM2.out
  have um : ∀ i, wA.cell? ⟨mb, i, none⟩ = _ := fun i => hb.cell i
  unfold cellsOf at um
  rw [hat] at um
  have fm : ∀ i, wA.frozen? ⟨mb, i, none⟩ = false := fun i => hb.free i
  have ka : wrap64 ((k : Int) + 1) = (k : Int) + 1 := by unfold wrap64; omega
  have HA := Lib.hid (show M c w0 wb mb s1 (wA.setCell ⟨mb, 7, none⟩ (.int .i64 ((k : Int) + 1))) ∧ Blk (wA.setCell ⟨mb, 7, none⟩ (.int .i64 ((k : Int) + 1))) ib #[.int .i64 23, .int .i64 a] 76 from by rw [HS1.out]; exact at_sets HM2.out HI2.out _)
  clear hb hr hat
  go_upto_region 2 with fail
  go_cut [] (fun wy => M c w0 wb mb s1 wy ∧ Blk wy ib #[.int .i64 23, .int .i64 a] 76)
  case first =>
    go_wp2
    go_meet
    exact HA.out
  obtain ⟨hM3, hi3⟩ := hcut
  have HM3 := Lib.hid hM3
  have HI3 := Lib.hid hi3
  have u4 : ∀ i, wc.cell? ⟨ib, i, none⟩ = _ := fun i => hi3.cell i
  obtain ⟨sv, ev, sn, tv, hb, hr, hm⟩ := HM3.out
  obtain ⟨A, n, rfl⟩ := own_slice hr.st
  have um2 : ∀ i, wc.cell? ⟨mb, i, none⟩ = _ := fun i => hb.cell i
  have fm2 : ∀ i, wc.frozen? ⟨mb, i, none⟩ = false := fun i => hb.free i
  unfold cellsOf at um2
  have hst := HSM.out.stack
  clear hM3 hi3 hb hr HA HM2 HI2 um fm ka
  go_wp2_with fail
  refine (show Calls Try.prog 39 #[.int .i64 23] wc (fun e w' => e = .returned (.tuple #[.int .i64 0, .int .i64 1]) ∧ w' = wc) from effect_any 23 (by decide) wc).mono ?_
  rintro e w' ⟨rfl, hw'⟩
  subst w'
  have d1 : decide ((s1.stack.length : Int) < 0) = false := decide_eq_false (by omega)
  by_cases h16 : 16 < s1.stack.length - 0 + 1
  · have d2 : decide ((16 : Int) < ((s1.stack.length : Int) + 1)) = true := decide_eq_true (by omega)
    have HE2 := Lib.hid (show G = (false, 10, s1) by rw [HG.out, oneG_short (by show _ < (0 : Nat) ∨ 16 < _ - (0 : Nat) + (1 : Nat); omega)])
    go_wp2
    refine bodyPost_ret (results_tmp2 rfl _ _ _) rfl ?_
    rw [HE2.out]
    exact ⟨rfl, HM3.out⟩
  have d2 : decide ((16 : Int) < ((s1.stack.length : Int) + 1)) = false := decide_eq_false (by omega)
  have HGL := Lib.hid (show G = gF c 23 a (xOf 0 s1) (yOf 0 s1) (tookF 0 s1) by rw [HG.out, oneG_long (by show ¬ (_ < (0 : Nat) ∨ 16 < _ - (0 : Nat) + (1 : Nat)); omega)]; rfl)
  obtain ⟨s2, hs2⟩ : ∃ s2, s2 = tookF 0 s1 := ⟨_, rfl⟩
  have HT := Lib.hid (show s2 = s1 by rw [hs2, took0])
  rw [← hs2] at HGL
  clear hs2
  have HM4 := Lib.hid (show M c w0 wb mb s2 wc by rw [HT.out]; exact HM3.out)
  have HI4 := HI3
  obtain ⟨x, hx⟩ : ∃ x, x = xOf 0 s1 := ⟨_, rfl⟩
  obtain ⟨y, hy⟩ : ∃ y, y = yOf 0 s1 := ⟨_, rfl⟩
  rw [← hx, ← hy] at HGL
  obtain rfl : x = 0 := hx
  obtain rfl : y = 0 := hy
  have hl2 : s2.stack.length ≤ 16 := by rw [HT.out]; exact hst
  have hsm2 : Small s2 := by rw [HT.out]; exact HSM.out
  have HS2 := Lib.hid hsm2
  clear hsm2
  obtain ⟨z, hz⟩ : ∃ z, z = valF c 23 a 0 0 s2 := ⟨_, rfl⟩
  have HG3 := Lib.hid (show G = (true, 0, { s2 with stack := s2.stack ++ [z] }) from by rw [HGL.out, hz]; rfl)
  have HV := Lib.hid (show Calls Try.prog 43 #[mp mb, .agg #[.int .i64 23, .int .i64 a], .int .i64 0, .int .i64 0] wc fun e w' => e = .returned (.int .i64 z) ∧ M c w0 wc mb s2 w' from by rw [hz]; exact value_plain c w0 _ _ mb s2 23 a 0 0 HM4.out.here rfl)
  clear hz HGL
  go_wp2_with fail
  refine HV.out.mono ?_
  rintro e w3 ⟨rfl, hM5⟩
  have HI5 := Lib.hid (hM5.stay.blk HI4.out (by decide))
  have HM5 := Lib.hid (hM5.rebase HM4.out.stay)
  clear u4 hM5
  have u5 : ∀ i, w3.cell? ⟨ib, i, none⟩ = _ := fun i => HI5.out.cell i
  go_wp2_with fail
  refine (pushb c w0 wb _ mb ib _ s2 z HM5.out HI5.out (by omega)).mono ?_
  rintro e w4 ⟨rfl, hM6, hi6⟩
  have HM6 := Lib.hid hM6
  clear u5 hM6 hi6
  go_wp2
  refine bodyPost_ret (results_tmp2 rfl _ _ _) rfl ?_
  rw [HG3.out]
  exact ⟨rfl, HM6.out⟩
end Go.Proofs.Ytmmbigfeojfedaa.R

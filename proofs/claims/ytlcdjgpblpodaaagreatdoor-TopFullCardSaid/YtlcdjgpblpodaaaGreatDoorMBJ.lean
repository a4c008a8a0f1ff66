/- IpRun4, IpNone, Turn1 -/
import Derived.Test.YtlcdjgpblpodaaaGreatDoorMBI
import Derived.Test.YtlcdjgpblpodaaaGreatDoorMBF
namespace Go.Proofs.YtlcdjgpblpodaaaGreatDoor.Ip
open Go.RowKit Go.Proofs.YtlcdjgpblpodaaaGreatDoorW.PrintWords

set_option maxRecDepth 100000 in
set_option maxHeartbeats 4000000 in
theorem run_any (c : Env) (reg : Nat → Int) (w : World) (hE : EnvOk c w) (hC : IsCode w c.kA c.CL) (hcl : c.CL.length ≤ 1000) :
    Calls Tryz.prog 108 #[argP c, .agg (regC reg), argL c, .int .i64 c.now] w (RunPost c reg w) := by
  have HE := Lib.hid hE
  have HC := Lib.hid hC
  clear hE hC
  go_enter Tryz.func108, Tryz.ntmps108
  go_upto_region 0 with fail
  go_cut [4, 5, 6, 8] (fun v4 v5 v6 v8 wx => ∃ b4 b5 b6 b8, v4 = .pointer (some ⟨b4, 0, none⟩) ∧ v5 = .pointer (some ⟨b5, 0, none⟩) ∧ v6 = .pointer (some ⟨b6, 0, none⟩) ∧ v8 = .pointer (some ⟨b8, 0, none⟩) ∧ Boxed c reg w wx b4 b5 b6 b8)
  case first =>
    go_wp2
    go_meet
    refine ⟨_, _, _, _, rfl, rfl, rfl, rfl, ?_⟩
    have h1 : Below w.heap.size w (w.alloc (.cells #[.slice c.nA c.NL.length c.nC, .slice c.kA c.CL.length c.kC] 54)) := (Below.refl _ _).alloc (Nat.le_refl _) _
    have h2 := h1.alloc h1.size (.cells (regC reg) 58)
    have h3 := h2.alloc h2.size (.cells #[.string c.frm, .int .u64 c.serial, .int .i64 c.kind, .slice c.aA c.AL.length c.aC] 65)
    have h4 := h3.alloc h3.size (.cells (resC (fun _ => 0) (.slice none 0 0) (.slice none 0 0) (.slice none 0 0) 0) 239)
    exact ⟨h4, (((Blk.newAt (by simp)).alloc _).alloc _).alloc _, ((Blk.newAt (by simp)).alloc _).alloc _, (Blk.newAt (by simp)).alloc _, Blk.newAt (by simp), by omega⟩
  obtain ⟨b4, b5, b6, b8, rfl, rfl, rfl, rfl, hbx⟩ := hcut
  have HBX := Lib.hid hbx
  have u4 : ∀ i, wc.cell? ⟨b4, i, none⟩ = _ := fun i => hbx.p.cell i
  have u6 : ∀ i, wc.cell? ⟨b6, i, none⟩ = _ := fun i => hbx.l.cell i
  have HF := Lib.hid (formed_any c.nA c.kA c.nC c.kC c.NL c.CL wc (HE.out.below hbx.below).1 (HC.out.below hbx.below) hcl)
  clear hbx
  cases hF : formedB c.NL c.CL with
  | false =>
    have HRU := Lib.hid (show runF c reg = (1, st0 reg) by simp [runF, okIn, hF])
    rw [hF] at HF
    go_wp2_with fail
    refine HF.out.mono ?_
    rintro e w2 ⟨rfl, hb2⟩
    have HB2 := Lib.hid (HBX.out.then_ hb2)
    have u8 : ∀ i, w2.cell? ⟨b8, i, none⟩ = _ := fun i => HB2.out.r.cell i
    have f8 : ∀ i, w2.frozen? ⟨b8, i, none⟩ = false := fun i => HB2.out.r.free i
    clear hb2 u4 u6
    go_wp2
    refine bodyPost_ret (results_ct rfl _ _ b8 239 _ (0, 0) _ rfl (HB2.out.r.twelve rfl _ _ _ _ _ _ _ _ _ _ _ _) Tryz.underlying239 rfl (by kernel_rfl)) rfl ?_
    refine ⟨below12 HB2.out.below HB2.out.lo _ _ _ _ _ _ _ _ _ _ _ _, .inr ⟨by rw [HRU.out]; show (1 : Int) ≠ 0; decide, by rw [HRU.out]; rfl⟩⟩
  | true =>
    rw [hF] at HF
    go_wp2_with fail
    refine HF.out.mono ?_
    rintro e w2 ⟨rfl, hb2⟩
    have HB2 := Lib.hid (HBX.out.then_ hb2)
    have v6 : ∀ i, w2.cell? ⟨b6, i, none⟩ = _ := fun i => HB2.out.l.cell i
    clear hb2 u4 u6
    cases hL : letterB c.frm c.AL.length with
    | false =>
      have HRU := Lib.hid (show runF c reg = (1, st0 reg) by simp [runF, okIn, hL])
      go_wp2_with fail
      refine (letter_any _ _ _ _ _ _ _).mono ?_
      rw [hL]
      rintro e w3 ⟨rfl, hw3⟩
      have HB3 := Lib.hid (HB2.out.then_ (hw3 ▸ (Below.refl _ _).alloc (Nat.le_refl _) _))
      have u8 : ∀ i, w3.cell? ⟨b8, i, none⟩ = _ := fun i => HB3.out.r.cell i
      have f8 : ∀ i, w3.frozen? ⟨b8, i, none⟩ = false := fun i => HB3.out.r.free i
      clear hw3 v6
      go_wp2
      refine bodyPost_ret (results_ct rfl _ _ b8 239 _ (0, 0) _ rfl (HB3.out.r.twelve rfl _ _ _ _ _ _ _ _ _ _ _ _) Tryz.underlying239 rfl (by kernel_rfl)) rfl ?_
      refine ⟨below12 HB3.out.below HB3.out.lo _ _ _ _ _ _ _ _ _ _ _ _, .inr ⟨by rw [HRU.out]; show (1 : Int) ≠ 0; decide, by rw [HRU.out]; rfl⟩⟩
    | true =>
      go_wp2_with fail
      refine (letter_any _ _ _ _ _ _ _).mono ?_
      rw [hL]
      rintro e w3 ⟨rfl, hw3⟩
      have HB3 := Lib.hid (HB2.out.then_ (hw3 ▸ (Below.refl _ _).alloc (Nat.le_refl _) _))
      clear hw3 v6
      by_cases hn : c.now < 0
      · have HRU := Lib.hid (show runF c reg = (1, st0 reg) by simp [runF, okIn, show ¬ 0 ≤ c.now by omega])
        have d0 : decide (c.now < 0) = true := decide_eq_true hn
        have u8 : ∀ i, w3.cell? ⟨b8, i, none⟩ = _ := fun i => HB3.out.r.cell i
        have f8 : ∀ i, w3.frozen? ⟨b8, i, none⟩ = false := fun i => HB3.out.r.free i
        go_wp2
        refine bodyPost_ret (results_ct rfl _ _ b8 239 _ (0, 0) _ rfl (HB3.out.r.twelve rfl _ _ _ _ _ _ _ _ _ _ _ _) Tryz.underlying239 rfl (by kernel_rfl)) rfl ?_
        refine ⟨below12 HB3.out.below HB3.out.lo _ _ _ _ _ _ _ _ _ _ _ _, .inr ⟨by rw [HRU.out]; show (1 : Int) ≠ 0; decide, by rw [HRU.out]; rfl⟩⟩
      · have d0 : decide (c.now < 0) = false := decide_eq_false hn
        have HRU := Lib.hid (show runF c reg = loopF c 501 (st0 reg) by simp [runF, okIn, hF, hL, show 0 ≤ c.now by omega])
        have u4 : ∀ i, w3.cell? ⟨b4, i, none⟩ = _ := fun i => HB3.out.p.cell i
        have u5 : ∀ i, w3.cell? ⟨b5, i, none⟩ = _ := fun i => HB3.out.s.cell i
        have u6 : ∀ i, w3.cell? ⟨b6, i, none⟩ = _ := fun i => HB3.out.l.cell i
        have l4 := HB3.out.p.lt
        have l5 := HB3.out.s.lt
        have l6 := HB3.out.l.lt
        go_upto_region 3 with fail
        go_cut [10] (fun v wx => ∃ mb, v = .pointer (some ⟨mb, 0, none⟩) ∧ Boxed c reg w wx b4 b5 b6 b8 ∧ w.heap.size ≤ mb ∧ Blk wx mb (cellsOf c (st0 fun _ => 0) (.slice none 0 0) (.slice none 0 0) (.slice none 0 0) (.slice none 0 0)) 327)
        case first =>
          go_wp2
          go_meet
          exact ⟨_, rfl, HB3.out.then_ ((Below.refl _ _).alloc (Nat.le_refl _) _), HB3.out.below.size, Blk.new _ _ _⟩
        obtain ⟨mb, rfl, hbx, hml, hmb⟩ := hcut
        obtain ⟨wS, hwS⟩ : ∃ x, x = wc := ⟨_, rfl⟩
        subst hwS
        have HB4 := Lib.hid hbx
        have um : ∀ i, wS.cell? ⟨mb, i, none⟩ = _ := fun i => hmb.cell i
        have fm : ∀ i, wS.frozen? ⟨mb, i, none⟩ = false := fun i => hmb.free i
        have t5 : ∀ i, wS.cell? ⟨b5, i, none⟩ = _ := fun i => hbx.s.cell i
        have hRL := M.state hmb hbx.below hml reg
        have HRL := Lib.hid hRL
        unfold cellsOf st0 at um
        clear hbx hmb hRL u4 u5 u6 l4 l5 l6
        go_wp2_with fail
        go_loopg [] 501 (fun n wr => RL c reg w wS mb n wr)
        case atStart => exact ⟨st0 reg, HRL.out, by simp [st0], ⟨by simp [st0], by simp [st0], by simp [st0]⟩, by simp [st0], ⟨by simp [st0], by simp [st0]⟩, rfl, by simp [st0], HRU.out⟩
        case round =>
          obtain ⟨s, hM, hst, ⟨he, hsn, htm⟩, hat, ⟨hs0, hs5⟩, hf, hgk, hrun⟩ := hrel
          obtain ⟨n, rfl⟩ : ∃ n, gk = n + 1 := ⟨gk - 1, by omega⟩
          have HM := Lib.hid hM
          have H4 := Lib.hid (hM.stay.blk HB4.out.p (by decide))
          have H8 := Lib.hid (hM.stay.blk HB4.out.r (by decide))
          obtain ⟨sv, ev, sn, tv, hb, hr, hm⟩ := hM
          obtain ⟨eA, ec, rfl⟩ := own_slice hr.ev
          obtain ⟨nA, nc, rfl⟩ := own_slice hr.sn
          obtain ⟨tA, tc, rfl⟩ := own_slice hr.tm
          have HMB := Lib.hid hb
          have HRW := Lib.hid hr
          have HRU2 := Lib.hid hrun
          have um' : ∀ i, wr.cell? ⟨mb, i, none⟩ = _ := fun i => hb.cell i
          unfold cellsOf at um'
          have fm' : ∀ i, wr.frozen? ⟨mb, i, none⟩ = false := fun i => hb.free i
          have up : ∀ i, wr.cell? ⟨b4, i, none⟩ = _ := fun i => H4.out.cell i
          have u8 : ∀ i, wr.cell? ⟨b8, i, none⟩ = _ := fun i => H8.out.cell i
          have f8 : ∀ i, wr.frozen? ⟨b8, i, none⟩ = false := fun i => H8.out.free i
          clear hb hr hrun um fm t5 HRL HBX HF HB2 HB3
          rename_i J K hJ hK
          cases hd : s.done with
          | true =>
            have HRN := Lib.hid (HRU2.out.trans (loopF_end (.inl hd)))
            rw [hd] at um'
            go_wp2_with fail
            go_quiet (fail)
            go_wp2
            refine bodyPost_ret (results_ct rfl _ _ b8 239 _ (0, 0) _ rfl ((H8.out.drewN _).twelve rfl _ _ _ _ _ _ _ _ _ _ _ _) Tryz.underlying239 rfl (by kernel_rfl)) rfl ?_
            refine ⟨below12 (below_drewN HRW.out.below _) HB4.out.lo _ _ _ _ _ _ _ _ _ _ _ _, .inl ⟨by rw [HRN.out], _, _, _, by rw [HRN.out]; rfl, ?_, ?_, ?_⟩⟩
            · rw [HRN.out]; exact own12 (HRW.out.drewN _).ev (H8.out.drewN _) (by decide) _ _ _ _ _ _ _ _ _ _ _ _
            · rw [HRN.out]; exact own12 (HRW.out.drewN _).sn (H8.out.drewN _) (by decide) _ _ _ _ _ _ _ _ _ _ _ _
            · rw [HRN.out]; exact own12 (HRW.out.drewN _).tm (H8.out.drewN _) (by decide) _ _ _ _ _ _ _ _ _ _ _ _
          | false =>
            rw [hd] at um'
            by_cases hlt : s.at_ < c.CL.length
            · by_cases h5 : s.steps = 500
              · exact arm_budget c reg w wS mb b4 b5 b6 b8 n wr s _ _ _ _ _ _ _ _ _ _ _ _ _ _ _ _ _ _ _ _ _ _ _ _ _ _ _ _ _ _ _ _ _ _ _ _ _ _ _ _ _ _ _ _ _ _ _ _ _ _ _ _ _ _ _ _ _ _ _ _ _ _ _ _ _ _ _ _ _ _ _ _ _ _ _ _ _ _ _ _ _ _ _ _ _ _ _ _ _ _ _ _ _ _ _ _ _ _ _ _ _ _ (fun _ _ h => h) HB4 HM HRU2 hd hlt h5
              · exact arm_go c reg w wS mb b4 b5 b6 b8 n wr s _ _ _ _ _ _ _ _ _ _ _ _ _ _ _ _ _ _ _ _ _ _ _ _ _ _ _ _ _ _ _ _ _ _ _ _ _ _ _ _ _ _ _ _ _ _ _ _ _ _ _ _ _ _ _ _ _ _ _ _ _ _ _ _ _ _ _ _ _ _ _ _ _ _ _ _ _ _ _ _ _ _ _ _ _ _ _ _ _ _ _ _ _ _ _ _ _ _ _ _ _ _ _ hJ hK (fun _ _ h => h) HE HC hcl hF HB4 HM hst he hsn htm hat hs0 hs5 hf hgk HRU2 hd hlt h5
            · have HRN := Lib.hid (HRU2.out.trans (loopF_end (.inr hlt)))
              have d1 : decide (s.at_ < (c.CL.length : Int)) = false := decide_eq_false hlt
              go_wp2_with fail
              go_quiet (fail)
              go_wp2
              refine bodyPost_ret (results_ct rfl _ _ b8 239 _ (0, 0) _ rfl ((H8.out.drewN _).twelve rfl _ _ _ _ _ _ _ _ _ _ _ _) Tryz.underlying239 rfl (by kernel_rfl)) rfl ?_
              refine ⟨below12 (below_drewN HRW.out.below _) HB4.out.lo _ _ _ _ _ _ _ _ _ _ _ _, .inl ⟨by rw [HRN.out], _, _, _, by rw [HRN.out]; rfl, ?_, ?_, ?_⟩⟩
              · rw [HRN.out]; exact own12 (HRW.out.drewN _).ev (H8.out.drewN _) (by decide) _ _ _ _ _ _ _ _ _ _ _ _
              · rw [HRN.out]; exact own12 (HRW.out.drewN _).sn (H8.out.drewN _) (by decide) _ _ _ _ _ _ _ _ _ _ _ _
              · rw [HRN.out]; exact own12 (HRW.out.drewN _).tm (H8.out.drewN _) (by decide) _ _ _ _ _ _ _ _ _ _ _ _
end Go.Proofs.YtlcdjgpblpodaaaGreatDoor.Ip
namespace Go.Proofs.YtlcdjgpblpodaaaGreatDoor.Ip
open Go.RowKit Go.Proofs.YtlcdjgpblpodaaaGreatDoorW.PrintWords

theorem blk_state {c : Env} {wx : World} {mb : Nat} (hmb : Blk wx mb (cellsOf c (st0 fun _ => 0) (.slice none 0 0) (.slice none 0 0) (.slice none 0 0) (.slice none 0 0)) 327) (reg : Nat → Int) :
    Blk ((((((((wx.setCell ⟨mb, 9, none⟩ (.int .i64 (reg 0))).setCell ⟨mb, 10, none⟩ (.int .i64 (reg 1))).setCell ⟨mb, 11, none⟩ (.int .i64 (reg 2))).setCell ⟨mb, 12, none⟩ (.int .i64 (reg 3))).setCell ⟨mb, 13, none⟩ (.int .i64 (reg 4))).setCell ⟨mb, 14, none⟩ (.int .i64 (reg 5))).setCell ⟨mb, 15, none⟩ (.int .i64 (reg 6))).setCell ⟨mb, 16, none⟩ (.int .i64 (reg 7))) mb (cellsOf c (st0 reg) (.slice none 0 0) (.slice none 0 0) (.slice none 0 0) (.slice none 0 0)) 327 := by
  have := (((((((hmb.set 9 (.int .i64 (reg 0))).set 10 (.int .i64 (reg 1))).set 11 (.int .i64 (reg 2))).set 12 (.int .i64 (reg 3))).set 13 (.int .i64 (reg 4))).set 14 (.int .i64 (reg 5))).set 15 (.int .i64 (reg 6))).set 16 (.int .i64 (reg 7))
  simpa [cellsOf, st0] using this
set_option maxRecDepth 100000 in
set_option maxHeartbeats 400000 in
theorem run_none (c : Env) (reg : Nat → Int) (w : World) (hE : EnvOk c w) (hC : IsCode w c.kA c.CL) (hCL : c.CL.length = 0) (hF : formedB c.NL c.CL = true) (hL : letterB c.frm c.AL.length = true) (hn : 0 ≤ c.now) :
    Calls Tryz.prog 108 #[argP c, .agg (regC reg), argL c, .int .i64 c.now] w fun e w' => e = .returned (.tuple #[.agg (resC reg (.slice none 0 0) (.slice none 0 0) (.slice none 0 0) 0), .int .i64 0]) ∧ Below w.heap.size w w' := by
  have HE := Lib.hid hE
  have HC := Lib.hid hC
  have HCL := Lib.hid hCL
  clear hE hC hCL
  go_enter Tryz.func108, Tryz.ntmps108
  go_upto_region 0 with fail
  go_cut [4, 5, 6, 8] (fun v4 v5 v6 v8 wx => ∃ b4 b5 b6 b8, v4 = .pointer (some ⟨b4, 0, none⟩) ∧ v5 = .pointer (some ⟨b5, 0, none⟩) ∧ v6 = .pointer (some ⟨b6, 0, none⟩) ∧ v8 = .pointer (some ⟨b8, 0, none⟩) ∧ Boxed c reg w wx b4 b5 b6 b8)
  case first =>
    go_wp2
    go_meet
    refine ⟨_, _, _, _, rfl, rfl, rfl, rfl, ?_⟩
    have h1 : Below w.heap.size w (w.alloc (.cells #[.slice c.nA c.NL.length c.nC, .slice c.kA c.CL.length c.kC] 54)) := (Below.refl _ _).alloc (Nat.le_refl _) _
    have h2 := h1.alloc h1.size (.cells (regC reg) 58)
    have h3 := h2.alloc h2.size (.cells #[.string c.frm, .int .u64 c.serial, .int .i64 c.kind, .slice c.aA c.AL.length c.aC] 65)
    have h4 := h3.alloc h3.size (.cells (resC (fun _ => 0) (.slice none 0 0) (.slice none 0 0) (.slice none 0 0) 0) 239)
    exact ⟨h4, (((Blk.newAt (by simp)).alloc _).alloc _).alloc _, ((Blk.newAt (by simp)).alloc _).alloc _, (Blk.newAt (by simp)).alloc _, Blk.newAt (by simp), by omega⟩
  obtain ⟨b4, b5, b6, b8, rfl, rfl, rfl, rfl, hbx⟩ := hcut
  have HBX := Lib.hid hbx
  have u4 : ∀ i, wc.cell? ⟨b4, i, none⟩ = _ := fun i => hbx.p.cell i
  have u6 : ∀ i, wc.cell? ⟨b6, i, none⟩ = _ := fun i => hbx.l.cell i
  have HF := Lib.hid (formed_any c.nA c.kA c.nC c.kC c.NL c.CL wc (HE.out.below hbx.below).1 (HC.out.below hbx.below) (by have := HCL.out; omega))
  clear hbx
  rw [hF] at HF
  go_wp2_with fail
  refine HF.out.mono ?_
  rintro e w2 ⟨rfl, hb2⟩
  have HB2 := Lib.hid (HBX.out.then_ hb2)
  have v6 : ∀ i, w2.cell? ⟨b6, i, none⟩ = _ := fun i => HB2.out.l.cell i
  clear hb2 u4 u6
  go_wp2_with fail
  refine (letter_any _ _ _ _ _ _ _).mono ?_
  rw [hL]
  rintro e w3 ⟨rfl, hw3⟩
  have HB3 := Lib.hid (HB2.out.then_ (hw3 ▸ (Below.refl _ _).alloc (Nat.le_refl _) _))
  clear hw3 v6
  have d0 : decide (c.now < 0) = false := decide_eq_false (by omega)
  have u4 : ∀ i, w3.cell? ⟨b4, i, none⟩ = _ := fun i => HB3.out.p.cell i
  have u5 : ∀ i, w3.cell? ⟨b5, i, none⟩ = _ := fun i => HB3.out.s.cell i
  have u6 : ∀ i, w3.cell? ⟨b6, i, none⟩ = _ := fun i => HB3.out.l.cell i
  have l4 := HB3.out.p.lt
  have l5 := HB3.out.s.lt
  have l6 := HB3.out.l.lt
  go_upto_region 3 with fail
  go_cut [10] (fun v wx => ∃ mb, v = .pointer (some ⟨mb, 0, none⟩) ∧ Boxed c reg w wx b4 b5 b6 b8 ∧ w.heap.size ≤ mb ∧ Blk wx mb (cellsOf c (st0 fun _ => 0) (.slice none 0 0) (.slice none 0 0) (.slice none 0 0) (.slice none 0 0)) 327)
  case first =>
    go_wp2
    go_meet
    exact ⟨_, rfl, HB3.out.then_ ((Below.refl _ _).alloc (Nat.le_refl _) _), HB3.out.below.size, Blk.new _ _ _⟩
  obtain ⟨mb, rfl, hbx, hml, hmb⟩ := hcut
  obtain ⟨wS, hwS⟩ : ∃ x, x = wc := ⟨_, rfl⟩
  subst hwS
  have HB4 := Lib.hid hbx
  have um : ∀ i, wS.cell? ⟨mb, i, none⟩ = _ := fun i => hmb.cell i
  have fm : ∀ i, wS.frozen? ⟨mb, i, none⟩ = false := fun i => hmb.free i
  have t5 : ∀ i, wS.cell? ⟨b5, i, none⟩ = _ := fun i => hbx.s.cell i
  have lm := hmb.lt
  obtain ⟨WR, hWR⟩ : ∃ V, V = ((((((((wS.setCell ⟨mb, 9, none⟩ (.int .i64 (reg 0))).setCell ⟨mb, 10, none⟩ (.int .i64 (reg 1))).setCell ⟨mb, 11, none⟩ (.int .i64 (reg 2))).setCell ⟨mb, 12, none⟩ (.int .i64 (reg 3))).setCell ⟨mb, 13, none⟩ (.int .i64 (reg 4))).setCell ⟨mb, 14, none⟩ (.int .i64 (reg 5))).setCell ⟨mb, 15, none⟩ (.int .i64 (reg 6))).setCell ⟨mb, 16, none⟩ (.int .i64 (reg 7))) := ⟨_, rfl⟩
  have hbR : Blk WR mb (cellsOf c (st0 reg) (.slice none 0 0) (.slice none 0 0) (.slice none 0 0) (.slice none 0 0)) 327 := hWR ▸ blk_state hmb reg
  have hcR : Chg (fun k => k = mb) wS WR := hWR ▸ ((((((((Chg.refl (fun k => k = mb) wS).put mb 9 (.inl rfl) _).put mb 10 (.inl rfl) _).put mb 11 (.inl rfl) _).put mb 12 (.inl rfl) _).put mb 13 (.inl rfl) _).put mb 14 (.inl rfl) _).put mb 15 (.inl rfl) _).put mb 16 (.inl rfl) _
  have h48 : b4 ≠ mb ∧ b8 ≠ mb := by
    refine ⟨fun e => ?_, fun e => ?_⟩
    · have h1 := hbx.p
      rw [e] at h1; unfold Blk at h1 hmb; rw [h1] at hmb; injection hmb with h2; injection h2 with _ h3 _; exact absurd h3 (by decide)
    · have h1 := hbx.r
      rw [e] at h1; unfold Blk at h1 hmb; rw [h1] at hmb; injection hmb with h2; injection h2 with _ h3 _; exact absurd h3 (by decide)
  have hb4R := hcR.blk hbx.p h48.1
  have hb8R := hcR.blk hbx.r h48.2
  have HBR := Lib.hid hbR
  have HB8 := Lib.hid hb8R
  have HLO := Lib.hid hbx.lo
  have HBW := Lib.hid (show Below w.heap.size w WR from hbx.below.trans (hcR.below (fun k hk => by omega) hbx.below.size))
  have um' : ∀ i, WR.cell? ⟨mb, i, none⟩ = _ := fun i => hbR.cell i
  have up : ∀ i, WR.cell? ⟨b4, i, none⟩ = _ := fun i => hb4R.cell i
  have u8 : ∀ i, WR.cell? ⟨b8, i, none⟩ = _ := fun i => hb8R.cell i
  have f8 : ∀ i, WR.frozen? ⟨b8, i, none⟩ = false := fun i => hb8R.free i
  have l8 := hb8R.lt
  have d1 : decide ((0 : Int) < (c.CL.length : Int)) = false := decide_eq_false (by have := HCL.out; omega)
  have d1' : decide (0 < c.CL.length) = false := decide_eq_false (by have := HCL.out; omega)
  have HWR := Lib.hid hWR
  unfold cellsOf st0 at um um'
  clear hbx hmb u4 u5 u6 l4 l5 l6 hWR hbR hcR h48 hb4R hb8R
  go_wp2_with fail
  rw [← HWR.out]
  clear um fm t5
  refine wp_loop_rounds 1 ?_
  rw [rounds_succ]
  go_wp2_with fail
  go_quiet (fail)
  go_wp2
  refine bodyPost_ret (results_ct rfl _ _ b8 239 _ (0, 0) _ rfl ((HB8.out.drewN _).twelve rfl _ _ _ _ _ _ _ _ _ _ _ _) Tryz.underlying239 rfl (by kernel_rfl)) rfl ?_
  exact ⟨rfl, below12 (below_drewN HBW.out _) HLO.out _ _ _ _ _ _ _ _ _ _ _ _⟩
end Go.Proofs.YtlcdjgpblpodaaaGreatDoor.Ip
namespace Go.Proofs.YtlcdjgpblpodaaaGreatDoor
open Go.RowKit Go.Maps Go.Proofs.YtlcdjgpblpodaaaGreatDoorW.PrintWords

theorem Blk.five {w : World} {b t : Nat} {C : Array Value} (h : Blk w b C t) (hC : C.size = 5) (v0 v1 v2 v3 v4 : Value) :
    Blk (((((w.setCell ⟨b, 0, none⟩ v0).setCell ⟨b, 1, none⟩ v1).setCell ⟨b, 2, none⟩ v2).setCell ⟨b, 3, none⟩ v3).setCell ⟨b, 4, none⟩ v4) b #[v0, v1, v2, v3, v4] t := by
  obtain ⟨l⟩ := C
  match l, hC with
  | [a0, a1, a2, a3, a4], _ => simpa using ((((h.set 0 v0).set 1 v1).set 2 v2).set 3 v3).set 4 v4
theorem addJ_nil (j : Jour) (h : j.events.length ≤ 16) : addJ [] j = j := by
  unfold addJ
  rw [show j.events.length + ([] : List (Nat × Int)).length - 16 = 0 by simp; omega, foldJ_zero]
  simp
/-- The actor behind a turn whose run says nothing. -/
def doneA (a : Actr) (r : List Let) : Actr := { a with inbox := r, tries := 0 }
/-- Take, of an actor with a letter; the run comes to an end, and says nothing. -/
theorem take_fin {w1 w2 w3 w4 : World} {X XO' : Nat → Prop} {p jb ib ob ob' pc : Nat} {a : Actr} {PA : Option Addr} {XJ XI XO XP : Nat → Prop} {r : List Let} {j' : Jour} {o' : Outb} (h : ActP true w1 X p a jb ib ob PA pc XJ XI XO XP)
    (ho : OutbAt false w1 XO' ob' o') (hoX : ∀ k, XO' k → ¬ X k ∧ k < w1.heap.size) (hi : InbRd w2 XI ib r) (hc2 : Chg (fun k => k = ib) w1 w2)
    (h3 : w3 = (w2.setCell ⟨p, 2, none⟩ (.pointer (some ⟨ob', 0, none⟩))).setCell ⟨p, 3, none⟩ (.int .i64 0))
    (hj : JourAt w4 (fun k => XJ k ∨ w3.heap.size ≤ k) jb j') (hc4 : Chg XJ w3 w4) :
    ActAt false w4 (fun k => X k ∨ XO' k ∨ w1.heap.size ≤ k) p { a with inbox := r, tries := 0, jour := j', outb := o' } ∧ Chg X w1 w4 := by
  have hib : XI ib := by
    obtain ⟨A, c, q1, _⟩ := hi
    exact q1
  have s2 := hc2.size
  have hpi : p ≠ ib := fun e => (h.sub ib (.inr (.inl hib))).2.1 e.symm
  have hb2 := hc2.blk h.blk hpi
  have hc3 : Chg (fun k => k = p) w2 w3 := h3 ▸ (((Chg.refl (fun k => k = p) w2).put p 2 (.inl rfl) _).put p 3 (.inl rfl) _)
  have s3 := hc3.size
  have s4 := hc4.size
  have hb3 : Blk w3 p #[.pointer (some ⟨jb, 0, none⟩), .pointer (some ⟨ib, 0, none⟩), .pointer (some ⟨ob', 0, none⟩), .int .i64 ((0 : Nat) : Int), .slice PA a.poison.length pc] 46 := by
    rw [h3]; simpa using (hb2.set 2 (.pointer (some ⟨ob', 0, none⟩))).set 3 (.int .i64 0)
  have hpJ : ¬ XJ p := fun e => (h.sub p (.inl e)).2.1 rfl
  have hX : Chg X w1 w4 := ((hc2.mono (fun k _ e => by subst e; exact (h.sub _ (.inr (.inl hib))).1)).trans hc3 (fun k _ e => by subst e; exact h.pin)).trans hc4 (fun k _ e => (h.sub k (.inl e)).1)
  have e3 : w3.heap.size = w2.heap.size := by rw [h3]; simp [World.setCell]
  refine ⟨⟨jb, ib, ob', PA, pc, (fun k => (XJ k ∨ w3.heap.size ≤ k) ∧ k < w4.heap.size), XI, XO', XP, .inl h.pin, hc4.blk hb3 hpJ, jour_lt hj, (hi.chg hc3 (fun k hk e => (h.sub k (.inr (.inl hk))).2.1 e)).chg hc4 (fun k hk e => h.dji k e hk), nofun,
    ((ho.chg hc2 (fun k hk e => (hoX k hk).1 (e ▸ (h.sub _ (.inr (.inl hib))).1))).chg hc3 (fun k hk e => (hoX k hk).1 (e ▸ h.pin))).chg hc4 (fun k hk e => (hoX k hk).1 (h.sub k (.inl e)).1),
    ((h.poi.chg hc2 (fun k hk e => h.dip k (e ▸ hib) hk)).chg hc3 (fun k hk e => (h.sub k (.inr (.inr (.inr hk)))).2.1 e)).chg hc4 (fun k hk e => h.djp k e hk), fun k hk => ?_, fun k e hk => ?_, fun k e hk => ?_, fun k e hk => ?_, fun k e hk => ?_, h.dip, fun k e hk => ?_⟩, hX⟩
  · rcases hk with hk | hk | hk | hk
    · rcases hk.1 with e | e
      · obtain ⟨a1, a2, a3⟩ := h.sub k (.inl e)
        exact ⟨.inl a1, a2, by omega⟩
      · exact ⟨.inr (.inr (by omega)), by have := hb2.lt; omega, hk.2⟩
    · obtain ⟨a1, a2, a3⟩ := h.sub k (.inr (.inl hk))
      exact ⟨.inl a1, a2, by omega⟩
    · obtain ⟨a1, a2⟩ := hoX k hk
      exact ⟨.inr (.inl hk), fun e => a1 (e ▸ h.pin), by omega⟩
    · obtain ⟨a1, a2, a3⟩ := h.sub k (.inr (.inr (.inr hk)))
      exact ⟨.inl a1, a2, by omega⟩
  · rcases e.1 with e | e
    · exact h.dji k e hk
    · have := (h.sub k (.inr (.inl hk))).2.2; omega
  · rcases e.1 with e | e
    · exact (hoX k hk).1 (h.sub k (.inl e)).1
    · have := (hoX k hk).2; omega
  · rcases e.1 with e | e
    · exact h.djp k e hk
    · have := (h.sub k (.inr (.inr (.inr hk)))).2.2; omega
  · exact (hoX k hk).1 (h.sub k (.inr (.inl e))).1
  · exact (hoX k e).1 (h.sub k (.inr (.inr (.inr hk)))).1
end Go.Proofs.YtlcdjgpblpodaaaGreatDoor

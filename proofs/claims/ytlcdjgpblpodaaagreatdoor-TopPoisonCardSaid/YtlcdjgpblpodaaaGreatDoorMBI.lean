/- IpRun4, IpNone, Turn1, Turn2 -/
import Derived.Test.YtlcdjgpblpodaaaGreatDoorMBH
import Derived.Test.YtlcdjgpblpodaaaGreatDoorMBE
namespace Go.Proofs.YtlcdjgpblpodaaaGreatDoor.Ip
open Go.RowKit Go.Proofs.YtlcdjgpblpodaaaGreatDoorW.PrintWords

set_option maxRecDepth 100000 in
set_option maxHeartbeats 4000000 in
theorem run_any (c : Env) (reg : Nat → Int) (w : World) (hE : EnvOk c w) (hC : IsCode w c.kA c.CL) (hcl : c.CL.length ≤ 1000) :
    Calls Tryz.prog 108 #[argP c, .agg (regC reg), argL c, .int .i64 c.now] w (RunPost c reg w) := by
  have HE := Lib.hid hE
  have HC := Lib.hid hC
  clear hE hC
  go_enter Tryz.func108, Tryz.ntmps108
  go_upto_region 0 with fail
  go_cut [4, 5, 6, 8] (fun v4 v5 v6 v8 wx => ∃ b4 b5 b6 b8, v4 = .pointer (some ⟨b4, 0, none⟩) ∧ v5 = .pointer (some ⟨b5, 0, none⟩) ∧ v6 = .pointer (some ⟨b6, 0, none⟩) ∧ v8 = .pointer (some ⟨b8, 0, none⟩) ∧ Boxed c reg w wx b4 b5 b6 b8)
  case first =>
    go_wp2
    go_meet
    refine ⟨_, _, _, _, rfl, rfl, rfl, rfl, ?_⟩
    have h1 : Below w.heap.size w (w.alloc (.cells #[.slice c.nA c.NL.length c.nC, .slice c.kA c.CL.length c.kC] 54)) := (Below.refl _ _).alloc (Nat.le_refl _) _
    have h2 := h1.alloc h1.size (.cells (regC reg) 58)
    have h3 := h2.alloc h2.size (.cells #[.string c.frm, .int .u64 c.serial, .int .i64 c.kind, .slice c.aA c.AL.length c.aC] 65)
    have h4 := h3.alloc h3.size (.cells (resC (fun _ => 0) (.slice none 0 0) (.slice none 0 0) (.slice none 0 0) 0) 239)
    exact ⟨h4, (((Blk.newAt (by simp)).alloc _).alloc _).alloc _, ((Blk.newAt (by simp)).alloc _).alloc _, (Blk.newAt (by simp)).alloc _, Blk.newAt (by simp), by omega⟩
  obtain ⟨b4, b5, b6, b8, rfl, rfl, rfl, rfl, hbx⟩ := hcut
  have HBX := Lib.hid hbx
  have u4 : ∀ i, wc.cell? ⟨b4, i, none⟩ = _ := fun i => hbx.p.cell i
  have u6 : ∀ i, wc.cell? ⟨b6, i, none⟩ = _ := fun i => hbx.l.cell i
  have HF := Lib.hid (formed_any c.nA c.kA c.nC c.kC c.NL c.CL wc (HE.out.below hbx.below).1 (HC.out.below hbx.below) hcl)
  clear hbx
  cases hF : formedB c.NL c.CL with
  | false =>
    have HRU := Lib.hid (show runF c reg = (1, st0 reg) by simp [runF, okIn, hF])
    rw [hF] at HF
    go_wp2_with fail
    refine HF.out.mono ?_
    rintro e w2 ⟨rfl, hb2⟩
    have HB2 := Lib.hid (HBX.out.then_ hb2)
    have u8 : ∀ i, w2.cell? ⟨b8, i, none⟩ = _ := fun i => HB2.out.r.cell i
    have f8 : ∀ i, w2.frozen? ⟨b8, i, none⟩ = false := fun i => HB2.out.r.free i
    clear hb2 u4 u6
    go_wp2
    refine bodyPost_ret (results_ct rfl _ _ b8 239 _ (0, 0) _ rfl (HB2.out.r.twelve rfl _ _ _ _ _ _ _ _ _ _ _ _) Tryz.underlying239 rfl (by kernel_rfl)) rfl ?_
    refine ⟨below12 HB2.out.below HB2.out.lo _ _ _ _ _ _ _ _ _ _ _ _, .inr ⟨by rw [HRU.out]; show (1 : Int) ≠ 0; decide, by rw [HRU.out]; rfl⟩⟩
  | true =>
    rw [hF] at HF
    go_wp2_with fail
    refine HF.out.mono ?_
    rintro e w2 ⟨rfl, hb2⟩
    have HB2 := Lib.hid (HBX.out.then_ hb2)
    have v6 : ∀ i, w2.cell? ⟨b6, i, none⟩ = _ := fun i => HB2.out.l.cell i
    clear hb2 u4 u6
    cases hL : letterB c.frm c.AL.length with
    | false =>
      have HRU := Lib.hid (show runF c reg = (1, st0 reg) by simp [runF, okIn, hL])
      go_wp2_with fail
      refine (letter_any _ _ _ _ _ _ _).mono ?_
      rw [hL]
      rintro e w3 ⟨rfl, hw3⟩
      have HB3 := Lib.hid (HB2.out.then_ (hw3 ▸ (Below.refl _ _).alloc (Nat.le_refl _) _))
      have u8 : ∀ i, w3.cell? ⟨b8, i, none⟩ = _ := fun i => HB3.out.r.cell i
      have f8 : ∀ i, w3.frozen? ⟨b8, i, none⟩ = false := fun i => HB3.out.r.free i
      clear hw3 v6
      go_wp2
      refine bodyPost_ret (results_ct rfl _ _ b8 239 _ (0, 0) _ rfl (HB3.out.r.twelve rfl _ _ _ _ _ _ _ _ _ _ _ _) Tryz.underlying239 rfl (by kernel_rfl)) rfl ?_
      refine ⟨below12 HB3.out.below HB3.out.lo _ _ _ _ _ _ _ _ _ _ _ _, .inr ⟨by rw [HRU.out]; show (1 : Int) ≠ 0; decide, by rw [HRU.out]; rfl⟩⟩
    | true =>
      go_wp2_with fail
      refine (letter_any _ _ _ _ _ _ _).mono ?_
      rw [hL]
      rintro e w3 ⟨rfl, hw3⟩
      have HB3 := Lib.hid (HB2.out.then_ (hw3 ▸ (Below.refl _ _).alloc (Nat.le_refl _) _))
      clear hw3 v6
      by_cases hn : c.now < 0
      · have HRU := Lib.hid (show runF c reg = (1, st0 reg) by simp [runF, okIn, show ¬ 0 ≤ c.now by omega])
        have d0 : decide (c.now < 0) = true := decide_eq_true hn
        have u8 : ∀ i, w3.cell? ⟨b8, i, none⟩ = _ := fun i => HB3.out.r.cell i
        have f8 : ∀ i, w3.frozen? ⟨b8, i, none⟩ = false := fun i => HB3.out.r.free i
        go_wp2
        refine bodyPost_ret (results_ct rfl _ _ b8 239 _ (0, 0) _ rfl (HB3.out.r.twelve rfl _ _ _ _ _ _ _ _ _ _ _ _) Tryz.underlying239 rfl (by kernel_rfl)) rfl ?_
        refine ⟨below12 HB3.out.below HB3.out.lo _ _ _ _ _ _ _ _ _ _ _ _, .inr ⟨by rw [HRU.out]; show (1 : Int) ≠ 0; decide, by rw [HRU.out]; rfl⟩⟩
      · have d0 : decide (c.now < 0) = false := decide_eq_false hn
        have HRU := Lib.hid (show runF c reg = loopF c 501 (st0 reg) by simp [runF, okIn, hF, hL, show 0 ≤ c.now by omega])
        have u4 : ∀ i, w3.cell? ⟨b4, i, none⟩ = _ := fun i => HB3.out.p.cell i
        have u5 : ∀ i, w3.cell? ⟨b5, i, none⟩ = _ := fun i => HB3.out.s.cell i
        have u6 : ∀ i, w3.cell? ⟨b6, i, none⟩ = _ := fun i => HB3.out.l.cell i
        have l4 := HB3.out.p.lt
        have l5 := HB3.out.s.lt
        have l6 := HB3.out.l.lt
        go_upto_region 3 with fail
        go_cut [10] (fun v wx => ∃ mb, v = .pointer (some ⟨mb, 0, none⟩) ∧ Boxed c reg w wx b4 b5 b6 b8 ∧ w.heap.size ≤ mb ∧ Blk wx mb (cellsOf c (st0 fun _ => 0) (.slice none 0 0) (.slice none 0 0) (.slice none 0 0) (.slice none 0 0)) 327)
        case first =>
          go_wp2
          go_meet
          exact ⟨_, rfl, HB3.out.then_ ((Below.refl _ _).alloc (Nat.le_refl _) _), HB3.out.below.size, Blk.new _ _ _⟩
        obtain ⟨mb, rfl, hbx, hml, hmb⟩ := hcut
        obtain ⟨wS, hwS⟩ : ∃ x, x = wc := ⟨_, rfl⟩
        subst hwS
        have HB4 := Lib.hid hbx
        have um : ∀ i, wS.cell? ⟨mb, i, none⟩ = _ := fun i => hmb.cell i
        have fm : ∀ i, wS.frozen? ⟨mb, i, none⟩ = false := fun i => hmb.free i
        have t5 : ∀ i, wS.cell? ⟨b5, i, none⟩ = _ := fun i => hbx.s.cell i
        have hRL := M.state hmb hbx.below hml reg
        have HRL := Lib.hid hRL
        unfold cellsOf st0 at um
        clear hbx hmb hRL u4 u5 u6 l4 l5 l6
        go_wp2_with fail
        go_loopg [] 501 (fun n wr => RL c reg w wS mb n wr)
        case atStart => exact ⟨st0 reg, HRL.out, by simp [st0], ⟨by simp [st0], by simp [st0], by simp [st0]⟩, by simp [st0], ⟨by simp [st0], by simp [st0]⟩, rfl, by simp [st0], HRU.out⟩
        case round =>
          obtain ⟨s, hM, hst, ⟨he, hsn, htm⟩, hat, ⟨hs0, hs5⟩, hf, hgk, hrun⟩ := hrel
          obtain ⟨n, rfl⟩ : ∃ n, gk = n + 1 := ⟨gk - 1, by omega⟩
          have HM := Lib.hid hM
          have H4 := Lib.hid (hM.stay.blk HB4.out.p (by decide))
          have H8 := Lib.hid (hM.stay.blk HB4.out.r (by decide))
          obtain ⟨sv, ev, sn, tv, hb, hr, hm⟩ := hM
          obtain ⟨eA, ec, rfl⟩ := own_slice hr.ev
          obtain ⟨nA, nc, rfl⟩ := own_slice hr.sn
          obtain ⟨tA, tc, rfl⟩ := own_slice hr.tm
          have HMB := Lib.hid hb
          have HRW := Lib.hid hr
          have HRU2 := Lib.hid hrun
          have um' : ∀ i, wr.cell? ⟨mb, i, none⟩ = _ := fun i => hb.cell i
          unfold cellsOf at um'
          have fm' : ∀ i, wr.frozen? ⟨mb, i, none⟩ = false := fun i => hb.free i
          have up : ∀ i, wr.cell? ⟨b4, i, none⟩ = _ := fun i => H4.out.cell i
          have u8 : ∀ i, wr.cell? ⟨b8, i, none⟩ = _ := fun i => H8.out.cell i
          have f8 : ∀ i, wr.frozen? ⟨b8, i, none⟩ = false := fun i => H8.out.free i
          clear hb hr hrun um fm t5 HRL HBX HF HB2 HB3
          rename_i J K hJ hK
          cases hd : s.done with
          | true =>
            have HRN := Lib.hid (HRU2.out.trans (loopF_end (.inl hd)))
            rw [hd] at um'
            go_wp2_with fail
            go_quiet (fail)
            go_wp2
            refine bodyPost_ret (results_ct rfl _ _ b8 239 _ (0, 0) _ rfl ((H8.out.drewN _).twelve rfl _ _ _ _ _ _ _ _ _ _ _ _) Tryz.underlying239 rfl (by kernel_rfl)) rfl ?_
            refine ⟨below12 (below_drewN HRW.out.below _) HB4.out.lo _ _ _ _ _ _ _ _ _ _ _ _, .inl ⟨by rw [HRN.out], _, _, _, by rw [HRN.out]; rfl, ?_, ?_, ?_⟩⟩
            · rw [HRN.out]; exact own12 (HRW.out.drewN _).ev (H8.out.drewN _) (by decide) _ _ _ _ _ _ _ _ _ _ _ _
            · rw [HRN.out]; exact own12 (HRW.out.drewN _).sn (H8.out.drewN _) (by decide) _ _ _ _ _ _ _ _ _ _ _ _
            · rw [HRN.out]; exact own12 (HRW.out.drewN _).tm (H8.out.drewN _) (by decide) _ _ _ _ _ _ _ _ _ _ _ _
          | false =>
            rw [hd] at um'
            by_cases hlt : s.at_ < c.CL.length
            · by_cases h5 : s.steps = 500
              · exact arm_budget c reg w wS mb b4 b5 b6 b8 n wr s _ _ _ _ _ _ _ _ _ _ _ _ _ _ _ _ _ _ _ _ _ _ _ _ _ _ _ _ _ _ _ _ _ _ _ _ _ _ _ _ _ _ _ _ _ _ _ _ _ _ _ _ _ _ _ _ _ _ _ _ _ _ _ _ _ _ _ _ _ _ _ _ _ _ _ _ _ _ _ _ _ _ _ _ _ _ _ _ _ _ _ _ _ _ _ _ _ _ _ _ _ _ (fun _ _ h => h) HB4 HM HRU2 hd hlt h5
              · exact arm_go c reg w wS mb b4 b5 b6 b8 n wr s _ _ _ _ _ _ _ _ _ _ _ _ _ _ _ _ _ _ _ _ _ _ _ _ _ _ _ _ _ _ _ _ _ _ _ _ _ _ _ _ _ _ _ _ _ _ _ _ _ _ _ _ _ _ _ _ _ _ _ _ _ _ _ _ _ _ _ _ _ _ _ _ _ _ _ _ _ _ _ _ _ _ _ _ _ _ _ _ _ _ _ _ _ _ _ _ _ _ _ _ _ _ _ hJ hK (fun _ _ h => h) HE HC hcl hF HB4 HM hst he hsn htm hat hs0 hs5 hf hgk HRU2 hd hlt h5
            · have HRN := Lib.hid (HRU2.out.trans (loopF_end (.inr hlt)))
              have d1 : decide (s.at_ < (c.CL.length : Int)) = false := decide_eq_false hlt
              go_wp2_with fail
              go_quiet (fail)
              go_wp2
              refine bodyPost_ret (results_ct rfl _ _ b8 239 _ (0, 0) _ rfl ((H8.out.drewN _).twelve rfl _ _ _ _ _ _ _ _ _ _ _ _) Tryz.underlying239 rfl (by kernel_rfl)) rfl ?_
              refine ⟨below12 (below_drewN HRW.out.below _) HB4.out.lo _ _ _ _ _ _ _ _ _ _ _ _, .inl ⟨by rw [HRN.out], _, _, _, by rw [HRN.out]; rfl, ?_, ?_, ?_⟩⟩
              · rw [HRN.out]; exact own12 (HRW.out.drewN _).ev (H8.out.drewN _) (by decide) _ _ _ _ _ _ _ _ _ _ _ _
              · rw [HRN.out]; exact own12 (HRW.out.drewN _).sn (H8.out.drewN _) (by decide) _ _ _ _ _ _ _ _ _ _ _ _
              · rw [HRN.out]; exact own12 (HRW.out.drewN _).tm (H8.out.drewN _) (by decide) _ _ _ _ _ _ _ _ _ _ _ _
end Go.Proofs.YtlcdjgpblpodaaaGreatDoor.Ip
namespace Go.Proofs.YtlcdjgpblpodaaaGreatDoor.Ip
open Go.RowKit Go.Proofs.YtlcdjgpblpodaaaGreatDoorW.PrintWords

end Go.Proofs.YtlcdjgpblpodaaaGreatDoor.Ip
namespace Go.Proofs.YtlcdjgpblpodaaaGreatDoor
open Go.RowKit Go.Maps Go.Proofs.YtlcdjgpblpodaaaGreatDoorW.PrintWords

theorem Blk.five {w : World} {b t : Nat} {C : Array Value} (h : Blk w b C t) (hC : C.size = 5) (v0 v1 v2 v3 v4 : Value) :
    Blk (((((w.setCell ⟨b, 0, none⟩ v0).setCell ⟨b, 1, none⟩ v1).setCell ⟨b, 2, none⟩ v2).setCell ⟨b, 3, none⟩ v3).setCell ⟨b, 4, none⟩ v4) b #[v0, v1, v2, v3, v4] t := by
  obtain ⟨l⟩ := C
  match l, hC with
  | [a0, a1, a2, a3, a4], _ => simpa using ((((h.set 0 v0).set 1 v1).set 2 v2).set 3 v3).set 4 v4
end Go.Proofs.YtlcdjgpblpodaaaGreatDoor
namespace Go.Proofs.YtlcdjgpblpodaaaGreatDoor
open Go.RowKit Go.Maps Go.Proofs.YtlcdjgpblpodaaaGreatDoorW.PrintWords

end Go.Proofs.YtlcdjgpblpodaaaGreatDoor

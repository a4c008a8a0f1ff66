/- IpRun4, IpNone, Turn1, Turn2, Pick, EngA, EngO -/
import Derived.Test.YtlcdjgpblpodaaaGreatDoorMBI
import Derived.Test.YtlcdjgpblpodaaaGreatDoorMBF
namespace Go.Proofs.YtlcdjgpblpodaaaGreatDoor.Ip
open Go.RowKit Go.Proofs.YtlcdjgpblpodaaaGreatDoorW.PrintWords

set_option maxRecDepth 100000 in
set_option maxHeartbeats 4000000 in
theorem run_any (c : Env) (reg : Nat → Int) (w : World) (hE : EnvOk c w) (hC : IsCode w c.kA c.CL) (hcl : c.CL.length ≤ 1000) :
    Calls Tryz.prog 108 #[argP c, .agg (regC reg), argL c, .int .i64 c.now] w (RunPost c reg w) := by
  have HE := Lib.hid hE
  have HC := Lib.hid hC
  clear hE hC
  go_enter Tryz.func108, Tryz.ntmps108
  go_upto_region 0 with fail
  go_cut [4, 5, 6, 8] (fun v4 v5 v6 v8 wx => ∃ b4 b5 b6 b8, v4 = .pointer (some ⟨b4, 0, none⟩) ∧ v5 = .pointer (some ⟨b5, 0, none⟩) ∧ v6 = .pointer (some ⟨b6, 0, none⟩) ∧ v8 = .pointer (some ⟨b8, 0, none⟩) ∧ Boxed c reg w wx b4 b5 b6 b8)
  case first =>
    go_wp2
    go_meet
    refine ⟨_, _, _, _, rfl, rfl, rfl, rfl, ?_⟩
    have h1 : Below w.heap.size w (w.alloc (.cells #[.slice c.nA c.NL.length c.nC, .slice c.kA c.CL.length c.kC] 54)) := (Below.refl _ _).alloc (Nat.le_refl _) _
    have h2 := h1.alloc h1.size (.cells (regC reg) 58)
    have h3 := h2.alloc h2.size (.cells #[.string c.frm, .int .u64 c.serial, .int .i64 c.kind, .slice c.aA c.AL.length c.aC] 65)
    have h4 := h3.alloc h3.size (.cells (resC (fun _ => 0) (.slice none 0 0) (.slice none 0 0) (.slice none 0 0) 0) 239)
    exact ⟨h4, (((Blk.newAt (by simp)).alloc _).alloc _).alloc _, ((Blk.newAt (by simp)).alloc _).alloc _, (Blk.newAt (by simp)).alloc _, Blk.newAt (by simp), by omega⟩
  obtain ⟨b4, b5, b6, b8, rfl, rfl, rfl, rfl, hbx⟩ := hcut
  have HBX := Lib.hid hbx
  have u4 : ∀ i, wc.cell? ⟨b4, i, none⟩ = _ := fun i => hbx.p.cell i
  have u6 : ∀ i, wc.cell? ⟨b6, i, none⟩ = _ := fun i => hbx.l.cell i
  have HF := Lib.hid (formed_any c.nA c.kA c.nC c.kC c.NL c.CL wc (HE.out.below hbx.below).1 (HC.out.below hbx.below) hcl)
  clear hbx
  cases hF : formedB c.NL c.CL with
  | false =>
    have HRU := Lib.hid (show runF c reg = (1, st0 reg) by simp [runF, okIn, hF])
    rw [hF] at HF
    go_wp2_with fail
    refine HF.out.mono ?_
    rintro e w2 ⟨rfl, hb2⟩
    have HB2 := Lib.hid (HBX.out.then_ hb2)
    have u8 : ∀ i, w2.cell? ⟨b8, i, none⟩ = _ := fun i => HB2.out.r.cell i
    have f8 : ∀ i, w2.frozen? ⟨b8, i, none⟩ = false := fun i => HB2.out.r.free i
    clear hb2 u4 u6
    go_wp2
    refine bodyPost_ret (results_ct rfl _ _ b8 239 _ (0, 0) _ rfl (HB2.out.r.twelve rfl _ _ _ _ _ _ _ _ _ _ _ _) Tryz.underlying239 rfl (by kernel_rfl)) rfl ?_
    refine ⟨below12 HB2.out.below HB2.out.lo _ _ _ _ _ _ _ _ _ _ _ _, .inr ⟨by rw [HRU.out]; show (1 : Int) ≠ 0; decide, by rw [HRU.out]; rfl⟩⟩
  | true =>
    rw [hF] at HF
    go_wp2_with fail
    refine HF.out.mono ?_
    rintro e w2 ⟨rfl, hb2⟩
    have HB2 := Lib.hid (HBX.out.then_ hb2)
    have v6 : ∀ i, w2.cell? ⟨b6, i, none⟩ = _ := fun i => HB2.out.l.cell i
    clear hb2 u4 u6
    cases hL : letterB c.frm c.AL.length with
    | false =>
      have HRU := Lib.hid (show runF c reg = (1, st0 reg) by simp [runF, okIn, hL])
      go_wp2_with fail
      refine (letter_any _ _ _ _ _ _ _).mono ?_
      rw [hL]
      rintro e w3 ⟨rfl, hw3⟩
      have HB3 := Lib.hid (HB2.out.then_ (hw3 ▸ (Below.refl _ _).alloc (Nat.le_refl _) _))
      have u8 : ∀ i, w3.cell? ⟨b8, i, none⟩ = _ := fun i => HB3.out.r.cell i
      have f8 : ∀ i, w3.frozen? ⟨b8, i, none⟩ = false := fun i => HB3.out.r.free i
      clear hw3 v6
      go_wp2
      refine bodyPost_ret (results_ct rfl _ _ b8 239 _ (0, 0) _ rfl (HB3.out.r.twelve rfl _ _ _ _ _ _ _ _ _ _ _ _) Tryz.underlying239 rfl (by kernel_rfl)) rfl ?_
      refine ⟨below12 HB3.out.below HB3.out.lo _ _ _ _ _ _ _ _ _ _ _ _, .inr ⟨by rw [HRU.out]; show (1 : Int) ≠ 0; decide, by rw [HRU.out]; rfl⟩⟩
    | true =>
      go_wp2_with fail
      refine (letter_any _ _ _ _ _ _ _).mono ?_
      rw [hL]
      rintro e w3 ⟨rfl, hw3⟩
      have HB3 := Lib.hid (HB2.out.then_ (hw3 ▸ (Below.refl _ _).alloc (Nat.le_refl _) _))
      clear hw3 v6
      by_cases hn : c.now < 0
      · have HRU := Lib.hid (show runF c reg = (1, st0 reg) by simp [runF, okIn, show ¬ 0 ≤ c.now by omega])
        have d0 : decide (c.now < 0) = true := decide_eq_true hn
        have u8 : ∀ i, w3.cell? ⟨b8, i, none⟩ = _ := fun i => HB3.out.r.cell i
        have f8 : ∀ i, w3.frozen? ⟨b8, i, none⟩ = false := fun i => HB3.out.r.free i
        go_wp2
        refine bodyPost_ret (results_ct rfl _ _ b8 239 _ (0, 0) _ rfl (HB3.out.r.twelve rfl _ _ _ _ _ _ _ _ _ _ _ _) Tryz.underlying239 rfl (by kernel_rfl)) rfl ?_
        refine ⟨below12 HB3.out.below HB3.out.lo _ _ _ _ _ _ _ _ _ _ _ _, .inr ⟨by rw [HRU.out]; show (1 : Int) ≠ 0; decide, by rw [HRU.out]; rfl⟩⟩
      · have d0 : decide (c.now < 0) = false := decide_eq_false hn
        have HRU := Lib.hid (show runF c reg = loopF c 501 (st0 reg) by simp [runF, okIn, hF, hL, show 0 ≤ c.now by omega])
        have u4 : ∀ i, w3.cell? ⟨b4, i, none⟩ = _ := fun i => HB3.out.p.cell i
        have u5 : ∀ i, w3.cell? ⟨b5, i, none⟩ = _ := fun i => HB3.out.s.cell i
        have u6 : ∀ i, w3.cell? ⟨b6, i, none⟩ = _ := fun i => HB3.out.l.cell i
        have l4 := HB3.out.p.lt
        have l5 := HB3.out.s.lt
        have l6 := HB3.out.l.lt
        go_upto_region 3 with fail
        go_cut [10] (fun v wx => ∃ mb, v = .pointer (some ⟨mb, 0, none⟩) ∧ Boxed c reg w wx b4 b5 b6 b8 ∧ w.heap.size ≤ mb ∧ Blk wx mb (cellsOf c (st0 fun _ => 0) (.slice none 0 0) (.slice none 0 0) (.slice none 0 0) (.slice none 0 0)) 327)
        case first =>
          go_wp2
          go_meet
          exact ⟨_, rfl, HB3.out.then_ ((Below.refl _ _).alloc (Nat.le_refl _) _), HB3.out.below.size, Blk.new _ _ _⟩
        obtain ⟨mb, rfl, hbx, hml, hmb⟩ := hcut
        obtain ⟨wS, hwS⟩ : ∃ x, x = wc := ⟨_, rfl⟩
        subst hwS
        have HB4 := Lib.hid hbx
        have um : ∀ i, wS.cell? ⟨mb, i, none⟩ = _ := fun i => hmb.cell i
        have fm : ∀ i, wS.frozen? ⟨mb, i, none⟩ = false := fun i => hmb.free i
        have t5 : ∀ i, wS.cell? ⟨b5, i, none⟩ = _ := fun i => hbx.s.cell i
        have hRL := M.state hmb hbx.below hml reg
        have HRL := Lib.hid hRL
        unfold cellsOf st0 at um
        clear hbx hmb hRL u4 u5 u6 l4 l5 l6
        go_wp2_with fail
        go_loopg [] 501 (fun n wr => RL c reg w wS mb n wr)
        case atStart => exact ⟨st0 reg, HRL.out, by simp [st0], ⟨by simp [st0], by simp [st0], by simp [st0]⟩, by simp [st0], ⟨by simp [st0], by simp [st0]⟩, rfl, by simp [st0], HRU.out⟩
        case round =>
          obtain ⟨s, hM, hst, ⟨he, hsn, htm⟩, hat, ⟨hs0, hs5⟩, hf, hgk, hrun⟩ := hrel
          obtain ⟨n, rfl⟩ : ∃ n, gk = n + 1 := ⟨gk - 1, by omega⟩
          have HM := Lib.hid hM
          have H4 := Lib.hid (hM.stay.blk HB4.out.p (by decide))
          have H8 := Lib.hid (hM.stay.blk HB4.out.r (by decide))
          obtain ⟨sv, ev, sn, tv, hb, hr, hm⟩ := hM
          obtain ⟨eA, ec, rfl⟩ := own_slice hr.ev
          obtain ⟨nA, nc, rfl⟩ := own_slice hr.sn
          obtain ⟨tA, tc, rfl⟩ := own_slice hr.tm
          have HMB := Lib.hid hb
          have HRW := Lib.hid hr
          have HRU2 := Lib.hid hrun
          have um' : ∀ i, wr.cell? ⟨mb, i, none⟩ = _ := fun i => hb.cell i
          unfold cellsOf at um'
          have fm' : ∀ i, wr.frozen? ⟨mb, i, none⟩ = false := fun i => hb.free i
          have up : ∀ i, wr.cell? ⟨b4, i, none⟩ = _ := fun i => H4.out.cell i
          have u8 : ∀ i, wr.cell? ⟨b8, i, none⟩ = _ := fun i => H8.out.cell i
          have f8 : ∀ i, wr.frozen? ⟨b8, i, none⟩ = false := fun i => H8.out.free i
          clear hb hr hrun um fm t5 HRL HBX HF HB2 HB3
          rename_i J K hJ hK
          cases hd : s.done with
          | true =>
            have HRN := Lib.hid (HRU2.out.trans (loopF_end (.inl hd)))
            rw [hd] at um'
            go_wp2_with fail
            go_quiet (fail)
            go_wp2
            refine bodyPost_ret (results_ct rfl _ _ b8 239 _ (0, 0) _ rfl ((H8.out.drewN _).twelve rfl _ _ _ _ _ _ _ _ _ _ _ _) Tryz.underlying239 rfl (by kernel_rfl)) rfl ?_
            refine ⟨below12 (below_drewN HRW.out.below _) HB4.out.lo _ _ _ _ _ _ _ _ _ _ _ _, .inl ⟨by rw [HRN.out], _, _, _, by rw [HRN.out]; rfl, ?_, ?_, ?_⟩⟩
            · rw [HRN.out]; exact own12 (HRW.out.drewN _).ev (H8.out.drewN _) (by decide) _ _ _ _ _ _ _ _ _ _ _ _
            · rw [HRN.out]; exact own12 (HRW.out.drewN _).sn (H8.out.drewN _) (by decide) _ _ _ _ _ _ _ _ _ _ _ _
            · rw [HRN.out]; exact own12 (HRW.out.drewN _).tm (H8.out.drewN _) (by decide) _ _ _ _ _ _ _ _ _ _ _ _
          | false =>
            rw [hd] at um'
            by_cases hlt : s.at_ < c.CL.length
            · by_cases h5 : s.steps = 500
              · exact arm_budget c reg w wS mb b4 b5 b6 b8 n wr s _ _ _ _ _ _ _ _ _ _ _ _ _ _ _ _ _ _ _ _ _ _ _ _ _ _ _ _ _ _ _ _ _ _ _ _ _ _ _ _ _ _ _ _ _ _ _ _ _ _ _ _ _ _ _ _ _ _ _ _ _ _ _ _ _ _ _ _ _ _ _ _ _ _ _ _ _ _ _ _ _ _ _ _ _ _ _ _ _ _ _ _ _ _ _ _ _ _ _ _ _ _ (fun _ _ h => h) HB4 HM HRU2 hd hlt h5
              · exact arm_go c reg w wS mb b4 b5 b6 b8 n wr s _ _ _ _ _ _ _ _ _ _ _ _ _ _ _ _ _ _ _ _ _ _ _ _ _ _ _ _ _ _ _ _ _ _ _ _ _ _ _ _ _ _ _ _ _ _ _ _ _ _ _ _ _ _ _ _ _ _ _ _ _ _ _ _ _ _ _ _ _ _ _ _ _ _ _ _ _ _ _ _ _ _ _ _ _ _ _ _ _ _ _ _ _ _ _ _ _ _ _ _ _ _ _ hJ hK (fun _ _ h => h) HE HC hcl hF HB4 HM hst he hsn htm hat hs0 hs5 hf hgk HRU2 hd hlt h5
            · have HRN := Lib.hid (HRU2.out.trans (loopF_end (.inr hlt)))
              have d1 : decide (s.at_ < (c.CL.length : Int)) = false := decide_eq_false hlt
              go_wp2_with fail
              go_quiet (fail)
              go_wp2
              refine bodyPost_ret (results_ct rfl _ _ b8 239 _ (0, 0) _ rfl ((H8.out.drewN _).twelve rfl _ _ _ _ _ _ _ _ _ _ _ _) Tryz.underlying239 rfl (by kernel_rfl)) rfl ?_
              refine ⟨below12 (below_drewN HRW.out.below _) HB4.out.lo _ _ _ _ _ _ _ _ _ _ _ _, .inl ⟨by rw [HRN.out], _, _, _, by rw [HRN.out]; rfl, ?_, ?_, ?_⟩⟩
              · rw [HRN.out]; exact own12 (HRW.out.drewN _).ev (H8.out.drewN _) (by decide) _ _ _ _ _ _ _ _ _ _ _ _
              · rw [HRN.out]; exact own12 (HRW.out.drewN _).sn (H8.out.drewN _) (by decide) _ _ _ _ _ _ _ _ _ _ _ _
              · rw [HRN.out]; exact own12 (HRW.out.drewN _).tm (H8.out.drewN _) (by decide) _ _ _ _ _ _ _ _ _ _ _ _
end Go.Proofs.YtlcdjgpblpodaaaGreatDoor.Ip
namespace Go.Proofs.YtlcdjgpblpodaaaGreatDoor.Ip
open Go.RowKit Go.Proofs.YtlcdjgpblpodaaaGreatDoorW.PrintWords

end Go.Proofs.YtlcdjgpblpodaaaGreatDoor.Ip
namespace Go.Proofs.YtlcdjgpblpodaaaGreatDoor
open Go.RowKit Go.Maps Go.Proofs.YtlcdjgpblpodaaaGreatDoorW.PrintWords

theorem Blk.five {w : World} {b t : Nat} {C : Array Value} (h : Blk w b C t) (hC : C.size = 5) (v0 v1 v2 v3 v4 : Value) :
    Blk (((((w.setCell ⟨b, 0, none⟩ v0).setCell ⟨b, 1, none⟩ v1).setCell ⟨b, 2, none⟩ v2).setCell ⟨b, 3, none⟩ v3).setCell ⟨b, 4, none⟩ v4) b #[v0, v1, v2, v3, v4] t := by
  obtain ⟨l⟩ := C
  match l, hC with
  | [a0, a1, a2, a3, a4], _ => simpa using ((((h.set 0 v0).set 1 v1).set 2 v2).set 3 v3).set 4 v4
/-- Take, of an actor with a letter; the run comes to an end, and says nothing. -/
theorem take_fin {w1 w2 w3 w4 : World} {X XO' : Nat → Prop} {p jb ib ob ob' pc : Nat} {a : Actr} {PA : Option Addr} {XJ XI XO XP : Nat → Prop} {r : List Let} {j' : Jour} {o' : Outb} (h : ActP true w1 X p a jb ib ob PA pc XJ XI XO XP)
    (ho : OutbAt false w1 XO' ob' o') (hoX : ∀ k, XO' k → ¬ X k ∧ k < w1.heap.size) (hi : InbRd w2 XI ib r) (hc2 : Chg (fun k => k = ib) w1 w2)
    (h3 : w3 = (w2.setCell ⟨p, 2, none⟩ (.pointer (some ⟨ob', 0, none⟩))).setCell ⟨p, 3, none⟩ (.int .i64 0))
    (hj : JourAt w4 (fun k => XJ k ∨ w3.heap.size ≤ k) jb j') (hc4 : Chg XJ w3 w4) :
    ActAt false w4 (fun k => X k ∨ XO' k ∨ w1.heap.size ≤ k) p { a with inbox := r, tries := 0, jour := j', outb := o' } ∧ Chg X w1 w4 := by
  have hib : XI ib := by
    obtain ⟨A, c, q1, _⟩ := hi
    exact q1
  have s2 := hc2.size
  have hpi : p ≠ ib := fun e => (h.sub ib (.inr (.inl hib))).2.1 e.symm
  have hb2 := hc2.blk h.blk hpi
  have hc3 : Chg (fun k => k = p) w2 w3 := h3 ▸ (((Chg.refl (fun k => k = p) w2).put p 2 (.inl rfl) _).put p 3 (.inl rfl) _)
  have s3 := hc3.size
  have s4 := hc4.size
  have hb3 : Blk w3 p #[.pointer (some ⟨jb, 0, none⟩), .pointer (some ⟨ib, 0, none⟩), .pointer (some ⟨ob', 0, none⟩), .int .i64 ((0 : Nat) : Int), .slice PA a.poison.length pc] 46 := by
    rw [h3]; simpa using (hb2.set 2 (.pointer (some ⟨ob', 0, none⟩))).set 3 (.int .i64 0)
  have hpJ : ¬ XJ p := fun e => (h.sub p (.inl e)).2.1 rfl
  have hX : Chg X w1 w4 := ((hc2.mono (fun k _ e => by subst e; exact (h.sub _ (.inr (.inl hib))).1)).trans hc3 (fun k _ e => by subst e; exact h.pin)).trans hc4 (fun k _ e => (h.sub k (.inl e)).1)
  have e3 : w3.heap.size = w2.heap.size := by rw [h3]; simp [World.setCell]
  refine ⟨⟨jb, ib, ob', PA, pc, (fun k => (XJ k ∨ w3.heap.size ≤ k) ∧ k < w4.heap.size), XI, XO', XP, .inl h.pin, hc4.blk hb3 hpJ, jour_lt hj, (hi.chg hc3 (fun k hk e => (h.sub k (.inr (.inl hk))).2.1 e)).chg hc4 (fun k hk e => h.dji k e hk), nofun,
    ((ho.chg hc2 (fun k hk e => (hoX k hk).1 (e ▸ (h.sub _ (.inr (.inl hib))).1))).chg hc3 (fun k hk e => (hoX k hk).1 (e ▸ h.pin))).chg hc4 (fun k hk e => (hoX k hk).1 (h.sub k (.inl e)).1),
    ((h.poi.chg hc2 (fun k hk e => h.dip k (e ▸ hib) hk)).chg hc3 (fun k hk e => (h.sub k (.inr (.inr (.inr hk)))).2.1 e)).chg hc4 (fun k hk e => h.djp k e hk), fun k hk => ?_, fun k e hk => ?_, fun k e hk => ?_, fun k e hk => ?_, fun k e hk => ?_, h.dip, fun k e hk => ?_⟩, hX⟩
  · rcases hk with hk | hk | hk | hk
    · rcases hk.1 with e | e
      · obtain ⟨a1, a2, a3⟩ := h.sub k (.inl e)
        exact ⟨.inl a1, a2, by omega⟩
      · exact ⟨.inr (.inr (by omega)), by have := hb2.lt; omega, hk.2⟩
    · obtain ⟨a1, a2, a3⟩ := h.sub k (.inr (.inl hk))
      exact ⟨.inl a1, a2, by omega⟩
    · obtain ⟨a1, a2⟩ := hoX k hk
      exact ⟨.inr (.inl hk), fun e => a1 (e ▸ h.pin), by omega⟩
    · obtain ⟨a1, a2, a3⟩ := h.sub k (.inr (.inr (.inr hk)))
      exact ⟨.inl a1, a2, by omega⟩
  · rcases e.1 with e | e
    · exact h.dji k e hk
    · have := (h.sub k (.inr (.inl hk))).2.2; omega
  · rcases e.1 with e | e
    · exact (hoX k hk).1 (h.sub k (.inl e)).1
    · have := (hoX k hk).2; omega
  · rcases e.1 with e | e
    · exact h.djp k e hk
    · have := (h.sub k (.inr (.inr (.inr hk)))).2.2; omega
  · exact (hoX k hk).1 (h.sub k (.inr (.inl e))).1
  · exact (hoX k e).1 (h.sub k (.inr (.inr (.inr hk)))).1
end Go.Proofs.YtlcdjgpblpodaaaGreatDoor
namespace Go.Proofs.YtlcdjgpblpodaaaGreatDoor
open Go.RowKit Go.Maps Go.Proofs.YtlcdjgpblpodaaaGreatDoorW.PrintWords

end Go.Proofs.YtlcdjgpblpodaaaGreatDoor
namespace Go.Proofs.YtlcdjgpblpodaaaGreatDoor
open Go.RowKit Go.Maps Go.Proofs.YtlcdjgpblpodaaaGreatDoorW.PrintWords

def pickE (E : Engn) (k : ByteArray) (a' : Actr) : Engn := { E with ls := [k], act := upd E.act a', q := E.q + 1, z := E.z + 3 }
end Go.Proofs.YtlcdjgpblpodaaaGreatDoor
namespace Go.Proofs.YtlcdjgpblpodaaaGreatDoor
open Go.RowKit Go.Maps Go.Proofs.YtlcdjgpblpodaaaGreatDoorW.PrintWords

theorem engkeys_none (eb bb mb : Nat) (f : Lit → Option Value) (w : World) (c0 : w.cell? ⟨eb, 0, none⟩ = some (.pointer (some ⟨bb, 0, none⟩))) (c6 : w.cell? ⟨bb, 6, none⟩ = some (.map (some mb))) (h : MapAt w 9 mb 0 f) :
    Calls Tryz.prog 32 #[.pointer (some ⟨eb, 0, none⟩)] w fun e w' => e = .returned (.slice none 0 0) ∧ Below w.heap.size w w' := by
  have HK := Lib.hid (bookkeys_none bb mb ⟨#[97]⟩ ⟨#[98]⟩ f w c6 h)
  clear h c6
  go_enter Tryz.func32, Tryz.ntmps32
  go_wp2_with fail
  refine HK.out.mono ?_
  rintro e w1 ⟨rfl, hb1⟩
  have HB1 := Lib.hid hb1
  clear hb1
  go_wp2_with fail
  refine wp_loop_rounds 1 ?_
  rw [rounds_succ]
  go_wp2_with fail
  go_ret
  exact ⟨rfl, HB1.out⟩
end Go.Proofs.YtlcdjgpblpodaaaGreatDoor
namespace Go.Proofs.YtlcdjgpblpodaaaGreatDoor
open Go.RowKit Go.Maps Go.Proofs.YtlcdjgpblpodaaaGreatDoorW.PrintWords

theorem actr0_ok (k : ByteArray) (hk : KeyOk k) : ActOk k (actr0 k) := by
  refine ⟨⟨⟨?_, ?_, ?_, ?_, ?_, ?_⟩, ?_, ?_, ⟨hk, ?_, ?_, ?_⟩, ?_, ?_, ?_, ?_⟩, OutEnc.zero k hk, OutDec.zero k hk, rfl, fun _ => rfl⟩
  all_goals simp [actr0, jour0, outb0, U64, In64]
theorem fresh0 (k : ByteArray) : freshA (actr0 k) = true := by simp [freshA, actr0, jour0, outb0]
/-- The engine at the beginning. -/
def engn0 (room cnt db : Nat) : Engn := { room := room, ls := [], act := actr0, win := win0, q := 0, z := 0, cnt := cnt, NL := [], CL := [], db := db }
theorem engn0_ok (room cnt db : Nat) (hr : 1 ≤ room ∧ room ≤ 10000) : EngOk (engn0 room cnt db) :=
  ⟨fun k hk => actr0_ok k hk, (fun k h => by cases h), (by show 0 ≤ 1; omega), hr, ⟨(fun e h => by cases h), (by show 0 ≤ 1; omega)⟩⟩
open Classical in
/-- The labels of a new engine. -/
noncomputable def reg0 (eb bb mb hb ab cb wb : Nat) (XD XL XT : Nat → Prop) : Nat → Nat := fun k => if k = eb then 5 else if k = bb then 6 else if k = mb then 7 else if k = hb then 8 else if k = ab then 9 else if k = cb then 10 else if k = wb then 1 else if XD k then 3 else if XL k then 2 else if XT k then 4 else 0
structure EngNew (w0 w1 w2 w3 : World) (XD XL : Nat → Prop) (bb mb hb ab wb cb eb : Nat) : Prop where
  s1 : w0.heap.size ≤ w1.heap.size
  s2 : w1.heap.size ≤ w2.heap.size
  s3 : w2.heap.size ≤ ab ∧ ab < wb ∧ wb < cb ∧ cb < eb ∧ eb < w3.heap.size
  b : w0.heap.size ≤ bb ∧ bb < w1.heap.size ∧ w0.heap.size ≤ mb ∧ mb < w1.heap.size ∧ w0.heap.size ≤ hb ∧ hb < w1.heap.size
  bm : bb ≠ mb ∧ bb ≠ hb ∧ mb ≠ hb
  xd : ∀ k, XD k → k < w0.heap.size
  xl : ∀ k, XL k → w0.heap.size ≤ k ∧ k < w1.heap.size ∧ k ≠ bb ∧ k ≠ mb ∧ k ≠ hb
section
variable {w0 w1 w2 w3 : World} {XD XL : Nat → Prop} {bb mb hb ab wb cb eb : Nat}
theorem reg0_d (h : EngNew w0 w1 w2 w3 XD XL bb mb hb ab wb cb eb) (XT : Nat → Prop) {k : Nat} (hk : XD k) : reg0 eb bb mb hb ab cb wb XD XL XT k = 3 := by
  have h1 := h.xd k hk
  have h2 := h.s1; have h3 := h.s2; have h4 := h.s3; have h5 := h.b
  unfold reg0
  rw [if_neg (by omega), if_neg (by omega), if_neg (by omega), if_neg (by omega), if_neg (by omega), if_neg (by omega), if_neg (by omega), if_pos hk]
theorem reg0_l (h : EngNew w0 w1 w2 w3 XD XL bb mb hb ab wb cb eb) (XT : Nat → Prop) {k : Nat} (hk : XL k) : reg0 eb bb mb hb ab cb wb XD XL XT k = 2 := by
  have h1 := h.xl k hk
  have h2 := h.s1; have h3 := h.s2; have h4 := h.s3; have h5 := h.b
  unfold reg0
  rw [if_neg (by omega), if_neg (by omega), if_neg (by omega), if_neg (by omega), if_neg (by omega), if_neg (by omega), if_neg (by omega), if_neg (fun e => by have := h.xd k e; omega), if_pos hk]
theorem reg0_t (h : EngNew w0 w1 w2 w3 XD XL bb mb hb ab wb cb eb) {k : Nat} (hk : w1.heap.size ≤ k ∧ k < w2.heap.size) : reg0 eb bb mb hb ab cb wb XD XL (fun k => w1.heap.size ≤ k ∧ k < w2.heap.size) k = 4 := by
  have h2 := h.s1; have h3 := h.s2; have h4 := h.s3; have h5 := h.b
  unfold reg0
  rw [if_neg (by omega), if_neg (by omega), if_neg (by omega), if_neg (by omega), if_neg (by omega), if_neg (by omega), if_neg (by omega), if_neg (fun e => by have := h.xd k e; omega), if_neg (fun e => by have := h.xl k e; omega), if_pos hk]
theorem reg0_lt (h : EngNew w0 w1 w2 w3 XD XL bb mb hb ab wb cb eb) {k : Nat} (hk : reg0 eb bb mb hb ab cb wb XD XL (fun k => w1.heap.size ≤ k ∧ k < w2.heap.size) k ≠ 0) : k < w3.heap.size ∧ (k < w0.heap.size → XD k) := by
  have h2 := h.s1; have h3 := h.s2; have h4 := h.s3; have h5 := h.b
  unfold reg0 at hk
  by_cases e1 : k = eb; · omega
  by_cases e2 : k = bb; · omega
  by_cases e3 : k = mb; · omega
  by_cases e4 : k = hb; · omega
  by_cases e5 : k = ab; · omega
  by_cases e6 : k = cb; · omega
  by_cases e7 : k = wb; · omega
  by_cases e8 : XD k
  · have := h.xd k e8
    exact ⟨by omega, fun _ => e8⟩
  by_cases e9 : XL k
  · have := h.xl k e9
    omega
  by_cases e10 : w1.heap.size ≤ k ∧ k < w2.heap.size
  · omega
  rw [if_neg e1, if_neg e2, if_neg e3, if_neg e4, if_neg e5, if_neg e6, if_neg e7, if_neg e8, if_neg e9, if_neg e10] at hk
  exact absurd rfl hk
theorem reg0_one (h : EngNew w0 w1 w2 w3 XD XL bb mb hb ab wb cb eb) (XT : Nat → Prop) : reg0 eb bb mb hb ab cb wb XD XL XT eb = 5 ∧ reg0 eb bb mb hb ab cb wb XD XL XT bb = 6 ∧ reg0 eb bb mb hb ab cb wb XD XL XT mb = 7 ∧ reg0 eb bb mb hb ab cb wb XD XL XT hb = 8 ∧ reg0 eb bb mb hb ab cb wb XD XL XT ab = 9 ∧ reg0 eb bb mb hb ab cb wb XD XL XT cb = 10 ∧ reg0 eb bb mb hb ab cb wb XD XL XT wb = 1 := by
  have h2 := h.s1; have h3 := h.s2; have h4 := h.s3; have h5 := h.b; have h6 := h.bm
  unfold reg0
  refine ⟨by rw [if_pos rfl], by rw [if_neg (by omega), if_pos rfl], by rw [if_neg (by omega), if_neg (by omega), if_pos rfl], by rw [if_neg (by omega), if_neg (by omega), if_neg (by omega), if_pos rfl], by rw [if_neg (by omega), if_neg (by omega), if_neg (by omega), if_neg (by omega), if_pos rfl], by rw [if_neg (by omega), if_neg (by omega), if_neg (by omega), if_neg (by omega), if_neg (by omega), if_pos rfl], by rw [if_neg (by omega), if_neg (by omega), if_neg (by omega), if_neg (by omega), if_neg (by omega), if_neg (by omega), if_pos rfl]⟩
end
/-- The new engine, in memory. -/
theorem engnew_at {w0 w1 w2 w3 : World} {XD XL : Nat → Prop} {bb db sb lb pb tb mb hb tt ab wb cb qb eb N cnt room : Nat} (h : EngNew w0 w1 w2 w3 XD XL bb mb hb ab wb cb eb) (hbk : BookP w3 (fun _ => False) XL XD bb db sb lb pb tb mb hb N cnt 0 0 0 0 0 0 (fun _ => none))
    (ht : TabAt w3 (fun k => w1.heap.size ≤ k ∧ k < w2.heap.size) tt room []) (hm : MapAt w3 9 ab 0 (fun _ => none)) (hc : CntAt w3 cb) (hw : WinAt 0 w3 (fun k => k = wb) wb win0) (hr : 1 ≤ room ∧ room ≤ 10000) (hN : 2 + cnt ≤ N ∧ N ≤ 65536)
    (he : Blk w3 eb #[.pointer (some ⟨bb, 0, none⟩), .pointer (some ⟨tt, 0, none⟩), .map (some ab), .pointer (some ⟨qb, 0, none⟩), .pointer (some ⟨wb, 0, none⟩), .int .i64 0, .slice none 0 0, .slice none 0 0, .pointer (some ⟨cb, 0, none⟩), .bool false] 87) :
    EngAt w3 (reg0 eb bb mb hb ab cb wb XD XL (fun k => w1.heap.size ≤ k ∧ k < w2.heap.size)) eb (engn0 room cnt db) := by
  obtain ⟨r1, r2, r3, r4, r5, r6, r7⟩ := reg0_one h (fun k => w1.heap.size ≤ k ∧ k < w2.heap.size)
  have ne : ∀ k, reg0 eb bb mb hb ab cb wb XD XL (fun k => w1.heap.size ≤ k ∧ k < w2.heap.size) k ≤ 4 → k ≠ bb ∧ k ≠ mb ∧ k ≠ hb := fun k hk => by
    refine ⟨fun e => ?_, fun e => ?_, fun e => ?_⟩ <;> subst e <;> omega
  refine ⟨engn0_ok room cnt db hr, { eb := eb, bb := bb, db := db, sb := sb, lb := lb, pb := pb, tb := tb, mb := mb, hb := hb, tt := tt, ab := ab, wb := wb, cb := cb, qb := qb, N := N, cnt := cnt, used := 0, nu := 0, m := 0, n := 0, nc := 0, pend := 0, na := 0, nC := 0, kC := 0, room := room, NA := none, KA := none, T := fun _ => none, g := fun _ => none, ls := [], win := win0, NL := [], CL := [] }, rfl,
    ⟨he, hbk.relab (fun k e => e.elim) (fun k e => reg0_l h _ e) (fun k e => reg0_d h _ e) (fun k e => ⟨by omega, by omega, ne k (by omega)⟩) (fun k e => ⟨by omega, ne k (by omega)⟩) (fun k e => ne k (by omega)) (fun k e => (reg0_lt h (by omega)).1), ht.mono (fun k e => reg0_t h e), hm, hc, hw.mono (fun k e => by subst e; exact r7) (by omega), ReadsOf.nil _ _ _, fun e => by simp at e, (fun a e => by cases e), (fun a e => by cases e), r1, r2, r3, r4, r5, r6, fun k e => (reg0_lt h e).1⟩,
    ⟨rfl, rfl, rfl, rfl, rfl, rfl, rfl, hN, ⟨by simp, by simp, by simp, by simp, by simp, by simp, by simp⟩, fun k hk => ?_, fun k hk => ⟨(fun e => by cases e), fun _ => rfl⟩⟩⟩
  show none = if freshA (actr0 k) then none else some (encAct (actr0 k))
  rw [fresh0]; rfl

set_option maxRecDepth 100000 in
set_option maxHeartbeats 2000000 in
theorem engopen (X : Nat → Prop) (db n room : Nat) (h24 : 24 ≤ n) (hn : n ≤ 65536) (hr : 1 ≤ room ∧ room ≤ 10000) (w : World) (h : DiskAt true w X db n 0) (hX : ∀ k, X k → k < w.heap.size) :
    Calls Tryz.prog 7 #[.pointer (some ⟨db, 0, none⟩), .int .i64 room] w fun e w' => ∃ eb reg, e = .returned (.tuple #[.pointer (some ⟨eb, 0, none⟩), .int .i64 0]) ∧ EngAt w' reg eb (engn0 room (n / 4) db) ∧ (∀ k, k < w.heap.size → reg k ≠ 0 → X k) ∧ Below w.heap.size w w' := by
  have hmm := @run_makeMap Tryz.prog
  have HO := Lib.hid (bookopen X db n h24 hn w h hX)
  have HX := Lib.hid hX
  clear h hX
  go_enter Tryz.func7, Tryz.ntmps7
  go_wp2_with fail
  refine HO.out.mono ?_
  rintro e w1 ⟨bb, sb, lb, pb, tb, mb, hb, XL, rfl, hbk, hxl, hbb, hmb, hhb, hb1⟩
  have HBK := Lib.hid hbk
  have HXL := Lib.hid hxl
  have HB1 := Lib.hid hb1
  have HBB := Lib.hid (show w.heap.size ≤ bb ∧ w.heap.size ≤ mb ∧ w.heap.size ≤ hb from ⟨hbb, hmb, hhb⟩)
  clear hbk hxl hbb hmb hhb hb1
  go_wp2_with fail
  refine (newtable room hr.1 hr.2 w1).mono ?_
  rintro e w2 ⟨rfl, ht2, hb2⟩
  have HT2 := Lib.hid ht2.lt
  have HB2 := Lib.hid hb2
  clear ht2 hb2
  go_wp2_with fail
  refine (newqueue (w2.alloc (.map #[] 0))).mono ?_
  rintro e w3 ⟨rfl, hw3⟩
  have HW3 := Lib.hid hw3
  clear hw3
  go_wp2_with fail
  refine (newwin w3).mono ?_
  rintro e w4 ⟨rfl, hw4⟩
  have HW4 := Lib.hid hw4
  clear hw4
  go_wp2_with fail
  refine (newcounts w4).mono ?_
  rintro e w5 ⟨rfl, hw5⟩
  have HW5 := Lib.hid hw5
  clear hw5
  go_upto_region 5 with fail
  obtain ⟨ab, hab⟩ : ∃ b, b = w2.heap.size := ⟨_, rfl⟩
  obtain ⟨qb, hqb⟩ : ∃ b, b = w2.heap.size + 1 := ⟨_, rfl⟩
  obtain ⟨wb, hwb⟩ : ∃ b, b = w3.heap.size := ⟨_, rfl⟩
  obtain ⟨cb, hcb⟩ : ∃ b, b = w4.heap.size := ⟨_, rfl⟩
  obtain ⟨eb, heb⟩ : ∃ b, b = w5.heap.size := ⟨_, rfl⟩
  rw [← hqb, ← hab, ← hwb, ← hcb, ← heb]
  obtain ⟨W6, hW6⟩ : ∃ W, W = w5.alloc (.cells #[.pointer (some ⟨bb, 0, none⟩), .pointer (some ⟨w1.heap.size, 0, none⟩), .map (some ab), .pointer (some ⟨qb, 0, none⟩), .pointer (some ⟨wb, 0, none⟩), .int .i64 0, .slice none 0 0, .slice none 0 0, .pointer (some ⟨cb, 0, none⟩), .bool false] 87) := ⟨_, rfl⟩
  rw [← hW6]
  have e3 := HW3.out
  have e4 := HW4.out
  have e5 := HW5.out
  have s3 : w3.heap.size = w2.heap.size + 2 := by rw [e3]; simp
  have s4 : w4.heap.size = w3.heap.size + 1 := by rw [e4]; simp
  have s5 : w5.heap.size = w4.heap.size + 1 := by rw [e5]; simp
  have s6 : W6.heap.size = w5.heap.size + 1 := by rw [hW6]; simp
  have b23 : Below w2.heap.size w2 w3 := e3 ▸ ((Below.refl _ _).alloc (Nat.le_refl _) _).alloc (by simp) _
  have b34 : Below w3.heap.size w3 w4 := e4 ▸ (Below.refl _ _).alloc (Nat.le_refl _) _
  have b45 : Below w4.heap.size w4 w5 := e5 ▸ (Below.refl _ _).alloc (Nat.le_refl _) _
  have b56 : Below w5.heap.size w5 W6 := hW6 ▸ (Below.refl _ _).alloc (Nat.le_refl _) _
  have b46 := b45.trans (b56.mono (by omega))
  have b36 := b34.trans (b46.mono (by omega))
  have b26 := b23.trans (b36.mono (by omega))
  have b16 := HB2.out.trans (b26.mono HB2.out.size)
  have hs1 := HB1.out.size
  have hs2 := HB2.out.size
  have hm : MapAt W6 9 ab 0 (fun _ => none) := by
    have h1 := (MapAt.new w2 9)
    rw [hab]
    refine (h1.below (w' := w3) ?_).below b36
    rw [e3]; exact (Below.refl _ _).alloc (Nat.le_refl _) _
  have hw : WinAt 0 W6 (fun k => k = wb) wb win0 := by
    refine ⟨rfl, ?_⟩
    have h1 : Blk w4 wb #[.map none, .slice none 0 0] 194 := e4 ▸ Blk.newAt hwb
    exact h1.below b46
  have hc : CntAt W6 cb := by
    have h1 : CntAt w5 cb := by rw [e5, hcb]; exact CntAt.new w4
    exact h1.chg (Chg.of_below b56 (fun _ => False)) (fun h => h)
  have he : Blk W6 eb #[.pointer (some ⟨bb, 0, none⟩), .pointer (some ⟨w1.heap.size, 0, none⟩), .map (some ab), .pointer (some ⟨qb, 0, none⟩), .pointer (some ⟨wb, 0, none⟩), .int .i64 0, .slice none 0 0, .slice none 0 0, .pointer (some ⟨cb, 0, none⟩), .bool false] 87 := hW6 ▸ Blk.newAt heb
  have hbk := HBK.out
  have hmt := hbk.maps.tbl.choose_spec.1.lt
  have hht := hbk.maps.chd.choose_spec.lt
  have hbt := hbk.blk.lt
  have hbb := HBB.out
  have HNEW := Lib.hid (show EngNew w w1 w2 W6 X XL bb mb hb ab wb cb eb from ⟨hs1, hs2, by omega, by omega, hbk.bm, HX.out, fun k hk => ⟨HXL.out k hk, hbk.lt k (.inr (.inl hk)), fun e => hbk.bl.1 (e ▸ hk), fun e => hbk.ml.1 (e ▸ hk), fun e => hbk.hl.1 (e ▸ hk)⟩⟩)
  have hE := engnew_at (qb := qb) (N := n) (cnt := n / 4) HNEW.out (hbk.below b16) (HT2.out.chg (Chg.of_below b26 (fun _ => False)) (fun _ _ h => h)) hm hc hw hr (by omega) he
  have HE := Lib.hid hE
  have HK6 := Lib.hid (hbk.below b16)
  have HM6 := Lib.hid ((hbk.below b16).maps.tbl)
  have HB6 := Lib.hid (HB1.out.trans (b16.mono hs1))
  have x0 : W6.cell? ⟨eb, 0, none⟩ = some (.pointer (some ⟨bb, 0, none⟩)) := he.cell 0
  have HX0 := Lib.hid x0
  clear hab hqb hwb hcb heb hW6 e3 e4 e5 s3 s4 s5 s6 b23 b34 b45 b56 b46 b36 b26 b16 hm hw hc he hbk hE x0
  go_wp2_with fail
  refine (get_none (fun _ => False) bb mb 0 (fun _ => none) ⟨#[99]⟩ (by show 1 ≤ 1000; omega) rfl W6 HK6.out.maps.c6 HK6.out.maps.tbl).mono ?_
  rintro e v0 ⟨A0, c0, rfl, hv0⟩
  have HV0 := Lib.hid hv0
  clear hv0
  go_wp2_with fail
  refine (get_none (fun _ => False) bb mb 0 (fun _ => none) ⟨#[112]⟩ (by show 1 ≤ 1000; omega) rfl v0 (HK6.out.maps.below HV0.out).c6 (HK6.out.maps.below HV0.out).tbl).mono ?_
  rintro e v1 ⟨A1, c1, rfl, hv1⟩
  have HV1 := Lib.hid (HV0.out.trans (hv1.mono HV0.out.size))
  clear hv1
  go_wp2_with fail
  refine (get_none (fun _ => False) bb mb 0 (fun _ => none) ⟨#[114]⟩ (by show 1 ≤ 1000; omega) rfl v1 (HK6.out.maps.below HV1.out).c6 (HK6.out.maps.below HV1.out).tbl).mono ?_
  rintro e v2 ⟨A2, c2, rfl, hv2⟩
  have HV2 := Lib.hid (HV1.out.trans (hv2.mono HV1.out.size))
  clear hv2
  go_wp2_with fail
  refine (get_none (fun _ => False) bb mb 0 (fun _ => none) ⟨#[119]⟩ (by show 1 ≤ 1000; omega) rfl v2 (HK6.out.maps.below HV2.out).c6 (HK6.out.maps.below HV2.out).tbl).mono ?_
  rintro e v3 ⟨A3, c3, rfl, hv3⟩
  have HV3 := Lib.hid (HV2.out.trans (hv3.mono HV2.out.size))
  clear hv3
  obtain ⟨f6, hf6, _⟩ := HM6.out
  have HKY := Lib.hid (engkeys_none eb bb mb f6 v3 ((Chg.of_below HV3.out (fun _ => False)).cell (a := ⟨eb, 0, none⟩) (fun h => h) HX0.out) (HK6.out.maps.below HV3.out).c6 (hf6.below HV3.out))
  clear hf6
  go_wp2_with fail
  refine HKY.out.mono ?_
  rintro e v4 ⟨rfl, hv4⟩
  have HV4 := Lib.hid (HV3.out.trans (hv4.mono HV3.out.size))
  clear hv4
  go_wp2_with fail
  refine wp_loop_rounds 1 ?_
  rw [rounds_succ]
  go_wp2_with fail
  go_ret2
  refine ⟨eb, _, rfl, HE.out.below HV4.out, fun k hk h0 => (reg0_lt HNEW.out h0).2 hk, HB6.out.trans (HV4.out.mono HB6.out.size)⟩
end Go.Proofs.YtlcdjgpblpodaaaGreatDoor

/- Eng7 -/
import Derived.Test.YtlcdjgpblpodaaaGreatDoorMBD
namespace Go.Proofs.YtlcdjgpblpodaaaGreatDoor
open Go.RowKit Go.Maps Go.Proofs.YtlcdjgpblpodaaaGreatDoorW.PrintWords

theorem any_in {k : ByteArray} : ∀ {ls : List ByteArray}, k ∈ ls → (ls.any fun y => k.toList == y.toList) = true
  | j :: r, h => by
    rw [List.any_cons]
    rcases List.mem_cons.1 h with e | e
    · subst e; simp
    · rw [any_in e, Bool.or_true]
theorem any_out {k : ByteArray} : ∀ {ls : List ByteArray}, k ∉ ls → (ls.any fun y => k.toList == y.toList) = false
  | [], _ => rfl
  | j :: r, h => by
    have := any_other (j := j) (k := k) (fun e => h (by simp [e]))
    rw [List.any_cons, List.any_nil, Bool.or_false] at this
    rw [List.any_cons, this, any_out (fun e => h (List.mem_cons_of_mem _ e)), Bool.or_false]
/-- The window of a unit, and its change. -/
def wptr : Option (Nat × Win) → Value
  | none => .pointer none
  | some (b, _) => .pointer (some ⟨b, 0, none⟩)
theorem wneq (wo : Option (Nat × Win)) (W : World) : (binOp .neq 82 (wptr wo) (.pointer none)).run Tryz.prog W = .ok (.bool wo.isSome) W := by
  rcases wo with _ | ⟨b, W'⟩
  · kernel_rfl
  · kernel_rfl
theorem wguard (wo : Option (Nat × Win)) (n : Nat) (W : World) : (eqGuard .neq 82 (.tmp n) (.const (.pointer none)) (wptr wo) (.pointer none)).run Tryz.prog W = .ok () W := by
  rcases wo with _ | ⟨b, W'⟩
  · rfl
  · rfl
def wch : Option (Nat × Win) → List Chn
  | none => []
  | some (_, W) => [winCh W]
/-- The engine behind a unit. -/
def comE (E : Engn) (us : List (Nat × Actr)) (wo : Option (Nat × Win)) : Engn := { E with act := updAll E.act us, win := (match wo with | none => E.win | some (_, W) => W), q := E.q + 1, z := E.z + 2 }
theorem chOf_ok (a : Actr) (h : a.Ok) (hk : KeyOk a.outb.owner) : (chOf a).Ok := by
  have h1 := encAct_length a h
  have h5 := h.room
  have h6 := h.few
  have h7 := h.jour.few
  have h8 := h.outb.counts
  refine ⟨?_, encAct_bytes a h, ?_, ?_⟩
  · show 1 ≤ (akey _).size ∧ (akey _).size ≤ 64
    rw [akey_size]; have := hk.2; omega
  · show (encAct a).length ≤ 8000
    omega
  · show 1 ≤ (encAct a).length
    have := (encNum_length a.tries (by have := h.tries; omega)).1
    unfold encAct
    rw [List.length_append]; omega
theorem winCh_ok (W : Win) (h : W.Ok) : (winCh W).Ok := by
  have h1 := encWin_length W h
  refine ⟨by show 1 ≤ 1 ∧ 1 ≤ 64; omega, encWin_bytes W h, by show (encWin W).length ≤ 8000; omega, ?_⟩
  show 1 ≤ (encWin W).length
  have := (encNum_length W.rows.length (by have := h.one; omega)).1
  unfold encWin
  rw [List.length_append]; omega

theorem updAll_ok : ∀ (us : List (Nat × Actr)) (act : ByteArray → Actr), (∀ k, KeyOk k → ActOk k (act k)) → (∀ u ∈ us, ActOk u.2.outb.owner u.2) → ∀ k, KeyOk k → ActOk k (updAll act us k)
  | [], _, h, _, k, hk => h k hk
  | u :: us, act, h, hu, k, hk => updAll_ok us (upd act u.2) (fun k hk => by
      by_cases e : k = u.2.outb.owner
      · rw [e, upd_same]; exact hu u (by simp)
      · rw [upd_other _ _ e]; exact h k hk) (fun u' hu' => hu u' (List.mem_cons_of_mem _ hu')) k hk
theorem chs_ok (us : List (Nat × Actr)) (wo : Option (Nat × Win)) (hok : ∀ u ∈ us, KeyOk u.2.outb.owner ∧ ActOk u.2.outb.owner u.2) (hwo : ∀ b W, wo = some (b, W) → W.Ok) : ∀ c ∈ chsOf us ++ wch wo, c.Ok := fun c hc => by
  rcases List.mem_append.1 hc with h | h
  · obtain ⟨u, hu, rfl⟩ := List.mem_map.1 h
    exact chOf_ok u.2 (hok u hu).2.1 (hok u hu).1
  · rcases wo with _ | ⟨b, W⟩
    · simp [wch] at h
    · obtain rfl : c = winCh W := by simpa [wch] using h
      exact winCh_ok W (hwo b W rfl)
theorem chs_nodup (us : List (Nat × Actr)) (wo : Option (Nat × Win)) (hnd : (us.map fun u => u.2.outb.owner).Nodup) : ((chsOf us ++ wch wo).map (·.key)).Nodup := by
  have h1 : ((chsOf us).map (·.key)) = (us.map fun u => u.2.outb.owner).map akey := by simp [chsOf, chOf]
  have h2 : ((us.map fun u => u.2.outb.owner).map akey).Nodup := by rw [List.Nodup, List.pairwise_map]; exact List.Pairwise.imp (fun h e => h (akey_inj e)) hnd
  rw [List.map_append, h1]
  rcases wo with _ | ⟨b, W⟩
  · simpa [wch] using h2
  · refine List.nodup_append.2 ⟨h2, by simp [wch], fun a ha c hc e => ?_⟩
    obtain ⟨k, _, rfl⟩ := List.mem_map.1 ha
    have hc' : c = ⟨#[119]⟩ := by simpa [wch, winCh] using hc
    exact akey_ne k 119 (by decide) (e.trans hc')
theorem chs_len (us : List (Nat × Actr)) (wo : Option (Nat × Win)) (hl : 1 ≤ us.length ∧ us.length ≤ 2) : 1 ≤ (chsOf us ++ wch wo).length ∧ (chsOf us ++ wch wo).length ≤ 3 := by
  have h1 : (chsOf us).length = us.length := List.length_map _
  rw [List.length_append, h1]
  rcases wo with _ | ⟨b, W⟩
  · simp [wch]; omega
  · simp [wch]; omega
theorem pieces_le {n : Nat} (h : n ≤ 2000) : pieces n ≤ 9 := by unfold pieces; omega
theorem EngC.notbook {w : World} {reg : Nat → Nat} {v : EngV} (h : EngC w reg v) : ∀ j, reg j ≤ 1 → ¬ bookS (fun k => reg k = 2) (fun k => reg k = 3) v.bb v.mb v.hb j := fun j hj g => by
  rcases g with g | g | g | g | g
  · subst g; have := h.lbb; omega
  · subst g; have := h.lm; omega
  · subst g; have := h.lh; omega
  · omega
  · omega
theorem EngC.new {w : World} {reg : Nat → Nat} {v : EngV} (h : EngC w reg v) {j : Nat} (hj : w.heap.size ≤ j) : reg j = 0 := by
  by_cases e : reg j = 0
  · exact e
  · have := h.lt j e; omega
set_option maxRecDepth 100000 in
set_option maxHeartbeats 4000000 in
theorem commit_eng (reg : Nat → Nat) (eb : Nat) (E : Engn) (X : Nat → Prop) (ua uo uc : Nat) (us : List (Nat × Actr)) (wo : Option (Nat × Win)) (w : World) (h : EngAt w reg eb E) (hU : UnA w X ua uo us) (hua : reg ua = 0) (hX : ∀ k, X k → reg k = 0 ∧ k < w.heap.size)
    (hl : 1 ≤ us.length ∧ us.length ≤ 2) (hok : ∀ u ∈ us, KeyOk u.2.outb.owner ∧ ActOk u.2.outb.owner u.2) (hnd : (us.map fun u => u.2.outb.owner).Nodup) (hwo : ∀ b W, wo = some (b, W) → W.Ok ∧ WinAt 5 w X b W) (hq : 9 * (E.q + 1) ≤ E.cnt ∧ E.q ≤ 5000) (hz : E.z ≤ 900000)
    (hlen : (encChs (chsOf us ++ wch wo)).length ≤ 2000) :
    Calls Tryz.prog 46 #[.pointer (some ⟨eb, 0, none⟩), .agg #[.slice (some ⟨ua, uo, none⟩) us.length uc, .pointer none, wptr wo, .slice none 0 0]] w fun e w' => e = .returned (.int .i64 0) ∧ ∃ reg', EngAt w' reg' eb (comE E us wo) ∧ (∀ k, k < w.heap.size → reg' k = reg k ∨ (X k ∧ reg' k = 1)) ∧ Chg (fun k => 2 ≤ reg k) w w' := by
  obtain ⟨ho, v, rfl, hC0, hL0⟩ := h
  obtain ⟨i0, z0, hi, hz0, hz1, hz2, hz3⟩ := info_big info136
  obtain ⟨reg0, hreg0⟩ : ∃ r, r = promo reg X := ⟨_, rfl⟩
  have hC : EngC w reg0 v := hreg0 ▸ hC0.relab (fun k hk => promo_old hk) (fun k h0 hk => by
    rcases promo_cases reg X k with e | ⟨e1, _, e2⟩
    · rw [e, h0] at hk; exact absurd rfl hk
    · rw [e2]; exact ⟨by decide, (hX k e1).2⟩)
  have hL : EngL w reg0 v E := hreg0 ▸ hL0.relab (fun k hk => (promo_old (by omega)).trans hk)
  have hxr : ∀ k, X k → reg0 k = 1 := fun k hk => hreg0 ▸ promo_in (hX k hk).1 hk
  have hur : ¬ 2 ≤ reg0 ua := fun e => by
    rcases promo_cases reg X ua with q | ⟨_, _, q⟩ <;> rw [hreg0, q] at e <;> omega
  obtain ⟨ub, hub⟩ : ∃ ub, ub = w.heap.size := ⟨_, rfl⟩
  obtain ⟨W1, hW1⟩ : ∃ V, V = w.alloc (.cells #[.slice (some ⟨ua, uo, none⟩) us.length uc, .pointer none, wptr wo, .slice none 0 0] 121) := ⟨_, rfl⟩
  have hb1 : Below w.heap.size w W1 := hW1 ▸ (Below.refl _ _).alloc (Nat.le_refl _) _
  have hunt : Unt w W1 ub us.length uc (some ⟨ua, uo, none⟩) (wptr wo) [] none 0 [] := ⟨hW1 ▸ Blk.newAt hub, own_nil _ _ _ _, ChsC.nil _ _, hb1, by omega⟩
  have d0 : W1.cell? ⟨ub, 0, none⟩ = some (.slice (some ⟨ua, uo, none⟩) us.length uc) := hunt.blk.cell 0
  have HU1 := Lib.hid hunt
  have HC := Lib.hid hC
  have HL := Lib.hid hL
  have HO := Lib.hid ho
  have HXR := Lib.hid hxr
  have HUR := Lib.hid hur
  have HREG := Lib.hid hreg0
  have HUN := Lib.hid hU
  have HOK := Lib.hid hok
  have HND := Lib.hid hnd
  have HWO := Lib.hid hwo
  have HLEN := Lib.hid hlen
  have HX := Lib.hid hX
  have HUB := Lib.hid hub
  have HW1 := Lib.hid hW1
  have HC0 := Lib.hid hC0
  clear hC0 hL0 hC hL ho hxr hur hreg0 hU hok hnd hwo hlen hX hub hW1 hunt hb1 hua
  go_enter Tryz.func46, Tryz.ntmps46
  go_upto_region 1 with fail
  rw [← HW1.out, ← HUB.out]
  go_wp2_with fail
  go_loopw [15] (fun s wr => ∃ (k : Nat) (A : Option Addr) (c : Nat) (vs : List Value), s = .int .i64 k ∧ k ≤ us.length ∧ Unt w wr ub us.length uc (some ⟨ua, uo, none⟩) (wptr wo) (chsOf (us.take k)) A c vs) (fun s _ => us.length - (intOf s).toNat)
  case atStart => exact ⟨0, none, 0, [], rfl, Nat.zero_le _, HU1.out⟩
  case round =>
    obtain ⟨k, A, c, vs, rfl, hk, hu⟩ := hrel
    obtain ⟨cs, hcs⟩ : ∃ cs, cs = chsOf (us.take k) := ⟨_, rfl⟩
    rw [← hcs] at hu
    have hcl : cs.length = k := by rw [hcs, chsOf, List.length_map, List.length_take]; omega
    have k0 : (0 : Int) ≤ (k : Int) := by omega
    have HU := Lib.hid hu
    have HCS := Lib.hid hcs
    have HCL := Lib.hid hcl
    have hc2 : cs.length ≤ 2 := by omega
    clear hu hcs hcl
    by_cases hkl : k < us.length
    · obtain ⟨u, huk⟩ : ∃ u, us[k]? = some u := ⟨_, List.getElem?_eq_getElem hkl⟩
      obtain ⟨p, a⟩ := u
      have k1 : (k : Int) < (us.length : Int) := by omega
      have hoka := HOK.out (p, a) (List.mem_of_getElem? huk)
      have hks := hoka.1.2
      have hadd := fun W => run_string_add_sum (P := Tryz.prog) W ⟨#[97]⟩ a.outb.owner (by show 1 + a.outb.owner.size ≤ _; simp only at hks; omega)
      have hbw := HU.out.below
      have g0 := (Chg.of_below hbw (fun _ => False)).cell (a := ⟨ua, uo + k, none⟩) (fun h => h) (HUN.out.cell k (p, a) huk)
      have gl := World.block_lt_of_cell? wr _ g0
      simp only at gl g0
      have hact : ActAt false wr X p a := (HUN.out.at_ (p, a) (List.mem_of_getElem? huk)).chg (Chg.of_below hbw (fun _ => False)) (fun _ _ h => h)
      have HA := Lib.hid hact
      have HOKA := Lib.hid hoka.2
      have HUK := Lib.hid huk
      have HAL := Lib.hid (encAct_length a hoka.2.1)
      clear hbw hact hoka huk
      go_wp2_with fail
      refine (actenc X p a HOKA.out.1 HOKA.out.2.1 wr HA.out).mono ?_
      rintro e w3 ⟨V, vc, rfl, hov, hb3⟩
      have hbd : Below wr.heap.size wr w3.drew := hb3.drew
      have HU3 := Lib.hid (HU.out.on hbd)
      have HA3 := Lib.hid (HA.out.below hbd)
      have HB3 := Lib.hid hbd
      have hrv : ReadsOf (Value.int .u8) (0 : Int) w3.drew V (encAct a).length (encAct a) := by
        obtain ⟨A', c', he, hle, hr⟩ := own_reads_of_le (d := (0 : Int)) hov
        injection he with he1 he2 he3
        subst he1 he3
        exact hr
      have HRV := Lib.hid hrv
      have HV := Lib.hid (show ∀ ad, V = some ad → wr.heap.size ≤ ad.block ∧ ad.block < w3.drew.heap.size ∧ ad.spot = none from fun ad ha => ⟨own_base hov ad.block (by rw [ha]; rfl), own_lt hov ad.block (by rw [ha]; rfl), own_spot hov ad ha⟩)
      have c3 : w3.drew.cell? ⟨ub, 3, none⟩ = some (.slice A cs.length c) := HU3.out.blk.cell 3
      clear hbd hrv hov hb3 g0
      go_upto_region 5 with fail
      obtain ⟨S, hSD⟩ : ∃ S : World → Prop, S = fun w' => w'.cell? ⟨ub, 3, none⟩ = some (.slice A cs.length c) := ⟨_, rfl⟩
      have HSD := Lib.hid hSD
      clear hSD
      refine Held.region S 12 (by kernel_rfl) (by rw [HSD.out]; exact c3) (fun hHeld => ?_)
      refine Held.take (i := 0) (oi := { dst := _, op := _, type := _, pos := _, after := _, guard := _ }) (v := ?v0) rfl (by kernel_rfl) (by kernel_rfl) (by kernel_rfl) (by kernel_rfl) (fun _ _ _ h => h) (Or.inl ⟨by rfl, ?hy0⟩) (by assumption) ?rest0
      case hy0 => (intro w hSw; rw [HSD.out] at hSw; (try dsimp only at hSw); go_simp; (try with_reducible rfl))
      try simp only [Act.put, List.setIfInBounds_toArray, List.set_cons_zero, List.set_cons_succ]
      refine Held.take (i := 1) (oi := { dst := _, op := _, type := _, pos := _, after := _, guard := _ }) (v := ?v1) rfl (by kernel_rfl) (by kernel_rfl) (by kernel_rfl) (by kernel_rfl) (fun _ _ _ h => h) (Or.inl ⟨by rfl, ?hy1⟩) (by assumption) ?rest1
      case hy1 => (intro w hSw; rw [HSD.out] at hSw; (try dsimp only at hSw); go_simp; (try with_reducible rfl))
      try simp only [Act.put, List.setIfInBounds_toArray, List.set_cons_zero, List.set_cons_succ]
      refine Held.take (i := 2) (oi := { dst := _, op := _, type := _, pos := _, after := _, guard := _ }) (v := ?v2) rfl (by kernel_rfl) (by kernel_rfl) (by kernel_rfl) (by kernel_rfl) (fun _ _ _ h => h) (Or.inl ⟨by rfl, ?hy2⟩) (by assumption) ?rest2
      case hy2 => (intro w hSw; rw [HSD.out] at hSw; (try dsimp only at hSw); go_simp; (try with_reducible rfl))
      try simp only [Act.put, List.setIfInBounds_toArray, List.set_cons_zero, List.set_cons_succ]
      refine Held.take (i := 5) (oi := { dst := _, op := _, type := _, pos := _, after := _, guard := _ }) (v := ?v5) rfl (by kernel_rfl) (by kernel_rfl) (by kernel_rfl) (by kernel_rfl) (fun _ _ _ h => h) (Or.inl ⟨by rfl, ?hy5⟩) (by assumption) ?rest5
      case hy5 => (intro w hSw; rw [HSD.out] at hSw; (try dsimp only at hSw); go_simp; (try with_reducible rfl))
      try simp only [Act.put, List.setIfInBounds_toArray, List.set_cons_zero, List.set_cons_succ]
      refine Held.take (i := 6) (oi := { dst := _, op := _, type := _, pos := _, after := _, guard := _ }) (v := ?v6) rfl (by kernel_rfl) (by kernel_rfl) (by kernel_rfl) (by kernel_rfl) (fun _ _ _ h => h) (Or.inl ⟨by rfl, ?hy6⟩) (by assumption) ?rest6
      case hy6 => (intro w hSw; rw [HSD.out] at hSw; (try dsimp only at hSw); go_simp; (try with_reducible rfl))
      try simp only [Act.put, List.setIfInBounds_toArray, List.set_cons_zero, List.set_cons_succ]
      refine Held.one (i := 3) (o := { dst := _, op := _, type := _, pos := _, after := _, guard := _ }) (by kernel_rfl) rfl (fun K hK => ?_)
      go_simp
      refine (actkey X p a w3.drew HA3.out).mono ?_
      rintro e w4 ⟨rfl, rfl⟩
      refine hK.out _ _ (fun _ => hHeld) (fun _ => ?_)
      clear hK K
      try simp only [Act.put, List.setIfInBounds_toArray, List.set_cons_zero, List.set_cons_succ]
      refine Held.take (i := 4) (oi := { dst := _, op := _, type := _, pos := _, after := _, guard := _ }) (v := ?v4) rfl (by kernel_rfl) (by kernel_rfl) (by kernel_rfl) (by kernel_rfl) (fun _ _ _ h => h) (Or.inl ⟨by rfl, ?hy4⟩) (by assumption) ?rest4
      case hy4 => (intro w hSw; rw [HSD.out] at hSw; (try dsimp only at hSw); go_simp; (try with_reducible rfl))
      try simp only [Act.put, List.setIfInBounds_toArray, List.set_cons_zero, List.set_cons_succ]
      refine Held.one (i := 7) (o := { dst := _, op := _, type := _, pos := _, after := _, guard := _ }) (by kernel_rfl) rfl (fun K hK => ?_)
      go_simp
      refine (fresh_act X p a HOKA.out.1 w3.drew HA3.out).mono ?_
      rintro e w5 ⟨rfl, rfl⟩
      refine hK.out _ _ (fun _ => hHeld) (fun _ => ?_)
      clear hK K
      try simp only [Act.put, List.setIfInBounds_toArray, List.set_cons_zero, List.set_cons_succ]
      refine Held.one (i := 8) (o := { dst := _, op := _, type := _, pos := _, after := _, guard := _ }) (by kernel_rfl) rfl (fun K hK => ?_)
      go_simp
      refine hK.out _ _ (fun _ => hHeld) (fun _ => ?_)
      clear hK K
      try simp only [Act.put, List.setIfInBounds_toArray, List.set_cons_zero, List.set_cons_succ]
      refine Held.one (i := 9) (o := { dst := _, op := _, type := _, pos := _, after := _, guard := _ }) (by kernel_rfl) rfl (fun K hK => ?_)
      go_simp
      refine hK.out _ _ (fun _ => ?hS9) (fun hHeld1 => ?_)
      case hS9 => (rw [HSD.out]; exact (Blk.alloc HU3.out.blk _).cell 3)
      clear hK K
      replace hHeld1 := hHeld1 (by decide)
      try simp only [Act.put, List.setIfInBounds_toArray, List.set_cons_zero, List.set_cons_succ]
      refine Held.one (i := 10) (o := { dst := _, op := _, type := _, pos := _, after := _, guard := _ }) (by kernel_rfl) rfl (fun K hK => ?_)
      have HNW := Lib.hid (show ∀ j u, (chC (chOf a) V vc)[j]? = some u → (w3.drew.alloc (.cells #[.string (⟨#[97]⟩ ++ a.outb.owner), .slice V (encAct a).length vc, .bool (freshA a)] 136)).cell? ((⟨w3.drew.heap.size, 0, none⟩ : Addr).add j) = some u from World.news_of_block (Blk.new _ _ _))
      refine step_append_lies _ (by rfl) (.tmp 25) (.tmp 33) 119 (by rfl) w.heap.size 136 i0 z0 3 48 Tryz.underlying119 hi hz0 hz1 hz2 hz3 (by decide) _ cs.length vs (by rfl) (World.ownsRow.alloc HU3.out.row _) ⟨w3.drew.heap.size, 0, none⟩ 1 1 (chC (chOf a) V vc) (by rfl) rfl HNW.out (chC_one _ _ _) (by decide) (by unfold maxLen; omega) (by omega) (by have h1 : w.heap.size ≤ w3.heap.size := HU3.out.below.size; simp; omega) (w3.drew.heap.size + 1) (by simp) ?_
      intro g cap w6 ho6 hg6 hat6 hlt6
      have hg6' : (w3.drew.alloc (.cells #[.string (⟨#[97]⟩ ++ a.outb.owner), .slice V (encAct a).length vc, .bool (freshA a)] 136)).grownBy w6 (Value.slice A cs.length c).ownBlock := hg6
      have hat6' : (Value.slice A cs.length c).ownBlock = some g ∨ g = w3.drew.heap.size + 1 := hat6
      have hb6 : Blk w6 ub #[.slice (some ⟨ua, uo, none⟩) us.length uc, .pointer none, wptr wo, .slice A cs.length c] 121 := (hg6'.block ub (by have h1 : ub < w3.heap.size := HU3.out.blk.lt; simp; omega) (fun e => own_block_ne HU3.out.row HU3.out.blk (by decide) e.symm)).trans (HU3.out.blk.alloc _)
      have c6 : w6.cell? ⟨ub, 3, none⟩ = some (.slice A cs.length c) := hb6.cell 3
      have f6 : w6.frozen? ⟨ub, 3, none⟩ = false := hb6.free 3
      have l6 := hb6.lt
      have HS := Lib.hid (HU.out.push (x := chOf a) HB3.out HRV.out HV.out hg6' hat6' ho6)
      clear ho6 hg6 hg6' hat6 hat6' hlt6 hb6
      refine hK.out _ _ (fun _ => ?hS10) (fun hHeld2 => ?_)
      case hS10 => (rw [HSD.out]; exact c6)
      clear hK K
      replace hHeld2 := hHeld2 (by decide)
      try simp only [Act.put, List.setIfInBounds_toArray, List.set_cons_zero, List.set_cons_succ]
      refine Held.one (i := 11) (o := { dst := _, op := _, type := _, pos := _, after := _, guard := _ }) (by kernel_rfl) rfl (fun K hK => ?_)
      go_simp
      refine hK.out _ _ (fun _ => hHeld2) (fun _ => ?_)
      clear hK K
      try simp only [Act.put, List.setIfInBounds_toArray, List.set_cons_zero, List.set_cons_succ]
      refine Held.one (i := 12) (o := { dst := _, op := _, type := _, pos := _, after := _, guard := _ }) (by kernel_rfl) rfl (fun K hK => ?_)
      go_simp
      refine hK.out _ _ (fun h => absurd rfl h) (fun _ => ?_)
      clear hK K
      refine Held.done (by kernel_rfl) ?_ _
      refine NoPanic.normal ?_
      go_wp2_with fail
      go_roundw
      case rel =>
        have e : chsOf (us.take (k + 1)) = cs ++ [chOf a] := by
          obtain ⟨h1, h2⟩ := List.getElem?_eq_some_iff.1 HUK.out
          rw [HCS.out, List.take_succ_eq_append_getElem h1, h2]
          simp [chsOf]
        exact ⟨k + 1, some ⟨g, 0, none⟩, cap, _, by go_num, by omega, by rw [e]; simpa using HS.out⟩
      case measure => simp [intOf]; omega
    · obtain rfl : k = us.length := by omega
      have hcs' : cs = chsOf us := by rw [HCS.out, List.take_length]
      subst hcs'
      have e1 : wr.cell? ⟨ub, 1, none⟩ = some (.pointer none) := HU.out.blk.cell 1
      have e2 : wr.cell? ⟨ub, 2, none⟩ = some (wptr wo) := HU.out.blk.cell 2
      have hul := HU.out.blk.lt
      clear d0 k0
      have hneq := wneq wo wr
      have hgd := wguard wo 50 wr
      go_upto_if 51 with fail
      go_cut [] from 52 to 60 (fun wx => Hid (∃ A c vs, Unt w wx ub us.length uc (some ⟨ua, uo, none⟩) (wptr wo) (chsOf us ++ wch wo) A c vs))
      case first =>
        rcases wo with _ | ⟨nb, W⟩
        · clear e2 hneq hgd
          go_wp2_with fail
          go_meet
          exact Lib.hid ⟨A, c, vs, by simpa [wch] using HU.out⟩
        · have HUD := Lib.hid (HU.out.on ((Below.refl wr.heap.size wr).drew))
          have c3 : wr.drew.cell? ⟨ub, 3, none⟩ = some (.slice A (chsOf us).length c) := HUD.out.blk.cell 3
          have c2 : wr.drew.cell? ⟨ub, 2, none⟩ = some (.pointer (some ⟨nb, 0, none⟩)) := HUD.out.blk.cell 2
          obtain ⟨hwk, hwa⟩ := HWO.out nb W rfl
          have HWE := Lib.hid (winenc X nb W hwk wr.drew (hwa.chg (Chg.of_below HUD.out.below (fun _ => False)) (fun _ _ h => h)))
          clear e1 e2 hneq hgd hwk hwa
          go_upto_region 10 with fail
          obtain ⟨S, hSD⟩ : ∃ S : World → Prop, S = fun w' => w'.cell? ⟨ub, 3, none⟩ = some (.slice A (chsOf us).length c) ∧ w'.cell? ⟨ub, 2, none⟩ = some (.pointer (some ⟨nb, 0, none⟩)) := ⟨_, rfl⟩
          have HSD := Lib.hid hSD
          clear hSD
          refine Held.region S 9 (by kernel_rfl) (by rw [HSD.out]; exact ⟨c3, c2⟩) (fun hHeld => ?_)
          refine Held.take (i := 0) (oi := { dst := _, op := _, type := _, pos := _, after := _, guard := _ }) (v := ?vb0) rfl (by kernel_rfl) (by kernel_rfl) (by kernel_rfl) (by kernel_rfl) (fun _ _ _ h => h) (Or.inl ⟨by rfl, ?hyb0⟩) (by assumption) ?restb0
          case hyb0 => (intro w hSw; rw [HSD.out] at hSw; (try dsimp only at hSw); go_simp; (try with_reducible rfl))
          try simp only [Act.put, List.setIfInBounds_toArray, List.set_cons_zero, List.set_cons_succ]
          refine Held.take (i := 1) (oi := { dst := _, op := _, type := _, pos := _, after := _, guard := _ }) (v := ?vb1) rfl (by kernel_rfl) (by kernel_rfl) (by kernel_rfl) (by kernel_rfl) (fun _ _ _ h => h) (Or.inl ⟨by rfl, ?hyb1⟩) (by assumption) ?restb1
          case hyb1 => (intro w hSw; rw [HSD.out] at hSw; (try dsimp only at hSw); go_simp; (try with_reducible rfl))
          try simp only [Act.put, List.setIfInBounds_toArray, List.set_cons_zero, List.set_cons_succ]
          refine Held.take (i := 2) (oi := { dst := _, op := _, type := _, pos := _, after := _, guard := _ }) (v := ?vb2) rfl (by kernel_rfl) (by kernel_rfl) (by kernel_rfl) (by kernel_rfl) (fun _ _ _ h => h) (Or.inl ⟨by rfl, ?hyb2⟩) (by assumption) ?restb2
          case hyb2 => (intro w hSw; rw [HSD.out] at hSw; (try dsimp only at hSw); go_simp; (try with_reducible rfl))
          try simp only [Act.put, List.setIfInBounds_toArray, List.set_cons_zero, List.set_cons_succ]
          refine Held.take (i := 3) (oi := { dst := _, op := _, type := _, pos := _, after := _, guard := _ }) (v := ?vb3) rfl (by kernel_rfl) (by kernel_rfl) (by kernel_rfl) (by kernel_rfl) (fun _ _ _ h => h) (Or.inl ⟨by rfl, ?hyb3⟩) (by assumption) ?restb3
          case hyb3 => (intro w hSw; rw [HSD.out] at hSw; (try dsimp only at hSw); go_simp; (try with_reducible rfl))
          try simp only [Act.put, List.setIfInBounds_toArray, List.set_cons_zero, List.set_cons_succ]
          refine Held.one (i := 4) (o := { dst := _, op := _, type := _, pos := _, after := _, guard := _ }) (by kernel_rfl) rfl (fun K hK => ?_)
          go_simp
          refine HWE.out.mono ?_
          rintro e w3 ⟨V, vc, rfl, hov, hb3⟩
          have HU3 := Lib.hid (HUD.out.on hb3)
          have HB3 := Lib.hid hb3
          have hrv : ReadsOf (Value.int .u8) (0 : Int) w3 V (encWin W).length (encWin W) := by
            obtain ⟨A', c', he, hle, hr⟩ := own_reads_of_le (d := (0 : Int)) hov
            injection he with he1 he2 he3
            subst he1 he3
            exact hr
          have HRV := Lib.hid hrv
          have HV := Lib.hid (show ∀ ad, V = some ad → wr.drew.heap.size ≤ ad.block ∧ ad.block < w3.heap.size ∧ ad.spot = none from fun ad ha => ⟨own_base hov ad.block (by rw [ha]; rfl), own_lt hov ad.block (by rw [ha]; rfl), own_spot hov ad ha⟩)
          clear hrv hov hb3
          refine hK.out _ _ (fun _ => ?hSb4) (fun hHeldb1 => ?_)
          case hSb4 => (rw [HSD.out]; exact ⟨HU3.out.blk.cell 3, HU3.out.blk.cell 2⟩)
          clear hK K
          replace hHeldb1 := hHeldb1 (by decide)
          try simp only [Act.put, List.setIfInBounds_toArray, List.set_cons_zero, List.set_cons_succ]
          refine Held.one (i := 5) (o := { dst := _, op := _, type := _, pos := _, after := _, guard := _ }) (by kernel_rfl) rfl (fun K hK => ?_)
          go_simp
          refine hK.out _ _ (fun _ => hHeldb1) (fun _ => ?_)
          clear hK K
          try simp only [Act.put, List.setIfInBounds_toArray, List.set_cons_zero, List.set_cons_succ]
          refine Held.one (i := 6) (o := { dst := _, op := _, type := _, pos := _, after := _, guard := _ }) (by kernel_rfl) rfl (fun K hK => ?_)
          go_simp
          refine hK.out _ _ (fun _ => ?hSb6) (fun hHeldb2 => ?_)
          case hSb6 => (rw [HSD.out]; exact ⟨(Blk.alloc HU3.out.blk _).cell 3, (Blk.alloc HU3.out.blk _).cell 2⟩)
          clear hK K
          replace hHeldb2 := hHeldb2 (by decide)
          try simp only [Act.put, List.setIfInBounds_toArray, List.set_cons_zero, List.set_cons_succ]
          refine Held.one (i := 7) (o := { dst := _, op := _, type := _, pos := _, after := _, guard := _ }) (by kernel_rfl) rfl (fun K hK => ?_)
          have HNW := Lib.hid (show ∀ j u, (chC (winCh W) V vc)[j]? = some u → (w3.alloc (.cells #[.string ⟨#[119]⟩, .slice V (encWin W).length vc, .bool false] 136)).cell? ((⟨w3.heap.size, 0, none⟩ : Addr).add j) = some u from World.news_of_block (Blk.new _ _ _))
          refine step_append_lies _ (by rfl) (.tmp 53) (.tmp 58) 119 (by rfl) w.heap.size 136 i0 z0 3 48 Tryz.underlying119 hi hz0 hz1 hz2 hz3 (by decide) _ (chsOf us).length vs (by rfl) (World.ownsRow.alloc HU3.out.row _) ⟨w3.heap.size, 0, none⟩ 1 1 (chC (winCh W) V vc) (by rfl) rfl HNW.out (chC_one _ _ _) (by decide) (by unfold maxLen; omega) (by omega) (by have h1 : w.heap.size ≤ w3.heap.size := HU3.out.below.size; simp; omega) (w3.heap.size + 1) (by simp) ?_
          intro g cap w6 ho6 hg6 hat6 hlt6
          have hg6' : (w3.alloc (.cells #[.string ⟨#[119]⟩, .slice V (encWin W).length vc, .bool false] 136)).grownBy w6 (Value.slice A (chsOf us).length c).ownBlock := hg6
          have hat6' : (Value.slice A (chsOf us).length c).ownBlock = some g ∨ g = w3.heap.size + 1 := hat6
          have hb6 : Blk w6 ub #[.slice (some ⟨ua, uo, none⟩) us.length uc, .pointer none, wptr (some (nb, W)), .slice A (chsOf us).length c] 121 := (hg6'.block ub (by have h1 : ub < w3.heap.size := HU3.out.blk.lt; simp; omega) (fun e => own_block_ne HU3.out.row HU3.out.blk (by decide) e.symm)).trans (HU3.out.blk.alloc _)
          have c6 : w6.cell? ⟨ub, 3, none⟩ = some (.slice A (chsOf us).length c) := hb6.cell 3
          have c7 : w6.cell? ⟨ub, 2, none⟩ = some (.pointer (some ⟨nb, 0, none⟩)) := hb6.cell 2
          have f6 : w6.frozen? ⟨ub, 3, none⟩ = false := hb6.free 3
          have l6 := hb6.lt
          have HS := Lib.hid (HUD.out.push (x := winCh W) HB3.out HRV.out HV.out hg6' hat6' ho6)
          clear ho6 hg6 hg6' hat6 hat6' hlt6 hb6
          refine hK.out _ _ (fun _ => ?hSb7) (fun hHeldb3 => ?_)
          case hSb7 => (rw [HSD.out]; exact ⟨c6, c7⟩)
          clear hK K
          replace hHeldb3 := hHeldb3 (by decide)
          try simp only [Act.put, List.setIfInBounds_toArray, List.set_cons_zero, List.set_cons_succ]
          refine Held.one (i := 8) (o := { dst := _, op := _, type := _, pos := _, after := _, guard := _ }) (by kernel_rfl) rfl (fun K hK => ?_)
          go_simp
          refine hK.out _ _ (fun _ => hHeldb3) (fun _ => ?_)
          clear hK K
          try simp only [Act.put, List.setIfInBounds_toArray, List.set_cons_zero, List.set_cons_succ]
          refine Held.one (i := 9) (o := { dst := _, op := _, type := _, pos := _, after := _, guard := _ }) (by kernel_rfl) rfl (fun K hK => ?_)
          go_simp
          refine hK.out _ _ (fun h => absurd rfl h) (fun _ => ?_)
          clear hK K
          refine Held.done (by kernel_rfl) ?_ _
          refine NoPanic.normal ?_
          go_wp2_with fail
          go_meet
          exact Lib.hid ⟨some ⟨g, 0, none⟩, cap, _, by simpa [wch] using HS.out⟩
      case rest =>
        obtain ⟨A5, c5, vs5, hu5⟩ := hcut
        have hb0 := hu5.below
        have hCc := HC.out.below hb0
        have hLc := HL.out.chg (Chg.of_below hb0 (fun _ => False)) (fun _ _ h => h)
        obtain ⟨b1, b2, b3, b4, b5, b6, b7⟩ := hLc.bud
        have hcn := hLc.cnt
        have hN := hLc.N
        have hlc := chs_len us wo hl
        have hpc := pieces_le HLEN.out
        have hsz0 := hb0.size
        have hcd : EngC wc.drew reg0 v := hCc.below ((Below.refl _ _).drew)
        have hchs : ChsAt wc.drew (fun j => w.heap.size ≤ j ∧ j < wc.heap.size) A5 (chsOf us ++ wch wo) := (ChsAt.of_own hu5.row (hu5.chs.mono (fun j hj => ⟨hj.1, hj.2.1⟩)) rfl (fun j hj => ⟨own_base hu5.row j hj, own_lt hu5.row j hj⟩)).chg (Chg.of_below ((Below.refl _ _).drew) (fun _ => False)) (fun _ _ h => h)
        have hfar : ∀ j, w.heap.size ≤ j → ¬ bookS (fun k => reg0 k = 2) (fun k => reg0 k = 3) v.bb v.mb v.hb j := fun j hj => HC.out.notbook j (by rw [HC.out.new hj]; decide)
        have HCM := Lib.hid (commit_any (fun j => w.heap.size ≤ j ∧ j < wc.heap.size) (fun k => reg0 k = 1) (fun k => reg0 k = 2) (fun k => reg0 k = 3) v.bb v.db v.sb v.lb v.pb v.tb v.mb v.hb v.N v.cnt v.used v.nu v.m v.n v.nc v.pend v.T A5 c5 (chsOf us ++ wch wo)
          (chs_ok us wo HOK.out (fun b W e => (HWO.out b W e).1)) (fun e => by rw [e] at hlc; simp at hlc) (by omega) (chs_nodup us wo HND.out) wc.drew hchs (fun j hj => ⟨hfar j hj.1, hj.2⟩) hcd.book hN.1 hN.2 (by omega) (by omega) (by omega) (by omega) (by omega) (by omega))
        have c0 : wc.drew.cell? ⟨v.eb, 0, none⟩ = some (.pointer (some ⟨v.bb, 0, none⟩)) := hcd.blk.cell 0
        have c3 : wc.drew.cell? ⟨ub, 3, none⟩ = some (.slice A5 (chsOf us ++ wch wo).length c5) := hu5.blk.cell 3
        have HU5 := Lib.hid hu5
        have HCD := Lib.hid hcd
        have HLC := Lib.hid hLc
        have HFAR := Lib.hid hfar
        have HB0 := Lib.hid hb0
        have hel := HC.out.blk.lt
        have hul5 := hu5.blk.lt
        obtain ⟨M, hM⟩ : ∃ M, M = (chsOf us ++ wch wo).length := ⟨_, rfl⟩
        rw [← hM] at c3 HCM
        have HM := Lib.hid hM
        clear hu5 hCc hLc hcd hchs hfar hb0 hM hlc HU HCS e1 e2 hul hneq hgd
        go_upto_region 11 with fail
        go_region_held3 (fun w' => w'.cell? ⟨v.eb, 0, none⟩ = some (.pointer (some ⟨v.bb, 0, none⟩)) ∧ w'.cell? ⟨ub, 3, none⟩ = some (.slice A5 M c5)) (first | exact ⟨c0, c3⟩ | exact ⟨c0', c3'⟩)
          (first | (go_at_call 53
                    refine HCM.out.mono ?_
                    rintro e w5 ⟨rfl, ⟨F', XL', XD', n', nc', hb5, hn', hnc', hF, hXL, hXD⟩, hc5⟩
                    have HC5 := Lib.hid (HCD.out.committed hb5 hF hXL hXD hc5)
                    have c0' : w5.cell? ⟨v.eb, 0, none⟩ = some (.pointer (some ⟨v.bb, 0, none⟩)) := HC5.out.blk.cell 0
                    have hu5b := hc5.blk (show Blk wc.drew ub _ 121 from HU5.out.blk) (HFAR.out ub (by have := HU5.out.lo; omega))
                    have c3' : w5.cell? ⟨ub, 3, none⟩ = some (.slice A5 M c5) := by rw [HM.out]; exact hu5b.cell 3
                    have HUB5 := Lib.hid hu5b
                    have HCH5 := Lib.hid hc5
                    have hr1 : ∀ k, k < wc.heap.size → laidR reg0 wc.drew.heap.size F' XL' XD' k = reg0 k := fun k hk => if_pos hk
                    obtain ⟨reg1, hreg1⟩ : ∃ r, r = laidR reg0 wc.drew.heap.size F' XL' XD' := ⟨_, rfl⟩
                    rw [← hreg1] at HC5 hr1
                    have HR1 := Lib.hid hr1
                    clear hb5 hF hXL hXD hc5 hu5b hr1 hreg1))
        rename_i hHeld
        clear hHeld c0 c3 c0' c3'
        have d0 : w5.cell? ⟨ub, 0, none⟩ = some (.slice (some ⟨ua, uo, none⟩) us.length uc) := HUB5.out.cell 0
        have hd1 : Chg (fun _ => False) w wc.drew := (Chg.of_below HB0.out (fun _ => False)).drew
        have hun5 := (HUN.out.chg hd1 (fun _ _ h => h) (fun h => h)).chg HCH5.out (fun k hk => HCD.out.notbook k (by rw [HXR.out k hk]; decide)) (HCD.out.notbook ua (by have := HUR.out; omega))
        have HUN5 := Lib.hid hun5
        have hact5 : ActsAt w5 reg1 v.g E.ls E.act := (ActsAt.chg (w := wc.drew) (fun k hk => ⟨fun hm => by
            obtain ⟨p, e, ha⟩ := (HLC.out.acts k hk).1 hm
            exact ⟨p, e, ha.chg (Chg.of_below ((Below.refl wc.heap.size wc).drew) (fun _ => False)) (fun _ _ h => h)⟩, (HLC.out.acts k hk).2⟩) HCH5.out (fun k hk => HCD.out.notbook k (by rw [hk]; decide))).relab (fun k hk => (HR1.out k (HCD.out.lt k (by rw [hk]; decide))).trans hk)
        have HACT5 := Lib.hid hact5
        have hls := HLC.out.ls
        have HLS := Lib.hid hls
        have hul6 := HUB5.out.lt
        have hsz5 := HCH5.out.size
        clear hd1 hun5 hact5 hls hul5 hel hsz0 hpc
        go_wp2_with fail
        go_loopw [74] (fun s wr => ∃ (k : Nat) (g : Lit → Option Value) (na : Nat), s = .int .i64 k ∧ k ≤ us.length ∧ na ≤ v.na + k ∧ EngC wr reg1 { v with used := v.used + pieces (encChs (chsOf us ++ wch wo)).length, nu := v.nu + 1, m := v.m + pieces (encChs (chsOf us ++ wch wo)).length, n := n', nc := nc', pend := v.pend + 1, T := layT v.T (chsOf us ++ wch wo), na := na, g := g } ∧ ActsAt wr reg1 g E.ls (updAll E.act (us.take k)) ∧ Chg (fun j => j = v.ab) w5 wr) (fun s _ => us.length - (intOf s).toNat)
        case atStart => exact ⟨0, v.g, v.na, rfl, Nat.zero_le _, Nat.le_refl _, HC5.out, HACT5.out, Chg.refl _ _⟩
        case round =>
          obtain ⟨k, g, na, rfl, hk, hna, hcr, har, hch⟩ := hrel
          have k0 : (0 : Int) ≤ (k : Int) := by omega
          have HCR := Lib.hid hcr
          have HAR := Lib.hid har
          have HCHR := Lib.hid hch
          have hvab : reg1 v.ab = 9 := hcr.la
          have HVAB := Lib.hid hvab
          clear hcr har hch hvab
          by_cases hkl : k < us.length
          · obtain ⟨u, huk⟩ : ∃ u, us[k]? = some u := ⟨_, List.getElem?_eq_getElem hkl⟩
            obtain ⟨p, a⟩ := u
            have k1 : (k : Int) < (us.length : Int) := by omega
            have hoka := HOK.out (p, a) (List.mem_of_getElem? huk)
            have hks := hoka.1.2
            simp only at hks
            have hxa : ∀ j, X j → j ≠ v.ab := fun j hj e => by
              have h1 := HXR.out j hj
              have h2 := HC.out.la
              rw [e, h2] at h1; omega
            have hua : ua ≠ v.ab := fun e => by
              have h1 := HUR.out
              rw [e, HC.out.la] at h1; exact h1 (by decide)
            have g0 := HCHR.out.cell (a := ⟨ua, uo + k, none⟩) hua (HUN5.out.cell k (p, a) huk)
            have gl := World.block_lt_of_cell? wr _ g0
            simp only at gl g0
            have hact : ActAt false wr.drew X p a := ((HUN5.out.at_ (p, a) (List.mem_of_getElem? huk)).chg HCHR.out hxa).chg (Chg.of_below ((Below.refl wr.heap.size wr).drew) (fun _ => False)) (fun _ _ h => h)
            have HA := Lib.hid hact
            have HUK := Lib.hid huk
            have HOKA := Lib.hid hoka
            have d1 : wr.drew.cell? ⟨v.eb, 1, none⟩ = some (.pointer (some ⟨v.tt, 0, none⟩)) := HCR.out.blk.cell 1
            have d2 : wr.drew.drew.cell? ⟨v.eb, 2, none⟩ = some (.map (some v.ab)) := HCR.out.blk.cell 2
            have HAS := Lib.hid (has_any (fun k => reg1 k = 4) v.tt v.room v.ls a.outb.owner wr.drew (HCR.out.below ((Below.refl wr.heap.size wr).drew)).tab)
            have HMP := Lib.hid (show MapAt wr.drew.drew 9 v.ab na g from HCR.out.map)
            have hel := HCR.out.blk.lt
            clear hact huk hoka hxa hua
            go_upto_region 17 with fail
            by_cases hin : a.outb.owner ∈ v.ls
            · rw [any_in hin] at HAS
              go_region_held3 (fun w' => w'.cell? ⟨v.eb, 1, none⟩ = some (.pointer (some ⟨v.tt, 0, none⟩))) (first | exact d1)
                (first
                  | (go_at_call 34
                     refine (actkey X p a wr.drew HA.out).mono ?_
                     rintro e w6 ⟨rfl, rfl⟩)
                  | (go_at_call 104
                     refine HAS.out.mono ?_
                     rintro e w7 ⟨rfl, rfl⟩))
              rename_i hHeld
              clear hHeld d1
              obtain ⟨w8, hput, hm8, hc8⟩ := HMP.out.put string_law Tryz.underlying79 (by omega) (v := .pointer (some ⟨p, 0, none⟩)) (keyStr a.outb.owner (by omega))
              have hdd : Below wr.heap.size wr wr.drew.drew := ((Below.refl wr.heap.size wr).drew).drew
              have hvn : v.eb ≠ v.ab := fun e => by have h1 := HC.out.le; have h2 := HC.out.la; rw [e, h2] at h1; exact absurd h1 (by decide)
              have HC8 := Lib.hid ((HCR.out.below hdd).mapped hm8 hc8)
              have y2 : w8.cell? ⟨v.eb, 2, none⟩ = some (.map (some v.ab)) := HC8.out.blk.cell 2
              have hact2 : ActAt false wr.drew.drew X p a := HA.out.chg (Chg.of_below ((Below.refl wr.drew.heap.size wr.drew).drew) (fun _ => False)) (fun _ _ h => h)
              have HA2 := Lib.hid hact2
              have hact8 : ActAt false w8 (fun j => reg1 j = 1) p a := (hact2.chg hc8 (fun j hj e => by
                have h1 := HXR.out j hj
                rw [e, HC.out.la] at h1; exact absurd h1 (by decide))).mono (fun j hj => (HR1.out j (HCD.out.lt j (by rw [HXR.out j hj]; decide))).trans (HXR.out j hj))
              have har8 := ((HAR.out.chg (Chg.of_below hdd (fun _ => False)) (fun _ _ h => h)).chg hc8 (fun j hj e => by rw [e, HVAB.out] at hj; exact absurd hj (by decide))).put (HLS.out ▸ hin) hact8
              have HAR8 := Lib.hid (updAll_take E.act us k (p, a) HUK.out ▸ har8)
              have HCH8 := Lib.hid ((HCHR.out.then_below hdd).trans hc8 (fun _ _ e => e))
              clear hm8 hc8 hdd hvn hact2 hact8 har8 hin
              go_upto_region 18 with fail
              go_region_held3 (fun w' => w'.cell? ⟨v.eb, 2, none⟩ = some (.map (some v.ab))) (first | exact d2 | exact y2)
                (first
                  | (go_at_call 34
                     refine (actkey X p a wr.drew.drew HA2.out).mono ?_
                     rintro e w6 ⟨rfl, rfl⟩))
              rename_i hHeld
              clear hHeld hput d2 y2
              go_wp2_with fail
              go_roundw
              case rel => exact ⟨k + 1, _, na + 1, by go_num, by omega, by omega, HC8.out, HAR8.out, HCH8.out⟩
              case measure => simp [intOf]; omega
            · rw [any_out hin] at HAS
              go_region_held3 (fun w' => w'.cell? ⟨v.eb, 1, none⟩ = some (.pointer (some ⟨v.tt, 0, none⟩))) (first | exact d1)
                (first
                  | (go_at_call 34
                     refine (actkey X p a wr.drew HA.out).mono ?_
                     rintro e w6 ⟨rfl, rfl⟩)
                  | (go_at_call 104
                     refine HAS.out.mono ?_
                     rintro e w7 ⟨rfl, rfl⟩))
              rename_i hHeld
              clear hHeld d1 d2
              have hdd : Below wr.heap.size wr wr.drew := (Below.refl wr.heap.size wr).drew
              have HC8 := Lib.hid (HCR.out.below hdd)
              have har8 := (HAR.out.chg (Chg.of_below hdd (fun _ => False)) (fun _ _ h => h)).skip (a := a) (HLS.out ▸ hin)
              have HAR8 := Lib.hid (updAll_take E.act us k (p, a) HUK.out ▸ har8)
              have HCH8 := Lib.hid (HCHR.out.then_below hdd)
              clear hdd har8 hin
              go_wp2_with fail
              go_roundw
              case rel => exact ⟨k + 1, _, na, by go_num, by omega, by omega, HC8.out, HAR8.out, HCH8.out⟩
              case measure => simp [intOf]; omega
          · obtain rfl : k = us.length := by omega
            have hvu : ub ≠ v.ab := fun e => by
              have h1 := HC.out.new (j := ub) (by rw [HUB.out]; exact Nat.le_refl _)
              rw [e, HC.out.la] at h1; exact absurd h1 (by decide)
            have hbx := HCHR.out.blk HUB5.out hvu
            have e1 : wr.cell? ⟨ub, 1, none⟩ = some (.pointer none) := hbx.cell 1
            have e2 : wr.cell? ⟨ub, 2, none⟩ = some (wptr wo) := hbx.cell 2
            have hlu := hbx.lt
            have hr2 : ∀ k, 2 ≤ reg0 k → 2 ≤ reg k := fun k hk => by
              rcases promo_cases reg X k with q | ⟨_, _, q⟩
              · rw [HREG.out, q] at hk; exact hk
              · rw [HREG.out, q] at hk; exact absurd hk (by decide)
            have hs0 := HB0.out.size
            have HFIN := Lib.hid (show (∀ k, k < w.heap.size → reg1 k = reg k ∨ (X k ∧ reg1 k = 1)) ∧ Chg (fun k => 2 ≤ reg k) w wr from by
              refine ⟨fun k hk => ?_, ((((Chg.of_below HB0.out (fun k => 2 ≤ reg k)).drew).trans HCH5.out (fun k _ g => ?_)).trans HCHR.out (fun k _ e => ?_))⟩
              · rw [HR1.out k (by omega), HREG.out]
                rcases promo_cases reg X k with q | ⟨q1, _, q⟩
                · exact .inl q
                · exact .inr ⟨q1, q⟩
              · refine hr2 k ?_
                by_cases h2 : 2 ≤ reg0 k
                · exact h2
                · exact absurd g (HCD.out.notbook k (by omega))
              · refine hr2 k ?_
                rw [e, HC.out.la]; decide)
            have htl : updAll E.act (us.take us.length) = updAll E.act us := by rw [List.take_length]
            have HARF := Lib.hid (htl ▸ HAR.out)
            have HTABS := Lib.hid (show TabsOk (layT v.T (chsOf us)) (updAll E.act us) from tabs_all us v.T E.act HLC.out.tabs)
            have hpc := pieces_le HLEN.out
            have HEO := Lib.hid (updAll_ok us E.act HO.out.act (fun u hu => (HOK.out u hu).2))
            clear hbx hvu k0 hr2 hs0 htl
            rcases wo with _ | ⟨nb, W⟩
            · have e2' : wr.cell? ⟨ub, 2, none⟩ = some (.pointer none) := e2
              clear e2
              go_wp2_with fail
              go_ret
              have hC := HCR.out
              have hL := HLC.out
              refine ⟨rfl, reg1, ⟨⟨HEO.out, HO.out.keys, HO.out.few, HO.out.room, HO.out.win⟩, _, ?_, hC, ⟨hL.ls, hL.room, hL.win, hL.cnt, hL.NL, hL.CL, hL.db, hL.N, ?_, ?_, HARF.out⟩⟩, HFIN.out.1, HFIN.out.2⟩
              · rfl
              · refine ⟨?_, ?_, ?_, ?_, ?_, ?_, ?_⟩ <;> simp only [comE] <;> omega
              · show TabsOk (layT v.T (chsOf us ++ [])) (updAll E.act us)
                rw [List.append_nil]; exact HTABS.out
            · have e2' : wr.cell? ⟨ub, 2, none⟩ = some (.pointer (some ⟨nb, 0, none⟩)) := e2
              have e4 : wr.cell? ⟨v.eb, 4, none⟩ = some (.pointer (some ⟨v.wb, 0, none⟩)) := HCR.out.blk.cell 4
              have f4 := HCR.out.blk.free 4
              have l4 := HCR.out.blk.lt
              obtain ⟨hwk, hwa⟩ := HWO.out nb W rfl
              have hd1 : Chg (fun _ => False) w wc.drew := (Chg.of_below HB0.out (fun _ => False)).drew
              have hwr : WinAt 5 wr (fun j => reg1 j = 1) nb W := (((hwa.chg hd1 (fun _ _ h => h)).chg HCH5.out (fun k hk => HCD.out.notbook k (by rw [HXR.out k hk]; decide))).chg HCHR.out (fun j hj e => by
                have h1 := HXR.out j hj
                rw [e, HC.out.la] at h1; exact absurd h1 (by decide))).mono (fun j hj => (HR1.out j (HCD.out.lt j (by rw [HXR.out j hj]; decide))).trans (HXR.out j hj)) (Nat.le_refl _)
              have HWF := Lib.hid (HCR.out.windowed hwr)
              have HWK := Lib.hid hwk
              clear e2 hwk hwa hd1 hwr
              go_wp2_with fail
              go_ret
              have hC := HWF.out
              have hL := HLC.out
              have hve : 2 ≤ reg v.eb := by
                have h1 := HC0.out.le
                rw [h1]; decide
              refine ⟨rfl, reg1, ⟨⟨HEO.out, HO.out.keys, HO.out.few, HO.out.room, HWK.out⟩, _, ?_, hC, ⟨hL.ls, hL.room, rfl, hL.cnt, hL.NL, hL.CL, hL.db, hL.N, ?_, ?_, HARF.out.chg ((Chg.refl (fun k => k = v.eb) wr).put v.eb 4 (.inl rfl) _) (fun k hk e => ?_)⟩⟩, HFIN.out.1, HFIN.out.2.put v.eb 4 (.inl hve) _⟩
              · rfl
              · refine ⟨?_, ?_, ?_, ?_, ?_, ?_, ?_⟩ <;> simp only [comE] <;> omega
              · show TabsOk (layT v.T (chsOf us ++ [winCh W])) (updAll E.act us)
                rw [layT_append]; exact tabs_win HTABS.out W
              · have h2 : reg1 v.eb = 5 := HCR.out.le
                rw [e, h2] at hk; exact absurd hk (by decide)
end Go.Proofs.YtlcdjgpblpodaaaGreatDoor

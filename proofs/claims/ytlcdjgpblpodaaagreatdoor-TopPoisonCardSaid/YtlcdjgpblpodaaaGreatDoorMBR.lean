/- Teach, PoiP, PoiW -/
import Derived.Test.YtlcdjgpblpodaaaGreatDoorMBE
import Derived.Test.YtlcdjgpblpodaaaGreatDoorMBQ
import Derived.Test.YtlcdjgpblpodaaaGreatDoorMBM
import Derived.Test.YtlcdjgpblpodaaaGreatDoorMBO
import Derived.Test.YtlcdjgpblpodaaaGreatDoorMBP
import Derived.Test.YtlcdjgpblpodaaaGreatDoorMBL
namespace Go.Proofs.YtlcdjgpblpodaaaGreatDoor
open Go.RowKit Go.Maps Go.Proofs.YtlcdjgpblpodaaaGreatDoorW.PrintWords

/-- The program's change. -/
def progCh (NL : List ByteArray) (CL : List (Int × Int)) : Chn := ⟨⟨#[112]⟩, encProg NL CL, false⟩
theorem progCh_ok (NL : List ByteArray) (CL : List (Int × Int)) (h : ProgOk NL CL) : (progCh NL CL).Ok := by
  have h1 := encProg_length NL CL h
  have h2 := h.nl
  have h3 := h.cl
  refine ⟨by show 1 ≤ 1 ∧ 1 ≤ 64; omega, encProg_bytes NL CL h, by show (encProg NL CL).length ≤ 8000; omega, ?_⟩
  show 1 ≤ (encProg NL CL).length
  have := (encNum_length NL.length (by omega)).1
  unfold encProg
  simp only [List.length_append]
  omega
theorem tabs_prog {T : ByteArray → Option (List Int)} {act : ByteArray → Actr} (h : TabsOk T act) (NL : List ByteArray) (CL : List (Int × Int)) : TabsOk (layT T [progCh NL CL]) act := fun k hk => by
  have : layT T [progCh NL CL] (akey k) = T (akey k) := setT_other T _ (akey_ne k 112 (by decide))
  rw [this]; exact h k hk
theorem EngC.taught {w : World} {reg : Nat → Nat} {v : EngV} (h : EngC w reg v) {NA KA : Option Addr} {nC kC : Nat} {NL : List ByteArray} {CL : List (Int × Int)} (hN : ReadsOf Value.string (⟨#[]⟩ : ByteArray) w NA NL.length NL) (hK : Ip.IsCode w KA CL) (hn : ∀ a, NA = some a → reg a.block = 1) (hk : ∀ a, KA = some a → reg a.block = 1) :
    EngC ((w.setCell ⟨v.eb, 6, none⟩ (.slice NA NL.length nC)).setCell ⟨v.eb, 7, none⟩ (.slice KA CL.length kC)) reg { v with NA := NA, KA := KA, nC := nC, kC := kC, NL := NL, CL := CL } := by
  have hc : Chg (fun k => k = v.eb) w ((w.setCell ⟨v.eb, 6, none⟩ (.slice NA NL.length nC)).setCell ⟨v.eb, 7, none⟩ (.slice KA CL.length kC)) := ((Chg.refl (fun k => k = v.eb) w).put v.eb 6 (.inl rfl) _).put v.eb 7 (.inl rfl) _
  have ne : ∀ k, reg k ≠ 5 → ¬ (k = v.eb) := fun k hk e => by subst e; exact hk h.le
  exact ⟨by simpa using (h.blk.set 6 (.slice NA NL.length nC)).set 7 (.slice KA CL.length kC), h.book.chg hc (fun k hk => ne k (by omega)) (fun k hk => ne k (by omega)) (fun k hk => ne k (by omega)) (ne _ (by rw [h.lbb]; decide)) (ne _ (by rw [h.lm]; decide)) (ne _ (by rw [h.lh]; decide)),
    h.tab.chg hc (fun k hk => ne k (by omega)), h.map.chg hc (ne _ (by rw [h.la]; decide)), h.cnt.chg hc (ne _ (by rw [h.lc]; decide)), h.win.chg hc (fun k hk => ne k (by omega)), hc.reads hN (fun a ha => ne _ (by rw [hn a ha]; decide)), isCode_chg hK hc (fun a ha => ne _ (by rw [hk a ha]; decide)),
    hn, hk, h.le, h.lbb, h.lm, h.lh, h.la, h.lc, fun k hk => Nat.lt_of_lt_of_le (h.lt k hk) hc.size⟩
set_option maxRecDepth 100000 in
set_option maxHeartbeats 4000000 in
theorem teach_any (reg : Nat → Nat) (eb : Nat) (E : Engn) (NA KA : Option Addr) (nC kC : Nat) (NL : List ByteArray) (CL : List (Int × Int)) (w : World) (h : EngAt w reg eb E) (hP : ProgOk NL CL) (hN : ReadsOf Value.string (⟨#[]⟩ : ByteArray) w NA NL.length NL) (hK : Ip.IsCode w KA CL) (hsN : ∀ a, NA = some a → a.spot = none) (hsK : ∀ a, KA = some a → a.spot = none) (hnN : ∀ a, NA = some a → reg a.block = 0) (hnK : ∀ a, KA = some a → reg a.block = 0)
    (hq : 9 * (E.q + 1) ≤ E.cnt ∧ E.q ≤ 5000) (hlen : (encChs [progCh NL CL]).length ≤ 2000) :
    Calls Tryz.prog 13 #[.pointer (some ⟨eb, 0, none⟩), .agg #[.slice NA NL.length nC, .slice KA CL.length kC]] w fun e w' => e = .returned (.int .i64 0) ∧ EngTo w reg eb { E with NL := NL, CL := CL, q := E.q + 1 } w' := by
  obtain ⟨ho, v, rfl, hC0, hL0⟩ := h
  have hnl := hP.nl
  have hcl := hP.cl
  obtain ⟨pb, hpb⟩ : ∃ b, b = w.heap.size := ⟨_, rfl⟩
  obtain ⟨W1, hW1⟩ : ∃ W, W = w.alloc (.cells #[.slice NA NL.length nC, .slice KA CL.length kC] 54) := ⟨_, rfl⟩
  have hb1 : Below w.heap.size w W1 := hW1 ▸ (Below.refl _ _).alloc (Nat.le_refl _) _
  have hp1 : Blk W1 pb #[.slice NA NL.length nC, .slice KA CL.length kC] 54 := hW1 ▸ Blk.newAt hpb
  have c9 : W1.cell? ⟨v.eb, 9, none⟩ = some (.bool false) := (hC0.below hb1).blk.cell 9
  have p0 : W1.cell? ⟨pb, 0, none⟩ = some (.slice NA NL.length nC) := hp1.cell 0
  have p1 : W1.cell? ⟨pb, 1, none⟩ = some (.slice KA CL.length kC) := hp1.cell 1
  have lp1 := hp1.lt
  have HEN := Lib.hid (codeenc NA KA nC kC NL CL hP W1 (hN.below hb1) (hK.below hb1))
  have HPO := Lib.hid (progCh_ok NL CL hP)
  have HO := Lib.hid ho
  have HC := Lib.hid hC0
  have HL := Lib.hid hL0
  have HN := Lib.hid hN
  have HK := Lib.hid hK
  have HSN := Lib.hid hsN
  have HSK := Lib.hid hsK
  have HNN := Lib.hid hnN
  have HNK := Lib.hid hnK
  have HLEN := Lib.hid hlen
  have HB1 := Lib.hid hb1
  have HP1 := Lib.hid hp1
  have HW1 := Lib.hid hW1
  have HPB := Lib.hid hpb
  clear ho hC0 hL0 hP hN hK hsN hsK hnN hnK hlen hb1 hp1 hW1 hpb
  go_enter Tryz.func13, Tryz.ntmps13
  go_upto_region 1 with fail
  rw [← HW1.out, ← HPB.out]
  go_wp2_with fail
  refine (gone_any v.eb W1 c9).mono ?_
  rintro e w2 ⟨rfl, rfl⟩
  clear c9
  go_wp2_with fail
  refine HEN.out.mono ?_
  rintro e w2 ⟨V, vc, rfl, hov, hb2⟩
  have hs1 := HB1.out.size
  have hs2 := hb2.size
  have hrv : ReadsOf (Value.int .u8) (0 : Int) w2 V (encProg NL CL).length (encProg NL CL) := by
    obtain ⟨A', c', he, hle, hr⟩ := own_reads_of_le (d := (0 : Int)) hov
    injection he with he1 he2 he3
    subst he1 he3
    exact hr
  obtain ⟨tb, htb⟩ : ∃ b, b = w2.heap.size := ⟨_, rfl⟩
  obtain ⟨W3, hW3⟩ : ∃ W, W = w2.alloc (.cells #[.string ⟨#[112]⟩, .slice V (encProg NL CL).length vc, .bool false] 136) := ⟨_, rfl⟩
  have hb3 : Below w2.heap.size w2 W3 := hW3 ▸ (Below.refl _ _).alloc (Nat.le_refl _) _
  have ht3 : Blk W3 tb #[.string ⟨#[112]⟩, .slice V (encProg NL CL).length vc, .bool false] 136 := hW3 ▸ Blk.newAt htb
  have hs3 := hb3.size
  have hbw3 : Below w.heap.size w W3 := (HB1.out.trans (hb2.mono hs1)).trans (hb3.mono (by omega))
  have hC3 := HC.out.below hbw3
  have hch : ChsAt W3 (fun j => w.heap.size ≤ j ∧ j < W3.heap.size) (some ⟨tb, 0, none⟩) [progCh NL CL] := fun _ => ⟨tb, 0, rfl, ⟨by omega, ht3.lt⟩, fun i c hi => by
    have hi0 : i = 0 := by
      rcases Nat.eq_zero_or_pos i with e | e
      · exact e
      · rw [List.getElem?_eq_none (by simp; omega)] at hi; cases hi
    subst hi0
    obtain rfl : progCh NL CL = c := by simpa using hi
    exact ⟨V, vc, ht3.cell 0, ht3.cell 1, ht3.cell 2, hrv.below hb3, fun a ha => ⟨⟨by have := own_base hov a.block (by rw [ha]; rfl); omega, by have := own_lt hov a.block (by rw [ha]; rfl); omega⟩, own_spot hov a ha⟩⟩⟩
  have hL := HL.out
  have hN' := hL.N
  have hbud := hL.bud
  have hcnt := hL.cnt
  have hpc := pieces_le HLEN.out
  have hfar : ∀ j, w.heap.size ≤ j → ¬ bookS (fun k => reg k = 2) (fun k => reg k = 3) v.bb v.mb v.hb j := fun j hj => HC.out.notbook j (by rw [HC.out.new hj]; decide)
  have HCM := Lib.hid (commit_any (fun j => w.heap.size ≤ j ∧ j < W3.heap.size) (fun k => reg k = 1) (fun k => reg k = 2) (fun k => reg k = 3) v.bb v.db v.sb v.lb v.pb v.tb v.mb v.hb v.N v.cnt v.used v.nu v.m v.n v.nc v.pend v.T (some ⟨tb, 0, none⟩) 1 [progCh NL CL]
    (fun c hc => by rw [List.mem_singleton.1 hc]; exact HPO.out) (by simp) (by simp) (by simp) W3 hch (fun j hj => ⟨hfar j hj.1, hj.2⟩) hC3.book hN'.1 hN'.2 (by omega) (by omega) (by omega) (by omega) (by omega) (by omega))
  have c0 : w2.cell? ⟨v.eb, 0, none⟩ = some (.pointer (some ⟨v.bb, 0, none⟩)) := (HC.out.below (HB1.out.trans (hb2.mono hs1))).blk.cell 0
  have hel := (HC.out.below (HB1.out.trans (hb2.mono hs1))).blk.lt
  have HC3 := Lib.hid hC3
  have HBW3 := Lib.hid hbw3
  have HP3 := Lib.hid ((HP1.out.below hb2).below hb3)
  have HFAR := Lib.hid hfar
  have HW3 := Lib.hid hW3
  have HTB := Lib.hid htb
  clear hov hb2 hrv htb hW3 hb3 ht3 hbw3 hC3 hch hL hN' hbud hcnt hpc hfar p0 p1
  go_wp2_with fail
  rw [← HW3.out, ← HTB.out]
  refine HCM.out.mono ?_
  rintro e w5 ⟨rfl, ⟨F', XL', XD', n', nc', hb5, hn', hnc', hF, hXL, hXD⟩, hc5⟩
  have hC5 := HC3.out.committed hb5 hF hXL hXD hc5
  obtain ⟨reg1, hreg1⟩ : ∃ r, r = laidR reg W3.heap.size F' XL' XD' := ⟨_, rfl⟩
  have hr1 : ∀ k, k < W3.heap.size → reg1 k = reg k := fun k hk => by rw [hreg1]; exact if_pos hk
  rw [← hreg1] at hC5
  have hp5 := hc5.blk HP3.out (HFAR.out pb (by have := HPB.out; omega))
  have q0 : w5.cell? ⟨pb, 0, none⟩ = some (.slice NA NL.length nC) := hp5.cell 0
  have q1 : w5.cell? ⟨pb, 1, none⟩ = some (.slice KA CL.length kC) := hp5.cell 1
  have lq := hp5.lt
  have hN5 := hc5.reads (HN.out.below HBW3.out) (fun a ha => HC.out.notbook _ (by rw [HNN.out a ha]; decide))
  have hK5 := isCode_chg (HK.out.below HBW3.out) hc5 (fun a ha => HC.out.notbook _ (by rw [HNK.out a ha]; decide))
  have HCP := Lib.hid (codecopy NA KA nC kC NL CL (by omega) (by omega) w5 hN5 hK5 HSN.out HSK.out)
  have HC5 := Lib.hid hC5
  have HR1 := Lib.hid hr1
  have HCH5 := Lib.hid hc5
  clear hb5 hF hXL hXD hc5 hC5 hreg1 hr1 hp5 hN5 hK5 c0
  go_wp2_with fail
  refine HCP.out.mono ?_
  rintro e w6 ⟨NA', nC', KA', kC', rfl, hN6, hK6, hnb, hkb, hb6⟩
  have hC6 := HC5.out.frozen hb6
  have hC7 := hC6.taught (nC := nC') (kC := kC') hN6 hK6 (fun a ha => grow_new (by have := (hnb a ha).1; omega) (hnb a ha).2) (fun a ha => grow_new (by have := (hkb a ha).1; omega) (hkb a ha).2)
  have u6 : w6.cell? ⟨v.eb, 6, none⟩ = _ := hC6.blk.cell 6
  have u7 : w6.cell? ⟨v.eb, 7, none⟩ = _ := hC6.blk.cell 7
  have f6 : w6.frozen? ⟨v.eb, 6, none⟩ = false := hC6.blk.free 6
  have f7 : w6.frozen? ⟨v.eb, 7, none⟩ = false := hC6.blk.free 7
  have l6 : v.eb < w6.heap.size := hC6.blk.lt
  have HC6 := Lib.hid hC6
  have HC7 := Lib.hid hC7
  have HB6 := Lib.hid hb6
  clear hN6 hK6 hnb hkb hC6 hC7 hb6
  go_wp2_with fail
  refine (end_ok v.eb _).mono ?_
  rintro e w8 ⟨rfl, rfl⟩
  go_wp2_with fail
  go_ret
  have hL := HL.out
  have e5 : reg v.eb = 5 := HC.out.le
  have hs5 := HCH5.out.size
  have hs6 := HB6.out.size
  have hsw := HBW3.out.size
  have hL7 : EngL ((w6.setCell ⟨v.eb, 6, none⟩ (.slice NA' NL.length nC')).setCell ⟨v.eb, 7, none⟩ (.slice KA' CL.length kC')) (grow reg1 w5.heap.size w6.heap.size 1) v E := by
    have h3 := hL.chg (Chg.of_below HBW3.out (fun _ => False)) (fun _ _ h => h)
    have h5 := (h3.chg HCH5.out (fun k hk => HC3.out.notbook k (by omega))).relab (reg' := reg1) (fun k hk => (HR1.out k (HC3.out.lt k (by omega))).trans hk)
    have h6 := (h5.chg (Chg.of_below HB6.out (fun _ => False)) (fun _ _ h => h)).relab (reg' := grow reg1 w5.heap.size w6.heap.size 1) (fun k hk => (grow_old (HC5.out.lt k (by omega))).trans hk)
    refine h6.chg (((Chg.refl (fun k => k = v.eb) w6).put v.eb 6 (.inl rfl) _).put v.eb 7 (.inl rfl) _) (fun k hk e => ?_)
    have h5 := HC6.out.le
    rw [e] at hk
    exact absurd (hk.symm.trans h5) (by decide)
  have hbud := hL.bud
  have hpc := pieces_le HLEN.out
  have hx : ∀ k, k < w.heap.size → grow reg1 w5.heap.size w6.heap.size 1 k = reg k := fun k hk => (grow_old (by omega)).trans (HR1.out k (by omega))
  refine ⟨rfl, ⟨_, ⟨⟨HO.out.act, HO.out.keys, HO.out.few, HO.out.room, HO.out.win⟩, _, ?_, HC7.out, ⟨hL.ls, hL.room, hL.win, hL.cnt, rfl, rfl, hL.db, hL.N, ?_, tabs_prog hL.tabs NL CL, hL7.acts⟩⟩, hx⟩, ?_⟩
  · rfl
  · refine ⟨?_, ?_, ?_, ?_, ?_, ?_, ?_⟩ <;> simp only <;> omega
  · refine ((((Chg.of_below HBW3.out (fun k => 2 ≤ reg k)).trans HCH5.out (fun k _ g => ?_)).then_below HB6.out).put v.eb 6 (.inl (by rw [e5]; decide)) _).put v.eb 7 (.inl (by rw [e5]; decide)) _
    by_cases h2 : 2 ≤ reg k
    · exact h2
    · exact absurd g (HC.out.notbook k (by omega))
end Go.Proofs.YtlcdjgpblpodaaaGreatDoor
namespace Go.Proofs.YtlcdjgpblpodaaaGreatDoor
open Go.RowKit Go.Maps Go.Proofs.YtlcdjgpblpodaaaGreatDoorW.PrintWords

theorem stop_ok : ProgOk [] [(21, 0)] := by
  refine ⟨by kernel_rfl, by simp, by simp, by simp, fun e he => ?_⟩
  rw [List.mem_singleton.1 he]
  simp [In64]
/-- A turn of the program that fails, as the turn's end has it. -/
theorem take_stop (NA KA : Option Addr) (nC kC : Nat) (X : Nat → Prop) (p jb ib ob pc : Nat) (PA : Option Addr) (XJ XI XO XP : Nat → Prop) (l : Let) (ls : List Let) (t : Nat) (ps : List Let) (W : World) (h : ActP true W X p (poiA (l :: ls) t ps) jb ib ob PA pc XJ XI XO XP) (ha : ActOk kA (poiA (l :: ls) t ps))
    (hN : ReadsOf Value.string (⟨#[]⟩ : ByteArray) W NA ([] : List ByteArray).length []) (hC : Ip.IsCode W KA [(21, 0)])
    (dn po : Bool) (f2 s2 f : Int) (a' : Actr) (hfail : ∀ W' : World, ActP true W' (fun j => X j ∧ j < W.heap.size) p (poiA (l :: ls) t ps) jb ib ob PA pc XJ XI XO XP → Calls Tryz.prog 109 #[.pointer (some ⟨p, 0, none⟩), .agg #[.bool false, .bool false, .int .i64 12, .int .i64 1, .slice none 0 0]] W' fun e w' => e = .returned (.tuple #[.agg #[.bool dn, .bool po, .int .i64 f2, .int .i64 s2, .slice none 0 0], .int .i64 f]) ∧ ActAt false w' (fun j => (X j ∧ j < W.heap.size) ∨ W'.heap.size ≤ j) p a' ∧ Chg (fun j => X j ∧ j < W.heap.size) W' w') :
    Calls Tryz.prog 48 #[.agg #[.slice NA ([] : List ByteArray).length nC, .slice KA ([(21, 0)] : List (Int × Int)).length kC], .pointer (some ⟨p, 0, none⟩), .int .i64 0] W fun e w' => e = .returned (.tuple #[.agg #[.bool dn, .bool po, .int .i64 f2, .int .i64 s2, .slice none 0 0], .int .i64 f]) ∧ ActAt false w' (fun j => X j ∨ W.heap.size ≤ j) p a' ∧ Chg X W w' := by
  have hlo := ha.1.inbox l (by simp [poiA])
  refine (take_fail NA KA nC kC [] [(21, 0)] X p jb ib ob pc PA XJ XI XO XP (poiA (l :: ls) t ps) kA l ls 12 1 (by decide) W h ha rfl hN hC (by simp) (by kernel_rfl) (fun W' A c hb hr => ?_) dn po f2 s2 f (fun W1 V => ActAt false V (fun j => (X j ∧ j < W.heap.size) ∨ W1.heap.size ≤ j) p a') hfail).mono ?_
  · have hrn := Ip.run_stop { nA := NA, nC := nC, NL := [], kA := KA, kC := kC, CL := [(21, 0)], frm := l.frm, serial := l.serial, kind := l.kind, aA := A, aC := c, AL := l.args, now := 0 } (fun _ => 0) W' ⟨hN.below hb, hr⟩ (hC.below hb) rfl rfl
      (by have h1 := hlo.frm; have h2 := hlo.args; simp [Ip.letterB, h1, h2]) (Int.le_refl 0)
    exact hrn.mono (fun e w' h => ⟨⟨0, 0, 0, 0, 0, 0, 0, 0, h.1⟩, h.2⟩)
  · rintro e w' ⟨rfl, W1, V, hb, hq, hc1, hc2⟩
    have hs := hb.size
    refine ⟨rfl, (hq.chg hc2 (fun j hj e => ?_)).mono (fun j hj => ?_), ((Chg.of_below hb X).trans hc1 (fun j _ e => e.1)).trans hc2 (fun j hj e => by omega)⟩
    · rcases hj with g | g
      · have := g.2; omega
      · omega
    · rcases hj with g | g
      · exact .inl g.1
      · exact .inr (by omega)
section
variable {reg : Nat → Nat} {eb : Nat} {E : Engn} {i q z : Nat} {l : Let} {ps : List Let} {w : World}
theorem poi_again (h : EngAt w reg eb E) (t : Nat) (ht : t + 1 < 3) (hF : PoiE E i q z [l] t ps) (h8 : ps.length ≤ 8) (hq : q ≤ 215) (hz : z ≤ 700000) :
    Calls Tryz.prog 10 #[.pointer (some ⟨eb, 0, none⟩), .string kA] w fun e w' => e = .returned (.tuple #[.agg #[.bool false, .bool false, .int .i64 12, .int .i64 1, .slice none 0 0], .int .i64 0]) ∧ ∃ E', EngTo w reg eb E' w' ∧ PoiE E' i (q + 1) (z + 3) [l] (t + 1) ps := by
  have hq' := hF.q
  have hz' := hF.z
  have hcn := hF.cnt
  have hok0 := poiA_ok [l] ps t hF.oks (by simp) hF.poks h8 (by omega) (.inr (by simp))
  have hok := poiA_ok [l] ps (t + 1) hF.oks (by simp) hF.poks h8 (by omega) (.inr (by simp))
  refine (pick_ok reg eb E kA false false 12 1 (poiA [l] (t + 1) ps) w h kA_ok hF.hls (fun W X p NA KA nC kC hact hN hC => ?_) hok (by omega) (by omega) (by rw [encChs_one]; have := poiA_len [l] ps (t + 1) hok; simp only [List.length_singleton] at this; omega)).mono ?_
  · rw [hF.act] at hact
    rw [hF.NL] at hN
    rw [hF.CL] at hC
    rw [hF.NL, hF.CL]
    obtain ⟨jb, ib, ob, PA, pc, XJ, XI, XO, XP, hP⟩ := hact
    exact take_stop NA KA nC kC X p jb ib ob pc PA XJ XI XO XP l [] t ps W hP hok0 hN hC false false 12 1 0 (poiA [l] (t + 1) ps) (fun W' hP' => (fail_again _ p jb ib ob pc (poiA [l] t ps) PA XJ XI XO XP 12 1 W' hP'.lt ht (fun k hk => hk.2)).mono (by
      rintro e w' ⟨rfl, h1, h2⟩
      refine ⟨rfl, (show ActAt true w' _ p _ from ⟨jb, ib, ob, PA, pc, XJ, XI, XO, XP, h1⟩).rd.mono (fun j hj => .inl hj.1), h2.mono (fun j _ e => by subst e; exact hP'.pin)⟩))
  · rintro e w' ⟨rfl, h2⟩
    exact ⟨rfl, _, h2, ⟨hF.room, hF.cnt, hF.NL, hF.CL, .inr rfl, upd_same E.act (poiA [l] (t + 1) ps), hF.oks, hF.poks, hF.win, by show E.q + 1 ≤ q + 1; omega, by show E.z + 3 ≤ z + 3; omega⟩⟩
theorem poi_poison (h : EngAt w reg eb E) (hF : PoiE E i q z [l] 2 ps) (h8 : ps.length < 8) (hq : q ≤ 215) (hz : z ≤ 700000) :
    Calls Tryz.prog 10 #[.pointer (some ⟨eb, 0, none⟩), .string kA] w fun e w' => e = .returned (.tuple #[.agg #[.bool false, .bool true, .int .i64 12, .int .i64 1, .slice none 0 0], .int .i64 0]) ∧ ∃ E', EngTo w reg eb E' w' ∧ PoiE E' i (q + 1) (z + 3) [] 0 (ps ++ [l]) := by
  have hq' := hF.q
  have hz' := hF.z
  have hcn := hF.cnt
  have hlo := hF.oks l (by simp)
  have hpo : ∀ x ∈ ps ++ [l], x.Ok := fun x hx => by
    rcases List.mem_append.1 hx with g | g
    · exact hF.poks x g
    · rw [List.mem_singleton.1 g]; exact hlo
  have hok0 := poiA_ok [l] ps 2 hF.oks (by simp) hF.poks (by omega) (by omega) (.inr (by simp))
  have hok := poiA_ok [] (ps ++ [l]) 0 (fun _ h => by cases h) (by simp) hpo (by simp; omega) (by omega) (.inl rfl)
  refine (pick_ok reg eb E kA false true 12 1 (poiA [] 0 (ps ++ [l])) w h kA_ok hF.hls (fun W X p NA KA nC kC hact hN hC => ?_) hok (by omega) (by omega) (by rw [encChs_one]; have := poiA_len [] (ps ++ [l]) 0 hok; simp only [List.length_nil, List.length_append, List.length_singleton] at this; omega)).mono ?_
  · rw [hF.act] at hact
    rw [hF.NL] at hN
    rw [hF.CL] at hC
    rw [hF.NL, hF.CL]
    obtain ⟨jb, ib, ob, PA, pc, XJ, XI, XO, XP, hP⟩ := hact
    exact take_stop NA KA nC kC X p jb ib ob pc PA XJ XI XO XP l [] 2 ps W hP hok0 hN hC false true 12 1 0 (poiA [] 0 (ps ++ [l])) (fun W' hP' => (fail_poison _ p jb ib ob pc (poiA [l] 2 ps) PA XJ XI XO XP l [] 12 1 W' hP'.lt rfl hlo.args (fun x hx => (hF.poks x hx).args) h8 rfl (fun k hk => hk.2)).mono (by
      rintro e w' ⟨rfl, h1, h2⟩
      exact ⟨rfl, h1.mono (fun j hj => hj.elim (fun g => .inl g.1) .inr), h2.mono (fun j _ e => e.1)⟩))
  · rintro e w' ⟨rfl, h2⟩
    exact ⟨rfl, _, h2, ⟨hF.room, hF.cnt, hF.NL, hF.CL, .inr rfl, upd_same E.act (poiA [] 0 (ps ++ [l])), (fun _ h => by cases h), hpo, hF.win, by show E.q + 1 ≤ q + 1; omega, by show E.z + 3 ≤ z + 3; omega⟩⟩
theorem poi_full (h : EngAt w reg eb E) (hF : PoiE E i q z [l] 2 ps) (h8 : ps.length = 8) (hz : z ≤ 700000) :
    Calls Tryz.prog 10 #[.pointer (some ⟨eb, 0, none⟩), .string kA] w fun e w' => e = .returned (.tuple #[.agg #[.bool false, .bool false, .int .i64 0, .int .i64 0, .slice none 0 0], .int .i64 8]) ∧ ∃ E', EngTo w reg eb E' w' ∧ PoiE E' i q (z + 3) [l] 2 ps := by
  have hz' := hF.z
  have hok0 := poiA_ok [l] ps 2 hF.oks (by simp) hF.poks (by omega) (by omega) (.inr (by simp))
  refine (pick_err reg eb E kA (poiA [l] 2 ps) w h kA_ok hF.hls (fun W X p NA KA nC kC hact hN hC => ?_) (by omega)).mono ?_
  · rw [hF.act] at hact
    rw [hF.NL] at hN
    rw [hF.CL] at hC
    rw [hF.NL, hF.CL]
    obtain ⟨jb, ib, ob, PA, pc, XJ, XI, XO, XP, hP⟩ := hact
    exact take_stop NA KA nC kC X p jb ib ob pc PA XJ XI XO XP l [] 2 ps W hP hok0 hN hC false false 0 0 8 (poiA [l] 2 ps) (fun W' hP' => (fail_full _ p jb ib ob pc (poiA [l] 2 ps) PA XJ XI XO XP 12 1 W' hP' h8 rfl).mono (by
      rintro e w' ⟨rfl, h1⟩
      exact ⟨rfl, (show ActAt true w' _ p _ from ⟨jb, ib, ob, PA, pc, XJ, XI, XO, XP, hP'.below h1⟩).rd.mono (fun j hj => .inl hj), Chg.of_below h1 _⟩))
  · rintro e w' ⟨rfl, h2⟩
    exact ⟨rfl, _, h2, ⟨hF.room, hF.cnt, hF.NL, hF.CL, .inr rfl, hF.act, hF.oks, hF.poks, hF.win, hF.q, by show E.z + 1 ≤ z + 3; omega⟩⟩
theorem poi_pardon (ls : List Let) (t : Nat) (h : EngAt w reg eb E) (hF : PoiE E i q z ls t ps) (hl8 : ls.length ≤ 8) (h8 : ps.length ≤ 8) (ht : t < 3) (ht0 : t = 0 ∨ ls ≠ []) (hl1 : ls.length ≤ 1) (hq : q ≤ 215) (hz : z ≤ 700000) :
    Calls Tryz.prog 16 #[.pointer (some ⟨eb, 0, none⟩), .string kA] w fun e w' => e = .returned (.tuple #[.int .i64 ps.length, .int .i64 0]) ∧ ∃ E', EngTo w reg eb E' w' ∧ PoiE E' i (q + 1) (z + 3) ls t [] := by
  have hq' := hF.q
  have hz' := hF.z
  have hcn := hF.cnt
  by_cases h0 : ps = []
  · subst h0
    refine (pardon_none reg eb E kA w h kA_ok hF.hls (by rw [hF.act]; rfl) (by omega)).mono ?_
    rintro e w' ⟨rfl, h2⟩
    exact ⟨rfl, _, h2, ⟨hF.room, hF.cnt, hF.NL, hF.CL, .inr rfl, hF.act, hF.oks, hF.poks, hF.win, by show E.q ≤ q + 1; omega, by show E.z + 1 ≤ z + 3; omega⟩⟩
  · have hok := poiA_ok ls [] t hF.oks hl8 (fun _ h => by cases h) (by simp) ht ht0
    refine (pardon_some reg eb E kA ps.length (poiA ls t []) w h kA_ok hF.hls (by rw [hF.act]; rfl) (fun e => h0 (List.eq_nil_of_length_eq_zero e)) (by rw [hF.act]; rfl) hok (by omega) (by omega) (by rw [encChs_one]; have := poiA_len ls [] t hok; simp only [List.length_nil] at this; omega)).mono ?_
    rintro e w' ⟨rfl, h2⟩
    exact ⟨rfl, _, h2, ⟨hF.room, hF.cnt, hF.NL, hF.CL, .inr rfl, upd_same E.act (poiA ls t []), hF.oks, (fun _ h => by cases h), hF.win, by show E.q + 1 ≤ q + 1; omega, by show E.z + 3 ≤ z + 3; omega⟩⟩
end
theorem poi_teach (reg : Nat → Nat) (eb db kb off : Nat) (w : World) (h : EngAt w reg eb (engn0 1 2000 db)) (hc0 : w.cell? ⟨kb, off, none⟩ = some (.int .i64 21)) (hc1 : w.cell? ⟨kb, off + 1, none⟩ = some (.int .i64 0)) (hn : reg kb = 0) (kC : Nat) :
    Calls Tryz.prog 13 #[.pointer (some ⟨eb, 0, none⟩), .agg #[.slice none 0 0, .slice (some ⟨kb, off, none⟩) 1 kC]] w fun e w' => e = .returned (.int .i64 0) ∧ ∃ E', EngTo w reg eb E' w' ∧ PoiE E' 0 1 0 [] 0 [] := by
  refine (teach_any reg eb (engn0 1 2000 db) none (some ⟨kb, off, none⟩) 0 kC [] [(21, 0)] w h stop_ok (ReadsOf.nil _ _ _) (fun _ => ⟨kb, off, rfl, fun j hj => ?_⟩) (fun a e => by cases e) (fun a e => by injection e with e; rw [← e]) (fun a e => by cases e) (fun a e => by injection e with e; rw [← e]; exact hn) ⟨by show 9 * (0 + 1) ≤ 2000; omega, by show 0 ≤ 5000; omega⟩ ?_).mono ?_
  · have : j = 0 := by simpa using hj
    subst this
    exact ⟨by simpa using hc0, by simpa using hc1⟩
  · have h1 := (encChn_length _ (progCh_ok [] [(21, 0)] stop_ok)).2
    have h2 := encProg_length [] [(21, 0)] stop_ok
    have e1 : (progCh [] [(21, 0)]).key.size = 1 := rfl
    have e2 : (progCh [] [(21, 0)]).val.length = (encProg [] [(21, 0)]).length := rfl
    simp only [List.length_nil, List.length_singleton] at h2
    rw [encChs_one]
    omega
  · rintro e w' ⟨rfl, h2⟩
    exact ⟨rfl, _, h2, ⟨rfl, rfl, rfl, rfl, .inl rfl, rfl, (fun _ h => by cases h), (fun _ h => by cases h), (fun _ h => by cases h), Nat.le_refl _, Nat.le_refl _⟩⟩
end Go.Proofs.YtlcdjgpblpodaaaGreatDoor
namespace Go.Proofs.YtlcdjgpblpodaaaGreatDoor
open Go.RowKit Go.Maps Go.Proofs.YtlcdjgpblpodaaaGreatDoorW.PrintWords

/-- Two letters that say nothing but their kind. -/
theorem sameints0 (A : Option Addr) (c : Nat) (w : World) : Calls Tryz.prog 56 #[.slice A 0 c, .slice none 0 0] w fun e w' => e = .returned (.bool true) ∧ w = w' := by
  go_enter Tryz.func56, Tryz.ntmps56
  go_wp2_with fail
  refine wp_loop_rounds 1 ?_
  rw [rounds_succ]
  go_wp2_with fail
  go_ret
  exact ⟨rfl, rfl⟩
theorem same_any (s kd : Int) (A : Option Addr) (c : Nat) (w : World) :
    Calls Tryz.prog 17 #[.agg #[.string ⟨#[]⟩, .int .u64 s, .int .i64 kd, .slice A 0 c], .agg #[.string ⟨#[]⟩, .int .u64 s, .int .i64 kd, .slice none 0 0]] w fun e w' => e = .returned (.bool true) ∧ Below w.heap.size w w' := by
  obtain ⟨xb, hxb⟩ : ∃ b, b = w.heap.size := ⟨_, rfl⟩
  obtain ⟨yb, hyb⟩ : ∃ b, b = w.heap.size + 1 := ⟨_, rfl⟩
  obtain ⟨W2, hW2⟩ : ∃ W, W = (w.alloc (.cells #[.string ⟨#[]⟩, .int .u64 s, .int .i64 kd, .slice A 0 c] 65)).alloc (.cells #[.string ⟨#[]⟩, .int .u64 s, .int .i64 kd, .slice none 0 0] 65) := ⟨_, rfl⟩
  have hb2 : Below w.heap.size w W2 := hW2 ▸ ((Below.refl _ _).alloc (Nat.le_refl _) _).alloc (by simp) _
  have hx2 : Blk W2 xb #[.string ⟨#[]⟩, .int .u64 s, .int .i64 kd, .slice A 0 c] 65 := hW2 ▸ (Blk.newAt hxb).alloc _
  have hy2 : Blk W2 yb #[.string ⟨#[]⟩, .int .u64 s, .int .i64 kd, .slice none 0 0] 65 := hW2 ▸ Blk.newAt (by rw [hyb]; simp)
  have ux : ∀ i, W2.cell? ⟨xb, i, none⟩ = _ := fun i => hx2.cell i
  have uy : ∀ i, W2.cell? ⟨yb, i, none⟩ = _ := fun i => hy2.cell i
  have lx := hx2.lt
  have ly := hy2.lt
  have HW2 := Lib.hid hW2
  have HXB := Lib.hid hxb
  have HYB := Lib.hid hyb
  have HB2 := Lib.hid hb2
  clear hW2 hxb hyb hx2 hy2 hb2
  go_enter Tryz.func17, Tryz.ntmps17
  go_upto_region 1 with fail
  rw [show w.heap.size + 1 = yb from HYB.out.symm, ← HXB.out, ← HW2.out]
  go_wp2_with fail
  refine (sameints0 A c W2).mono ?_
  rintro e w3 ⟨rfl, rfl⟩
  go_wp2_with fail
  go_ret
  exact ⟨rfl, HB2.out⟩
/-- A third pick: poison, or no room for it. -/
theorem poi_third (reg : Nat → Nat) (eb : Nat) (E : Engn) (i q z : Nat) (l : Let) (ps : List Let) (w : World) (h : EngAt w reg eb E) (hF : PoiE E i q z [l] 2 ps) (h8 : ps.length ≤ 8) (hq : q ≤ 215) (hz : z ≤ 700000) :
    Calls Tryz.prog 10 #[.pointer (some ⟨eb, 0, none⟩), .string kA] w fun e w' => ∃ (po : Bool) (f2 s2 g : Int) (E' : Engn), e = .returned (.tuple #[.agg #[.bool false, .bool po, .int .i64 f2, .int .i64 s2, .slice none 0 0], .int .i64 g]) ∧ EngTo w reg eb E' w' ∧
      ((ps.length < 8 ∧ po = true ∧ g = 0 ∧ PoiE E' i (q + 1) (z + 3) [] 0 (ps ++ [l])) ∨ (ps.length = 8 ∧ g = 8 ∧ PoiE E' i (q + 1) (z + 3) [l] 2 ps)) := by
  by_cases h : ps.length < 8
  · refine (poi_poison ‹_› hF h hq hz).mono ?_
    rintro e w' ⟨rfl, E', h1, h2⟩
    exact ⟨true, 12, 1, 0, E', rfl, h1, .inl ⟨h, rfl, rfl, h2⟩⟩
  · refine (poi_full ‹_› hF (by omega) hz).mono ?_
    rintro e w' ⟨rfl, E', h1, h2⟩
    exact ⟨false, 0, 0, 8, E', rfl, h1, .inr ⟨by omega, rfl, h2.mono (by omega) (Nat.le_refl _)⟩⟩
/-- What the law's loop keeps: the engine, and the row of the kinds that are poison. -/
structure PoiS (w5 : World) (reg : Nat → Nat) (eb : Nat) (wr : World) (reg1 : Nat → Nat) (E : Engn) (i q z : Nat) (ls : List Let) (t : Nat) (ps : List Let) (P : Option Addr) (c : Nat) (xs : List Int) : Prop where
  at_ : EngAt wr reg1 eb E
  rx : ∀ k, k < w5.heap.size → reg1 k = reg k
  ch : Chg (fun k => 2 ≤ reg k) w5 wr
  F : PoiE E i q z ls t ps
  row : wr.ownsRow w5.heap.size 2 1 (.slice P xs.length c) xs.length (encs (Value.int .i64) xs)
  own : ∀ b, (Value.slice P xs.length c).ownBlock = some b → reg1 b = 0
section
variable {w5 wr w' : World} {reg reg1 : Nat → Nat} {eb i q z t c : Nat} {E : Engn} {ls ps : List Let} {P : Option Addr} {xs : List Int}
theorem PoiS.step (h : PoiS w5 reg eb wr reg1 E i q z ls t ps P c xs) {E' : Engn} {i' q' z' t' : Nat} {ls' ps' : List Let} (hto : EngTo wr reg1 eb E' w') (hF : PoiE E' i' q' z' ls' t' ps') : ∃ reg2, PoiS w5 reg eb w' reg2 E' i' q' z' ls' t' ps' P c xs := by
  obtain ⟨⟨reg2, hE, hx⟩, hc⟩ := hto
  have hs := h.ch.size
  exact ⟨reg2, hE, fun k hk => (hx k (by omega)).trans (h.rx k hk), h.ch.trans hc (fun k hk e => by rw [h.rx k hk] at e; exact e), hF, hc.owns h.row (fun k hk e => by rw [h.own k hk] at e; exact absurd e (by decide)), fun b hb => (hx b (own_lt h.row b hb)).trans (h.own b hb)⟩
theorem PoiS.below (h : PoiS w5 reg eb wr reg1 E i q z ls t ps P c xs) (hb : Below wr.heap.size wr w') : PoiS w5 reg eb w' reg1 E i q z ls t ps P c xs :=
  ⟨h.at_.below hb, h.rx, h.ch.then_below hb, h.F, own_below h.row hb, h.own⟩
theorem PoiS.clear (h : PoiS w5 reg eb wr reg1 E i q z ls t ps P c xs) : PoiS w5 reg eb wr reg1 E i q z ls t ps none 0 [] :=
  ⟨h.at_, h.rx, h.ch, h.F, own_nil _ _ _ _, fun _ e => by cases e⟩
theorem PoiS.more (h : PoiS w5 reg eb wr reg1 E i q z ls t ps P c xs) {q' z' : Nat} (hq : q ≤ q') (hz : z ≤ z') : PoiS w5 reg eb wr reg1 E i q' z' ls t ps P c xs :=
  ⟨h.at_, h.rx, h.ch, h.F.mono hq hz, h.row, h.own⟩
theorem PoiS.push (h : PoiS w5 reg eb wr reg1 E i q z ls t ps P c xs) {box : Obj} {g cap : Nat} {x : Int} {w6 : World} (hg : (wr.alloc box).grownBy w6 (Value.slice P xs.length c).ownBlock) (hat : (Value.slice P xs.length c).ownBlock = some g ∨ g = wr.heap.size + 1)
    (ho : w6.ownsRow w5.heap.size 2 1 (.slice (some ⟨g, 0, none⟩) (xs.length + 1) cap) (xs.length + 1) (encs (Value.int .i64) xs ++ [.int .i64 x])) : PoiS w5 reg eb w6 reg1 E i q z ls t ps (some ⟨g, 0, none⟩) cap (xs ++ [x]) := by
  have hc6 : Chg (fun k => (Value.slice P xs.length c).ownBlock = some k) wr w6 := ((Chg.refl _ wr).alloc box).grown hg (fun k hk => .inl hk)
  refine ⟨h.at_.chg hc6 (fun k hk e => hk (h.own k e)), h.rx, h.ch.trans hc6 (fun k hk e => by have := own_base h.row k e; omega), h.F, ?_, fun b hb => ?_⟩
  · rw [List.length_append, show encs (Value.int .i64) (xs ++ [x]) = encs (Value.int .i64) xs ++ [.int .i64 x] by simp [encs]]
    exact ho
  · have e2 : g = b := by injection hb
    subst e2
    rcases hat with e | e
    · exact h.own _ e
    · exact h.at_.new (by omega)
end
/-- The letters that are poison say the kinds of the row. -/
def PRel (ps : List Let) (xs : List Int) : Prop := ps.length = xs.length ∧ ∀ (m : Nat) (l : Let), ps[m]? = some l → l.frm = ⟨#[]⟩ ∧ l.args = [] ∧ xs[m]? = some l.kind
theorem PRel.nil : PRel [] [] := ⟨rfl, fun m l h => by simp at h⟩
theorem PRel.snoc {ps : List Let} {xs : List Int} (h : PRel ps xs) (i : Nat) (x : Int) : PRel (ps ++ [offL i x []]) (xs ++ [x]) := by
  refine ⟨by simp [h.1], fun m l hl => ?_⟩
  by_cases hm : m < ps.length
  · rw [List.getElem?_append_left hm] at hl
    rw [List.getElem?_append_left (by rw [← h.1]; exact hm)]
    exact h.2 m l hl
  · rw [List.getElem?_append_right (by omega)] at hl
    have hm0 : m = ps.length := by
      rcases Nat.lt_or_ge 0 (m - ps.length) with g | g
      · rw [List.getElem?_eq_none (by simp; omega)] at hl; cases hl
      · omega
    subst hm0
    simp at hl
    subst hl
    exact ⟨rfl, rfl, by rw [h.1]; simp [offL]⟩
end Go.Proofs.YtlcdjgpblpodaaaGreatDoor

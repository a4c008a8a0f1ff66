/- Teach, ChnW, ChnX -/
import Derived.Test.YtlcdjgpblpodaaaGreatDoorMBF
import Derived.Test.YtlcdjgpblpodaaaGreatDoorMBU
import Derived.Test.YtlcdjgpblpodaaaGreatDoorMBT
import Derived.Test.YtlcdjgpblpodaaaGreatDoorMBK
namespace Go.Proofs.YtlcdjgpblpodaaaGreatDoor
open Go.RowKit Go.Maps Go.Proofs.YtlcdjgpblpodaaaGreatDoorW.PrintWords

/-- The program's change. -/
def progCh (NL : List ByteArray) (CL : List (Int × Int)) : Chn := ⟨⟨#[112]⟩, encProg NL CL, false⟩
theorem progCh_ok (NL : List ByteArray) (CL : List (Int × Int)) (h : ProgOk NL CL) : (progCh NL CL).Ok := by
  have h1 := encProg_length NL CL h
  have h2 := h.nl
  have h3 := h.cl
  refine ⟨by show 1 ≤ 1 ∧ 1 ≤ 64; omega, encProg_bytes NL CL h, by show (encProg NL CL).length ≤ 8000; omega, ?_⟩
  show 1 ≤ (encProg NL CL).length
  have := (encNum_length NL.length (by omega)).1
  unfold encProg
  simp only [List.length_append]
  omega
theorem tabs_prog {T : ByteArray → Option (List Int)} {act : ByteArray → Actr} (h : TabsOk T act) (NL : List ByteArray) (CL : List (Int × Int)) : TabsOk (layT T [progCh NL CL]) act := fun k hk => by
  have : layT T [progCh NL CL] (akey k) = T (akey k) := setT_other T _ (akey_ne k 112 (by decide))
  rw [this]; exact h k hk
theorem EngC.taught {w : World} {reg : Nat → Nat} {v : EngV} (h : EngC w reg v) {NA KA : Option Addr} {nC kC : Nat} {NL : List ByteArray} {CL : List (Int × Int)} (hN : ReadsOf Value.string (⟨#[]⟩ : ByteArray) w NA NL.length NL) (hK : Ip.IsCode w KA CL) (hn : ∀ a, NA = some a → reg a.block = 1) (hk : ∀ a, KA = some a → reg a.block = 1) :
    EngC ((w.setCell ⟨v.eb, 6, none⟩ (.slice NA NL.length nC)).setCell ⟨v.eb, 7, none⟩ (.slice KA CL.length kC)) reg { v with NA := NA, KA := KA, nC := nC, kC := kC, NL := NL, CL := CL } := by
  have hc : Chg (fun k => k = v.eb) w ((w.setCell ⟨v.eb, 6, none⟩ (.slice NA NL.length nC)).setCell ⟨v.eb, 7, none⟩ (.slice KA CL.length kC)) := ((Chg.refl (fun k => k = v.eb) w).put v.eb 6 (.inl rfl) _).put v.eb 7 (.inl rfl) _
  have ne : ∀ k, reg k ≠ 5 → ¬ (k = v.eb) := fun k hk e => by subst e; exact hk h.le
  exact ⟨by simpa using (h.blk.set 6 (.slice NA NL.length nC)).set 7 (.slice KA CL.length kC), h.book.chg hc (fun k hk => ne k (by omega)) (fun k hk => ne k (by omega)) (fun k hk => ne k (by omega)) (ne _ (by rw [h.lbb]; decide)) (ne _ (by rw [h.lm]; decide)) (ne _ (by rw [h.lh]; decide)),
    h.tab.chg hc (fun k hk => ne k (by omega)), h.map.chg hc (ne _ (by rw [h.la]; decide)), h.cnt.chg hc (ne _ (by rw [h.lc]; decide)), h.win.chg hc (fun k hk => ne k (by omega)), hc.reads hN (fun a ha => ne _ (by rw [hn a ha]; decide)), isCode_chg hK hc (fun a ha => ne _ (by rw [hk a ha]; decide)),
    hn, hk, h.le, h.lbb, h.lm, h.lh, h.la, h.lc, fun k hk => Nat.lt_of_lt_of_le (h.lt k hk) hc.size⟩
set_option maxRecDepth 100000 in
set_option maxHeartbeats 4000000 in
theorem teach_any (reg : Nat → Nat) (eb : Nat) (E : Engn) (NA KA : Option Addr) (nC kC : Nat) (NL : List ByteArray) (CL : List (Int × Int)) (w : World) (h : EngAt w reg eb E) (hP : ProgOk NL CL) (hN : ReadsOf Value.string (⟨#[]⟩ : ByteArray) w NA NL.length NL) (hK : Ip.IsCode w KA CL) (hsN : ∀ a, NA = some a → a.spot = none) (hsK : ∀ a, KA = some a → a.spot = none) (hnN : ∀ a, NA = some a → reg a.block = 0) (hnK : ∀ a, KA = some a → reg a.block = 0)
    (hq : 9 * (E.q + 1) ≤ E.cnt ∧ E.q ≤ 5000) (hlen : (encChs [progCh NL CL]).length ≤ 2000) :
    Calls Tryz.prog 13 #[.pointer (some ⟨eb, 0, none⟩), .agg #[.slice NA NL.length nC, .slice KA CL.length kC]] w fun e w' => e = .returned (.int .i64 0) ∧ EngTo w reg eb { E with NL := NL, CL := CL, q := E.q + 1 } w' := by
  obtain ⟨ho, v, rfl, hC0, hL0⟩ := h
  have hnl := hP.nl
  have hcl := hP.cl
  obtain ⟨pb, hpb⟩ : ∃ b, b = w.heap.size := ⟨_, rfl⟩
  obtain ⟨W1, hW1⟩ : ∃ W, W = w.alloc (.cells #[.slice NA NL.length nC, .slice KA CL.length kC] 54) := ⟨_, rfl⟩
  have hb1 : Below w.heap.size w W1 := hW1 ▸ (Below.refl _ _).alloc (Nat.le_refl _) _
  have hp1 : Blk W1 pb #[.slice NA NL.length nC, .slice KA CL.length kC] 54 := hW1 ▸ Blk.newAt hpb
  have c9 : W1.cell? ⟨v.eb, 9, none⟩ = some (.bool false) := (hC0.below hb1).blk.cell 9
  have p0 : W1.cell? ⟨pb, 0, none⟩ = some (.slice NA NL.length nC) := hp1.cell 0
  have p1 : W1.cell? ⟨pb, 1, none⟩ = some (.slice KA CL.length kC) := hp1.cell 1
  have lp1 := hp1.lt
  have HEN := Lib.hid (codeenc NA KA nC kC NL CL hP W1 (hN.below hb1) (hK.below hb1))
  have HPO := Lib.hid (progCh_ok NL CL hP)
  have HO := Lib.hid ho
  have HC := Lib.hid hC0
  have HL := Lib.hid hL0
  have HN := Lib.hid hN
  have HK := Lib.hid hK
  have HSN := Lib.hid hsN
  have HSK := Lib.hid hsK
  have HNN := Lib.hid hnN
  have HNK := Lib.hid hnK
  have HLEN := Lib.hid hlen
  have HB1 := Lib.hid hb1
  have HP1 := Lib.hid hp1
  have HW1 := Lib.hid hW1
  have HPB := Lib.hid hpb
  clear ho hC0 hL0 hP hN hK hsN hsK hnN hnK hlen hb1 hp1 hW1 hpb
  go_enter Tryz.func13, Tryz.ntmps13
  go_upto_region 1 with fail
  rw [← HW1.out, ← HPB.out]
  go_wp2_with fail
  refine (gone_any v.eb W1 c9).mono ?_
  rintro e w2 ⟨rfl, rfl⟩
  clear c9
  go_wp2_with fail
  refine HEN.out.mono ?_
  rintro e w2 ⟨V, vc, rfl, hov, hb2⟩
  have hs1 := HB1.out.size
  have hs2 := hb2.size
  have hrv : ReadsOf (Value.int .u8) (0 : Int) w2 V (encProg NL CL).length (encProg NL CL) := by
    obtain ⟨A', c', he, hle, hr⟩ := own_reads_of_le (d := (0 : Int)) hov
    injection he with he1 he2 he3
    subst he1 he3
    exact hr
  obtain ⟨tb, htb⟩ : ∃ b, b = w2.heap.size := ⟨_, rfl⟩
  obtain ⟨W3, hW3⟩ : ∃ W, W = w2.alloc (.cells #[.string ⟨#[112]⟩, .slice V (encProg NL CL).length vc, .bool false] 136) := ⟨_, rfl⟩
  have hb3 : Below w2.heap.size w2 W3 := hW3 ▸ (Below.refl _ _).alloc (Nat.le_refl _) _
  have ht3 : Blk W3 tb #[.string ⟨#[112]⟩, .slice V (encProg NL CL).length vc, .bool false] 136 := hW3 ▸ Blk.newAt htb
  have hs3 := hb3.size
  have hbw3 : Below w.heap.size w W3 := (HB1.out.trans (hb2.mono hs1)).trans (hb3.mono (by omega))
  have hC3 := HC.out.below hbw3
  have hch : ChsAt W3 (fun j => w.heap.size ≤ j ∧ j < W3.heap.size) (some ⟨tb, 0, none⟩) [progCh NL CL] := fun _ => ⟨tb, 0, rfl, ⟨by omega, ht3.lt⟩, fun i c hi => by
    have hi0 : i = 0 := by
      rcases Nat.eq_zero_or_pos i with e | e
      · exact e
      · rw [List.getElem?_eq_none (by simp; omega)] at hi; cases hi
    subst hi0
    obtain rfl : progCh NL CL = c := by simpa using hi
    exact ⟨V, vc, ht3.cell 0, ht3.cell 1, ht3.cell 2, hrv.below hb3, fun a ha => ⟨⟨by have := own_base hov a.block (by rw [ha]; rfl); omega, by have := own_lt hov a.block (by rw [ha]; rfl); omega⟩, own_spot hov a ha⟩⟩⟩
  have hL := HL.out
  have hN' := hL.N
  have hbud := hL.bud
  have hcnt := hL.cnt
  have hpc := pieces_le HLEN.out
  have hfar : ∀ j, w.heap.size ≤ j → ¬ bookS (fun k => reg k = 2) (fun k => reg k = 3) v.bb v.mb v.hb j := fun j hj => HC.out.notbook j (by rw [HC.out.new hj]; decide)
  have HCM := Lib.hid (commit_any (fun j => w.heap.size ≤ j ∧ j < W3.heap.size) (fun k => reg k = 1) (fun k => reg k = 2) (fun k => reg k = 3) v.bb v.db v.sb v.lb v.pb v.tb v.mb v.hb v.N v.cnt v.used v.nu v.m v.n v.nc v.pend v.T (some ⟨tb, 0, none⟩) 1 [progCh NL CL]
    (fun c hc => by rw [List.mem_singleton.1 hc]; exact HPO.out) (by simp) (by simp) (by simp) W3 hch (fun j hj => ⟨hfar j hj.1, hj.2⟩) hC3.book hN'.1 hN'.2 (by omega) (by omega) (by omega) (by omega) (by omega) (by omega))
  have c0 : w2.cell? ⟨v.eb, 0, none⟩ = some (.pointer (some ⟨v.bb, 0, none⟩)) := (HC.out.below (HB1.out.trans (hb2.mono hs1))).blk.cell 0
  have hel := (HC.out.below (HB1.out.trans (hb2.mono hs1))).blk.lt
  have HC3 := Lib.hid hC3
  have HBW3 := Lib.hid hbw3
  have HP3 := Lib.hid ((HP1.out.below hb2).below hb3)
  have HFAR := Lib.hid hfar
  have HW3 := Lib.hid hW3
  have HTB := Lib.hid htb
  clear hov hb2 hrv htb hW3 hb3 ht3 hbw3 hC3 hch hL hN' hbud hcnt hpc hfar p0 p1
  go_wp2_with fail
  rw [← HW3.out, ← HTB.out]
  refine HCM.out.mono ?_
  rintro e w5 ⟨rfl, ⟨F', XL', XD', n', nc', hb5, hn', hnc', hF, hXL, hXD⟩, hc5⟩
  have hC5 := HC3.out.committed hb5 hF hXL hXD hc5
  obtain ⟨reg1, hreg1⟩ : ∃ r, r = laidR reg W3.heap.size F' XL' XD' := ⟨_, rfl⟩
  have hr1 : ∀ k, k < W3.heap.size → reg1 k = reg k := fun k hk => by rw [hreg1]; exact if_pos hk
  rw [← hreg1] at hC5
  have hp5 := hc5.blk HP3.out (HFAR.out pb (by have := HPB.out; omega))
  have q0 : w5.cell? ⟨pb, 0, none⟩ = some (.slice NA NL.length nC) := hp5.cell 0
  have q1 : w5.cell? ⟨pb, 1, none⟩ = some (.slice KA CL.length kC) := hp5.cell 1
  have lq := hp5.lt
  have hN5 := hc5.reads (HN.out.below HBW3.out) (fun a ha => HC.out.notbook _ (by rw [HNN.out a ha]; decide))
  have hK5 := isCode_chg (HK.out.below HBW3.out) hc5 (fun a ha => HC.out.notbook _ (by rw [HNK.out a ha]; decide))
  have HCP := Lib.hid (codecopy NA KA nC kC NL CL (by omega) (by omega) w5 hN5 hK5 HSN.out HSK.out)
  have HC5 := Lib.hid hC5
  have HR1 := Lib.hid hr1
  have HCH5 := Lib.hid hc5
  clear hb5 hF hXL hXD hc5 hC5 hreg1 hr1 hp5 hN5 hK5 c0
  go_wp2_with fail
  refine HCP.out.mono ?_
  rintro e w6 ⟨NA', nC', KA', kC', rfl, hN6, hK6, hnb, hkb, hb6⟩
  have hC6 := HC5.out.frozen hb6
  have hC7 := hC6.taught (nC := nC') (kC := kC') hN6 hK6 (fun a ha => grow_new (by have := (hnb a ha).1; omega) (hnb a ha).2) (fun a ha => grow_new (by have := (hkb a ha).1; omega) (hkb a ha).2)
  have u6 : w6.cell? ⟨v.eb, 6, none⟩ = _ := hC6.blk.cell 6
  have u7 : w6.cell? ⟨v.eb, 7, none⟩ = _ := hC6.blk.cell 7
  have f6 : w6.frozen? ⟨v.eb, 6, none⟩ = false := hC6.blk.free 6
  have f7 : w6.frozen? ⟨v.eb, 7, none⟩ = false := hC6.blk.free 7
  have l6 : v.eb < w6.heap.size := hC6.blk.lt
  have HC6 := Lib.hid hC6
  have HC7 := Lib.hid hC7
  have HB6 := Lib.hid hb6
  clear hN6 hK6 hnb hkb hC6 hC7 hb6
  go_wp2_with fail
  refine (end_ok v.eb _).mono ?_
  rintro e w8 ⟨rfl, rfl⟩
  go_wp2_with fail
  go_ret
  have hL := HL.out
  have e5 : reg v.eb = 5 := HC.out.le
  have hs5 := HCH5.out.size
  have hs6 := HB6.out.size
  have hsw := HBW3.out.size
  have hL7 : EngL ((w6.setCell ⟨v.eb, 6, none⟩ (.slice NA' NL.length nC')).setCell ⟨v.eb, 7, none⟩ (.slice KA' CL.length kC')) (grow reg1 w5.heap.size w6.heap.size 1) v E := by
    have h3 := hL.chg (Chg.of_below HBW3.out (fun _ => False)) (fun _ _ h => h)
    have h5 := (h3.chg HCH5.out (fun k hk => HC3.out.notbook k (by omega))).relab (reg' := reg1) (fun k hk => (HR1.out k (HC3.out.lt k (by omega))).trans hk)
    have h6 := (h5.chg (Chg.of_below HB6.out (fun _ => False)) (fun _ _ h => h)).relab (reg' := grow reg1 w5.heap.size w6.heap.size 1) (fun k hk => (grow_old (HC5.out.lt k (by omega))).trans hk)
    refine h6.chg (((Chg.refl (fun k => k = v.eb) w6).put v.eb 6 (.inl rfl) _).put v.eb 7 (.inl rfl) _) (fun k hk e => ?_)
    have h5 := HC6.out.le
    rw [e] at hk
    exact absurd (hk.symm.trans h5) (by decide)
  have hbud := hL.bud
  have hpc := pieces_le HLEN.out
  have hx : ∀ k, k < w.heap.size → grow reg1 w5.heap.size w6.heap.size 1 k = reg k := fun k hk => (grow_old (by omega)).trans (HR1.out k (by omega))
  refine ⟨rfl, ⟨_, ⟨⟨HO.out.act, HO.out.keys, HO.out.few, HO.out.room, HO.out.win⟩, _, ?_, HC7.out, ⟨hL.ls, hL.room, hL.win, hL.cnt, rfl, rfl, hL.db, hL.N, ?_, tabs_prog hL.tabs NL CL, hL7.acts⟩⟩, hx⟩, ?_⟩
  · rfl
  · refine ⟨?_, ?_, ?_, ?_, ?_, ?_, ?_⟩ <;> simp only <;> omega
  · refine ((((Chg.of_below HBW3.out (fun k => 2 ≤ reg k)).trans HCH5.out (fun k _ g => ?_)).then_below HB6.out).put v.eb 6 (.inl (by rw [e5]; decide)) _).put v.eb 7 (.inl (by rw [e5]; decide)) _
    by_cases h2 : 2 ≤ reg k
    · exact h2
    · exact absurd g (HC.out.notbook k (by omega))
end Go.Proofs.YtlcdjgpblpodaaaGreatDoor
namespace Go.Proofs.YtlcdjgpblpodaaaGreatDoor
open Go.RowKit Go.Maps Go.Proofs.YtlcdjgpblpodaaaGreatDoorW.PrintWords

set_option maxRecDepth 100000 in
/-- An actor that is asked for lies in memory of its own. -/
theorem actor_new (reg : Nat → Nat) (eb : Nat) (E : Engn) (k : ByteArray) (w : World) (h : EngAt w reg eb E) (hk : KeyOk k) (hls : E.ls = [] ∨ E.ls = [k] ∨ ∃ j, E.ls = [j] ∧ j ≠ k ∧ E.room = 1) (hz : E.z ≤ 900000) :
    Calls Tryz.prog 11 #[.pointer (some ⟨eb, 0, none⟩), .string k] w fun e w' => ∃ q reg', e = .returned (.tuple #[.pointer (some ⟨q, 0, none⟩), .int .i64 0]) ∧ EngAt w' reg' eb { E with ls := [k], z := E.z + 1 } ∧ (∀ j, j < w.heap.size → reg' j = reg j) ∧ Chg (fun j => 2 ≤ reg j) w w' ∧ ActAt true w' (fun j => w.heap.size ≤ j ∧ reg' j = 0) q (E.act k) := by
  have HK := Lib.hid hk
  have HLD := Lib.hid (load_any reg eb E k hk hls hz w h)
  clear h hk hls
  go_enter Tryz.func11, Tryz.ntmps11
  go_wp2_with fail
  refine (key_any k HK.out w).mono ?_
  rintro e w1 ⟨rfl, rfl⟩
  go_wp2_with fail
  refine HLD.out.mono ?_
  rintro e w2 ⟨p, reg1, rfl, hE2, hx2, hc2, ha2⟩
  have hok := hE2.1.act k HK.out
  have HC := Lib.hid (copied_any _ p (E.act k) hok.1 hok.2.1 hok.2.2.1 w2 ha2)
  have HE2 := Lib.hid hE2
  have HX2 := Lib.hid hx2
  have HC2 := Lib.hid hc2
  clear hok hE2 hx2 hc2 ha2
  go_wp2_with fail
  refine HC.out.mono ?_
  rintro e w3 ⟨q, rfl, hq, hb3⟩
  have HQ := Lib.hid hq
  have HB3 := Lib.hid hb3
  clear hq hb3
  go_wp2_with fail
  go_ret2
  have hs := HC2.out.size
  exact ⟨q, reg1, rfl, HE2.out.below HB3.out, HX2.out, HC2.out.then_below HB3.out, HQ.out.mono (fun j hj => ⟨by omega, HE2.out.new hj⟩)⟩
theorem chain_prog : ProgOk Ip.chNL Ip.chCL := by
  refine ⟨Ip.formed_chain, by decide, fun s hs => ?_, by decide, fun e he => ?_⟩
  · obtain rfl : s = ⟨#[98]⟩ := by simpa [Ip.chNL] using hs
    decide
  · simp only [Ip.chCL, List.mem_cons, List.not_mem_nil, or_false] at he
    rcases he with rfl | rfl | rfl | rfl | rfl | rfl | rfl <;> simp [In64]
theorem chain_len : (encChs [progCh Ip.chNL Ip.chCL]).length ≤ 2000 := by
  have h1 := (encChn_length _ (progCh_ok Ip.chNL Ip.chCL chain_prog)).2
  have h2 := encProg_length Ip.chNL Ip.chCL chain_prog
  have e1 : (progCh Ip.chNL Ip.chCL).key.size = 1 := rfl
  have e2 : (progCh Ip.chNL Ip.chCL).val.length = (encProg Ip.chNL Ip.chCL).length := rfl
  have e3 : Ip.chNL.length = 1 := rfl
  have e4 : Ip.chCL.length = 7 := rfl
  rw [encChs_one]
  omega
/-- The program's cells. -/
abbrev chK : Array Value := #[.int .i64 4, .int .i64 0, .int .i64 3, .int .i64 0, .int .i64 1, .int .i64 0, .int .i64 4, .int .i64 0, .int .i64 1, .int .i64 1, .int .i64 6, .int .i64 0, .int .i64 17, .int .i64 0]
theorem chain_code {w : World} {kb t : Nat} (h : Blk w kb chK t) : Ip.IsCode w (some ⟨kb, 0, none⟩) Ip.chCL := fun _ => ⟨kb, 0, rfl, fun j hj => by
  have hj7 : j < 7 := hj
  have hc : j = 0 ∨ j = 1 ∨ j = 2 ∨ j = 3 ∨ j = 4 ∨ j = 5 ∨ j = 6 := by omega
  rcases hc with rfl | rfl | rfl | rfl | rfl | rfl | rfl
  · exact ⟨h.cell 0, h.cell 1⟩
  · exact ⟨h.cell 2, h.cell 3⟩
  · exact ⟨h.cell 4, h.cell 5⟩
  · exact ⟨h.cell 6, h.cell 7⟩
  · exact ⟨h.cell 8, h.cell 9⟩
  · exact ⟨h.cell 10, h.cell 11⟩
  · exact ⟨h.cell 12, h.cell 13⟩⟩
theorem chain_names {w : World} {nb t : Nat} (h : Blk w nb #[.string ⟨#[98]⟩] t) : ReadsOf Value.string (⟨#[]⟩ : ByteArray) w (some ⟨nb, 0, none⟩) Ip.chNL.length Ip.chNL := ⟨rfl, by decide, fun _ => ⟨_, rfl, fun j hj => by
  have hj0 : j = 0 := by have : j < 1 := hj; omega
  subst hj0
  exact h.cell 0⟩⟩
theorem chain_args {w : World} {ab t : Nat} {n : Int} (h : Blk w ab #[.int .i64 n] t) : ArgsAt w (fun j => j = ab) (some ⟨ab, 0, none⟩) 1 [n] := ⟨⟨rfl, by simp, fun _ => ⟨_, rfl, fun j hj => by
  have hj0 : j = 0 := by simpa using hj
  subst hj0
  exact h.cell 0⟩⟩, Nat.le_refl 1, (fun _ a e => by injection e with e; rw [← e]), (fun a e => by injection e with e; rw [← e])⟩
/-- The engine that was opened, offered to and taught. -/
theorem chain_start (db : Nat) (n : Int) (hn : In64 n) (E : Engn) (hE : E = { offE (engn0 1 2000 db) 1 1 kA (offL 1 0 [n]) with NL := Ip.chNL, CL := Ip.chCL, q := (offE (engn0 1 2000 db) 1 1 kA (offL 1 0 [n])).q + 1 }) : ChnB E 2 3 ∧ Wait E kA n 0 ∧ Idle E kB 0 := by
  subst hE
  have hg : gotL (actr0 kA) (offL 1 0 [n]) = chA kA jour0 [offL 1 0 [n]] 0 [] := rfl
  refine ⟨⟨rfl, rfl, rfl, rfl, .inr (.inl rfl), Nat.le_refl _, Nat.le_refl _⟩, ⟨jour0, offL 1 0 [n], 0, ?_, jour0_ok, chL_ok ⟨#[]⟩ 1 n (by decide) (by unfold U64; omega) hn, rfl, Nat.le_refl _, Nat.le_refl _⟩, ⟨jour0, 0, ?_, jour0_ok, Nat.le_refl _, Nat.le_refl _⟩⟩
  · show upd actr0 (gotL (actr0 kA) (offL 1 0 [n])) kA = _
    rw [hg]; exact upd_same actr0 (chA kA jour0 [offL 1 0 [n]] 0 [])
  · show upd actr0 (gotL (actr0 kA) (offL 1 0 [n])) kB = _
    rw [hg]; exact upd_other actr0 (chA kA jour0 [offL 1 0 [n]] 0 []) (fun e => kAB e.symm)
theorem arrC_first (b : List Int) (h : b.length = 8) (v : Int) (hv : b.getD 0 0 = v) : ∃ x1 x2 x3 x4 x5 x6 x7 : Int, arrC b = #[.int .i64 v, .int .i64 x1, .int .i64 x2, .int .i64 x3, .int .i64 x4, .int .i64 x5, .int .i64 x6, .int .i64 x7] :=
  ⟨b.getD 1 0, b.getD 2 0, b.getD 3 0, b.getD 4 0, b.getD 5 0, b.getD 6 0, b.getD 7 0, by rw [arrC_reg b h, ← hv]⟩
/-- What the law's loop keeps. -/
structure ChnS (w5 : World) (reg : Nat → Nat) (eb : Nat) (wr : World) (reg1 : Nat → Nat) (E : Engn) (q z : Nat) : Prop where
  at_ : EngAt wr reg1 eb E
  rx : ∀ k, k < w5.heap.size → reg1 k = reg k
  ch : Chg (fun k => 2 ≤ reg k) w5 wr
  F : ChnB E q z
section
variable {w5 wr w' : World} {reg reg1 : Nat → Nat} {eb q z : Nat} {E : Engn}
theorem ChnS.step (h : ChnS w5 reg eb wr reg1 E q z) {E' : Engn} {q' z' : Nat} (hto : EngTo wr reg1 eb E' w') (hF : ChnB E' q' z') : ∃ reg2, ChnS w5 reg eb w' reg2 E' q' z' ∧ Chg (fun k => 2 ≤ reg1 k) wr w' := by
  obtain ⟨⟨reg2, hE, hx⟩, hc⟩ := hto
  have hs := h.ch.size
  exact ⟨reg2, ⟨hE, fun k hk => (hx k (by omega)).trans (h.rx k hk), h.ch.trans hc (fun k hk e => by rw [h.rx k hk] at e; exact e), hF⟩, hc⟩
theorem ChnS.below (h : ChnS w5 reg eb wr reg1 E q z) (hb : Below wr.heap.size wr w') : ChnS w5 reg eb w' reg1 E q z :=
  ⟨h.at_.below hb, h.rx, h.ch.then_below hb, h.F⟩
theorem ChnS.more (h : ChnS w5 reg eb wr reg1 E q z) {q' z' : Nat} (hq : q ≤ q') (hz : z ≤ z') : ChnS w5 reg eb wr reg1 E q' z' := ⟨h.at_, h.rx, h.ch, h.F.mono hq hz⟩
theorem ChnS.actor (h : ChnS w5 reg eb wr reg1 E q z) {k : ByteArray} (hk : k = kA ∨ k = kB) (hz : z ≤ 700000) :
    Calls Tryz.prog 11 #[.pointer (some ⟨eb, 0, none⟩), .string k] wr fun e w' => ∃ p reg2 E', e = .returned (.tuple #[.pointer (some ⟨p, 0, none⟩), .int .i64 0]) ∧ ActAt true w' (fun j => wr.heap.size ≤ j ∧ reg2 j = 0) p (E.act k) ∧ ChnS w5 reg eb w' reg2 E' q (z + 1) ∧ E'.act = E.act ∧ Chg (fun k => 2 ≤ reg1 k) wr w' ∧ ∀ j, j < wr.heap.size → reg2 j = reg1 j := by
  have hF := h.F
  have hz' := hF.z
  refine (actor_new reg1 eb E k wr h.at_ (ab_ok hk) (hF.hls hk) (by omega)).mono ?_
  rintro e w' ⟨p, reg2, rfl, hE, hx, hc, ha⟩
  have hs := h.ch.size
  refine ⟨p, reg2, _, rfl, ha, ⟨hE, fun k hk => (hx k (by omega)).trans (h.rx k hk), h.ch.trans hc (fun k hk e => by rw [h.rx k hk] at e; exact e), hF.room, hF.cnt, hF.NL, hF.CL, ?_, hF.q, by show E.z + 1 ≤ z + 1; omega⟩, rfl, hc, hx⟩
  rcases hk with rfl | rfl
  · exact .inr (.inl rfl)
  · exact .inr (.inr rfl)
end
end Go.Proofs.YtlcdjgpblpodaaaGreatDoor
namespace Go.Proofs.YtlcdjgpblpodaaaGreatDoor
open Go.RowKit Go.Maps Go.Proofs.YtlcdjgpblpodaaaGreatDoorW.PrintWords

set_option maxRecDepth 100000 in
set_option maxHeartbeats 4000000 in
theorem chn_walk (G : World → Prop) (hG : Awake G) (n : Int) (t : Nat) (w : World) (hw : G w) (hn : In64 n) (ht : t ≤ 255) :
    Calls Tryz.prog 4 #[.int .i64 n, .int .u8 t] w fun e w' => e = .returned (.bool true) ∧ Below w.heap.size w w' := by
  have HG := Lib.hid hG
  have HWG := Lib.hid hw
  have HN64 := Lib.hid hn
  clear hG hw hn
  go_enter Tryz.func4, Tryz.ntmps4
  go_wp2_with fail
  refine (HG.out.2 w HWG.out).mono ?_
  rintro e w1 ⟨rfl, hb1⟩
  have HB1 := Lib.hid hb1
  clear hb1
  go_wp2_with fail
  refine (newdisk 8000 (by omega) w1).mono ?_
  rintro e w2 ⟨db, rfl, hd, hb2⟩
  have HD := Lib.hid hd.lt
  have HB2 := Lib.hid hb2
  clear hd hb2
  go_wp2_with fail
  refine (engopen (fun k => w1.heap.size ≤ k ∧ k < w2.heap.size) db 8000 1 (by omega) (by omega) (by omega) w2 HD.out (fun k hk => hk.2)).mono ?_
  rintro e w3 ⟨eb, reg, rfl, hE, hr, hb3⟩
  have hs1 := HB1.out.size
  have hs2 := HB2.out.size
  have hr0 : ∀ k, k < w.heap.size → reg k = 0 := fun k hk => by
    by_cases h : reg k = 0
    · exact h
    · have := (hr k (by omega) h).1; omega
  have hE3 : EngAt w3 reg eb (engn0 1 2000 db) := hE
  have hs3 := hb3.size
  obtain ⟨nb, hnb⟩ : ∃ b, b = w3.heap.size := ⟨_, rfl⟩
  obtain ⟨kb, hkb⟩ : ∃ b, b = w3.heap.size + 1 := ⟨_, rfl⟩
  obtain ⟨pb, hpb⟩ : ∃ b, b = w3.heap.size + 1 + 1 := ⟨_, rfl⟩
  obtain ⟨ab, hab⟩ : ∃ b, b = w3.heap.size + 1 + 1 + 1 := ⟨_, rfl⟩
  obtain ⟨W5, hW5⟩ : ∃ W, W = (((w3.alloc (.cells #[.string ⟨#[98]⟩] 9)).alloc (.cells chK 51)).alloc (.cells #[.slice (some ⟨nb, 0, none⟩) 1 1, .slice (some ⟨kb, 0, none⟩) 7 7] 54)).alloc (.cells #[.int .i64 n] 2) := ⟨_, rfl⟩
  have hb5 : Below w3.heap.size w3 W5 := hW5 ▸ ((((Below.refl _ _).alloc (Nat.le_refl _) _).alloc (by simp) _).alloc (by simp; omega) _).alloc (by simp; omega) _
  have hn5 : Blk W5 nb #[.string ⟨#[98]⟩] 9 := hW5 ▸ (((Blk.newAt hnb).alloc _).alloc _).alloc _
  have hk5 : Blk W5 kb chK 51 := hW5 ▸ ((Blk.newAt (by rw [hkb]; simp)).alloc _).alloc _
  have hp5 : Blk W5 pb #[.slice (some ⟨nb, 0, none⟩) 1 1, .slice (some ⟨kb, 0, none⟩) 7 7] 54 := hW5 ▸ (Blk.newAt (by rw [hpb]; simp)).alloc _
  have ha5 : Blk W5 ab #[.int .i64 n] 2 := hW5 ▸ Blk.newAt (by rw [hab]; simp)
  have hs5 : W5.heap.size = w3.heap.size + 4 := by rw [hW5]; simp
  have hlen : (encChs [chOf (gotL (actr0 kA) (offL 1 0 [n])), winCh (addW win0 1 1)]).length ≤ 2000 := by
    have hl := chL_ok ⟨#[]⟩ 1 n (by decide) (by unfold U64; omega) HN64.out
    have hok := chA_ok kA jour0 [offL 1 0 [n]] 0 [] kA_ok jour0_ok (fun x hx => by rw [List.mem_singleton.1 hx]; exact hl) (by simp) (by unfold U64; omega) (.inl rfl)
    have h1 := chA_len kA jour0 [offL 1 0 [n]] 0 [] kA_ok hok.1 (by simp)
    have h2 := winCh_len (addW win0 1 1) (addW_ok win0 1 1 hE3.1.win (by unfold U64; omega) (by unfold U64; omega) rfl (fun e he => by cases he)).1
    rw [encChs_two, show gotL (actr0 kA) (offL 1 0 [n]) = chA kA jour0 [offL 1 0 [n]] 0 [] from rfl]
    omega
  have hof := offer_any reg eb (engn0 1 2000 db) 1 1 kA 0 [n] (some ⟨ab, 0, none⟩) 1 (fun j => j = ab) W5 (hE3.below hb5) (chain_args ha5) (by unfold U64; omega) (by unfold U64; omega) kA_ok (chL_ok ⟨#[]⟩ 1 n (by decide) (by unfold U64; omega) HN64.out) (.inl rfl) rfl (fun e he => by cases he) (by show 9 * (0 + 1) ≤ 2000 ∧ 0 ≤ 5000; omega) (by show 0 ≤ 800000; omega) (fun _ => hlen)
  have HOF := Lib.hid (show Calls Tryz.prog 9 #[.pointer (some ⟨eb, 0, none⟩), .int .u64 (1 : Nat), .int .u64 (1 : Nat), .string kA, .int .i64 0, .slice (some ⟨ab, 0, none⟩) 1 1] W5 fun e w' => e = .returned (.tuple #[.bool true, .int .i64 0]) ∧ EngTo W5 reg eb (offE (engn0 1 2000 db) 1 1 kA (offL 1 0 [n])) w' from hof.mono (fun e w' h => h.1 (by show 0 < 8; omega)))
  have HR0 := Lib.hid hr0
  have HNEW := Lib.hid (fun j (hj : w3.heap.size ≤ j) => hE3.new hj)
  have HB5 := Lib.hid ((HB1.out.trans (HB2.out.mono hs1)).trans ((hb3.mono (by omega)).trans (hb5.mono (by omega))) : Below w.heap.size w W5)
  have HN5 := Lib.hid hn5
  have HK5 := Lib.hid hk5
  have HP5 := Lib.hid hp5
  have HS5 := Lib.hid hs5
  have HW5 := Lib.hid hW5
  have HNB := Lib.hid hnb
  have HKB := Lib.hid hkb
  have HPB := Lib.hid hpb
  have HAB := Lib.hid hab
  have HS3 := Lib.hid (show w.heap.size ≤ w3.heap.size by omega)
  clear hE hr hb3 hr0 hE3 hs3 hnb hkb hpb hab hW5 hb5 hn5 hk5 hp5 ha5 hs5 hlen hof hs1 hs2
  go_wp2_with fail
  rw [show w3.heap.size + 1 + 1 + 1 = ab from HAB.out.symm, show w3.heap.size + 1 + 1 = pb from HPB.out.symm, show w3.heap.size + 1 = kb from HKB.out.symm, ← HNB.out, ← HW5.out]
  refine HOF.out.mono ?_
  rintro e w6 ⟨rfl, hto⟩
  obtain ⟨⟨reg6, hE6, hx6⟩, hc6⟩ := hto
  have hnb := HNB.out
  have hkb := HKB.out
  have hpb := HPB.out
  have hs5 := HS5.out
  have hs3 := HS3.out
  have hrn : reg nb = 0 := HNEW.out nb (by omega)
  have hrk : reg kb = 0 := HNEW.out kb (by omega)
  have hrp : reg pb = 0 := HNEW.out pb (by omega)
  have hn6 := hc6.blk HN5.out (by rw [hrn]; decide)
  have hk6 := hc6.blk HK5.out (by rw [hrk]; decide)
  have hp6 := hc6.blk HP5.out (by rw [hrp]; decide)
  have hte := teach_any reg6 eb (offE (engn0 1 2000 db) 1 1 kA (offL 1 0 [n])) (some ⟨nb, 0, none⟩) (some ⟨kb, 0, none⟩) 1 7 Ip.chNL Ip.chCL w6 hE6 chain_prog (chain_names hn6) (chain_code hk6) (fun a e => by injection e with e; rw [← e]) (fun a e => by injection e with e; rw [← e]) (fun a e => by injection e with e; rw [← e]; exact (hx6 nb (by omega)).trans hrn) (fun a e => by injection e with e; rw [← e]; exact (hx6 kb (by omega)).trans hrk) (by show 9 * (0 + 1 + 1) ≤ 2000 ∧ 0 + 1 ≤ 5000; omega) chain_len
  have hs6 := hc6.size
  have p0 : w6.cell? ⟨pb, 0, none⟩ = some (.slice (some ⟨nb, 0, none⟩) 1 1) := hp6.cell 0
  have p1 : w6.cell? ⟨pb, 1, none⟩ = some (.slice (some ⟨kb, 0, none⟩) 7 7) := hp6.cell 1
  have hb6 : Below w.heap.size w w6 := HB5.out.trans (hc6.below (fun j hj => by
    rcases Nat.lt_or_ge j w.heap.size with g | g
    · rw [HR0.out j g] at hj; omega
    · exact g) (by omega))
  have hr6 : ∀ k, k < w.heap.size → reg6 k = 0 := fun k hk => (hx6 k (by omega)).trans (HR0.out k hk)
  have HTE := Lib.hid (show Calls Tryz.prog 13 #[.pointer (some ⟨eb, 0, none⟩), .agg #[.slice (some ⟨nb, 0, none⟩) 1 1, .slice (some ⟨kb, 0, none⟩) 7 7]] w6 _ from hte)
  have HB6 := Lib.hid hb6
  have HR6 := Lib.hid hr6
  clear hE6 hx6 hc6 hnb hkb hpb hs5 hs3 hrn hrk hrp hn6 hk6 hp6 hte hs6 hb6 hr6
  go_wp2_with fail
  refine HTE.out.mono ?_
  rintro e w7 ⟨rfl, hto⟩
  obtain ⟨⟨reg7, hE7, hx7⟩, hc7⟩ := hto
  obtain ⟨hF, hW, hI⟩ := chain_start db n HN64.out _ rfl
  have hS : ∃ E7, ChnS w7 reg7 eb w7 reg7 E7 2 3 ∧ Wait E7 kA n 0 ∧ Idle E7 kB 0 := ⟨_, ⟨hE7, fun _ _ => rfl, Chg.refl _ _, hF⟩, hW, hI⟩
  obtain ⟨E7, hS7, hW7, hI7⟩ := hS
  have hs6 := HB6.out.size
  have HB7 := Lib.hid (show Below w.heap.size w w7 from HB6.out.trans (hc7.below (fun j hj => by
    rcases Nat.lt_or_ge j w.heap.size with g | g
    · rw [HR6.out j g] at hj; omega
    · exact g) hs6))
  have HR7 := Lib.hid (show ∀ k, k < w.heap.size → reg7 k = 0 from fun k hk => (hx7 k (by omega)).trans (HR6.out k hk))
  have HS7 := Lib.hid hS7
  have HW7 := Lib.hid hW7
  have HI7 := Lib.hid hI7
  clear hE7 hx7 hc7 hF hW hI hS7 hW7 hI7 hs6 p0 p1
  go_wp2_with fail
  obtain ⟨hp, hhp⟩ : ∃ x, x = t % 20 := ⟨_, rfl⟩
  have hp20 : hp < 20 := by omega
  go_loopw [57, 10] (fun s sat wr => ∃ (k : Nat) (at_ : ByteArray) (v : Int) (E : Engn) (reg1 : Nat → Nat), s = .int .i64 k ∧ sat = .string at_ ∧ k ≤ hp ∧ v = IntKind.i64.wrap (n + k) ∧ ((at_ = kA ∧ Idle E kB k) ∨ at_ = kB) ∧ Wait E at_ v k ∧ ChnS w7 reg7 eb wr reg1 E (2 + 2 * k) (3 + 10 * k)) (fun s _ _ => hp - (intOf s).toNat)
  case atStart =>
    have hnw : IntKind.i64.wrap (n + ((0 : Nat) : Int)) = n := by have h := HN64.out; unfold In64 at h; rw [IntKind.wrap_i64]; omega
    exact ⟨0, kA, n, E7, reg7, rfl, rfl, Nat.zero_le _, hnw.symm, .inl ⟨rfl, HI7.out⟩, HW7.out, HS7.out⟩
  case round =>
    obtain ⟨k, at_, v, E, reg1, rfl, rfl, hk, hv, hat, hWt, hS⟩ := hrel
    have k0 : (0 : Int) ≤ (k : Int) := by omega
    have hab : at_ = kA ∨ at_ = kB := hat.imp (fun e => e.1) id
    by_cases hkl : k < hp
    · have k1 : (k : Int) < (hp : Int) := by omega
      have HPK := Lib.hid (chn_pick hS.at_ hS.F hab hWt (by omega) (by omega) (by omega))
      have HS := Lib.hid hS
      have HV := Lib.hid hv
      have HAT := Lib.hid hat
      have HABK := Lib.hid hab
      clear hS hWt hat hab hv
      go_wp2_with fail
      refine HPK.out.mono ?_
      rintro e w8 ⟨TA, tc, rfl, E8, hto, hF8, hSent, hoth⟩
      obtain ⟨reg8, hS8, _⟩ := HS.out.step hto hF8
      obtain ⟨ob, hob⟩ : ∃ b, b = w8.heap.size := ⟨_, rfl⟩
      obtain ⟨W8, hW8⟩ : ∃ W, W = w8.alloc (.cells #[.bool true, .bool false, .int .i64 0, .int .i64 7, .slice TA 0 tc] 35) := ⟨_, rfl⟩
      have hb8 : Below w8.heap.size w8 W8 := hW8 ▸ (Below.refl _ _).alloc (Nat.le_refl _) _
      have ho8 : Blk W8 ob #[.bool true, .bool false, .int .i64 0, .int .i64 7, .slice TA 0 tc] 35 := hW8 ▸ Blk.newAt hob
      have hro : reg8 ob = 0 := hS8.at_.new (by omega)
      have hat8 : (at_ = kA ∧ Idle E8 kB (k + 1)) ∨ at_ = kB := HAT.out.imp (fun e => ⟨e.1, by
        obtain ⟨J, s, h1, h2, h3, h4⟩ := e.2
        exact ⟨J, s, by rw [hoth kB (fun g => kAB (e.1.symm.trans g.symm)), h1], h2, by omega, by omega⟩⟩) id
      have HAC := Lib.hid ((hS8.below hb8).actor HABK.out (by omega))
      have HS8 := Lib.hid (hS8.below hb8)
      have HSENT := Lib.hid hSent
      have HAT8 := Lib.hid hat8
      have HO8 := Lib.hid ho8
      have HRO := Lib.hid hro
      have HW8 := Lib.hid hW8
      have HOB := Lib.hid hob
      clear hto hF8 hSent hoth hS8 hob hW8 hb8 ho8 hro hat8
      go_wp2_with fail
      rw [← HOB.out, ← HW8.out]
      refine HAC.out.mono ?_
      rintro e w9 ⟨p, reg9, E9, rfl, ha9, hS9, he9, hc9, hx9⟩
      have hSent9 : Sent E9 at_ v (k + 1) := by
        obtain ⟨J, s, h1, h2⟩ := HSENT.out
        exact ⟨J, s, by rw [he9]; exact h1, h2⟩
      have hat9 : (at_ = kA ∧ Idle E9 kB (k + 1)) ∨ at_ = kB := HAT8.out.imp (fun e => ⟨e.1, by
        obtain ⟨J, s, h1, h2⟩ := e.2
        exact ⟨J, s, by rw [he9]; exact h1, h2⟩⟩) id
      have HRL := Lib.hid (show Calls Tryz.prog 14 #[.pointer (some ⟨eb, 0, none⟩), .string at_] w9 fun e w' => e = .returned (.tuple #[.string ⟨#[98]⟩, .int .i64 0]) ∧ ∃ E', EngTo w9 reg9 eb E' w' ∧ ChnB E' (2 + 2 * k + 1 + 1) (3 + 10 * k + 3 + 1 + 4) ∧ Wait E' kB (wrap64 (v + 1)) (k + 1) from chn_relay hS9.at_ hS9.F hat9 hSent9 (by omega) (by omega) (by omega))
      have HS9 := Lib.hid hS9
      have HA9 := Lib.hid ha9
      have HO9 := Lib.hid (hc9.blk HO8.out (by rw [HRO.out]; decide))
      have hro9 : reg9 ob = 0 := (hx9 ob HO8.out.lt).trans HRO.out
      have HRO9 := Lib.hid hro9
      clear ha9 hS9 he9 hc9 hx9 hSent9 hat9 hro9
      go_wp2_with fail
      refine HRL.out.mono ?_
      rintro e w10 ⟨rfl, E10, hto, hF10, hW10⟩
      obtain ⟨reg10, hS10, hc10⟩ := HS9.out.step hto hF10
      have ho10 := hc10.blk HO9.out (by rw [HRO9.out]; decide)
      obtain ⟨J, s, hact, hJ, hst, _, _⟩ := HSENT.out
      have ha10 := HA9.out.chg hc10 (fun j hj e => by rw [hj.2] at e; exact absurd e (by decide))
      rw [hact] at ha10
      obtain ⟨jb, ib, xb, PA, pc, XJ, XI, XO, XP, hP⟩ := ha10
      have o0 : w10.cell? ⟨ob, 0, none⟩ = some (.bool true) := ho10.cell 0
      have p0 : w10.cell? ⟨p, 0, none⟩ = some (.pointer (some ⟨jb, 0, none⟩)) := hP.blk.cell 0
      have lo := ho10.lt
      have lp := hP.blk.lt
      obtain ⟨x1, x2, x3, x4, x5, x6, x7, hreg⟩ := arrC_first (stateOf J) (by show (setTo _ _).length = 8; rw [setTo_len]; exact hJ.1.base) v hst
      have HST := Lib.hid (show Calls Tryz.prog 15 #[.pointer (some ⟨jb, 0, none⟩)] w10 fun e w' => e = .returned (.agg #[.int .i64 v, .int .i64 x1, .int .i64 x2, .int .i64 x3, .int .i64 x4, .int .i64 x5, .int .i64 x6, .int .i64 x7]) ∧ Below w10.heap.size w10 w' from hreg ▸ state_any XJ jb J hJ.1 w10 hP.jour)
      have HS10 := Lib.hid hS10
      have HW10 := Lib.hid hW10
      have uv : IntKind.i64.wrap (n + (k : Int)) = v := HV.out.symm
      clear hto hF10 hW10 hS10 hc10 ho10 hact hJ hst hP hreg
      go_wp2_with fail
      refine HST.out.mono ?_
      rintro e w11 ⟨rfl, hb11⟩
      have HB11 := Lib.hid hb11
      clear hb11 o0 p0
      have i0 : ∀ W : World, (Instr.index 58 (.agg #[.int .i64 v, .int .i64 x1, .int .i64 x2, .int .i64 x3, .int .i64 x4, .int .i64 x5, .int .i64 x6, .int .i64 x7]) (.int .i64 0)).run Tryz.prog W = .ok (.int .i64 v) W := fun _ => by simp [Instr.index, asIntOf, run_underlying Tryz.underlying58, part, Tryz.isAgg2, Tryz.sizeOf2]
      go_wp2_with fail
      go_roundw
      case rel =>
        refine ⟨k + 1, kB, wrap64 (v + 1), E10, reg10, by go_num, rfl, by omega, ?_, .inr rfl, HW10.out, (HS10.out.below HB11.out).more (by omega) (by omega)⟩
        rw [wrap64_eq, ← uv]
        simp only [IntKind.wrap_i64]
        push_cast
        omega
      case measure => simp [intOf]; omega
    · obtain rfl : k = hp := by omega
      clear k0
      go_wp2_with fail
      go_ret
      have hs7 := HB7.out.size
      refine ⟨rfl, HB7.out.trans (hS.ch.below (fun j hj => ?_) hs7)⟩
      rcases Nat.lt_or_ge j w.heap.size with g | g
      · rw [HR7.out j g] at hj; omega
      · exact g
end Go.Proofs.YtlcdjgpblpodaaaGreatDoor

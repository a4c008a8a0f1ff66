/- RelayT, ChnP -/
import Derived.Test.YtlcdjgpblpodaaaGreatDoorMBS
import Derived.Test.YtlcdjgpblpodaaaGreatDoorMBL
import Derived.Test.YtlcdjgpblpodaaaGreatDoorMBQ
import Derived.Test.YtlcdjgpblpodaaaGreatDoorMBR
import Derived.Test.YtlcdjgpblpodaaaGreatDoorMBJ
namespace Go.Proofs.YtlcdjgpblpodaaaGreatDoor
open Go.RowKit Go.Maps Go.Proofs.YtlcdjgpblpodaaaGreatDoorW.PrintWords

theorem info38 : (Tryz.prog.info? 38).map (fun i => (i.zero, i.size, i.bytes)) = some (some (.pointer none), 1, 8) := by kernel_rfl
set_option maxRecDepth 100000 in
set_option maxHeartbeats 4000000 in
theorem relay_two (reg : Nat → Nat) (eb : Nat) (E : Engn) (k k2 : ByteArray) (ss : List (ByteArray × Nat)) (l : Let) (a' b' : Actr) (w : World) (h : EngAt w reg eb E) (hk : KeyOk k) (hk2 : KeyOk k2) (hkk : k ≠ k2) (hr1 : E.room = 1) (hls : E.ls = [] ∨ E.ls = [k] ∨ ∃ j, E.ls = [j] ∧ j ≠ k ∧ E.room = 1)
    (hout : (E.act k).outb = ⟨k, ss, [(k2, l)]⟩) (hl3 : l.frm.size ≤ 40) (hl4 : l.args.length ≤ 4) (h8 : (E.act k2).inbox.length < 8) (ha' : a' = { E.act k with outb := ⟨k, ss, []⟩ } ∧ b' = { E.act k2 with inbox := (E.act k2).inbox ++ [l] })
    (hok : ActOk k a' ∧ ActOk k2 b') (hq : 9 * (E.q + 1) ≤ E.cnt ∧ E.q ≤ 5000) (hz : E.z ≤ 800000) (hlen : (encChs [chOf a', chOf b']).length ≤ 2000) :
    Calls Tryz.prog 14 #[.pointer (some ⟨eb, 0, none⟩), .string k] w fun e w' => e = .returned (.tuple #[.string k2, .int .i64 0]) ∧ EngTo w reg eb { E with ls := [k2], act := upd (upd E.act a') b', q := E.q + 1, z := E.z + 4 } w' := by
  obtain ⟨bb, tt, ab, qb, wb, cb, nC, kC, NA, KA, hB⟩ := h.open_
  have c9 : w.cell? ⟨eb, 9, none⟩ = some (.bool false) := hB.blk.cell 9
  have hks := hk.2
  have HK := Lib.hid hk
  have HOUT := Lib.hid hout
  have HAE := Lib.hid ha'
  have HOK := Lib.hid hok
  have HLEN := Lib.hid hlen
  have HLD := Lib.hid (load_any reg eb E k hk hls (by omega) w h)
  have HE := Lib.hid h
  have HK2 := Lib.hid hk2
  have HKK := Lib.hid hkk
  have HR1 := Lib.hid hr1
  have hks2 := hk2.2
  clear h hk hout ha' hok hlen hls hB hk2 hkk hr1
  go_enter Tryz.func14, Tryz.ntmps14
  go_wp2_with fail
  refine (gone_any eb w c9).mono ?_
  rintro e w2 ⟨rfl, rfl⟩
  go_wp2_with fail
  refine (key_any k HK.out w).mono ?_
  rintro e w2 ⟨rfl, rfl⟩
  clear c9
  go_wp2_with fail
  refine HLD.out.mono ?_
  rintro e w4 ⟨p0, reg1, rfl, hE4, hx4, hc4, ha4⟩
  have hok4 := hE4.1.act k HK.out
  have HCPD := Lib.hid (copied_any _ p0 (E.act k) hok4.1 hok4.2.1 hok4.2.2.1 w4 ha4)
  have HE4 := Lib.hid hE4
  have HX4 := Lib.hid hx4
  have HC4 := Lib.hid hc4
  clear hok4 hE4 hx4 hc4 ha4
  go_wp2_with fail
  refine HCPD.out.mono ?_
  rintro e w5 ⟨q, rfl, ha5, hb5⟩
  obtain ⟨jb, ib, ob, PA, pc, XJ, XI, XO, XP, hP⟩ := ha5.lt
  have q2 : w5.cell? ⟨q, 2, none⟩ = some (.pointer (some ⟨ob, 0, none⟩)) := hP.blk.cell 2
  have HPOP := Lib.hid (outpop XO ob k k2 ss l HK.out hl4 w5 (HOUT.out ▸ hP.outb))
  have HP := Lib.hid hP
  have HB5 := Lib.hid hb5
  clear hP hb5 ha5
  go_wp2_with fail
  refine HPOP.out.mono ?_
  rintro e w6 ⟨A, c, rfl, hA6, ho6, hc6⟩
  obtain ⟨hP6, hI6⟩ := HP.out.popped ho6 hc6
  have hs4 := HC4.out.size
  have hs5 := HB5.out.size
  have hs6 := hc6.size
  have hob : XO ob := by
    obtain ⟨A, c, mb, n, q1, _⟩ := ho6
    exact q1
  have hobx := (HP.out.sub ob (.inr (.inr (.inl hob)))).1
  have hb46 : Below w4.heap.size w4 w6 := HB5.out.trans (hc6.below (fun j hj => by have : j = ob := hj; omega) hs5)
  obtain ⟨bx, hbx⟩ : ∃ b, b = w6.heap.size := ⟨_, rfl⟩
  obtain ⟨ua, hua⟩ : ∃ b, b = w6.heap.size + 1 := ⟨_, rfl⟩
  obtain ⟨tb, htb⟩ : ∃ b, b = w6.heap.size + 1 + 1 := ⟨_, rfl⟩
  obtain ⟨W8, hW8⟩ : ∃ W, W = ((w6.alloc (.cells #[.string k2, .string l.frm, .int .u64 l.serial, .int .i64 l.kind, .slice A l.args.length c] 139)).alloc (.cells #[.pointer (some ⟨q, 0, none⟩)] 38)).alloc (.cells #[.slice (some ⟨ua, 0, none⟩) 1 1, .pointer none, .pointer none, .slice none 0 0] 121) := ⟨_, rfl⟩
  have hb8 : Below w6.heap.size w6 W8 := hW8 ▸ (((Below.refl _ _).alloc (Nat.le_refl _) _).alloc (by simp) _).alloc (by simp; omega) _
  have hx8 : Blk W8 bx #[.string k2, .string l.frm, .int .u64 l.serial, .int .i64 l.kind, .slice A l.args.length c] 139 := hW8 ▸ ((Blk.newAt hbx).alloc _).alloc _
  have hu8 : Blk W8 ua #[.pointer (some ⟨q, 0, none⟩)] 38 := hW8 ▸ (Blk.newAt (by rw [hua]; simp)).alloc _
  have ht8 : Blk W8 tb #[.slice (some ⟨ua, 0, none⟩) 1 1, .pointer none, .pointer none, .slice none 0 0] 121 := hW8 ▸ Blk.newAt (by rw [htb]; simp)
  have ho8 : W8.ownsRow w6.heap.size 38 1 (.slice (some ⟨ua, 0, none⟩) 1 1) 1 [.pointer (some ⟨q, 0, none⟩)] := by
    have h1 := (World.ownsRow_lit (base := w6.heap.size) (e := 38) (size := 1) (w6.alloc (.cells #[.string k2, .string l.frm, .int .u64 l.serial, .int .i64 l.kind, .slice A l.args.length c] 139)) #[.pointer (some ⟨q, 0, none⟩)] 1 (by simp) (by decide) rfl).alloc (.cells #[.slice (some ⟨ua, 0, none⟩) 1 1, .pointer none, .pointer none, .slice none 0 0] 121)
    have e1 : (w6.alloc (.cells #[.string k2, .string l.frm, .int .u64 l.serial, .int .i64 l.kind, .slice A l.args.length c] 139)).heap.size = ua := by rw [hua]; simp
    rw [e1] at h1
    rw [hW8]; exact h1
  have HO8 := Lib.hid ho8
  clear ho8
  have hs8 : W8.heap.size = w6.heap.size + 3 := by rw [hW8]; simp
  have hb48 : Below w4.heap.size w4 W8 := hb46.trans (hb8.mono (by omega))
  have HLD2 := Lib.hid (load_any reg1 eb { E with ls := [k], z := E.z + 1 } k2 HK2.out (.inr (.inr ⟨k, rfl, HKK.out, HR1.out⟩)) (by show E.z + 1 ≤ 900000; omega) W8 (HE4.out.below hb48))
  have d0 : W8.cell? ⟨bx, 0, none⟩ = some (.string k2) := hx8.cell 0
  have HS8 := Lib.hid hs8
  have HX8 := Lib.hid hx8
  have HU8 := Lib.hid hu8
  have HT8 := Lib.hid ht8
  have HB48 := Lib.hid hb48
  have HP8 := Lib.hid (hP6.below (hb8))
  have HI8 := Lib.hid (hI6.chg (Chg.of_below hb8 (fun _ => False)) (fun _ _ h => h))
  have HA8 := Lib.hid (hA6.lt.below hb8)
  have HW8 := Lib.hid hW8
  have HBX := Lib.hid hbx
  have HUA := Lib.hid hua
  have HTB := Lib.hid htb
  have HS5 := Lib.hid (show w.heap.size ≤ w4.heap.size ∧ w4.heap.size ≤ w5.heap.size ∧ w5.heap.size ≤ w6.heap.size from ⟨hs4, hs5, hs6⟩)
  have dlt := hx8.lt
  clear hP6 hI6 hA6 ho6 hc6 hb46 hbx hua htb hW8 hb8 hx8 hu8 ht8 hs8 hb48 hobx hob hs4 hs5 hs6 q2
  go_upto_region 11 with fail
  rw [show w6.heap.size + 1 + 1 = tb from HTB.out.symm, show w6.heap.size + 1 = ua from HUA.out.symm, ← HBX.out, ← HW8.out]
  go_wp2_with fail
  refine HLD2.out.mono ?_
  rintro e w9 ⟨p2, reg2, rfl, hE9, hx9, hc9, ha9⟩
  obtain ⟨hsa, hsb, hsc⟩ := HS5.out
  have hs8 := HS8.out
  have hbx := HBX.out
  have hua := HUA.out
  have htb := HTB.out
  have hs9 := hc9.size
  have hn1 : ∀ j, w4.heap.size ≤ j → ¬ 2 ≤ reg1 j := fun j hj => by rw [HE4.out.new hj]; decide
  have hx9b := hc9.blk HX8.out (hn1 bx (by omega))
  have hu9 := hc9.blk HU8.out (hn1 ua (by omega))
  have ht9 := hc9.blk HT8.out (hn1 tb (by omega))
  have hp9 := HP8.out.chg hc9 (fun j hj => hn1 j hj.1)
  have hi9 := HI8.out.chg hc9 (fun j hj => hn1 j (HP8.out.sub j (.inr (.inl hj))).1.1)
  have ha9a := HA8.out.chg hc9 (fun j hj => hn1 j (by omega))
  have d0' : w9.cell? ⟨bx, 0, none⟩ = some (.string k2) := hx9b.cell 0
  have dl9 := hx9b.lt
  have hok9 := hE9.1.act k2 HK2.out
  have HCPB := Lib.hid (copied_any _ p2 (E.act k2) hok9.1 hok9.2.1 hok9.2.2.1 w9 ha9)
  have HO9 := Lib.hid (hc9.owns HO8.out (fun j hj => by have g : some ua = some j := hj; injection g with g; subst g; exact hn1 _ (by omega)))
  have HX9B := Lib.hid hx9b
  have HT9 := Lib.hid ht9
  have HP9 := Lib.hid hp9
  have HA9 := Lib.hid ha9a
  have HE9 := Lib.hid hE9
  have HX9 := Lib.hid hx9
  have HC9 := Lib.hid hc9
  have HN1 := Lib.hid hn1
  have HS9 := Lib.hid hs9
  have HNE := Lib.hid (show k2 ≠ k from fun e => HKK.out e.symm)
  have sq : (k2.toList == k.toList) = false := by
    have := any_other (j := k) (k := k2) HKK.out
    simpa using this
  clear hE9 hx9 hc9 ha9 hs8 hbx hua htb hs9 hn1 hx9b hu9 ht9 hp9 hi9 ha9a hsa hsb hsc d0 hok9
  go_wp2_with fail
  refine HCPB.out.mono ?_
  rintro e wb ⟨qB, rfl, haB, hbB⟩
  obtain ⟨jB, iB, oB, PB, pB, XJB, XIB, XOB, XPB, hPB⟩ := haB.lt
  have HPB := Lib.hid hPB
  have HBB := Lib.hid hbB
  have hsB := hbB.size
  have hoB := own_below HO9.out hbB
  have htB := HT9.out.below hbB
  have hoB1 := hoB.alloc (.cells #[.pointer (some ⟨qB, 0, none⟩)] 38)
  have t0 : wb.cell? ⟨tb, 0, none⟩ = some (.slice (some ⟨ua, 0, none⟩) 1 1) := htB.cell 0
  have tl := htB.lt
  have HTB2 := Lib.hid htB
  have HOB1 := Lib.hid hoB1
  have hs8 := HS8.out
  have hua := HUA.out
  have htb := HTB.out
  have hbse : W8.heap.size ≤ wb.heap.size := by have := HS9.out; omega
  have HSE := Lib.hid hbse
  have htu : some tb ≠ (Value.slice (some ⟨ua, 0, none⟩) 1 1).ownBlock := fun e => by
    have : tb = ua := by injection e
    omega
  have HTU := Lib.hid htu
  clear haB hPB hbB hoB htB hoB1 hs8 hua htb hbse htu hsB
  obtain ⟨i0, hi, hz0, hz1, hz2⟩ := info_parts info38
  go_upto_region 16 with (at_builtin; refine wpList_append_lies _ rfl _ _ 118 rfl w6.heap.size 38 i0 (.pointer none) 1 8 Tryz.underlying118 hi hz0 hz1 hz2 rfl (by decide) _ 1 [.pointer (some ⟨q, 0, none⟩)] rfl HOB1.out ⟨wb.heap.size, 0, none⟩ 1 1 [.pointer (some ⟨qB, 0, none⟩)] rfl rfl (cell_one_new _ _ _) (fun u hu => by rw [List.mem_singleton.1 hu]; rfl) (by decide) (by unfold maxLen; omega) (by omega) (by have h1 := HSE.out; have h2 := HS8.out; simp; omega) (wb.heap.size + 1) (by simp) ?_; intro g cap wA hoA hgA hatA hltA; have hcA : Chg (fun j => (Value.slice (some ⟨ua, 0, none⟩) 1 1).ownBlock = some j) wb wA := ((Chg.refl _ wb).alloc _).grown hgA (fun _ hk => .inl hk); have htA := hcA.blk HTB2.out (fun e => HTU.out e.symm); have t0A : wA.cell? ⟨tb, 0, none⟩ = some (.slice (some ⟨ua, 0, none⟩) 1 1) := htA.cell 0; have f0A : wA.frozen? ⟨tb, 0, none⟩ = false := htA.free 0; have tlA := htA.lt)
  obtain ⟨W15, hW15⟩ : ∃ W, W = wA.setCell ⟨tb, 0, none⟩ (.slice (some ⟨g, 0, none⟩) 2 cap) := ⟨_, rfl⟩
  rw [← hW15]
  have hs8 := HS8.out
  have hbx := HBX.out
  have hua := HUA.out
  have htb := HTB.out
  obtain ⟨hsa, hsb, hsc⟩ := HS5.out
  have hs9 := HS9.out
  have hsB := HBB.out.size
  have hcA' : Chg (fun j => j = ua ∨ j = tb) wb wA := hcA.mono (fun j _ e => by have g : some ua = some j := e; injection g with g; exact .inl g.symm)
  have hcb : Chg (fun j => j = ua ∨ j = tb) wb W15.drew := hW15 ▸ (hcA'.put tb 0 (.inl (.inr rfl)) _).drew
  have hcx : Chg (fun j => j = ua ∨ j = tb) w9 W15.drew := (Chg.of_below HBB.out (fun j => j = ua ∨ j = tb)).trans hcb (fun _ _ e => e)
  have hpd := HP9.out.chg hcx (fun j hj e => by have := hj.2; rcases e with e | e <;> omega)
  have hxd := hcx.blk HX9B.out (fun e => by rcases e with e | e <;> omega)
  have htd : Blk W15.drew tb #[.slice (some ⟨g, 0, none⟩) 2 cap, .pointer none, .pointer none, .slice none 0 0] 121 := by
    have h1 := htA.set 0 (.slice (some ⟨g, 0, none⟩) 2 cap)
    rw [← hW15] at h1
    exact Blk.below (by simpa using h1) (Below.refl W15.heap.size W15).drew
  have hpb := HPB.out.chg hcb (fun j hj e => by have := hj.1; rcases e with e | e <;> omega)
  have had := HA9.out.chg hcx (fun j hj e => by rcases e with e | e <;> omega)
  have hgw : g = ua ∨ wb.heap.size ≤ g := by
    rcases hatA with e | e
    · exact .inl (by have e' : some ua = some g := e; injection e' with e'; exact e'.symm)
    · exact .inr (by omega)
  have hgt : g ≠ tb := fun e => by rcases hgw with e' | e' <;> omega
  have hcg : ∀ j v, [Value.pointer (some ⟨q, 0, none⟩), .pointer (some ⟨qB, 0, none⟩)][j]? = some v → W15.drew.cell? ⟨g, j, none⟩ = some v := fun j v hj => by
    have hj2 : j < 2 := by
      rcases Nat.lt_or_ge j 2 with e | e
      · exact e
      · rw [List.getElem?_eq_none (by simpa using e)] at hj; cases hj
    have h1 := hoA.cellAt j (by omega)
    have h2 : wA.cell? ⟨g, j, none⟩ = some v := h1.trans hj
    have h3 : Chg (fun j => j = tb) wA W15.drew := hW15 ▸ ((Chg.refl (fun j => j = tb) wA).put tb 0 (.inl rfl) _).drew
    exact h3.cell (a := ⟨g, j, none⟩) hgt h2
  have q1 : W15.drew.cell? ⟨qB, 1, none⟩ = some (.pointer (some ⟨iB, 0, none⟩)) := hpb.blk.cell 1
  have y1 : W15.drew.cell? ⟨bx, 1, none⟩ = some (.string l.frm) := hxd.cell 1
  have y2 : W15.drew.cell? ⟨bx, 2, none⟩ = some (.int .u64 l.serial) := hxd.cell 2
  have y3 : W15.drew.cell? ⟨bx, 3, none⟩ = some (.int .i64 l.kind) := hxd.cell 3
  have y4 : W15.drew.cell? ⟨bx, 4, none⟩ = some (.slice A l.args.length c) := hxd.cell 4
  have hXI : ∀ j, XIB j → w9.heap.size ≤ j ∧ j < wb.heap.size := fun j hj => (HPB.out.sub j (.inr (.inl hj))).1
  have HXI := Lib.hid hXI
  have HPU := Lib.hid (push_ok XIB (fun j => w5.heap.size ≤ j ∧ j < w6.heap.size) iB (E.act k2).inbox l hl3 hl4 h8 A c W15.drew (hpb.inw rfl) (fun j hj => (hpb.sub j (.inr (.inl hj))).2.2) had)
  have HPD := Lib.hid hpd
  have HXD := Lib.hid hxd
  have HTD := Lib.hid htd
  have HPBD := Lib.hid hpb
  have HCG := Lib.hid hcg
  have HGW := Lib.hid hgw
  have HCX := Lib.hid hcx
  have HCB := Lib.hid hcb
  have hql := hpb.blk.lt
  have hbl9 := hxd.lt
  clear hs8 hbx hua htb hsa hsb hsc hs9 hsB hcA' hcb hcx hpd hxd htd hpb had hgw hgt hcg hXI hoA hgA hatA hltA hcA htA t0A f0A tlA hW15 t0 tl
  go_region_held3 (fun w' => w'.cell? ⟨qB, 1, none⟩ = some (.pointer (some ⟨iB, 0, none⟩)) ∧ w'.cell? ⟨bx, 1, none⟩ = some (.string l.frm) ∧ w'.cell? ⟨bx, 2, none⟩ = some (.int .u64 l.serial) ∧ w'.cell? ⟨bx, 3, none⟩ = some (.int .i64 l.kind) ∧ w'.cell? ⟨bx, 4, none⟩ = some (.slice A l.args.length c)) (first | exact ⟨q1, y1, y2, y3, y4⟩ | exact ⟨q1', y1', y2', y3', y4'⟩)
    (first
      | (go_at_call 43
         refine HPU.out.mono ?_
         rintro e w10 ⟨rfl, hi10, hc10⟩
         have hbxe := HBX.out
         have hs568 := HS5.out
         have hs88 := HS8.out
         have hs99 := HS9.out
         have hx10 := hc10.blk HXD.out (fun e => by have h1 := HXI.out bx e; omega)
         have hp10 := HPBD.out.setInbox hi10 hc10
         have q1' : w10.cell? ⟨qB, 1, none⟩ = some (.pointer (some ⟨iB, 0, none⟩)) := hp10.blk.cell 1
         have y1' : w10.cell? ⟨bx, 1, none⟩ = some (.string l.frm) := hx10.cell 1
         have y2' : w10.cell? ⟨bx, 2, none⟩ = some (.int .u64 l.serial) := hx10.cell 2
         have y3' : w10.cell? ⟨bx, 3, none⟩ = some (.int .i64 l.kind) := hx10.cell 3
         have y4' : w10.cell? ⟨bx, 4, none⟩ = some (.slice A l.args.length c) := hx10.cell 4
         have HP10 := Lib.hid hp10
         have HX10 := Lib.hid hx10
         have HC10 := Lib.hid hc10
         clear hbxe hs568 hs88 hs99 hi10 hc10 hx10 hp10))
  rename_i hHeld
  clear hHeld q1 y1 y2 y3 y4 q1' y1' y2' y3' y4'
  have hc10 := HC10.out
  have hXI := HXI.out
  have hs8 := HS8.out
  have hbx := HBX.out
  have hua := HUA.out
  have htb := HTB.out
  obtain ⟨hsa, hsb, hsc⟩ := HS5.out
  have hs9 := HS9.out
  have hsB := HBB.out.size
  have hsd := HCB.out.size
  have hs10 := hc10.size
  have ht10 := hc10.blk HTD.out (fun e => by have h1 := hXI tb e; omega)
  have hX2 : ∀ j, ((w4.heap.size ≤ j ∧ j < W8.heap.size) ∨ w9.heap.size ≤ j) → reg2 j = 0 := fun j hj => by
    rcases hj with g | g
    · rw [HX9.out j g.2]; exact HE4.out.new g.1
    · exact HE9.out.new g
  have hE10 : EngAt w10 reg2 eb { E with ls := [k2], z := E.z + 1 + 1 } := (HE9.out.chg HCX.out (fun j hj e => hj (hX2 j (.inl (by rcases e with e | e <;> omega))))).chg hc10 (fun j hj e => hj (hX2 j (.inr (hXI j e).1)))
  have hacta : ActAt false w10 (fun j => ((w4.heap.size ≤ j ∧ j < W8.heap.size) ∨ w9.heap.size ≤ j) ∧ j < w10.heap.size) q a' := by
    have g : ActAt false w10 _ q { E.act k with outb := ⟨k, ss, []⟩ } := ⟨jb, ib, ob, PA, pc, XJ, XI, XO, XP, HPD.out.chg hc10 (fun j hj e => by have h1 := hXI j e; have := hj.2; omega)⟩
    rw [HAE.out.1]
    exact g.lt.mono (fun j hj => ⟨.inl (by have := hj.1; omega), hj.2⟩)
  have hactb : ActAt false w10 (fun j => ((w4.heap.size ≤ j ∧ j < W8.heap.size) ∨ w9.heap.size ≤ j) ∧ j < w10.heap.size) qB b' := by
    have g : ActAt true w10 _ qB { E.act k2 with inbox := (E.act k2).inbox ++ [l] } := ⟨jB, iB, oB, PB, pB, XJB, _, XOB, XPB, HP10.out⟩
    rw [HAE.out.2]
    exact g.rd.lt.mono (fun j hj => ⟨.inr (by have h1 := hj.1; rcases h1 with e | e; exact e.1; omega), hj.2⟩)
  have hown : a'.outb.owner = k := HOK.out.1.2.2.2.1
  have hown2 : b'.outb.owner = k2 := HOK.out.2.2.2.2.1
  have hg0 : reg2 g = 0 := hX2 g (by rcases HGW.out with e | e; exact .inl (by omega); exact .inr (by omega))
  have hgx : ¬ XIB g := fun e => by have h1 := hXI g e; rcases HGW.out with e | e <;> omega
  have hun : UnA w10 (fun j => ((w4.heap.size ≤ j ∧ j < W8.heap.size) ∨ w9.heap.size ≤ j) ∧ j < w10.heap.size) g 0 [(q, a'), (qB, b')] := by
    refine ⟨fun i u hi => ?_, fun u hu => ?_⟩
    · rw [Nat.zero_add]
      refine hc10.cell (a := ⟨g, i, none⟩) hgx (HCG.out i _ ?_)
      match i with
      | 0 => obtain rfl : (q, a') = u := by simpa using hi
             rfl
      | 1 => obtain rfl : (qB, b') = u := by simpa using hi
             rfl
      | i + 2 => simp at hi
    · rcases List.mem_cons.1 hu with e | e
      · subst e; exact hacta
      · rw [List.mem_singleton.1 e]; exact hactb
  have hcm := commit_eng reg2 eb { E with ls := [k2], z := E.z + 1 + 1 } (fun j => ((w4.heap.size ≤ j ∧ j < W8.heap.size) ∨ w9.heap.size ≤ j) ∧ j < w10.heap.size) g 0 cap [(q, a'), (qB, b')] none w10 hE10 hun hg0 (fun j hj => ⟨hX2 j hj.1, hj.2⟩) ⟨by show 1 ≤ 2; omega, Nat.le_refl 2⟩
    (fun u hu => by
      rcases List.mem_cons.1 hu with e | e
      · subst e; simp only [hown]; exact ⟨HK.out, HOK.out.1⟩
      · rw [List.mem_singleton.1 e]; simp only [hown2]; exact ⟨HK2.out, HOK.out.2⟩) (by simp [hown, hown2, HKK.out]) (fun b W e => by cases e) hq (by show E.z + 1 + 1 ≤ 900000; omega) HLEN.out
  have HCM := Lib.hid (show Calls Tryz.prog 46 #[.pointer (some ⟨eb, 0, none⟩), .agg #[.slice (some ⟨g, 0, none⟩) 2 cap, .pointer none, .pointer none, .slice none 0 0]] w10 fun e w' => e = .returned (.int .i64 0) ∧ ∃ reg', EngAt w' reg' eb { E with ls := [k2], act := upd (upd E.act a') b', q := E.q + 1, z := E.z + 4 } ∧ (∀ j, j < w10.heap.size → reg' j = reg2 j ∨ ((((w4.heap.size ≤ j ∧ j < W8.heap.size) ∨ w9.heap.size ≤ j) ∧ j < w10.heap.size) ∧ reg' j = 1)) ∧ Chg (fun j => 2 ≤ reg2 j) w10 w' from hcm)
  have t0 : w10.cell? ⟨tb, 0, none⟩ = some (.slice (some ⟨g, 0, none⟩) 2 cap) := ht10.cell 0
  have t1 : w10.cell? ⟨tb, 1, none⟩ = some (.pointer none) := ht10.cell 1
  have t2 : w10.cell? ⟨tb, 2, none⟩ = some (.pointer none) := ht10.cell 2
  have t3 : w10.cell? ⟨tb, 3, none⟩ = some (.slice none 0 0) := ht10.cell 3
  have HX2 := Lib.hid hX2
  have HSZ := Lib.hid (show w.heap.size ≤ w4.heap.size ∧ w4.heap.size ≤ w5.heap.size ∧ w5.heap.size ≤ w6.heap.size ∧ bx = w6.heap.size ∧ W8.heap.size = w6.heap.size + 3 ∧ W8.heap.size ≤ w9.heap.size ∧ w9.heap.size ≤ w10.heap.size from ⟨hsa, hsb, hsc, hbx, hs8, hs9, by omega⟩)
  have HC910 := Lib.hid (show Chg (fun j => w4.heap.size ≤ j) w9 w10 from (HCX.out.mono (S' := fun j => w4.heap.size ≤ j) (fun j _ e => by rcases e with e | e <;> omega)).trans hc10 (fun j _ e => by have h1 := hXI j e; omega))
  clear hc10 hXI hs8 hbx hua htb hsa hsb hsc hs9 hsd hs10 ht10 hX2 hE10 hown hcm hacta hactb hown2 hg0 hgx hun hsB
  go_wp2_with fail
  refine HCM.out.mono ?_
  rintro e w11 ⟨rfl, reg3, hE11, hx11, hc11⟩
  obtain ⟨bb11, tt11, ab11, qb11, wb11, cb11, nC11, kC11, NA11, KA11, hB11⟩ := hE11.open_
  have d8 : w11.cell? ⟨eb, 8, none⟩ = some (.pointer (some ⟨cb11, 0, none⟩)) := hB11.blk.cell 8
  obtain ⟨za, zb, zc, zd, ze, zf, zg⟩ := HSZ.out
  have hrb : reg2 bx = 0 := HX2.out bx (.inl (by omega))
  have hx11b := hc11.blk HX10.out (by rw [hrb]; decide)
  have hrb3 : ¬ 2 ≤ reg3 bx := fun e => by
    rcases hx11 bx HX10.out.lt with g | ⟨_, g⟩
    · omega
    · omega
  have HN := Lib.hid (count_any cb11 3 (by omega) 1 w11 hB11.cnt)
  have HE11 := Lib.hid hE11
  have HX11 := Lib.hid hx11
  have HC11 := Lib.hid hc11
  have HXB := Lib.hid hx11b
  have HRB3 := Lib.hid hrb3
  clear hE11 hx11 hc11 hB11 t0 t1 t2 t3 za zb zc zd ze zf zg hrb hx11b hrb3
  go_wp2_with fail
  refine HN.out.mono ?_
  rintro e w12 ⟨⟨x, rfl⟩, hn12, hc12⟩
  obtain ⟨⟨reg4, h3, x3⟩, k3⟩ := HE11.out.counted d8 rfl hn12 hc12
  have hx12 := k3.blk HXB.out HRB3.out
  have d12 : w12.cell? ⟨bx, 0, none⟩ = some (.string k2) := hx12.cell 0
  have dl12 := hx12.lt
  have HE12 := Lib.hid h3
  have HX12 := Lib.hid x3
  have HC12 := Lib.hid k3
  clear d8 hn12 hc12 h3 x3 k3 hx12
  go_wp2_with fail
  go_ret2
  obtain ⟨za, zb, zc, zd, ze, zf, zg⟩ := HSZ.out
  have zh := HC11.out.size
  have hx2 : ∀ j, j < w.heap.size → reg2 j = reg j := fun j hj => (HX9.out j (by omega)).trans (HX4.out j (by omega))
  have hx3 : ∀ j, j < w.heap.size → reg3 j = reg j := fun j hj => by
    rcases HX11.out j (by omega) with e | ⟨e, _⟩
    · exact e.trans (hx2 j hj)
    · omega
  refine ⟨rfl, ⟨reg4, HE12.out, fun j hj => (HX12.out j (by omega)).trans (hx3 j hj)⟩, (((((HC4.out.then_below HB48.out).trans HC9.out (fun j hj e => ?_)).trans HC910.out (fun j hj e => by omega)).trans HC11.out (fun j hj e => ?_)).trans HC12.out (fun j hj e => ?_))⟩
  · rw [HX4.out j hj] at e; exact e
  · rw [hx2 j hj] at e; exact e
  · rw [hx3 j hj] at e; exact e
end Go.Proofs.YtlcdjgpblpodaaaGreatDoor
namespace Go.Proofs.YtlcdjgpblpodaaaGreatDoor
open Go.RowKit Go.Maps Go.Proofs.YtlcdjgpblpodaaaGreatDoorW.PrintWords

theorem arrC_reg (b : List Int) (h : b.length = 8) : arrC b = Ip.regC (fun j => b.getD j 0) := by
  match b, h with
  | [a0, a1, a2, a3, a4, a5, a6, a7], _ => rfl
theorem wrap64_in (x : Int) : In64 (wrap64 x) := by unfold In64 wrap64; omega
theorem chA_ok (k : ByteArray) (J : Jour) (ls : List Let) (s : Nat) (L : List (ByteArray × Let)) (hk : KeyOk k) (hJ : JOk J) (hl : ∀ l ∈ ls, l.Ok) (h8 : ls.length ≤ 8) (hs : U64 s) (hL : L = [] ∨ ∃ v, In64 v ∧ 1 ≤ s ∧ L = [(kB, chL k s v)]) : ActOk k (chA k J ls s L) := by
  have ho := outK_ok k s L hk hs hL
  refine ⟨⟨hJ.1, hl, h8, ho, by show 0 < 3; omega, .inl rfl, (fun _ h => by cases h), by show 0 ≤ 8; omega⟩, OutEnc.ok _ ho, OutDec.ok _ ho, rfl, fun hf => ?_⟩
  simp only [freshA, Bool.and_eq_true, decide_eq_true_eq, List.isEmpty_iff] at hf
  obtain ⟨h1, h2, ⟨h3, h4⟩, _, _⟩ := hf
  have e1 : J = jour0 := hJ.2 h1
  have e2 : ls = [] := List.eq_nil_of_length_eq_zero h2
  have e3 : L = [] := h4
  subst e1 e2 e3
  have e4 : outK k s [] = outb0 k := by
    unfold outK outb0
    rw [show (if s = 0 then [] else [(kB, s)]) = [] from h3]
  show ({ jour := jour0, inbox := [], outb := outK k s [], tries := 0, poison := [] } : Actr) = _
  rw [e4]; rfl
/-- The engine of the chain. -/
structure ChnB (E : Engn) (q z : Nat) : Prop where
  room : E.room = 1
  cnt : E.cnt = 2000
  NL : E.NL = Ip.chNL
  CL : E.CL = Ip.chCL
  res : E.ls = [] ∨ E.ls = [kA] ∨ E.ls = [kB]
  q : E.q ≤ q
  z : E.z ≤ z
theorem ChnB.hls {E : Engn} {q z : Nat} (h : ChnB E q z) {k : ByteArray} (hk : k = kA ∨ k = kB) : E.ls = [] ∨ E.ls = [k] ∨ ∃ j, E.ls = [j] ∧ j ≠ k ∧ E.room = 1 := by
  rcases h.res with e | e | e
  · exact .inl e
  · rcases hk with rfl | rfl
    · exact .inr (.inl e)
    · exact .inr (.inr ⟨kA, e, kAB, h.room⟩)
  · rcases hk with rfl | rfl
    · exact .inr (.inr ⟨kB, e, fun g => kAB g.symm, h.room⟩)
    · exact .inr (.inl e)
theorem ChnB.mono {E : Engn} {q z q' z' : Nat} (h : ChnB E q z) (hq : q ≤ q') (hz : z ≤ z') : ChnB E q' z' := ⟨h.room, h.cnt, h.NL, h.CL, h.res, Nat.le_trans h.q hq, Nat.le_trans h.z hz⟩
/-- An actor at rest; one with a letter; one that has sent. -/
def Idle (E : Engn) (k : ByteArray) (m : Nat) : Prop := ∃ J s, E.act k = chA k J [] s [] ∧ JOk J ∧ J.version ≤ m ∧ s ≤ m
def Wait (E : Engn) (k : ByteArray) (v : Int) (m : Nat) : Prop := ∃ J l s, E.act k = chA k J [l] s [] ∧ JOk J ∧ l.Ok ∧ l.args = [v] ∧ J.version ≤ m ∧ s ≤ m
def Sent (E : Engn) (k : ByteArray) (v : Int) (m : Nat) : Prop := ∃ J s, E.act k = chA k J [] (s + 1) [(kB, chL k (s + 1) (wrap64 (v + 1)))] ∧ JOk J ∧ (stateOf J).getD 0 0 = v ∧ J.version ≤ m ∧ s + 1 ≤ m
theorem ab_ok {k : ByteArray} (h : k = kA ∨ k = kB) : KeyOk k := h.elim (fun e => e ▸ kA_ok) (fun e => e ▸ kB_ok)
section
variable {reg : Nat → Nat} {eb : Nat} {E : Engn} {k : ByteArray} {q z m : Nat} {v : Int} {w : World}
theorem chn_pick (h : EngAt w reg eb E) (hF : ChnB E q z) (hk : k = kA ∨ k = kB) (hW : Wait E k v m) (hq : q ≤ 215) (hz : z ≤ 700000) (hm : m ≤ 1000) :
    Calls Tryz.prog 10 #[.pointer (some ⟨eb, 0, none⟩), .string k] w fun e w' => ∃ (TA : Option Addr) (tc : Nat), e = .returned (.tuple #[.agg #[.bool true, .bool false, .int .i64 0, .int .i64 7, .slice TA 0 tc], .int .i64 0]) ∧ ∃ E', EngTo w reg eb E' w' ∧ ChnB E' (q + 1) (z + 3) ∧ Sent E' k v (m + 1) ∧ ∀ j, j ≠ k → E'.act j = E.act j := by
  obtain ⟨J, l, s, hact, hJ, hl, hargs, hv, hs⟩ := hW
  have hkk := ab_ok hk
  have hq' := hF.q
  have hz' := hF.z
  have hcn := hF.cnt
  have hv64 : In64 v := hl.each v (by rw [hargs]; simp)
  have hJ2 : JOk (addJ [(0, v)] J) := hJ.add v hv64 (by unfold U64; omega)
  have hok0 := chA_ok k J [l] s [] hkk hJ (fun x hx => by rw [List.mem_singleton.1 hx]; exact hl) (by simp) (by unfold U64; omega) (.inl rfl)
  have hok := chA_ok k (addJ [(0, v)] J) [] (s + 1) [(kB, chL k (s + 1) (wrap64 (v + 1)))] hkk hJ2 (fun _ h => by cases h) (by simp) (by unfold U64; omega) (.inr ⟨_, wrap64_in _, by omega, rfl⟩)
  refine (pick_okt reg eb E k true false 0 7 (chA k (addJ [(0, v)] J) [] (s + 1) [(kB, chL k (s + 1) (wrap64 (v + 1)))]) w h hkk (hF.hls hk) (fun W X p NA KA nC kC hact' hN hC => ?_) hok (by omega) (by omega) (by rw [encChs_one]; have := chA_len k (addJ [(0, v)] J) [] (s + 1) [(kB, chL k (s + 1) (wrap64 (v + 1)))] hkk hok.1 (by simp); omega)).mono ?_
  · rw [hact] at hact'
    rw [hF.NL] at hN
    rw [hF.CL] at hC
    rw [hF.NL, hF.CL]
    have hreg : arrC (stateOf J) = Ip.regC (fun j => (stateOf J).getD j 0) := arrC_reg _ (by show (setTo _ _).length = 8; rw [setTo_len]; exact hJ.1.base)
    refine (take_sent NA KA nC kC Ip.chNL Ip.chCL X p (chA k J [l] s []) k l [] v (wrap64 (v + 1)) 0 7 kB (if s = 0 then [] else [(kB, s)]) s (by
      by_cases h0 : s = 0
      · rw [if_pos h0]; exact .inl ⟨rfl, h0⟩
      · rw [if_neg h0]; exact .inr rfl) hkk kB_ok (by unfold U64; omega) rfl (by show J.version + 1 < _; omega) W hact' hok0 rfl hN hC (by show 7 ≤ 1000; omega) Ip.formed_chain (fun W' A c hb hr => ?_)).mono ?_
    · rw [hargs] at hr ⊢
      show Calls Tryz.prog 108 #[_, .agg (arrC (stateOf J)), _, _] W' _
      rw [hreg]
      exact Ip.run_chain _ _ NA KA A nC kC c l.frm l.serial l.kind v rfl hl.frm W' ⟨hN.below hb, hr⟩ (hC.below hb)
    · rintro e w' ⟨TA, tc, rfl, h1, h2⟩
      exact ⟨TA, tc, rfl, h1, h2⟩
  · rintro e w' ⟨TA, tc, rfl, h2⟩
    refine ⟨TA, tc, rfl, _, h2, ⟨hF.room, hF.cnt, hF.NL, hF.CL, ?_, by show E.q + 1 ≤ q + 1; omega, by show E.z + 3 ≤ z + 3; omega⟩, ⟨addJ [(0, v)] J, s, upd_same E.act (chA k (addJ [(0, v)] J) [] (s + 1) [(kB, chL k (s + 1) (wrap64 (v + 1)))]), hJ2, addJ_state J v hJ.1, ?_, by omega⟩, fun j hj => upd_other E.act (chA k (addJ [(0, v)] J) [] (s + 1) [(kB, chL k (s + 1) (wrap64 (v + 1)))]) hj⟩
    · rcases hk with rfl | rfl
      · exact .inr (.inl rfl)
      · exact .inr (.inr rfl)
    · rw [(addJ_len J v hJ.1).2]; omega
theorem chn_relay (h : EngAt w reg eb E) (hF : ChnB E q z) (hk : (k = kA ∧ Idle E kB m) ∨ k = kB) (hS : Sent E k v m) (hq : q ≤ 215) (hz : z ≤ 700000) (hm : m ≤ 1000) :
    Calls Tryz.prog 14 #[.pointer (some ⟨eb, 0, none⟩), .string k] w fun e w' => e = .returned (.tuple #[.string kB, .int .i64 0]) ∧ ∃ E', EngTo w reg eb E' w' ∧ ChnB E' (q + 1) (z + 4) ∧ Wait E' kB (wrap64 (v + 1)) m := by
  obtain ⟨J, s, hact, hJ, _, hv, hs⟩ := hS
  have hq' := hF.q
  have hz' := hF.z
  have hcn := hF.cnt
  have hs64 : U64 (s + 1) := by unfold U64; omega
  have hlk := fun (k : ByteArray) (hk : KeyOk k) => chL_ok k (s + 1) (wrap64 (v + 1)) hk.2 hs64 (wrap64_in _)
  have hrn : ∀ k, (if s + 1 = 0 then [] else [(kB, s + 1)]) = [(kB, s + 1)] := fun _ => if_neg (by omega)
  rcases hk with ⟨rfl, J2, s2, hact2, hJ2, hv2, hs2⟩ | rfl
  · have hl := hlk kA kA_ok
    have hok := chA_ok kA J [] (s + 1) [] kA_ok hJ (fun _ h => by cases h) (by simp) hs64 (.inl rfl)
    have hok2 := chA_ok kB J2 [chL kA (s + 1) (wrap64 (v + 1))] s2 [] kB_ok hJ2 (fun x hx => by rw [List.mem_singleton.1 hx]; exact hl) (by simp) (by unfold U64; omega) (.inl rfl)
    refine (relay_two reg eb E kA kB (if s + 1 = 0 then [] else [(kB, s + 1)]) (chL kA (s + 1) (wrap64 (v + 1))) (chA kA J [] (s + 1) []) (chA kB J2 [chL kA (s + 1) (wrap64 (v + 1))] s2 []) w h kA_ok kB_ok kAB hF.room (hF.hls (.inl rfl)) (by rw [hact]; rfl) hl.frm hl.args (by rw [hact2]; show 0 < 8; omega) ⟨by rw [hact]; rfl, by rw [hact2]; rfl⟩ ⟨hok, hok2⟩ (by omega) (by omega) (by
      rw [encChs_two]
      have h1 := chA_len kA J [] (s + 1) [] kA_ok hok.1 (by simp)
      have h2 := chA_len kB J2 [chL kA (s + 1) (wrap64 (v + 1))] s2 [] kB_ok hok2.1 (by simp)
      omega)).mono ?_
    rintro e w' ⟨rfl, h2⟩
    exact ⟨rfl, _, h2, ⟨hF.room, hF.cnt, hF.NL, hF.CL, .inr (.inr rfl), by show E.q + 1 ≤ q + 1; omega, by show E.z + 4 ≤ z + 4; omega⟩, J2, _, s2, upd_same (upd E.act (chA kA J [] (s + 1) [])) (chA kB J2 [chL kA (s + 1) (wrap64 (v + 1))] s2 []), hJ2, hl, rfl, hv2, hs2⟩
  · have hl := hlk kB kB_ok
    have hok := chA_ok kB J [chL kB (s + 1) (wrap64 (v + 1))] (s + 1) [] kB_ok hJ (fun x hx => by rw [List.mem_singleton.1 hx]; exact hl) (by simp) hs64 (.inl rfl)
    refine (relay_self reg eb E kB (if s + 1 = 0 then [] else [(kB, s + 1)]) (chL kB (s + 1) (wrap64 (v + 1))) (chA kB J [chL kB (s + 1) (wrap64 (v + 1))] (s + 1) []) w h kB_ok (hF.hls (.inr rfl)) (by rw [hact]; rfl) hl.frm hl.args (by rw [hact]; show 0 < 8; omega) (by rw [hact]; rfl) hok (by omega) (by omega) (by
      rw [encChs_one]
      have h1 := chA_len kB J [chL kB (s + 1) (wrap64 (v + 1))] (s + 1) [] kB_ok hok.1 (by simp)
      omega)).mono ?_
    rintro e w' ⟨rfl, h2⟩
    exact ⟨rfl, _, h2, ⟨hF.room, hF.cnt, hF.NL, hF.CL, .inr (.inr rfl), by show E.q + 1 ≤ q + 1; omega, by show E.z + 4 ≤ z + 4; omega⟩, J, _, s + 1, upd_same E.act (chA kB J [chL kB (s + 1) (wrap64 (v + 1))] (s + 1) []), hJ, hl, rfl, hv, hs⟩
end
end Go.Proofs.YtlcdjgpblpodaaaGreatDoor

/- Relay -/
import Derived.Test.YtlcdjgpblpodaaaGreatDoorMBP
import Derived.Test.YtlcdjgpblpodaaaGreatDoorMBJ
namespace Go.Proofs.YtlcdjgpblpodaaaGreatDoor
open Go.RowKit Go.Maps Go.Proofs.YtlcdjgpblpodaaaGreatDoorW.PrintWords

theorem ActP.popped {w w' : World} {X : Nat → Prop} {p jb ib ob pc : Nat} {a : Actr} {PA : Option Addr} {XJ XI XO XP : Nat → Prop} {o' : Outb} (h : ActP true w X p a jb ib ob PA pc XJ XI XO XP) (ho : OutbAt false w' XO ob o') (hc : Chg (fun k => k = ob) w w') :
    ActP false w' X p { a with outb := o' } jb ib ob PA pc XJ XI XO XP ∧ InbAt w' XI ib a.inbox := by
  have hob : XO ob := by
    obtain ⟨A, c, mb, n, q1, _⟩ := ho
    exact q1
  have hs := hc.size
  exact ⟨⟨h.pin, hc.blk h.blk (fun e => (h.sub ob (.inr (.inr (.inl hob)))).2.1 e.symm), h.jour.chg hc (fun k hk e => h.djo k hk (e ▸ hob)), h.inr.chg hc (fun k hk e => h.dio k hk (e ▸ hob)), nofun, ho, h.poi.chg hc (fun k hk e => h.dop ob hob (e ▸ hk)), fun k hk => ⟨(h.sub k hk).1, (h.sub k hk).2.1, by have := (h.sub k hk).2.2; omega⟩, h.dji, h.djo, h.djp, h.dio, h.dip, h.dop⟩, (h.inw rfl).chg hc (fun k hk e => h.dio k hk (e ▸ hob))⟩
theorem ActP.setInboxR {w w' : World} {X : Nat → Prop} {p jb ib ob pc : Nat} {a : Actr} {PA : Option Addr} {XJ XI XO XP : Nat → Prop} {ls : List Let} (h : ActP false w X p a jb ib ob PA pc XJ XI XO XP) (hi : InbAt w' (fun k => XI k ∨ w.heap.size ≤ k) ib ls) (hc : Chg XI w w') :
    ActP false w' (fun k => X k ∨ w.heap.size ≤ k) p { a with inbox := ls } jb ib ob PA pc XJ (fun k => (XI k ∨ w.heap.size ≤ k) ∧ k < w'.heap.size) XO XP := by
  have hs := hc.size
  have hp := h.blk.lt
  have hi' := inbat_lt hi
  refine ⟨.inl h.pin, hc.blk h.blk (fun e => (h.sub p (.inr (.inl e))).2.1 rfl), h.jour.chg hc h.dji, hi'.rd, nofun, h.outb.chg hc (fun k hk e => h.dio k e hk), h.poi.chg hc (fun k hk e => h.dip k e hk), fun k hk => ?_, fun k hk e => ?_, h.djo, h.djp, fun k e hk => ?_, fun k e hk => ?_, h.dop⟩
  · rcases hk with hk | hk | hk | hk
    · obtain ⟨a1, a2, a3⟩ := h.sub k (.inl hk)
      exact ⟨.inl a1, a2, by omega⟩
    · rcases hk.1 with e | e
      · obtain ⟨a1, a2, a3⟩ := h.sub k (.inr (.inl e))
        exact ⟨.inl a1, a2, by omega⟩
      · exact ⟨.inr e, by omega, hk.2⟩
    · obtain ⟨a1, a2, a3⟩ := h.sub k (.inr (.inr (.inl hk)))
      exact ⟨.inl a1, a2, by omega⟩
    · obtain ⟨a1, a2, a3⟩ := h.sub k (.inr (.inr (.inr hk)))
      exact ⟨.inl a1, a2, by omega⟩
  · rcases e.1 with e | e
    · exact h.dji k hk e
    · have := (h.sub k (.inl hk)).2.2; omega
  · rcases e.1 with e | e
    · exact h.dio k e hk
    · have := (h.sub k (.inr (.inr (.inl hk)))).2.2; omega
  · rcases e.1 with e | e
    · exact h.dip k e hk
    · have := (h.sub k (.inr (.inr (.inr hk)))).2.2; omega
set_option maxRecDepth 100000 in
set_option maxHeartbeats 4000000 in
theorem relay_self (reg : Nat → Nat) (eb : Nat) (E : Engn) (k : ByteArray) (ss : List (ByteArray × Nat)) (l : Let) (a' : Actr) (w : World) (h : EngAt w reg eb E) (hk : KeyOk k) (hls : E.ls = [] ∨ E.ls = [k] ∨ ∃ j, E.ls = [j] ∧ j ≠ k ∧ E.room = 1)
    (hout : (E.act k).outb = ⟨k, ss, [(k, l)]⟩) (hl3 : l.frm.size ≤ 40) (hl4 : l.args.length ≤ 4) (h8 : (E.act k).inbox.length < 8) (ha' : a' = { E.act k with outb := ⟨k, ss, []⟩, inbox := (E.act k).inbox ++ [l] })
    (hok : ActOk k a') (hq : 9 * (E.q + 1) ≤ E.cnt ∧ E.q ≤ 5000) (hz : E.z ≤ 800000) (hlen : (encChs [chOf a']).length ≤ 2000) :
    Calls Tryz.prog 14 #[.pointer (some ⟨eb, 0, none⟩), .string k] w fun e w' => e = .returned (.tuple #[.string k, .int .i64 0]) ∧ EngTo w reg eb { E with ls := [k], act := upd E.act a', q := E.q + 1, z := E.z + 4 } w' := by
  obtain ⟨bb, tt, ab, qb, wb, cb, nC, kC, NA, KA, hB⟩ := h.open_
  have c9 : w.cell? ⟨eb, 9, none⟩ = some (.bool false) := hB.blk.cell 9
  have hks := hk.2
  have HK := Lib.hid hk
  have HOUT := Lib.hid hout
  have HAE := Lib.hid ha'
  have HOK := Lib.hid hok
  have HLEN := Lib.hid hlen
  have HLD := Lib.hid (load_any reg eb E k hk hls (by omega) w h)
  have HE := Lib.hid h
  clear h hk hout ha' hok hlen hls hB
  go_enter Tryz.func14, Tryz.ntmps14
  go_wp2_with fail
  refine (gone_any eb w c9).mono ?_
  rintro e w2 ⟨rfl, rfl⟩
  go_wp2_with fail
  refine (key_any k HK.out w).mono ?_
  rintro e w2 ⟨rfl, rfl⟩
  clear c9
  go_wp2_with fail
  refine HLD.out.mono ?_
  rintro e w4 ⟨p0, reg1, rfl, hE4, hx4, hc4, ha4⟩
  have hok4 := hE4.1.act k HK.out
  have HCPD := Lib.hid (copied_any _ p0 (E.act k) hok4.1 hok4.2.1 hok4.2.2.1 w4 ha4)
  have HE4 := Lib.hid hE4
  have HX4 := Lib.hid hx4
  have HC4 := Lib.hid hc4
  clear hok4 hE4 hx4 hc4 ha4
  go_wp2_with fail
  refine HCPD.out.mono ?_
  rintro e w5 ⟨q, rfl, ha5, hb5⟩
  obtain ⟨jb, ib, ob, PA, pc, XJ, XI, XO, XP, hP⟩ := ha5.lt
  have q2 : w5.cell? ⟨q, 2, none⟩ = some (.pointer (some ⟨ob, 0, none⟩)) := hP.blk.cell 2
  have HPOP := Lib.hid (outpop XO ob k k ss l HK.out hl4 w5 (HOUT.out ▸ hP.outb))
  have HP := Lib.hid hP
  have HB5 := Lib.hid hb5
  clear hP hb5 ha5
  go_wp2_with fail
  refine HPOP.out.mono ?_
  rintro e w6 ⟨A, c, rfl, hA6, ho6, hc6⟩
  obtain ⟨hP6, hI6⟩ := HP.out.popped ho6 hc6
  have hs4 := HC4.out.size
  have hs5 := HB5.out.size
  have hs6 := hc6.size
  have hob : XO ob := by
    obtain ⟨A, c, mb, n, q1, _⟩ := ho6
    exact q1
  have hobx := (HP.out.sub ob (.inr (.inr (.inl hob)))).1
  have hb46 : Below w4.heap.size w4 w6 := HB5.out.trans (hc6.below (fun j hj => by have : j = ob := hj; omega) hs5)
  obtain ⟨bx, hbx⟩ : ∃ b, b = w6.heap.size := ⟨_, rfl⟩
  obtain ⟨ua, hua⟩ : ∃ b, b = w6.heap.size + 1 := ⟨_, rfl⟩
  obtain ⟨tb, htb⟩ : ∃ b, b = w6.heap.size + 1 + 1 := ⟨_, rfl⟩
  obtain ⟨W8, hW8⟩ : ∃ W, W = ((w6.alloc (.cells #[.string k, .string l.frm, .int .u64 l.serial, .int .i64 l.kind, .slice A l.args.length c] 139)).alloc (.cells #[.pointer (some ⟨q, 0, none⟩)] 38)).alloc (.cells #[.slice (some ⟨ua, 0, none⟩) 1 1, .pointer none, .pointer none, .slice none 0 0] 121) := ⟨_, rfl⟩
  have hb8 : Below w6.heap.size w6 W8 := hW8 ▸ (((Below.refl _ _).alloc (Nat.le_refl _) _).alloc (by simp) _).alloc (by simp; omega) _
  have hx8 : Blk W8 bx #[.string k, .string l.frm, .int .u64 l.serial, .int .i64 l.kind, .slice A l.args.length c] 139 := hW8 ▸ ((Blk.newAt hbx).alloc _).alloc _
  have hu8 : Blk W8 ua #[.pointer (some ⟨q, 0, none⟩)] 38 := hW8 ▸ (Blk.newAt (by rw [hua]; simp)).alloc _
  have ht8 : Blk W8 tb #[.slice (some ⟨ua, 0, none⟩) 1 1, .pointer none, .pointer none, .slice none 0 0] 121 := hW8 ▸ Blk.newAt (by rw [htb]; simp)
  have hs8 : W8.heap.size = w6.heap.size + 3 := by rw [hW8]; simp
  have hb48 : Below w4.heap.size w4 W8 := hb46.trans (hb8.mono (by omega))
  have HLD2 := Lib.hid (load_any reg1 eb { E with ls := [k], z := E.z + 1 } k HK.out (.inr (.inl rfl)) (by show E.z + 1 ≤ 900000; omega) W8 (HE4.out.below hb48))
  have d0 : W8.cell? ⟨bx, 0, none⟩ = some (.string k) := hx8.cell 0
  have HS8 := Lib.hid hs8
  have HX8 := Lib.hid hx8
  have HU8 := Lib.hid hu8
  have HT8 := Lib.hid ht8
  have HB48 := Lib.hid hb48
  have HP8 := Lib.hid (hP6.below (hb8))
  have HI8 := Lib.hid (hI6.chg (Chg.of_below hb8 (fun _ => False)) (fun _ _ h => h))
  have HA8 := Lib.hid (hA6.lt.below hb8)
  have HW8 := Lib.hid hW8
  have HBX := Lib.hid hbx
  have HUA := Lib.hid hua
  have HTB := Lib.hid htb
  have HS5 := Lib.hid (show w.heap.size ≤ w4.heap.size ∧ w4.heap.size ≤ w5.heap.size ∧ w5.heap.size ≤ w6.heap.size from ⟨hs4, hs5, hs6⟩)
  have dlt := hx8.lt
  clear hP6 hI6 hA6 ho6 hc6 hb46 hbx hua htb hW8 hb8 hx8 hu8 ht8 hs8 hb48 hobx hob hs4 hs5 hs6 q2
  go_upto_region 11 with fail
  rw [show w6.heap.size + 1 + 1 = tb from HTB.out.symm, show w6.heap.size + 1 = ua from HUA.out.symm, ← HBX.out, ← HW8.out]
  go_wp2_with fail
  refine HLD2.out.mono ?_
  rintro e w9 ⟨p2, reg2, rfl, hE9, hx9, hc9, ha9⟩
  obtain ⟨hsa, hsb, hsc⟩ := HS5.out
  have hs8 := HS8.out
  have hbx := HBX.out
  have hua := HUA.out
  have htb := HTB.out
  have hs9 := hc9.size
  have hn1 : ∀ j, w4.heap.size ≤ j → ¬ 2 ≤ reg1 j := fun j hj => by rw [HE4.out.new hj]; decide
  have hx9b := hc9.blk HX8.out (hn1 bx (by omega))
  have hu9 := hc9.blk HU8.out (hn1 ua (by omega))
  have ht9 := hc9.blk HT8.out (hn1 tb (by omega))
  have hp9 := HP8.out.chg hc9 (fun j hj => hn1 j hj.1)
  have hi9 := HI8.out.chg hc9 (fun j hj => hn1 j (HP8.out.sub j (.inr (.inl hj))).1.1)
  have ha9a := HA8.out.chg hc9 (fun j hj => hn1 j (by omega))
  have d0' : w9.cell? ⟨bx, 0, none⟩ = some (.string k) := hx9b.cell 0
  have dl9 := hx9b.lt
  have hdr : Below w9.heap.size w9 w9.drew := (Below.refl w9.heap.size w9).drew
  have hsd : w9.drew.heap.size = w9.heap.size := rfl
  have hpd := hp9.below hdr
  have hxd := hx9b.below hdr
  have HPD := Lib.hid hpd
  have HXD := Lib.hid hxd
  have HUD := Lib.hid (hu9.below hdr)
  have HTD := Lib.hid (ht9.below hdr)
  have HID := Lib.hid (hi9.chg (Chg.of_below hdr (fun _ => False)) (fun _ _ h => h))
  have HAD := Lib.hid (ha9a.below hdr)
  have q1 : w9.drew.cell? ⟨q, 1, none⟩ = some (.pointer (some ⟨ib, 0, none⟩)) := hpd.blk.cell 1
  have y1 : w9.drew.cell? ⟨bx, 1, none⟩ = some (.string l.frm) := hxd.cell 1
  have y2 : w9.drew.cell? ⟨bx, 2, none⟩ = some (.int .u64 l.serial) := hxd.cell 2
  have y3 : w9.drew.cell? ⟨bx, 3, none⟩ = some (.int .i64 l.kind) := hxd.cell 3
  have y4 : w9.drew.cell? ⟨bx, 4, none⟩ = some (.slice A l.args.length c) := hxd.cell 4
  have hXI : ∀ j, XI j → w4.heap.size ≤ j ∧ j < w5.heap.size := fun j hj => (HP8.out.sub j (.inr (.inl hj))).1
  have HXI := Lib.hid hXI
  have HPU := Lib.hid (push_ok XI (fun j => w5.heap.size ≤ j ∧ j < w6.heap.size) ib (E.act k).inbox l hl3 hl4 h8 A c w9.drew HID.out (fun j hj => (HPD.out.sub j (.inr (.inl hj))).2.2) HAD.out)
  have HE9 := Lib.hid hE9
  have HX9 := Lib.hid hx9
  have HC9 := Lib.hid hc9
  have HN1 := Lib.hid hn1
  have hql := hpd.blk.lt
  have hbl9 := hxd.lt
  have sq : (k.toList == k.toList) = true := beq_self_eq_true _
  clear hE9 hx9 hc9 ha9 hs8 hbx hua htb hs9 hn1 hx9b hu9 ht9 hp9 hi9 ha9a hdr hsd hpd hxd hXI hsa hsb hsc d0
  go_upto_region 16 with fail
  go_region_held3 (fun w' => w'.cell? ⟨q, 1, none⟩ = some (.pointer (some ⟨ib, 0, none⟩)) ∧ w'.cell? ⟨bx, 1, none⟩ = some (.string l.frm) ∧ w'.cell? ⟨bx, 2, none⟩ = some (.int .u64 l.serial) ∧ w'.cell? ⟨bx, 3, none⟩ = some (.int .i64 l.kind) ∧ w'.cell? ⟨bx, 4, none⟩ = some (.slice A l.args.length c)) (first | exact ⟨q1, y1, y2, y3, y4⟩ | exact ⟨q1', y1', y2', y3', y4'⟩)
    (first
      | (go_at_call 43
         refine HPU.out.mono ?_
         rintro e w10 ⟨rfl, hi10, hc10⟩
         have hbxe := HBX.out
         have hs568 := HS5.out
         have hx10 := hc10.blk HXD.out (fun e => by have h1 := HXI.out bx e; omega)
         have hp10 := HPD.out.setInboxR hi10 hc10
         have q1' : w10.cell? ⟨q, 1, none⟩ = some (.pointer (some ⟨ib, 0, none⟩)) := hp10.blk.cell 1
         have y1' : w10.cell? ⟨bx, 1, none⟩ = some (.string l.frm) := hx10.cell 1
         have y2' : w10.cell? ⟨bx, 2, none⟩ = some (.int .u64 l.serial) := hx10.cell 2
         have y3' : w10.cell? ⟨bx, 3, none⟩ = some (.int .i64 l.kind) := hx10.cell 3
         have y4' : w10.cell? ⟨bx, 4, none⟩ = some (.slice A l.args.length c) := hx10.cell 4
         have HP10 := Lib.hid hp10
         have HX10 := Lib.hid hx10
         have HC10 := Lib.hid hc10
         clear hbxe hs568 hi10 hc10 hx10 hp10))
  rename_i hHeld
  clear hHeld q1 y1 y2 y3 y4 q1' y1' y2' y3' y4'
  have hc10 := HC10.out
  have hXI := HXI.out
  have hs8 := HS8.out
  have hbx := HBX.out
  have hua := HUA.out
  have htb := HTB.out
  obtain ⟨hsa, hsb, hsc⟩ := HS5.out
  have hs9 := HC9.out.size
  have hsd : w9.drew.heap.size = w9.heap.size := rfl
  have hs10 := hc10.size
  have hu10 := hc10.blk HUD.out (fun e => by have h1 := hXI ua e; omega)
  have ht10 := hc10.blk HTD.out (fun e => by have h1 := hXI tb e; omega)
  have hX2 : ∀ j, ((w4.heap.size ≤ j ∧ j < W8.heap.size) ∨ w9.heap.size ≤ j) → reg2 j = 0 := fun j hj => by
    rcases hj with g | g
    · rw [HX9.out j g.2]; exact HE4.out.new g.1
    · exact HE9.out.new g
  have hE10 : EngAt w10 reg2 eb { E with ls := [k], z := E.z + 1 + 1 } := (HE9.out.below (w' := w9.drew) ((Below.refl w9.heap.size w9).drew)).chg hc10 (fun j hj e => hj (hX2 j (.inl (by have := hXI j e; omega))))
  have hact : ActAt false w10 (fun j => ((w4.heap.size ≤ j ∧ j < W8.heap.size) ∨ w9.heap.size ≤ j) ∧ j < w10.heap.size) q a' := by
    have g : ActAt false w10 _ q { E.act k with outb := ⟨k, ss, []⟩, inbox := (E.act k).inbox ++ [l] } := ⟨jb, ib, ob, PA, pc, XJ, _, XO, XP, HP10.out⟩
    rw [HAE.out]
    exact g.lt.mono (fun j hj => ⟨by rcases hj.1 with e | e; exact .inl (by omega); exact .inr (by omega), hj.2⟩)
  have hown : a'.outb.owner = k := HOK.out.2.2.2.1
  have hcm := commit_eng reg2 eb { E with ls := [k], z := E.z + 1 + 1 } (fun j => ((w4.heap.size ≤ j ∧ j < W8.heap.size) ∨ w9.heap.size ≤ j) ∧ j < w10.heap.size) ua 0 1 [(q, a')] none w10 hE10 (UnA.one hu10 hact) (hX2 ua (.inl (by omega))) (fun j hj => ⟨hX2 j hj.1, hj.2⟩) ⟨Nat.le_refl 1, by show 1 ≤ 2; omega⟩
    (fun u hu => by rw [List.mem_singleton.1 hu]; simp only [hown]; exact ⟨HK.out, HOK.out⟩) (by simp) (fun b W e => by cases e) hq (by show E.z + 1 + 1 ≤ 900000; omega) HLEN.out
  have HCM := Lib.hid (show Calls Tryz.prog 46 #[.pointer (some ⟨eb, 0, none⟩), .agg #[.slice (some ⟨ua, 0, none⟩) 1 1, .pointer none, .pointer none, .slice none 0 0]] w10 fun e w' => e = .returned (.int .i64 0) ∧ ∃ reg', EngAt w' reg' eb { E with ls := [k], act := upd E.act a', q := E.q + 1, z := E.z + 4 } ∧ (∀ j, j < w10.heap.size → reg' j = reg2 j ∨ ((((w4.heap.size ≤ j ∧ j < W8.heap.size) ∨ w9.heap.size ≤ j) ∧ j < w10.heap.size) ∧ reg' j = 1)) ∧ Chg (fun j => 2 ≤ reg2 j) w10 w' from hcm)
  have t0 : w10.cell? ⟨tb, 0, none⟩ = some (.slice (some ⟨ua, 0, none⟩) 1 1) := ht10.cell 0
  have t1 : w10.cell? ⟨tb, 1, none⟩ = some (.pointer none) := ht10.cell 1
  have t2 : w10.cell? ⟨tb, 2, none⟩ = some (.pointer none) := ht10.cell 2
  have t3 : w10.cell? ⟨tb, 3, none⟩ = some (.slice none 0 0) := ht10.cell 3
  have HX2 := Lib.hid hX2
  have HSZ := Lib.hid (show w.heap.size ≤ w4.heap.size ∧ w4.heap.size ≤ w5.heap.size ∧ w5.heap.size ≤ w6.heap.size ∧ bx = w6.heap.size ∧ W8.heap.size = w6.heap.size + 3 ∧ W8.heap.size ≤ w9.heap.size ∧ w9.heap.size ≤ w10.heap.size from ⟨hsa, hsb, hsc, hbx, hs8, hs9, by omega⟩)
  have HC910 := Lib.hid (show Chg (fun j => w4.heap.size ≤ j) w9 w10 from (((Chg.refl (fun j => w4.heap.size ≤ j) w9).drew).trans hc10 (fun j _ e => (hXI j e).1)))
  clear hc10 hXI hs8 hbx hua htb hsa hsb hsc hs9 hsd hs10 ht10 hX2 hE10 hown hcm hu10 hact
  go_wp2_with fail
  refine HCM.out.mono ?_
  rintro e w11 ⟨rfl, reg3, hE11, hx11, hc11⟩
  obtain ⟨bb11, tt11, ab11, qb11, wb11, cb11, nC11, kC11, NA11, KA11, hB11⟩ := hE11.open_
  have d8 : w11.cell? ⟨eb, 8, none⟩ = some (.pointer (some ⟨cb11, 0, none⟩)) := hB11.blk.cell 8
  obtain ⟨za, zb, zc, zd, ze, zf, zg⟩ := HSZ.out
  have hrb : reg2 bx = 0 := HX2.out bx (.inl (by omega))
  have hx11b := hc11.blk HX10.out (by rw [hrb]; decide)
  have hrb3 : ¬ 2 ≤ reg3 bx := fun e => by
    rcases hx11 bx HX10.out.lt with g | ⟨_, g⟩
    · omega
    · omega
  have HN := Lib.hid (count_any cb11 3 (by omega) 1 w11 hB11.cnt)
  have HE11 := Lib.hid hE11
  have HX11 := Lib.hid hx11
  have HC11 := Lib.hid hc11
  have HXB := Lib.hid hx11b
  have HRB3 := Lib.hid hrb3
  clear hE11 hx11 hc11 hB11 t0 t1 t2 t3 za zb zc zd ze zf zg hrb hx11b hrb3
  go_wp2_with fail
  refine HN.out.mono ?_
  rintro e w12 ⟨⟨x, rfl⟩, hn12, hc12⟩
  obtain ⟨⟨reg4, h3, x3⟩, k3⟩ := HE11.out.counted d8 rfl hn12 hc12
  have hx12 := k3.blk HXB.out HRB3.out
  have d12 : w12.cell? ⟨bx, 0, none⟩ = some (.string k) := hx12.cell 0
  have dl12 := hx12.lt
  have HE12 := Lib.hid h3
  have HX12 := Lib.hid x3
  have HC12 := Lib.hid k3
  clear d8 hn12 hc12 h3 x3 k3 hx12
  go_wp2_with fail
  go_ret2
  obtain ⟨za, zb, zc, zd, ze, zf, zg⟩ := HSZ.out
  have zh := HC11.out.size
  have hx2 : ∀ j, j < w.heap.size → reg2 j = reg j := fun j hj => (HX9.out j (by omega)).trans (HX4.out j (by omega))
  have hx3 : ∀ j, j < w.heap.size → reg3 j = reg j := fun j hj => by
    rcases HX11.out j (by omega) with e | ⟨e, _⟩
    · exact e.trans (hx2 j hj)
    · omega
  refine ⟨rfl, ⟨reg4, HE12.out, fun j hj => (HX12.out j (by omega)).trans (hx3 j hj)⟩, (((((HC4.out.then_below HB48.out).trans HC9.out (fun j hj e => ?_)).trans HC910.out (fun j hj e => by omega)).trans HC11.out (fun j hj e => ?_)).trans HC12.out (fun j hj e => ?_))⟩
  · rw [HX4.out j hj] at e; exact e
  · rw [hx2 j hj] at e; exact e
  · rw [hx3 j hj] at e; exact e
end Go.Proofs.YtlcdjgpblpodaaaGreatDoor

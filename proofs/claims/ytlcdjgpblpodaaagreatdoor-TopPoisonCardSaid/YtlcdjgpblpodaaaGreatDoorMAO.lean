/- Act3, Act4 -/
import Derived.Test.YtlcdjgpblpodaaaGreatDoorMAN
namespace Go.Proofs.YtlcdjgpblpodaaaGreatDoor
open Go.RowKit Go.Maps Go.Proofs.YtlcdjgpblpodaaaGreatDoorW.PrintWords

/-- This outbox can be written as bytes. -/
def OutEnc (o : Outb) : Prop := ∀ (X : Nat → Prop) (ob : Nat) (w : World), OutbAt false w X ob o →
    Calls Tryz.prog 110 #[.pointer (some ⟨ob, 0, none⟩)] w fun e w' => ∃ A c, e = .returned (.slice A (encOutb o).length c) ∧ w'.ownsRow w.heap.size 5 1 (.slice A (encOutb o).length c) (encOutb o).length (encs (Value.int .u8) (encOutb o)) ∧ Below w.heap.size w w'
/-- .. and be read back. -/
def OutDec (o : Outb) : Prop := ∀ (A : Option Addr) (c0 : Nat) (w : World), ReadsOf (Value.int .u8) (0 : Int) w A (encOutb o).length (encOutb o) →
    Calls Tryz.prog 87 #[.slice A (encOutb o).length c0] w fun e w' => ∃ ob, e = .returned (.tuple #[.pointer (some ⟨ob, 0, none⟩), .int .i64 0]) ∧ OutbAt true w' (fun k => w.heap.size ≤ k) ob o ∧ Below w.heap.size w w'
theorem OutEnc.zero (s : ByteArray) (hs : KeyOk s) : OutEnc (outb0 s) := fun X ob w h => outenc0 X ob s hs w h
theorem OutDec.zero (s : ByteArray) (hs : KeyOk s) : OutDec (outb0 s) := fun A c w h => outdec0 A c s hs w h

theorem bytesOf_strOf (bs : List Int) (h : IsBytes bs) : bytesOf (strOfNums bs) = bs := by
  unfold bytesOf strOfNums
  rw [List.map_map]
  conv => rhs; rw [← List.map_id bs]
  apply List.map_congr_left
  intro x hx
  have := h x hx
  simp
  omega
theorem ActP.lt {fr : Bool} {w : World} {X : Nat → Prop} {p jb ib ob pc : Nat} {a : Actr} {PA : Option Addr} {XJ XI XO XP : Nat → Prop} (h : ActP fr w X p a jb ib ob PA pc XJ XI XO XP) : ActP fr w (fun k => X k ∧ k < w.heap.size) p a jb ib ob PA pc XJ XI XO XP :=
  ⟨⟨h.pin, h.plt⟩, h.blk, h.jour, h.inr, h.inw, h.outb, h.poi, fun k hk => ⟨⟨(h.sub k hk).1, (h.sub k hk).2.2⟩, (h.sub k hk).2⟩, h.dji, h.djo, h.djp, h.dio, h.dip, h.dop⟩
set_option maxRecDepth 100000 in
set_option maxHeartbeats 1000000 in
theorem actenc {fr : Bool} (X : Nat → Prop) (p : Nat) (a : Actr) (ha : a.Ok) (ho : OutEnc a.outb) (w : World) (h : ActAt fr w X p a) :
    Calls Tryz.prog 92 #[.pointer (some ⟨p, 0, none⟩)] w fun e w' => ∃ A c, e = .returned (.tuple #[.slice A (encAct a).length c, .int .i64 0]) ∧ w'.ownsRow w.heap.size 5 1 (.slice A (encAct a).length c) (encAct a).length (encs (Value.int .u8) (encAct a)) ∧ Below w.heap.size w w' := by
  have HS := Lib.hid (sound_act X p a ha w h)
  obtain ⟨jb, ib, ob, PA, pc, XJ, XI, XO, XP, h⟩ := h
  have HA := Lib.hid h.rd.lt
  have HOK := Lib.hid ha
  have HOE := Lib.hid ho
  have htr := ha.tries
  have tw : IntKind.u64.wrap (a.tries : Int) = (a.tries : Int) := by rw [IntKind.wrap_u64]; omega
  clear h ha ho
  go_enter Tryz.func92, Tryz.ntmps92
  go_wp2_with fail
  refine HS.out.mono ?_
  rintro e w1 ⟨rfl, hb1⟩
  have HB1 := Lib.hid hb1
  have HA1 := Lib.hid (HA.out.below hb1)
  have c4 : w1.cell? ⟨p, 4, none⟩ = some (.slice PA a.poison.length pc) := HA1.out.blk.cell 4
  clear hb1
  go_wp2_with fail
  refine (pack_any PA pc a.poison HOK.out.poison HOK.out.few XP w1 HA1.out.poi).mono ?_
  rintro e w2 ⟨A4, c4', rfl, ho4, hb2⟩
  have HO4 := Lib.hid ho4
  have HA2 := Lib.hid (HA1.out.below hb2)
  have HB2 := Lib.hid (HB1.out.trans (hb2.mono HB1.out.size))
  clear ho4 hb2 c4
  go_wp2_with fail
  refine (newwriter w2).mono ?_
  rintro e w3 ⟨rfl, hw3⟩
  have HP := Lib.hid (show WP w3 w2.heap.size (fun k => k = w2.heap.size) [] w3 from hw3 ▸ WP.new w2)
  have hb3 : Below w2.heap.size w2 w3 := hw3 ▸ (Below.refl _ _).alloc (Nat.le_refl _) _
  have HB3 := Lib.hid hb3
  have HA3 := Lib.hid (HA2.out.below hb3)
  have HO43 := Lib.hid (own_below HO4.out hb3)
  have c3 : w3.cell? ⟨p, 3, none⟩ = some (.int .i64 a.tries) := HA3.out.blk.cell 3
  clear hw3 hb3
  obtain ⟨wb, hwb⟩ : ∃ b, b = w2.heap.size := ⟨_, rfl⟩
  have HWB := Lib.hid hwb
  rw [← hwb] at HP ⊢
  clear hwb
  go_wp2_with fail
  refine (WP.num a.tries (by omega) (by simp) HP.out).mono ?_
  rintro e w4 ⟨rfl, h1⟩
  rw [List.nil_append] at h1
  have H4 := Lib.hid h1
  have hs1 := HB1.out.size
  have hs2 := HB2.out.size
  have hXn : ∀ k, (X k ∧ k < w.heap.size) → ¬ k = wb := fun k hk => by have := HWB.out; omega
  have HA4 := Lib.hid (HA3.out.chg h1.chg hXn)
  have HO44 := Lib.hid (h1.chg.owns HO43.out (fun k hk e => by have := own_lt HO4.out k hk; have := HWB.out; omega))
  have c0 : w4.cell? ⟨p, 0, none⟩ = some (.pointer (some ⟨jb, 0, none⟩)) := HA4.out.blk.cell 0
  have c1 : w4.cell? ⟨p, 1, none⟩ = some (.pointer (some ⟨ib, 0, none⟩)) := HA4.out.blk.cell 1
  have c2 : w4.cell? ⟨p, 2, none⟩ = some (.pointer (some ⟨ob, 0, none⟩)) := HA4.out.blk.cell 2
  have HA4d := Lib.hid (HA4.out.below (w' := w4.drew) ((Below.refl _ _).drew))
  have hpl := HA4.out.plt
  clear h1 hXn c3
  go_upto_region 6 with fail
  go_region_held3 (fun w' => w'.cell? ⟨p, 0, none⟩ = some (.pointer (some ⟨jb, 0, none⟩)) ∧ w'.cell? ⟨p, 1, none⟩ = some (.pointer (some ⟨ib, 0, none⟩)) ∧ w'.cell? ⟨p, 2, none⟩ = some (.pointer (some ⟨ob, 0, none⟩)) ∧ Hid (ActP false w' (fun k => X k ∧ k < w.heap.size) p a jb ib ob PA pc XJ XI XO XP))
    (first
      | exact ⟨c0, c1, c2, HA4d⟩
      | exact ⟨HA5.out.blk.cell 0, HA5.out.blk.cell 1, HA5.out.blk.cell 2, HA5⟩
      | exact ⟨HA6.out.blk.cell 0, HA6.out.blk.cell 1, HA6.out.blk.cell 2, HA6⟩
      | exact ⟨HA7.out.blk.cell 0, HA7.out.blk.cell 1, HA7.out.blk.cell 2, HA7⟩
      | exact ⟨(HA7.out.below ((Below.refl _ _).alloc (Nat.le_refl _) _)).blk.cell 0, (HA7.out.below ((Below.refl _ _).alloc (Nat.le_refl _) _)).blk.cell 1, (HA7.out.below ((Below.refl _ _).alloc (Nat.le_refl _) _)).blk.cell 2, HA7.out.below ((Below.refl _ _).alloc (Nat.le_refl _) _)⟩)
    (first
      | (go_at_call 160
         refine (jenc_any XJ jb a.jour HOK.out.jour w4.drew HA4d.out.jour).mono ?_
         rintro e w5 ⟨A1, c1', rfl, ho1, hb5⟩
         have HO1 := Lib.hid ho1
         have HB5 := Lib.hid hb5
         have HA5 := Lib.hid (HA4d.out.below hb5)
         clear ho1 hb5)
      | (go_at_call 161
         refine (inbenc_any XI ib a.inbox HOK.out.inbox HOK.out.room w5 HA5.out.inr).mono ?_
         rintro e w6 ⟨A2, c2', rfl, ho2, hb6⟩
         have HO2 := Lib.hid ho2
         have HB6 := Lib.hid hb6
         have HA6 := Lib.hid (HA5.out.below hb6)
         clear ho2 hb6)
      | (go_at_call 110
         refine (HOE.out XO ob w6 HA6.out.outb).mono ?_
         rintro e w7 ⟨A3, c3', rfl, ho3, hb7⟩
         have HO3 := Lib.hid ho3
         have HB7 := Lib.hid hb7
         have HA7 := Lib.hid (HA6.out.below hb7)
         clear ho3 hb7))
  have hal : ∀ o, Below w7.heap.size w7 (w7.alloc o) := fun o => (Below.refl _ _).alloc (Nat.le_refl _) o
  obtain ⟨W8, hW8⟩ : ∃ W, W = w7.alloc (.cells #[.slice A1 (encJour a.jour).length c1', .slice A2 (encLets a.inbox).length c2', .slice A3 (encOutb a.outb).length c3', .slice A4 (encLets a.poison).length c4'] 88) := ⟨_, rfl⟩
  rw [← hW8]
  have hb8 : Below w7.heap.size w7 W8 := hW8 ▸ hal _
  have hs3 := HB3.out.size
  have hs4 := H4.out.chg.size
  have hs5 : w4.heap.size ≤ w5.heap.size := HB5.out.size
  have hs6 := HB6.out.size
  have hs7 := HB7.out.size
  have hs8 : w7.heap.size < W8.heap.size := by rw [hW8]; simp
  have hb48 : Below w4.heap.size w4 W8 := ((((Below.refl w4.heap.size w4).drew.trans HB5.out).trans (HB6.out.mono hs5)).trans (HB7.out.mono (by omega))).trans (hb8.mono (by omega))
  obtain ⟨X1, x1, x2, x3, x4⟩ := H4.out.rebase
  have hrb : ¬ X1 w7.heap.size := fun h => by have := x1 _ h; omega
  have hblk : Blk W8 w7.heap.size #[.slice A1 (encJour a.jour).length c1', .slice A2 (encLets a.inbox).length c2', .slice A3 (encOutb a.outb).length c3', .slice A4 (encLets a.poison).length c4'] 88 := hW8 ▸ Blk.new _ _ _
  have o1 := own_below (own_below (own_below HO1.out HB6.out) HB7.out) hb8
  have o2 := own_below (own_below HO2.out HB7.out) hb8
  have o3 := own_below HO3.out hb8
  have o4 := own_below HO44.out hb48
  have l1 := encJour_length a.jour HOK.out.jour
  have l1' := HOK.out.jour.few
  have l2 := encLets_length a.inbox HOK.out.inbox HOK.out.room
  have l2' := HOK.out.room
  have l3 := encOutb_length a.outb HOK.out.outb
  have l3' := HOK.out.outb.counts
  have l4 := encLets_length a.poison HOK.out.poison HOK.out.few
  have l4' := HOK.out.few
  have l0 := (encNum_length a.tries (by omega)).2
  have m1 := encBytes_length (encJour a.jour) (show _ < _ by omega)
  have m2 := encBytes_length (encLets a.inbox) (show _ < _ by omega)
  have m3 := encBytes_length (encOutb a.outb) (show _ < _ by omega)
  have m4 := encBytes_length (encLets a.poison) (show _ < _ by omega)
  obtain ⟨P, hP⟩ : ∃ P : Nat → List Int, P = fun k => if k = 0 then encNum a.tries else if k = 1 then encNum a.tries ++ encBytes (encJour a.jour) else if k = 2 then encNum a.tries ++ encBytes (encJour a.jour) ++ encBytes (encLets a.inbox) else if k = 3 then encNum a.tries ++ encBytes (encJour a.jour) ++ encBytes (encLets a.inbox) ++ encBytes (encOutb a.outb) else encNum a.tries ++ encBytes (encJour a.jour) ++ encBytes (encLets a.inbox) ++ encBytes (encOutb a.outb) ++ encBytes (encLets a.poison) := ⟨_, rfl⟩
  have hR : ∀ k, k < 4 → ∃ A c bs, W8.cell? ⟨w7.heap.size, k, none⟩ = some (.slice A bs.length c) ∧ W8.ownsRow 0 5 1 (.slice A bs.length c) bs.length (encs (Value.int .u8) bs) ∧ (∀ j, (Value.slice A bs.length c).ownBlock = some j → ¬ X1 j) ∧ IsBytes bs ∧ bs.length ≤ 100000 ∧ P (k + 1) = P k ++ encBytes bs ∧ (P k).length ≤ 100000 := by
    intro k hk
    have hk' : k = 0 ∨ k = 1 ∨ k = 2 ∨ k = 3 := by omega
    rcases hk' with rfl | rfl | rfl | rfl
    · exact ⟨A1, c1', encJour a.jour, hblk.cell 0, own_weaken o1 (Nat.zero_le _), fun j hj h => by have := own_base o1 j hj; have := x1 _ h; have e : w4.drew.heap.size = w4.heap.size := rfl; omega, encJour_bytes _ HOK.out.jour, by omega, by simp [hP], by simp [hP]; omega⟩
    · exact ⟨A2, c2', encLets a.inbox, hblk.cell 1, own_weaken o2 (Nat.zero_le _), fun j hj h => by have := own_base o2 j hj; have := x1 _ h; omega, encLets_bytes _ HOK.out.inbox HOK.out.room, by omega, by simp [hP], by simp [hP]; omega⟩
    · exact ⟨A3, c3', encOutb a.outb, hblk.cell 2, own_weaken o3 (Nat.zero_le _), fun j hj h => by have := own_base o3 j hj; have := x1 _ h; omega, encOutb_bytes _ HOK.out.outb, by omega, by simp [hP], by simp [hP]; omega⟩
    · exact ⟨A4, c4', encLets a.poison, hblk.cell 3, own_weaken o4 (Nat.zero_le _), fun j hj h => by have := own_lt HO4.out j hj; have := HWB.out; rcases x2 _ h with h | h <;> omega, encLets_bytes _ HOK.out.poison HOK.out.few, by omega, by simp [hP], by simp [hP]; omega⟩
  have hPe : P 4 = encAct a := by simp [hP, encAct]
  have hPl : (P 4).length ≤ 100000 := by simp [hP]; omega
  have HP0 := Lib.hid (show WP W8 wb X1 (P 0) W8 from by have := x3 W8 hb48; simpa [hP] using this)
  have HR := Lib.hid hR
  have HBW := Lib.hid (show Below w.heap.size w W8 from ((HB2.out.trans (HB3.out.mono hs2)).trans (H4.out.chg.below (fun k hk => by have := HWB.out; rw [hk]; omega) (by omega))).trans (hb48.mono (by omega)))
  have HX1 := Lib.hid (show ∀ k, X1 k → w.heap.size ≤ k from fun k hk => (x2 k hk).elim (fun h => by have := HWB.out; omega) (fun h => by omega))
  have HX2 := Lib.hid hrb
  have hWs : w.heap.size ≤ W8.heap.size := by omega
  have HPE := Lib.hid hPe
  clear hR hblk o1 o2 o3 o4 l1 l1' l2 l2' l3 l3' l4 l4' l0 m1 m2 m3 m4 hP x1 x2 x3 x4 hb48 hb8 hW8 hal hrb c0 c1 c2 hPe
  clear HA HA1 HA2 HA3 HA4 HA4d HA5 HA6 HA7 HO1 HO2 HO3 HO4 HO43 HO44 HP H4 hs1 hs2 hs3 hs4 hs5 hs6 hs7 hpl HB1 HB2 HB3 HB5 HB6 HB7
  rename_i hHeld
  clear hHeld
  go_wp2_with fail
  go_loopw [46] (fun s wr => ∃ k : Nat, s = .int .i64 k ∧ k ≤ 4 ∧ WP W8 wb X1 (P k) wr) (fun s _ => 4 - (intOf s).toNat)
  case atStart => exact ⟨0, rfl, Nat.zero_le _, HP0.out⟩
  case round =>
    obtain ⟨k, rfl, hk, hp⟩ := hrel
    have k0 : (0 : Int) ≤ (k : Int) := by omega
    by_cases hkl : k < 4
    · have k1 : (k : Int) < 4 := by omega
      obtain ⟨A, c, bs, g0, g1, g2, g3, g4, g5, g6⟩ := HR.out k hkl
      have q0 := hp.chg.cell (a := ⟨w7.heap.size, k, none⟩) HX2.out g0
      have q1 := hp.chg.owns g1 g2
      obtain ⟨A', c', he, hle, hrd⟩ := own_reads_of_le (d := (0 : Int)) q1
      injection he with he1 _ he3
      subst he1 he3
      have hcv := conv_str (c := c) hrd
      have hbl := World.block_lt_of_cell? wr _ q0
      simp only at hbl
      have HG := Lib.hid (show encText (strOfNums bs) = encBytes bs from by rw [encText_eq, bytesOf_strOf bs g3])
      have HG5 := Lib.hid g5
      have hsz : (strOfNums bs).size = bs.length := by rw [← bytesOf_length, bytesOf_strOf bs g3]
      have HPR := Lib.hid hp
      clear hp g0 g1 g2 g3 g5 q1 hle hrd
      go_wp2_with fail
      refine (WP.text (strOfNums bs) (by omega) (by omega) HPR.out).mono ?_
      rintro e w9 ⟨rfl, h9⟩
      rw [HG.out, ← HG5.out] at h9
      have H9 := Lib.hid h9
      clear h9
      go_wp2_with fail
      go_roundw
      case rel => exact ⟨k + 1, by go_num, by omega, H9.out⟩
      case measure => simp [intOf]; omega
    · obtain rfl : k = 4 := by omega
      have HPR := Lib.hid hp
      clear hp
      go_wp2_with fail
      refine (WP.bytes (by omega) HPR.out).mono ?_
      rintro e w9 ⟨A, c, rfl, h6, h7⟩
      have hs9 := HPR.out.chg.size
      have H6 := Lib.hid (own_weaken h6 (show w.heap.size ≤ wr.heap.size by omega))
      have H7 := Lib.hid (show Below w.heap.size w w9 from (HBW.out.trans (HPR.out.chg.below HX1.out hWs)).trans (h7.mono (by omega)))
      clear h6 h7
      go_wp2_with fail
      go_ret2
      have h6 := H6.out
      rw [HPE.out] at h6
      exact ⟨A, c, by rw [← HPE.out]; rfl, h6, H7.out⟩
end Go.Proofs.YtlcdjgpblpodaaaGreatDoor
namespace Go.Proofs.YtlcdjgpblpodaaaGreatDoor
open Go.RowKit Go.Maps Go.Proofs.YtlcdjgpblpodaaaGreatDoorW.PrintWords

theorem bytesWorld_below (W : World) (s : ByteArray) : Below W.heap.size W (Lib.bytesWorld W 5 s) :=
  ⟨rfl, rfl, rfl, by rw [Lib.bytesWorld_size]; omega, fun k hk => Lib.bytesWorld_at_old W 5 s k hk⟩
theorem bytesWorld_reads (W : World) (bs : List Int) (h : IsBytes bs) (hl : bs.length ≤ 1099511627776) : ReadsOf (Value.int .u8) (0 : Int) (Lib.bytesWorld W 5 (strOfNums bs)) (some ⟨W.heap.size, 0, none⟩) bs.length bs := by
  refine ⟨rfl, by omega, fun _ => ⟨_, rfl, fun j hj => ?_⟩⟩
  rw [show (⟨W.heap.size, 0, none⟩ : Addr).add j = ⟨W.heap.size, j, none⟩ by rw [Go.WideShapes.add_plain, Nat.zero_add], Lib.bytesWorld_cell _ _ _ _ (by rw [strOfNums_size]; exact hj), strOfNums_data]
  have hx := h (bs[j]) (List.getElem_mem hj)
  simp [List.getD, hj]
  omega
theorem conv_bytes (bs : List Int) (W : World) : (convert 9 88 (.string (strOfNums bs))).run Tryz.prog W = .ok (.slice (some ⟨W.heap.size, 0, none⟩) bs.length (grownCap W bs.length 0 5)) (Lib.bytesWorld W 5 (strOfNums bs)) := by
  have h := Lib.run_convert_string_bytes (P := Tryz.prog) W 9 88 5 (strOfNums bs) Tryz.underlying9 Tryz.underlying88 Tryz.underlying5
  rwa [strOfNums_size] at h
theorem part211 (w : World) {i : Nat} (h : i < 4) : (part 25 #[.int .i64 0, .int .i64 0, .int .i64 0, .int .i64 0] (i * Tryz.prog.cellsOf 25)).run Tryz.prog w = .ok (.int .i64 0) w := by
  match i, h with
  | 0, _ | 1, _ | 2, _ | 3, _ => exact (show _ = _ by kernel_rfl)
theorem items211 (w : World) : ∀ is : List Nat, (∀ i ∈ is, i < 4) → (Op.eqItems 9999 25 (Tryz.prog.cellsOf 25) #[.int .i64 0, .int .i64 0, .int .i64 0, .int .i64 0] #[.int .i64 0, .int .i64 0, .int .i64 0, .int .i64 0] is).run Tryz.prog w = .ok true w
  | [], _ => rfl
  | i :: is, h => by
    simp only [Op.eqItems, Sem.run_bind, part211 w (h i (List.mem_cons_self ..)), Result.andThen_ok]
    rw [run_equalIn_int w 9998 25 _ _ _ _ Tryz.underlying25]
    simp only [beq_self_eq_true, Result.andThen_ok, Bool.not_true, Bool.false_eq_true, if_false]
    exact items211 w is (fun j hj => h j (List.mem_cons_of_mem _ hj))
theorem eq211 (w : World) : (Op.equalIn 10000 211 (.agg #[.int .i64 0, .int .i64 0, .int .i64 0, .int .i64 0]) (.agg #[.int .i64 0, .int .i64 0, .int .i64 0, .int .i64 0])).run Tryz.prog w = .ok true w := by
  obtain ⟨i, hi⟩ := Option.isSome_iff_exists.1 (show (Tryz.prog.info? 25).isSome = true by kernel_rfl)
  rw [run_equalIn_array w 9999 _ _ Tryz.underlying211 hi]
  exact items211 w _ (fun i hi => by simpa using hi)

set_option maxRecDepth 100000 in
set_option maxHeartbeats 1000000 in
theorem actdec (A : Option Addr) (c0 : Nat) (a : Actr) (ha : a.Ok) (ho : OutDec a.outb) (w : World) (hr : ReadsOf (Value.int .u8) (0 : Int) w A (encAct a).length (encAct a)) :
    Calls Tryz.prog 33 #[.slice A (encAct a).length c0] w fun e w' => ∃ p, e = .returned (.tuple #[.pointer (some ⟨p, 0, none⟩), .int .i64 0]) ∧ ActAt true w' (fun k => w.heap.size ≤ k) p a ∧ Below w.heap.size w w' := by
  have l1 := encJour_length a.jour ha.jour
  have l1' := ha.jour.few
  have l2 := encLets_length a.inbox ha.inbox ha.room
  have l2' := ha.room
  have l3 := encOutb_length a.outb ha.outb
  have l3' := ha.outb.counts
  have l4 := encLets_length a.poison ha.poison ha.few
  have l4' := ha.few
  have htr := ha.tries
  have hlen := encAct_length a ha
  have hmin : min (a.tries : Int) 3 = (a.tries : Int) := by omega
  have tw : IntKind.i64.wrap (a.tries : Int) = (a.tries : Int) := by rw [IntKind.wrap_i64]; omega
  have HN := Lib.hid (RP.new A c0 _ w hr (by omega) (encAct_bytes a ha))
  have HOK := Lib.hid ha
  have HOD := Lib.hid ho
  obtain ⟨N, hN⟩ : ∃ N, N = (encAct a).length := ⟨_, rfl⟩
  rw [← hN] at HN ⊢
  rw [show encAct a = encNum a.tries ++ (encBytes (encJour a.jour) ++ (encBytes (encLets a.inbox) ++ (encBytes (encOutb a.outb) ++ (encBytes (encLets a.poison) ++ [])))) by simp [encAct]] at HN
  clear hr ha ho hN hlen
  go_enter Tryz.func33, Tryz.ntmps33
  go_wp2_with fail
  refine HN.out.mono ?_
  rintro e w1 ⟨rb, rfl, hrb, hp, hb⟩
  have HB0 := Lib.hid hb
  have hrlt := hp.rlt
  have hs1 := hb.size
  obtain ⟨X, hX⟩ : ∃ X : Nat → Prop, X = fun k => w.heap.size ≤ k ∧ k < rb := ⟨_, rfl⟩
  rw [← hX] at hp
  have HP := Lib.hid hp
  clear hp hb hX HN
  go_wp2_with fail
  refine (RP.num a.tries (by omega) HP.out).mono ?_
  rintro e w2 ⟨rfl, h2, hc2⟩
  have HP2 := Lib.hid h2
  have hs2 := hc2.size
  clear h2
  go_wp2_with fail
  obtain ⟨p, hp⟩ : ∃ p, p = w2.heap.size := ⟨_, rfl⟩
  obtain ⟨q, hq⟩ : ∃ q, q = w2.heap.size + 1 := ⟨_, rfl⟩
  obtain ⟨V0, hV0⟩ : ∃ V, V = (w2.alloc (.cells #[.pointer none, .pointer none, .pointer none, .int .i64 a.tries, .slice none 0 0] 46)).alloc (.cells #[.int .i64 0, .int .i64 0, .int .i64 0, .int .i64 0] 211) := ⟨_, rfl⟩
  have HP0 := Lib.hid (show RP w1 rb X _ V0 from hV0 ▸ (HP2.out.alloc _).alloc _)
  have HC0 := Lib.hid (show Chg (fun k => k = rb) w1 V0 from hV0 ▸ ((show Chg (fun k => k = rb) w1 w2 from hc2).alloc _).alloc _)
  have HA0 := Lib.hid (show Blk V0 p #[.pointer none, .pointer none, .pointer none, .int .i64 a.tries, .slice none 0 0] 46 from by rw [hV0]; exact (Blk.newAt hp).alloc _)
  have HQ0 := Lib.hid (show Blk V0 q #[.int .i64 0, .int .i64 0, .int .i64 0, .int .i64 0] 211 from by rw [hV0]; exact Blk.newAt (by simp [hq]))
  have z0 : q < V0.heap.size := HQ0.out.lt
  have hpq : p < q := by omega
  have hne1 : ¬ p = q := by omega
  have hne2 : ¬ q = p := by omega
  have hrp : rb < p := by omega
  have hp1 : w1.heap.size ≤ p := by omega
  have hq1 : w1.heap.size < q := by omega
  rw [← hV0, ← hq, ← hp]
  clear hV0 hp hq hc2
  refine (RP.bytes (encJour a.jour) (by omega) HP0.out).mono ?_
  rintro e v1 ⟨rfl, h2, hc⟩
  have HPa1 := Lib.hid h2
  have HCa1 := Lib.hid hc
  have hcv := conv_bytes (encJour a.jour) v1
  clear h2 hc
  go_wp2_with fail
  clear hcv
  obtain ⟨W1, hW⟩ : ∃ W, W = Lib.bytesWorld v1 5 (strOfNums (encJour a.jour)) := ⟨_, rfl⟩
  have R1 := Lib.hid (show ReadsOf (Value.int .u8) (0 : Int) W1 _ _ _ from hW ▸ bytesWorld_reads v1 (encJour a.jour) (encJour_bytes _ HOK.out.jour) (by omega))
  have BW1 := Lib.hid (show Below v1.heap.size v1 W1 from hW ▸ bytesWorld_below v1 _)
  rw [← hW]
  clear hW
  refine (jdec_any _ _ a.jour HOK.out.jour W1 R1.out).mono ?_
  rintro e u1 ⟨jb, rfl, hx, hb⟩
  have BU1 := Lib.hid hb
  have HXJ1 := Lib.hid (jour_lt hx)
  clear hx hb
  have HD1 := Lib.hid ((HCa1.out.then_below BW1.out).then_below BU1.out)
  have HA1a := Lib.hid (HD1.out.blk HA0.out (by omega))
  have HQ1a := Lib.hid (HD1.out.blk HQ0.out (by omega))
  have y1a : u1.cell? ⟨p, 0, none⟩ = some (.pointer none) := HA1a.out.cell 0
  have y1b : u1.cell? ⟨q, 0, none⟩ = some (.int .i64 0) := HQ1a.out.cell 0
  have y1c : u1.frozen? ⟨p, 0, none⟩ = false := HA1a.out.free 0
  have y1d : u1.frozen? ⟨q, 0, none⟩ = false := HQ1a.out.free 0
  go_wp2_with fail
  obtain ⟨V1, hV⟩ : ∃ V, V = (u1.setCell ⟨p, 0, none⟩ (.pointer (some ⟨jb, 0, none⟩))).setCell ⟨q, 0, none⟩ (.int .i64 0) := ⟨_, rfl⟩
  have HV1 := Lib.hid (show Chg (fun j => j = p ∨ j = q) u1 V1 from hV ▸ ((Chg.refl _ u1).put p 0 (.inl (.inl rfl)) _).put q 0 (.inl (.inr rfl)) _)
  have HA1 := Lib.hid (show Blk V1 p #[.pointer (some ⟨jb, 0, none⟩), .pointer none, .pointer none, .int .i64 a.tries, .slice none 0 0] 46 from hV ▸ (HA1a.out.set 0 _).other hne1 _)
  have HQ1 := Lib.hid (show Blk V1 q #[.int .i64 0, .int .i64 0, .int .i64 0, .int .i64 0] 211 from hV ▸ (HQ1a.out.other hne2 _).set 0 _)
  have HS1 := Lib.hid (show Chg (fun j => j = rb ∨ j = p ∨ j = q) V0 V1 from (HD1.out.mono (fun _ _ h => .inl h)).trans HV1.out (fun _ _ h => .inr h))
  have HP1 := Lib.hid (HPa1.out.step ((((Chg.of_below BW1.out _).then_below BU1.out).trans HV1.out (fun j _ h => by rcases h with rfl | rfl <;> (show w1.heap.size ≤ _) <;> omega)) : Chg (fun j => w1.heap.size ≤ j) v1 V1))
  have z1a : V0.heap.size ≤ W1.heap.size := Nat.le_trans HCa1.out.size BW1.out.size
  have z1b : W1.heap.size ≤ u1.heap.size := BU1.out.size
  have z1c : u1.heap.size ≤ V1.heap.size := HV1.out.size
  rw [← hV]
  clear hV y1a y1b y1c y1d
  refine (RP.bytes (encLets a.inbox) (by omega) HP1.out).mono ?_
  rintro e v2 ⟨rfl, h2, hc⟩
  have HPa2 := Lib.hid h2
  have HCa2 := Lib.hid hc
  have hcv := conv_bytes (encLets a.inbox) v2
  clear h2 hc
  go_wp2_with fail
  clear hcv
  obtain ⟨W2, hW⟩ : ∃ W, W = Lib.bytesWorld v2 5 (strOfNums (encLets a.inbox)) := ⟨_, rfl⟩
  have R2 := Lib.hid (show ReadsOf (Value.int .u8) (0 : Int) W2 _ _ _ from hW ▸ bytesWorld_reads v2 (encLets a.inbox) (encLets_bytes _ HOK.out.inbox HOK.out.room) (by omega))
  have BW2 := Lib.hid (show Below v2.heap.size v2 W2 from hW ▸ bytesWorld_below v2 _)
  rw [← hW]
  clear hW
  refine (inbdec_any _ _ a.inbox HOK.out.inbox HOK.out.room W2 R2.out).mono ?_
  rintro e u2 ⟨ib, rfl, hx, hb⟩
  have BU2 := Lib.hid hb
  have HXI2 := Lib.hid (inbat_lt hx)
  clear hx hb
  have HD2 := Lib.hid ((HCa2.out.then_below BW2.out).then_below BU2.out)
  have HA2a := Lib.hid (HD2.out.blk HA1.out (by omega))
  have HQ2a := Lib.hid (HD2.out.blk HQ1.out (by omega))
  have y2a : u2.cell? ⟨p, 1, none⟩ = some (.pointer none) := HA2a.out.cell 1
  have y2b : u2.cell? ⟨q, 1, none⟩ = some (.int .i64 0) := HQ2a.out.cell 1
  have y2c : u2.frozen? ⟨p, 1, none⟩ = false := HA2a.out.free 1
  have y2d : u2.frozen? ⟨q, 1, none⟩ = false := HQ2a.out.free 1
  go_wp2_with fail
  obtain ⟨V2, hV⟩ : ∃ V, V = (u2.setCell ⟨p, 1, none⟩ (.pointer (some ⟨ib, 0, none⟩))).setCell ⟨q, 1, none⟩ (.int .i64 0) := ⟨_, rfl⟩
  have HV2 := Lib.hid (show Chg (fun j => j = p ∨ j = q) u2 V2 from hV ▸ ((Chg.refl _ u2).put p 1 (.inl (.inl rfl)) _).put q 1 (.inl (.inr rfl)) _)
  have HA2 := Lib.hid (show Blk V2 p #[.pointer (some ⟨jb, 0, none⟩), .pointer (some ⟨ib, 0, none⟩), .pointer none, .int .i64 a.tries, .slice none 0 0] 46 from hV ▸ (HA2a.out.set 1 _).other hne1 _)
  have HQ2 := Lib.hid (show Blk V2 q #[.int .i64 0, .int .i64 0, .int .i64 0, .int .i64 0] 211 from hV ▸ (HQ2a.out.other hne2 _).set 1 _)
  have HS2 := Lib.hid (show Chg (fun j => j = rb ∨ j = p ∨ j = q) V1 V2 from (HD2.out.mono (fun _ _ h => .inl h)).trans HV2.out (fun _ _ h => .inr h))
  have HP2 := Lib.hid (HPa2.out.step ((((Chg.of_below BW2.out _).then_below BU2.out).trans HV2.out (fun j _ h => by rcases h with rfl | rfl <;> (show w1.heap.size ≤ _) <;> omega)) : Chg (fun j => w1.heap.size ≤ j) v2 V2))
  have z2a : V1.heap.size ≤ W2.heap.size := Nat.le_trans HCa2.out.size BW2.out.size
  have z2b : W2.heap.size ≤ u2.heap.size := BU2.out.size
  have z2c : u2.heap.size ≤ V2.heap.size := HV2.out.size
  rw [← hV]
  clear hV y2a y2b y2c y2d
  refine (RP.bytes (encOutb a.outb) (by omega) HP2.out).mono ?_
  rintro e v3 ⟨rfl, h2, hc⟩
  have HPa3 := Lib.hid h2
  have HCa3 := Lib.hid hc
  have hcv := conv_bytes (encOutb a.outb) v3
  clear h2 hc
  go_wp2_with fail
  clear hcv
  obtain ⟨W3, hW⟩ : ∃ W, W = Lib.bytesWorld v3 5 (strOfNums (encOutb a.outb)) := ⟨_, rfl⟩
  have R3 := Lib.hid (show ReadsOf (Value.int .u8) (0 : Int) W3 _ _ _ from hW ▸ bytesWorld_reads v3 (encOutb a.outb) (encOutb_bytes _ HOK.out.outb) (by omega))
  have BW3 := Lib.hid (show Below v3.heap.size v3 W3 from hW ▸ bytesWorld_below v3 _)
  rw [← hW]
  clear hW
  refine (HOD.out _ _ W3 R3.out).mono ?_
  rintro e u3 ⟨ob, rfl, hx, hb⟩
  have BU3 := Lib.hid hb
  have HXO3 := Lib.hid (outb_lt hx)
  clear hx hb
  have HD3 := Lib.hid ((HCa3.out.then_below BW3.out).then_below BU3.out)
  have HA3a := Lib.hid (HD3.out.blk HA2.out (by omega))
  have HQ3a := Lib.hid (HD3.out.blk HQ2.out (by omega))
  have y3a : u3.cell? ⟨p, 2, none⟩ = some (.pointer none) := HA3a.out.cell 2
  have y3b : u3.cell? ⟨q, 2, none⟩ = some (.int .i64 0) := HQ3a.out.cell 2
  have y3c : u3.frozen? ⟨p, 2, none⟩ = false := HA3a.out.free 2
  have y3d : u3.frozen? ⟨q, 2, none⟩ = false := HQ3a.out.free 2
  go_wp2_with fail
  obtain ⟨V3, hV⟩ : ∃ V, V = (u3.setCell ⟨p, 2, none⟩ (.pointer (some ⟨ob, 0, none⟩))).setCell ⟨q, 2, none⟩ (.int .i64 0) := ⟨_, rfl⟩
  have HV3 := Lib.hid (show Chg (fun j => j = p ∨ j = q) u3 V3 from hV ▸ ((Chg.refl _ u3).put p 2 (.inl (.inl rfl)) _).put q 2 (.inl (.inr rfl)) _)
  have HA3 := Lib.hid (show Blk V3 p #[.pointer (some ⟨jb, 0, none⟩), .pointer (some ⟨ib, 0, none⟩), .pointer (some ⟨ob, 0, none⟩), .int .i64 a.tries, .slice none 0 0] 46 from hV ▸ (HA3a.out.set 2 _).other hne1 _)
  have HQ3 := Lib.hid (show Blk V3 q #[.int .i64 0, .int .i64 0, .int .i64 0, .int .i64 0] 211 from hV ▸ (HQ3a.out.other hne2 _).set 2 _)
  have HS3 := Lib.hid (show Chg (fun j => j = rb ∨ j = p ∨ j = q) V2 V3 from (HD3.out.mono (fun _ _ h => .inl h)).trans HV3.out (fun _ _ h => .inr h))
  have HP3 := Lib.hid (HPa3.out.step ((((Chg.of_below BW3.out _).then_below BU3.out).trans HV3.out (fun j _ h => by rcases h with rfl | rfl <;> (show w1.heap.size ≤ _) <;> omega)) : Chg (fun j => w1.heap.size ≤ j) v3 V3))
  have z3a : V2.heap.size ≤ W3.heap.size := Nat.le_trans HCa3.out.size BW3.out.size
  have z3b : W3.heap.size ≤ u3.heap.size := BU3.out.size
  have z3c : u3.heap.size ≤ V3.heap.size := HV3.out.size
  rw [← hV]
  clear hV y3a y3b y3c y3d
  refine (RP.bytes (encLets a.poison) (by omega) HP3.out).mono ?_
  rintro e v4 ⟨rfl, h2, hc⟩
  have HPa4 := Lib.hid h2
  have HCa4 := Lib.hid hc
  have hcv := conv_bytes (encLets a.poison) v4
  clear h2 hc
  go_wp2_with fail
  clear hcv
  obtain ⟨W4, hW⟩ : ∃ W, W = Lib.bytesWorld v4 5 (strOfNums (encLets a.poison)) := ⟨_, rfl⟩
  have R4 := Lib.hid (show ReadsOf (Value.int .u8) (0 : Int) W4 _ _ _ from hW ▸ bytesWorld_reads v4 (encLets a.poison) (encLets_bytes _ HOK.out.poison HOK.out.few) (by omega))
  have BW4 := Lib.hid (show Below v4.heap.size v4 W4 from hW ▸ bytesWorld_below v4 _)
  rw [← hW]
  clear hW
  refine (unpack_any _ _ a.poison HOK.out.poison HOK.out.few W4 R4.out).mono ?_
  rintro e u4 ⟨PA, pc, cs, rfl, hx, hl, hb⟩
  have BU4 := Lib.hid hb
  have HXP4 := Lib.hid hx
  have HLC := Lib.hid hl
  clear hx hl hb
  have HD4 := Lib.hid ((HCa4.out.then_below BW4.out).then_below BU4.out)
  have HA4a := Lib.hid (HD4.out.blk HA3.out (by omega))
  have HQ4a := Lib.hid (HD4.out.blk HQ3.out (by omega))
  have y4a : u4.cell? ⟨p, 4, none⟩ = some (.slice none 0 0) := HA4a.out.cell 4
  have y4b : u4.cell? ⟨q, 3, none⟩ = some (.int .i64 0) := HQ4a.out.cell 3
  have y4c : u4.frozen? ⟨p, 4, none⟩ = false := HA4a.out.free 4
  have y4d : u4.frozen? ⟨q, 3, none⟩ = false := HQ4a.out.free 3
  go_wp2_with fail
  obtain ⟨V4, hV⟩ : ∃ V, V = (u4.setCell ⟨p, 4, none⟩ (.slice PA a.poison.length pc)).setCell ⟨q, 3, none⟩ (.int .i64 0) := ⟨_, rfl⟩
  have HV4 := Lib.hid (show Chg (fun j => j = p ∨ j = q) u4 V4 from hV ▸ ((Chg.refl _ u4).put p 4 (.inl (.inl rfl)) _).put q 3 (.inl (.inr rfl)) _)
  have HA4 := Lib.hid (show Blk V4 p #[.pointer (some ⟨jb, 0, none⟩), .pointer (some ⟨ib, 0, none⟩), .pointer (some ⟨ob, 0, none⟩), .int .i64 a.tries, .slice PA a.poison.length pc] 46 from hV ▸ (HA4a.out.set 4 _).other hne1 _)
  have HQ4 := Lib.hid (show Blk V4 q #[.int .i64 0, .int .i64 0, .int .i64 0, .int .i64 0] 211 from hV ▸ (HQ4a.out.other hne2 _).set 3 _)
  have HS4 := Lib.hid (show Chg (fun j => j = rb ∨ j = p ∨ j = q) V3 V4 from (HD4.out.mono (fun _ _ h => .inl h)).trans HV4.out (fun _ _ h => .inr h))
  have HP4 := Lib.hid (HPa4.out.step ((((Chg.of_below BW4.out _).then_below BU4.out).trans HV4.out (fun j _ h => by rcases h with rfl | rfl <;> (show w1.heap.size ≤ _) <;> omega)) : Chg (fun j => w1.heap.size ≤ j) v4 V4))
  have z4a : V3.heap.size ≤ W4.heap.size := Nat.le_trans HCa4.out.size BW4.out.size
  have z4b : W4.heap.size ≤ u4.heap.size := BU4.out.size
  have z4c : u4.heap.size ≤ V4.heap.size := HV4.out.size
  rw [← hV]
  clear hV y4a y4b y4c y4d
  have HE := Lib.hid (RP.end_ HP4.out)
  have hq211 : ∀ w : World, (Op.equalIn 10000 211 (.agg #[.int .i64 0, .int .i64 0, .int .i64 0, .int .i64 0]) (.agg #[.int .i64 0, .int .i64 0, .int .i64 0, .int .i64 0])).run Tryz.prog w = .ok true w := eq211
  have y0 : V4.cell? ⟨q, 0, none⟩ = some (.int .i64 0) := HQ4.out.cell 0
  have y1 : V4.cell? ⟨q, 1, none⟩ = some (.int .i64 0) := HQ4.out.cell 1
  have y2 : V4.cell? ⟨q, 2, none⟩ = some (.int .i64 0) := HQ4.out.cell 2
  have y3 : V4.cell? ⟨q, 3, none⟩ = some (.int .i64 0) := HQ4.out.cell 3
  have hact : ActAt true V4 (fun k => w.heap.size ≤ k) p a := by
    have n1 : ∀ j, (W1.heap.size ≤ j ∧ j < u1.heap.size) → ¬ (j = rb ∨ j = p ∨ j = q) := fun j hj => by omega
    have n2 : ∀ j, (W2.heap.size ≤ j ∧ j < u2.heap.size) → ¬ (j = rb ∨ j = p ∨ j = q) := fun j hj => by omega
    have n3 : ∀ j, (W3.heap.size ≤ j ∧ j < u3.heap.size) → ¬ (j = rb ∨ j = p ∨ j = q) := fun j hj => by omega
    have n4 : ∀ j, (W4.heap.size ≤ j ∧ j < u4.heap.size) → ¬ (j = p ∨ j = q) := fun j hj => by omega
    have m1 : ∀ j, (W1.heap.size ≤ j ∧ j < u1.heap.size) → ¬ (j = p ∨ j = q) := fun j hj => by omega
    have m2 : ∀ j, (W2.heap.size ≤ j ∧ j < u2.heap.size) → ¬ (j = p ∨ j = q) := fun j hj => by omega
    have m3 : ∀ j, (W3.heap.size ≤ j ∧ j < u3.heap.size) → ¬ (j = p ∨ j = q) := fun j hj => by omega
    have J := ((((HXJ1.out.chg HV1.out m1).chg HS2.out n1).chg HS3.out n1).chg HS4.out n1)
    have I := (((HXI2.out.chg HV2.out m2).chg HS3.out n2).chg HS4.out n2)
    have O := ((HXO3.out.chg HV3.out m3).chg HS4.out n3)
    have Q := (LetsAt.of_own HXP4.out (HLC.out.mono (fun k hk => hk.1)) rfl (fun k hk => own_base HXP4.out k hk)).lt.chg HV4.out n4
    exact ⟨jb, ib, ob, PA, pc, _, _, _, _, by show w.heap.size ≤ p; omega, HA4.out, J, I.rd, fun _ => I, O, Q, fun k hk => by rcases hk with h | h | h | h <;> (refine ⟨?_, ?_, ?_⟩ <;> (try show w.heap.size ≤ k) <;> omega), fun k h h' => by omega, fun k h h' => by omega, fun k h h' => by omega, fun k h h' => by omega, fun k h h' => by omega, fun k h h' => by omega⟩
  have HACT := Lib.hid hact
  have HBB := Lib.hid (show Below w.heap.size w V4 from HB0.out.trans (HP4.out.chg.below (fun k hk => by have : k = rb := hk; omega) hs1))
  clear hact
  go_wp2_with fail
  refine HE.out.mono ?_
  rintro e v5 ⟨rfl, rfl⟩
  go_wp2_with fail
  refine (sound_act _ p a HOK.out V4 HACT.out).mono ?_
  rintro e v6 ⟨rfl, hb⟩
  have HACT6 := Lib.hid (HACT.out.below hb)
  have HBB6 := Lib.hid (HBB.out.trans (hb.mono HBB.out.size))
  clear hb
  go_wp2_with fail
  go_ret2
  exact ⟨p, rfl, HACT6.out, HBB6.out⟩
end Go.Proofs.YtlcdjgpblpodaaaGreatDoor

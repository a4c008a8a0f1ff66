/- Act2, Act3 -/
import Derived.Test.YtlcdjgpblpodaaaGreatDoorMAN
namespace Go.Proofs.YtlcdjgpblpodaaaGreatDoor
open Go.RowKit Go.Maps Go.Proofs.YtlcdjgpblpodaaaGreatDoorW.PrintWords

def freshA (a : Actr) : Bool := decide (a.jour.version = 0) && (decide (a.inbox.length = 0) && ((a.outb.serials.isEmpty && a.outb.list.isEmpty) && (decide (a.tries = 0) && decide (a.poison.length = 0))))
set_option maxRecDepth 100000 in
theorem fresh_act {fr : Bool} (X : Nat → Prop) (p : Nat) (a : Actr) (ha : a.Ok) (w : World) (h : ActAt fr w X p a) : Calls Tryz.prog 102 #[.pointer (some ⟨p, 0, none⟩)] w fun e w' => e = .returned (.bool (freshA a)) ∧ w = w' := by
  obtain ⟨jb, ib, ob, PA, pc, XJ, XI, XO, XP, h⟩ := h
  have HV := Lib.hid (version_any XJ jb a.jour ha.jour.base w h.jour)
  have HL := Lib.hid (len_any XI ib a.inbox w h.inr)
  have HF := Lib.hid (fresh_any XO ob a.outb ha.outb.owner w h.outb)
  have c0 : w.cell? ⟨p, 0, none⟩ = some (.pointer (some ⟨jb, 0, none⟩)) := h.blk.cell 0
  have c1 : w.cell? ⟨p, 1, none⟩ = some (.pointer (some ⟨ib, 0, none⟩)) := h.blk.cell 1
  have c2 : w.cell? ⟨p, 2, none⟩ = some (.pointer (some ⟨ob, 0, none⟩)) := h.blk.cell 2
  have c3 : w.cell? ⟨p, 3, none⟩ = some (.int .i64 a.tries) := h.blk.cell 3
  have c4 : w.cell? ⟨p, 4, none⟩ = some (.slice PA a.poison.length pc) := h.blk.cell 4
  clear h ha
  by_cases q0 : a.jour.version = 0
  · have t0 : ((a.jour.version : Int) == 0) = true := by simp; omega
    by_cases q1 : a.inbox.length = 0
    · have t1 : ((a.inbox.length : Int) == 0) = true := by simp; exact List.eq_nil_of_length_eq_zero q1
      cases q2 : (a.outb.serials.isEmpty && a.outb.list.isEmpty) with
      | true =>
        rw [q2] at HF
        by_cases q3 : a.tries = 0
        · have t3 : ((a.tries : Int) == 0) = true := by simp; omega
          obtain ⟨z, hz⟩ : ∃ z, z = ((a.poison.length : Int) == 0) := ⟨_, rfl⟩
          have t4 : ((a.poison.length : Int) == 0) = z := hz.symm
          have HE := Lib.hid (show freshA a = z by
            simp only [freshA, q0, q1, q2, q3, decide_true, Bool.true_and, hz]
            rw [Bool.eq_iff_iff]
            simp only [decide_eq_true_eq, beq_iff_eq]
            omega)
          clear hz
          clear q0 q1 q2 q3
          go_enter Tryz.func102, Tryz.ntmps102
          go_wp2_with fail
          refine HV.out.mono ?_
          rintro e w1 ⟨rfl, rfl⟩
          go_wp2_with fail
          refine HL.out.mono ?_
          rintro e w1 ⟨rfl, rfl⟩
          go_wp2_with fail
          refine HF.out.mono ?_
          rintro e w1 ⟨rfl, rfl⟩
          go_wp2_with fail
          go_ret
          exact ⟨by rw [HE.out]; rfl, rfl⟩
        · have t3 : ((a.tries : Int) == 0) = false := by simp; omega
          have HE := Lib.hid (show freshA a = false by simp only [freshA, q0, q1, q2, q3, decide_true, decide_false, Bool.true_and, Bool.false_and])
          clear q0 q1 q2 q3
          go_enter Tryz.func102, Tryz.ntmps102
          go_wp2_with fail
          refine HV.out.mono ?_
          rintro e w1 ⟨rfl, rfl⟩
          go_wp2_with fail
          refine HL.out.mono ?_
          rintro e w1 ⟨rfl, rfl⟩
          go_wp2_with fail
          refine HF.out.mono ?_
          rintro e w1 ⟨rfl, rfl⟩
          go_wp2_with fail
          go_ret
          exact ⟨by rw [HE.out]; rfl, rfl⟩
      | false =>
        rw [q2] at HF
        have HE := Lib.hid (show freshA a = false by simp only [freshA, q0, q1, q2, decide_true, Bool.true_and, Bool.false_and])
        clear q0 q1 q2
        go_enter Tryz.func102, Tryz.ntmps102
        go_wp2_with fail
        refine HV.out.mono ?_
        rintro e w1 ⟨rfl, rfl⟩
        go_wp2_with fail
        refine HL.out.mono ?_
        rintro e w1 ⟨rfl, rfl⟩
        go_wp2_with fail
        refine HF.out.mono ?_
        rintro e w1 ⟨rfl, rfl⟩
        go_wp2_with fail
        go_ret
        exact ⟨by rw [HE.out]; rfl, rfl⟩
    · have t1 : ((a.inbox.length : Int) == 0) = false := by
        rw [beq_eq_false_iff_ne]; omega
      have HE := Lib.hid (show freshA a = false by simp only [freshA, q0, q1, decide_true, decide_false, Bool.true_and, Bool.false_and])
      clear q0 q1
      go_enter Tryz.func102, Tryz.ntmps102
      go_wp2_with fail
      refine HV.out.mono ?_
      rintro e w1 ⟨rfl, rfl⟩
      go_wp2_with fail
      refine HL.out.mono ?_
      rintro e w1 ⟨rfl, rfl⟩
      go_wp2_with fail
      go_ret
      exact ⟨by rw [HE.out]; rfl, rfl⟩
  · have t0 : ((a.jour.version : Int) == 0) = false := by
      rw [beq_eq_false_iff_ne]; omega
    have HE := Lib.hid (show freshA a = false by simp only [freshA, q0, decide_false, Bool.false_and])
    clear q0
    go_enter Tryz.func102, Tryz.ntmps102
    go_wp2_with fail
    refine HV.out.mono ?_
    rintro e w1 ⟨rfl, rfl⟩
    go_wp2_with fail
    go_ret
    exact ⟨by rw [HE.out]; rfl, rfl⟩

/-- Behind the tests: each letter of the poison is formed. -/
theorem sound_act {fr : Bool} (X : Nat → Prop) (p : Nat) (a : Actr) (ha : a.Ok) (w : World) (h : ActAt fr w X p a) : Calls Tryz.prog 89 #[.pointer (some ⟨p, 0, none⟩)] w fun e w' => e = .returned (.bool true) ∧ Below w.heap.size w w' := by
  have HK := Lib.hid (actkey X p a w h)
  obtain ⟨jb, ib, ob, PA, pc, XJ, XI, XO, XP, h⟩ := h
  have HL := Lib.hid (len_any XI ib a.inbox w h.inr)
  have c0 : w.cell? ⟨p, 0, none⟩ = some (.pointer (some ⟨jb, 0, none⟩)) := h.blk.cell 0
  have c1 : w.cell? ⟨p, 1, none⟩ = some (.pointer (some ⟨ib, 0, none⟩)) := h.blk.cell 1
  have c3 : w.cell? ⟨p, 3, none⟩ = some (.int .i64 a.tries) := h.blk.cell 3
  have c4 : w.cell? ⟨p, 4, none⟩ = some (.slice PA a.poison.length pc) := h.blk.cell 4
  have hown := ha.outb.owner.1
  have t0 := str_ne (mt size_zero.1 (show ¬ a.outb.owner.size = 0 by omega))
  have htr := ha.tries
  have t1 : decide ((a.tries : Int) < 0) = false := decide_eq_false (by omega)
  have t2 : decide ((3 : Int) ≤ (a.tries : Int)) = false := decide_eq_false (by omega)
  have hfew := ha.few
  have t4 : decide ((8 : Int) < (a.poison.length : Int)) = false := decide_eq_false (by omega)
  have HP := Lib.hid h.poi
  have HOK := Lib.hid ha.poison
  have htd := ha.tried
  clear h ha
  have k0 : (0 : Int) ≤ (a.poison.length : Int) := by omega
  have HNE := Lib.hid (show a.tries ≠ 0 → ((a.inbox.length : Int) == 0) = false from fun h => by
    rcases htd with h' | h'
    · exact absurd h' h
    · rw [beq_eq_false_iff_ne]; have := mt List.eq_nil_of_length_eq_zero h'; omega)
  clear htd
  cases ht : decide (0 < a.tries) with
  | false =>
    have t3 : decide (0 < a.tries) = false := ht
    clear ht
    go_enter Tryz.func89, Tryz.ntmps89
    go_wp2_with fail
    refine HK.out.mono ?_
    rintro e w1 ⟨rfl, rfl⟩
    go_wp2_with fail
    go_loopw [68] (fun s wr => ∃ k : Nat, s = .int .i64 k ∧ k ≤ a.poison.length ∧ Below w.heap.size w wr) (fun s _ => a.poison.length - (intOf s).toNat)
    case atStart => exact ⟨0, rfl, Nat.zero_le _, Below.refl _ _⟩
    case round =>
      obtain ⟨k, rfl, hk, hp⟩ := hrel
      by_cases hkl : k < a.poison.length
      · obtain ⟨l, hlk⟩ : ∃ l, a.poison[k]? = some l := ⟨_, List.getElem?_eq_getElem hkl⟩
        have hok := HOK.out l (List.mem_of_getElem? hlk)
        have hps := hp.size
        obtain ⟨b, off, rfl, hXb, hcell⟩ := HP.out (by intro h; simp [h] at hkl)
        obtain ⟨A, c, q0, q1, q2, q3, g4⟩ := hcell k l hlk
        have hc := Chg.of_below hp (fun _ => False)
        have g0 := hc.cell (a := ⟨b, off + k * 4, none⟩) (fun h => h) q0
        have g1 := hc.cell (a := ⟨b, off + k * 4 + 1, none⟩) (fun h => h) q1
        have g2 := hc.cell (a := ⟨b, off + k * 4 + 2, none⟩) (fun h => h) q2
        have g3 := hc.cell (a := ⟨b, off + k * 4 + 3, none⟩) (fun h => h) q3
        have hbl := World.block_lt_of_cell? wr _ g0
        simp only at hbl
        have l1 := hok.frm
        have l2 := hok.args
        obtain ⟨W2, hW2⟩ : ∃ W, W = (wr.alloc (.cells #[.string l.frm, .int .u64 l.serial, .int .i64 l.kind, .slice A l.args.length c] 65)).alloc (.cells #[.string l.frm, .int .u64 l.serial, .int .i64 l.kind, .slice A l.args.length c] 65) := ⟨_, rfl⟩
        have HB2 := Lib.hid (show Below w.heap.size w W2 from hp.trans ((hW2 ▸ ((Below.refl wr.heap.size wr).alloc (Nat.le_refl _) _).alloc (by simp) _ : Below wr.heap.size wr W2).mono hps))
        have HW2 := Lib.hid hW2
        have k0 : (0 : Int) ≤ (k : Int) := by omega
        have k1 : (k : Int) < (a.poison.length : Int) := by omega
        clear hp hXb hcell q0 q1 q2 q3 g4 hok hlk hW2 hc
        go_wp2_with fail
        refine (formed_letter _ _ _ _ _ _ l1 l2 _).mono ?_
        rintro e w3 ⟨rfl, rfl⟩
        rw [← HW2.out]
        go_wp2_with fail
        go_roundw
        case rel => exact ⟨k + 1, by go_num, by omega, HB2.out⟩
        case measure => simp [intOf]; omega
      · obtain rfl : k = a.poison.length := by omega
        go_wp2_with fail
        go_ret
        exact ⟨rfl, hp⟩
  | true =>
    have t3 : decide (0 < a.tries) = true := ht
    have t5 := HNE.out (by have := of_decide_eq_true ht; omega)
    clear ht
    go_enter Tryz.func89, Tryz.ntmps89
    go_wp2_with fail
    refine HK.out.mono ?_
    rintro e w1 ⟨rfl, rfl⟩
    go_wp2_with fail
    refine HL.out.mono ?_
    rintro e w1 ⟨rfl, rfl⟩
    go_wp2_with fail
    go_loopw [68] (fun s wr => ∃ k : Nat, s = .int .i64 k ∧ k ≤ a.poison.length ∧ Below w.heap.size w wr) (fun s _ => a.poison.length - (intOf s).toNat)
    case atStart => exact ⟨0, rfl, Nat.zero_le _, Below.refl _ _⟩
    case round =>
      obtain ⟨k, rfl, hk, hp⟩ := hrel
      by_cases hkl : k < a.poison.length
      · obtain ⟨l, hlk⟩ : ∃ l, a.poison[k]? = some l := ⟨_, List.getElem?_eq_getElem hkl⟩
        have hok := HOK.out l (List.mem_of_getElem? hlk)
        have hps := hp.size
        obtain ⟨b, off, rfl, hXb, hcell⟩ := HP.out (by intro h; simp [h] at hkl)
        obtain ⟨A, c, q0, q1, q2, q3, g4⟩ := hcell k l hlk
        have hc := Chg.of_below hp (fun _ => False)
        have g0 := hc.cell (a := ⟨b, off + k * 4, none⟩) (fun h => h) q0
        have g1 := hc.cell (a := ⟨b, off + k * 4 + 1, none⟩) (fun h => h) q1
        have g2 := hc.cell (a := ⟨b, off + k * 4 + 2, none⟩) (fun h => h) q2
        have g3 := hc.cell (a := ⟨b, off + k * 4 + 3, none⟩) (fun h => h) q3
        have hbl := World.block_lt_of_cell? wr _ g0
        simp only at hbl
        have l1 := hok.frm
        have l2 := hok.args
        obtain ⟨W2, hW2⟩ : ∃ W, W = (wr.alloc (.cells #[.string l.frm, .int .u64 l.serial, .int .i64 l.kind, .slice A l.args.length c] 65)).alloc (.cells #[.string l.frm, .int .u64 l.serial, .int .i64 l.kind, .slice A l.args.length c] 65) := ⟨_, rfl⟩
        have HB2 := Lib.hid (show Below w.heap.size w W2 from hp.trans ((hW2 ▸ ((Below.refl wr.heap.size wr).alloc (Nat.le_refl _) _).alloc (by simp) _ : Below wr.heap.size wr W2).mono hps))
        have HW2 := Lib.hid hW2
        have k0 : (0 : Int) ≤ (k : Int) := by omega
        have k1 : (k : Int) < (a.poison.length : Int) := by omega
        clear hp hXb hcell q0 q1 q2 q3 g4 hok hlk hW2 hc
        go_wp2_with fail
        refine (formed_letter _ _ _ _ _ _ l1 l2 _).mono ?_
        rintro e w3 ⟨rfl, rfl⟩
        rw [← HW2.out]
        go_wp2_with fail
        go_roundw
        case rel => exact ⟨k + 1, by go_num, by omega, HB2.out⟩
        case measure => simp [intOf]; omega
      · obtain rfl : k = a.poison.length := by omega
        go_wp2_with fail
        go_ret
        exact ⟨rfl, hp⟩
end Go.Proofs.YtlcdjgpblpodaaaGreatDoor
namespace Go.Proofs.YtlcdjgpblpodaaaGreatDoor
open Go.RowKit Go.Maps Go.Proofs.YtlcdjgpblpodaaaGreatDoorW.PrintWords

/-- This outbox can be written as bytes. -/
def OutEnc (o : Outb) : Prop := ∀ (X : Nat → Prop) (ob : Nat) (w : World), OutbAt false w X ob o →
    Calls Tryz.prog 110 #[.pointer (some ⟨ob, 0, none⟩)] w fun e w' => ∃ A c, e = .returned (.slice A (encOutb o).length c) ∧ w'.ownsRow w.heap.size 5 1 (.slice A (encOutb o).length c) (encOutb o).length (encs (Value.int .u8) (encOutb o)) ∧ Below w.heap.size w w'
/-- .. and be read back. -/
def OutDec (o : Outb) : Prop := ∀ (A : Option Addr) (c0 : Nat) (w : World), ReadsOf (Value.int .u8) (0 : Int) w A (encOutb o).length (encOutb o) →
    Calls Tryz.prog 87 #[.slice A (encOutb o).length c0] w fun e w' => ∃ ob, e = .returned (.tuple #[.pointer (some ⟨ob, 0, none⟩), .int .i64 0]) ∧ OutbAt true w' (fun k => w.heap.size ≤ k) ob o ∧ Below w.heap.size w w'
theorem OutEnc.zero (s : ByteArray) (hs : KeyOk s) : OutEnc (outb0 s) := fun X ob w h => outenc0 X ob s hs w h
theorem OutDec.zero (s : ByteArray) (hs : KeyOk s) : OutDec (outb0 s) := fun A c w h => outdec0 A c s hs w h

theorem bytesOf_strOf (bs : List Int) (h : IsBytes bs) : bytesOf (strOfNums bs) = bs := by
  unfold bytesOf strOfNums
  rw [List.map_map]
  conv => rhs; rw [← List.map_id bs]
  apply List.map_congr_left
  intro x hx
  have := h x hx
  simp
  omega
theorem ActP.lt {fr : Bool} {w : World} {X : Nat → Prop} {p jb ib ob pc : Nat} {a : Actr} {PA : Option Addr} {XJ XI XO XP : Nat → Prop} (h : ActP fr w X p a jb ib ob PA pc XJ XI XO XP) : ActP fr w (fun k => X k ∧ k < w.heap.size) p a jb ib ob PA pc XJ XI XO XP :=
  ⟨⟨h.pin, h.plt⟩, h.blk, h.jour, h.inr, h.inw, h.outb, h.poi, fun k hk => ⟨⟨(h.sub k hk).1, (h.sub k hk).2.2⟩, (h.sub k hk).2⟩, h.dji, h.djo, h.djp, h.dio, h.dip, h.dop⟩
set_option maxRecDepth 100000 in
set_option maxHeartbeats 1000000 in
theorem actenc {fr : Bool} (X : Nat → Prop) (p : Nat) (a : Actr) (ha : a.Ok) (ho : OutEnc a.outb) (w : World) (h : ActAt fr w X p a) :
    Calls Tryz.prog 92 #[.pointer (some ⟨p, 0, none⟩)] w fun e w' => ∃ A c, e = .returned (.tuple #[.slice A (encAct a).length c, .int .i64 0]) ∧ w'.ownsRow w.heap.size 5 1 (.slice A (encAct a).length c) (encAct a).length (encs (Value.int .u8) (encAct a)) ∧ Below w.heap.size w w' := by
  have HS := Lib.hid (sound_act X p a ha w h)
  obtain ⟨jb, ib, ob, PA, pc, XJ, XI, XO, XP, h⟩ := h
  have HA := Lib.hid h.rd.lt
  have HOK := Lib.hid ha
  have HOE := Lib.hid ho
  have htr := ha.tries
  have tw : IntKind.u64.wrap (a.tries : Int) = (a.tries : Int) := by rw [IntKind.wrap_u64]; omega
  clear h ha ho
  go_enter Tryz.func92, Tryz.ntmps92
  go_wp2_with fail
  refine HS.out.mono ?_
  rintro e w1 ⟨rfl, hb1⟩
  have HB1 := Lib.hid hb1
  have HA1 := Lib.hid (HA.out.below hb1)
  have c4 : w1.cell? ⟨p, 4, none⟩ = some (.slice PA a.poison.length pc) := HA1.out.blk.cell 4
  clear hb1
  go_wp2_with fail
  refine (pack_any PA pc a.poison HOK.out.poison HOK.out.few XP w1 HA1.out.poi).mono ?_
  rintro e w2 ⟨A4, c4', rfl, ho4, hb2⟩
  have HO4 := Lib.hid ho4
  have HA2 := Lib.hid (HA1.out.below hb2)
  have HB2 := Lib.hid (HB1.out.trans (hb2.mono HB1.out.size))
  clear ho4 hb2 c4
  go_wp2_with fail
  refine (newwriter w2).mono ?_
  rintro e w3 ⟨rfl, hw3⟩
  have HP := Lib.hid (show WP w3 w2.heap.size (fun k => k = w2.heap.size) [] w3 from hw3 ▸ WP.new w2)
  have hb3 : Below w2.heap.size w2 w3 := hw3 ▸ (Below.refl _ _).alloc (Nat.le_refl _) _
  have HB3 := Lib.hid hb3
  have HA3 := Lib.hid (HA2.out.below hb3)
  have HO43 := Lib.hid (own_below HO4.out hb3)
  have c3 : w3.cell? ⟨p, 3, none⟩ = some (.int .i64 a.tries) := HA3.out.blk.cell 3
  clear hw3 hb3
  obtain ⟨wb, hwb⟩ : ∃ b, b = w2.heap.size := ⟨_, rfl⟩
  have HWB := Lib.hid hwb
  rw [← hwb] at HP ⊢
  clear hwb
  go_wp2_with fail
  refine (WP.num a.tries (by omega) (by simp) HP.out).mono ?_
  rintro e w4 ⟨rfl, h1⟩
  rw [List.nil_append] at h1
  have H4 := Lib.hid h1
  have hs1 := HB1.out.size
  have hs2 := HB2.out.size
  have hXn : ∀ k, (X k ∧ k < w.heap.size) → ¬ k = wb := fun k hk => by have := HWB.out; omega
  have HA4 := Lib.hid (HA3.out.chg h1.chg hXn)
  have HO44 := Lib.hid (h1.chg.owns HO43.out (fun k hk e => by have := own_lt HO4.out k hk; have := HWB.out; omega))
  have c0 : w4.cell? ⟨p, 0, none⟩ = some (.pointer (some ⟨jb, 0, none⟩)) := HA4.out.blk.cell 0
  have c1 : w4.cell? ⟨p, 1, none⟩ = some (.pointer (some ⟨ib, 0, none⟩)) := HA4.out.blk.cell 1
  have c2 : w4.cell? ⟨p, 2, none⟩ = some (.pointer (some ⟨ob, 0, none⟩)) := HA4.out.blk.cell 2
  have HA4d := Lib.hid (HA4.out.below (w' := w4.drew) ((Below.refl _ _).drew))
  have hpl := HA4.out.plt
  clear h1 hXn c3
  go_upto_region 6 with fail
  go_region_held3 (fun w' => w'.cell? ⟨p, 0, none⟩ = some (.pointer (some ⟨jb, 0, none⟩)) ∧ w'.cell? ⟨p, 1, none⟩ = some (.pointer (some ⟨ib, 0, none⟩)) ∧ w'.cell? ⟨p, 2, none⟩ = some (.pointer (some ⟨ob, 0, none⟩)) ∧ Hid (ActP false w' (fun k => X k ∧ k < w.heap.size) p a jb ib ob PA pc XJ XI XO XP))
    (first
      | exact ⟨c0, c1, c2, HA4d⟩
      | exact ⟨HA5.out.blk.cell 0, HA5.out.blk.cell 1, HA5.out.blk.cell 2, HA5⟩
      | exact ⟨HA6.out.blk.cell 0, HA6.out.blk.cell 1, HA6.out.blk.cell 2, HA6⟩
      | exact ⟨HA7.out.blk.cell 0, HA7.out.blk.cell 1, HA7.out.blk.cell 2, HA7⟩
      | exact ⟨(HA7.out.below ((Below.refl _ _).alloc (Nat.le_refl _) _)).blk.cell 0, (HA7.out.below ((Below.refl _ _).alloc (Nat.le_refl _) _)).blk.cell 1, (HA7.out.below ((Below.refl _ _).alloc (Nat.le_refl _) _)).blk.cell 2, HA7.out.below ((Below.refl _ _).alloc (Nat.le_refl _) _)⟩)
    (first
      | (go_at_call 160
         refine (jenc_any XJ jb a.jour HOK.out.jour w4.drew HA4d.out.jour).mono ?_
         rintro e w5 ⟨A1, c1', rfl, ho1, hb5⟩
         have HO1 := Lib.hid ho1
         have HB5 := Lib.hid hb5
         have HA5 := Lib.hid (HA4d.out.below hb5)
         clear ho1 hb5)
      | (go_at_call 161
         refine (inbenc_any XI ib a.inbox HOK.out.inbox HOK.out.room w5 HA5.out.inr).mono ?_
         rintro e w6 ⟨A2, c2', rfl, ho2, hb6⟩
         have HO2 := Lib.hid ho2
         have HB6 := Lib.hid hb6
         have HA6 := Lib.hid (HA5.out.below hb6)
         clear ho2 hb6)
      | (go_at_call 110
         refine (HOE.out XO ob w6 HA6.out.outb).mono ?_
         rintro e w7 ⟨A3, c3', rfl, ho3, hb7⟩
         have HO3 := Lib.hid ho3
         have HB7 := Lib.hid hb7
         have HA7 := Lib.hid (HA6.out.below hb7)
         clear ho3 hb7))
  have hal : ∀ o, Below w7.heap.size w7 (w7.alloc o) := fun o => (Below.refl _ _).alloc (Nat.le_refl _) o
  obtain ⟨W8, hW8⟩ : ∃ W, W = w7.alloc (.cells #[.slice A1 (encJour a.jour).length c1', .slice A2 (encLets a.inbox).length c2', .slice A3 (encOutb a.outb).length c3', .slice A4 (encLets a.poison).length c4'] 88) := ⟨_, rfl⟩
  rw [← hW8]
  have hb8 : Below w7.heap.size w7 W8 := hW8 ▸ hal _
  have hs3 := HB3.out.size
  have hs4 := H4.out.chg.size
  have hs5 : w4.heap.size ≤ w5.heap.size := HB5.out.size
  have hs6 := HB6.out.size
  have hs7 := HB7.out.size
  have hs8 : w7.heap.size < W8.heap.size := by rw [hW8]; simp
  have hb48 : Below w4.heap.size w4 W8 := ((((Below.refl w4.heap.size w4).drew.trans HB5.out).trans (HB6.out.mono hs5)).trans (HB7.out.mono (by omega))).trans (hb8.mono (by omega))
  obtain ⟨X1, x1, x2, x3, x4⟩ := H4.out.rebase
  have hrb : ¬ X1 w7.heap.size := fun h => by have := x1 _ h; omega
  have hblk : Blk W8 w7.heap.size #[.slice A1 (encJour a.jour).length c1', .slice A2 (encLets a.inbox).length c2', .slice A3 (encOutb a.outb).length c3', .slice A4 (encLets a.poison).length c4'] 88 := hW8 ▸ Blk.new _ _ _
  have o1 := own_below (own_below (own_below HO1.out HB6.out) HB7.out) hb8
  have o2 := own_below (own_below HO2.out HB7.out) hb8
  have o3 := own_below HO3.out hb8
  have o4 := own_below HO44.out hb48
  have l1 := encJour_length a.jour HOK.out.jour
  have l1' := HOK.out.jour.few
  have l2 := encLets_length a.inbox HOK.out.inbox HOK.out.room
  have l2' := HOK.out.room
  have l3 := encOutb_length a.outb HOK.out.outb
  have l3' := HOK.out.outb.counts
  have l4 := encLets_length a.poison HOK.out.poison HOK.out.few
  have l4' := HOK.out.few
  have l0 := (encNum_length a.tries (by omega)).2
  have m1 := encBytes_length (encJour a.jour) (show _ < _ by omega)
  have m2 := encBytes_length (encLets a.inbox) (show _ < _ by omega)
  have m3 := encBytes_length (encOutb a.outb) (show _ < _ by omega)
  have m4 := encBytes_length (encLets a.poison) (show _ < _ by omega)
  obtain ⟨P, hP⟩ : ∃ P : Nat → List Int, P = fun k => if k = 0 then encNum a.tries else if k = 1 then encNum a.tries ++ encBytes (encJour a.jour) else if k = 2 then encNum a.tries ++ encBytes (encJour a.jour) ++ encBytes (encLets a.inbox) else if k = 3 then encNum a.tries ++ encBytes (encJour a.jour) ++ encBytes (encLets a.inbox) ++ encBytes (encOutb a.outb) else encNum a.tries ++ encBytes (encJour a.jour) ++ encBytes (encLets a.inbox) ++ encBytes (encOutb a.outb) ++ encBytes (encLets a.poison) := ⟨_, rfl⟩
  have hR : ∀ k, k < 4 → ∃ A c bs, W8.cell? ⟨w7.heap.size, k, none⟩ = some (.slice A bs.length c) ∧ W8.ownsRow 0 5 1 (.slice A bs.length c) bs.length (encs (Value.int .u8) bs) ∧ (∀ j, (Value.slice A bs.length c).ownBlock = some j → ¬ X1 j) ∧ IsBytes bs ∧ bs.length ≤ 100000 ∧ P (k + 1) = P k ++ encBytes bs ∧ (P k).length ≤ 100000 := by
    intro k hk
    have hk' : k = 0 ∨ k = 1 ∨ k = 2 ∨ k = 3 := by omega
    rcases hk' with rfl | rfl | rfl | rfl
    · exact ⟨A1, c1', encJour a.jour, hblk.cell 0, own_weaken o1 (Nat.zero_le _), fun j hj h => by have := own_base o1 j hj; have := x1 _ h; have e : w4.drew.heap.size = w4.heap.size := rfl; omega, encJour_bytes _ HOK.out.jour, by omega, by simp [hP], by simp [hP]; omega⟩
    · exact ⟨A2, c2', encLets a.inbox, hblk.cell 1, own_weaken o2 (Nat.zero_le _), fun j hj h => by have := own_base o2 j hj; have := x1 _ h; omega, encLets_bytes _ HOK.out.inbox HOK.out.room, by omega, by simp [hP], by simp [hP]; omega⟩
    · exact ⟨A3, c3', encOutb a.outb, hblk.cell 2, own_weaken o3 (Nat.zero_le _), fun j hj h => by have := own_base o3 j hj; have := x1 _ h; omega, encOutb_bytes _ HOK.out.outb, by omega, by simp [hP], by simp [hP]; omega⟩
    · exact ⟨A4, c4', encLets a.poison, hblk.cell 3, own_weaken o4 (Nat.zero_le _), fun j hj h => by have := own_lt HO4.out j hj; have := HWB.out; rcases x2 _ h with h | h <;> omega, encLets_bytes _ HOK.out.poison HOK.out.few, by omega, by simp [hP], by simp [hP]; omega⟩
  have hPe : P 4 = encAct a := by simp [hP, encAct]
  have hPl : (P 4).length ≤ 100000 := by simp [hP]; omega
  have HP0 := Lib.hid (show WP W8 wb X1 (P 0) W8 from by have := x3 W8 hb48; simpa [hP] using this)
  have HR := Lib.hid hR
  have HBW := Lib.hid (show Below w.heap.size w W8 from ((HB2.out.trans (HB3.out.mono hs2)).trans (H4.out.chg.below (fun k hk => by have := HWB.out; rw [hk]; omega) (by omega))).trans (hb48.mono (by omega)))
  have HX1 := Lib.hid (show ∀ k, X1 k → w.heap.size ≤ k from fun k hk => (x2 k hk).elim (fun h => by have := HWB.out; omega) (fun h => by omega))
  have HX2 := Lib.hid hrb
  have hWs : w.heap.size ≤ W8.heap.size := by omega
  have HPE := Lib.hid hPe
  clear hR hblk o1 o2 o3 o4 l1 l1' l2 l2' l3 l3' l4 l4' l0 m1 m2 m3 m4 hP x1 x2 x3 x4 hb48 hb8 hW8 hal hrb c0 c1 c2 hPe
  clear HA HA1 HA2 HA3 HA4 HA4d HA5 HA6 HA7 HO1 HO2 HO3 HO4 HO43 HO44 HP H4 hs1 hs2 hs3 hs4 hs5 hs6 hs7 hpl HB1 HB2 HB3 HB5 HB6 HB7
  rename_i hHeld
  clear hHeld
  go_wp2_with fail
  go_loopw [46] (fun s wr => ∃ k : Nat, s = .int .i64 k ∧ k ≤ 4 ∧ WP W8 wb X1 (P k) wr) (fun s _ => 4 - (intOf s).toNat)
  case atStart => exact ⟨0, rfl, Nat.zero_le _, HP0.out⟩
  case round =>
    obtain ⟨k, rfl, hk, hp⟩ := hrel
    have k0 : (0 : Int) ≤ (k : Int) := by omega
    by_cases hkl : k < 4
    · have k1 : (k : Int) < 4 := by omega
      obtain ⟨A, c, bs, g0, g1, g2, g3, g4, g5, g6⟩ := HR.out k hkl
      have q0 := hp.chg.cell (a := ⟨w7.heap.size, k, none⟩) HX2.out g0
      have q1 := hp.chg.owns g1 g2
      obtain ⟨A', c', he, hle, hrd⟩ := own_reads_of_le (d := (0 : Int)) q1
      injection he with he1 _ he3
      subst he1 he3
      have hcv := conv_str (c := c) hrd
      have hbl := World.block_lt_of_cell? wr _ q0
      simp only at hbl
      have HG := Lib.hid (show encText (strOfNums bs) = encBytes bs from by rw [encText_eq, bytesOf_strOf bs g3])
      have HG5 := Lib.hid g5
      have hsz : (strOfNums bs).size = bs.length := by rw [← bytesOf_length, bytesOf_strOf bs g3]
      have HPR := Lib.hid hp
      clear hp g0 g1 g2 g3 g5 q1 hle hrd
      go_wp2_with fail
      refine (WP.text (strOfNums bs) (by omega) (by omega) HPR.out).mono ?_
      rintro e w9 ⟨rfl, h9⟩
      rw [HG.out, ← HG5.out] at h9
      have H9 := Lib.hid h9
      clear h9
      go_wp2_with fail
      go_roundw
      case rel => exact ⟨k + 1, by go_num, by omega, H9.out⟩
      case measure => simp [intOf]; omega
    · obtain rfl : k = 4 := by omega
      have HPR := Lib.hid hp
      clear hp
      go_wp2_with fail
      refine (WP.bytes (by omega) HPR.out).mono ?_
      rintro e w9 ⟨A, c, rfl, h6, h7⟩
      have hs9 := HPR.out.chg.size
      have H6 := Lib.hid (own_weaken h6 (show w.heap.size ≤ wr.heap.size by omega))
      have H7 := Lib.hid (show Below w.heap.size w w9 from (HBW.out.trans (HPR.out.chg.below HX1.out hWs)).trans (h7.mono (by omega)))
      clear h6 h7
      go_wp2_with fail
      go_ret2
      have h6 := H6.out
      rw [HPE.out] at h6
      exact ⟨A, c, by rw [← HPE.out]; rfl, h6, H7.out⟩
end Go.Proofs.YtlcdjgpblpodaaaGreatDoor

/- Act4, Shell1, Shell2, Win1 -/
import Derived.Test.YtlcdjgpblpodaaaGreatDoorMAO
import Derived.Test.YtlcdjgpblpodaaaGreatDoorMAA
import Derived.Shelf.SlicesE.Kit
import Derived.Lib.SliceRun
namespace Go.Proofs.YtlcdjgpblpodaaaGreatDoor
open Go.RowKit Go.Maps Go.Proofs.YtlcdjgpblpodaaaGreatDoorW.PrintWords

theorem bytesWorld_below (W : World) (s : ByteArray) : Below W.heap.size W (Lib.bytesWorld W 5 s) :=
  ⟨rfl, rfl, rfl, by rw [Lib.bytesWorld_size]; omega, fun k hk => Lib.bytesWorld_at_old W 5 s k hk⟩
theorem bytesWorld_reads (W : World) (bs : List Int) (h : IsBytes bs) (hl : bs.length ≤ 1099511627776) : ReadsOf (Value.int .u8) (0 : Int) (Lib.bytesWorld W 5 (strOfNums bs)) (some ⟨W.heap.size, 0, none⟩) bs.length bs := by
  refine ⟨rfl, by omega, fun _ => ⟨_, rfl, fun j hj => ?_⟩⟩
  rw [show (⟨W.heap.size, 0, none⟩ : Addr).add j = ⟨W.heap.size, j, none⟩ by rw [Go.WideShapes.add_plain, Nat.zero_add], Lib.bytesWorld_cell _ _ _ _ (by rw [strOfNums_size]; exact hj), strOfNums_data]
  have hx := h (bs[j]) (List.getElem_mem hj)
  simp [List.getD, hj]
  omega
theorem conv_bytes (bs : List Int) (W : World) : (convert 9 88 (.string (strOfNums bs))).run Tryz.prog W = .ok (.slice (some ⟨W.heap.size, 0, none⟩) bs.length (grownCap W bs.length 0 5)) (Lib.bytesWorld W 5 (strOfNums bs)) := by
  have h := Lib.run_convert_string_bytes (P := Tryz.prog) W 9 88 5 (strOfNums bs) Tryz.underlying9 Tryz.underlying88 Tryz.underlying5
  rwa [strOfNums_size] at h
theorem part211 (w : World) {i : Nat} (h : i < 4) : (part 25 #[.int .i64 0, .int .i64 0, .int .i64 0, .int .i64 0] (i * Tryz.prog.cellsOf 25)).run Tryz.prog w = .ok (.int .i64 0) w := by
  match i, h with
  | 0, _ | 1, _ | 2, _ | 3, _ => exact (show _ = _ by kernel_rfl)
theorem items211 (w : World) : ∀ is : List Nat, (∀ i ∈ is, i < 4) → (Op.eqItems 9999 25 (Tryz.prog.cellsOf 25) #[.int .i64 0, .int .i64 0, .int .i64 0, .int .i64 0] #[.int .i64 0, .int .i64 0, .int .i64 0, .int .i64 0] is).run Tryz.prog w = .ok true w
  | [], _ => rfl
  | i :: is, h => by
    simp only [Op.eqItems, Sem.run_bind, part211 w (h i (List.mem_cons_self ..)), Result.andThen_ok]
    rw [run_equalIn_int w 9998 25 _ _ _ _ Tryz.underlying25]
    simp only [beq_self_eq_true, Result.andThen_ok, Bool.not_true, Bool.false_eq_true, if_false]
    exact items211 w is (fun j hj => h j (List.mem_cons_of_mem _ hj))
theorem eq211 (w : World) : (Op.equalIn 10000 211 (.agg #[.int .i64 0, .int .i64 0, .int .i64 0, .int .i64 0]) (.agg #[.int .i64 0, .int .i64 0, .int .i64 0, .int .i64 0])).run Tryz.prog w = .ok true w := by
  obtain ⟨i, hi⟩ := Option.isSome_iff_exists.1 (show (Tryz.prog.info? 25).isSome = true by kernel_rfl)
  rw [run_equalIn_array w 9999 _ _ Tryz.underlying211 hi]
  exact items211 w _ (fun i hi => by simpa using hi)

set_option maxRecDepth 100000 in
set_option maxHeartbeats 1000000 in
theorem actdec (A : Option Addr) (c0 : Nat) (a : Actr) (ha : a.Ok) (ho : OutDec a.outb) (w : World) (hr : ReadsOf (Value.int .u8) (0 : Int) w A (encAct a).length (encAct a)) :
    Calls Tryz.prog 33 #[.slice A (encAct a).length c0] w fun e w' => ∃ p, e = .returned (.tuple #[.pointer (some ⟨p, 0, none⟩), .int .i64 0]) ∧ ActAt true w' (fun k => w.heap.size ≤ k) p a ∧ Below w.heap.size w w' := by
  have l1 := encJour_length a.jour ha.jour
  have l1' := ha.jour.few
  have l2 := encLets_length a.inbox ha.inbox ha.room
  have l2' := ha.room
  have l3 := encOutb_length a.outb ha.outb
  have l3' := ha.outb.counts
  have l4 := encLets_length a.poison ha.poison ha.few
  have l4' := ha.few
  have htr := ha.tries
  have hlen := encAct_length a ha
  have hmin : min (a.tries : Int) 3 = (a.tries : Int) := by omega
  have tw : IntKind.i64.wrap (a.tries : Int) = (a.tries : Int) := by rw [IntKind.wrap_i64]; omega
  have HN := Lib.hid (RP.new A c0 _ w hr (by omega) (encAct_bytes a ha))
  have HOK := Lib.hid ha
  have HOD := Lib.hid ho
  obtain ⟨N, hN⟩ : ∃ N, N = (encAct a).length := ⟨_, rfl⟩
  rw [← hN] at HN ⊢
  rw [show encAct a = encNum a.tries ++ (encBytes (encJour a.jour) ++ (encBytes (encLets a.inbox) ++ (encBytes (encOutb a.outb) ++ (encBytes (encLets a.poison) ++ [])))) by simp [encAct]] at HN
  clear hr ha ho hN hlen
  go_enter Tryz.func33, Tryz.ntmps33
  go_wp2_with fail
  refine HN.out.mono ?_
  rintro e w1 ⟨rb, rfl, hrb, hp, hb⟩
  have HB0 := Lib.hid hb
  have hrlt := hp.rlt
  have hs1 := hb.size
  obtain ⟨X, hX⟩ : ∃ X : Nat → Prop, X = fun k => w.heap.size ≤ k ∧ k < rb := ⟨_, rfl⟩
  rw [← hX] at hp
  have HP := Lib.hid hp
  clear hp hb hX HN
  go_wp2_with fail
  refine (RP.num a.tries (by omega) HP.out).mono ?_
  rintro e w2 ⟨rfl, h2, hc2⟩
  have HP2 := Lib.hid h2
  have hs2 := hc2.size
  clear h2
  go_wp2_with fail
  obtain ⟨p, hp⟩ : ∃ p, p = w2.heap.size := ⟨_, rfl⟩
  obtain ⟨q, hq⟩ : ∃ q, q = w2.heap.size + 1 := ⟨_, rfl⟩
  obtain ⟨V0, hV0⟩ : ∃ V, V = (w2.alloc (.cells #[.pointer none, .pointer none, .pointer none, .int .i64 a.tries, .slice none 0 0] 46)).alloc (.cells #[.int .i64 0, .int .i64 0, .int .i64 0, .int .i64 0] 211) := ⟨_, rfl⟩
  have HP0 := Lib.hid (show RP w1 rb X _ V0 from hV0 ▸ (HP2.out.alloc _).alloc _)
  have HC0 := Lib.hid (show Chg (fun k => k = rb) w1 V0 from hV0 ▸ ((show Chg (fun k => k = rb) w1 w2 from hc2).alloc _).alloc _)
  have HA0 := Lib.hid (show Blk V0 p #[.pointer none, .pointer none, .pointer none, .int .i64 a.tries, .slice none 0 0] 46 from by rw [hV0]; exact (Blk.newAt hp).alloc _)
  have HQ0 := Lib.hid (show Blk V0 q #[.int .i64 0, .int .i64 0, .int .i64 0, .int .i64 0] 211 from by rw [hV0]; exact Blk.newAt (by simp [hq]))
  have z0 : q < V0.heap.size := HQ0.out.lt
  have hpq : p < q := by omega
  have hne1 : ¬ p = q := by omega
  have hne2 : ¬ q = p := by omega
  have hrp : rb < p := by omega
  have hp1 : w1.heap.size ≤ p := by omega
  have hq1 : w1.heap.size < q := by omega
  rw [← hV0, ← hq, ← hp]
  clear hV0 hp hq hc2
  refine (RP.bytes (encJour a.jour) (by omega) HP0.out).mono ?_
  rintro e v1 ⟨rfl, h2, hc⟩
  have HPa1 := Lib.hid h2
  have HCa1 := Lib.hid hc
  have hcv := conv_bytes (encJour a.jour) v1
  clear h2 hc
  go_wp2_with fail
  clear hcv
  obtain ⟨W1, hW⟩ : ∃ W, W = Lib.bytesWorld v1 5 (strOfNums (encJour a.jour)) := ⟨_, rfl⟩
  have R1 := Lib.hid (show ReadsOf (Value.int .u8) (0 : Int) W1 _ _ _ from hW ▸ bytesWorld_reads v1 (encJour a.jour) (encJour_bytes _ HOK.out.jour) (by omega))
  have BW1 := Lib.hid (show Below v1.heap.size v1 W1 from hW ▸ bytesWorld_below v1 _)
  rw [← hW]
  clear hW
  refine (jdec_any _ _ a.jour HOK.out.jour W1 R1.out).mono ?_
  rintro e u1 ⟨jb, rfl, hx, hb⟩
  have BU1 := Lib.hid hb
  have HXJ1 := Lib.hid (jour_lt hx)
  clear hx hb
  have HD1 := Lib.hid ((HCa1.out.then_below BW1.out).then_below BU1.out)
  have HA1a := Lib.hid (HD1.out.blk HA0.out (by omega))
  have HQ1a := Lib.hid (HD1.out.blk HQ0.out (by omega))
  have y1a : u1.cell? ⟨p, 0, none⟩ = some (.pointer none) := HA1a.out.cell 0
  have y1b : u1.cell? ⟨q, 0, none⟩ = some (.int .i64 0) := HQ1a.out.cell 0
  have y1c : u1.frozen? ⟨p, 0, none⟩ = false := HA1a.out.free 0
  have y1d : u1.frozen? ⟨q, 0, none⟩ = false := HQ1a.out.free 0
  go_wp2_with fail
  obtain ⟨V1, hV⟩ : ∃ V, V = (u1.setCell ⟨p, 0, none⟩ (.pointer (some ⟨jb, 0, none⟩))).setCell ⟨q, 0, none⟩ (.int .i64 0) := ⟨_, rfl⟩
  have HV1 := Lib.hid (show Chg (fun j => j = p ∨ j = q) u1 V1 from hV ▸ ((Chg.refl _ u1).put p 0 (.inl (.inl rfl)) _).put q 0 (.inl (.inr rfl)) _)
  have HA1 := Lib.hid (show Blk V1 p #[.pointer (some ⟨jb, 0, none⟩), .pointer none, .pointer none, .int .i64 a.tries, .slice none 0 0] 46 from hV ▸ (HA1a.out.set 0 _).other hne1 _)
  have HQ1 := Lib.hid (show Blk V1 q #[.int .i64 0, .int .i64 0, .int .i64 0, .int .i64 0] 211 from hV ▸ (HQ1a.out.other hne2 _).set 0 _)
  have HS1 := Lib.hid (show Chg (fun j => j = rb ∨ j = p ∨ j = q) V0 V1 from (HD1.out.mono (fun _ _ h => .inl h)).trans HV1.out (fun _ _ h => .inr h))
  have HP1 := Lib.hid (HPa1.out.step ((((Chg.of_below BW1.out _).then_below BU1.out).trans HV1.out (fun j _ h => by rcases h with rfl | rfl <;> (show w1.heap.size ≤ _) <;> omega)) : Chg (fun j => w1.heap.size ≤ j) v1 V1))
  have z1a : V0.heap.size ≤ W1.heap.size := Nat.le_trans HCa1.out.size BW1.out.size
  have z1b : W1.heap.size ≤ u1.heap.size := BU1.out.size
  have z1c : u1.heap.size ≤ V1.heap.size := HV1.out.size
  rw [← hV]
  clear hV y1a y1b y1c y1d
  refine (RP.bytes (encLets a.inbox) (by omega) HP1.out).mono ?_
  rintro e v2 ⟨rfl, h2, hc⟩
  have HPa2 := Lib.hid h2
  have HCa2 := Lib.hid hc
  have hcv := conv_bytes (encLets a.inbox) v2
  clear h2 hc
  go_wp2_with fail
  clear hcv
  obtain ⟨W2, hW⟩ : ∃ W, W = Lib.bytesWorld v2 5 (strOfNums (encLets a.inbox)) := ⟨_, rfl⟩
  have R2 := Lib.hid (show ReadsOf (Value.int .u8) (0 : Int) W2 _ _ _ from hW ▸ bytesWorld_reads v2 (encLets a.inbox) (encLets_bytes _ HOK.out.inbox HOK.out.room) (by omega))
  have BW2 := Lib.hid (show Below v2.heap.size v2 W2 from hW ▸ bytesWorld_below v2 _)
  rw [← hW]
  clear hW
  refine (inbdec_any _ _ a.inbox HOK.out.inbox HOK.out.room W2 R2.out).mono ?_
  rintro e u2 ⟨ib, rfl, hx, hb⟩
  have BU2 := Lib.hid hb
  have HXI2 := Lib.hid (inbat_lt hx)
  clear hx hb
  have HD2 := Lib.hid ((HCa2.out.then_below BW2.out).then_below BU2.out)
  have HA2a := Lib.hid (HD2.out.blk HA1.out (by omega))
  have HQ2a := Lib.hid (HD2.out.blk HQ1.out (by omega))
  have y2a : u2.cell? ⟨p, 1, none⟩ = some (.pointer none) := HA2a.out.cell 1
  have y2b : u2.cell? ⟨q, 1, none⟩ = some (.int .i64 0) := HQ2a.out.cell 1
  have y2c : u2.frozen? ⟨p, 1, none⟩ = false := HA2a.out.free 1
  have y2d : u2.frozen? ⟨q, 1, none⟩ = false := HQ2a.out.free 1
  go_wp2_with fail
  obtain ⟨V2, hV⟩ : ∃ V, V = (u2.setCell ⟨p, 1, none⟩ (.pointer (some ⟨ib, 0, none⟩))).setCell ⟨q, 1, none⟩ (.int .i64 0) := ⟨_, rfl⟩
  have HV2 := Lib.hid (show Chg (fun j => j = p ∨ j = q) u2 V2 from hV ▸ ((Chg.refl _ u2).put p 1 (.inl (.inl rfl)) _).put q 1 (.inl (.inr rfl)) _)
  have HA2 := Lib.hid (show Blk V2 p #[.pointer (some ⟨jb, 0, none⟩), .pointer (some ⟨ib, 0, none⟩), .pointer none, .int .i64 a.tries, .slice none 0 0] 46 from hV ▸ (HA2a.out.set 1 _).other hne1 _)
  have HQ2 := Lib.hid (show Blk V2 q #[.int .i64 0, .int .i64 0, .int .i64 0, .int .i64 0] 211 from hV ▸ (HQ2a.out.other hne2 _).set 1 _)
  have HS2 := Lib.hid (show Chg (fun j => j = rb ∨ j = p ∨ j = q) V1 V2 from (HD2.out.mono (fun _ _ h => .inl h)).trans HV2.out (fun _ _ h => .inr h))
  have HP2 := Lib.hid (HPa2.out.step ((((Chg.of_below BW2.out _).then_below BU2.out).trans HV2.out (fun j _ h => by rcases h with rfl | rfl <;> (show w1.heap.size ≤ _) <;> omega)) : Chg (fun j => w1.heap.size ≤ j) v2 V2))
  have z2a : V1.heap.size ≤ W2.heap.size := Nat.le_trans HCa2.out.size BW2.out.size
  have z2b : W2.heap.size ≤ u2.heap.size := BU2.out.size
  have z2c : u2.heap.size ≤ V2.heap.size := HV2.out.size
  rw [← hV]
  clear hV y2a y2b y2c y2d
  refine (RP.bytes (encOutb a.outb) (by omega) HP2.out).mono ?_
  rintro e v3 ⟨rfl, h2, hc⟩
  have HPa3 := Lib.hid h2
  have HCa3 := Lib.hid hc
  have hcv := conv_bytes (encOutb a.outb) v3
  clear h2 hc
  go_wp2_with fail
  clear hcv
  obtain ⟨W3, hW⟩ : ∃ W, W = Lib.bytesWorld v3 5 (strOfNums (encOutb a.outb)) := ⟨_, rfl⟩
  have R3 := Lib.hid (show ReadsOf (Value.int .u8) (0 : Int) W3 _ _ _ from hW ▸ bytesWorld_reads v3 (encOutb a.outb) (encOutb_bytes _ HOK.out.outb) (by omega))
  have BW3 := Lib.hid (show Below v3.heap.size v3 W3 from hW ▸ bytesWorld_below v3 _)
  rw [← hW]
  clear hW
  refine (HOD.out _ _ W3 R3.out).mono ?_
  rintro e u3 ⟨ob, rfl, hx, hb⟩
  have BU3 := Lib.hid hb
  have HXO3 := Lib.hid (outb_lt hx)
  clear hx hb
  have HD3 := Lib.hid ((HCa3.out.then_below BW3.out).then_below BU3.out)
  have HA3a := Lib.hid (HD3.out.blk HA2.out (by omega))
  have HQ3a := Lib.hid (HD3.out.blk HQ2.out (by omega))
  have y3a : u3.cell? ⟨p, 2, none⟩ = some (.pointer none) := HA3a.out.cell 2
  have y3b : u3.cell? ⟨q, 2, none⟩ = some (.int .i64 0) := HQ3a.out.cell 2
  have y3c : u3.frozen? ⟨p, 2, none⟩ = false := HA3a.out.free 2
  have y3d : u3.frozen? ⟨q, 2, none⟩ = false := HQ3a.out.free 2
  go_wp2_with fail
  obtain ⟨V3, hV⟩ : ∃ V, V = (u3.setCell ⟨p, 2, none⟩ (.pointer (some ⟨ob, 0, none⟩))).setCell ⟨q, 2, none⟩ (.int .i64 0) := ⟨_, rfl⟩
  have HV3 := Lib.hid (show Chg (fun j => j = p ∨ j = q) u3 V3 from hV ▸ ((Chg.refl _ u3).put p 2 (.inl (.inl rfl)) _).put q 2 (.inl (.inr rfl)) _)
  have HA3 := Lib.hid (show Blk V3 p #[.pointer (some ⟨jb, 0, none⟩), .pointer (some ⟨ib, 0, none⟩), .pointer (some ⟨ob, 0, none⟩), .int .i64 a.tries, .slice none 0 0] 46 from hV ▸ (HA3a.out.set 2 _).other hne1 _)
  have HQ3 := Lib.hid (show Blk V3 q #[.int .i64 0, .int .i64 0, .int .i64 0, .int .i64 0] 211 from hV ▸ (HQ3a.out.other hne2 _).set 2 _)
  have HS3 := Lib.hid (show Chg (fun j => j = rb ∨ j = p ∨ j = q) V2 V3 from (HD3.out.mono (fun _ _ h => .inl h)).trans HV3.out (fun _ _ h => .inr h))
  have HP3 := Lib.hid (HPa3.out.step ((((Chg.of_below BW3.out _).then_below BU3.out).trans HV3.out (fun j _ h => by rcases h with rfl | rfl <;> (show w1.heap.size ≤ _) <;> omega)) : Chg (fun j => w1.heap.size ≤ j) v3 V3))
  have z3a : V2.heap.size ≤ W3.heap.size := Nat.le_trans HCa3.out.size BW3.out.size
  have z3b : W3.heap.size ≤ u3.heap.size := BU3.out.size
  have z3c : u3.heap.size ≤ V3.heap.size := HV3.out.size
  rw [← hV]
  clear hV y3a y3b y3c y3d
  refine (RP.bytes (encLets a.poison) (by omega) HP3.out).mono ?_
  rintro e v4 ⟨rfl, h2, hc⟩
  have HPa4 := Lib.hid h2
  have HCa4 := Lib.hid hc
  have hcv := conv_bytes (encLets a.poison) v4
  clear h2 hc
  go_wp2_with fail
  clear hcv
  obtain ⟨W4, hW⟩ : ∃ W, W = Lib.bytesWorld v4 5 (strOfNums (encLets a.poison)) := ⟨_, rfl⟩
  have R4 := Lib.hid (show ReadsOf (Value.int .u8) (0 : Int) W4 _ _ _ from hW ▸ bytesWorld_reads v4 (encLets a.poison) (encLets_bytes _ HOK.out.poison HOK.out.few) (by omega))
  have BW4 := Lib.hid (show Below v4.heap.size v4 W4 from hW ▸ bytesWorld_below v4 _)
  rw [← hW]
  clear hW
  refine (unpack_any _ _ a.poison HOK.out.poison HOK.out.few W4 R4.out).mono ?_
  rintro e u4 ⟨PA, pc, cs, rfl, hx, hl, hb⟩
  have BU4 := Lib.hid hb
  have HXP4 := Lib.hid hx
  have HLC := Lib.hid hl
  clear hx hl hb
  have HD4 := Lib.hid ((HCa4.out.then_below BW4.out).then_below BU4.out)
  have HA4a := Lib.hid (HD4.out.blk HA3.out (by omega))
  have HQ4a := Lib.hid (HD4.out.blk HQ3.out (by omega))
  have y4a : u4.cell? ⟨p, 4, none⟩ = some (.slice none 0 0) := HA4a.out.cell 4
  have y4b : u4.cell? ⟨q, 3, none⟩ = some (.int .i64 0) := HQ4a.out.cell 3
  have y4c : u4.frozen? ⟨p, 4, none⟩ = false := HA4a.out.free 4
  have y4d : u4.frozen? ⟨q, 3, none⟩ = false := HQ4a.out.free 3
  go_wp2_with fail
  obtain ⟨V4, hV⟩ : ∃ V, V = (u4.setCell ⟨p, 4, none⟩ (.slice PA a.poison.length pc)).setCell ⟨q, 3, none⟩ (.int .i64 0) := ⟨_, rfl⟩
  have HV4 := Lib.hid (show Chg (fun j => j = p ∨ j = q) u4 V4 from hV ▸ ((Chg.refl _ u4).put p 4 (.inl (.inl rfl)) _).put q 3 (.inl (.inr rfl)) _)
  have HA4 := Lib.hid (show Blk V4 p #[.pointer (some ⟨jb, 0, none⟩), .pointer (some ⟨ib, 0, none⟩), .pointer (some ⟨ob, 0, none⟩), .int .i64 a.tries, .slice PA a.poison.length pc] 46 from hV ▸ (HA4a.out.set 4 _).other hne1 _)
  have HQ4 := Lib.hid (show Blk V4 q #[.int .i64 0, .int .i64 0, .int .i64 0, .int .i64 0] 211 from hV ▸ (HQ4a.out.other hne2 _).set 3 _)
  have HS4 := Lib.hid (show Chg (fun j => j = rb ∨ j = p ∨ j = q) V3 V4 from (HD4.out.mono (fun _ _ h => .inl h)).trans HV4.out (fun _ _ h => .inr h))
  have HP4 := Lib.hid (HPa4.out.step ((((Chg.of_below BW4.out _).then_below BU4.out).trans HV4.out (fun j _ h => by rcases h with rfl | rfl <;> (show w1.heap.size ≤ _) <;> omega)) : Chg (fun j => w1.heap.size ≤ j) v4 V4))
  have z4a : V3.heap.size ≤ W4.heap.size := Nat.le_trans HCa4.out.size BW4.out.size
  have z4b : W4.heap.size ≤ u4.heap.size := BU4.out.size
  have z4c : u4.heap.size ≤ V4.heap.size := HV4.out.size
  rw [← hV]
  clear hV y4a y4b y4c y4d
  have HE := Lib.hid (RP.end_ HP4.out)
  have hq211 : ∀ w : World, (Op.equalIn 10000 211 (.agg #[.int .i64 0, .int .i64 0, .int .i64 0, .int .i64 0]) (.agg #[.int .i64 0, .int .i64 0, .int .i64 0, .int .i64 0])).run Tryz.prog w = .ok true w := eq211
  have y0 : V4.cell? ⟨q, 0, none⟩ = some (.int .i64 0) := HQ4.out.cell 0
  have y1 : V4.cell? ⟨q, 1, none⟩ = some (.int .i64 0) := HQ4.out.cell 1
  have y2 : V4.cell? ⟨q, 2, none⟩ = some (.int .i64 0) := HQ4.out.cell 2
  have y3 : V4.cell? ⟨q, 3, none⟩ = some (.int .i64 0) := HQ4.out.cell 3
  have hact : ActAt true V4 (fun k => w.heap.size ≤ k) p a := by
    have n1 : ∀ j, (W1.heap.size ≤ j ∧ j < u1.heap.size) → ¬ (j = rb ∨ j = p ∨ j = q) := fun j hj => by omega
    have n2 : ∀ j, (W2.heap.size ≤ j ∧ j < u2.heap.size) → ¬ (j = rb ∨ j = p ∨ j = q) := fun j hj => by omega
    have n3 : ∀ j, (W3.heap.size ≤ j ∧ j < u3.heap.size) → ¬ (j = rb ∨ j = p ∨ j = q) := fun j hj => by omega
    have n4 : ∀ j, (W4.heap.size ≤ j ∧ j < u4.heap.size) → ¬ (j = p ∨ j = q) := fun j hj => by omega
    have m1 : ∀ j, (W1.heap.size ≤ j ∧ j < u1.heap.size) → ¬ (j = p ∨ j = q) := fun j hj => by omega
    have m2 : ∀ j, (W2.heap.size ≤ j ∧ j < u2.heap.size) → ¬ (j = p ∨ j = q) := fun j hj => by omega
    have m3 : ∀ j, (W3.heap.size ≤ j ∧ j < u3.heap.size) → ¬ (j = p ∨ j = q) := fun j hj => by omega
    have J := ((((HXJ1.out.chg HV1.out m1).chg HS2.out n1).chg HS3.out n1).chg HS4.out n1)
    have I := (((HXI2.out.chg HV2.out m2).chg HS3.out n2).chg HS4.out n2)
    have O := ((HXO3.out.chg HV3.out m3).chg HS4.out n3)
    have Q := (LetsAt.of_own HXP4.out (HLC.out.mono (fun k hk => hk.1)) rfl (fun k hk => own_base HXP4.out k hk)).lt.chg HV4.out n4
    exact ⟨jb, ib, ob, PA, pc, _, _, _, _, by show w.heap.size ≤ p; omega, HA4.out, J, I.rd, fun _ => I, O, Q, fun k hk => by rcases hk with h | h | h | h <;> (refine ⟨?_, ?_, ?_⟩ <;> (try show w.heap.size ≤ k) <;> omega), fun k h h' => by omega, fun k h h' => by omega, fun k h h' => by omega, fun k h h' => by omega, fun k h h' => by omega, fun k h h' => by omega⟩
  have HACT := Lib.hid hact
  have HBB := Lib.hid (show Below w.heap.size w V4 from HB0.out.trans (HP4.out.chg.below (fun k hk => by have : k = rb := hk; omega) hs1))
  clear hact
  go_wp2_with fail
  refine HE.out.mono ?_
  rintro e v5 ⟨rfl, rfl⟩
  go_wp2_with fail
  refine (sound_act _ p a HOK.out V4 HACT.out).mono ?_
  rintro e v6 ⟨rfl, hb⟩
  have HACT6 := Lib.hid (HACT.out.below hb)
  have HBB6 := Lib.hid (HBB.out.trans (hb.mono HBB.out.size))
  clear hb
  go_wp2_with fail
  go_ret2
  exact ⟨p, rfl, HACT6.out, HBB6.out⟩
end Go.Proofs.YtlcdjgpblpodaaaGreatDoor
namespace Go.Proofs.YtlcdjgpblpodaaaGreatDoor
open Go.RowKit Go.Proofs.YtlcdjgpblpodaaaGreatDoorW.PrintWords

theorem formatInt_small (i : Nat) (hi : i < 100) (w : World) : Calls Tryz.prog 249 #[.int .i64 i, .int .i64 10] w fun e w' => e = .returned (.string ⟨(Lib.decDigits i).toArray⟩) ∧ w' = w := Any.strconv_FormatInt_10_small Tryz.lFormatInt i hi w
theorem parseInt_ok (s : ByteArray) (hmax : s.size ≤ 9223372036854775806) (v : Int) (h : Lib.parseIntB 64 s.data.toList = .ok v) (w : World) : Calls Tryz.prog 248 #[.string s, .int .i64 10, .int .i64 64] w fun e w' => e = .returned (.tuple #[.int .i64 v, .nilIface]) ∧ Below w.heap.size w w' :=
  (Any.strconv_ParseInt_10_at64_ok Tryz.lParseInt s hmax v h w).mono fun e w' ⟨h1, h2⟩ => ⟨h1, by
    rcases h2 with rfl | ⟨t, rfl⟩
    · exact Below.refl _ _
    · exact bytesWorld_below w t⟩
theorem parseUint_ok (s : ByteArray) (hmax : s.size ≤ 9223372036854775806) (v : Nat) (h : Lib.parseUintB 64 s.data.toList = .ok v) (w : World) : Calls Tryz.prog 246 #[.string s, .int .i64 10, .int .i64 64] w fun e w' => e = .returned (.tuple #[.int .u64 v, .nilIface]) ∧ Below w.heap.size w w' :=
  (Any.strconv_ParseUint_10_at64_ok Tryz.lParseUint s hmax v h w).mono fun e w' ⟨h1, h2⟩ => ⟨h1, by
    rcases h2 with rfl | rfl
    · exact Below.refl _ _
    · exact bytesWorld_below w s⟩
theorem int_word (s : ByteArray) (v : Nat) (hv : v < 100) (hs : s.size ≤ 100) (h : Lib.parseIntB 64 s.data.toList = .ok (v : Int)) (hd : (⟨(Lib.decDigits v).toArray⟩ : ByteArray) = s) (w : World) : Calls Tryz.prog 192 #[.string s] w fun e w' => e = .returned (.tuple #[.int .i64 v, .bool true]) ∧ Below w.heap.size w w' := by
  have HP := Lib.hid (parseInt_ok s (by omega) v h w)
  have HF := Lib.hid (fun W => hd ▸ formatInt_small v hv W)
  clear h hd
  go_enter Tryz.func192, Tryz.ntmps192
  go_wp2_with fail
  refine HP.out.mono ?_
  rintro e w1 ⟨rfl, hb1⟩
  have HB1 := Lib.hid hb1
  clear hb1
  go_wp2_with fail
  refine (HF.out w1).mono ?_
  rintro e w2 ⟨rfl, rfl⟩
  go_wp2_with fail
  go_ret2
  exact ⟨by simp, HB1.out⟩
theorem shape_offer (w : World) : Calls Tryz.prog 190 #[.string ⟨#[111, 102, 102, 101, 114]⟩, .int .i64 5] w fun e w' => e = .returned (.tuple #[.string ⟨#[99, 115, 107, 105, 105]⟩, .bool true]) ∧ w = w' := by
  go_enter Tryz.func190, Tryz.ntmps190
  go_wp2_with fail
  refine (Any.strings_Repeat_one Tryz.lRepeat ⟨#[105]⟩ w).mono ?_
  rintro e w1 ⟨rfl, rfl⟩
  go_wp2_with fail
  go_ret2
  exact ⟨by rfl, rfl⟩
end Go.Proofs.YtlcdjgpblpodaaaGreatDoor
namespace Go.Proofs
theorem Tryz.lString_extra : Builder.Extra Tryz.prog Tryz.lString_ren where
  sizeBuilder := by kernel_rfl
  liesBuilder := by kernel_rfl
  t5 := Tryz.underlying5
  a5 := Tryz.isAgg5
  z5 := Tryz.sizeOf5
  v5 := Tryz.zeroValue5
  infoByte := by kernel_rfl
  cellsByte := by kernel_rfl
  sizeByte := by kernel_rfl
  neB5 := by decide
namespace YtlcdjgpblpodaaaGreatDoor
open Go.RowKit Go.Proofs.YtlcdjgpblpodaaaGreatDoorW.PrintWords

set_option maxRecDepth 100000 in
set_option maxHeartbeats 1000000 in
theorem copycheck_fresh (b : Nat) (w : World) (h : Blk w b #[.pointer none, .slice none 0 0] 405) : Calls Tryz.prog 285 #[.pointer (some ⟨b, 0, none⟩)] w fun e w' => e = .returned (.tuple #[]) ∧ w' = w.setCell ⟨b, 0, none⟩ (.pointer (some ⟨b, 0, none⟩)) := by
  have c0 : w.cell? ⟨b, 0, none⟩ = some (.pointer none) := h.cell 0
  have f0 := h.free 0
  have l0 := h.lt
  have hsh : w.shape? b = some (405, 2) := by unfold Blk at h; simp [World.shape?, h]
  obtain ⟨j, hj, hjs⟩ := Option.map_eq_some_iff.1 (show (Tryz.prog.info? 405).map (·.size) = some 2 by kernel_rfl)
  clear h
  go_enter Tryz.func285, Tryz.ntmps285
  go_wp2
  rw [Lib.run_to_unsafe w ⟨b, 0, none⟩ Tryz.underlying403 Tryz.underlying467 hj (by rw [hjs]; decide) hsh (Nat.zero_lt_succ 1)]
  simp only [Result.andThen]
  rw [Oper.upon_value]
  go_wp2
  rw [run_callFunc_extern Tryz.func332 (by kernel_rfl) (by kernel_rfl) (by kernel_rfl) (e := Extern.AbiNoEscape.same) (by kernel_rfl)]
  rw [Lib.run_noEscape]
  simp only [Result.andThen]
  rw [Oper.upon_value]
  go_wp2
  rw [Lib.run_from_unsafe w ⟨b, 0, none⟩ Tryz.underlying467 Tryz.underlying403 hj hsh (by kernel_rfl)]
  simp only [Result.andThen]
  rw [Oper.upon_value]
  go_wp2
  go_end0
  exact ⟨rfl, rfl⟩
theorem number_one (w : World) : Calls Tryz.prog 191 #[.string ⟨#[49]⟩] w fun e w' => e = .returned (.tuple #[.int .u64 1, .bool true]) ∧ Below w.heap.size w w' := by
  have HP := Lib.hid (parseUint_ok ⟨#[49]⟩ (by show 1 ≤ _; omega) 1 (by kernel_rfl) w)
  have hd : (⟨(Lib.decDigits 1).toArray⟩ : ByteArray) = ⟨#[49]⟩ := by kernel_rfl
  have HF := Lib.hid (fun W => hd ▸ Any.internal_strconv_small Tryz.lSmall 1 (by omega) W)
  clear hd
  go_enter Tryz.func191, Tryz.ntmps191
  go_wp2_with fail
  refine HP.out.mono ?_
  rintro e w1 ⟨rfl, hb1⟩
  have HB1 := Lib.hid hb1
  clear hb1
  go_wp2_with (first | (go_at_call 247; go_in) | (go_at_call 282; go_in))
  refine (HF.out w1).mono ?_
  rintro e w2 ⟨rfl, rfl⟩
  go_wp2_with fail
  go_ret2
  exact ⟨by rfl, HB1.out⟩
end YtlcdjgpblpodaaaGreatDoor
end Go.Proofs
namespace Go.Proofs.YtlcdjgpblpodaaaGreatDoor
open Go.RowKit Go.Maps Go.Proofs.YtlcdjgpblpodaaaGreatDoorW.PrintWords

theorem contains83 (A : Option Addr) (c : Nat) (xs : List Int) (x : Int) (w : World) (hr : ReadsOf (Value.int .u64) (0 : Int) w A xs.length xs) (hs : ∀ a, A = some a → a.spot = none) :
    Calls Tryz.prog 83 #[.slice A xs.length c, .int .u64 x] w fun e w' => e = .returned (.bool (xs.any fun y => x == y)) ∧ w' = w := by
  rcases Nat.eq_zero_or_pos xs.length with h0 | h0
  · obtain rfl := List.eq_nil_of_length_eq_zero h0
    exact AnyE.slices_Contains_empty Tryz.co83 A c (.int .u64 x) w
  · obtain ⟨a, rfl, hc⟩ := hr.2.2 h0
    obtain ⟨b, off, sp⟩ := a
    obtain rfl : sp = none := hs _ rfl
    refine (AnyE.slices_Contains Tryz.co83 (Value.int .u64) _ (EqlAt.int _ _ _) b off xs.length c xs x w (Nat.le_refl _) hr.2.1 (fun j hj => ?_)).mono fun e w' q => ⟨?_, q.2⟩
    · rw [getElem!_pos xs j hj]
      have := hc j hj
      rw [Go.WideShapes.add_plain] at this
      simpa [List.getD, hj] using this
    · rw [q.1, List.take_of_length_le (Nat.le_refl _)]
theorem setCells_one (w : World) (g : Nat) (v : Value) : w.setCells g 0 [v] = w.setCell ⟨g, 0, none⟩ v := rfl
theorem closure100 (x y : Int) (kb : Nat) (w : World) (h : w.cell? ⟨kb, 0, none⟩ = some (.int .u64 y)) : Calls Tryz.prog 100 #[.int .u64 x, .pointer (some ⟨kb, 0, none⟩)] w fun e w' => e = .returned (.bool (x == y)) ∧ w = w' := by
  go_enter Tryz.func100, Tryz.ntmps100
  go_wp2
  go_ret
  exact ⟨rfl, rfl⟩
theorem index166 (g c : Nat) (x : Int) (kb : Nat) (w : World) (h0 : w.cell? ⟨g, 0, none⟩ = some (.int .u64 x)) (hk : w.cell? ⟨kb, 0, none⟩ = some (.int .u64 x)) :
    Calls Tryz.prog 166 #[.slice (some ⟨g, 0, none⟩) 1 c, .func (.func 100) #[] #[.pointer (some ⟨kb, 0, none⟩)]] w fun e w' => e = .returned (.int .i64 0) ∧ w = w' := by
  have HC := Lib.hid (closure100 x x kb w hk)
  clear hk
  go_enter Tryz.func166, Tryz.ntmps166
  go_wp2_with fail
  refine wp_loop_rounds 1 ?_
  rw [rounds_succ]
  go_wp2_with fail
  refine HC.out.mono ?_
  rintro e w' ⟨rfl, rfl⟩
  go_wp2_with fail
  go_ret
  exact ⟨rfl, rfl⟩
theorem index166_nil (f : Value) (w : World) : Calls Tryz.prog 166 #[.slice none 0 0, f] w fun e w' => e = .returned (.int .i64 (-1)) ∧ w = w' := by
  go_enter Tryz.func166, Tryz.ntmps166
  go_wp2_with fail
  refine wp_loop_rounds 1 ?_
  rw [rounds_succ]
  go_wp2_with fail
  go_ret
  exact ⟨rfl, rfl⟩
theorem delete99_nil (f : Value) (w : World) : Calls Tryz.prog 99 #[.slice none 0 0, f] w fun e w' => e = .returned (.slice none 0 0) ∧ w = w' := by
  have HI := Lib.hid (index166_nil f w)
  go_enter Tryz.func99, Tryz.ntmps99
  go_wp2_with fail
  refine HI.out.mono ?_
  rintro e w' ⟨rfl, rfl⟩
  go_wp2_with fail
  go_ret
  exact ⟨rfl, rfl⟩
theorem delete99 (g c : Nat) (x : Int) (kb : Nat) (w : World) (hc : 1 ≤ c) (ho : w.ownsRow 0 32 1 (.slice (some ⟨g, 0, none⟩) 1 c) 1 [.int .u64 x]) (hk : w.cell? ⟨kb, 0, none⟩ = some (.int .u64 x)) :
    Calls Tryz.prog 99 #[.slice (some ⟨g, 0, none⟩) 1 c, .func (.func 100) #[] #[.pointer (some ⟨kb, 0, none⟩)]] w fun e w' => e = .returned (.slice (some ⟨g, 0, none⟩) 0 c) ∧ w'.ownsRow 0 32 1 (.slice (some ⟨g, 0, none⟩) 0 c) 0 [] ∧ Chg (fun k => k = g) w w' := by
  obtain ⟨g', hg', hg0, hgl, hcell⟩ := own_cell ho (by omega)
  obtain rfl : g = g' := by injection hg' with h; injection h
  have h0 : w.cell? ⟨g, 0, none⟩ = some (.int .u64 x) := hcell 0 _ rfl
  have HI := Lib.hid (index166 g c x kb w h0 hk)
  obtain ⟨i32, hi32, hz32, hs32, hb32⟩ := info_parts info32
  obtain ⟨hat, hfr⟩ := own_at_of (d := (0 : Int)) (enc := Value.int .u64) (xs := [x]) ho 0 (by omega) (by simp)
  have hcl : ∀ ty, (Builtin.clear_ #[192] ty #[.slice (some ⟨g, 0, none⟩) 1 c]).run Tryz.prog w = .ok (.tuple #[]) (w.setCells g 0 [.int .u64 0]) := fun ty =>
    Lib.run_clear_slice w 192 32 ty (.int .u64 0) Tryz.underlying192 (fun w => Tryz.zeroValue32 w) rfl rfl g 0 1 c (by omega) (fun j hj => by (obtain rfl : j = 0 := by omega); simp [h0]) (fun j hj => by (obtain rfl : j = 0 := by omega); exact hfr)
  have hs1 : ∀ W, (Instr.slice 192 (.slice (some ⟨g, 0, none⟩) 1 c) (some (.int .i64 0)) none none).run Tryz.prog W = .ok (.slice (some ⟨g, 0, none⟩) 1 c) W := fun W => by
    rw [run_slice_l W 192 _ 1 c (by rw [show Tryz.prog.elem 192 = 32 by simp [Program.elem, Tryz.underlying192]]; exact Tryz.underlying192) .i64 0 (by omega) (by omega)]
    simp [Tryz.sizeOf32, sliced, Program.elem, Tryz.underlying192, Result.andThen, Addr.add]
  have hs2 : ∀ W, (Instr.slice 192 (.slice (some ⟨g, 0, none⟩) 1 c) none (some (.int .i64 0)) none).run Tryz.prog W = .ok (.slice (some ⟨g, 0, none⟩) 0 c) W := cut_hi 192 32 .i64 Tryz.underlying192 hi32 hs32 (some ⟨g, 0, none⟩) 1 c 0 (by omega)
  have HF := Lib.hid (own_take ho (show 0 ≤ 1 by omega))
  clear hk hcell hg'
  go_enter Tryz.func99, Tryz.ntmps99
  go_wp2_with fail
  refine HI.out.mono ?_
  rintro e w' ⟨rfl, rfl⟩
  go_wp2_with fail
  refine wp_loop_rounds 1 ?_
  rw [rounds_succ]
  go_wp2_with fail
  go_ret
  refine ⟨rfl, ?_, ?_⟩
  · rw [setCells_one]
    exact own_take (own_store_of (enc := Value.int .u64) (xs := [x]) ho 0 0).1 (show 0 ≤ 1 by omega)
  · rw [setCells_one]
    exact (Chg.refl (fun k => k = g) w).put g 0 (.inl rfl) _
theorem closure222 (x : ByteArray) (kb : Nat) (w : World) (h : w.cell? ⟨kb, 0, none⟩ = some (.string x)) : Calls Tryz.prog 222 #[.string x, .pointer (some ⟨kb, 0, none⟩)] w fun e w' => e = .returned (.bool true) ∧ w = w' := by
  go_enter Tryz.func222, Tryz.ntmps222
  go_wp2
  go_ret
  exact ⟨rfl, rfl⟩
theorem index264 (g c : Nat) (x : ByteArray) (kb : Nat) (w : World) (h0 : w.cell? ⟨g, 0, none⟩ = some (.string x)) (hk : w.cell? ⟨kb, 0, none⟩ = some (.string x)) :
    Calls Tryz.prog 264 #[.slice (some ⟨g, 0, none⟩) 1 c, .func (.func 222) #[] #[.pointer (some ⟨kb, 0, none⟩)]] w fun e w' => e = .returned (.int .i64 0) ∧ w = w' := by
  have HC := Lib.hid (closure222 x kb w hk)
  clear hk
  go_enter Tryz.func264, Tryz.ntmps264
  go_wp2_with fail
  refine wp_loop_rounds 1 ?_
  rw [rounds_succ]
  go_wp2_with fail
  refine HC.out.mono ?_
  rintro e w' ⟨rfl, rfl⟩
  go_wp2_with fail
  go_ret
  exact ⟨rfl, rfl⟩
theorem delete221 (g c : Nat) (x : ByteArray) (kb : Nat) (w : World) (hc : 1 ≤ c) (ho : w.ownsRow 0 9 1 (.slice (some ⟨g, 0, none⟩) 1 c) 1 [.string x]) (hk : w.cell? ⟨kb, 0, none⟩ = some (.string x)) :
    Calls Tryz.prog 221 #[.slice (some ⟨g, 0, none⟩) 1 c, .func (.func 222) #[] #[.pointer (some ⟨kb, 0, none⟩)]] w fun e w' => e = .returned (.slice (some ⟨g, 0, none⟩) 0 c) ∧ w'.ownsRow 0 9 1 (.slice (some ⟨g, 0, none⟩) 0 c) 0 [] ∧ Chg (fun k => k = g) w w' := by
  obtain ⟨g', hg', hg0, hgl, hcell⟩ := own_cell ho (by omega)
  obtain rfl : g = g' := by injection hg' with h; injection h
  have h0 : w.cell? ⟨g, 0, none⟩ = some (.string x) := hcell 0 _ rfl
  have HI := Lib.hid (index264 g c x kb w h0 hk)
  obtain ⟨i32, hi32, hz32, hs32, hb32⟩ := info_parts info9
  obtain ⟨hat, hfr⟩ := own_at_of (d := (⟨#[]⟩ : ByteArray)) (enc := Value.string) (xs := [x]) ho 0 (by omega) (by simp)
  have hcl : ∀ ty, (Builtin.clear_ #[49] ty #[.slice (some ⟨g, 0, none⟩) 1 c]).run Tryz.prog w = .ok (.tuple #[]) (w.setCells g 0 [.string ⟨#[]⟩]) := fun ty =>
    Lib.run_clear_slice w 49 9 ty (.string ⟨#[]⟩) Tryz.underlying49 (fun w => Tryz.zeroValue9 w) rfl rfl g 0 1 c (by omega) (fun j hj => by (obtain rfl : j = 0 := by omega); simp [h0]) (fun j hj => by (obtain rfl : j = 0 := by omega); exact hfr)
  have hs1 : ∀ W, (Instr.slice 49 (.slice (some ⟨g, 0, none⟩) 1 c) (some (.int .i64 0)) none none).run Tryz.prog W = .ok (.slice (some ⟨g, 0, none⟩) 1 c) W := fun W => by
    rw [run_slice_l W 49 _ 1 c (by rw [show Tryz.prog.elem 49 = 9 by simp [Program.elem, Tryz.underlying49]]; exact Tryz.underlying49) .i64 0 (by omega) (by omega)]
    simp [Tryz.sizeOf9, sliced, Program.elem, Tryz.underlying49, Result.andThen, Addr.add]
  have hs2 : ∀ W, (Instr.slice 49 (.slice (some ⟨g, 0, none⟩) 1 c) none (some (.int .i64 0)) none).run Tryz.prog W = .ok (.slice (some ⟨g, 0, none⟩) 0 c) W := cut_hi 49 9 .i64 Tryz.underlying49 hi32 hs32 (some ⟨g, 0, none⟩) 1 c 0 (by omega)
  have HF := Lib.hid (own_take ho (show 0 ≤ 1 by omega))
  clear hk hcell hg'
  go_enter Tryz.func221, Tryz.ntmps221
  go_wp2_with fail
  refine HI.out.mono ?_
  rintro e w' ⟨rfl, rfl⟩
  go_wp2_with fail
  refine wp_loop_rounds 1 ?_
  rw [rounds_succ]
  go_wp2_with fail
  go_ret
  refine ⟨rfl, ?_, ?_⟩
  · rw [setCells_one]
    exact own_take (own_store_of (enc := Value.string) (xs := [x]) ho 0 ⟨#[]⟩).1 (show 0 ≤ 1 by omega)
  · rw [setCells_one]
    exact (Chg.refl (fun k => k = g) w).put g 0 (.inl rfl) _
end Go.Proofs.YtlcdjgpblpodaaaGreatDoor

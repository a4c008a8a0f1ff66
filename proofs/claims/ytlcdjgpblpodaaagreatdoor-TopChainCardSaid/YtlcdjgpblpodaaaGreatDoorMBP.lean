/- OutP -/
import Derived.Test.YtlcdjgpblpodaaaGreatDoorMBO
import Derived.Test.YtlcdjgpblpodaaaGreatDoorMBJ
namespace Go.Proofs.YtlcdjgpblpodaaaGreatDoor
open Go.RowKit Go.Maps Go.Proofs.YtlcdjgpblpodaaaGreatDoorW.PrintWords

theorem cut_out (b off n c : Nat) (hn : 1 ≤ n) :
    ∃ A' : Option Addr, (∀ W : World, (Instr.slice 256 (.slice (some ⟨b, off, none⟩) n c) (some (.int .i64 1)) none none).run Tryz.prog W = .ok (.slice A' (n - 1) (c - 1)) W) := by
  obtain ⟨i0, z0, hi, hz0, hz1, hz2, hz3⟩ := info_big info139
  refine ⟨if c = 1 then some ⟨b, off, none⟩ else some ⟨b, off + 5, none⟩, fun W => ?_⟩
  have hel : Tryz.prog.elem 256 = 139 := by simp [Program.elem, Tryz.underlying256]
  have hu : Tryz.prog.underlying 256 = some (.slice (Tryz.prog.elem 256)) := by rw [hel]; exact Tryz.underlying256
  rw [run_slice_l W 256 (some ⟨b, off, none⟩) n c hu .i64 1 (by omega) (by omega), hel]
  simp [sizeOf, typeInfo, hi, hz1, sliced, Result.andThen, Addr.add]
set_option maxRecDepth 100000 in
set_option maxHeartbeats 1000000 in
theorem outfirst {fr : Bool} (X : Nat → Prop) (ob : Nat) (ow k : ByteArray) (ss : List (ByteArray × Nat)) (l : Let) (how : KeyOk ow) (hl : l.args.length ≤ 4) (w : World) (h : OutbAt fr w X ob ⟨ow, ss, [(k, l)]⟩) :
    Calls Tryz.prog 124 #[.pointer (some ⟨ob, 0, none⟩)] w fun e w' => ∃ A c, e = .returned (.tuple #[.agg #[.string k, .string l.frm, .int .u64 l.serial, .int .i64 l.kind, .slice A l.args.length c], .bool true]) ∧ ArgsAt w' (fun j => w.heap.size ≤ j) A c l.args ∧ Below w.heap.size w w' := by
  obtain ⟨rb, hrb⟩ : ∃ b, b = w.heap.size := ⟨_, rfl⟩
  obtain ⟨W1, hW1⟩ : ∃ W, W = w.alloc (.cells #[.string ⟨#[]⟩, .string ⟨#[]⟩, .int .u64 0, .int .i64 0, .slice none 0 0] 139) := ⟨_, rfl⟩
  have hb1 : Below w.heap.size w W1 := hW1 ▸ (Below.refl _ _).alloc (Nat.le_refl _) _
  have hr1 : Blk W1 rb #[.string ⟨#[]⟩, .string ⟨#[]⟩, .int .u64 0, .int .i64 0, .slice none 0 0] 139 := hW1 ▸ Blk.newAt hrb
  have h1' := (outb_lt h).chg (Chg.of_below hb1 (fun _ => False)) (fun _ _ h => h)
  have HN := Lib.hid (none_any _ ob ⟨ow, ss, [(k, l)]⟩ how W1 h1')
  obtain ⟨A, c, mb, n, h1, h2, h3, h4, h5, h6, h7, h8⟩ := h1'
  obtain ⟨b, off, rfl, hXb, hcell⟩ := h4 (by simp)
  obtain ⟨y0, ⟨AA, ca, y1, y2, y3, y4, yA⟩⟩ := hcell 0 (k, l) rfl
  simp only [Nat.zero_mul, Nat.add_zero] at y0 y1 y2 y3 y4
  have hd : Below W1.heap.size W1 W1.drew := (Below.refl _ _).drew
  have hbw : b < w.heap.size := hXb.1.2
  have how' : ob < w.heap.size := h1.2
  have KEY := Lib.hid (show ∀ w' : World, Chg (fun j => w.heap.size ≤ j) W1.drew w' → w'.cell? ⟨ob, 1, none⟩ = some (.slice (some ⟨b, off, none⟩) 1 c) ∧ w'.cell? ⟨b, off, none⟩ = some (.string k) ∧ w'.cell? ⟨b, off + 1, none⟩ = some (.string l.frm) ∧ w'.cell? ⟨b, off + 1 + 1, none⟩ = some (.int .u64 l.serial) ∧ w'.cell? ⟨b, off + 1 + 2, none⟩ = some (.int .i64 l.kind) ∧ w'.cell? ⟨b, off + 1 + 3, none⟩ = some (.slice AA l.args.length ca) from fun w' hc => by
    have hob : ¬ w.heap.size ≤ ob := by omega
    have hbb : ¬ w.heap.size ≤ b := by omega
    have hz := (Chg.of_below hd (fun j => w.heap.size ≤ j)).trans hc (fun _ _ e => e)
    exact ⟨hz.cell (a := ⟨ob, 1, none⟩) hob (h3.cell 1), hz.cell (a := ⟨b, off, none⟩) hbb y0, hz.cell (a := ⟨b, off + 1, none⟩) hbb y1, hz.cell (a := ⟨b, off + 1 + 1, none⟩) hbb y2, hz.cell (a := ⟨b, off + 1 + 2, none⟩) hbb y3, hz.cell (a := ⟨b, off + 1 + 3, none⟩) hbb y4⟩)
  have c1 : W1.cell? ⟨ob, 1, none⟩ = some (.slice (some ⟨b, off, none⟩) 1 c) := h3.cell 1
  have HCP := Lib.hid (copy_any l hl AA ca _ W1.drew (yA.below hd))
  have HB1 := Lib.hid hb1
  have HR1 := Lib.hid (hr1.below hd)
  have HW1 := Lib.hid hW1
  have HRB := Lib.hid hrb
  have hs1 : W1.heap.size = w.heap.size + 1 := by rw [hW1]; simp
  have hlo : ob < W1.drew.heap.size := by show ob < W1.heap.size; omega
  have hlb : b < W1.drew.heap.size := by show b < W1.heap.size; omega
  clear h how hl hW1 hb1 hr1 hrb h1 h2 h3 h4 h5 h6 h7 h8 hXb hcell y0 y1 y2 y3 y4 yA hd
  go_enter Tryz.func124, Tryz.ntmps124
  go_upto_region 1 with fail
  rw [← HRB.out, ← HW1.out]
  go_wp2_with fail
  refine HN.out.mono ?_
  rintro e w2 ⟨rfl, rfl⟩
  go_upto_region 3 with fail
  go_region_held3 (fun w' => w'.cell? ⟨ob, 1, none⟩ = some (.slice (some ⟨b, off, none⟩) 1 c) ∧ w'.cell? ⟨b, off, none⟩ = some (.string k) ∧ w'.cell? ⟨b, off + 1, none⟩ = some (.string l.frm) ∧ w'.cell? ⟨b, off + 1 + 1, none⟩ = some (.int .u64 l.serial) ∧ w'.cell? ⟨b, off + 1 + 2, none⟩ = some (.int .i64 l.kind) ∧ w'.cell? ⟨b, off + 1 + 3, none⟩ = some (.slice AA l.args.length ca))
    (first | exact KEY.out _ (Chg.refl _ _) | exact KEY.out _ HC3.out | exact HKK.out _ _ _ _ _)
    (first
      | (go_at_call 36
         refine HCP.out.mono ?_
         rintro e w3 ⟨A3, c3, rfl, hA3, hb3⟩
         have hc3 : Chg (fun j => w.heap.size ≤ j) W1.drew w3 := Chg.of_below hb3 _
         have HC3 := Lib.hid hc3
         have HB3 := Lib.hid hb3
         have HA3 := Lib.hid hA3
         have hrw : w.heap.size ≤ rb := by have := HRB.out; omega
         have HKK := Lib.hid (fun v0 v1 v2 v3 v4 : Value => KEY.out (((((w3.setCell ⟨rb, 0, none⟩ v0).setCell ⟨rb, 1, none⟩ v1).setCell ⟨rb, 2, none⟩ v2).setCell ⟨rb, 3, none⟩ v3).setCell ⟨rb, 4, none⟩ v4) (((((hc3.put rb 0 (.inl hrw) _).put rb 1 (.inl hrw) _).put rb 2 (.inl hrw) _).put rb 3 (.inl hrw) _).put rb 4 (.inl hrw) _))
         have hr3 := HR1.out.below hb3
         have ur : ∀ i, w3.cell? ⟨rb, i, none⟩ = _ := fun i => hr3.cell i
         have fr : ∀ i, w3.frozen? ⟨rb, i, none⟩ = false := fun i => hr3.free i
         have lr := hr3.lt
         have HR3 := Lib.hid hr3
         clear hA3 hb3 hc3 hr3))
  rename_i hHeld
  clear hHeld
  go_wp2_with fail
  refine bodyPost_ret (results_ct rfl _ _ rb 139 _ (0, 0) _ rfl (HR3.out.five rfl _ _ _ _ _) Tryz.underlying139 rfl (by kernel_rfl)) rfl ?_
  have hput : ∀ v0 v1 v2 v3 v4 : Value, Chg (fun j => j = rb) w3 (((((w3.setCell ⟨rb, 0, none⟩ v0).setCell ⟨rb, 1, none⟩ v1).setCell ⟨rb, 2, none⟩ v2).setCell ⟨rb, 3, none⟩ v3).setCell ⟨rb, 4, none⟩ v4) := fun _ _ _ _ _ => (((((Chg.refl (fun j => j = rb) w3).put rb 0 (.inl rfl) _).put rb 1 (.inl rfl) _).put rb 2 (.inl rfl) _).put rb 3 (.inl rfl) _).put rb 4 (.inl rfl) _
  have erb := HRB.out
  have hsd : W1.drew.heap.size = W1.heap.size := rfl
  have hb3 := HB3.out.size
  refine ⟨A3, c3, rfl, (HA3.out.chg (hput _ _ _ _ _) (fun j hj e => by omega)).mono (fun j hj => by omega), ((HB1.out.drew).trans (HB3.out.mono (by omega))).trans ((hput _ _ _ _ _).below (fun j hj => by have : j = rb := hj; omega) (by omega))⟩
set_option maxRecDepth 100000 in
set_option maxHeartbeats 1000000 in
theorem outpop {fr : Bool} (X : Nat → Prop) (ob : Nat) (ow k : ByteArray) (ss : List (ByteArray × Nat)) (l : Let) (how : KeyOk ow) (hl : l.args.length ≤ 4) (w : World) (h : OutbAt fr w X ob ⟨ow, ss, [(k, l)]⟩) :
    Calls Tryz.prog 55 #[.pointer (some ⟨ob, 0, none⟩)] w fun e w' => ∃ A c, e = .returned (.tuple #[.agg #[.string k, .string l.frm, .int .u64 l.serial, .int .i64 l.kind, .slice A l.args.length c], .bool true]) ∧ ArgsAt w' (fun j => w.heap.size ≤ j) A c l.args ∧ OutbAt false w' X ob ⟨ow, ss, []⟩ ∧ Chg (fun j => j = ob) w w' := by
  obtain ⟨rb, hrb⟩ : ∃ b, b = w.heap.size := ⟨_, rfl⟩
  obtain ⟨W1, hW1⟩ : ∃ W, W = w.alloc (.cells #[.string ⟨#[]⟩, .string ⟨#[]⟩, .int .u64 0, .int .i64 0, .slice none 0 0] 139) := ⟨_, rfl⟩
  have hb1 : Below w.heap.size w W1 := hW1 ▸ (Below.refl _ _).alloc (Nat.le_refl _) _
  have hr1 : Blk W1 rb #[.string ⟨#[]⟩, .string ⟨#[]⟩, .int .u64 0, .int .i64 0, .slice none 0 0] 139 := hW1 ▸ Blk.newAt hrb
  have h1' := h.chg (Chg.of_below hb1 (fun _ => False)) (fun _ _ h => h)
  have HFI := Lib.hid (outfirst X ob ow k ss l how hl W1 h1')
  obtain ⟨A, c, mb, n, h1, h2, h3, h4, h5, h6, h7, h8⟩ := h1'
  obtain ⟨b, off, rfl, -, -⟩ := h4 (by simp)
  obtain ⟨A2, hcut⟩ := cut_out b off 1 c (by omega)
  have hcut' : ∀ W : World, (Instr.slice 256 (.slice (some ⟨b, off, none⟩) 1 c) (some (.int .i64 1)) none none).run Tryz.prog W = .ok (.slice A2 0 (c - 1)) W := hcut
  have hmo : mb ≠ ob := fun e => by
    obtain ⟨es, ck, hbm, _⟩ := h6
    have h3' := h3
    unfold Blk at h3'
    rw [← e, hbm] at h3'
    cases h3'
  have how' : ob < w.heap.size := by
    obtain ⟨_, _, _, _, _, _, q3, _⟩ := h
    exact q3.lt
  have HBK := Lib.hid (show Blk W1 ob #[.string ow, .slice (some ⟨b, off, none⟩) 1 c, .map (some mb)] 259 from h3)
  have HMB := Lib.hid (show W1.ownsMap Tryz.prog 9 rawR mb n (serD ss) from h6)
  have HXO := Lib.hid (show X ob ∧ X mb ∧ mb ≠ ob ∧ n ≤ 1000 from ⟨h1, h2, hmo, h7⟩)
  have HB1 := Lib.hid hb1
  have HR1 := Lib.hid hr1
  have HW1 := Lib.hid hW1
  have HRB := Lib.hid hrb
  have hs1 : W1.heap.size = w.heap.size + 1 := by rw [hW1]; simp
  clear h how hl hW1 hb1 hr1 hrb h1 h2 h3 h4 h5 h6 h7 h8 hmo hcut
  go_enter Tryz.func55, Tryz.ntmps55
  go_upto_region 1 with fail
  rw [← HRB.out, ← HW1.out]
  go_wp2_with fail
  refine HFI.out.mono ?_
  rintro e w2 ⟨A9, c9, rfl, hA, hb2⟩
  obtain ⟨xb, hxb⟩ : ∃ b, b = w2.heap.size := ⟨_, rfl⟩
  obtain ⟨W3, hW3⟩ : ∃ W, W = w2.alloc (.cells #[.string k, .string l.frm, .int .u64 l.serial, .int .i64 l.kind, .slice A9 l.args.length c9] 139) := ⟨_, rfl⟩
  have hb3 : Below w2.heap.size w2 W3 := hW3 ▸ (Below.refl _ _).alloc (Nat.le_refl _) _
  have hx3 : Blk W3 xb #[.string k, .string l.frm, .int .u64 l.serial, .int .i64 l.kind, .slice A9 l.args.length c9] 139 := hW3 ▸ Blk.newAt hxb
  have hs2 := hb2.size
  have hbk3 := (HBK.out.below hb2).below hb3
  have HX3 := Lib.hid hx3
  have HBK3 := Lib.hid hbk3
  have HMB3 := Lib.hid (ownsMap_chg (ownsMap_chg HMB.out (Chg.of_below hb2 (fun _ => False)) (fun h => h)) (Chg.of_below hb3 (fun _ => False)) (fun h => h))
  have HA3 := Lib.hid (hA.below hb3)
  have HR3 := Lib.hid ((HR1.out.below hb2).below hb3)
  have HB3 := Lib.hid (show Below w.heap.size w W3 from (HB1.out.trans (hb2.mono (by omega))).trans (hb3.mono (by omega)))
  have d1 : W3.cell? ⟨ob, 1, none⟩ = some (.slice (some ⟨b, off, none⟩) 1 c) := hbk3.cell 1
  have f1 : W3.frozen? ⟨ob, 1, none⟩ = false := hbk3.free 1
  have l1 := hbk3.lt
  have HW3 := Lib.hid hW3
  have HXB := Lib.hid hxb
  clear hA hb2 hW3 hxb hb3 hx3 hbk3
  go_upto_region 3 with fail
  rw [← HW3.out, ← HXB.out]
  go_upto_region 4 with fail
  obtain ⟨W4, hW4⟩ : ∃ W, W = W3.setCell ⟨ob, 1, none⟩ (.slice A2 0 (c - 1)) := ⟨_, rfl⟩
  rw [← hW4]
  have exb := HXB.out
  have erb := HRB.out
  have hc4 : Chg (fun j => j = ob) W3 W4 := hW4 ▸ (Chg.refl (fun j => j = ob) W3).put ob 1 (.inl rfl) _
  have hx4 := hc4.blk HX3.out (by omega)
  have hr4 := hc4.blk HR3.out (by omega)
  have HBK4 := Lib.hid (show Blk W4 ob #[.string ow, .slice A2 0 (c - 1), .map (some mb)] 259 from by rw [hW4]; simpa using HBK3.out.set 1 (.slice A2 0 (c - 1)))
  have HMB4 := Lib.hid (ownsMap_chg HMB3.out hc4 HXO.out.2.2.1)
  have HA4 := Lib.hid (HA3.out.chg hc4 (fun j hj e => by omega))
  have ux : ∀ i, W4.cell? ⟨xb, i, none⟩ = _ := fun i => hx4.cell i
  have ur : ∀ i, W4.cell? ⟨rb, i, none⟩ = _ := fun i => hr4.cell i
  have fr : ∀ i, W4.frozen? ⟨rb, i, none⟩ = false := fun i => hr4.free i
  have lx := hx4.lt
  have lr := hr4.lt
  have HR4 := Lib.hid hr4
  have HC4 := Lib.hid hc4
  clear hW4 hc4 hx4 hr4 d1 f1 exb erb
  go_wp2_with fail
  refine bodyPost_ret (results_ct rfl _ _ rb 139 _ (0, 0) _ rfl (HR4.out.five rfl _ _ _ _ _) Tryz.underlying139 rfl (by kernel_rfl)) rfl ?_
  have hput : ∀ v0 v1 v2 v3 v4 : Value, Chg (fun j => j = rb) W4 (((((W4.setCell ⟨rb, 0, none⟩ v0).setCell ⟨rb, 1, none⟩ v1).setCell ⟨rb, 2, none⟩ v2).setCell ⟨rb, 3, none⟩ v3).setCell ⟨rb, 4, none⟩ v4) := fun _ _ _ _ _ => (((((Chg.refl (fun j => j = rb) W4).put rb 0 (.inl rfl) _).put rb 1 (.inl rfl) _).put rb 2 (.inl rfl) _).put rb 3 (.inl rfl) _).put rb 4 (.inl rfl) _
  have erb := HRB.out
  have hml : mb < w.heap.size ∨ w.heap.size ≤ mb := by omega
  have hmr : mb ≠ rb := fun e => by
    obtain ⟨es, ck, hbm, _⟩ := HMB4.out
    have h3' := HR4.out
    unfold Blk at h3'
    rw [← e, hbm] at h3'
    cases h3'
  refine ⟨A9, c9, rfl, (HA4.out.chg (hput _ _ _ _ _) (fun j hj e => by omega)).mono (fun j hj => by omega), ⟨A2, c - 1, mb, n, HXO.out.1, HXO.out.2.1, (hput _ _ _ _ _).blk HBK4.out (by omega), fun h => absurd rfl h, Nat.zero_le _, ownsMap_chg HMB4.out (hput _ _ _ _ _) hmr, HXO.out.2.2.2, nofun⟩, ((Chg.of_below HB3.out (fun j => j = ob)).trans HC4.out (fun _ _ e => e)).trans (hput _ _ _ _ _) (fun j hj e => by omega)⟩
end Go.Proofs.YtlcdjgpblpodaaaGreatDoor

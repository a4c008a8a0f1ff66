/- Out3, OutE, HeldB -/
import Derived.Test.YtlcdjgpblpodaaaGreatDoorMBL
import Derived.Test.YtlcdjgpblpodaaaGreatDoorMAP
import Derived.Deep.RegionHeld3
namespace Go.Proofs.YtlcdjgpblpodaaaGreatDoor
open Go.RowKit Go.Maps Go.Proofs.YtlcdjgpblpodaaaGreatDoorW.PrintWords

theorem Blk.four {w : World} {b t : Nat} {C : Array Value} (h : Blk w b C t) (hC : C.size = 4) (v0 v1 v2 v3 : Value) :
    Blk ((((w.setCell ⟨b, 0, none⟩ v0).setCell ⟨b, 1, none⟩ v1).setCell ⟨b, 2, none⟩ v2).setCell ⟨b, 3, none⟩ v3) b #[v0, v1, v2, v3] t := by
  obtain ⟨l⟩ := C
  match l, hC with
  | [a0, a1, a2, a3], _ => simpa using (((h.set 0 v0).set 1 v1).set 2 v2).set 3 v3
set_option maxRecDepth 100000 in
theorem letenc (l : Let) (hl : l.Ok) (A : Option Addr) (c : Nat) (XA : Nat → Prop) (w : World) (hA : ArgsAt w XA A c l.args) :
    Calls Tryz.prog 175 #[.agg #[.string l.frm, .int .u64 l.serial, .int .i64 l.kind, .slice A l.args.length c]] w fun e w' => ∃ A' c', e = .returned (.tuple #[.slice A' (encLet l).length c', .int .i64 0]) ∧ w'.ownsRow w.heap.size 5 1 (.slice A' (encLet l).length c') (encLet l).length (encs (Value.int .u8) (encLet l)) ∧ Below w.heap.size w w' := by
  obtain ⟨bx, hbx⟩ : ∃ b, b = w.heap.size := ⟨_, rfl⟩
  obtain ⟨W1, hW1⟩ : ∃ W, W = w.alloc (.cells #[.string l.frm, .int .u64 l.serial, .int .i64 l.kind, .slice A l.args.length c] 65) := ⟨_, rfl⟩
  have hb1 : Below w.heap.size w W1 := hW1 ▸ (Below.refl _ _).alloc (Nat.le_refl _) _
  have hx1 : Blk W1 bx #[.string l.frm, .int .u64 l.serial, .int .i64 l.kind, .slice A l.args.length c] 65 := hW1 ▸ Blk.newAt hbx
  have ux : ∀ i, W1.cell? ⟨bx, i, none⟩ = _ := fun i => hx1.cell i
  have lx := hx1.lt
  have l1 := hl.frm
  have l2 := hl.args
  have hlen := (encLet_length l hl).2
  have HOK := Lib.hid hl
  have HA := Lib.hid ((hA.lt.below hb1).mono (X' := fun k => k < w.heap.size) (fun k hk => hk.2))
  have HB1 := Lib.hid hb1
  have HX1 := Lib.hid hx1
  have HW1 := Lib.hid hW1
  have HBX := Lib.hid hbx
  clear hl hA hb1 hx1 hW1 hbx
  go_enter Tryz.func175, Tryz.ntmps175
  go_upto_region 1 with fail
  rw [← HW1.out, ← HBX.out]
  go_wp2_with fail
  refine (formed_letter _ _ _ _ _ _ l1 l2 _).mono ?_
  rintro e w2 ⟨rfl, hw2⟩
  have hb2 : Below W1.heap.size W1 w2 := hw2 ▸ (Below.refl _ _).alloc (Nat.le_refl _) _
  have HB2 := Lib.hid (HB1.out.trans (hb2.mono HB1.out.size))
  have HX2 := Lib.hid (HX1.out.below hb2)
  have HA2 := Lib.hid (HA.out.below hb2)
  clear hb2 hw2 ux
  go_wp2_with fail
  refine (newwriter w2).mono ?_
  rintro e w3 ⟨rfl, hw3⟩
  have HWP := Lib.hid (show WP w3 w2.heap.size (fun k => k = w2.heap.size) [] w3 from hw3 ▸ WP.new w2)
  have hb3 : Below w2.heap.size w2 w3 := hw3 ▸ (Below.refl _ _).alloc (Nat.le_refl _) _
  have HB3 := Lib.hid (HB2.out.trans (hb3.mono HB2.out.size))
  have hx3 := HX2.out.below hb3
  have uy : ∀ i, w3.cell? ⟨bx, i, none⟩ = _ := fun i => hx3.cell i
  have ly := hx3.lt
  have HA3 := Lib.hid (HA2.out.below hb3)
  have hs2 := HB2.out.size
  obtain ⟨wb, hwb⟩ : ∃ b, b = w2.heap.size := ⟨_, rfl⟩
  have HWB := Lib.hid hwb
  rw [← hwb] at HWP ⊢
  clear hw3 hb3 hx3 hwb
  go_wp2_with fail
  refine (lay_any l HOK.out A c HA3.out (fun k hk e => by have := HWB.out; omega) (by simp) HWP.out).mono ?_
  rintro e w4 ⟨rfl, h4⟩
  rw [List.nil_append] at h4
  have H4 := Lib.hid h4
  clear h4 uy
  go_wp2_with fail
  refine (WP.bytes (by omega) H4.out).mono ?_
  rintro e w5 ⟨A', c', rfl, h6, h7⟩
  have hs4 := H4.out.chg.size
  have hs3 := HB3.out.size
  have H6 := Lib.hid (own_weaken h6 (show w.heap.size ≤ w4.heap.size by omega))
  have H7 := Lib.hid (show Below w.heap.size w w5 from (HB3.out.trans (H4.out.chg.below (fun k hk => by have := HWB.out; omega) hs3)).trans (h7.mono (by omega)))
  clear h6 h7
  go_wp2_with fail
  go_ret2
  exact ⟨A', c', rfl, H6.out, H7.out⟩
set_option maxRecDepth 100000 in
theorem letdec (A : Option Addr) (c : Nat) (l : Let) (hl : l.Ok) (w : World) (hr : ReadsOf (Value.int .u8) (0 : Int) w A (encLet l).length (encLet l)) :
    Calls Tryz.prog 157 #[.slice A (encLet l).length c] w fun e w' => ∃ A' c', e = .returned (.tuple #[.agg #[.string l.frm, .int .u64 l.serial, .int .i64 l.kind, .slice A' l.args.length c'], .int .i64 0]) ∧ ArgsAt w' (fun k => w.heap.size ≤ k) A' c' l.args ∧ Below w.heap.size w w' := by
  have hlen := (encLet_length l hl).2
  obtain ⟨rb, hrb⟩ : ∃ b, b = w.heap.size := ⟨_, rfl⟩
  obtain ⟨W1, hW1⟩ : ∃ W, W = w.alloc (.cells #[.string ⟨#[]⟩, .int .u64 0, .int .i64 0, .slice none 0 0] 65) := ⟨_, rfl⟩
  have hb1 : Below w.heap.size w W1 := hW1 ▸ (Below.refl _ _).alloc (Nat.le_refl _) _
  have HR1 := Lib.hid (show Blk W1 rb #[.string ⟨#[]⟩, .int .u64 0, .int .i64 0, .slice none 0 0] 65 from hW1 ▸ Blk.newAt hrb)
  have HN := Lib.hid (RP.new A c (encLet l) W1 (hr.below hb1) (by omega) (encLet_bytes l hl))
  have HOK := Lib.hid hl
  have HB1 := Lib.hid hb1
  have HW1 := Lib.hid hW1
  have HRB := Lib.hid hrb
  obtain ⟨N, hN⟩ : ∃ N, N = (encLet l).length := ⟨_, rfl⟩
  rw [← hN] at HN ⊢
  clear hr hl hb1 hW1 hrb hN
  go_enter Tryz.func157, Tryz.ntmps157
  go_upto_region 1 with fail
  rw [← HRB.out, ← HW1.out]
  go_wp2_with fail
  refine HN.out.mono ?_
  rintro e w2 ⟨db, rfl, hdb, hp, hb2⟩
  rw [← List.append_nil (encLet l)] at hp
  have HP := Lib.hid hp
  have HB2 := Lib.hid hb2
  have HT := Lib.hid (take_any db _ l HOK.out [] w2 hp.rebase)
  have hs1 := HB1.out.size
  have hs2 := hb2.size
  have hlr := HR1.out.lt
  clear hp hb2
  go_wp2_with fail
  refine HT.out.mono ?_
  rintro e w3 ⟨Aa, ca, rfl, hA, hp3⟩
  obtain ⟨lb, hlb⟩ : ∃ b, b = w3.heap.size := ⟨_, rfl⟩
  obtain ⟨W4, hW4⟩ : ∃ W, W = w3.alloc (.cells #[.string l.frm, .int .u64 l.serial, .int .i64 l.kind, .slice Aa l.args.length ca] 65) := ⟨_, rfl⟩
  have hb4 : Below w3.heap.size w3 W4 := hW4 ▸ (Below.refl _ _).alloc (Nat.le_refl _) _
  have hl4 : Blk W4 lb #[.string l.frm, .int .u64 l.serial, .int .i64 l.kind, .slice Aa l.args.length ca] 65 := hW4 ▸ Blk.newAt hlb
  have hc3 := hp3.chg
  have hs3 := hc3.size
  have HE := Lib.hid (RP.end_ ((HP.out.on hp3).below hb4))
  have hr4 := (hc3.blk (HR1.out.below HB2.out) (fun e => by omega)).below hb4
  have HA4 := Lib.hid (hA.below hb4)
  have HL4 := Lib.hid hl4
  have HR4 := Lib.hid hr4
  have HB4 := Lib.hid (show Below w.heap.size w W4 from ((HB1.out.trans (HB2.out.mono hs1)).trans (hc3.below (fun k hk => by have : k = db := hk; omega) (by omega))).trans (hb4.mono (by omega)))
  have HW4 := Lib.hid hW4
  have HLB := Lib.hid hlb
  clear hA hp3 hlb hW4 hb4 hl4 hc3 hr4
  go_upto_region 3 with fail
  rw [← HW4.out, ← HLB.out]
  go_wp2_with fail
  refine HE.out.mono ?_
  rintro e w5 ⟨rfl, rfl⟩
  have ul : ∀ i, W4.cell? ⟨lb, i, none⟩ = _ := fun i => HL4.out.cell i
  have ur : ∀ i, W4.cell? ⟨rb, i, none⟩ = _ := fun i => HR4.out.cell i
  have fr : ∀ i, W4.frozen? ⟨rb, i, none⟩ = false := fun i => HR4.out.free i
  have ll := HL4.out.lt
  have lr := HR4.out.lt
  go_wp2_with fail
  refine bodyPost_ret (results_ct rfl _ _ rb 65 _ (0, 0) _ rfl (HR4.out.four rfl _ _ _ _) Tryz.underlying65 rfl (by kernel_rfl)) rfl ?_
  have hput : ∀ v0 v1 v2 v3 : Value, Chg (fun j => j = rb) W4 ((((W4.setCell ⟨rb, 0, none⟩ v0).setCell ⟨rb, 1, none⟩ v1).setCell ⟨rb, 2, none⟩ v2).setCell ⟨rb, 3, none⟩ v3) := fun _ _ _ _ => ((((Chg.refl (fun j => j = rb) W4).put rb 0 (.inl rfl) _).put rb 1 (.inl rfl) _).put rb 2 (.inl rfl) _).put rb 3 (.inl rfl) _
  have erb := HRB.out
  exact ⟨Aa, ca, rfl, (HA4.out.chg (hput _ _ _ _) (fun k hk e => by omega)).mono (fun k hk => by omega), HB4.out.trans ((hput _ _ _ _).below (fun k hk => by have : k = rb := hk; omega) HB4.out.size)⟩
end Go.Proofs.YtlcdjgpblpodaaaGreatDoor
namespace Go.Proofs.YtlcdjgpblpodaaaGreatDoor
open Go.RowKit Go.Maps Go.Proofs.YtlcdjgpblpodaaaGreatDoorW.PrintWords

theorem encStr_key (k : ByteArray) : encStr k.data.toList = .string k := by
  simp [encStr]
set_option maxRecDepth 100000 in
set_option maxHeartbeats 2000000 in
theorem outenc1 (X : Nat → Prop) (ob : Nat) (ow k : ByteArray) (s : Nat) (L : List (ByteArray × Let)) (ho : Outb.Ok ⟨ow, [(k, s)], L⟩) (hL : L = [] ∨ ∃ l : Let, L = [(k, l)]) (w : World) (h : OutbAt false w X ob ⟨ow, [(k, s)], L⟩) :
    Calls Tryz.prog 110 #[.pointer (some ⟨ob, 0, none⟩)] w fun e w' => ∃ A c, e = .returned (.slice A (encOutb ⟨ow, [(k, s)], L⟩).length c) ∧ w'.ownsRow w.heap.size 5 1 (.slice A (encOutb ⟨ow, [(k, s)], L⟩).length c) (encOutb ⟨ow, [(k, s)], L⟩).length (encs (Value.int .u8) (encOutb ⟨ow, [(k, s)], L⟩)) ∧ Below w.heap.size w w' := by
  have how : KeyOk ow := ho.owner
  obtain ⟨hk, hs1, hs64⟩ := ho.serials (k, s) (by simp)
  simp only at hk hs1 hs64
  have hlk : ∀ e ∈ L, e.2.Ok := fun e he => (ho.list e he).2
  have HN := Lib.hid (none_any X ob ⟨ow, [(k, s)], L⟩ how w h)
  obtain ⟨A, c, mb, n, h1, h2, h3, h4, h5, h6, h7, h8⟩ := outb_lt h
  obtain ⟨W0, hW0⟩ : ∃ W, W = w.alloc (.cells #[.slice none 0 0] 319) := ⟨_, rfl⟩
  have hb0 : Below w.heap.size w W0 := hW0 ▸ (Below.refl _ _).alloc (Nat.le_refl _) _
  have HB0 := Lib.hid hb0
  have HP := Lib.hid (show WP W0 w.heap.size (fun k => k = w.heap.size) [] W0 from hW0 ▸ WP.new w)
  have HC := Lib.hid (newwriter w)
  rw [← hW0] at HC
  have HS0 : w.heap.size ≤ W0.heap.size := hb0.size
  have HS1 : w.heap.size < W0.heap.size := by rw [hW0]; simp
  obtain ⟨wb, hwb⟩ : ∃ b, b = w.heap.size := ⟨_, rfl⟩
  rw [← hwb] at HP HC
  have HBK := Lib.hid (show Blk W0 ob #[.string ow, .slice A L.length c, .map (some mb)] 259 from h3.below hb0)
  have HMB := Lib.hid (ownsMap_chg h6 (Chg.of_below hb0 (fun _ => False)) (fun h => h))
  have HNB := Lib.hid (show ¬ ob = wb from by have := h3.lt; omega)
  have HNM := Lib.hid (show ¬ mb = wb from by have := h6.lt; omega)
  have HWB := Lib.hid hwb
  have HOU := Lib.hid ((h4.chg (Chg.of_below hb0 (fun _ => False)) (fun _ _ h => h)).mono (X' := fun j => j < w.heap.size) (fun j hj => hj.1.2))
  have e1 := encText_length ow (by have := how.2; omega)
  have e2 := encText_length k (by have := hk.2; omega)
  have e3 := (encNum_length s hs64).2
  have hks := hk.2
  have hos := how.2
  have HLK := Lib.hid hlk
  have HLS := Lib.hid hL
  have HSL := Lib.hid (show L.length ≤ 1 from by rcases hL with rfl | ⟨l, rfl⟩ <;> simp)
  clear h1 h2 h3 h4 h5 h6 h7 h8 hb0 hW0 hwb ho h hlk hL
  obtain ⟨BF, hBF⟩ : ∃ B, B = encOutb ⟨ow, [(k, s)], L⟩ := ⟨_, rfl⟩
  rw [← hBF]
  have HBF := Lib.hid hBF
  clear hBF
  go_enter Tryz.func110, Tryz.ntmps110
  go_wp2_with fail
  refine HN.out.mono ?_
  rintro e w1 ⟨rfl, rfl⟩
  go_wp2_with fail
  refine HC.out.mono ?_
  rintro e w1 ⟨rfl, rfl⟩
  have c0 : w1.cell? ⟨ob, 0, none⟩ = some (.string ow) := HBK.out.cell 0
  go_wp2_with fail
  refine (WP.text ow (by omega) (by simp) HP.out).mono ?_
  rintro e w2 ⟨rfl, h1⟩
  rw [List.nil_append] at h1
  have hb2 := h1.chg.blk HBK.out HNB.out
  have hm2 := ownsMap_chg HMB.out h1.chg HNM.out
  have c2 : w2.cell? ⟨ob, 2, none⟩ = some (.map (some mb)) := hb2.cell 2
  have hlen : ∀ ty, (Builtin.len_ #[257] ty #[.map (some mb)]).run Tryz.prog w2 = .ok (.int .i64 1) w2 := fun ty => by rw [hm2.len Tryz.underlying257 ty, size_serD]; rfl
  have H2 := Lib.hid h1
  clear h1 hb2 hm2 c0
  go_wp2_with fail
  refine (WP.num 1 (by omega) (by omega) H2.out).mono ?_
  rintro e w3 ⟨rfl, h1⟩
  have hb2 := h1.chg.blk HBK.out HNB.out
  have c2' : w3.cell? ⟨ob, 2, none⟩ = some (.map (some mb)) := hb2.cell 2
  have HM3 := Lib.hid (ownsMap_chg HMB.out h1.chg HNM.out)
  have HB3 := Lib.hid hb2
  have H3 := Lib.hid h1
  clear h1 hb2 c2 hlen
  go_wp2_with fail
  refine (keys174 (some mb) w3).mono ?_
  rintro e w4 ⟨rfl, rfl⟩
  go_wp2_with fail
  refine (sorted174 mb n _ rawR _ w3.heap.size (Blk.new _ _ _) (HM3.out.alloc _) (by rw [size_serD]; simp)).mono ?_
  rintro e w5 ⟨v, ss, rfl, hperm, hrow, hnil, hb5⟩
  obtain rfl : ss = [k.data.toList] := List.perm_singleton.1 (show ss.Perm [k.data.toList] from hperm)
  rw [List.mergeSort_singleton, List.map_singleton, encStr_key] at hrow
  obtain ⟨KA, kc, rfl⟩ := own_slice hrow
  have hrow' : w5.ownsRow (w3.alloc (.cells #[.map (some mb)] 257)).heap.size 9 1 (.slice KA 1 kc) 1 [.string k] := hrow
  obtain ⟨g, rfl, hg1, hg2, hgc⟩ := own_cell hrow' (by omega)
  have kcell : w5.cell? ⟨g, 0, none⟩ = some (.string k) := hgc 0 _ rfl
  have hb35 : Below w3.heap.size w3 w5 := ((Below.refl _ _).alloc (Nat.le_refl _) _).trans (hb5.mono (by simp))
  have H5 := Lib.hid (H3.out.later hb35)
  have HB5 := Lib.hid (HB3.out.below hb35)
  have HM5 := Lib.hid (ownsMap_chg HM3.out (Chg.of_below hb35 (fun _ => False)) (fun h => h))
  clear hperm hnil hrow hrow' hb5 hb35 hgc c2' hg1
  show _
  go_wp2_with fail
  refine wp_loop_rounds 2 ?_
  rw [rounds_succ]
  go_wp2_with fail
  refine (WP.text k (by omega) (by simp; have : (encNum 1).length = 1 := rfl; omega) H5.out).mono ?_
  rintro e w6 ⟨rfl, h1⟩
  have hb6 := h1.chg.blk HBK.out HNB.out
  have c2 : w6.cell? ⟨ob, 2, none⟩ = some (.map (some mb)) := hb6.cell 2
  have HM6 := Lib.hid (ser_map1 (by omega) (ownsMap_chg HMB.out h1.chg HNM.out))
  have H6 := Lib.hid h1
  clear h1 hb6 kcell hg2
  go_wp2_with (at_lookup; refine wpList_map_look (by rfl) (.tmp 45) (.tmp 46) 257 (by rfl) HM6.out string_law Tryz.underlying257 (fun w => Tryz.zeroValue32 w) (by rfl) (by rfl) (keyStr k (by omega)) (r := .int .u64 s) (by rw [putF_same]; rfl) ?_)
  have n1 : (encNum 1).length = 1 := rfl
  refine (WP.num s hs64 (by simp; omega) H6.out).mono ?_
  rintro e w7 ⟨rfl, h1⟩
  have hb7 := h1.chg.blk HBK.out HNB.out
  have c1 : w7.cell? ⟨ob, 1, none⟩ = some (.slice A L.length c) := hb7.cell 1
  have H7 := Lib.hid h1
  have t1 : IntKind.u64.wrap (L.length : Int) = (L.length : Int) := by have := HSL.out; rw [IntKind.wrap_u64]; omega
  clear h1 hb7 c2
  go_wp2_with fail
  rw [rounds_succ]
  go_wp2_with fail
  refine (WP.num L.length (by have := HSL.out; omega) (by simp; omega) H7.out).mono ?_
  rintro e w8 ⟨rfl, h1⟩
  have hb8 := h1.chg.blk HBK.out HNB.out
  have d1 : w8.cell? ⟨ob, 1, none⟩ = some (.slice A L.length c) := hb8.cell 1
  have H8 := Lib.hid h1
  have n2 := (encNum_length L.length (by have := HSL.out; omega)).2
  clear h1 hb8 c1 t1
  obtain ⟨B, hB⟩ : ∃ B, B = encText ow ++ encNum 1 ++ encText k ++ encNum s ++ encNum L.length := ⟨_, rfl⟩
  have hBl : B.length ≤ 200 := by rw [hB]; simp; omega
  have HE := Lib.hid (show encOutb ⟨ow, [(k, s)], L⟩ = B ++ encOuts L by rw [hB]; simp [encOutb, encSerials])
  rw [← hB] at H8
  clear hB H7 H6 H5 H3 H2
  rcases HLS.out with rfl | ⟨l, rfl⟩
  · have d2 : w8.cell? ⟨ob, 1, none⟩ = some (.slice A 0 c) := d1
    clear d1
    go_wp2_with fail
    refine wp_loop_rounds 1 ?_
    rw [rounds_succ]
    go_wp2_with fail
    refine (WP.bytes (by omega) H8.out).mono ?_
    rintro e w9 ⟨A', c', rfl, h6, h7⟩
    have H9 := Lib.hid (own_weaken h6 (Nat.le_trans HS0 H8.out.chg.size))
    have H10 := Lib.hid (show Below w.heap.size w w9 from (HB0.out.trans (H8.out.chg.below (fun k hk => by rw [hk, HWB.out]; omega) HS0)).trans (h7.mono (Nat.le_trans HS0 H8.out.chg.size)))
    clear h6 h7
    go_wp2_with fail
    go_ret
    rw [show BF = B by rw [HBF.out, HE.out]; exact List.append_nil _]
    exact ⟨A', c', rfl, H9.out, H10.out⟩
  · have d2 : w8.cell? ⟨ob, 1, none⟩ = some (.slice A 1 c) := d1
    have hl := HLK.out (k, l) (by simp)
    simp only at hl
    obtain ⟨b, off, rfl, hXb, hcell⟩ := HOU.out (by simp)
    obtain ⟨y0, ⟨AA, ca, y1, y2, y3, y4, yA⟩⟩ := hcell 0 (k, l) rfl
    simp only [Nat.zero_mul, Nat.add_zero] at y0 y1 y2 y3 y4
    have hbn : ¬ b = wb := by have := HWB.out; omega
    have z0 := H8.out.chg.cell (a := ⟨b, off, none⟩) hbn y0
    have z1 := H8.out.chg.cell (a := ⟨b, off + 1, none⟩) hbn y1
    have z2 := H8.out.chg.cell (a := ⟨b, off + 1 + 1, none⟩) hbn y2
    have z3 := H8.out.chg.cell (a := ⟨b, off + 1 + 2, none⟩) hbn y3
    have z4 := H8.out.chg.cell (a := ⟨b, off + 1 + 3, none⟩) hbn y4
    have zl := World.block_lt_of_cell? w8 _ z0
    simp only at zl
    have hA8 := yA.chg H8.out.chg (fun j hj e => by have := HWB.out; omega)
    obtain ⟨X1, x1, x2, x3, x4⟩ := H8.out.rebase
    obtain ⟨bx, hbx⟩ : ∃ z, z = w8.heap.size := ⟨_, rfl⟩
    obtain ⟨W2, hW2⟩ : ∃ W, W = w8.alloc (.cells #[.string k, .string l.frm, .int .u64 l.serial, .int .i64 l.kind, .slice AA l.args.length ca] 139) := ⟨_, rfl⟩
    have hbw : Below w8.heap.size w8 W2 := hW2 ▸ (Below.refl _ _).alloc (Nat.le_refl _) _
    have hx2 : Blk W2 bx #[.string k, .string l.frm, .int .u64 l.serial, .int .i64 l.kind, .slice AA l.args.length ca] 139 := hW2 ▸ Blk.newAt hbx
    have f0 : W2.cell? ⟨bx, 0, none⟩ = some (.string k) := hx2.cell 0
    have HX3 := Lib.hid (x3 W2 hbw)
    have HX4 := Lib.hid (fun w3' bs' => x4 W2 w3' bs' hbw)
    have HXN := Lib.hid (show ∀ j, X1 j → ¬ j < w.heap.size from fun j hj e => by
      rcases x2 j hj with g | g
      · have := HWB.out; omega
      · omega)
    have HBN := Lib.hid (show ¬ X1 bx from fun h => by have := x1 _ h; omega)
    have HBX := Lib.hid hx2
    have HA2 := Lib.hid ((hA8.below hbw))
    have HOL := Lib.hid hl
    have HW2 := Lib.hid hW2
    have HBXE := Lib.hid hbx
    have lx := hx2.lt
    have hlen := (encLet_length l hl).2
    clear hl hcell y0 y1 y2 y3 y4 yA hXb hA8 x1 x2 x3 x4 hbx hW2 hbw hx2 d1
    go_wp2_with fail
    refine wp_loop_rounds 2 ?_
    rw [rounds_succ]
    go_upto_region 16 with fail
    rw [← HW2.out, ← HBXE.out]
    go_wp2_with fail
    refine (WP.text k (by omega) (by omega) HX3.out).mono ?_
    rintro e w9 ⟨rfl, h9⟩
    have hb9 := h9.chg.blk HBX.out HBN.out
    have v1 : w9.cell? ⟨bx, 1, none⟩ = some (.string l.frm) := hb9.cell 1
    have v2 : w9.cell? ⟨bx, 2, none⟩ = some (.int .u64 l.serial) := hb9.cell 2
    have v3 : w9.cell? ⟨bx, 3, none⟩ = some (.int .i64 l.kind) := hb9.cell 3
    have v4 : w9.cell? ⟨bx, 4, none⟩ = some (.slice AA l.args.length ca) := hb9.cell 4
    have lv := hb9.lt
    have HLE := Lib.hid (letenc l HOL.out AA ca _ w9 (HA2.out.chg h9.chg (fun j hj e => HXN.out j e hj)))
    have H9 := Lib.hid h9
    clear h9 hb9 f0 z0 z1 z2 z3 z4
    go_wp2_with fail
    refine HLE.out.mono ?_
    rintro e w10 ⟨A10, c10, rfl, ho10, hb10⟩
    have hr10 : ReadsOf (Value.int .u8) (0 : Int) w10 A10 (encLet l).length (encLet l) := by
      obtain ⟨A', c', he, hle, hr⟩ := own_reads_of_le (d := (0 : Int)) ho10
      injection he with he1 he2 he3
      subst he1 he3
      exact hr
    have hcv := conv_str (c := c10) hr10
    have hlb := encLet_bytes l HOL.out
    have HG := Lib.hid (show encText (strOfNums (encLet l)) = encBytes (encLet l) from by rw [encText_eq, bytesOf_strOf (encLet l) hlb])
    have hsz : (strOfNums (encLet l)).size = (encLet l).length := by rw [← bytesOf_length, bytesOf_strOf (encLet l) hlb]
    have H10 := Lib.hid (H9.out.later hb10)
    clear ho10 hb10 hr10 hlb v1 v2 v3 v4 lv
    go_wp2_with fail
    refine (WP.text (strOfNums (encLet l)) (by omega) (by simp; omega) H10.out).mono ?_
    rintro e w11 ⟨rfl, h11⟩
    rw [HG.out] at h11
    have h12 := HX4.out w11 _ h11
    have hel := encBytes_length (encLet l) (by unfold U64; omega)
    obtain ⟨BT, hBT⟩ : ∃ z, z = B ++ encText k ++ encBytes (encLet l) := ⟨_, rfl⟩
    rw [← hBT] at h12
    have hBTl : BT.length ≤ 1000 := by rw [hBT]; simp; omega
    have H11 := Lib.hid h12
    have HBT := Lib.hid hBT
    clear h11 h12 hcv hBT
    go_wp2_with fail
    rw [rounds_succ]
    go_wp2_with fail
    refine (WP.bytes (by omega) H11.out).mono ?_
    rintro e w12 ⟨A', c', rfl, h6, h7⟩
    have hs12 := H11.out.chg.size
    have H12 := Lib.hid (own_weaken h6 (Nat.le_trans HS0 hs12))
    have H13 := Lib.hid (show Below w.heap.size w w12 from (HB0.out.trans (H11.out.chg.below (fun k hk => by rw [hk, HWB.out]; omega) HS0)).trans (h7.mono (Nat.le_trans HS0 hs12)))
    clear h6 h7
    go_wp2_with fail
    go_ret
    rw [show BF = BT by rw [HBF.out, HE.out, HBT.out]; simp [encOuts]]
    exact ⟨A', c', rfl, H12.out, H13.out⟩
theorem OutEnc.ok (o : Outb) (h : o.Ok) : OutEnc o := fun X ob w hw => by
  obtain ⟨ow, ss, L⟩ := o
  rcases h.shape with ⟨h1, h2⟩ | ⟨k, s, h1, h2⟩
  · simp only at h1 h2
    subst h1 h2
    exact outenc0 X ob ow h.owner w hw
  · simp only at h1 h2
    subst h1
    refine outenc1 X ob ow k s L h ?_ w hw
    rcases h2 with h2 | ⟨l, _, _, h2⟩
    · exact .inl h2
    · exact .inr ⟨l, h2⟩
end Go.Proofs.YtlcdjgpblpodaaaGreatDoor
namespace Go.Proofs.YtlcdjgpblpodaaaGreatDoor.HeldB
open Go

section
variable {P : Program} {ops : Array Oper} {Q : Exit → Act → World → Prop} {md : Region.Mode} {S : World → Prop} {m : Nat}

/-- Whatever order is picked from here on; S holds as long as number m has not come. -/
def Till (P : Program) (md : Region.Mode) (ops : Array Oper) (Q : Exit → Act → World → Prop) (S : World → Prop) (m : Nat) : Nat → Array Bool → Act → World → Prop
  | 0, listed, a, w => Region.ready md ops listed = [] ∧ Q .normal a w
  | fuel + 1, listed, a, w =>
    (Region.ready md ops listed = [] → Q .normal a w) ∧
    ∀ i ∈ Region.ready md ops listed, wpOp P ops Q i (fun a' w' => ((listed.setIfInBounds i true).getD m true = false → S w') ∧ Till P md ops Q S m fuel (listed.setIfInBounds i true) a' w') a w

theorem any_of_till : ∀ (fuel : Nat) (listed : Array Bool) (a : Act) (w : World), Till P md ops Q S m fuel listed a w → wpAny P md ops Q fuel listed a w
  | 0, _, _, _, h => h
  | fuel + 1, _, _, _, h => ⟨h.1, fun i hi => wpOp_mono (fun _ _ h' => any_of_till fuel _ _ _ h'.2) (h.2 i hi)⟩

/-- Number i waits till m: m is not ready while i has not come up. -/
def before (md : Region.Mode) (ops : Array Oper) (i m : Nat) : Bool :=
  match ops[m]? with
  | some o => o.after.any fun e => Region.binds md e && e.on == i
  | none => false
theorem before_spec {i : Nat} (h : before md ops i m = true) {listed : Array Bool} (hi : listed.getD i true = false) : m ∉ Region.ready md ops listed := fun hm => by
  unfold before at h
  obtain ⟨_, om, hom, hall⟩ := mem_ready.1 hm
  rw [hom] at h
  obtain ⟨e, he, hb⟩ := Array.any_eq_true'.1 h
  simp only [Bool.and_eq_true, beq_iff_eq] at hb
  have h1 := hall e he hb.1
  rw [hb.2] at h1
  rcases Nat.lt_or_ge i listed.size with h' | h'
  · simp [h'] at hi h1; rw [hi] at h1; cases h1
  · simp [Array.getElem?_eq_none h'] at h1

theorem first {i : Nat} {oi : Oper} {v : Value} (hi : ops[i]? = some oi) (hsel : ∀ (j : Nat) (o : Oper) cs b, ops[j]? = some o → o.op ≠ .select cs b) (hbm : before md ops i m = true)
    (hQ : ∀ c a w, Q (.panic c) (a.put oi.dst v) w → Q (.panic c) a w) :
    ∀ (fuel : Nat) (listed : Array Bool) (a : Act) (w : World),
      (∀ j oj, ops[j]? = some oj → j ≠ i → listed.getD j true = false → (∀ e ∈ oj.after, Region.binds md e = true → e.on ≠ i) → oi.apart ops oj = true) →
      i ∈ Region.ready md ops listed → YieldsIf P ops S oi v a → S w → listed.getD m true = false →
      Till P md ops Q S m fuel (listed.setIfInBounds i true) (a.put oi.dst v) w → Till P md ops Q S m (fuel + 1) listed a w := by
  intro fuel
  induction fuel with
  | zero =>
    intro listed a w _ hr hy hS hm H
    refine ⟨fun h => (by rw [h] at hr; cases hr), fun j hj => ?_⟩
    by_cases hji : j = i
    · subst hji; exact hy.wpOp hi hS ⟨fun _ => hS, H⟩
    · have := ready_mono hj hji
      rw [H.1] at this
      cases this
  | succ fuel ih =>
    intro listed a w hfree hr hy hS hm H
    have hiun := (mem_ready.1 hr).1
    have hmn := before_spec hbm hiun
    refine ⟨fun h => (by rw [h] at hr; cases hr), fun j hj => ?_⟩
    by_cases hji : j = i
    · subst hji; exact hy.wpOp hi hS ⟨fun _ => hS, H⟩
    · have hjm : j ≠ m := fun e => hmn (e ▸ hj)
      have h1 := H.2 j (ready_mono hj hji)
      obtain ⟨hjun, oj, hoj, hall⟩ := mem_ready.1 hj
      have hnot : ∀ e ∈ oj.after, Region.binds md e = true → e.on ≠ i := fun e he hb heq => by
        have h2 := hall e he hb
        rw [heq] at h2
        rcases Nat.lt_or_ge i listed.size with h' | h'
        · simp [h'] at hiun h2; rw [hiun] at h2; cases h2
        · simp [Array.getElem?_eq_none h'] at h2
      have h2 := wpOp_putIf hoj (hfree j oj hoj hji hjun hnot) (fun cs b => hsel i oi cs b hi) (fun cs b => hsel j oj cs b hoj) hQ hy h1
      have hfree' : ∀ k ok, ops[k]? = some ok → k ≠ i → (listed.setIfInBounds j true).getD k true = false →
          (∀ e ∈ ok.after, Region.binds md e = true → e.on ≠ i) → oi.apart ops ok = true := fun k ok hk hki hun hno => by
        refine hfree k ok hk hki ?_ hno
        by_cases hjk : j = k
        · subst hjk; exact hjun
        · rw [getD_set_ne true hjk] at hun; exact hun
      have hm' : (listed.setIfInBounds j true).getD m true = false := by rw [getD_set_ne true hjm]; exact hm
      have hm2 : ((listed.setIfInBounds i true).setIfInBounds j true).getD m true = false := by
        rw [getD_set_ne true hjm]
        have him : i ≠ m := fun e => hmn (e ▸ hr)
        rw [getD_set_ne true him]; exact hm
      refine wpOp_mono (fun a' w' h3 => ⟨fun _ => h3.2.1 hm2, ih (listed.setIfInBounds j true) a' w' hfree' (ready_mono hr (Ne.symm hji)) h3.1 (h3.2.1 hm2) hm' ?_⟩) h2
      rw [Array.setIfInBounds_comm _ _ hji]
      exact h3.2.2

theorem firstP {i : Nat} {oi : Oper} {v : Value} (him : i ≠ m) (hi : ops[i]? = some oi) (hsel : ∀ (j : Nat) (o : Oper) cs b, ops[j]? = some o → o.op ≠ .select cs b)
    (hQ : ∀ c a w, Q (.panic c) (a.put oi.dst v) w → Q (.panic c) a w) :
    ∀ (fuel : Nat) (listed : Array Bool) (a : Act) (w : World),
      (∀ j oj, ops[j]? = some oj → j ≠ i → listed.getD j true = false → (∀ e ∈ oj.after, Region.binds md e = true → e.on ≠ i) → oi.apart ops oj = true) →
      i ∈ Region.ready md ops listed → YieldsIf P ops (fun _ => True) oi v a → (listed.getD m true = false → S w) →
      Till P md ops Q S m fuel (listed.setIfInBounds i true) (a.put oi.dst v) w → Till P md ops Q S m (fuel + 1) listed a w := by
  intro fuel
  induction fuel with
  | zero =>
    intro listed a w _ hr hy hS H
    refine ⟨fun h => (by rw [h] at hr; cases hr), fun j hj => ?_⟩
    by_cases hji : j = i
    · subst hji; exact hy.wpOp hi trivial ⟨fun hm => hS (by rw [getD_set_ne true him] at hm; exact hm), H⟩
    · have := ready_mono hj hji
      rw [H.1] at this
      cases this
  | succ fuel ih =>
    intro listed a w hfree hr hy hS H
    have hiun := (mem_ready.1 hr).1
    refine ⟨fun h => (by rw [h] at hr; cases hr), fun j hj => ?_⟩
    by_cases hji : j = i
    · subst hji; exact hy.wpOp hi trivial ⟨fun hm => hS (by rw [getD_set_ne true him] at hm; exact hm), H⟩
    · have h1 := H.2 j (ready_mono hj hji)
      obtain ⟨hjun, oj, hoj, hall⟩ := mem_ready.1 hj
      have hnot : ∀ e ∈ oj.after, Region.binds md e = true → e.on ≠ i := fun e he hb heq => by
        have h2 := hall e he hb
        rw [heq] at h2
        rcases Nat.lt_or_ge i listed.size with h' | h'
        · simp [h'] at hiun h2; rw [hiun] at h2; cases h2
        · simp [Array.getElem?_eq_none h'] at h2
      have h2 := wpOp_putIf hoj (hfree j oj hoj hji hjun hnot) (fun cs b => hsel i oi cs b hi) (fun cs b => hsel j oj cs b hoj) hQ hy h1
      have hfree' : ∀ k ok, ops[k]? = some ok → k ≠ i → (listed.setIfInBounds j true).getD k true = false →
          (∀ e ∈ ok.after, Region.binds md e = true → e.on ≠ i) → oi.apart ops ok = true := fun k ok hk hki hun hno => by
        refine hfree k ok hk hki ?_ hno
        by_cases hjk : j = k
        · subst hjk; exact hjun
        · rw [getD_set_ne true hjk] at hun; exact hun
      have hx : (listed.setIfInBounds j true).getD m true = false → ((listed.setIfInBounds i true).setIfInBounds j true).getD m true = false := fun hm => by
        rw [Array.setIfInBounds_comm _ _ (Ne.symm hji), getD_set_ne true him]; exact hm
      refine wpOp_mono (fun a' w' h3 => ⟨fun hm => h3.2.1 (hx hm), ih (listed.setIfInBounds j true) a' w' hfree' (ready_mono hr (Ne.symm hji)) h3.1 (fun hm => h3.2.1 (hx hm)) ?_⟩) h2
      rw [Array.setIfInBounds_comm _ _ hji]
      exact h3.2.2

/-- Take number i first: what it gives hangs on S. -/
theorem take {i : Nat} {oi : Oper} {v : Value} {fuel : Nat} {listed : Array Bool} {a : Act} {w : World} (hi : ops[i]? = some oi)
    (hs : Region.noSelect ops = true) (hf : Region.free md ops listed i = true) (hr : (Region.ready md ops listed).contains i = true) (hbm : before md ops i m = true) (hm : listed.getD m true = false)
    (hQ : ∀ c a w, Q (.panic c) (a.put oi.dst v) w → Q (.panic c) a w) (hy : YieldsIf P ops S oi v a) (hS : S w)
    (h : Till P md ops Q S m fuel (listed.setIfInBounds i true) (a.put oi.dst v) w) : Till P md ops Q S m (fuel + 1) listed a w :=
  first hi (Region.noSelect_spec hs) hbm hQ fuel listed a w (Region.free_spec hi hf) (by simpa using hr) hy hS hm h
/-- Take number i first: what it gives hangs on nothing. -/
theorem takeP {i : Nat} {oi : Oper} {v : Value} {fuel : Nat} {listed : Array Bool} {a : Act} {w : World} (him : i ≠ m) (hi : ops[i]? = some oi)
    (hs : Region.noSelect ops = true) (hf : Region.free md ops listed i = true) (hr : (Region.ready md ops listed).contains i = true)
    (hQ : ∀ c a w, Q (.panic c) (a.put oi.dst v) w → Q (.panic c) a w) (hy : YieldsIf P ops (fun _ => True) oi v a) (hS : listed.getD m true = false → S w)
    (h : Till P md ops Q S m fuel (listed.setIfInBounds i true) (a.put oi.dst v) w) : Till P md ops Q S m (fuel + 1) listed a w :=
  firstP him hi (Region.noSelect_spec hs) hQ fuel listed a w (Region.free_spec hi hf) (by simpa using hr) hy hS h

/-- The one that may come up comes up. -/
theorem one {i : Nat} {o : Oper} {fuel : Nat} {listed : Array Bool} {a : Act} {w : World} (hr : Region.ready md ops listed = [i]) (ho : ops[i]? = some o)
    (h : ∀ K' : Act → World → Prop, Shut (∀ a w, ((listed.setIfInBounds i true).getD m true = false → S w) → (((listed.setIfInBounds i true).getD m true = false → S w) → Till P md ops Q S m fuel (listed.setIfInBounds i true) a w) → K' a w) → if Region.wanted o (yielded ops a.tmps) = true then Oper.wp P o a w K' Q else K' (a.put o.dst undef) w) :
    Till P md ops Q S m (fuel + 1) listed a w :=
  ⟨(fun h0 => by rw [hr] at h0; cases h0), fun j hj => by
    rw [hr] at hj
    obtain rfl : j = i := by simpa using hj
    exact wpOp_step ho (fun K' hK => h K' (fun a w hS hW => hK a w ⟨hS, hW hS⟩))⟩
/-- One of two that may come up. -/
theorem two {i j : Nat} {o o2 : Oper} {fuel : Nat} {listed : Array Bool} {a : Act} {w : World} (hr : Region.ready md ops listed = [i, j]) (ho : ops[i]? = some o) (ho2 : ops[j]? = some o2)
    (h : ∀ K' : Act → World → Prop, Shut (∀ a w, ((listed.setIfInBounds i true).getD m true = false → S w) → (((listed.setIfInBounds i true).getD m true = false → S w) → Till P md ops Q S m fuel (listed.setIfInBounds i true) a w) → K' a w) → if Region.wanted o (yielded ops a.tmps) = true then Oper.wp P o a w K' Q else K' (a.put o.dst undef) w)
    (h2 : ∀ K' : Act → World → Prop, Shut (∀ a w, ((listed.setIfInBounds j true).getD m true = false → S w) → (((listed.setIfInBounds j true).getD m true = false → S w) → Till P md ops Q S m fuel (listed.setIfInBounds j true) a w) → K' a w) → if Region.wanted o2 (yielded ops a.tmps) = true then Oper.wp P o2 a w K' Q else K' (a.put o2.dst undef) w) :
    Till P md ops Q S m (fuel + 1) listed a w :=
  ⟨(fun h0 => by rw [hr] at h0; cases h0), fun k hk => by
    rw [hr] at hk
    rcases List.mem_cons.1 hk with rfl | hk
    · exact wpOp_step ho (fun K' hK => h K' (fun a w hS hW => hK a w ⟨hS, hW hS⟩))
    · obtain rfl : k = j := by simpa using hk
      exact wpOp_step ho2 (fun K' hK => h2 K' (fun a w hS hW => hK a w ⟨hS, hW hS⟩))⟩

theorem done {listed : Array Bool} {a : Act} {w : World} (hr : Region.ready md ops listed = []) (h : Q .normal a w) :
    ∀ fuel, Till P md ops Q S m fuel listed a w
  | 0 => ⟨hr, h⟩
  | _ + 1 => ⟨fun _ => h, by rw [hr]; simp⟩

theorem region (S : World → Prop) (m : Nat) {id : Nat} {a : Act} {w : World} (hm : P.follows .mixedOrders = true)
    (hS : S w.drew) (h : S w.drew → Till P .any ops (NoPanic Q) S m ops.size (Array.replicate ops.size false) a w.drew) : (Code.region id ops true).wp P Q a w :=
  wp_region_noPanic (wp_region_any hm (any_of_till _ _ _ _ (h hS)))
end
end Go.Proofs.YtlcdjgpblpodaaaGreatDoor.HeldB

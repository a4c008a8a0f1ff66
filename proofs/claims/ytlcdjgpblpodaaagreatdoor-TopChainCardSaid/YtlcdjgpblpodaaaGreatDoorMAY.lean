/- Book8, Book9, Book7, WGuard -/
import Derived.Test.YtlcdjgpblpodaaaGreatDoorMAX
import Derived.Test.YtlcdjgpblpodaaaGreatDoorMAN
import Derived.Test.YtlcdjgpblpodaaaGreatDoorMAB
namespace Go.Proofs.YtlcdjgpblpodaaaGreatDoor
open Go.RowKit Go.Maps Go.Proofs.YtlcdjgpblpodaaaGreatDoorW.PrintWords

/-- Under way: the book's block, its two maps, the disk. -/
structure OpMid (w0 w : World) (X : Nat → Prop) (db n bb mb hb : Nat) (C : Array Value) : Prop where
  below : Below w0.heap.size w0 w
  blk : Blk w bb C 167
  tbl : MapAt w 9 mb 0 (fun _ => none)
  chd : MapAt w 9 hb 0 (fun _ => none)
  disk : DiskAt true w X db n 0
  lt : ∀ k, X k → k < w0.heap.size
  ne : w0.heap.size ≤ mb ∧ mb < hb ∧ hb < bb
theorem OpMid.on {w0 w w' : World} {X : Nat → Prop} {db n bb mb hb : Nat} {C : Array Value} (h : OpMid w0 w X db n bb mb hb C) (hb' : Below w.heap.size w w') : OpMid w0 w' X db n bb mb hb C :=
  ⟨h.below.trans (hb'.mono h.below.size), h.blk.below hb', h.tbl.below hb', h.chd.below hb', h.disk.below hb', h.lt, h.ne⟩
theorem OpMid.put {w0 w : World} {X : Nat → Prop} {db n bb mb hb : Nat} {C : Array Value} (h : OpMid w0 w X db n bb mb hb C) (i : Nat) (v : Value) : OpMid w0 (w.setCell ⟨bb, i, none⟩ v) X db n bb mb hb (C.setIfInBounds i v) := by
  have hc : Chg (fun k => k = bb) w (w.setCell ⟨bb, i, none⟩ v) := (Chg.refl (fun k => k = bb) w).put bb i (.inl rfl) v
  have h1 := h.ne
  exact ⟨h.below.setCell (p := ⟨bb, i, none⟩) (by simp only; omega) v, h.blk.set i v, h.tbl.chg hc (by omega), h.chd.chg hc (by omega), h.disk.chg hc (fun k hk e => by have := h.lt k hk; omega), h.lt, h.ne⟩

set_option maxRecDepth 100000 in
set_option maxHeartbeats 2000000 in
theorem bookopen (X : Nat → Prop) (db n : Nat) (h24 : 24 ≤ n) (hn : n ≤ 65536) (w : World) (h : DiskAt true w X db n 0) (hX : ∀ k, X k → k < w.heap.size) :
    Calls Tryz.prog 20 #[.pointer (some ⟨db, 0, none⟩)] w fun e w' => ∃ bb sb lb pb tb mb hb XL, e = .returned (.tuple #[.pointer (some ⟨bb, 0, none⟩), .int .i64 0]) ∧ BookP w' (fun _ => False) XL X bb db sb lb pb tb mb hb n (n / 4) 0 0 0 0 0 0 (fun _ => none) ∧
      (∀ k, XL k → w.heap.size ≤ k) ∧ w.heap.size ≤ bb ∧ w.heap.size ≤ mb ∧ w.heap.size ≤ hb ∧ Below w.heap.size w w' := by
  have hmm := @run_makeMap Tryz.prog
  have HB := Lib.hid (blocks_any X db n 0 w h)
  obtain ⟨mb, hmb⟩ : ∃ mb, mb = w.heap.size := ⟨_, rfl⟩
  obtain ⟨hb, hhb⟩ : ∃ hb, hb = w.heap.size + 1 := ⟨_, rfl⟩
  obtain ⟨bb, hbb⟩ : ∃ bb, bb = w.heap.size + 1 + 1 := ⟨_, rfl⟩
  obtain ⟨W1, hW1⟩ : ∃ V, V = ((w.alloc (.map #[] 0)).alloc (.map #[] 0)).alloc (.cells #[.pointer (some ⟨db, 0, none⟩), .pointer none, .pointer none, .pointer none, .pointer none, .int .u64 1, .map (some w.heap.size), .map (some (w.heap.size + 1)), .int .i64 0, .bool false] 167) := ⟨_, rfl⟩
  have hM : OpMid w W1 X db n bb mb hb #[.pointer (some ⟨db, 0, none⟩), .pointer none, .pointer none, .pointer none, .pointer none, .int .u64 1, .map (some mb), .map (some hb), .int .i64 0, .bool false] := by
    have b1 : Below w.heap.size w (w.alloc (.map #[] 0)) := (Below.refl _ _).alloc (Nat.le_refl _) _
    have b2 := b1.alloc b1.size (.map #[] 0)
    have b3 := b2.alloc b2.size (.cells #[.pointer (some ⟨db, 0, none⟩), .pointer none, .pointer none, .pointer none, .pointer none, .int .u64 1, .map (some w.heap.size), .map (some (w.heap.size + 1)), .int .i64 0, .bool false] 167)
    rw [← hW1] at b3
    have s1 : (w.alloc (.map #[] 0)).heap.size = w.heap.size + 1 := by simp
    have s2 : ((w.alloc (.map #[] 0)).alloc (.map #[] 0)).heap.size = w.heap.size + 1 + 1 := by simp
    have m1 := (MapAt.new w 9).below (((Below.refl _ _).alloc (Nat.le_refl _) (.map #[] 0)))
    have m1' := m1.below (w' := W1) (hW1 ▸ (Below.refl _ _).alloc (Nat.le_refl _) _)
    have m2 := (MapAt.new (w.alloc (.map #[] 0)) 9).below (w' := W1) (hW1 ▸ (Below.refl _ _).alloc (Nat.le_refl _) _)
    rw [s1] at m2
    exact ⟨b3, by rw [hmb, hhb, hW1]; exact Blk.newAt (by rw [hbb, s2]), hmb ▸ m1', hhb ▸ m2, h.below b3, hX, by omega⟩
  have HM := Lib.hid hM
  have HW1 := Lib.hid hW1
  have HBB := Lib.hid hbb
  have HMB := Lib.hid hmb
  have HHB := Lib.hid hhb
  have g0 : decide ((n : Int) < 24) = false := decide_eq_false (by omega)
  obtain ⟨q, hq⟩ : ∃ q, q = n / 4 := ⟨_, rfl⟩
  obtain ⟨s2, hs2⟩ : ∃ z, z = 2 + q := ⟨_, rfl⟩
  obtain ⟨c2, hc2⟩ : ∃ z, z = n - 2 - q := ⟨_, rfl⟩
  have z1 : 1 ≤ q := by omega
  have z2 : 2 + q ≤ n := by omega
  have z3 : 1 ≤ s2 := by omega
  have z4 : 1 ≤ c2 := by omega
  have z5 : s2 + c2 ≤ n := by omega
  have HP := Lib.hid (fun W h => by have := parts_any X db n 0 h24 hn W h; rwa [← hq, ← hs2, ← hc2] at this : ∀ W, DiskAt true W X db n 0 → Calls Tryz.prog 66 #[.pointer (some ⟨db, 0, none⟩)] W fun e w' => e = .returned (.tuple #[.int .i64 2, .int .i64 (q : Int), .int .i64 (s2 : Int), .int .i64 (c2 : Int)]) ∧ W = w')
  have HQ := Lib.hid hq
  rw [← hq]
  clear h hX hM hW1 hbb hmb hhb hq hs2 hc2
  go_enter Tryz.func20, Tryz.ntmps20
  go_wp2_with fail
  refine HB.out.mono ?_
  rintro e w1 ⟨rfl, rfl⟩
  go_wp2_with fail
  rw [← HW1.out, ← HBB.out, ← HHB.out, ← HMB.out]
  refine (superopen X db n (by omega) W1 HM.out.disk).mono ?_
  rintro e w2 ⟨sb, rfl, hsb, hs, hb2⟩
  have hm2 := HM.out.on hb2
  have k1 := HM.out.blk.lt
  obtain ⟨W3, hW3⟩ : ∃ W, W = w2.setCell ⟨bb, 1, none⟩ (.pointer (some ⟨sb, 0, none⟩)) := ⟨_, rfl⟩
  have HM3 := Lib.hid (hW3 ▸ hm2.put 1 (.pointer (some ⟨sb, 0, none⟩)) : OpMid w W3 X db n bb mb hb _)
  have HG := Lib.hid (gen_any sb db W3 (hW3 ▸ hsb.other (by simp only; omega) _))
  have f1 := hm2.blk.free 1
  have e1 : w2.cell? ⟨bb, 1, none⟩ = some (.pointer none) := hm2.blk.cell 1
  have l1 := hm2.blk.lt
  have d1 : W3.cell? ⟨bb, 1, none⟩ = some (.pointer (some ⟨sb, 0, none⟩)) := HM3.out.blk.cell 1
  have HW3 := Lib.hid hW3
  clear hsb hs hb2 hm2 hW3
  go_upto_region 6 with fail
  rw [← HW3.out]
  go_wp2_with fail
  refine HG.out.mono ?_
  rintro e w4 ⟨rfl, rfl⟩
  clear f1 l1 e1
  go_wp2_with fail
  refine (HP.out W3 HM3.out.disk).mono ?_
  rintro e w4 ⟨rfl, rfl⟩
  go_wp2_with fail
  refine (names_none X db n s2 c2 z3 z4 z5 hn W3 HM3.out.disk).mono ?_
  rintro e w4 ⟨rfl, hb4⟩
  have HM4 := Lib.hid (HM3.out.on hb4)
  clear hb4
  go_wp2_with fail
  refine (pagesopen X db n s2 c2 z4 z5 hn w4 HM4.out.disk).mono ?_
  rintro e w5 ⟨pb, rfl, hpb, hp5, hb5⟩
  have hm5 := HM4.out.on hb5
  have k4 := HM4.out.blk.lt
  obtain ⟨W6, hW6⟩ : ∃ W, W = w5.setCell ⟨bb, 3, none⟩ (.pointer (some ⟨pb, 0, none⟩)) := ⟨_, rfl⟩
  have HM6 := Lib.hid (hW6 ▸ hm5.put 3 (.pointer (some ⟨pb, 0, none⟩)) : OpMid w W6 X db n bb mb hb _)
  have HT := Lib.hid (treeopen pb s2 z3 W6 (((Chg.refl (fun k => k = bb) w5).put bb 3 (.inl rfl) (.pointer (some ⟨pb, 0, none⟩)) |> (hW6 ▸ · : _ → Chg (fun k => k = bb) w5 W6)).cell (a := ⟨pb, 1, none⟩) (by simp only; omega) hpb))
  have f3 := hm5.blk.free 3
  have e3 : w5.cell? ⟨bb, 3, none⟩ = some (.pointer none) := hm5.blk.cell 3
  have l3 := hm5.blk.lt
  have d3 : W6.cell? ⟨bb, 3, none⟩ = some (.pointer (some ⟨pb, 0, none⟩)) := HM6.out.blk.cell 3
  have HW6 := Lib.hid hW6
  clear hpb hp5 hb5 hm5 hW6
  go_upto_region 16 with fail
  rw [← HW6.out]
  go_wp2_with fail
  refine HT.out.mono ?_
  rintro e w7 ⟨tb, rfl, htb, ht7, hb7⟩
  have hm7 := HM6.out.on hb7
  have k6 := HM6.out.blk.lt
  obtain ⟨W8, hW8⟩ : ∃ W, W = w7.setCell ⟨bb, 4, none⟩ (.pointer (some ⟨tb, 0, none⟩)) := ⟨_, rfl⟩
  have HM8 := Lib.hid (hW8 ▸ hm7.put 4 (.pointer (some ⟨tb, 0, none⟩)) : OpMid w W8 X db n bb mb hb _)
  have hc8 : Chg (fun k => k = bb) w7 W8 := hW8 ▸ (Chg.refl (fun k => k = bb) w7).put bb 4 (.inl rfl) _
  have HTB := Lib.hid (hc8.cell (a := ⟨tb, 1, none⟩) (by simp only; omega) htb)
  have f4 := hm7.blk.free 4
  have e4 : w7.cell? ⟨bb, 4, none⟩ = some (.pointer none) := hm7.blk.cell 4
  have l4 := hm7.blk.lt
  have d5 : W8.cell? ⟨bb, 5, none⟩ = some (.int .u64 1) := HM8.out.blk.cell 5
  have HW8 := Lib.hid hW8
  have htl : bb < tb := by omega
  have HTL := Lib.hid htl
  clear htb ht7 hb7 hm7 hW8 hc8 f3 l3 e3 d3 htl
  go_upto_region 18 with fail
  rw [← HW8.out]
  go_wp2_with fail
  refine (logopen X db n 2 q 1 z1 z2 hn W8 HM8.out.disk).mono ?_
  rintro e w9 ⟨lb, rfl, hlog, hb9⟩
  have hm9 := HM8.out.on hb9
  have k8 := HM8.out.blk.lt
  obtain ⟨W10, hW10⟩ : ∃ W, W = w9.setCell ⟨bb, 2, none⟩ (.pointer (some ⟨lb, 0, none⟩)) := ⟨_, rfl⟩
  have HM10 := Lib.hid (hW10 ▸ hm9.put 2 (.pointer (some ⟨lb, 0, none⟩)) : OpMid w W10 X db n bb mb hb _)
  have hc10 : Chg (fun k => k = bb) w9 W10 := hW10 ▸ (Chg.refl (fun k => k = bb) w9).put bb 2 (.inl rfl) _
  have HLG := Lib.hid (hlog.chg hc10 (fun k hk e => by omega))
  have c4' := hc10.cell (a := ⟨tb, 1, none⟩) (fun e => by have := HTL.out; simp only at e; omega) (by have := (Chg.of_below hb9 (fun _ => False)).cell (a := ⟨tb, 1, none⟩) (fun h => h) HTB.out; exact this)
  have HTK := Lib.hid (treekeys_none tb ⟨#[]⟩ ⟨#[]⟩ W10 c4')
  have f2 := hm9.blk.free 2
  have e2 : w9.cell? ⟨bb, 2, none⟩ = some (.pointer none) := hm9.blk.cell 2
  have l2 := hm9.blk.lt
  have d4 : W10.cell? ⟨bb, 4, none⟩ = some (.pointer (some ⟨tb, 0, none⟩)) := HM10.out.blk.cell 4
  have HK8 := Lib.hid (show w.heap.size ≤ W8.heap.size from HM8.out.below.size)
  have HW10 := Lib.hid hW10
  clear hlog hb9 hm9 hW10 hc10 c4' f4 l4 e4 d5 d1
  go_upto_region 20 with fail
  rw [← HW10.out]
  go_wp2_with fail
  refine HTK.out.mono ?_
  rintro e w11 ⟨rfl, hb11⟩
  have HM11 := Lib.hid (HM10.out.on hb11)
  have HL11 := Lib.hid (HLG.out.below hb11)
  have d2 : w11.cell? ⟨bb, 2, none⟩ = some (.pointer (some ⟨lb, 0, none⟩)) := HM11.out.blk.cell 2
  clear hb11 f2 l2 e2 d4
  go_wp2_with fail
  refine wp_loop_rounds 1 ?_
  rw [rounds_succ]
  go_wp2_with fail
  refine (units_none _ lb db 2 q 0 w11 HL11.out).mono ?_
  rintro e w12 ⟨rfl, rfl⟩
  go_wp2_with fail
  refine wp_loop_rounds 1 ?_
  rw [rounds_succ]
  go_wp2_with fail
  go_ret2
  have hM := HM11.out
  have hk8 := HK8.out
  obtain ⟨n1, n2, n3⟩ := hM.ne
  have hL := HL11.out.lt
  refine ⟨bb, sb, lb, pb, tb, mb, hb, _, rfl, ⟨hM.blk, ⟨hM.blk.cell 6, hM.blk.cell 7, ⟨_, hM.tbl, fun _ => rfl⟩, _, hM.chd⟩, hL, hM.disk.used, fun k h1 h2 => by have := hM.lt k h2; have := h1.1; omega, fun _ h => h.elim,
    ⟨fun h => ?_, fun h => by have := hM.lt _ h; omega⟩, ⟨fun h => ?_, fun h => by have := hM.lt _ h; omega⟩, ⟨fun h => ?_, fun h => by have := hM.lt _ h; omega⟩, by omega, fun k hk => ?_⟩, fun k hk => by have := hk.1; omega, by omega, by omega, by omega, hM.below⟩
  · have := h.1; omega
  · have := h.1; omega
  · have := h.1; omega
  · rcases hk with hk | hk | hk
    · exact hk.elim
    · exact hk.2
    · exact Nat.lt_of_lt_of_le (hM.lt k hk) hM.below.size
end Go.Proofs.YtlcdjgpblpodaaaGreatDoor
namespace Go.Proofs.YtlcdjgpblpodaaaGreatDoor
open Go.RowKit Go.Maps Go.Sort Go.Proofs.YtlcdjgpblpodaaaGreatDoorW.PrintWords

theorem MapAt.bare {w : World} {b : Nat} {f : Lit → Option Value} (h : MapAt w 9 b 0 f) : ∃ D : DataW Value, w.ownsMap Tryz.prog 9 rawR b 0 D ∧ strKeys D = [] ∧ Maps.size D ≤ 1000000 := by
  obtain ⟨D, h1, _⟩ := h
  obtain ⟨es, clock, hb, F, hs, hD⟩ := h1
  have he : es = #[] := Array.eq_empty_of_size_eq_zero (by omega)
  subst he
  refine ⟨D, ⟨#[], clock, hb, F, hs, hD⟩, ?_, ?_⟩
  · rw [hD]; rfl
  · rw [hD]; exact Nat.zero_le _
set_option maxRecDepth 100000 in
theorem bookkeys_none (bb mb : Nat) (a b : ByteArray) (f : Lit → Option Value) (w : World) (c6 : w.cell? ⟨bb, 6, none⟩ = some (.map (some mb))) (h : MapAt w 9 mb 0 f) :
    Calls Tryz.prog 84 #[.pointer (some ⟨bb, 0, none⟩), .string a, .string b] w fun e w' => e = .returned (.slice none 0 0) ∧ Below w.heap.size w w' := by
  obtain ⟨D, h1, h2, h3⟩ := h.bare
  obtain ⟨W1, hW1⟩ : ∃ W, W = w.alloc (.cells #[.map (some mb)] 160) := ⟨_, rfl⟩
  have hb1 : Below w.heap.size w W1 := hW1 ▸ (Below.refl _ _).alloc (Nat.le_refl _) _
  obtain ⟨es, clock, hb, hr⟩ := h1
  have HS := Lib.hid (sorted155 (H := Value) mb 0 D rawR W1 w.heap.size (hW1 ▸ heap_alloc_new w _) ⟨es, clock, (Chg.of_below hb1 (fun _ => False)).at_ (fun h => h) hb, hr⟩ h3)
  have HW1 := Lib.hid hW1
  have HB1 := Lib.hid hb1
  clear h hb hr hW1 hb1 h3
  go_enter Tryz.func84, Tryz.ntmps84
  go_wp2_with fail
  refine (keys155 (some mb) w).mono ?_
  rintro e w1 ⟨rfl, rfl⟩
  rw [← HW1.out]
  go_wp2_with fail
  refine HS.out.mono ?_
  rintro e w2 ⟨v, ss, rfl, hp, ho, hn, hb2⟩
  rw [h2] at hp
  obtain rfl := hn.2 hp.eq_nil
  clear ho hn hp HS
  have HB2 := Lib.hid (HB1.out.trans (hb2.mono HB1.out.size))
  clear hb2
  go_wp2_with fail
  refine wp_loop_rounds 1 ?_
  rw [rounds_succ]
  go_wp2_with fail
  go_ret
  exact ⟨rfl, HB2.out⟩
end Go.Proofs.YtlcdjgpblpodaaaGreatDoor
namespace Go.Proofs.YtlcdjgpblpodaaaGreatDoor
open Go.RowKit Go.Maps Go.Proofs.YtlcdjgpblpodaaaGreatDoorW.PrintWords

def sizeChs : List Chn → Nat
  | [] => 0
  | c :: r => c.key.size + c.val.length + sizeChs r
theorem sizeChs_take : ∀ (cs : List Chn) (k : Nat) (c : Chn), cs[k]? = some c → sizeChs (cs.take (k + 1)) = sizeChs (cs.take k) + (c.key.size + c.val.length)
  | [], k, c, h => by simp at h
  | y :: r, 0, c, h => by simp at h; subst h; simp [sizeChs]
  | y :: r, k + 1, c, h => by simp at h; simp [sizeChs, sizeChs_take r k c h]; omega
theorem sizeChs_le : ∀ cs : List Chn, (∀ c ∈ cs, c.Ok) → sizeChs cs ≤ 8064 * cs.length
  | [], _ => by simp [sizeChs]
  | c :: r, h => by
    have h1 := h c (List.mem_cons_self ..)
    have h2 := sizeChs_le r (fun x hx => h x (List.mem_cons_of_mem _ hx))
    have h3 := h1.key.2
    have h4 := h1.short
    simp only [sizeChs, List.length_cons]
    omega
theorem commit_fin {F XL XD XL5 XD5 : Nat → Prop} {bb db sb lb pb tb mb hb N cnt used nu m n nc pend n' nc' used' nu' m' : Nat} {T T' : ByteArray → Option (List Int)} {w w4 w5 w6 : World}
    (h : BookP w F XL XD bb db sb lb pb tb mb hb N cnt used nu m n nc pend T) (h4 : Below w.heap.size w w4) (hL5 : LogAt w5 (fun k => XL5 k ∧ k < w5.heap.size) lb db 2 cnt used' nu') (hD5 : DiskAt false w5 (fun k => XD5 k ∧ k < w5.heap.size) db N m')
    (hld : ∀ k, XL5 k → ¬ XD5 k) (hxl : ∀ k, XL5 k → XL k ∨ w4.heap.size ≤ k) (hxd : ∀ k, XD5 k → XD k ∨ w4.heap.size ≤ k) (hc5 : Chg (fun k => XL k ∨ XD k) w4 w5)
    (hm6 : BkMaps w6 (fun k => (F k ∨ w5.heap.size ≤ k) ∧ k < w6.heap.size) bb mb hb n' nc' T') (hc6 : Chg (fun k => k = mb ∨ k = hb) w5 w6)
    (hb6 : Blk w6 bb #[.pointer (some ⟨db, 0, none⟩), .pointer (some ⟨sb, 0, none⟩), .pointer (some ⟨lb, 0, none⟩), .pointer (some ⟨pb, 0, none⟩), .pointer (some ⟨tb, 0, none⟩), .int .u64 1, .map (some mb), .map (some hb), .int .i64 pend, .bool false] 167) (hn' : n' ≤ n + 4) (hnc' : nc' ≤ nc + 4) :
    (∃ F' XL' XD' n' nc', BookP (w6.setCell ⟨bb, 8, none⟩ (.int .i64 ((pend : Int) + 1))) F' XL' XD' bb db sb lb pb tb mb hb N cnt used' nu' m' n' nc' (pend + 1) T' ∧ n' ≤ n + 4 ∧ nc' ≤ nc + 4 ∧ (∀ k, F' k → F k ∨ w.heap.size ≤ k) ∧ (∀ k, XL' k → XL k ∨ w.heap.size ≤ k) ∧ (∀ k, XD' k → XD k ∨ w.heap.size ≤ k)) ∧
      Chg (bookS XL XD bb mb hb) w (w6.setCell ⟨bb, 8, none⟩ (.int .i64 ((pend : Int) + 1))) := by
  have hc7 : Chg (fun k => k = bb) w6 (w6.setCell ⟨bb, 8, none⟩ (.int .i64 ((pend : Int) + 1))) := (Chg.refl (fun k => k = bb) w6).put bb 8 (.inl rfl) _
  have hc67 : Chg (fun k => k = mb ∨ k = hb ∨ k = bb) w5 (w6.setCell ⟨bb, 8, none⟩ (.int .i64 ((pend : Int) + 1))) := (hc6.mono (S' := fun k => k = mb ∨ k = hb ∨ k = bb) (fun _ _ h => h.elim .inl (fun h => .inr (.inl h)))).trans hc7 (fun _ _ h => .inr (.inr h))
  have s4 := h4.size
  have s5 := hc5.size
  have s6 := hc6.size
  have s7 := hc7.size
  have lb := h.blk.lt
  have lm := h.maps.tbl.choose_spec.1.lt
  have lh := h.maps.chd.choose_spec.lt
  obtain ⟨e1, e2, e3⟩ := h.bm
  have hx : ∀ k, (XL5 k ∧ k < w5.heap.size) → ¬ (k = mb ∨ k = hb ∨ k = bb) := fun k hk e => by
    rcases hxl k hk.1 with q | q
    · rcases e with e | e | e <;> subst e
      · exact h.ml.1 q
      · exact h.hl.1 q
      · exact h.bl.1 q
    · omega
  have hy : ∀ k, (XD5 k ∧ k < w5.heap.size) → ¬ (k = mb ∨ k = hb ∨ k = bb) := fun k hk e => by
    rcases hxd k hk.1 with q | q
    · rcases e with e | e | e <;> subst e
      · exact h.ml.2 q
      · exact h.hl.2 q
      · exact h.bl.2 q
    · omega
  have hf : ∀ k, ((F k ∨ w5.heap.size ≤ k) ∧ k < w6.heap.size) → ¬ (XL5 k ∧ k < w5.heap.size) ∧ ¬ (XD5 k ∧ k < w5.heap.size) ∧ k ≠ bb ∧ k ≠ mb ∧ k ≠ hb := fun k hk => by
    rcases hk.1 with q | q
    · obtain ⟨f1, f2, f3⟩ := h.fl k q
      have lk := h.lt k (.inl q)
      exact ⟨fun g => (hxl k g.1).elim f1 (fun g => by omega), fun g => (hxd k g.1).elim f2 (fun g => by omega), f3⟩
    · exact ⟨fun g => by omega, fun g => by omega, by omega, by omega, by omega⟩
  have hblk := hb6.set 8 (.int .i64 ((pend : Int) + 1))
  refine ⟨⟨_, _, _, n', nc', ⟨?_, ⟨hblk.cell 6, hblk.cell 7, hm6.tbl.chg hc7 (fun e => e1 e.symm) (fun k hk e => (hf k hk).2.2.1 e), ?_⟩, hL5.chg hc67 hx, hD5.chg hc67 hy, fun k a b => hld k a.1 b.1, hf, ⟨fun g => hx bb g (.inr (.inr rfl)), fun g => hy bb g (.inr (.inr rfl))⟩,
    ⟨fun g => hx mb g (.inl rfl), fun g => hy mb g (.inl rfl)⟩, ⟨fun g => hx hb g (.inr (.inl rfl)), fun g => hy hb g (.inr (.inl rfl))⟩, h.bm, fun k hk => ?_⟩, hn', hnc', fun k hk => hk.1.elim .inl (fun g => .inr (by omega)), fun k hk => (hxl k hk.1).elim .inl (fun g => .inr (by omega)), fun k hk => (hxd k hk.1).elim .inl (fun g => .inr (by omega))⟩, ?_⟩
  · exact hblk
  · obtain ⟨g, hg⟩ := hm6.chd
    exact ⟨g, hg.chg hc7 (fun e => e2 e.symm)⟩
  · rcases hk with hk | hk | hk
    · exact Nat.lt_of_lt_of_le hk.2 s7
    · exact Nat.lt_of_lt_of_le hk.2 (Nat.le_trans s6 s7)
    · exact Nat.lt_of_lt_of_le hk.2 (Nat.le_trans s6 s7)
  · refine (((Chg.of_below h4 (bookS XL XD bb mb hb)).trans hc5 (fun k _ g => ?_)).trans hc67 (fun k _ g => ?_))
    · unfold bookS
      rcases g with g | g <;> simp [g]
    · unfold bookS
      rcases g with g | g | g <;> simp [g]
set_option maxRecDepth 100000 in
set_option maxHeartbeats 2000000 in
theorem commit_any (X F XL XD : Nat → Prop) (bb db sb lb pb tb mb hb N cnt used nu m n nc pend : Nat) (T : ByteArray → Option (List Int)) (A : Option Addr) (c0 : Nat) (cs : List Chn) (hc : ∀ c ∈ cs, c.Ok) (hne : cs ≠ []) (h4 : cs.length ≤ 4) (hnd : (cs.map (·.key)).Nodup) (w : World)
    (hA : ChsAt w X A cs) (hX : ∀ k, X k → ¬ bookS XL XD bb mb hb k ∧ k < w.heap.size) (h : BookP w F XL XD bb db sb lb pb tb mb hb N cnt used nu m n nc pend T)
    (hN : 2 + cnt ≤ N) (hN2 : N ≤ 65536) (hroom : used + pieces (encChs cs).length ≤ cnt) (hm : m ≤ 50000) (hnu : nu ≤ 50000) (hn : n ≤ 50000) (hnc : nc ≤ 50000) (hp : pend ≤ 100000) :
    Calls Tryz.prog 53 #[.pointer (some ⟨bb, 0, none⟩), .slice A cs.length c0] w fun e w' => e = .returned (.int .i64 0) ∧ (∃ F' XL' XD' n' nc', BookP w' F' XL' XD' bb db sb lb pb tb mb hb N cnt (used + pieces (encChs cs).length) (nu + 1) (m + pieces (encChs cs).length) n' nc' (pend + 1) (layT T cs) ∧ n' ≤ n + 4 ∧ nc' ≤ nc + 4 ∧ (∀ k, F' k → F k ∨ w.heap.size ≤ k) ∧ (∀ k, XL' k → XL k ∨ w.heap.size ≤ k) ∧ (∀ k, XD' k → XD k ∨ w.heap.size ≤ k)) ∧ Chg (bookS XL XD bb mb hb) w w' := by
  have HA := Lib.hid hA
  have HOK := Lib.hid hc
  have HX := Lib.hid hX
  have HB := Lib.hid h
  have HND := Lib.hid hnd
  have c9 : w.cell? ⟨bb, 9, none⟩ = some (.bool false) := h.blk.cell 9
  have hw := wrong_any X A c0 cs hc (by omega) hnd w hA
  have HW := Lib.hid hw
  have hpos : 0 < cs.length := List.length_pos_iff.2 hne
  clear hA hc hX h hnd hw hne
  go_enter Tryz.func53, Tryz.ntmps53
  go_wp2_with fail
  refine HW.out.mono ?_
  rintro e w1 ⟨rfl, hb1⟩
  have HB1 := Lib.hid (HB.out.below hb1)
  have HBL1 := Lib.hid hb1
  clear hb1
  go_wp2_with fail
  go_loopw [6, 24] (fun sz s wr => ∃ k : Nat, sz = .int .i64 (sizeChs (cs.take k)) ∧ s = .int .i64 k ∧ k ≤ cs.length ∧ Below w1.heap.size w1 wr) (fun _ s _ => cs.length - (intOf s).toNat)
  case atStart => exact ⟨0, rfl, rfl, Nat.zero_le _, Below.refl _ _⟩
  case round =>
    obtain ⟨k, rfl, rfl, hk, hb⟩ := hrel
    have hz : sizeChs (cs.take k) ≤ 32256 := by
      have h1 := sizeChs_le (cs.take k) (fun l hl => HOK.out l (List.mem_of_mem_take hl))
      have h2 : (cs.take k).length ≤ cs.length := List.length_take_le' k cs
      omega
    obtain ⟨z, hzz⟩ : ∃ z, z = sizeChs (cs.take k) := ⟨_, rfl⟩
    rw [← hzz] at hz ⊢
    have HZ := Lib.hid hzz
    clear hzz
    by_cases hkl : k < cs.length
    · obtain ⟨c, hck⟩ : ∃ c, cs[k]? = some c := ⟨_, List.getElem?_eq_getElem hkl⟩
      have hok := HOK.out c (List.mem_of_getElem? hck)
      obtain ⟨b, off, rfl, hXb, hcell⟩ := HA.out (by intro h; simp [h] at hkl)
      obtain ⟨V, vc, q0, q1, q2, q3, q4⟩ := hcell k c hck
      have hcg := (Chg.of_below HBL1.out (fun _ => False)).trans (Chg.of_below (hb.mono (Nat.le_refl _)) (fun _ => False)) (fun _ _ h => h)
      have g0 := hcg.cell (a := ⟨b, off + k * 3, none⟩) (fun h => h) q0
      have g1 := hcg.cell (a := ⟨b, off + k * 3 + 1, none⟩) (fun h => h) q1
      have g2 := hcg.cell (a := ⟨b, off + k * 3 + 2, none⟩) (fun h => h) q2
      have hbl := World.block_lt_of_cell? wr _ g0
      simp only at hbl
      have k0 : (0 : Int) ≤ (k : Int) := by omega
      have k1 : (k : Int) < (cs.length : Int) := by omega
      have l1 := hok.key.2
      have l2 := hok.short
      obtain ⟨W2, hW2⟩ : ∃ W, W = wr.alloc (.cells #[.string c.key, .slice V c.val.length vc, .bool c.gone] 136) := ⟨_, rfl⟩
      have HB2 := Lib.hid (show Below w1.heap.size w1 W2 from hb.trans ((hW2 ▸ (Below.refl wr.heap.size wr).alloc (Nat.le_refl _) _ : Below wr.heap.size wr W2).mono hb.size))
      have HW2 := Lib.hid hW2
      obtain ⟨bx, hbx⟩ : ∃ bx, bx = wr.heap.size := ⟨_, rfl⟩
      have hblk : Blk W2 bx #[.string c.key, .slice V c.val.length vc, .bool c.gone] 136 := hW2 ▸ Blk.newAt hbx
      have d0 : W2.cell? ⟨bx, 0, none⟩ = some (.string c.key) := hblk.cell 0
      have d1 : W2.cell? ⟨bx, 1, none⟩ = some (.slice V c.val.length vc) := hblk.cell 1
      have HBX := Lib.hid hbx
      have HS := Lib.hid (sizeChs_take cs k c hck)
      clear hb hXb hcell q0 q1 q2 q3 q4 hcg hW2 hbx hblk hck hok
      go_upto_region 12 with fail
      rw [← HW2.out, ← HBX.out]
      go_wp2_with fail
      go_roundw
      case rel => exact ⟨k + 1, by rw [HS.out, ← HZ.out]; push_cast; rfl, by go_num, by omega, HB2.out⟩
      case measure => simp [intOf]; omega
    · obtain rfl : k = cs.length := by omega
      have HBR := Lib.hid hb
      have HBKR := Lib.hid (HB1.out.below hb)
      have HAR := Lib.hid ((HA.out.chg (Chg.of_below HBL1.out (fun _ => False)) (fun _ _ h => h)).chg (Chg.of_below hb (fun _ => False)) (fun _ _ h => h))
      have hsr := hb.size
      have hs1 := HBL1.out.size
      have HENC := Lib.hid (bookenc X A c0 cs HOK.out (by omega) wr HAR.out (fun j hj => by have := (HX.out j hj).2; omega))
      have t0 : decide ((40000 : Int) < (z : Int)) = false := decide_eq_false (by omega)
      have t0' : decide (40000 < z) = false := decide_eq_false (by omega)
      have t1 : ((cs.length : Int) == 0) = false := by rw [beq_eq_false_iff_ne]; omega
      clear hb HZ
      go_wp2_with fail
      refine HENC.out.mono ?_
      rintro e w4 ⟨A4, c4, rfl, ho4, hb4⟩
      have hk4 := HBKR.out.below hb4
      have hs4 := hb4.size
      have hle := encChs_length cs HOK.out
      have hr4 : ReadsOf (Value.int .u8) (0 : Int) w4 A4 (encChs cs).length (encChs cs) := by
        obtain ⟨A', c', he, hle, hr⟩ := own_reads_of_le (d := (0 : Int)) ho4
        injection he with he1 he2 he3
        subst he1 he3
        exact hr
      have HLA := Lib.hid (logappend XL XD hk4.ld lb db N m 2 cnt used nu hN hN2 A4 c4 (encChs cs) (by omega) (by omega) hroom hm hnu w4 hk4.log hk4.disk hr4 (own_le ho4) (fun a ha => by
        have h1 := own_base ho4 a.block (by rw [ha]; rfl)
        exact ⟨fun h => by have := HB.out.lt a.block (.inr (.inl h)); omega, fun h => by have := HB.out.lt a.block (.inr (.inr h)); omega⟩) (own_spot ho4) (fun j hj => hk4.lt j (.inr hj)))
      have d2 : w4.cell? ⟨bb, 2, none⟩ = some (.pointer (some ⟨lb, 0, none⟩)) := hk4.blk.cell 2
      have HK4 := Lib.hid hk4
      have HA4 := Lib.hid (HAR.out.chg (Chg.of_below hb4 (fun _ => False)) (fun _ _ h => h))
      have HB4 := Lib.hid hb4
      clear ho4 hb4 hk4 hr4
      go_wp2_with fail
      refine HLA.out.mono ?_
      rintro e w5 ⟨rfl, XL5, XD5, hL5, hD5, hld5, hxl5, hxd5, hc5⟩
      have hs5 := hc5.size
      have hSX : ∀ j, X j → ¬ (XL j ∨ XD j) := fun j hj h => (HX.out j hj).1 (by unfold bookS; rcases h with h | h <;> simp [h])
      have hk := HK4.out
      have hblk5 := hc5.blk hk.blk (fun h => by rcases h with h | h; exact hk.bl.1 h; exact hk.bl.2 h)
      have hmaps5 := hk.maps.chg hc5 (fun h => by rcases h with h | h; exact hk.bl.1 h; exact hk.bl.2 h) (fun h => by rcases h with h | h; exact hk.ml.1 h; exact hk.ml.2 h) (fun h => by rcases h with h | h; exact hk.hl.1 h; exact hk.hl.2 h) (fun j hj h => by rcases h with h | h; exact (hk.fl j hj).1 h; exact (hk.fl j hj).2.1 h)
      have HLAY := Lib.hid (lay_book X F bb mb hb n nc A c0 cs HOK.out (by omega) T (by omega) (by omega) w5 (HA4.out.chg hc5 hSX) hmaps5 (fun j hj => ⟨fun e => (HX.out j hj).1 (by unfold bookS; simp [e]), fun e => (HX.out j hj).1 (by unfold bookS; simp [e])⟩) ⟨fun hf => (hk.fl mb hf).2.2.2.1 rfl, fun hf => (hk.fl hb hf).2.2.2.2 rfl⟩ hk.bm)
      have HBLK5 := Lib.hid hblk5
      have HMAPS5 := Lib.hid hmaps5
      have HL5 := Lib.hid hL5.lt
      have HD5 := Lib.hid hD5.lt
      have HLD := Lib.hid hld5
      have HXL := Lib.hid hxl5
      have HXD := Lib.hid hxd5
      have HC5 := Lib.hid hc5
      clear hk hblk5 hmaps5 hL5 hD5 hld5 hxl5 hxd5 hc5 hSX
      go_wp2_with fail
      refine HLAY.out.mono ?_
      rintro e w6 ⟨rfl, ⟨n', nc', hn', hnc', hm6⟩, hc6⟩
      have hbm := HB.out.bm
      have hb6 := hc6.blk HBLK5.out (by omega)
      have d8 : w6.cell? ⟨bb, 8, none⟩ = some (.int .i64 pend) := hb6.cell 8
      have f8 := hb6.free 8
      have hl6 := hb6.lt
      have t3 : IntKind.i64.wrap ((pend : Int) + 1) = ((pend + 1 : Nat) : Int) := by rw [IntKind.wrap_i64]; omega
      have HM6 := Lib.hid hm6.lt
      have HC6 := Lib.hid hc6
      have HB6 := Lib.hid hb6
      clear hm6 hc6 hb6
      go_wp2_with fail
      go_ret
      refine ⟨rfl, commit_fin HB.out (HBL1.out.trans ((HBR.out.mono (Nat.le_refl _)).trans (HB4.out.mono hsr) |>.mono hs1)) HL5.out HD5.out HLD.out HXL.out HXD.out HC5.out HM6.out HC6.out HB6.out (by omega) (by omega)⟩
end Go.Proofs.YtlcdjgpblpodaaaGreatDoor
/-! ### 58. A guarded operation whose guard is known to want it: the same goal without the guard -/
namespace Go.Proofs.YtlcdjgpblpodaaaGreatDoorW.PrintWords
open Go.RowKit
section
variable {P : Program} {ops : Array Oper} {rest : List Oper} {o : Oper} {a : Act} {Q : Exit → Act → World → Prop} {W : World}
end
end Go.Proofs.YtlcdjgpblpodaaaGreatDoorW.PrintWords

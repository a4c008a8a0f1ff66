/- EngO, Full1, Shell3, Shell4, Shell5 -/
import Derived.Test.YtlcdjgpblpodaaaGreatDoorMBJ
import Derived.Test.YtlcdjgpblpodaaaGreatDoorMAP
import Derived.Shelf.Strings.BuilderF
namespace Go.Proofs.YtlcdjgpblpodaaaGreatDoor
open Go.RowKit Go.Maps Go.Proofs.YtlcdjgpblpodaaaGreatDoorW.PrintWords

theorem actr0_ok (k : ByteArray) (hk : KeyOk k) : ActOk k (actr0 k) := by
  refine ⟨⟨⟨?_, ?_, ?_, ?_, ?_, ?_⟩, ?_, ?_, ⟨hk, ?_, ?_, ?_⟩, ?_, ?_, ?_, ?_⟩, OutEnc.zero k hk, OutDec.zero k hk, rfl, fun _ => rfl⟩
  all_goals simp [actr0, jour0, outb0, U64, In64]
theorem fresh0 (k : ByteArray) : freshA (actr0 k) = true := by simp [freshA, actr0, jour0, outb0]
/-- The engine at the beginning. -/
def engn0 (room cnt db : Nat) : Engn := { room := room, ls := [], act := actr0, win := win0, q := 0, z := 0, cnt := cnt, NL := [], CL := [], db := db }
theorem engn0_ok (room cnt db : Nat) (hr : 1 ≤ room ∧ room ≤ 10000) : EngOk (engn0 room cnt db) :=
  ⟨fun k hk => actr0_ok k hk, (fun k h => by cases h), (by show 0 ≤ 1; omega), hr, ⟨(fun e h => by cases h), (by show 0 ≤ 1; omega)⟩⟩
open Classical in
/-- The labels of a new engine. -/
noncomputable def reg0 (eb bb mb hb ab cb wb : Nat) (XD XL XT : Nat → Prop) : Nat → Nat := fun k => if k = eb then 5 else if k = bb then 6 else if k = mb then 7 else if k = hb then 8 else if k = ab then 9 else if k = cb then 10 else if k = wb then 1 else if XD k then 3 else if XL k then 2 else if XT k then 4 else 0
structure EngNew (w0 w1 w2 w3 : World) (XD XL : Nat → Prop) (bb mb hb ab wb cb eb : Nat) : Prop where
  s1 : w0.heap.size ≤ w1.heap.size
  s2 : w1.heap.size ≤ w2.heap.size
  s3 : w2.heap.size ≤ ab ∧ ab < wb ∧ wb < cb ∧ cb < eb ∧ eb < w3.heap.size
  b : w0.heap.size ≤ bb ∧ bb < w1.heap.size ∧ w0.heap.size ≤ mb ∧ mb < w1.heap.size ∧ w0.heap.size ≤ hb ∧ hb < w1.heap.size
  bm : bb ≠ mb ∧ bb ≠ hb ∧ mb ≠ hb
  xd : ∀ k, XD k → k < w0.heap.size
  xl : ∀ k, XL k → w0.heap.size ≤ k ∧ k < w1.heap.size ∧ k ≠ bb ∧ k ≠ mb ∧ k ≠ hb
section
variable {w0 w1 w2 w3 : World} {XD XL : Nat → Prop} {bb mb hb ab wb cb eb : Nat}
theorem reg0_d (h : EngNew w0 w1 w2 w3 XD XL bb mb hb ab wb cb eb) (XT : Nat → Prop) {k : Nat} (hk : XD k) : reg0 eb bb mb hb ab cb wb XD XL XT k = 3 := by
  have h1 := h.xd k hk
  have h2 := h.s1; have h3 := h.s2; have h4 := h.s3; have h5 := h.b
  unfold reg0
  rw [if_neg (by omega), if_neg (by omega), if_neg (by omega), if_neg (by omega), if_neg (by omega), if_neg (by omega), if_neg (by omega), if_pos hk]
theorem reg0_l (h : EngNew w0 w1 w2 w3 XD XL bb mb hb ab wb cb eb) (XT : Nat → Prop) {k : Nat} (hk : XL k) : reg0 eb bb mb hb ab cb wb XD XL XT k = 2 := by
  have h1 := h.xl k hk
  have h2 := h.s1; have h3 := h.s2; have h4 := h.s3; have h5 := h.b
  unfold reg0
  rw [if_neg (by omega), if_neg (by omega), if_neg (by omega), if_neg (by omega), if_neg (by omega), if_neg (by omega), if_neg (by omega), if_neg (fun e => by have := h.xd k e; omega), if_pos hk]
theorem reg0_t (h : EngNew w0 w1 w2 w3 XD XL bb mb hb ab wb cb eb) {k : Nat} (hk : w1.heap.size ≤ k ∧ k < w2.heap.size) : reg0 eb bb mb hb ab cb wb XD XL (fun k => w1.heap.size ≤ k ∧ k < w2.heap.size) k = 4 := by
  have h2 := h.s1; have h3 := h.s2; have h4 := h.s3; have h5 := h.b
  unfold reg0
  rw [if_neg (by omega), if_neg (by omega), if_neg (by omega), if_neg (by omega), if_neg (by omega), if_neg (by omega), if_neg (by omega), if_neg (fun e => by have := h.xd k e; omega), if_neg (fun e => by have := h.xl k e; omega), if_pos hk]
theorem reg0_lt (h : EngNew w0 w1 w2 w3 XD XL bb mb hb ab wb cb eb) {k : Nat} (hk : reg0 eb bb mb hb ab cb wb XD XL (fun k => w1.heap.size ≤ k ∧ k < w2.heap.size) k ≠ 0) : k < w3.heap.size ∧ (k < w0.heap.size → XD k) := by
  have h2 := h.s1; have h3 := h.s2; have h4 := h.s3; have h5 := h.b
  unfold reg0 at hk
  by_cases e1 : k = eb; · omega
  by_cases e2 : k = bb; · omega
  by_cases e3 : k = mb; · omega
  by_cases e4 : k = hb; · omega
  by_cases e5 : k = ab; · omega
  by_cases e6 : k = cb; · omega
  by_cases e7 : k = wb; · omega
  by_cases e8 : XD k
  · have := h.xd k e8
    exact ⟨by omega, fun _ => e8⟩
  by_cases e9 : XL k
  · have := h.xl k e9
    omega
  by_cases e10 : w1.heap.size ≤ k ∧ k < w2.heap.size
  · omega
  rw [if_neg e1, if_neg e2, if_neg e3, if_neg e4, if_neg e5, if_neg e6, if_neg e7, if_neg e8, if_neg e9, if_neg e10] at hk
  exact absurd rfl hk
theorem reg0_one (h : EngNew w0 w1 w2 w3 XD XL bb mb hb ab wb cb eb) (XT : Nat → Prop) : reg0 eb bb mb hb ab cb wb XD XL XT eb = 5 ∧ reg0 eb bb mb hb ab cb wb XD XL XT bb = 6 ∧ reg0 eb bb mb hb ab cb wb XD XL XT mb = 7 ∧ reg0 eb bb mb hb ab cb wb XD XL XT hb = 8 ∧ reg0 eb bb mb hb ab cb wb XD XL XT ab = 9 ∧ reg0 eb bb mb hb ab cb wb XD XL XT cb = 10 ∧ reg0 eb bb mb hb ab cb wb XD XL XT wb = 1 := by
  have h2 := h.s1; have h3 := h.s2; have h4 := h.s3; have h5 := h.b; have h6 := h.bm
  unfold reg0
  refine ⟨by rw [if_pos rfl], by rw [if_neg (by omega), if_pos rfl], by rw [if_neg (by omega), if_neg (by omega), if_pos rfl], by rw [if_neg (by omega), if_neg (by omega), if_neg (by omega), if_pos rfl], by rw [if_neg (by omega), if_neg (by omega), if_neg (by omega), if_neg (by omega), if_pos rfl], by rw [if_neg (by omega), if_neg (by omega), if_neg (by omega), if_neg (by omega), if_neg (by omega), if_pos rfl], by rw [if_neg (by omega), if_neg (by omega), if_neg (by omega), if_neg (by omega), if_neg (by omega), if_neg (by omega), if_pos rfl]⟩
end
/-- The new engine, in memory. -/
theorem engnew_at {w0 w1 w2 w3 : World} {XD XL : Nat → Prop} {bb db sb lb pb tb mb hb tt ab wb cb qb eb N cnt room : Nat} (h : EngNew w0 w1 w2 w3 XD XL bb mb hb ab wb cb eb) (hbk : BookP w3 (fun _ => False) XL XD bb db sb lb pb tb mb hb N cnt 0 0 0 0 0 0 (fun _ => none))
    (ht : TabAt w3 (fun k => w1.heap.size ≤ k ∧ k < w2.heap.size) tt room []) (hm : MapAt w3 9 ab 0 (fun _ => none)) (hc : CntAt w3 cb) (hw : WinAt 0 w3 (fun k => k = wb) wb win0) (hr : 1 ≤ room ∧ room ≤ 10000) (hN : 2 + cnt ≤ N ∧ N ≤ 65536)
    (he : Blk w3 eb #[.pointer (some ⟨bb, 0, none⟩), .pointer (some ⟨tt, 0, none⟩), .map (some ab), .pointer (some ⟨qb, 0, none⟩), .pointer (some ⟨wb, 0, none⟩), .int .i64 0, .slice none 0 0, .slice none 0 0, .pointer (some ⟨cb, 0, none⟩), .bool false] 87) :
    EngAt w3 (reg0 eb bb mb hb ab cb wb XD XL (fun k => w1.heap.size ≤ k ∧ k < w2.heap.size)) eb (engn0 room cnt db) := by
  obtain ⟨r1, r2, r3, r4, r5, r6, r7⟩ := reg0_one h (fun k => w1.heap.size ≤ k ∧ k < w2.heap.size)
  have ne : ∀ k, reg0 eb bb mb hb ab cb wb XD XL (fun k => w1.heap.size ≤ k ∧ k < w2.heap.size) k ≤ 4 → k ≠ bb ∧ k ≠ mb ∧ k ≠ hb := fun k hk => by
    refine ⟨fun e => ?_, fun e => ?_, fun e => ?_⟩ <;> subst e <;> omega
  refine ⟨engn0_ok room cnt db hr, { eb := eb, bb := bb, db := db, sb := sb, lb := lb, pb := pb, tb := tb, mb := mb, hb := hb, tt := tt, ab := ab, wb := wb, cb := cb, qb := qb, N := N, cnt := cnt, used := 0, nu := 0, m := 0, n := 0, nc := 0, pend := 0, na := 0, nC := 0, kC := 0, room := room, NA := none, KA := none, T := fun _ => none, g := fun _ => none, ls := [], win := win0, NL := [], CL := [] }, rfl,
    ⟨he, hbk.relab (fun k e => e.elim) (fun k e => reg0_l h _ e) (fun k e => reg0_d h _ e) (fun k e => ⟨by omega, by omega, ne k (by omega)⟩) (fun k e => ⟨by omega, ne k (by omega)⟩) (fun k e => ne k (by omega)) (fun k e => (reg0_lt h (by omega)).1), ht.mono (fun k e => reg0_t h e), hm, hc, hw.mono (fun k e => by subst e; exact r7) (by omega), ReadsOf.nil _ _ _, fun e => by simp at e, (fun a e => by cases e), (fun a e => by cases e), r1, r2, r3, r4, r5, r6, fun k e => (reg0_lt h e).1⟩,
    ⟨rfl, rfl, rfl, rfl, rfl, rfl, rfl, hN, ⟨by simp, by simp, by simp, by simp, by simp, by simp, by simp⟩, fun k hk => ?_, fun k hk => ⟨(fun e => by cases e), fun _ => rfl⟩⟩⟩
  show none = if freshA (actr0 k) then none else some (encAct (actr0 k))
  rw [fresh0]; rfl

set_option maxRecDepth 100000 in
set_option maxHeartbeats 2000000 in
theorem engopen (X : Nat → Prop) (db n room : Nat) (h24 : 24 ≤ n) (hn : n ≤ 65536) (hr : 1 ≤ room ∧ room ≤ 10000) (w : World) (h : DiskAt true w X db n 0) (hX : ∀ k, X k → k < w.heap.size) :
    Calls Tryz.prog 7 #[.pointer (some ⟨db, 0, none⟩), .int .i64 room] w fun e w' => ∃ eb reg, e = .returned (.tuple #[.pointer (some ⟨eb, 0, none⟩), .int .i64 0]) ∧ EngAt w' reg eb (engn0 room (n / 4) db) ∧ (∀ k, k < w.heap.size → reg k ≠ 0 → X k) ∧ Below w.heap.size w w' := by
  have hmm := @run_makeMap Tryz.prog
  have HO := Lib.hid (bookopen X db n h24 hn w h hX)
  have HX := Lib.hid hX
  clear h hX
  go_enter Tryz.func7, Tryz.ntmps7
  go_wp2_with fail
  refine HO.out.mono ?_
  rintro e w1 ⟨bb, sb, lb, pb, tb, mb, hb, XL, rfl, hbk, hxl, hbb, hmb, hhb, hb1⟩
  have HBK := Lib.hid hbk
  have HXL := Lib.hid hxl
  have HB1 := Lib.hid hb1
  have HBB := Lib.hid (show w.heap.size ≤ bb ∧ w.heap.size ≤ mb ∧ w.heap.size ≤ hb from ⟨hbb, hmb, hhb⟩)
  clear hbk hxl hbb hmb hhb hb1
  go_wp2_with fail
  refine (newtable room hr.1 hr.2 w1).mono ?_
  rintro e w2 ⟨rfl, ht2, hb2⟩
  have HT2 := Lib.hid ht2.lt
  have HB2 := Lib.hid hb2
  clear ht2 hb2
  go_wp2_with fail
  refine (newqueue (w2.alloc (.map #[] 0))).mono ?_
  rintro e w3 ⟨rfl, hw3⟩
  have HW3 := Lib.hid hw3
  clear hw3
  go_wp2_with fail
  refine (newwin w3).mono ?_
  rintro e w4 ⟨rfl, hw4⟩
  have HW4 := Lib.hid hw4
  clear hw4
  go_wp2_with fail
  refine (newcounts w4).mono ?_
  rintro e w5 ⟨rfl, hw5⟩
  have HW5 := Lib.hid hw5
  clear hw5
  go_upto_region 5 with fail
  obtain ⟨ab, hab⟩ : ∃ b, b = w2.heap.size := ⟨_, rfl⟩
  obtain ⟨qb, hqb⟩ : ∃ b, b = w2.heap.size + 1 := ⟨_, rfl⟩
  obtain ⟨wb, hwb⟩ : ∃ b, b = w3.heap.size := ⟨_, rfl⟩
  obtain ⟨cb, hcb⟩ : ∃ b, b = w4.heap.size := ⟨_, rfl⟩
  obtain ⟨eb, heb⟩ : ∃ b, b = w5.heap.size := ⟨_, rfl⟩
  rw [← hqb, ← hab, ← hwb, ← hcb, ← heb]
  obtain ⟨W6, hW6⟩ : ∃ W, W = w5.alloc (.cells #[.pointer (some ⟨bb, 0, none⟩), .pointer (some ⟨w1.heap.size, 0, none⟩), .map (some ab), .pointer (some ⟨qb, 0, none⟩), .pointer (some ⟨wb, 0, none⟩), .int .i64 0, .slice none 0 0, .slice none 0 0, .pointer (some ⟨cb, 0, none⟩), .bool false] 87) := ⟨_, rfl⟩
  rw [← hW6]
  have e3 := HW3.out
  have e4 := HW4.out
  have e5 := HW5.out
  have s3 : w3.heap.size = w2.heap.size + 2 := by rw [e3]; simp
  have s4 : w4.heap.size = w3.heap.size + 1 := by rw [e4]; simp
  have s5 : w5.heap.size = w4.heap.size + 1 := by rw [e5]; simp
  have s6 : W6.heap.size = w5.heap.size + 1 := by rw [hW6]; simp
  have b23 : Below w2.heap.size w2 w3 := e3 ▸ ((Below.refl _ _).alloc (Nat.le_refl _) _).alloc (by simp) _
  have b34 : Below w3.heap.size w3 w4 := e4 ▸ (Below.refl _ _).alloc (Nat.le_refl _) _
  have b45 : Below w4.heap.size w4 w5 := e5 ▸ (Below.refl _ _).alloc (Nat.le_refl _) _
  have b56 : Below w5.heap.size w5 W6 := hW6 ▸ (Below.refl _ _).alloc (Nat.le_refl _) _
  have b46 := b45.trans (b56.mono (by omega))
  have b36 := b34.trans (b46.mono (by omega))
  have b26 := b23.trans (b36.mono (by omega))
  have b16 := HB2.out.trans (b26.mono HB2.out.size)
  have hs1 := HB1.out.size
  have hs2 := HB2.out.size
  have hm : MapAt W6 9 ab 0 (fun _ => none) := by
    have h1 := (MapAt.new w2 9)
    rw [hab]
    refine (h1.below (w' := w3) ?_).below b36
    rw [e3]; exact (Below.refl _ _).alloc (Nat.le_refl _) _
  have hw : WinAt 0 W6 (fun k => k = wb) wb win0 := by
    refine ⟨rfl, ?_⟩
    have h1 : Blk w4 wb #[.map none, .slice none 0 0] 194 := e4 ▸ Blk.newAt hwb
    exact h1.below b46
  have hc : CntAt W6 cb := by
    have h1 : CntAt w5 cb := by rw [e5, hcb]; exact CntAt.new w4
    exact h1.chg (Chg.of_below b56 (fun _ => False)) (fun h => h)
  have he : Blk W6 eb #[.pointer (some ⟨bb, 0, none⟩), .pointer (some ⟨w1.heap.size, 0, none⟩), .map (some ab), .pointer (some ⟨qb, 0, none⟩), .pointer (some ⟨wb, 0, none⟩), .int .i64 0, .slice none 0 0, .slice none 0 0, .pointer (some ⟨cb, 0, none⟩), .bool false] 87 := hW6 ▸ Blk.newAt heb
  have hbk := HBK.out
  have hmt := hbk.maps.tbl.choose_spec.1.lt
  have hht := hbk.maps.chd.choose_spec.lt
  have hbt := hbk.blk.lt
  have hbb := HBB.out
  have HNEW := Lib.hid (show EngNew w w1 w2 W6 X XL bb mb hb ab wb cb eb from ⟨hs1, hs2, by omega, by omega, hbk.bm, HX.out, fun k hk => ⟨HXL.out k hk, hbk.lt k (.inr (.inl hk)), fun e => hbk.bl.1 (e ▸ hk), fun e => hbk.ml.1 (e ▸ hk), fun e => hbk.hl.1 (e ▸ hk)⟩⟩)
  have hE := engnew_at (qb := qb) (N := n) (cnt := n / 4) HNEW.out (hbk.below b16) (HT2.out.chg (Chg.of_below b26 (fun _ => False)) (fun _ _ h => h)) hm hc hw hr (by omega) he
  have HE := Lib.hid hE
  have HK6 := Lib.hid (hbk.below b16)
  have HM6 := Lib.hid ((hbk.below b16).maps.tbl)
  have HB6 := Lib.hid (HB1.out.trans (b16.mono hs1))
  have x0 : W6.cell? ⟨eb, 0, none⟩ = some (.pointer (some ⟨bb, 0, none⟩)) := he.cell 0
  have HX0 := Lib.hid x0
  clear hab hqb hwb hcb heb hW6 e3 e4 e5 s3 s4 s5 s6 b23 b34 b45 b56 b46 b36 b26 b16 hm hw hc he hbk hE x0
  go_wp2_with fail
  refine (get_none (fun _ => False) bb mb 0 (fun _ => none) ⟨#[99]⟩ (by show 1 ≤ 1000; omega) rfl W6 HK6.out.maps.c6 HK6.out.maps.tbl).mono ?_
  rintro e v0 ⟨A0, c0, rfl, hv0⟩
  have HV0 := Lib.hid hv0
  clear hv0
  go_wp2_with fail
  refine (get_none (fun _ => False) bb mb 0 (fun _ => none) ⟨#[112]⟩ (by show 1 ≤ 1000; omega) rfl v0 (HK6.out.maps.below HV0.out).c6 (HK6.out.maps.below HV0.out).tbl).mono ?_
  rintro e v1 ⟨A1, c1, rfl, hv1⟩
  have HV1 := Lib.hid (HV0.out.trans (hv1.mono HV0.out.size))
  clear hv1
  go_wp2_with fail
  refine (get_none (fun _ => False) bb mb 0 (fun _ => none) ⟨#[114]⟩ (by show 1 ≤ 1000; omega) rfl v1 (HK6.out.maps.below HV1.out).c6 (HK6.out.maps.below HV1.out).tbl).mono ?_
  rintro e v2 ⟨A2, c2, rfl, hv2⟩
  have HV2 := Lib.hid (HV1.out.trans (hv2.mono HV1.out.size))
  clear hv2
  go_wp2_with fail
  refine (get_none (fun _ => False) bb mb 0 (fun _ => none) ⟨#[119]⟩ (by show 1 ≤ 1000; omega) rfl v2 (HK6.out.maps.below HV2.out).c6 (HK6.out.maps.below HV2.out).tbl).mono ?_
  rintro e v3 ⟨A3, c3, rfl, hv3⟩
  have HV3 := Lib.hid (HV2.out.trans (hv3.mono HV2.out.size))
  clear hv3
  obtain ⟨f6, hf6, _⟩ := HM6.out
  have HKY := Lib.hid (engkeys_none eb bb mb f6 v3 ((Chg.of_below HV3.out (fun _ => False)).cell (a := ⟨eb, 0, none⟩) (fun h => h) HX0.out) (HK6.out.maps.below HV3.out).c6 (hf6.below HV3.out))
  clear hf6
  go_wp2_with fail
  refine HKY.out.mono ?_
  rintro e v4 ⟨rfl, hv4⟩
  have HV4 := Lib.hid (HV3.out.trans (hv4.mono HV3.out.size))
  clear hv4
  go_wp2_with fail
  refine wp_loop_rounds 1 ?_
  rw [rounds_succ]
  go_wp2_with fail
  go_ret2
  refine ⟨eb, _, rfl, HE.out.below HV4.out, fun k hk h0 => (reg0_lt HNEW.out h0).2 hk, HB6.out.trans (HV4.out.mono HB6.out.size)⟩
end Go.Proofs.YtlcdjgpblpodaaaGreatDoor
namespace Go.Proofs.YtlcdjgpblpodaaaGreatDoor
open Go.RowKit Go.Maps Go.Proofs.YtlcdjgpblpodaaaGreatDoorW.PrintWords

def kA : ByteArray := ⟨#[97]⟩
theorem kA_ok : KeyOk kA := by unfold KeyOk; exact ⟨by decide, by decide⟩
/-- The actor, with letters that wait. -/
def inA (ls : List Let) : Actr := { actr0 kA with inbox := ls }
theorem inA_ok (ls : List Let) (h : ∀ l ∈ ls, l.Ok) (h8 : ls.length ≤ 8) : ActOk kA (inA ls) := by
  obtain ⟨h1, h2, h3, h4, _⟩ := actr0_ok kA kA_ok
  refine ⟨⟨h1.jour, h, h8, h1.outb, h1.tries, .inl rfl, h1.poison, h1.few⟩, h2, h3, h4, fun hf => ?_⟩
  have : ls = [] := by
    simp [freshA, inA] at hf
    exact hf.2.1
  subst this
  rfl
theorem inA_len (ls : List Let) (h : ∀ l ∈ ls, l.Ok) (h8 : ls.length ≤ 8) : (encChn (chOf (inA ls))).length ≤ 1200 := by
  have h1 := (encChn_length _ (chOf_ok (inA ls) (inA_ok ls h h8).1 kA_ok)).2
  have h2 := encAct_length (inA ls) (inA_ok ls h h8).1
  have e1 : (chOf (inA ls)).key.size = 2 := by show (akey kA).size = 2; rw [akey_size]; rfl
  have e2 : (chOf (inA ls)).val.length = (encAct (inA ls)).length := rfl
  have e3 : (inA ls).jour.events.length = 0 := rfl
  have e4 : (inA ls).inbox.length = ls.length := rfl
  have e5 : (inA ls).outb.serials.length = 0 := rfl
  have e6 : (inA ls).poison.length = 0 := rfl
  omega
theorem winCh_len (W : Win) (h : W.Ok) : (encChn (winCh W)).length ≤ 91 := by
  have h1 := (encChn_length _ (winCh_ok W h)).2
  have h2 := encWin_length W h
  have e1 : (winCh W).key.size = 1 := rfl
  have e2 : (winCh W).val.length = (encWin W).length := rfl
  omega
theorem encChs_two (a b : Chn) : (encChs [a, b]).length = (encChn a).length + (encChn b).length := by simp [encChs]
theorem encChs_one (a : Chn) : (encChs [a]).length = (encChn a).length := by simp [encChs]
theorem seen_none (W : Win) (i c : Nat) (h : ∀ e ∈ W.rows, e.1 = c ∧ ∀ x ∈ e.2, x < i) : seenW W i = false := by
  obtain ⟨rows⟩ := W
  match rows with
  | [] => rfl
  | (c', xs) :: r =>
    simp only [seenW, ints, List.any_map, List.any_eq_false]
    intro x hx
    have := (h (c', xs) (by simp)).2 x hx
    simp
    omega
theorem addW_lt (W : Win) (c i : Nat) (h : ∀ e ∈ W.rows, e.1 = c ∧ ∀ x ∈ e.2, x < i) : ∀ e ∈ (addW W c i).rows, e.1 = c ∧ ∀ x ∈ e.2, x < i + 1 := by
  obtain ⟨rows⟩ := W
  match rows with
  | [] =>
    intro e he
    obtain rfl : e = (c, [i]) := by simpa [addW] using he
    exact ⟨rfl, fun x hx => by rw [List.mem_singleton.1 hx]; omega⟩
  | (c', xs) :: r =>
    intro e he
    obtain rfl : e = (c, (xs ++ [i]).drop (xs.length + 1 - 4)) := by simpa [addW] using he
    refine ⟨rfl, fun x hx => ?_⟩
    rcases List.mem_append.1 (List.mem_of_mem_drop hx) with hx | hx
    · have := (h (c', xs) (by simp)).2 x hx; omega
    · rw [List.mem_singleton.1 hx]; omega
/-- What the law knows of the engine: behind the offers below i. -/
structure FullE (E : Engn) (i q z : Nat) (ls : List Let) : Prop where
  room : E.room = 1
  cnt : E.cnt = 2000
  NL : E.NL = []
  CL : E.CL = []
  res : E.ls = [] ∨ E.ls = [kA]
  act : E.act kA = inA ls
  oks : ∀ l ∈ ls, l.Ok
  win : ∀ e ∈ E.win.rows, e.1 = 1 ∧ ∀ x ∈ e.2, x < i
  q : E.q ≤ q
  z : E.z ≤ z
theorem FullE.hls {E : Engn} {i q z : Nat} {ls : List Let} (h : FullE E i q z ls) : E.ls = [] ∨ E.ls = [kA] ∨ ∃ j, E.ls = [j] ∧ j ≠ kA ∧ E.room = 1 := h.res.elim .inl (fun e => .inr (.inl e))
theorem offL_ok (i : Nat) (kind : Int) (hi : U64 i) (hk : In64 kind) : (offL i kind []).Ok := ⟨by show 0 ≤ 40; omega, hi, hk, by show 0 ≤ 4; omega, fun _ h => by cases h⟩
end Go.Proofs.YtlcdjgpblpodaaaGreatDoor
namespace Go.Proofs.YtlcdjgpblpodaaaGreatDoor
open Go.RowKit Go.Proofs.YtlcdjgpblpodaaaGreatDoorW.PrintWords

set_option maxRecDepth 100000 in
set_option maxHeartbeats 1000000 in
theorem wbyte_fresh (b : Nat) (c : Int) (w : World) (h : Blk w b #[.pointer none, .slice none 0 0] 405) : Calls Tryz.prog 251 #[.pointer (some ⟨b, 0, none⟩), .int .u8 c] w fun e w' => e = .returned .nilIface ∧ Lib.BuilderAt 405 5 b b (.pointer (some ⟨b, 0, none⟩)) [.int .u8 c] w' ∧ Below b w w' := by
  obtain ⟨i0, hi, hz0, hz1, hz2⟩ := info_parts info5
  obtain ⟨W1, hW1⟩ : ∃ W, W = w.setCell ⟨b, 0, none⟩ (.pointer (some ⟨b, 0, none⟩)) := ⟨_, rfl⟩
  have hb1 : Blk W1 b #[.pointer (some ⟨b, 0, none⟩), .slice none 0 0] 405 := by rw [hW1]; exact h.set 0 _
  have c1 : W1.cell? ⟨b, 1, none⟩ = some (.slice none 0 0) := hb1.cell 1
  have f1 := hb1.free 1
  have l1 := hb1.lt
  have HB := Lib.hid hb1
  have HBW := Lib.hid (show Below b w W1 from hW1 ▸ (Below.refl b w).setCell (p := ⟨b, 0, none⟩) (Nat.le_refl b) _)
  have HH := Lib.hid h
  have HW1 := Lib.hid hW1
  clear h hW1 hb1
  go_enter Tryz.func251, Tryz.ntmps251
  go_wp2_with fail
  refine (copycheck_fresh b w HH.out).mono ?_
  rintro e w1 ⟨rfl, hw1⟩
  rw [← HW1.out] at hw1
  subst hw1
  go_wp2_with (at_builtin
               refine wpList_append_lies _ rfl _ _ 88 rfl b 5 i0 (.int .u8 0) 1 1 Tryz.underlying88 hi hz0 hz1 hz2 rfl (by decide) _ 0 [] rfl (own_nil _ _ _ _) ⟨w1.heap.size, 0, none⟩ 1 1 [.int .u8 c] rfl rfl (cell_one_new _ _ _) (ints_oneCell .u8 [c]) (by decide) (by unfold maxLen; omega) (by omega) (by simp; omega) (w1.heap.size + 1) (by simp) ?_
               intro g cap w2 ho2 hg2 hat2 hlt2
               have hb2 : Blk w2 b #[.pointer (some ⟨b, 0, none⟩), .slice none 0 0] 405 := (hg2.block b (by simp; omega) (fun e => by cases e)).trans (HB.out.alloc _)
               have c1' : w2.cell? ⟨b, 1, none⟩ = some (.slice none 0 0) := hb2.cell 1
               have f1' : w2.frozen? ⟨b, 1, none⟩ = false := hb2.free 1
               have l1' := hb2.lt
               have HB2 := Lib.hid hb2
               have HO2 := Lib.hid ho2
               have HG2 := Lib.hid hg2
               have HAT := Lib.hid hat2
               clear hb2 ho2 hg2 hat2 hlt2)
  go_ret
  have hgb : g ≠ b := by
    rcases HAT.out with e | e
    · cases e
    · omega
  have hb3 : Blk (w2.setCell ⟨b, 1, none⟩ (.slice (some ⟨g, 0, none⟩) 1 cap)) b #[.pointer (some ⟨b, 0, none⟩), .slice (some ⟨g, 0, none⟩) 1 cap] 405 := HB2.out.set 1 _
  have hbel : Below b w1 w2 := ((Below.refl b w1).alloc (by omega) (.cells #[.int .u8 c] 5)).grown HG2.out (by simp; omega) (fun k e => by cases e)
  exact ⟨rfl, ⟨Nat.le_refl b, _, hb3, own_setCell HO2.out (by simp [Value.ownBlock]; exact fun e => hgb e.symm) _, by simp [Value.ownBlock]; exact hgb⟩, (HBW.out.trans hbel).setCell (p := ⟨b, 1, none⟩) (Nat.le_refl b) _⟩
theorem string_of (b : Nat) (x : UInt8) (w : World) (h : Lib.IsBuilderF 405 5 b b (Lib.byteCells [x]) w) : Calls Tryz.prog 252 #[.pointer (some ⟨b, 0, none⟩)] w fun e w' => e = .returned (.string ⟨#[x]⟩) ∧ Lib.IsBuilderF 405 5 b b (Lib.byteCells [x]) w' ∧ Below b w w' :=
  Any.Builder_String_f Tryz.lString Tryz.lString_extra b b [x] w h (by simp)
end Go.Proofs.YtlcdjgpblpodaaaGreatDoor
namespace Go.Proofs.YtlcdjgpblpodaaaGreatDoor
open Go.RowKit Go.Proofs.YtlcdjgpblpodaaaGreatDoorW.PrintWords

def hexB : ByteArray := ⟨#[48, 49, 50, 51, 52, 53, 54, 55, 56, 57, 97, 98, 99, 100, 101, 102]⟩
theorem index_hex (c v : Int) (h : Lib.indexByte hexB.data.toList c.toNat.toUInt8 = v) (w : World) : Calls Tryz.prog 250 #[.string hexB, .int .u8 c] w fun e w' => e = .returned (.int .i64 v) ∧ w = w' :=
  (Any.strings_IndexByte Tryz.lIndexByte hexB c w).mono fun e w' ⟨h1, h2⟩ => ⟨by rw [h1, h], h2.symm⟩
set_option maxRecDepth 100000 in
set_option maxHeartbeats 1000000 in
theorem unhex_a (w : World) : Calls Tryz.prog 193 #[.string ⟨#[54, 49]⟩] w fun e w' => e = .returned (.tuple #[.string kA, .bool true]) ∧ Below w.heap.size w w' := by
  have H6 := Lib.hid (index_hex 54 6 (by kernel_rfl))
  have H1 := Lib.hid (index_hex 49 1 (by kernel_rfl))
  unfold hexB at H6 H1
  obtain ⟨b, hb⟩ : ∃ b, b = w.heap.size := ⟨_, rfl⟩
  obtain ⟨W1, hW1⟩ : ∃ W, W = w.alloc (.cells #[.pointer none, .slice none 0 0] 405) := ⟨_, rfl⟩
  have HBW := Lib.hid (show Below w.heap.size w W1 from hW1 ▸ (Below.refl _ _).alloc (Nat.le_refl _) _)
  have HBK := Lib.hid (show Blk W1 b #[.pointer none, .slice none 0 0] 405 from hW1 ▸ Blk.newAt hb)
  have HW1 := Lib.hid hW1
  have HB := Lib.hid hb
  have v1 : IntKind.i64.wrap 1 = 1 := by decide
  have v2 : bits BinOp.or IntKind.i64 96 1 = 97 := by decide
  have v3 : IntKind.i64.wrap 2 = 2 := by decide
  clear hW1 hb
  go_enter Tryz.func193, Tryz.ntmps193
  go_upto_region 4 with fail
  rw [← HW1.out, ← HB.out]
  go_wp2_with fail
  refine wp_loop_rounds 2 ?_
  rw [rounds_succ]
  go_upto_region 7 with fail
  go_region_held3 (fun _ => True) (first | exact trivial)
    (first
      | (go_at_call 250
         refine (H6.out _).mono ?_
         rintro e w2 ⟨rfl, rfl⟩)
      | (go_at_call 250
         refine (H1.out _).mono ?_
         rintro e w2 ⟨rfl, rfl⟩))
  rename_i hHeld
  clear hHeld
  go_wp2_with fail
  all_goals
    refine (wbyte_fresh b 97 W1.drew (show Blk W1.drew b _ 405 from HBK.out)).mono ?_
    rintro e w3 ⟨rfl, hbd, hb3⟩
    have HBD := Lib.hid hbd
    have HB3 := Lib.hid (show Below w.heap.size w w3 from (HBW.out.drew).trans (hb3.mono (by rw [HB.out]; exact Nat.le_refl _)))
    clear hbd hb3
    go_wp2_with fail
    rw [rounds_succ]
    go_wp2_with fail
    refine (string_of b 97 w3 (.inr (Lib.BuilderAtF.of HBD.out))).mono ?_
    rintro e w4 ⟨rfl, hbf, hb4⟩
    have HBF := Lib.hid hbf
    have HB4 := Lib.hid (show Below w.heap.size w w4 from HB3.out.trans (by have := HB.out; rw [this] at hb4; exact hb4))
    clear hbf hb4
    go_wp2_with fail
    refine (string_of b 97 w4 HBF.out).mono ?_
    rintro e w5 ⟨rfl, -, hb5⟩
    have HB5 := Lib.hid (show Below w.heap.size w w5 from HB4.out.trans (by have := HB.out; rw [this] at hb5; exact hb5))
    clear hb5
    go_wp2_with fail
    refine (key_any ⟨#[97]⟩ kA_ok w5).mono ?_
    rintro e w6 ⟨rfl, rfl⟩
    go_wp2_with fail
    go_ret2
    exact ⟨rfl, HB5.out⟩
end Go.Proofs.YtlcdjgpblpodaaaGreatDoor
namespace Go.Proofs.YtlcdjgpblpodaaaGreatDoor
open Go.RowKit Go.Proofs.YtlcdjgpblpodaaaGreatDoorW.PrintWords

def lineB : ByteArray := ⟨#[111, 102, 102, 101, 114, 32, 49, 32, 49, 32, 54, 49, 32, 48, 32, 53]⟩
def offerB : ByteArray := ⟨#[111, 102, 102, 101, 114]⟩
/-- The library's variable that Split's search reads holds an integer. -/
def MaxLenAt (w : World) : Prop := ∃ m, w.cell? ⟨Tryz.lSplit_ren.g 1, 0, none⟩ = some (.int .i64 m)
theorem MaxLenAt.below {w w' : World} (h : MaxLenAt w) (hb : Below w.heap.size w w') : MaxLenAt w' := by
  obtain ⟨m, hm⟩ := h
  exact ⟨m, pw_cell_below hb hm⟩
def wordsC : Array Value := #[.string offerB, .string ⟨#[49]⟩, .string ⟨#[49]⟩, .string ⟨#[54, 49]⟩, .string ⟨#[48]⟩, .string ⟨#[53]⟩]
theorem split_line (w : World) (h : MaxLenAt w) : Calls Tryz.prog 189 #[.string lineB, .string ⟨#[32]⟩] w fun e w' => e = .returned (.slice (some ⟨w.heap.size, 0, none⟩) 6 6) ∧ w' = w.alloc (.cells wordsC 9) := by
  obtain ⟨m, hm⟩ := h
  have h1 := Any.strings_Split { Tryz.lSplit with } Tryz.lSplit.i9 lineB ⟨#[32]⟩ m w (by show 16 < 4294967281; omega) hm (by show 1 ≤ 1; omega)
  have e1 : Lib.countB lineB ⟨#[32]⟩ = 5 := by kernel_rfl
  have e2 : ((Lib.splitB ⟨#[32]⟩ 0 5 lineB).map Value.string).toArray = wordsC := by kernel_rfl
  rw [e1, e2] at h1
  exact h1
end Go.Proofs.YtlcdjgpblpodaaaGreatDoor

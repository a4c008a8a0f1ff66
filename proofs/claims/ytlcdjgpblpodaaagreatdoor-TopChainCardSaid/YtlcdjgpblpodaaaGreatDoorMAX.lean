/- Book3, Book4, Book5, Book6 -/
import Derived.Test.YtlcdjgpblpodaaaGreatDoorMAW
namespace Go.Proofs.YtlcdjgpblpodaaaGreatDoor
open Go.RowKit Go.Maps Go.Proofs.YtlcdjgpblpodaaaGreatDoorW.PrintWords

/-- The table of the book: at most n entries; its values lie in F, and do not turn. -/
def TblAt (w : World) (F : Nat → Prop) (mb n : Nat) (T : ByteArray → Option (List Int)) : Prop :=
  ∃ f, MapAt w 9 mb n f ∧ ∀ k, match T k with
    | none => f (litS k) = none
    | some bs => ∃ V vc, f (litS k) = some (.slice V bs.length vc) ∧ ReadsOf (Value.int .u8) (0 : Int) w V bs.length bs ∧ (∀ a, V = some a → F a.block ∧ a.spot = none) ∧ bs.length ≤ 100000 ∧ 1 ≤ bs.length
theorem TblAt.chg {S F : Nat → Prop} {w w' : World} {mb n : Nat} {T : ByteArray → Option (List Int)} (h : TblAt w F mb n T) (hc : Chg S w w') (hm : ¬ S mb) (hF : ∀ k, F k → ¬ S k) : TblAt w' F mb n T := by
  obtain ⟨f, h1, h2⟩ := h
  refine ⟨f, h1.chg hc hm, fun k => ?_⟩
  have := h2 k
  cases hT : T k with
  | none => rw [hT] at this; exact this
  | some bs =>
    rw [hT] at this
    obtain ⟨V, vc, q1, q2, q3, q4⟩ := this
    exact ⟨V, vc, q1, hc.reads q2 (fun a ha => hF _ (q3 a ha).1), q3, q4⟩
theorem TblAt.mono {F F' : Nat → Prop} {w : World} {mb n : Nat} {T : ByteArray → Option (List Int)} (h : TblAt w F mb n T) (hF : ∀ k, F k → F' k) : TblAt w F' mb n T := by
  obtain ⟨f, h1, h2⟩ := h
  refine ⟨f, h1, fun k => ?_⟩
  have := h2 k
  cases hT : T k with
  | none => rw [hT] at this; exact this
  | some bs =>
    rw [hT] at this
    obtain ⟨V, vc, q1, q2, q3, q4⟩ := this
    exact ⟨V, vc, q1, q2, fun a ha => ⟨hF _ (q3 a ha).1, (q3 a ha).2⟩, q4⟩
theorem TblAt.lt {F : Nat → Prop} {w : World} {mb n : Nat} {T : ByteArray → Option (List Int)} (h : TblAt w F mb n T) : TblAt w (fun k => F k ∧ k < w.heap.size) mb n T := by
  obtain ⟨f, h1, h2⟩ := h
  refine ⟨f, h1, fun k => ?_⟩
  have := h2 k
  cases hT : T k with
  | none => rw [hT] at this; exact this
  | some bs =>
    rw [hT] at this
    obtain ⟨V, vc, q1, q2, q3, q4⟩ := this
    refine ⟨V, vc, q1, q2, fun a ha => ⟨⟨(q3 a ha).1, ?_⟩, (q3 a ha).2⟩, q4⟩
    obtain ⟨a', e, h⟩ := reads_lt q2 (by omega)
    rw [ha] at e
    injection e with e
    rw [e]
    exact h
/-- Get, where the key is there. -/
theorem get_some (F : Nat → Prop) (bb mb n : Nat) (T : ByteArray → Option (List Int)) (k : ByteArray) (hk : k.size ≤ 1000) (bs : List Int) (hT : T k = some bs) (w : World) (c6 : w.cell? ⟨bb, 6, none⟩ = some (.map (some mb))) (h : TblAt w F mb n T) :
    Calls Tryz.prog 25 #[.pointer (some ⟨bb, 0, none⟩), .string k] w fun e w' => ∃ A c, e = .returned (.tuple #[.slice A bs.length c, .bool true]) ∧ w'.ownsRow w.heap.size 5 1 (.slice A bs.length c) bs.length (encs (Value.int .u8) bs) ∧ Below w.heap.size w w' := by
  obtain ⟨f, h1, h2⟩ := h
  have hq := h2 k
  rw [hT] at hq
  obtain ⟨V, vc, q1, q2, q3, q4⟩ := hq
  have HC := Lib.hid (clone76 V vc bs w q2 (fun a ha => (q3 a ha).2) (by omega))
  have HM := Lib.hid h1
  have HQ := Lib.hid q1
  clear h1 h2 q1 q2 q3
  go_enter Tryz.func25, Tryz.ntmps25
  go_wp2_with (at_lookup; refine wpList_map_ok (by rfl) (.tmp 14) (.tmp 15) 160 (by rfl) HM.out string_law Tryz.underlying160 (fun w => Tryz.zeroValue88 w) (by rfl) (by rfl) (keyStr k (by omega)) (r := .slice V bs.length vc) (ok := true) (by rw [HQ.out]; rfl) (by rw [HQ.out]; rfl) ?_)
  go_wp2_with fail
  refine HC.out.mono ?_
  rintro e w1 ⟨A, c, rfl, ho, hb⟩
  have HO := Lib.hid ho
  have HB := Lib.hid hb
  clear ho hb
  go_wp2_with fail
  go_ret2
  exact ⟨A, c, rfl, HO.out, HB.out⟩
/-- Get, where it is not. -/
theorem get_none (F : Nat → Prop) (bb mb n : Nat) (T : ByteArray → Option (List Int)) (k : ByteArray) (hk : k.size ≤ 1000) (hT : T k = none) (w : World) (c6 : w.cell? ⟨bb, 6, none⟩ = some (.map (some mb))) (h : TblAt w F mb n T) :
    Calls Tryz.prog 25 #[.pointer (some ⟨bb, 0, none⟩), .string k] w fun e w' => ∃ A c, e = .returned (.tuple #[.slice A 0 c, .bool false]) ∧ Below w.heap.size w w' := by
  obtain ⟨f, h1, h2⟩ := h
  have hq := h2 k
  rw [hT] at hq
  have HC := Lib.hid (clone76 none 0 [] w ⟨rfl, Nat.zero_le _, fun h => absurd h (Nat.lt_irrefl _)⟩ (fun _ h => by cases h) (by simp))
  have HM := Lib.hid h1
  have HQ := Lib.hid (show f (litS k) = none from hq)
  clear h1 h2 hq
  go_enter Tryz.func25, Tryz.ntmps25
  go_wp2_with (at_lookup; refine wpList_map_ok (by rfl) (.tmp 14) (.tmp 15) 160 (by rfl) HM.out string_law Tryz.underlying160 (fun w => Tryz.zeroValue88 w) (by rfl) (by rfl) (keyStr k (by omega)) (r := .slice none 0 0) (ok := false) (by rw [HQ.out]; rfl) (by rw [HQ.out]; rfl) ?_)
  go_wp2_with fail
  refine HC.out.mono ?_
  rintro e w1 ⟨A, c, rfl, ho, hb⟩
  have HB := Lib.hid hb
  clear ho hb
  go_wp2_with fail
  go_ret2
  exact ⟨A, c, rfl, HB.out⟩
end Go.Proofs.YtlcdjgpblpodaaaGreatDoor
namespace Go.Proofs.YtlcdjgpblpodaaaGreatDoor
open Go.RowKit Go.Maps Go.Proofs.YtlcdjgpblpodaaaGreatDoorW.PrintWords

open Classical in
/-- T, but v at k. -/
noncomputable def setT (T : ByteArray → Option (List Int)) (k : ByteArray) (v : Option (List Int)) : ByteArray → Option (List Int) := fun x => if x = k then v else T x
theorem setT_same (T : ByteArray → Option (List Int)) (k : ByteArray) (v : Option (List Int)) : setT T k v k = v := if_pos rfl
theorem setT_other (T : ByteArray → Option (List Int)) {k x : ByteArray} (v : Option (List Int)) (h : x ≠ k) : setT T k v x = T x := if_neg h
theorem TblAt.put {F : Nat → Prop} {w : World} {mb n : Nat} {T : ByteArray → Option (List Int)} (h : TblAt w F mb n T) (hF : ¬ F mb) (hn : n < 1000000) (key : ByteArray) (hk : key.size ≤ 1000) (V : Option Addr) (vc : Nat) (bs : List Int) (hl : bs.length ≤ 100000 ∧ 1 ≤ bs.length)
    (hr : ReadsOf (Value.int .u8) (0 : Int) w V bs.length bs) (hV : ∀ a, V = some a → F a.block ∧ a.spot = none) :
    ∃ w', (Instr.mapUpdate 160 (.map (some mb)) (.string key) (.slice V bs.length vc)).run Tryz.prog w = .ok () w' ∧ TblAt w' F mb (n + 1) (setT T key (some bs)) ∧ Chg (fun k => k = mb) w w' := by
  obtain ⟨f, h1, h2⟩ := h
  obtain ⟨w', hrun, r1, r2⟩ := h1.put string_law Tryz.underlying160 hn (v := .slice V bs.length vc) (keyStr key (by omega))
  have hnF : ∀ k, F k → ¬ k = mb := fun k hk e => hF (e ▸ hk)
  refine ⟨w', hrun, ⟨_, r1, fun k => ?_⟩, r2⟩
  by_cases e : k = key
  · subst e
    rw [setT_same]
    exact ⟨V, vc, putF_same _ _ _, r2.reads hr (fun a ha => hnF _ (hV a ha).1), hV, hl⟩
  · rw [setT_other _ _ e]
    have hp : putF f (litS key) (.slice V bs.length vc) (litS k) = f (litS k) := putF_other _ _ (fun e' => e (litS_inj e'))
    have hq := h2 k
    cases hT : T k with
    | none => rw [hT] at hq; exact hp.trans hq
    | some cs =>
      rw [hT] at hq
      obtain ⟨V', vc', q1, q2, q3, q4⟩ := hq
      exact ⟨V', vc', hp.trans q1, r2.reads q2 (fun a ha => hnF _ (q3 a ha).1), q3, q4⟩
theorem TblAt.del {F : Nat → Prop} {w : World} {mb n : Nat} {T : ByteArray → Option (List Int)} (h : TblAt w F mb n T) (hF : ¬ F mb) (key : ByteArray) (hk : key.size ≤ 1000) (ty : Nat) :
    ∃ w', (Builtin.delete_ #[160, 9] ty #[.map (some mb), .string key]).run Tryz.prog w = .ok (.tuple #[]) w' ∧ TblAt w' F mb n (setT T key none) ∧ Chg (fun k => k = mb) w w' := by
  obtain ⟨f, h1, h2⟩ := h
  obtain ⟨w', hrun, r1, r2⟩ := h1.del string_law Tryz.underlying160 (keyStr key (by omega)) ty
  have hnF : ∀ k, F k → ¬ k = mb := fun k hk e => hF (e ▸ hk)
  refine ⟨w', hrun, ⟨_, r1, fun k => ?_⟩, r2⟩
  by_cases e : k = key
  · subst e
    rw [setT_same]
    exact delF_same _ _
  · rw [setT_other _ _ e]
    have hp : delF f (litS key) (litS k) = f (litS k) := delF_other _ (fun e' => e (litS_inj e'))
    have hq := h2 k
    cases hT : T k with
    | none => rw [hT] at hq; exact hp.trans hq
    | some cs =>
      rw [hT] at hq
      obtain ⟨V', vc', q1, q2, q3, q4⟩ := hq
      exact ⟨V', vc', hp.trans q1, r2.reads q2 (fun a ha => hnF _ (q3 a ha).1), q3, q4⟩
/-- The table behind changes. -/
noncomputable def layT (T : ByteArray → Option (List Int)) (cs : List Chn) : ByteArray → Option (List Int) := cs.foldl (fun T c => setT T c.key (if c.gone then none else some c.val)) T
theorem layT_take (T : ByteArray → Option (List Int)) (cs : List Chn) (k : Nat) (c : Chn) (h : cs[k]? = some c) : layT T (cs.take (k + 1)) = setT (layT T (cs.take k)) c.key (if c.gone then none else some c.val) := by
  obtain ⟨h1, h2⟩ := List.getElem?_eq_some_iff.1 h
  rw [List.take_succ_eq_append_getElem h1, h2]
  simp [layT]
end Go.Proofs.YtlcdjgpblpodaaaGreatDoor
namespace Go.Proofs.YtlcdjgpblpodaaaGreatDoor
open Go.RowKit Go.Maps Go.Proofs.YtlcdjgpblpodaaaGreatDoorW.PrintWords

/-- The two maps of the book. -/
structure BkMaps (w : World) (F : Nat → Prop) (bb mb hb n nc : Nat) (T : ByteArray → Option (List Int)) : Prop where
  c6 : w.cell? ⟨bb, 6, none⟩ = some (.map (some mb))
  c7 : w.cell? ⟨bb, 7, none⟩ = some (.map (some hb))
  tbl : TblAt w F mb n T
  chd : ∃ g, MapAt w 9 hb nc g
theorem BkMaps.chg {S F : Nat → Prop} {w w' : World} {bb mb hb n nc : Nat} {T : ByteArray → Option (List Int)} (h : BkMaps w F bb mb hb n nc T) (hc : Chg S w w') (hb' : ¬ S bb) (hm : ¬ S mb) (hh : ¬ S hb) (hF : ∀ k, F k → ¬ S k) : BkMaps w' F bb mb hb n nc T := by
  obtain ⟨g, hg⟩ := h.chd
  exact ⟨hc.cell hb' h.c6, hc.cell hb' h.c7, h.tbl.chg hc hm hF, g, hg.chg hc hh⟩
theorem BkMaps.below {F : Nat → Prop} {w w' : World} {bb mb hb n nc : Nat} {T : ByteArray → Option (List Int)} (h : BkMaps w F bb mb hb n nc T) (hb' : Below w.heap.size w w') : BkMaps w' F bb mb hb n nc T := h.chg (Chg.of_below hb' (fun _ => False)) (fun h => h) (fun h => h) (fun h => h) (fun _ _ h => h)
theorem BkMaps.mono {F F' : Nat → Prop} {w : World} {bb mb hb n nc : Nat} {T : ByteArray → Option (List Int)} (h : BkMaps w F bb mb hb n nc T) (hF : ∀ k, F k → F' k) : BkMaps w F' bb mb hb n nc T := ⟨h.c6, h.c7, h.tbl.mono hF, h.chd⟩
theorem BkMaps.lt {F : Nat → Prop} {w : World} {bb mb hb n nc : Nat} {T : ByteArray → Option (List Int)} (h : BkMaps w F bb mb hb n nc T) : BkMaps w (fun k => F k ∧ k < w.heap.size) bb mb hb n nc T := ⟨h.c6, h.c7, h.tbl.lt, h.chd⟩
set_option maxRecDepth 100000 in
set_option maxHeartbeats 2000000 in
theorem lay_book (X F : Nat → Prop) (bb mb hb n nc : Nat) (A : Option Addr) (c0 : Nat) (cs : List Chn) (hc : ∀ c ∈ cs, c.Ok) (h8 : cs.length ≤ 8) (T : ByteArray → Option (List Int)) (hn : n + 8 ≤ 100000) (hnc : nc + 8 ≤ 100000) (w : World) (hA : ChsAt w X A cs) (h : BkMaps w F bb mb hb n nc T)
    (hXm : ∀ k, X k → k ≠ mb ∧ k ≠ hb) (hF : ¬ F mb ∧ ¬ F hb) (hne : bb ≠ mb ∧ bb ≠ hb ∧ mb ≠ hb) :
    Calls Tryz.prog 74 #[.pointer (some ⟨bb, 0, none⟩), .slice A cs.length c0] w fun e w' => e = .returned (.tuple #[]) ∧ (∃ n' nc', n' ≤ n + cs.length ∧ nc' ≤ nc + cs.length ∧ BkMaps w' (fun k => F k ∨ w.heap.size ≤ k) bb mb hb n' nc' (layT T cs)) ∧ Chg (fun k => k = mb ∨ k = hb) w w' := by
  have HA := Lib.hid hA
  have HOK := Lib.hid hc
  have HM0 := Lib.hid h
  have HXM := Lib.hid hXm
  have HF := Lib.hid hF
  have HNE := Lib.hid hne
  have hml := h.tbl.choose_spec.1.lt
  have hhl := h.chd.choose_spec.lt
  clear hA hc h hXm hF hne
  go_enter Tryz.func74, Tryz.ntmps74
  go_wp2_with fail
  go_loopw [8] (fun s wr => ∃ k n' nc' : Nat, s = .int .i64 k ∧ k ≤ cs.length ∧ n' ≤ n + k ∧ nc' ≤ nc + k ∧ BkMaps wr (fun k => F k ∨ w.heap.size ≤ k) bb mb hb n' nc' (layT T (cs.take k)) ∧ Chg (fun k => k = mb ∨ k = hb) w wr) (fun s _ => cs.length - (intOf s).toNat)
  case atStart => exact ⟨0, n, nc, rfl, Nat.zero_le _, by omega, by omega, HM0.out.mono (fun _ h => .inl h), Chg.refl _ _⟩
  case round =>
    obtain ⟨k, n', nc', rfl, hk, hn', hnc', hm, hch⟩ := hrel
    by_cases hkl : k < cs.length
    · obtain ⟨c, hck⟩ : ∃ c, cs[k]? = some c := ⟨_, List.getElem?_eq_getElem hkl⟩
      have hok := HOK.out c (List.mem_of_getElem? hck)
      obtain ⟨b, off, rfl, hXb, hcell⟩ := HA.out (by intro h; simp [h] at hkl)
      obtain ⟨V, vc, q0, q1, q2, q3, q4⟩ := hcell k c hck
      have hbn : ¬ (b = mb ∨ b = hb) := fun h => by have := HXM.out b hXb; omega
      have g0 := hch.cell (a := ⟨b, off + k * 3, none⟩) hbn q0
      have g1 := hch.cell (a := ⟨b, off + k * 3 + 1, none⟩) hbn q1
      have g2 := hch.cell (a := ⟨b, off + k * 3 + 2, none⟩) hbn q2
      have g3 := hch.reads q3 (fun a ha h => by have := HXM.out _ (q4 a ha).1; omega)
      have hbl := World.block_lt_of_cell? wr _ g0
      simp only at hbl
      have k0 : (0 : Int) ≤ (k : Int) := by omega
      have k1 : (k : Int) < (cs.length : Int) := by omega
      obtain ⟨bx, hbx⟩ : ∃ bx, bx = wr.heap.size := ⟨_, rfl⟩
      obtain ⟨W2, hW2⟩ : ∃ W, W = wr.alloc (.cells #[.string c.key, .slice V c.val.length vc, .bool c.gone] 136) := ⟨_, rfl⟩
      have hbw : Below wr.heap.size wr W2 := hW2 ▸ (Below.refl _ _).alloc (Nat.le_refl _) _
      have hblk : Blk W2 bx #[.string c.key, .slice V c.val.length vc, .bool c.gone] 136 := hW2 ▸ Blk.newAt hbx
      have hsw := hch.size
      have hm2 := (hm.below hbw).below (w' := W2.drew) ((Below.refl _ _).drew)
      obtain ⟨g, hg2⟩ := hm2.chd
      obtain ⟨w3, hput, hg3, hc3⟩ := hg2.put string_law Tryz.underlying161 (by omega) (v := .bool true) (keyStr c.key (by have := hok.key.2; omega))
      have hxm : ¬ bx = mb ∧ ¬ bx = hb := by have h1 := hm.tbl.choose_spec.1.lt; have h2 := hm.chd.choose_spec.lt; omega
      have HNE' := HNE.out
      have hF2 : ¬ (F mb ∨ w.heap.size ≤ mb) ∧ ¬ (F hb ∨ w.heap.size ≤ hb) := ⟨fun h => by rcases h with h | h; exact HF.out.1 h; omega, fun h => by rcases h with h | h; exact HF.out.2 h; omega⟩
      have hm3 : BkMaps w3 (fun k => F k ∨ w.heap.size ≤ k) bb mb hb n' (nc' + 1) (layT T (cs.take k)) := ⟨hc3.cell (a := ⟨bb, 6, none⟩) (by show ¬ bb = hb; omega) hm2.c6, hc3.cell (a := ⟨bb, 7, none⟩) (by show ¬ bb = hb; omega) hm2.c7, hm2.tbl.chg hc3 (by omega) (fun j hj e => hF2.2 (by rw [show j = hb from e] at hj; exact hj)), _, hg3⟩
      have hb3 := hc3.blk (show Blk W2.drew bx _ 136 from hblk) hxm.2
      have hr3 : ReadsOf (Value.int .u8) (0 : Int) w3 V c.val.length c.val := hc3.reads ((g3.below hbw).below (w1 := W2.drew) ((Below.refl _ _).drew)) (fun a ha h => by have := HXM.out _ (q4 a ha).1; omega)
      have hch3 : Chg (fun k => k = mb ∨ k = hb) w w3 := ((hch.then_below hbw).drew).trans hc3 (fun _ _ h => .inr h)
      have e7 : W2.drew.cell? ⟨bb, 7, none⟩ = some (.map (some hb)) := hm2.c7
      have e0 : W2.drew.cell? ⟨bx, 0, none⟩ = some (.string c.key) := (show Blk W2.drew bx _ 136 from hblk).cell 0
      have f7 : w3.cell? ⟨bb, 7, none⟩ = some (.map (some hb)) := hm3.c7
      have f0 : w3.cell? ⟨bx, 0, none⟩ = some (.string c.key) := hb3.cell 0
      have d2 : w3.cell? ⟨bx, 2, none⟩ = some (.bool c.gone) := hb3.cell 2
      have HM3 := Lib.hid hm3
      have HB3 := Lib.hid hb3
      have HR3 := Lib.hid hr3
      have HC3 := Lib.hid hch3
      have HQ4 := Lib.hid q4
      have HW2 := Lib.hid hW2
      have HBX := Lib.hid hbx
      have HCK := Lib.hid hck
      have HOC := Lib.hid hok
      have HF2 := Lib.hid hF2
      have HXN := Lib.hid hxm
      have hsz3 := hch3.size
      clear hm hch hbw hblk hm2 hg2 hg3 hc3 hm3 hb3 hr3 hch3 q0 q1 q2 q3 q4 g3 hXb hcell hck hok hW2 hbx hF2 HNE' hxm
      go_upto_region 3 with fail
      rw [← HW2.out, ← HBX.out]
      go_region_held3 (fun w' => w'.cell? ⟨bb, 7, none⟩ = some (.map (some hb)) ∧ w'.cell? ⟨bx, 0, none⟩ = some (.string c.key)) (first | exact ⟨e7, e0⟩ | exact ⟨f7, f0⟩) (first | fail)
      rename_i hHeld
      clear hHeld hput e7 e0
      have l1 := HOC.out.key.2
      cases hg : c.gone with
      | true =>
        rw [hg] at d2
        have tb3 := HM3.out.tbl.chg ((Chg.refl (fun _ => False) w3).drew) (fun h => h) (fun _ _ h => h)
        obtain ⟨w4, hdel, ht4, hc4⟩ := tb3.del HF2.out.1 c.key (by omega) 0
        have m4 : BkMaps w4 (fun k => F k ∨ w.heap.size ≤ k) bb mb hb n' (nc' + 1) (layT T (cs.take (k + 1))) := by
          obtain ⟨g', hg'⟩ := HM3.out.chd
          have hne := HNE.out
          refine ⟨hc4.cell (a := ⟨bb, 6, none⟩) (by show ¬ bb = mb; omega) HM3.out.c6, hc4.cell (a := ⟨bb, 7, none⟩) (by show ¬ bb = mb; omega) HM3.out.c7, ?_, g', (hg'.chg ((Chg.refl (fun _ => False) w3).drew) (fun h => h)).chg hc4 (by omega)⟩
          rw [layT_take T cs k c HCK.out, hg]
          exact ht4
        have x6 : w3.drew.cell? ⟨bb, 6, none⟩ = some (.map (some mb)) := HM3.out.c6
        have x0 : w3.drew.cell? ⟨bx, 0, none⟩ = some (.string c.key) := HB3.out.cell 0
        have y6 : w4.cell? ⟨bb, 6, none⟩ = some (.map (some mb)) := m4.c6
        have y0 : w4.cell? ⟨bx, 0, none⟩ = some (.string c.key) := (hc4.blk (show Blk w3.drew bx _ 136 from HB3.out) HXN.out.1).cell 0
        have HM4 := Lib.hid m4
        have HC4 := Lib.hid (show Chg (fun k => k = mb ∨ k = hb) w w4 from (HC3.out.drew).trans hc4 (fun _ _ h => .inl h))
        clear tb3 ht4 hc4 m4 hg
        go_upto_region 5 with fail
        go_region_held3 (fun w' => w'.cell? ⟨bb, 6, none⟩ = some (.map (some mb)) ∧ w'.cell? ⟨bx, 0, none⟩ = some (.string c.key)) (first | exact ⟨x6, x0⟩ | exact ⟨y6, y0⟩) (first | fail)
        rename_i hHeld
        clear hHeld hdel x6 x0 y6 y0
        go_wp2_with fail
        go_roundw
        case rel => exact ⟨k + 1, n', nc' + 1, by go_num, by omega, by omega, by omega, HM4.out, HC4.out⟩
        case measure => simp [intOf]; omega
      | false =>
        rw [hg] at d2
        have HCL := Lib.hid (clone76 V vc c.val w3.drew (HR3.out.below (w1 := w3.drew) ((Below.refl _ _).drew)) (fun a ha => (HQ4.out a ha).2) (by have := HOC.out.short; omega))
        have x6 : w3.drew.cell? ⟨bb, 6, none⟩ = some (.map (some mb)) := HM3.out.c6
        have x0 : w3.drew.cell? ⟨bx, 0, none⟩ = some (.string c.key) := HB3.out.cell 0
        have x1 : w3.drew.cell? ⟨bx, 1, none⟩ = some (.slice V c.val.length vc) := HB3.out.cell 1
        have HG := Lib.hid hg
        clear hg
        go_upto_region 6 with fail
        go_region_held3 (fun w' => w'.cell? ⟨bb, 6, none⟩ = some (.map (some mb)) ∧ w'.cell? ⟨bx, 0, none⟩ = some (.string c.key) ∧ w'.cell? ⟨bx, 1, none⟩ = some (.slice V c.val.length vc)) (first | exact ⟨x6, x0, x1⟩ | exact ⟨y6, y0, y1⟩ | exact ⟨z6, z0, z1⟩)
          (first | (go_at_call 76
                    refine HCL.out.mono ?_
                    rintro e w4 ⟨V4, vc4, rfl, ho4, hb4⟩
                    have hb4' : Below w3.heap.size w3 w4 := ((Below.refl _ _).drew).trans hb4
                    have hm4 := HM3.out.below hb4'
                    have hbk4 := HB3.out.below hb4'
                    have hr4 : ReadsOf (Value.int .u8) (0 : Int) w4 V4 c.val.length c.val ∧ ∀ a, V4 = some a → (F a.block ∨ w.heap.size ≤ a.block) ∧ a.spot = none := by
                      obtain ⟨A', c', he, hle, hr⟩ := own_reads_of_le (d := (0 : Int)) ho4
                      injection he with he1 he2 he3
                      subst he1 he3
                      exact ⟨hr, fun a ha => ⟨.inr (by have := own_base ho4 a.block (by rw [ha]; rfl); have e : w3.drew.heap.size = w3.heap.size := rfl; omega), own_spot ho4 a ha⟩⟩
                    obtain ⟨w5, hput, ht5, hc5⟩ := hm4.tbl.put HF2.out.1 (by omega) c.key (by omega) V4 vc4 c.val (by have := HOC.out.short; have := HOC.out.long; omega) hr4.1 hr4.2
                    have m5 : BkMaps w5 (fun k => F k ∨ w.heap.size ≤ k) bb mb hb (n' + 1) (nc' + 1) (layT T (cs.take (k + 1))) := by
                      obtain ⟨g', hg'⟩ := hm4.chd
                      have hne := HNE.out
                      refine ⟨hc5.cell (a := ⟨bb, 6, none⟩) (by show ¬ bb = mb; omega) hm4.c6, hc5.cell (a := ⟨bb, 7, none⟩) (by show ¬ bb = mb; omega) hm4.c7, ?_, g', hg'.chg hc5 (by omega)⟩
                      rw [layT_take T cs k c HCK.out, HG.out]
                      exact ht5
                    have hbk5 := hc5.blk hbk4 HXN.out.1
                    have y6 := hm4.c6
                    have y0 : w4.cell? ⟨bx, 0, none⟩ = some (.string c.key) := hbk4.cell 0
                    have y1 : w4.cell? ⟨bx, 1, none⟩ = some (.slice V c.val.length vc) := hbk4.cell 1
                    have z6 := m5.c6
                    have z0 : w5.cell? ⟨bx, 0, none⟩ = some (.string c.key) := hbk5.cell 0
                    have z1 : w5.cell? ⟨bx, 1, none⟩ = some (.slice V c.val.length vc) := hbk5.cell 1
                    have HM5 := Lib.hid m5
                    have HC5 := Lib.hid (show Chg (fun k => k = mb ∨ k = hb) w w5 from (HC3.out.then_below hb4').trans hc5 (fun _ _ h => .inl h))
                    clear ho4 hb4 hb4' hm4 hbk4 hr4 ht5 hc5 m5 hbk5))
        rename_i hHeld
        clear hHeld hput x6 x0 x1 y6 y0 y1 z6 z0 z1
        go_wp2_with fail
        go_roundw
        case rel => exact ⟨k + 1, n' + 1, nc' + 1, by go_num, by omega, by omega, by omega, HM5.out, HC5.out⟩
        case measure => simp [intOf]; omega
    · obtain rfl : k = cs.length := by omega
      rw [List.take_of_length_le (Nat.le_refl _)] at hm
      have HM := Lib.hid hm
      have HCH := Lib.hid hch
      clear hm hch
      go_wp2_with fail
      go_end0
      exact ⟨rfl, ⟨n', nc', hn', hnc', HM.out⟩, HCH.out⟩
end Go.Proofs.YtlcdjgpblpodaaaGreatDoor
namespace Go.Proofs.YtlcdjgpblpodaaaGreatDoor
open Go.RowKit Go.Maps Go.Proofs.YtlcdjgpblpodaaaGreatDoorW.PrintWords

/-- A book: its block, its two maps, its log, its disk; F: what does not turn. -/
structure BookP (w : World) (F XL XD : Nat → Prop) (bb db sb lb pb tb mb hb N cnt used nu m n nc pend : Nat) (T : ByteArray → Option (List Int)) : Prop where
  blk : Blk w bb #[.pointer (some ⟨db, 0, none⟩), .pointer (some ⟨sb, 0, none⟩), .pointer (some ⟨lb, 0, none⟩), .pointer (some ⟨pb, 0, none⟩), .pointer (some ⟨tb, 0, none⟩), .int .u64 1, .map (some mb), .map (some hb), .int .i64 pend, .bool false] 167
  maps : BkMaps w F bb mb hb n nc T
  log : LogAt w XL lb db 2 cnt used nu
  disk : DiskAt false w XD db N m
  ld : ∀ k, XL k → ¬ XD k
  fl : ∀ k, F k → ¬ XL k ∧ ¬ XD k ∧ k ≠ bb ∧ k ≠ mb ∧ k ≠ hb
  bl : ¬ XL bb ∧ ¬ XD bb
  ml : ¬ XL mb ∧ ¬ XD mb
  hl : ¬ XL hb ∧ ¬ XD hb
  bm : bb ≠ mb ∧ bb ≠ hb ∧ mb ≠ hb
  lt : ∀ k, F k ∨ XL k ∨ XD k → k < w.heap.size
/-- What of a book may turn. -/
def bookS (XL XD : Nat → Prop) (bb mb hb : Nat) : Nat → Prop := fun k => k = bb ∨ k = mb ∨ k = hb ∨ XL k ∨ XD k
theorem BookP.below {w w' : World} {F XL XD : Nat → Prop} {bb db sb lb pb tb mb hb N cnt used nu m n nc pend : Nat} {T : ByteArray → Option (List Int)} (h : BookP w F XL XD bb db sb lb pb tb mb hb N cnt used nu m n nc pend T) (hb' : Below w.heap.size w w') : BookP w' F XL XD bb db sb lb pb tb mb hb N cnt used nu m n nc pend T :=
  ⟨h.blk.below hb', h.maps.below hb', h.log.below hb', h.disk.below hb', h.ld, h.fl, h.bl, h.ml, h.hl, h.bm, fun k hk => Nat.lt_of_lt_of_le (h.lt k hk) hb'.size⟩
end Go.Proofs.YtlcdjgpblpodaaaGreatDoor

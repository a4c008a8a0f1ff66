/- Jour1 -/
import Derived.Test.YtlcdjgpblpodaaaGreatDoorMAJ
namespace Go.Proofs.YtlcdjgpblpodaaaGreatDoor
open Go.RowKit Go.Proofs.YtlcdjgpblpodaaaGreatDoorW.PrintWords

/-- A journal's ten cells. -/
def jcells (base : List Int) (ev v : Value) : Array Value := (base.map (Value.int .i64) ++ [ev, v]).toArray
theorem jcells_base (base : List Int) (ev v : Value) (k : Nat) (hk : k < base.length) : (jcells base ev v)[k]? = some (.int .i64 (base.getD k 0)) := by
  unfold jcells
  rw [List.getElem?_toArray, List.getElem?_append_left (by simpa using hk)]
  simp [List.getD, hk]
theorem jcells_ev (base : List Int) (ev v : Value) (h : base.length = 8) : (jcells base ev v)[8]? = some ev := by simp [jcells, h]
theorem jcells_v (base : List Int) (ev v : Value) (h : base.length = 8) : (jcells base ev v)[9]? = some v := by
  simp [jcells, h]
theorem jcells_set (base : List Int) (ev v : Value) (k : Nat) (x : Int) (hk : k < base.length) : (jcells base ev v).setIfInBounds k (.int .i64 x) = jcells (base.set k x) ev v := by
  simp [jcells, List.set_append_left _ _ (show k < (base.map (Value.int .i64)).length by simpa using hk), List.map_set]
theorem jcells_setev (base : List Int) (ev ev' v : Value) (h : base.length = 8) : (jcells base ev v).setIfInBounds 8 ev' = jcells base ev' v := by
  simp [jcells, List.set_append_right _ _ (show (base.map (Value.int .i64)).length ≤ 8 by simp [h]), h]
theorem jcells_setv (base : List Int) (ev v v' : Value) (h : base.length = 8) : (jcells base ev v).setIfInBounds 9 v' = jcells base ev v' := by
  simp [jcells, List.set_append_right _ _ (show (base.map (Value.int .i64)).length ≤ 9 by simp [h]), h]
def evC : List (Nat × Int) → List Value
  | [] => []
  | e :: r => .int .i64 e.1 :: .int .i64 e.2 :: evC r
theorem evC_append : ∀ a b : List (Nat × Int), evC (a ++ b) = evC a ++ evC b
  | [], b => rfl
  | e :: r, b => by simp [evC, evC_append r b]
theorem evC_get : ∀ (es : List (Nat × Int)) (k : Nat) (e : Nat × Int), es[k]? = some e → (evC es)[k * 2]? = some (.int .i64 e.1) ∧ (evC es)[k * 2 + 1]? = some (.int .i64 e.2)
  | [], k, e, h => by simp at h
  | x :: r, 0, e, h => by simp at h; subst h; exact ⟨rfl, rfl⟩
  | x :: r, k + 1, e, h => by
    have := evC_get r k e (by simpa using h)
    rw [show (k + 1) * 2 = k * 2 + 1 + 1 by omega]
    simpa [evC] using this
/-- A row of one's own, cell by cell. -/
theorem own_cell {w : World} {base n c size : Nat} {e : TypeId} {A : Option Addr} {cs : List Value} (ho : w.ownsRow base e size (.slice A n c) n cs) (hn : 0 < n) :
    ∃ g, A = some ⟨g, 0, none⟩ ∧ base ≤ g ∧ g < w.heap.size ∧ ∀ j u, cs[j]? = some u → w.cell? ⟨g, j, none⟩ = some u := by
  rcases ho.2 with ⟨h1, h2⟩ | ⟨g, cap, cur, h1, h2, h3, h4, h5, h6, h7⟩
  · omega
  · injection h1 with h1 _ _
    subst h1
    refine ⟨g, rfl, h2, lt_of_block h3, fun j u hu => ?_⟩
    have := ho.cells (g := g) rfl j u hu
    rwa [show (⟨g, 0, none⟩ : Addr).add j = ⟨g, j, none⟩ by rw [Go.WideShapes.add_plain, Nat.zero_add]] at this
/-- A journal. -/
def JourAt (w : World) (X : Nat → Prop) (jb : Nat) (j : Jour) : Prop :=
  ∃ E c, X jb ∧ Blk w jb (jcells j.base (.slice E j.events.length c) (.int .u64 j.version)) 144 ∧ w.ownsRow 0 146 2 (.slice E j.events.length c) j.events.length (evC j.events) ∧ ∀ k, (Value.slice E j.events.length c).ownBlock = some k → X k
theorem JourAt.chg {S X : Nat → Prop} {w w' : World} {jb : Nat} {j : Jour} (h : JourAt w X jb j) (hc : Chg S w w') (hX : ∀ k, X k → ¬ S k) : JourAt w' X jb j := by
  obtain ⟨E, c, h1, h2, h3, h4⟩ := h
  exact ⟨E, c, h1, hc.blk h2 (hX _ h1), hc.owns h3 (fun k hk => hX _ (h4 k hk)), h4⟩
theorem JourAt.mono {X X' : Nat → Prop} {w : World} {jb : Nat} {j : Jour} (h : JourAt w X jb j) (hX : ∀ k, X k → X' k) : JourAt w X' jb j := by
  obtain ⟨E, c, h1, h2, h3, h4⟩ := h
  exact ⟨E, c, hX _ h1, h2, h3, fun k hk => hX _ (h4 k hk)⟩
theorem index58 (x0 x1 x2 x3 x4 x5 x6 x7 : Int) (k : Nat) (hk : k < 8) (w : World) :
    (Instr.index 58 (.agg #[.int .i64 x0, .int .i64 x1, .int .i64 x2, .int .i64 x3, .int .i64 x4, .int .i64 x5, .int .i64 x6, .int .i64 x7]) (.int .i64 (k : Int))).run Tryz.prog w = .ok (.int .i64 ([x0, x1, x2, x3, x4, x5, x6, x7].getD k 0)) w := by
  have h : k = 0 ∨ k = 1 ∨ k = 2 ∨ k = 3 ∨ k = 4 ∨ k = 5 ∨ k = 6 ∨ k = 7 := by omega
  rcases h with rfl | rfl | rfl | rfl | rfl | rfl | rfl | rfl <;> simp [Instr.index, asIntOf, run_underlying Tryz.underlying58, part, Tryz.isAgg2, Tryz.sizeOf2]
theorem list8 {l : List Int} (h : l.length = 8) : ∃ x0 x1 x2 x3 x4 x5 x6 x7, l = [x0, x1, x2, x3, x4, x5, x6, x7] := by
  match l, h with
  | [x0, x1, x2, x3, x4, x5, x6, x7], _ => exact ⟨x0, x1, x2, x3, x4, x5, x6, x7, rfl⟩
theorem encEvents_take : ∀ (es : List (Nat × Int)) (k : Nat) (e : Nat × Int), es[k]? = some e → encEvents (es.take (k + 1)) = encEvents (es.take k) ++ (encNum e.1 ++ encInt e.2)
  | [], k, e, h => by simp at h
  | x :: r, 0, e, h => by simp at h; subst h; simp [encEvents]
  | x :: r, k + 1, e, h => by simp at h; simp [encEvents, encEvents_take r k e h]
set_option maxRecDepth 100000 in
set_option maxHeartbeats 1000000 in
theorem jenc_any (X : Nat → Prop) (jb : Nat) (j : Jour) (hj : j.Ok) (w : World) (h : JourAt w X jb j) :
    Calls Tryz.prog 160 #[.pointer (some ⟨jb, 0, none⟩)] w fun e w' => ∃ A c, e = .returned (.slice A (encJour j).length c) ∧ w'.ownsRow w.heap.size 5 1 (.slice A (encJour j).length c) (encJour j).length (encs (Value.int .u8) (encJour j)) ∧ Below w.heap.size w w' := by
  obtain ⟨E, c, h1, h2, h3, h4⟩ := h
  obtain ⟨W0, hW0⟩ : ∃ W, W = w.alloc (.cells #[.slice none 0 0] 319) := ⟨_, rfl⟩
  have hb0 : Below w.heap.size w W0 := hW0 ▸ (Below.refl _ _).alloc (Nat.le_refl _) _
  have HB0 := Lib.hid hb0
  have HP := Lib.hid (show WP W0 w.heap.size (fun k => k = w.heap.size) [] W0 from hW0 ▸ WP.new w)
  have HC := Lib.hid (newwriter w)
  rw [← hW0] at HC
  have HS0 : w.heap.size ≤ W0.heap.size := hb0.size
  obtain ⟨wb, hwb⟩ : ∃ b, b = w.heap.size := ⟨_, rfl⟩
  rw [← hwb] at HP HC
  have HJ := Lib.hid (h2.below hb0)
  have HO := Lib.hid (own_below h3 hb0)
  have HNJ := Lib.hid (show ¬ jb = wb from by have := h2.lt; omega)
  have HNO := Lib.hid (show ∀ k, (Value.slice E j.events.length c).ownBlock = some k → ¬ k = wb from fun k hk => by have := own_lt h3 k hk; omega)
  have HWB := Lib.hid hwb
  have v1 := hj.version
  have v2 := hj.base
  have v3 := hj.few
  have HE := Lib.hid hj.each
  have HV := Lib.hid hj.event
  have e1 := (encNum_length _ hj.version).2
  have e2 := (encNum_length j.events.length (by omega)).2
  have hlen := encJour_length j hj
  have HLE := Lib.hid hlen
  unfold U64 at v1
  obtain ⟨x0, x1, x2, x3, x4, x5, x6, x7, hx⟩ := list8 v2
  have HX := Lib.hid hx
  have HI := Lib.hid (fun k hk W => index58 x0 x1 x2 x3 x4 x5 x6 x7 k hk W)
  clear h1 h2 h3 h4 hb0 hW0 hwb hx hlen hj
  go_enter Tryz.func160, Tryz.ntmps160
  go_wp2_with fail
  refine HC.out.mono ?_
  rintro e w' ⟨rfl, rfl⟩
  have k9 : w'.cell? ⟨jb, 9, none⟩ = some (.int .u64 j.version) := (HJ.out.cell 9).trans (jcells_v _ _ _ v2)
  go_wp2_with fail
  refine (WP.num j.version v1 (by simp) HP.out).mono ?_
  rintro e w1 ⟨rfl, h1⟩
  rw [List.nil_append] at h1
  have hj1 := h1.chg.blk HJ.out HNJ.out
  have b0 : w1.cell? ⟨jb, 0, none⟩ = some (.int .i64 x0) := (hj1.cell 0).trans (by rw [jcells_base _ _ _ _ (by omega), HX.out]; rfl)
  have b1 : w1.cell? ⟨jb, 1, none⟩ = some (.int .i64 x1) := (hj1.cell 1).trans (by rw [jcells_base _ _ _ _ (by omega), HX.out]; rfl)
  have b2 : w1.cell? ⟨jb, 2, none⟩ = some (.int .i64 x2) := (hj1.cell 2).trans (by rw [jcells_base _ _ _ _ (by omega), HX.out]; rfl)
  have b3 : w1.cell? ⟨jb, 3, none⟩ = some (.int .i64 x3) := (hj1.cell 3).trans (by rw [jcells_base _ _ _ _ (by omega), HX.out]; rfl)
  have b4 : w1.cell? ⟨jb, 4, none⟩ = some (.int .i64 x4) := (hj1.cell 4).trans (by rw [jcells_base _ _ _ _ (by omega), HX.out]; rfl)
  have b5 : w1.cell? ⟨jb, 5, none⟩ = some (.int .i64 x5) := (hj1.cell 5).trans (by rw [jcells_base _ _ _ _ (by omega), HX.out]; rfl)
  have b6 : w1.cell? ⟨jb, 6, none⟩ = some (.int .i64 x6) := (hj1.cell 6).trans (by rw [jcells_base _ _ _ _ (by omega), HX.out]; rfl)
  have b7 : w1.cell? ⟨jb, 7, none⟩ = some (.int .i64 x7) := (hj1.cell 7).trans (by rw [jcells_base _ _ _ _ (by omega), HX.out]; rfl)
  have H1 := Lib.hid h1
  clear h1 hj1 k9
  go_wp2_with fail
  go_loopw [21] (fun s wr => ∃ k : Nat, s = .int .i64 k ∧ k ≤ 8 ∧ WP w' wb (fun k => k = wb) (encNum j.version ++ encInts (j.base.take k)) wr) (fun s _ => 8 - (intOf s).toNat)
  case atStart => exact ⟨0, rfl, by omega, by simpa [encInts] using H1.out⟩
  case round =>
    obtain ⟨k, rfl, hk, hp⟩ := hrel
    have h5 := encInts_take_len HE.out k
    rw [v2] at h5
    by_cases hkl : k < 8
    · have H64 := Lib.hid (In64.get HE.out k (by omega))
      have HS := Lib.hid (show encNum j.version ++ encInts (j.base.take (k + 1)) = encNum j.version ++ encInts (j.base.take k) ++ encInt (j.base.getD k 0) by rw [encInts_take _ _ (by omega), List.append_assoc])
      have HII := Lib.hid (show ∀ W, (Instr.index 58 (.agg #[.int .i64 x0, .int .i64 x1, .int .i64 x2, .int .i64 x3, .int .i64 x4, .int .i64 x5, .int .i64 x6, .int .i64 x7]) (.int .i64 (k : Int))).run Tryz.prog W = .ok (.int .i64 (j.base.getD k 0)) W from fun W => by rw [HX.out]; exact HI.out k hkl W)
      obtain ⟨y, hy⟩ : ∃ y, y = j.base.getD k 0 := ⟨_, rfl⟩
      rw [← hy] at H64 HS HII
      have hii := HII.out
      have HPP := Lib.hid hp
      have k0 : (0 : Int) ≤ (k : Int) := by omega
      have k1 : (k : Int) < 8 := by omega
      clear hp hy HII b0 b1 b2 b3 b4 b5 b6 b7
      go_wp2_with fail
      refine (WP.int y H64.out (by rw [List.length_append]; omega) HPP.out).mono ?_
      rintro e w6 ⟨rfl, h6⟩
      have H6 := Lib.hid h6
      clear h6
      go_wp2_with fail
      go_roundw
      case rel => exact ⟨k + 1, by go_num, by omega, by rw [HS.out]; exact H6.out⟩
      case measure => simp [intOf]; omega
    · obtain rfl : k = 8 := by omega
      rw [List.take_of_length_le (by omega)] at hp h5
      have hj2 := hp.chg.blk HJ.out HNJ.out
      have c8 : wr.cell? ⟨jb, 8, none⟩ = some (.slice E j.events.length c) := (hj2.cell 8).trans (jcells_ev _ _ _ v2)
      have H5 := Lib.hid hp
      clear hp hj2 b0 b1 b2 b3 b4 b5 b6 b7
      go_wp2_with fail
      refine (WP.num j.events.length (by omega) (by rw [List.length_append]; omega) H5.out).mono ?_
      rintro e w7 ⟨rfl, h7⟩
      have hj3 := h7.chg.blk HJ.out HNJ.out
      have c8' : w7.cell? ⟨jb, 8, none⟩ = some (.slice E j.events.length c) := (hj3.cell 8).trans (jcells_ev _ _ _ v2)
      obtain ⟨B, hB⟩ : ∃ B, B = encNum j.version ++ encInts j.base ++ encNum j.events.length := ⟨_, rfl⟩
      rw [← hB] at h7
      have HBE := Lib.hid (show encJour j = B ++ encEvents j.events by rw [hB]; simp [encJour])
      have hBl : B.length ≤ 100 := by rw [hB]; simp only [List.length_append]; omega
      have H7 := Lib.hid h7
      clear h7 hj3 hB
      go_wp2_with fail
      go_loopw [41] (fun s wr => ∃ k : Nat, s = .int .i64 k ∧ k ≤ j.events.length ∧ WP w' wb (fun k => k = wb) (B ++ encEvents (j.events.take k)) wr) (fun s _ => j.events.length - (intOf s).toNat)
      case atStart => exact ⟨0, rfl, by omega, by simpa [encEvents] using H7.out⟩
      case round =>
        obtain ⟨k, rfl, hk2, hp⟩ := hrel
        have h6 : (encEvents (j.events.take k)).length ≤ 18 * 16 := by
          have h1 := encEvents_length (j.events.take k) (fun e he => HV.out e (List.mem_of_mem_take he))
          have h2 : (j.events.take k).length ≤ j.events.length := List.length_take_le' k _
          omega
        by_cases hkl2 : k < j.events.length
        · obtain ⟨ev, hev⟩ : ∃ ev, j.events[k]? = some ev := ⟨_, List.getElem?_eq_getElem hkl2⟩
          obtain ⟨v8, v64⟩ := HV.out ev (List.mem_of_getElem? hev)
          obtain ⟨g1, g2⟩ := evC_get j.events k ev hev
          obtain ⟨gb, hgE, _, _, hcell⟩ := own_cell (hp.chg.owns HO.out HNO.out) (by omega)
          have q0 := hcell _ _ g1
          have q1 := hcell _ _ g2
          subst hgE
          obtain ⟨X1, y1, y2, y3, y4⟩ := hp.rebase
          obtain ⟨bx, hbx⟩ : ∃ b, b = wr.heap.size := ⟨_, rfl⟩
          obtain ⟨W2, hW2⟩ : ∃ W, W = wr.alloc (.cells #[.int .i64 ev.1, .int .i64 ev.2] 146) := ⟨_, rfl⟩
          have hbw : Below wr.heap.size wr W2 := hW2 ▸ (Below.refl _ _).alloc (Nat.le_refl _) _
          have HXB := Lib.hid (fun w3 bs' => y4 W2 w3 bs' hbw)
          have HP2 := Lib.hid (y3 W2 hbw)
          have HBX := Lib.hid (show Blk W2 bx #[.int .i64 ev.1, .int .i64 ev.2] 146 from by rw [hW2, hbx]; exact Blk.new _ _ _)
          have HN := Lib.hid (show ¬ X1 bx from fun hx => by have := y1 _ hx; omega)
          have HS := Lib.hid (show B ++ encEvents (j.events.take (k + 1)) = B ++ encEvents (j.events.take k) ++ encNum ev.1 ++ encInt ev.2 by rw [encEvents_take _ k ev hev]; simp)
          have HW2 := Lib.hid hW2
          have HBN := Lib.hid hbx
          have HV64 := Lib.hid v64
          obtain ⟨rg, hrg⟩ : ∃ rg, rg = ev.1 := ⟨_, rfl⟩
          obtain ⟨vl, hvl⟩ : ∃ vl, vl = ev.2 := ⟨_, rfl⟩
          rw [← hrg] at v8 q0 HBX HS HW2
          rw [← hvl] at q1 HBX HS HW2 HV64
          have hnb := (encNum_length rg (by omega)).2
          have k0 : (0 : Int) ≤ (k : Int) := by omega
          have k1 : (k : Int) < (j.events.length : Int) := by omega
          have hgl := World.block_lt_of_cell? wr _ q0
          simp only at hgl
          clear hp hcell y1 y2 y3 y4 hbw hW2 hbx g1 g2 hev hrg hvl v64
          go_wp2_with fail
          rw [← HW2.out]
          refine (WP.num rg (by omega) (by rw [List.length_append]; omega) HP2.out).mono ?_
          rintro e w8 ⟨rfl, h8⟩
          have hb8 := h8.chg.blk HBX.out HN.out
          rw [HBN.out] at hb8
          have r1 : w8.cell? ⟨wr.heap.size, 1, none⟩ = some (.int .i64 vl) := hb8.cell 1
          have r2 := hb8.lt
          have H8 := Lib.hid h8
          clear h8 hb8
          go_wp2_with fail
          refine (WP.int vl HV64.out (by simp only [List.length_append]; omega) H8.out).mono ?_
          rintro e w9 ⟨rfl, h9⟩
          have H9 := Lib.hid (HXB.out _ _ h9)
          clear h9
          go_wp2_with fail
          go_roundw
          case rel => exact ⟨k + 1, by go_num, by omega, by rw [HS.out]; exact H9.out⟩
          case measure => simp [intOf]; omega
        · obtain rfl : k = j.events.length := by omega
          rw [List.take_of_length_le (Nat.le_refl _), ← HBE.out] at hp
          have H5 := Lib.hid hp
          clear hp h6
          go_wp2_with fail
          refine (WP.bytes (by have := HLE.out; omega) H5.out).mono ?_
          rintro e w5 ⟨A, c, rfl, h6, h7⟩
          have H6 := Lib.hid (own_weaken h6 (Nat.le_trans HS0 H5.out.chg.size))
          have H7 := Lib.hid (show Below w.heap.size w w5 from (HB0.out.trans (H5.out.chg.below (fun k hk => by rw [hk, HWB.out]; omega) HS0)).trans (h7.mono (Nat.le_trans HS0 H5.out.chg.size)))
          clear h6 h7
          go_wp2_with fail
          go_ret
          exact ⟨A, c, rfl, H6.out, H7.out⟩
end Go.Proofs.YtlcdjgpblpodaaaGreatDoor

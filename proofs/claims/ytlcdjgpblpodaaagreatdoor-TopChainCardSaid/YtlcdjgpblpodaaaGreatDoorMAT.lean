/- Cnt2, Sum1, Sum2, Sum3 -/
import Derived.Test.YtlcdjgpblpodaaaGreatDoorMAS
import Derived.Lib.Bytes
namespace Go.Proofs.YtlcdjgpblpodaaaGreatDoor
open Go.RowKit Go.Maps Go.Proofs.YtlcdjgpblpodaaaGreatDoorW.PrintWords

set_option maxRecDepth 100000 in
theorem touch_room (X : Nat → Prop) (tb room : Nat) (ls1 : List ByteArray) (k : ByteArray) (hr : ls1.length + 1 ≤ room) (hr2 : room ≤ 10000) (w : World)
    (HD : Hid (Calls Tryz.prog 162 #[.pointer (some ⟨tb, 0, none⟩), .string k] w fun e w' => (∃ v, e = .returned v) ∧ TabAt w' X tb room ls1 ∧ Chg X w w')) :
    Calls Tryz.prog 93 #[.pointer (some ⟨tb, 0, none⟩), .string k] w fun e w' => e = .returned (.tuple #[.string ⟨#[]⟩, .bool false]) ∧ TabAt w' (fun j => X j ∨ w.heap.size ≤ j) tb room (ls1 ++ [k]) ∧ Chg X w w' := by
  obtain ⟨i9, hi9, hz9, hs9, hb9⟩ := info_parts info9
  go_enter Tryz.func93, Tryz.ntmps93
  go_wp2_with fail
  refine HD.out.mono ?_
  rintro e w1 ⟨⟨v, rfl⟩, h1, hc1⟩
  obtain ⟨L, c, q1, q2, q3, q4⟩ := h1
  have c1 : w1.cell? ⟨tb, 1, none⟩ = some (.slice L ls1.length c) := q2.cell 1
  have hlt := q2.lt
  have hs1 := hc1.size
  have HC1 := Lib.hid hc1
  have HQ1 := Lib.hid q1
  have HQ2 := Lib.hid q2
  have HQ3 := Lib.hid q3
  have HQ4 := Lib.hid q4
  have HNW := Lib.hid (show ∀ j u, ([.string k] : List Value)[j]? = some u → ∃ ad, (some ⟨w1.heap.size, 0, none⟩ : Option Addr) = some ad ∧ (w1.alloc (.cells #[.string k] 9)).cell? (ad.add j) = some u from fun j u hu => ⟨_, rfl, World.news_of_block (Blk.new _ _ _) j u hu⟩)
  clear q1 q2 q3 q4 hc1 HD
  go_wp2_with (at_builtin; refine wpList_append_any (by rfl) (.tmp 16) (.tmp 18) 49 (by rfl) Tryz.underlying49 hi9 hz9 hs9 hb9 rfl (by decide) (by rfl) (own_alloc HQ3.out _) (news := [.string k]) (m := 1) (by rfl) rfl HNW.out (by simp [Value.oneCell']) (by simp) (by omega) (by decide) (Nat.zero_le _) ?_)
  intro v2 w2 ho2 hg2 hat2
  obtain ⟨n1, hn1⟩ : ∃ n, n = ls1.length + 1 := ⟨_, rfl⟩
  rw [← hn1] at ho2
  obtain ⟨L2, c2, rfl⟩ := own_slice ho2
  have hne := own_block_ne HQ3.out HQ2.out (by decide)
  have hcg : Chg (fun j => (Value.slice L ls1.length c).ownBlock = some j) w1 w2 := ((Chg.refl _ w1).alloc (.cells #[.string k] 9)).grown hg2 (fun j hj => .inl hj)
  have hb2 := hcg.blk HQ2.out hne
  have hch : Chg X w w2 := HC1.out.trans hcg (fun j _ e => HQ4.out j e)
  have hin : ∀ j, (Value.slice L2 n1 c2).ownBlock = some j → X j ∨ w.heap.size ≤ j := fun j hj => by
    rcases hat2 with e | e
    · exact .inl (HQ4.out j (by rw [← e]; exact hj))
    · rw [hj] at e; injection e with e; exact .inr (by rw [e]; first | omega | (simp; omega))
  have hfin : TabAt (w2.setCell ⟨tb, 1, none⟩ (.slice L2 n1 c2)) (fun j => X j ∨ w.heap.size ≤ j) tb room (ls1 ++ [k]) := by
    refine ⟨L2, c2, .inl HQ1.out, by rw [List.length_append, show ls1.length + [k].length = n1 from hn1.symm]; exact hb2.set 1 _, ?_, by rw [List.length_append, show ls1.length + [k].length = n1 from hn1.symm]; exact hin⟩
    have he : encs Value.string (ls1 ++ [k]) = encs Value.string ls1 ++ [.string k] := by simp [encs]
    rw [he, List.length_append, show ls1.length + [k].length = n1 from hn1.symm]
    refine own_setCell ho2 (fun e => ?_) _
    have hn := own_block_ne ho2 hb2 (by decide)
    exact hn e.symm
  have d1 : w2.cell? ⟨tb, 1, none⟩ = some (.slice L ls1.length c) := hb2.cell 1
  have f1 := hb2.free 1
  have hlt2 := hb2.lt
  have HFIN := Lib.hid hfin
  have HCH := Lib.hid (hch.put tb 1 (.inl HQ1.out) (.slice L2 n1 c2))
  obtain ⟨W3, hW3⟩ : ∃ V, V = w2.setCell ⟨tb, 1, none⟩ (.slice L2 n1 c2) := ⟨_, rfl⟩
  have hb3 : Blk W3 tb #[.int .i64 room, .slice L2 n1 c2] 187 := hW3 ▸ hb2.set 1 _
  rw [← hW3] at HFIN HCH
  have e0 : W3.drew.cell? ⟨tb, 0, none⟩ = some (.int .i64 room) := hb3.cell 0
  have e1 : W3.drew.cell? ⟨tb, 1, none⟩ = some (.slice L2 n1 c2) := hb3.cell 1
  have HM := Lib.hid (most_any tb room (by omega) W3.drew e0)
  have t0 : decide (n1 ≤ room) = true := decide_eq_true (by omega)
  have HW3 := Lib.hid hW3
  clear hn1 ho2 hg2 hat2 hne hcg hb2 hch hin hfin hW3 hb3
  go_upto_region 5 with fail
  rw [← HW3.out]
  go_region_held3 (fun w' => w'.cell? ⟨tb, 0, none⟩ = some (.int .i64 room) ∧ w'.cell? ⟨tb, 1, none⟩ = some (.slice L2 n1 c2)) (exact ⟨e0, e1⟩)
    (first | (go_at_call 163; refine HM.out.mono ?_; rintro e w' ⟨rfl, rfl⟩))
  obtain ⟨W4, hW4⟩ : ∃ V, V = W3.drew := ⟨_, rfl⟩
  have HFIN4 := Lib.hid (hW4 ▸ HFIN.out.chg ((Chg.refl (fun _ => False) W3).drew) (fun _ _ h => h) : TabAt W4 _ _ _ _)
  have HCH4 := Lib.hid (show Chg X w W4 from hW4 ▸ HCH.out.drew)
  rw [← hW4]
  clear hW4
  go_wp2_with fail
  go_ret2
  exact ⟨rfl, HFIN4.out, HCH4.out⟩
theorem touch_first (X : Nat → Prop) (tb room : Nat) (k : ByteArray) (hr : 1 ≤ room) (hr2 : room ≤ 10000) (w : World) (h : TabAt w X tb room []) :
    Calls Tryz.prog 93 #[.pointer (some ⟨tb, 0, none⟩), .string k] w fun e w' => e = .returned (.tuple #[.string ⟨#[]⟩, .bool false]) ∧ TabAt w' (fun j => X j ∨ w.heap.size ≤ j) tb room [k] ∧ Chg X w w' :=
  touch_room X tb room [] k hr hr2 w ((drop_none X tb room [] k rfl w h).mono fun _ _ q => ⟨⟨_, q.1⟩, h.chg (Chg.of_below q.2 (fun _ => False)) (fun _ _ h => h), Chg.of_below q.2 X⟩)
theorem touch_same (X : Nat → Prop) (tb room : Nat) (k : ByteArray) (hr : 1 ≤ room) (hr2 : room ≤ 10000) (w : World) (h : TabAt w X tb room [k]) :
    Calls Tryz.prog 93 #[.pointer (some ⟨tb, 0, none⟩), .string k] w fun e w' => e = .returned (.tuple #[.string ⟨#[]⟩, .bool false]) ∧ TabAt w' (fun j => X j ∨ w.heap.size ≤ j) tb room [k] ∧ Chg X w w' :=
  touch_room X tb room [] k hr hr2 w ((drop_one X tb room k w h).mono fun _ _ q => ⟨⟨_, q.1⟩, q.2⟩)
set_option maxRecDepth 100000 in
theorem touch_evict (X : Nat → Prop) (tb : Nat) (j k : ByteArray) (hjk : ([j].any fun y => k.toList == y.toList) = false) (w : World) (h : TabAt w X tb 1 [j]) :
    Calls Tryz.prog 93 #[.pointer (some ⟨tb, 0, none⟩), .string k] w fun e w' => e = .returned (.tuple #[.string j, .bool true]) ∧ TabAt w' (fun j => X j ∨ w.heap.size ≤ j) tb 1 [k] ∧ Chg X w w' := by
  obtain ⟨i9, hi9, hz9, hs9, hb9⟩ := info_parts info9
  have HD := Lib.hid (drop_none X tb 1 [j] k hjk w h)
  obtain ⟨L, c, q1, q2, q3, q4⟩ := h
  have HQ1 := Lib.hid q1
  have HQ2 := Lib.hid q2
  have HQ3 := Lib.hid q3
  have HQ4 := Lib.hid q4
  clear q1 q2 q3 q4 hjk
  go_enter Tryz.func93, Tryz.ntmps93
  go_wp2_with fail
  refine HD.out.mono ?_
  rintro e w1 ⟨rfl, hc1⟩
  have hb1 := HQ2.out.below hc1
  have c1 : w1.cell? ⟨tb, 1, none⟩ = some (.slice L 1 c) := hb1.cell 1
  have hlt := hb1.lt
  have hs1 := hc1.size
  have HC1 := Lib.hid hc1
  have HB1 := Lib.hid hb1
  have HO1 := Lib.hid (own_below HQ3.out hc1)
  have HNW := Lib.hid (show ∀ j u, ([.string k] : List Value)[j]? = some u → ∃ ad, (some ⟨w1.heap.size, 0, none⟩ : Option Addr) = some ad ∧ (w1.alloc (.cells #[.string k] 9)).cell? (ad.add j) = some u from fun j u hu => ⟨_, rfl, World.news_of_block (Blk.new _ _ _) j u hu⟩)
  clear hc1 hb1 HD
  go_wp2_with (at_builtin; refine wpList_append_any (by rfl) (.tmp 16) (.tmp 18) 49 (by rfl) Tryz.underlying49 hi9 hz9 hs9 hb9 rfl (by decide) (by rfl) (own_alloc HO1.out _) (news := [.string k]) (m := 1) (by rfl) rfl HNW.out (by simp [Value.oneCell']) (by simp) (by simp) (by decide) (Nat.zero_le _) ?_)
  intro v2 w2 ho2 hg2 hat2
  have ho2' : w2.ownsRow 0 9 1 v2 2 (encs Value.string [j, k]) := ho2
  obtain ⟨L2, c2, rfl⟩ := own_slice ho2'
  obtain ⟨g2, rfl, _, hgl, hcell⟩ := own_cell ho2' (by omega)
  have hne := own_block_ne HO1.out HB1.out (by decide)
  have hcg : Chg (fun i => (Value.slice L 1 c).ownBlock = some i) w1 w2 := ((Chg.refl _ w1).alloc (.cells #[.string k] 9)).grown hg2 (fun i hi => .inl hi)
  have hb2 := hcg.blk HB1.out hne
  have hch : Chg X w w2 := (Chg.of_below HC1.out X).trans hcg (fun i _ e => HQ4.out i e)
  have hgt : g2 ≠ tb := fun e => own_block_ne ho2' hb2 (by decide) (e ▸ rfl)
  have d1 : w2.cell? ⟨tb, 1, none⟩ = some (.slice L 1 c) := hb2.cell 1
  have f1 := hb2.free 1
  have hlt2 := hb2.lt
  obtain ⟨W3, hW3⟩ : ∃ V, V = w2.setCell ⟨tb, 1, none⟩ (.slice (some ⟨g2, 0, none⟩) 2 c2) := ⟨_, rfl⟩
  have hb3 : Blk W3 tb #[.int .i64 1, .slice (some ⟨g2, 0, none⟩) 2 c2] 187 := hW3 ▸ hb2.set 1 _
  have ho3 : W3.ownsRow 0 9 1 (.slice (some ⟨g2, 0, none⟩) 2 c2) 2 (encs Value.string [j, k]) := hW3 ▸ own_setCell ho2' (fun e => hgt (by injection e with e; exact e.symm)) _
  have HCH := Lib.hid (show Chg X w W3 from hW3 ▸ hch.put tb 1 (.inl HQ1.out) _)
  have e0 : W3.drew.cell? ⟨tb, 0, none⟩ = some (.int .i64 1) := hb3.cell 0
  have e1 : W3.drew.cell? ⟨tb, 1, none⟩ = some (.slice (some ⟨g2, 0, none⟩) 2 c2) := hb3.cell 1
  have HM := Lib.hid (most_any tb 1 (by omega) W3.drew e0)
  have HW3 := Lib.hid hW3
  have HB3 := Lib.hid hb3
  have HO3 := Lib.hid ho3
  clear ho2 ho2' hg2 hat2 hne hcg hb2 hch hcell hW3 hb3 ho3
  go_upto_region 5 with fail
  rw [← HW3.out]
  go_region_held3 (fun w' => w'.cell? ⟨tb, 0, none⟩ = some (.int .i64 1) ∧ w'.cell? ⟨tb, 1, none⟩ = some (.slice (some ⟨g2, 0, none⟩) 2 c2)) (exact ⟨e0, e1⟩)
    (first | (go_at_call 163; refine HM.out.mono ?_; rintro e w' ⟨rfl, rfl⟩))
  obtain ⟨W4, hW4⟩ : ∃ V, V = W3.drew := ⟨_, rfl⟩
  have hb4 : Blk W4 tb #[.int .i64 1, .slice (some ⟨g2, 0, none⟩) 2 c2] 187 := hW4 ▸ HB3.out
  have ho4 : W4.ownsRow 0 9 1 (.slice (some ⟨g2, 0, none⟩) 2 c2) 2 (encs Value.string [j, k]) := hW4 ▸ World.ownsRow.drew HO3.out
  have HCH4 := Lib.hid (show Chg X w W4 from hW4 ▸ HCH.out.drew)
  rw [← hW4] at e0 e1 ⊢
  obtain ⟨_, hg2', _, hgl4, hcell4⟩ := own_cell ho4 (by omega)
  obtain rfl : g2 = _ := by injection hg2' with h; injection h
  have x0 : W4.cell? ⟨g2, 0, none⟩ = some (.string j) := hcell4 0 _ rfl
  have hcap := own_le ho4
  have x1 : W4.cell? ⟨g2, 1, none⟩ = some (.string k) := hcell4 1 _ rfl
  have hr3 : ReadsOf Value.string (⟨#[]⟩ : ByteArray) W4 (some ⟨g2, 1, none⟩) 1 [k] := ⟨rfl, by omega, fun _ => ⟨_, rfl, fun i hi => by
    obtain rfl : i = 0 := by omega
    exact x1⟩⟩
  have HCL := Lib.hid (clone122 (some ⟨g2, 1, none⟩) (c2 - 1) [k] W4 hr3 (fun a ha => by injection ha with ha; rw [← ha]) (by simp))
  have HB4 := Lib.hid hb4
  clear hW4 hb4 ho4 hg2' hcell4 hr3
  go_wp2_with fail
  refine HCL.out.mono ?_
  rintro e w5 ⟨A5, c5, rfl, ho5, hb5⟩
  have hb5' := HB4.out.below hb5
  have k1 : w5.cell? ⟨tb, 1, none⟩ = some (.slice (some ⟨g2, 0, none⟩) 2 c2) := hb5'.cell 1
  have k2 := hb5'.free 1
  have HO5 := Lib.hid ho5
  have HB5 := Lib.hid hb5'
  have HC5 := Lib.hid (HCH4.out.then_below hb5)
  clear ho5 hb5 hb5'
  go_wp2_with fail
  go_ret2
  have hsz := HCH4.out.size
  refine ⟨rfl, ⟨A5, c5, .inl HQ1.out, HB5.out.set 1 _, own_setCell (own_weaken HO5.out (Nat.zero_le _)) (fun e => own_block_ne HO5.out HB5.out (by decide) e.symm) _, fun i hi => .inr (by have := own_base HO5.out i hi; omega)⟩, HC5.out.put tb 1 (.inl HQ1.out) _⟩
end Go.Proofs.YtlcdjgpblpodaaaGreatDoor
namespace Go.Proofs.YtlcdjgpblpodaaaGreatDoor
open Go.RowKit Go.Maps Go.Proofs.YtlcdjgpblpodaaaGreatDoorW.PrintWords

theorem sum_any (A : Option Addr) (c : Nat) (xs : List Int) (w : World) (hr : ReadsOf (Value.int .u8) (0 : Int) w A xs.length xs) :
    Calls Tryz.prog 238 #[.slice A xs.length c] w fun e w' => (∃ x : Int, e = .returned (.int .u64 x)) ∧ w = w' := by
  have HR := Lib.hid hr
  clear hr
  go_enter Tryz.func238, Tryz.ntmps238
  go_wp2_with fail
  go_loopw [3, 8] (fun x s wr => ∃ (k : Nat) (v : Int), x = .int .u64 v ∧ s = .int .i64 k ∧ k ≤ xs.length ∧ w = wr) (fun _ s _ => xs.length - (intOf s).toNat)
  case atStart => exact ⟨0, _, rfl, rfl, Nat.zero_le _, rfl⟩
  case round =>
    obtain ⟨k, v, rfl, rfl, hk, rfl⟩ := hrel
    have k0 : (0 : Int) ≤ (k : Int) := by omega
    have hbig := HR.out.2.1
    by_cases hkl : k < xs.length
    · have k1 : (k : Int) < (xs.length : Int) := by omega
      obtain ⟨a, rfl, hcell⟩ := HR.out.2.2 (by omega)
      have g0 := hcell k hkl
      obtain ⟨b, off, sp⟩ := a
      obtain rfl : sp = none := by simpa [Addr.add] using World.cell?_spot (hcell 0 (by omega))
      rw [Go.WideShapes.add_plain] at g0
      clear hcell
      go_wp2_with fail
      go_roundw
      case rel => exact ⟨k + 1, _, rfl, by go_num, by omega, trivial⟩
      case measure => simp [intOf]; omega
    · obtain rfl : k = xs.length := by omega
      go_wp2_with fail
      go_ret
      exact ⟨⟨_, rfl⟩, rfl⟩
theorem own_setCells {w : World} {base g n cap : Nat} : ∀ (vs : List Int) (o : Nat) (W : World) (bs : List Int), W.ownsRow base 5 1 (.slice (some ⟨g, 0, none⟩) n cap) n (encs (Value.int .u8) bs) → o + vs.length ≤ n → Chg (fun k => k = g) w W →
    ∃ bs' : List Int, (W.setCells g o (encs (Value.int .u8) vs)).ownsRow base 5 1 (.slice (some ⟨g, 0, none⟩) n cap) n (encs (Value.int .u8) bs') ∧ (∀ i, i < o → bs'[i]? = bs[i]?) ∧ bs'.length = bs.length ∧ Chg (fun k => k = g) w (W.setCells g o (encs (Value.int .u8) vs))
  | [], o, W, bs, h, _, hc => ⟨bs, h, fun _ _ => rfl, rfl, hc⟩
  | v :: r, o, W, bs, h, hl, hc => by
    have h1 := (own_store_of h (o : Int) v).1
    obtain ⟨bs', q1, q2, q3, q4⟩ := own_setCells r (o + 1) (W.setCell ⟨g, o, none⟩ (.int .u8 v)) (bs.set o v) h1 (by simp at hl; omega) (hc.put g o (.inl rfl) _)
    exact ⟨bs', q1, fun i hi => by rw [q2 i (by omega), List.getElem?_set_ne (by omega)], by simpa using q3, q4⟩
/-- A row of n bytes that are written one by one; B: of new memory. -/
structure Row5 (w0 w : World) (g n : Nat) (kind : Int) (at8 : Bool) : Prop where
  own : ∃ bs : List Int, w.ownsRow w0.heap.size 5 1 (.slice (some ⟨g, 0, none⟩) n n) n (encs (Value.int .u8) bs) ∧ bs.length = n ∧ (at8 = true → bs[8]? = some kind)
  chg : Below w0.heap.size w0 w
theorem Row5.cells {w0 w : World} {g n : Nat} {kind : Int} {at8 : Bool} (h : Row5 w0 w g n kind at8) (i : Nat) (hi : i < n) : ∃ v, w.cell? ⟨g, i, none⟩ = some v ∧ w.frozen? ⟨g, i, none⟩ = false := by
  obtain ⟨bs, h1, h2, h3⟩ := h.own
  obtain ⟨q1, q2⟩ := own_at_of (d := (0 : Int)) h1 (i : Int) (by omega) (by omega)
  exact ⟨_, by simpa using q1, by simpa using q2⟩
theorem Row5.lt {w0 w : World} {g n : Nat} {kind : Int} {at8 : Bool} (h : Row5 w0 w g n kind at8) : g < w.heap.size := by
  obtain ⟨bs, h1, h2, h3⟩ := h.own
  exact own_lt h1 g rfl
theorem Row5.put {w0 w : World} {g n : Nat} {kind : Int} {at8 : Bool} (h : Row5 w0 w g n kind at8) (i : Nat) (x : Int) (hi : i ≠ 8 ∨ at8 = false) : Row5 w0 (w.setCell ⟨g, i, none⟩ (.int .u8 x)) g n kind at8 := by
  obtain ⟨bs, h1, h2, h3⟩ := h.own
  refine ⟨⟨bs.set i x, (own_store_of h1 (i : Int) x).1, by simp [h2], fun h8 => ?_⟩, h.chg.setCell (p := ⟨g, i, none⟩) (own_base h1 g rfl) _⟩
  rcases hi with hi | hi
  · rw [List.getElem?_set_ne hi]; exact h3 h8
  · rw [hi] at h8; cases h8
theorem Row5.put8 {w0 w : World} {g n : Nat} {kind x : Int} {at8 : Bool} (h : Row5 w0 w g n kind at8) (hn : 8 < n) : Row5 w0 (w.setCell ⟨g, 8, none⟩ (.int .u8 x)) g n x true := by
  obtain ⟨bs, h1, h2, h3⟩ := h.own
  exact ⟨⟨bs.set 8 x, (own_store_of h1 8 x).1, by simp [h2], fun _ => by simp [h2, hn]⟩, h.chg.setCell (p := ⟨g, 8, none⟩) (own_base h1 g rfl) _⟩
theorem Row5.made {w W : World} {g n : Nat} (kind : Int) (ho : W.ownsRow w.heap.size 5 1 (.slice (some ⟨g, 0, none⟩) n n) n (madeCells (Value.int .u8 0).cells (n * 1)).toList) (hg : w.grownBy W none) : Row5 w W g n kind false := by
  have he : (madeCells (Value.int .u8 0).cells (n * 1)).toList = encs (Value.int .u8) (List.replicate n 0) := by
    rw [Nat.mul_one]
    apply List.ext_getElem
    · simp [encs, madeCells]
    · intro i h1 h2
      simp [encs, madeCells, Value.cells, Nat.mod_one]
  rw [he] at ho
  exact ⟨⟨List.replicate n 0, ho, by simp, nofun⟩, (Below.refl _ w).grown hg (Nat.le_refl _) (fun _ h => by cases h)⟩
set_option maxRecDepth 100000 in
/-- A log's header. -/
theorem header_any (lb : Nat) (last : Bool) (ep : Int) (w : World) (h : w.cell? ⟨lb, 3, none⟩ = some (.int .u64 ep)) :
    Calls Tryz.prog 142 #[.pointer (some ⟨lb, 0, none⟩), .bool last] w fun e w' => ∃ bs : List Int, e = .returned (.slice (some ⟨w.heap.size, 0, none⟩) 9 9) ∧ bs.length = 9 ∧ w'.ownsRow w.heap.size 5 1 (.slice (some ⟨w.heap.size, 0, none⟩) 9 9) 9 (encs (Value.int .u8) bs) ∧ Below w.heap.size w w' := by
  have H := Lib.hid h
  have hl := World.block_lt_of_cell? w _ h
  simp only at hl
  obtain ⟨g, hg⟩ : ∃ g, g = w.heap.size := ⟨_, rfl⟩
  have HG := Lib.hid hg
  obtain ⟨i5, hi5, hz5, hs5, hb5⟩ := info_parts info5
  rw [← hg]
  clear hg
  clear h
  go_enter Tryz.func142, Tryz.ntmps142
  go_wp2_with (at_make; refine wpList_make_full _ (by rfl) (.const (.int .i64 9)) (.const (.int .i64 9)) 88 (by rfl) w.heap.size 5 i5 (.int .u8 0) 1 Tryz.underlying88 hi5 hz5 hs5 .i64 .i64 9 9 9 (by rfl) (by rfl) rfl rfl (by omega) (by unfold maxLen; omega) (Nat.le_refl _) ?_)
  intro w1 ho1 hg1
  have HR := Lib.hid (Row5.made 0 ho1 hg1)
  rw [← HG.out] at HR ⊢
  clear ho1 hg1
  go_wp2_with fail
  go_loopw [8] (fun s wr => ∃ k : Nat, s = .int .i64 k ∧ k ≤ 8 ∧ Row5 w wr g 9 0 false) (fun s _ => 8 - (intOf s).toNat)
  case atStart => exact ⟨0, rfl, by omega, HR.out⟩
  case round =>
    obtain ⟨k, rfl, hk, hp⟩ := hrel
    have k0 : (0 : Int) ≤ (k : Int) := by omega
    by_cases hkl : k < 8
    · have k1 : (k : Int) < 8 := by omega
      have k2 : (k : Int) < 9 := by omega
      have t0 : IntKind.i64.wrap (8 * (k : Int)) = 8 * (k : Int) := by rw [IntKind.wrap_i64]; omega
      have t1 : (0 : Int) ≤ 8 * (k : Int) := by omega
      obtain ⟨v, hv, hf⟩ := hp.cells k (by omega)
      have hc : wr.cell? ⟨lb, 3, none⟩ = some (.int .u64 ep) := (hp.chg.cell (p := ⟨lb, 3, none⟩) hl).trans H.out
      have hgl := hp.lt
      have HPR := Lib.hid hp
      clear hp
      go_wp2_with fail
      go_roundw
      case rel => exact ⟨k + 1, by go_num, by omega, HPR.out.put k _ (.inr rfl)⟩
      case measure => simp [intOf]; omega
    · obtain rfl : k = 8 := by omega
      obtain ⟨v, hv, hf⟩ := hp.cells 8 (by omega)
      have hgl := hp.lt
      have HPR := Lib.hid hp
      clear hp
      cases last with
      | true =>
        go_wp2_with fail
        go_ret
        have e := HG.out
        subst e
        have h8 := HPR.out.put 8 1 (.inr rfl)
        obtain ⟨bs, q1, q2, _⟩ := h8.own
        exact ⟨bs, rfl, q2, q1, h8.chg⟩
      | false =>
        go_wp2_with fail
        go_ret
        have e := HG.out
        subst e
        obtain ⟨bs, q1, q2, _⟩ := HPR.out.own
        exact ⟨bs, rfl, q2, q1, HPR.out.chg⟩
end Go.Proofs.YtlcdjgpblpodaaaGreatDoor
namespace Go.Proofs.YtlcdjgpblpodaaaGreatDoor
open Go.RowKit Go.Maps Go.Proofs.YtlcdjgpblpodaaaGreatDoorW.PrintWords

theorem Row5.copy {w0 w : World} {g n : Nat} {kind : Int} (h : Row5 w0 w g n kind true) (o : Nat) (vs : List Int) (ho : 8 < o) (hl : o + vs.length ≤ n) : Row5 w0 (w.setCells g o (encs (Value.int .u8) vs)) g n kind true := by
  obtain ⟨bs, h1, h2, h3⟩ := h.own
  obtain ⟨bs', q1, q2, q3, q4⟩ := own_setCells (w := w) vs o w bs h1 hl (Chg.refl _ _)
  exact ⟨⟨bs', q1, by omega, fun h8 => by rw [q2 8 ho]; exact h3 h8⟩, h.chg.trans (q4.below (fun k hk => by rw [hk]; exact own_base h1 g rfl) h.chg.size)⟩
theorem Row5.copied {w0 w : World} {g : Nat} {kind : Int} (h : Row5 w0 w g 256 kind true) (A : Option Addr) (c : Nat) (xs : List Int) (hl : xs.length ≤ 242) (hr : ReadsOf (Value.int .u8) (0 : Int) w A xs.length xs) (ty : Nat) :
    ∃ v w', (Builtin.copy_ #[88, 88] ty #[.slice (some ⟨g, 14, none⟩) 242 242, .slice A xs.length c]).run Tryz.prog w = .ok v w' ∧ Row5 w0 w' g 256 kind true := by
  obtain ⟨i5, hi5, hz5, hs5, hb5⟩ := info_parts info5
  have hinf : (Tryz.prog.info? 5).map (·.size) = some 1 := by simp [hi5, hs5]
  rcases Nat.eq_zero_or_pos xs.length with h0 | h0
  · exact ⟨_, w, run_copy_none w 88 88 ty 5 (some ⟨g, 14, none⟩) A 242 242 xs.length c Tryz.underlying88 hinf (by rw [h0]; rfl), h⟩
  · obtain ⟨a, rfl, hcell⟩ := hr.2.2 h0
    have hc : ∀ j, j < xs.length → ∃ v, w.cell? ⟨g, 14 + j, none⟩ = some v ∧ w.frozen? ⟨g, 14 + j, none⟩ = false := fun j hj => h.cells (14 + j) (by omega)
    have hle : (encs (Value.int .u8) xs).length = xs.length := by simp [encs]
    refine ⟨_, _, run_copy_cells w 88 88 ty 5 g 14 242 242 a xs.length c (encs (Value.int .u8) xs) Tryz.underlying88 hinf (by rw [hle]; exact (Nat.min_eq_left hl).symm) (fun j v hv => ?_) (fun j hj => ?_) (fun j hj => ?_) (by simp [encs, Value.oneCell']), h.copy 14 xs (by omega) (by omega)⟩
    · have hj : j < xs.length := by rw [← hle]; exact (List.getElem?_eq_some_iff.1 hv).1
      rw [hcell j hj]
      simpa [encs, List.getD, hj] using hv
    · obtain ⟨v, h1, _⟩ := hc j (by omega)
      simp [h1]
    · exact (hc j (by omega)).choose_spec.2
set_option maxRecDepth 100000 in
set_option maxHeartbeats 1000000 in
theorem seal_any (kind place : Int) (A : Option Addr) (c : Nat) (xs : List Int) (hl : xs.length ≤ 242) (w : World) (hr : ReadsOf (Value.int .u8) (0 : Int) w A xs.length xs) :
    Calls Tryz.prog 182 #[.int .u8 kind, .int .u32 place, .slice A xs.length c] w fun e w' => ∃ bs : List Int, e = .returned (.tuple #[.slice (some ⟨w.heap.size, 0, none⟩) 256 256, .int .i64 0]) ∧ bs.length = 256 ∧ bs[8]? = some kind ∧ w'.ownsRow w.heap.size 5 1 (.slice (some ⟨w.heap.size, 0, none⟩) 256 256) 256 (encs (Value.int .u8) bs) ∧ Below w.heap.size w w' := by
  have H := Lib.hid hr
  obtain ⟨g, hg⟩ : ∃ g, g = w.heap.size := ⟨_, rfl⟩
  have HG := Lib.hid hg
  obtain ⟨i5, hi5, hz5, hs5, hb5⟩ := info_parts info5
  have t0 : decide ((242 : Int) < (xs.length : Int)) = false := decide_eq_false (by omega)
  rw [← hg]
  clear hg hr
  go_enter Tryz.func182, Tryz.ntmps182
  go_wp2_with (at_make; refine wpList_make_full _ (by rfl) (.const (.int .i64 256)) (.const (.int .i64 256)) 88 (by rfl) w.heap.size 5 i5 (.int .u8 0) 1 Tryz.underlying88 hi5 hz5 hs5 .i64 .i64 256 256 256 (by rfl) (by rfl) rfl rfl (by omega) (by unfold maxLen; omega) (Nat.le_refl _) ?_)
  intro w1 ho1 hg1
  have hR1 := Row5.made 0 ho1 hg1
  rw [← HG.out] at hR1 ⊢
  obtain ⟨v8, hv8, hf8⟩ := hR1.cells 8 (by omega)
  have HR2 := Lib.hid (hR1.put8 (x := kind) (by omega))
  clear ho1 hg1 hR1
  go_wp2_with fail
  go_loopw [19] (fun s wr => ∃ k : Nat, s = .int .i64 k ∧ k ≤ 4 ∧ Row5 w wr g 256 kind true) (fun s _ => 4 - (intOf s).toNat)
  case atStart => exact ⟨0, rfl, by omega, HR2.out⟩
  case round =>
    obtain ⟨k, rfl, hk, hp⟩ := hrel
    have k0 : (0 : Int) ≤ (k : Int) := by omega
    by_cases hkl : k < 4
    · have k1 : (k : Int) < 4 := by omega
      have u0 : IntKind.i64.wrap (9 + (k : Int)) = ((9 + k : Nat) : Int) := by rw [IntKind.wrap_i64]; omega
      have u1 : IntKind.i64.wrap (8 * (k : Int)) = 8 * (k : Int) := by rw [IntKind.wrap_i64]; omega
      have u2 : IntKind.i64.wrap (24 - 8 * (k : Int)) = ((24 - 8 * k : Nat) : Int) := by rw [IntKind.wrap_i64]; omega
      obtain ⟨v, hv, hf⟩ := hp.cells (9 + k) (by omega)
      have hgl := hp.lt
      have HPR := Lib.hid hp
      clear hp
      go_wp2_with fail
      go_roundw
      case rel => exact ⟨k + 1, by go_num, by omega, HPR.out.put (9 + k) _ (.inl (by omega))⟩
      case measure => simp [intOf]; omega
    · obtain rfl : k = 4 := by omega
      obtain ⟨v, hv, hf⟩ := hp.cells 13 (by omega)
      have hgl := hp.lt
      have u3 : (xs.length : Int) % 256 = (xs.length : Int) := by omega
      obtain ⟨W13, hW13⟩ : ∃ V, V = wr.setCell ⟨g, 13, none⟩ (.int .u8 xs.length) := ⟨_, rfl⟩
      have h13 : Row5 w W13 g 256 kind true := hW13 ▸ hp.put 13 _ (.inl (by omega))
      have hr13 : ReadsOf (Value.int .u8) (0 : Int) W13 A xs.length xs := H.out.below h13.chg
      obtain ⟨cv, W14, hcp, h14⟩ := h13.copied A c xs hl hr13 3
      obtain ⟨bs, q1, q2, q3⟩ := h14.own
      have hrd : ReadsOf (Value.int .u8) (0 : Int) W14 (some ⟨g, 8, none⟩) (bs.drop 8).length (bs.drop 8) := by
        obtain ⟨A', c', he, hle, hrd⟩ := own_reads_of_le (d := (0 : Int)) q1
        injection he with he1 _ he3
        subst he1 he3
        have h := hrd.drop_ (c := 256) 8 (by omega) (by omega)
        have e : (bs.drop 8).length = 256 - 8 := by simp [q2]
        rw [e]
        simpa [Addr.add] using h
      have HSUM := Lib.hid (sum_any (some ⟨g, 8, none⟩) 248 (bs.drop 8) W14 hrd)
      rw [show (bs.drop 8).length = 248 by simp [q2]] at HSUM
      have H14 := Lib.hid h14
      have HW13 := Lib.hid hW13
      clear hp h13 hr13 h14 q1 q2 q3 hrd hW13
      go_upto_region 11 with fail
      rw [← HW13.out]
      go_wp2_with fail
      refine HSUM.out.mono ?_
      rintro e w' ⟨⟨x, rfl⟩, rfl⟩
      go_wp2_with fail
      go_loopw [45] (fun s wr => ∃ k : Nat, s = .int .i64 k ∧ k ≤ 8 ∧ Row5 w wr g 256 kind true) (fun s _ => 8 - (intOf s).toNat)
      case atStart => exact ⟨0, rfl, by omega, H14.out⟩
      case round =>
        obtain ⟨k, rfl, hk, hp⟩ := hrel
        have k0 : (0 : Int) ≤ (k : Int) := by omega
        by_cases hkl : k < 8
        · have k1 : (k : Int) < 8 := by omega
          have k2 : (k : Int) < 256 := by omega
          have u1 : IntKind.i64.wrap (8 * (k : Int)) = 8 * (k : Int) := by rw [IntKind.wrap_i64]; omega
          have u2 : IntKind.i64.wrap (56 - 8 * (k : Int)) = ((56 - 8 * k : Nat) : Int) := by rw [IntKind.wrap_i64]; omega
          obtain ⟨v, hv, hf⟩ := hp.cells k (by omega)
          have hgl := hp.lt
          have HPR := Lib.hid hp
          clear hp
          go_wp2_with fail
          go_roundw
          case rel => exact ⟨k + 1, by go_num, by omega, HPR.out.put k _ (.inl (by omega))⟩
          case measure => simp [intOf]; omega
        · obtain rfl : k = 8 := by omega
          have HPR := Lib.hid hp
          clear hp
          go_wp2_with fail
          go_ret2
          have e := HG.out
          subst e
          obtain ⟨bs, q1, q2, q3⟩ := HPR.out.own
          exact ⟨bs, rfl, q2, q3 rfl, q1, HPR.out.chg⟩
end Go.Proofs.YtlcdjgpblpodaaaGreatDoor
namespace Go.Proofs.YtlcdjgpblpodaaaGreatDoor
open Go.RowKit Go.Maps Go.Proofs.YtlcdjgpblpodaaaGreatDoorW.PrintWords

theorem equal207 (A B : Option Addr) (c d : Nat) (xs ys : List Int) (w : World) (hx : ReadsOf (Value.int .u8) (0 : Int) w A xs.length xs) (hy : ReadsOf (Value.int .u8) (0 : Int) w B ys.length ys) :
    Calls Tryz.prog 207 #[.slice A xs.length c, .slice B ys.length d] w fun e w' => e = .returned (.bool ((strOfNums xs).toList == (strOfNums ys).toList)) ∧ w = w' := by
  have h1 := conv_str (c := c) hx
  have h2 := conv_str (c := d) hy
  go_enter Tryz.func207, Tryz.ntmps207
  go_wp2
  go_ret
  exact ⟨rfl, rfl⟩
theorem not_zero (bs : List Int) (kind : Int) (h8 : bs[8]? = some kind) (hk : 0 < kind ∧ kind < 256) (n : Nat) : ((strOfNums bs).toList == (strOfNums (List.replicate n 0)).toList) = false := by
  rw [beq_eq_false_iff_ne]
  intro e
  have e8 := congrArg (fun l : List UInt8 => l[8]?) e
  rw [Lib.strOfNums_toList, Lib.strOfNums_toList] at e8
  simp [Lib.bytesOf, h8, List.getElem?_replicate] at e8
  have := congrArg UInt8.toNat e8.2
  simp at this
  omega
set_option maxRecDepth 100000 in
theorem open_zero (kind place : Int) (hk : 0 < kind ∧ kind < 256) (g : Nat) (w : World) (hr : ReadsOf (Value.int .u8) (0 : Int) w (some ⟨g, 0, none⟩) 256 (List.replicate 256 0)) :
    Calls Tryz.prog 130 #[.int .u8 kind, .int .u32 place, .slice (some ⟨g, 0, none⟩) 256 256] w fun e w' => e = .returned (.tuple #[.slice none 0 0, .bool false]) ∧ Below w.heap.size w w' := by
  have HR := Lib.hid hr
  have c13 : w.cell? ⟨g, 13, none⟩ = some (.int .u8 0) := by
    obtain ⟨a, e, hc⟩ := hr.2.2 (by omega)
    injection e with e
    subst e
    have := hc 13 (by omega)
    rw [Go.WideShapes.add_plain] at this
    rw [this]
    simp [List.getD]
  have hgl := World.block_lt_of_cell? w _ c13
  simp only at hgl
  have HS := Lib.hid (seal_any kind place (some ⟨g, 14, none⟩) 242 [] (by simp) w ⟨rfl, Nat.zero_le _, fun h => absurd h (Nat.lt_irrefl _)⟩)
  clear hr
  go_enter Tryz.func130, Tryz.ntmps130
  go_wp2_with fail
  refine HS.out.mono ?_
  rintro e w1 ⟨bs, rfl, hl, h8, ho, hb⟩
  have HB := Lib.hid hb
  have hz := HR.out.below hb
  obtain ⟨A', c', he, hle, hrd⟩ := own_reads_of_le (d := (0 : Int)) ho
  injection he with he1 _ he3
  subst he1 he3
  have HE := Lib.hid (equal207 (some ⟨w.heap.size, 0, none⟩) (some ⟨g, 0, none⟩) 256 256 bs (List.replicate 256 0) w1 (hl ▸ hrd) (by simpa using hz))
  rw [hl, not_zero bs kind h8 hk, List.length_replicate] at HE
  clear hz ho hrd hb h8 hle
  go_wp2_with fail
  refine HE.out.mono ?_
  rintro e w2 ⟨rfl, rfl⟩
  go_wp2_with fail
  go_ret2
  exact ⟨rfl, HB.out⟩
end Go.Proofs.YtlcdjgpblpodaaaGreatDoor

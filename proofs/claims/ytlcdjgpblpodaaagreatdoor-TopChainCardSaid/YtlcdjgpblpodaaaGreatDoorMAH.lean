/- Let2, Let3 -/
import Derived.Test.YtlcdjgpblpodaaaGreatDoorMAG
import Derived.Laws.ResultCell
import Derived.Laws.Rows
namespace Go.Proofs.YtlcdjgpblpodaaaGreatDoor
open Go.RowKit Go.Proofs.YtlcdjgpblpodaaaGreatDoorW.PrintWords

theorem encInts_take (xs : List Int) (k : Nat) (h : k < xs.length) : encInts (xs.take (k + 1)) = encInts (xs.take k) ++ encInt (xs.getD k 0) := by
  induction xs generalizing k with
  | nil => simp at h
  | cons x r ih =>
    cases k with
    | zero => simp [encInts]
    | succ k => simp at h; simp [encInts, ih k h]
theorem In64.get {xs : List Int} (h : ∀ x ∈ xs, In64 x) (k : Nat) (hk : k < xs.length) : In64 (xs.getD k 0) := h _ (by simp [List.getD, hk])
theorem encInts_take_len {xs : List Int} (h : ∀ x ∈ xs, In64 x) (k : Nat) : (encInts (xs.take k)).length ≤ 9 * xs.length := by
  have h1 := encInts_length (xs.take k) (fun x hx => h x (List.mem_of_mem_take hx))
  have h2 := List.length_take_le k xs
  have h3 : (xs.take k).length ≤ xs.length := List.length_take_le' k xs
  omega

theorem reads_cell {α : Type} {enc : α → Value} {d : α} {w : World} {A : Option Addr} {n : Nat} {xs : List α} (hr : ReadsOf enc d w A n xs) (hp : 0 < n) :
    ∃ b off, A = some ⟨b, off, none⟩ ∧ ∀ j, j < n → w.cell? ⟨b, off + j, none⟩ = some (enc (xs.getD j d)) := by
  obtain ⟨⟨b, off, sp⟩, ha, hc⟩ := hr.2.2 hp
  have h0 := hc 0 hp
  obtain rfl : sp = none := by simpa [Addr.add] using World.cell?_spot h0
  exact ⟨b, off, ha, fun j hj => by have := hc j hj; rwa [show (⟨b, off, none⟩ : Addr).add j = ⟨b, off + j, none⟩ from Go.WideShapes.add_plain b off j] at this⟩

set_option maxRecDepth 100000 in
theorem lay_any {w0 w : World} {wb : Nat} {X XA : Nat → Prop} {bs : List Int} (l : Let) (hl : l.Ok) (A : Option Addr) (c : Nat) (hA : ArgsAt w0 XA A c l.args) (hXA : ∀ k, XA k → ¬ X k) (hb : bs.length ≤ 1000000) (h : WP w0 wb X bs w) :
    Calls Tryz.prog 220 #[.pointer (some ⟨wb, 0, none⟩), .agg #[.string l.frm, .int .u64 l.serial, .int .i64 l.kind, .slice A l.args.length c]] w fun e w' => e = .returned (.tuple #[]) ∧ WP w0 wb X (bs ++ encLet l) w' := by
  obtain ⟨X1, x1, x2, x3, x4⟩ := h.rebase
  obtain ⟨W2, hW2⟩ : ∃ W, W = w.alloc (.cells #[.string l.frm, .int .u64 l.serial, .int .i64 l.kind, .slice A l.args.length c] 65) := ⟨_, rfl⟩
  have hbw : Below w.heap.size w W2 := hW2 ▸ (Below.refl _ _).alloc (Nat.le_refl _) _
  have HX := Lib.hid (fun w3 bs' => x4 W2 w3 bs' hbw)
  have HP := Lib.hid (x3 W2 hbw)
  have HBX := Lib.hid (show Blk W2 w.heap.size #[.string l.frm, .int .u64 l.serial, .int .i64 l.kind, .slice A l.args.length c] 65 from hW2 ▸ Blk.new _ _ _)
  obtain ⟨bx, hbx⟩ : ∃ b, b = w.heap.size := ⟨_, rfl⟩
  rw [← hbx] at HBX
  have HN := Lib.hid (show ¬ X1 bx from fun hx => by have := x1 _ hx; omega)
  have HW := Lib.hid hW2
  have HBX0 := Lib.hid hbx
  have HA := Lib.hid hA
  have HXA := Lib.hid hXA
  have l1 := hl.frm
  have l2 := hl.serial
  have l3 := hl.kind
  have l4 := hl.args
  have HL := Lib.hid hl.each
  have e1 := encText_length l.frm (by omega)
  have e2 := (encNum_length l.serial l2).2
  have e3 := (encInt_length l.kind l3).2
  have e4 := (encNum_length l.args.length (by omega)).2
  clear x1 x2 x3 x4 hbw hW2 hbx hA h hXA
  go_enter Tryz.func220, Tryz.ntmps220
  go_wp2_with fail
  rw [← HW.out, ← HBX0.out]
  refine (WP.text l.frm (by omega) (by omega) HP.out).mono ?_
  rintro e w1 ⟨rfl, h1⟩
  have H1 := Lib.hid h1
  have b1 := h1.chg.blk HBX.out HN.out
  have c1 : w1.cell? ⟨bx, 1, none⟩ = some (.int .u64 l.serial) := b1.cell 1
  have g1 := b1.lt
  clear h1 b1
  go_wp2_with fail
  refine (WP.num l.serial l2 (by rw [List.length_append]; omega) H1.out).mono ?_
  rintro e w2 ⟨rfl, h1⟩
  have H2 := Lib.hid h1
  have b1 := h1.chg.blk HBX.out HN.out
  have c2 : w2.cell? ⟨bx, 2, none⟩ = some (.int .i64 l.kind) := b1.cell 2
  have g2 := b1.lt
  clear h1 b1 H1 c1 g1
  go_wp2_with fail
  refine (WP.int l.kind l3 (by simp only [List.length_append]; omega) H2.out).mono ?_
  rintro e w3 ⟨rfl, h1⟩
  have H3 := Lib.hid h1
  have b1 := h1.chg.blk HBX.out HN.out
  have c3 : w3.cell? ⟨bx, 3, none⟩ = some (.slice A l.args.length c) := b1.cell 3
  have g3 := b1.lt
  clear h1 b1 H2 c2 g2
  go_wp2_with fail
  refine (WP.num l.args.length (by omega) (by simp only [List.length_append]; omega) H3.out).mono ?_
  rintro e w4 ⟨rfl, h1⟩
  have b1 := h1.chg.blk HBX.out HN.out
  have c4 : w4.cell? ⟨bx, 3, none⟩ = some (.slice A l.args.length c) := b1.cell 3
  have g4 := b1.lt
  obtain ⟨B, hB⟩ : ∃ B, B = bs ++ encText l.frm ++ encNum l.serial ++ encInt l.kind ++ encNum l.args.length := ⟨_, rfl⟩
  rw [← hB] at h1
  have hBl : B.length ≤ 1000100 := by rw [hB]; simp only [List.length_append]; omega
  have H4 := Lib.hid h1
  have HB := Lib.hid (show bs ++ encLet l = B ++ encInts l.args by rw [hB]; simp [encLet])
  clear h1 b1 H3 c3 g3 hB
  go_wp2_with fail
  go_loopw [27] (fun s wr => ∃ k : Nat, s = .int .i64 k ∧ k ≤ l.args.length ∧ WP W2 wb X1 (B ++ encInts (l.args.take k)) wr) (fun s _ => l.args.length - (intOf s).toNat)
  case atStart => exact ⟨0, rfl, Nat.zero_le _, by simpa [encInts] using H4.out⟩
  case round =>
    obtain ⟨k, rfl, hk, hp⟩ := hrel
    have h5 := encInts_take_len HL.out k
    by_cases hkl : k < l.args.length
    · have hA2 := HA.out.chg (HX.out _ _ hp).chg HXA.out
      obtain ⟨ab, ao, hAa, hcell⟩ := reads_cell hA2.1 (by omega)
      have g0 := hcell k hkl
      have H64 := Lib.hid (In64.get HL.out k hkl)
      have HS := Lib.hid (show B ++ encInts (l.args.take (k + 1)) = B ++ encInts (l.args.take k) ++ encInt (l.args.getD k 0) by rw [encInts_take _ _ hkl, List.append_assoc])
      subst hAa
      have HP5 := Lib.hid hp
      obtain ⟨y, hy⟩ : ∃ y, y = l.args.getD k 0 := ⟨_, rfl⟩
      rw [← hy] at g0 H64 HS
      have k0 : (0 : Int) ≤ (k : Int) := by omega
      have k1 : (k : Int) < (l.args.length : Int) := by omega
      clear hA2 hcell hp hy
      go_wp2_with fail
      refine (WP.int y H64.out (by simp only [List.length_append]; omega) HP5.out).mono ?_
      rintro e w6 ⟨rfl, h6⟩
      have H6 := Lib.hid h6
      clear h6
      go_wp2_with fail
      go_roundw
      case rel => exact ⟨k + 1, by go_num, by omega, by rw [HS.out]; exact H6.out⟩
      case measure => simp [intOf]; omega
    · obtain rfl : k = l.args.length := by omega
      rw [List.take_of_length_le (Nat.le_refl _), ← HB.out] at hp
      have H5 := Lib.hid (HX.out _ _ hp)
      clear hp h5
      go_wp2
      go_end0
      exact ⟨rfl, H5.out⟩

theorem encLetList_take (ls : List Let) (k : Nat) (l : Let) (h : ls[k]? = some l) : encLetList (ls.take (k + 1)) = encLetList (ls.take k) ++ encLet l := by
  induction ls generalizing k with
  | nil => simp at h
  | cons x r ih =>
    cases k with
    | zero => simp at h; subst h; simp [encLetList]
    | succ k => simp at h; simp [encLetList, ih k h]
set_option maxRecDepth 100000 in
theorem pack_any (LA : Option Addr) (lc : Nat) (ls : List Let) (hl : ∀ l ∈ ls, l.Ok) (h8 : ls.length ≤ 8) (X : Nat → Prop) (w : World) (hL : LetsAt w X LA ls) :
    Calls Tryz.prog 159 #[.slice LA ls.length lc] w fun e w' => ∃ A c, e = .returned (.tuple #[.slice A (encLets ls).length c, .int .i64 0]) ∧ w'.ownsRow w.heap.size 5 1 (.slice A (encLets ls).length c) (encLets ls).length (encs (Value.int .u8) (encLets ls)) ∧ Below w.heap.size w w' := by
  obtain ⟨W0, hW0⟩ : ∃ W, W = w.alloc (.cells #[.slice none 0 0] 319) := ⟨_, rfl⟩
  have hb0 : Below w.heap.size w W0 := hW0 ▸ (Below.refl _ _).alloc (Nat.le_refl _) _
  have HB0 := Lib.hid hb0
  have HL := Lib.hid (hL.lt.below hb0)
  have HP := Lib.hid (show WP W0 w.heap.size (fun k => k = w.heap.size) [] W0 from hW0 ▸ WP.new w)
  have HOK := Lib.hid hl
  have e1 := (encNum_length ls.length (by omega)).2
  have HC := Lib.hid (newwriter w)
  rw [← hW0] at HC
  have HS0 : w.heap.size ≤ W0.heap.size := hb0.size
  obtain ⟨wb, hwb⟩ : ∃ b, b = w.heap.size := ⟨_, rfl⟩
  rw [← hwb] at HP HC
  have HWB := Lib.hid hwb
  clear hL hl hb0 hW0 hwb
  go_enter Tryz.func159, Tryz.ntmps159
  go_wp2_with fail
  refine HC.out.mono ?_
  rintro e w' ⟨rfl, rfl⟩
  go_wp2_with fail
  refine (WP.num ls.length (by omega) (by simp) HP.out).mono ?_
  rintro e w1 ⟨rfl, h1⟩
  rw [List.nil_append] at h1
  have H1 := Lib.hid h1
  clear h1
  go_wp2_with fail
  go_loopw [15] (fun s wr => ∃ k : Nat, s = .int .i64 k ∧ k ≤ ls.length ∧ WP w' wb (fun k => k = wb) (encNum ls.length ++ encLetList (ls.take k)) wr) (fun s _ => ls.length - (intOf s).toNat)
  case atStart => exact ⟨0, rfl, Nat.zero_le _, by simpa [encLetList] using H1.out⟩
  case round =>
    obtain ⟨k, rfl, hk, hp⟩ := hrel
    have h5 : (encLetList (ls.take k)).length ≤ 112 * 8 := by
      have h1 := (encLetList_length (ls.take k) (fun l hl => HOK.out l (List.mem_of_mem_take hl))).2
      have h2 : (ls.take k).length ≤ ls.length := List.length_take_le' k ls
      omega
    by_cases hkl : k < ls.length
    · obtain ⟨l, hlk⟩ : ∃ l, ls[k]? = some l := ⟨_, List.getElem?_eq_getElem hkl⟩
      have hok := HOK.out l (List.mem_of_getElem? hlk)
      have hXn : ∀ k, (True ∧ k < w.heap.size) → ¬ k = wb := fun k h => by rw [HWB.out]; omega
      have hL1 := (HL.out.mono (fun k h => (⟨trivial, h.2⟩ : True ∧ k < w.heap.size)))
      obtain ⟨b, off, rfl, hXb, hcell⟩ := hL1 (by intro h; simp [h] at hkl)
      obtain ⟨A, c, q0, q1, q2, q3, g4⟩ := hcell k l hlk
      have hbn : ¬ b = wb := hXn b hXb
      have g0 := hp.chg.cell (a := ⟨b, off + k * 4, none⟩) hbn q0
      have g1 := hp.chg.cell (a := ⟨b, off + k * 4 + 1, none⟩) hbn q1
      have g2 := hp.chg.cell (a := ⟨b, off + k * 4 + 2, none⟩) hbn q2
      have g3 := hp.chg.cell (a := ⟨b, off + k * 4 + 3, none⟩) hbn q3
      have HA := Lib.hid g4
      have HXn := Lib.hid hXn
      have hbl := World.block_lt_of_cell? wr _ g0
      simp only at hbl
      have l1 := hok.frm
      have l2 := hok.args
      have HK := Lib.hid hok
      have HS := Lib.hid (show encNum ls.length ++ encLetList (ls.take (k + 1)) = encNum ls.length ++ encLetList (ls.take k) ++ encLet l by rw [encLetList_take ls k l hlk, List.append_assoc])
      obtain ⟨W2, hW2⟩ : ∃ W, W = (wr.alloc (.cells #[.string l.frm, .int .u64 l.serial, .int .i64 l.kind, .slice A l.args.length c] 65)).alloc (.cells #[.string l.frm, .int .u64 l.serial, .int .i64 l.kind, .slice A l.args.length c] 65) := ⟨_, rfl⟩
      have HP2 := Lib.hid (show WP w' wb (fun k => k = wb) (encNum ls.length ++ encLetList (ls.take k)) W2 from hp.later (hW2 ▸ ((Below.refl _ _).alloc (Nat.le_refl _) _).alloc (by simp) _))
      have HW2 := Lib.hid hW2
      have k0 : (0 : Int) ≤ (k : Int) := by omega
      have k1 : (k : Int) < (ls.length : Int) := by omega
      clear hp hXn hL1 hXb hcell q0 q1 q2 q3 g4 hok hlk hW2
      go_wp2_with fail
      refine (formed_letter _ _ _ _ _ _ l1 l2 _).mono ?_
      rintro e w3 ⟨rfl, rfl⟩
      rw [← HW2.out]
      have HBX := Lib.hid (show Blk W2 wr.heap.size #[.string l.frm, .int .u64 l.serial, .int .i64 l.kind, .slice A l.args.length c] 65 from HW2.out ▸ (Blk.new _ _ _).alloc _)
      have d0 : W2.cell? ⟨wr.heap.size, 0, none⟩ = some (.string l.frm) := HBX.out.cell 0
      have d1 : W2.cell? ⟨wr.heap.size, 1, none⟩ = some (.int .u64 l.serial) := HBX.out.cell 1
      have d2 : W2.cell? ⟨wr.heap.size, 2, none⟩ = some (.int .i64 l.kind) := HBX.out.cell 2
      have d3 : W2.cell? ⟨wr.heap.size, 3, none⟩ = some (.slice A l.args.length c) := HBX.out.cell 3
      have d4 := HBX.out.lt
      go_wp2_with fail
      refine (lay_any l HK.out A c HA.out HXn.out (by rw [List.length_append]; omega) HP2.out).mono ?_
      rintro e w6 ⟨rfl, h6⟩
      have H6 := Lib.hid h6
      clear h6
      go_wp2_with fail
      go_roundw
      case rel => exact ⟨k + 1, by go_num, by omega, by rw [HS.out]; exact H6.out⟩
      case measure => simp [intOf]; omega
    · obtain rfl : k = ls.length := by omega
      rw [List.take_of_length_le (Nat.le_refl _), ← encLets] at hp
      have H5 := Lib.hid hp
      have hlen := encLets_length ls HOK.out h8
      clear hp
      go_wp2_with fail
      refine (WP.bytes (by omega) H5.out).mono ?_
      rintro e w5 ⟨A, c, rfl, h6, h7⟩
      have H6 := Lib.hid (own_weaken h6 (Nat.le_trans HS0 H5.out.chg.size))
      have H7 := Lib.hid (show Below w.heap.size w w5 from (HB0.out.trans (H5.out.chg.below (fun k hk => by rw [hk, HWB.out]; omega) HS0)).trans (h7.mono (Nat.le_trans HS0 H5.out.chg.size)))
      clear h6 h7
      go_wp2_with fail
      go_ret2
      exact ⟨A, c, rfl, H6.out, H7.out⟩
end Go.Proofs.YtlcdjgpblpodaaaGreatDoor
namespace Go.Proofs.YtlcdjgpblpodaaaGreatDoor
open Go.RowKit Go.Proofs.YtlcdjgpblpodaaaGreatDoorW.PrintWords

theorem info2 : (Tryz.prog.info? 2).map (fun i => (i.zero, i.size, i.bytes)) = some (some (.int .i64 0), 1, 8) := by kernel_rfl
theorem encInts_drop (xs : List Int) (k : Nat) (h : k < xs.length) : encInts (xs.drop k) = encInt (xs.getD k 0) ++ encInts (xs.drop (k + 1)) := by
  rw [List.drop_eq_getElem_cons h, encInts, show xs.getD k 0 = xs[k] by simp [List.getD, h]]
theorem Blk.same {w : World} {b : Nat} {C C' : Array Value} {t : TypeId} (h : Blk w b C t) (e : C = C') : Blk w b C' t := e ▸ h

theorem own_set {w : World} {base n size e b t i : Nat} {v : Value} {xs : List Value} {C : Array Value} (h : w.ownsRow base e size v n xs) (hb : Blk w b C t) (hne : e ≠ t) (u : Value) : (w.setCell ⟨b, i, none⟩ u).ownsRow base e size v n xs :=
  own_setCell h (p := ⟨b, i, none⟩) (fun e' => own_block_ne h hb hne e'.symm) u
theorem results_blk_tmp {fn : Func} {p u : Tmp} {ty : TypeId} {d : TypeDesc} (h : fn.results = #[.cell p ty, .tmp u]) (tmps : Array Value) {w : World} {b : Nat} {C : Array Value} {v : Value} (hb : Blk w b C ty) (hp : tmps.getD p undef = .pointer (some ⟨b, 0, none⟩)) (hv : tmps.getD u undef = v)
    (hu : Tryz.prog.underlying ty = some d) (hd : (match d with | .struct _ | .array _ _ => true | _ => false) = true) (hi : (Tryz.prog.info? ty).map (·.size) = some C.size) :
    (results fn tmps).run Tryz.prog w = .ok (.tuple #[.agg C, v]) w := by
  rw [results_cell_tmp h, hp]
  have := run_loadVar_row (P := Tryz.prog) w b ty ty C (0, 0) d hb hu (by cases d <;> first | rfl | exact hd) hi
  simp [asAddr, this, Result.andThen, hv]
set_option maxRecDepth 100000 in
set_option maxHeartbeats 1000000 in
theorem take_any (rb : Nat) (X : Nat → Prop) (l : Let) (hl : l.Ok) (r : List Int) (w : World) (h : RP w rb X (encLet l ++ r) w) :
    Calls Tryz.prog 158 #[.pointer (some ⟨rb, 0, none⟩)] w fun e w' => ∃ A c, e = .returned (.tuple #[.agg #[.string l.frm, .int .u64 l.serial, .int .i64 l.kind, .slice A l.args.length c], .bool true]) ∧ ArgsAt w' (fun k => w.heap.size ≤ k) A c l.args ∧ RP w rb X r w' := by
  obtain ⟨i0, hi, hz0, hz1, hz2⟩ := info_parts info2
  obtain ⟨bx, hbx⟩ : ∃ b, b = w.heap.size := ⟨_, rfl⟩
  obtain ⟨W1, hW1⟩ : ∃ W, W = w.alloc (.cells #[.string ⟨#[]⟩, .int .u64 0, .int .i64 0, .slice none 0 0] 65) := ⟨_, rfl⟩
  have HW1 := Lib.hid hW1
  have HBX := Lib.hid hbx
  have HNE := Lib.hid (show ¬ bx = rb from by have := h.rlt; omega)
  have HB1 := Lib.hid (show Blk W1 bx #[.string ⟨#[]⟩, .int .u64 0, .int .i64 0, .slice none 0 0] 65 from by rw [hW1, hbx]; exact Blk.new _ _ _)
  have e0 : encLet l ++ r = encText l.frm ++ (encNum l.serial ++ (encInt l.kind ++ (encNum l.args.length ++ (encInts l.args ++ r)))) := by simp [encLet]
  rw [e0] at h
  have HR1 := Lib.hid (show RP w rb X _ W1 from hW1 ▸ h.alloc _)
  have l1 := hl.frm
  have l2 := hl.serial
  have l3 := hl.kind
  have l4 := hl.args
  have HL := Lib.hid hl.each
  obtain ⟨xs, hxs⟩ : ∃ xs, xs = l.args := ⟨_, rfl⟩
  rw [← hxs] at l4 HL HR1 ⊢
  clear e0 h hW1 hxs
  go_enter Tryz.func158, Tryz.ntmps158
  go_wp2_with fail
  rw [← HW1.out, ← hbx]
  clear hbx
  refine (RP.text l.frm (by omega) HR1.out).mono ?_
  rintro e w2 ⟨rfl, h2, hc2⟩
  have HR2 := Lib.hid h2
  have HB2 := Lib.hid (hc2.blk HB1.out HNE.out)
  clear h2 hc2
  go_wp2_with fail
  refine (RP.num l.serial l2 HR2.out).mono ?_
  rintro e w3 ⟨rfl, h2, hc2⟩
  have HR3 := Lib.hid h2
  have HB3 := Lib.hid (hc2.blk HB2.out HNE.out)
  clear h2 hc2
  go_wp2_with fail
  refine (RP.int l.kind l3 HR3.out).mono ?_
  rintro e w4 ⟨rfl, h2, hc2⟩
  have HR4 := Lib.hid h2
  have hb4 := hc2.blk HB3.out HNE.out
  have c0 : w4.cell? ⟨bx, 0, none⟩ = some (.string ⟨#[]⟩) := hb4.cell 0
  have c1 : w4.cell? ⟨bx, 1, none⟩ = some (.int .u64 0) := hb4.cell 1
  have c2 : w4.cell? ⟨bx, 2, none⟩ = some (.int .i64 0) := hb4.cell 2
  have f0 := hb4.free 0
  have f1 := hb4.free 1
  have f2 := hb4.free 2
  have hlt := hb4.lt
  have HB4 := Lib.hid hb4
  clear h2 hc2 hb4
  go_wp2_with fail
  obtain ⟨W5, hW5⟩ : ∃ W, W = (((w4.setCell ⟨bx, 0, none⟩ (.string l.frm)).setCell ⟨bx, 1, none⟩ (.int .u64 l.serial)).setCell ⟨bx, 2, none⟩ (.int .i64 l.kind)) := ⟨_, rfl⟩
  rw [← hW5]
  have hge : w.heap.size ≤ bx := by rw [HBX.out]; omega
  have HR5 := Lib.hid (show RP w rb X _ W5 from HR4.out.step (hW5 ▸ (((Chg.refl (fun k => w.heap.size ≤ k) w4).put bx 0 (.inl hge) _).put bx 1 (.inl hge) _).put bx 2 (.inl hge) _))
  have HB5 := Lib.hid (show Blk W5 bx #[.string l.frm, .int .u64 l.serial, .int .i64 l.kind, .slice none 0 0] 65 from hW5 ▸ ((HB4.out.set 0 (.string l.frm)).set 1 (.int .u64 l.serial)).set 2 (.int .i64 l.kind))
  clear hW5 c0 c1 c2 f0 f1 f2 HB1 HB2 HB3 HR1 HR2 HR3 hlt
  have t0 : decide ((4 : Int) < (xs.length : Int)) = false := by simp; omega
  refine (RP.num xs.length (by omega) HR5.out).mono ?_
  rintro e w6 ⟨rfl, h2, hc2⟩
  have HR6 := Lib.hid h2
  have HB6 := Lib.hid (hc2.blk HB5.out HNE.out)
  clear h2 hc2 HB4 HR4 HB5 HR5
  go_wp2_with fail
  go_loopw [20] (fun s wr => ∃ (j : Nat) (A : Option Addr) (c : Nat), s = .int .u64 j ∧ j ≤ xs.length ∧ Blk wr bx #[.string l.frm, .int .u64 l.serial, .int .i64 l.kind, .slice A (xs.take j).length c] 65 ∧ wr.ownsRow w.heap.size 2 1 (.slice A (xs.take j).length c) (xs.take j).length (encs (Value.int .i64) (xs.take j)) ∧ RP w rb X (encInts (xs.drop j) ++ r) wr) (fun s _ => xs.length - (intOf s).toNat)
  case atStart => exact ⟨0, none, 0, rfl, Nat.zero_le _, by simpa using HB6.out, own_nil _ _ _ _, by simpa using HR6.out⟩
  case round =>
    obtain ⟨j, A, c, rfl, hj, hb, ho, hr⟩ := hrel
    by_cases hjl : j < xs.length
    · rw [encInts_drop xs j hjl, List.append_assoc] at hr
      have H64 := Lib.hid (In64.get HL.out j hjl)
      have htk := List.take_append_getElem hjl
      rw [show xs[j] = xs.getD j 0 by simp [List.getD, hjl]] at htk
      obtain ⟨x, hx⟩ : ∃ x, x = xs.getD j 0 := ⟨_, rfl⟩
      rw [← hx] at hr H64 htk
      have HTK := Lib.hid htk
      have hjt : (xs.take j).length = j := by simp; omega
      obtain ⟨TL, hTL⟩ : ∃ TL, TL = xs.take j := ⟨_, rfl⟩
      rw [← hTL] at hb ho htk hjt
      have HTK := Lib.hid htk
      have HJ := Lib.hid (show TL.length ≤ 4 by omega)
      have hNB : ∀ k, (Value.slice A TL.length c).ownBlock = some k → ¬ k = rb := fun k hk e => by
        have h1 := own_base ho k hk
        have h2 := HR6.out.rlt
        omega
      have HNB := Lib.hid hNB
      have HR := Lib.hid hr.drew
      have HB := Lib.hid hb.drew
      have HO := Lib.hid (World.ownsRow.drew ho)
      have c3 : wr.drew.cell? ⟨bx, 3, none⟩ = some (.slice A TL.length c) := hb.cell 3
      have k0 : (0 : Int) ≤ (j : Int) := by omega
      have k1 : (j : Int) < (xs.length : Int) := by omega
      clear hr hb ho hx htk hjt hNB hTL
      go_upto_region 7 with fail
      obtain ⟨S, hSD⟩ : ∃ S : World → Prop, S = fun w' => w'.cell? ⟨bx, 3, none⟩ = some (.slice A TL.length c) := ⟨_, rfl⟩
      have HSD := Lib.hid hSD
      clear hSD
      refine Held.region S 7 (by kernel_rfl) (by rw [HSD.out]; exact c3) (fun hHeld => ?_)
      refine Held.take (i := 0) (oi := { dst := _, op := _, type := _, pos := _, after := _, guard := _ }) (v := ?v0) rfl (by kernel_rfl) (by kernel_rfl) (by kernel_rfl) (by kernel_rfl) (fun _ _ _ h => h) (Or.inl ⟨by rfl, ?hy0⟩) (by assumption) ?rest0
      case hy0 => (intro w hSw; rw [HSD.out] at hSw; (try dsimp only at hSw); go_simp; (try with_reducible rfl))
      try simp only [Act.put, List.setIfInBounds_toArray, List.set_cons_zero, List.set_cons_succ]
      refine Held.take (i := 1) (oi := { dst := _, op := _, type := _, pos := _, after := _, guard := _ }) (v := ?v1) rfl (by kernel_rfl) (by kernel_rfl) (by kernel_rfl) (by kernel_rfl) (fun _ _ _ h => h) (Or.inl ⟨by rfl, ?hy1⟩) (by assumption) ?rest1
      case hy1 => (intro w hSw; rw [HSD.out] at hSw; (try dsimp only at hSw); go_simp; (try with_reducible rfl))
      try simp only [Act.put, List.setIfInBounds_toArray, List.set_cons_zero, List.set_cons_succ]
      refine Held.take (i := 2) (oi := { dst := _, op := _, type := _, pos := _, after := _, guard := _ }) (v := ?v2) rfl (by kernel_rfl) (by kernel_rfl) (by kernel_rfl) (by kernel_rfl) (fun _ _ _ h => h) (Or.inl ⟨by rfl, ?hy2⟩) (by assumption) ?rest2
      case hy2 => (intro w hSw; rw [HSD.out] at hSw; (try dsimp only at hSw); go_simp; (try with_reducible rfl))
      try simp only [Act.put, List.setIfInBounds_toArray, List.set_cons_zero, List.set_cons_succ]
      refine Held.one (i := 3) (o := { dst := _, op := _, type := _, pos := _, after := _, guard := _ }) (by kernel_rfl) rfl (fun K hK => ?_)
      go_simp
      refine (RP.int x H64.out HR.out).mono ?_
      rintro e w5 ⟨rfl, h5, h5c⟩
      have hb5 := h5c.blk HB.out HNE.out
      have c5 : w5.cell? ⟨bx, 3, none⟩ = some (.slice A TL.length c) := hb5.cell 3
      have ho5 := h5c.owns HO.out HNB.out
      have HR5 := Lib.hid h5
      have HB5 := Lib.hid hb5
      have HO5 := Lib.hid ho5
      clear h5 h5c hb5 ho5
      refine hK.out _ _ (fun _ => ?hS3) (fun hHeld1 => ?_)
      case hS3 => (rw [HSD.out]; exact c5)
      clear hK K
      replace hHeld1 := hHeld1 (by decide)
      try simp only [Act.put, List.setIfInBounds_toArray, List.set_cons_zero, List.set_cons_succ]
      refine Held.one (i := 4) (o := { dst := _, op := _, type := _, pos := _, after := _, guard := _ }) (by kernel_rfl) rfl (fun K hK => ?_)
      go_simp
      refine hK.out _ _ (fun _ => ?hS4) (fun hHeld2 => ?_)
      case hS4 => (rw [HSD.out]; exact (Blk.alloc HB5.out _).cell 3)
      clear hK K
      replace hHeld2 := hHeld2 (by decide)
      try simp only [Act.put, List.setIfInBounds_toArray, List.set_cons_zero, List.set_cons_succ]
      refine Held.one (i := 5) (o := { dst := _, op := _, type := _, pos := _, after := _, guard := _ }) (by kernel_rfl) rfl (fun K hK => ?_)
      refine step_append_lies _ (by rfl) (.tmp 23) (.tmp 26) 22 (by rfl) w.heap.size 2 i0 (.int .i64 0) 1 8 Tryz.underlying22 hi hz0 hz1 hz2 rfl (by decide) _ TL.length (encs (Value.int .i64) TL) (by rfl) (World.ownsRow.alloc HO5.out _) ⟨w5.heap.size, 0, none⟩ 1 1 [.int .i64 x] (by rfl) rfl (cell_one_new _ _ _) (ints_oneCell .i64 [x]) (by decide) (by unfold maxLen; have := HJ.out; omega) (by have := HJ.out; omega) (by have := HR5.out.chg.size; simp; omega) (w5.heap.size + 1) (by simp) ?_
      intro g cap w6 ho6 hg6 hat6 hlt6
      have hg6' : (w5.alloc (.cells #[.int .i64 x] 2)).grownBy w6 (Value.slice A TL.length c).ownBlock := hg6
      have hb6 : Blk w6 bx #[.string l.frm, .int .u64 l.serial, .int .i64 l.kind, .slice A TL.length c] 65 := (hg6'.block bx (by have := HB5.out.lt; simp; omega) (fun e => own_block_ne HO5.out HB5.out (by decide) e.symm)).trans (HB5.out.alloc _)
      have c6 : w6.cell? ⟨bx, 3, none⟩ = some (.slice A TL.length c) := hb6.cell 3
      have f6 : w6.frozen? ⟨bx, 3, none⟩ = false := hb6.free 3
      have HR6 := Lib.hid ((HR5.out.alloc (.cells #[.int .i64 x] 2)).step ((Chg.refl (fun k => w.heap.size ≤ k) _).grown hg6' (fun k hk => .inl (own_base HO5.out k hk))))
      have HO6 := Lib.hid ho6
      have HB6 := Lib.hid hb6
      clear ho6 hg6 hg6' hat6 hlt6 hb6
      refine hK.out _ _ (fun _ => ?hS5) (fun hHeld3 => ?_)
      case hS5 => (rw [HSD.out]; exact c6)
      clear hK K
      replace hHeld3 := hHeld3 (by decide)
      try simp only [Act.put, List.setIfInBounds_toArray, List.set_cons_zero, List.set_cons_succ]
      refine Held.one (i := 6) (o := { dst := _, op := _, type := _, pos := _, after := _, guard := _ }) (by kernel_rfl) rfl (fun K hK => ?_)
      go_simp
      refine hK.out _ _ (fun _ => hHeld3) (fun _ => ?_)
      clear hK K
      try simp only [Act.put, List.setIfInBounds_toArray, List.set_cons_zero, List.set_cons_succ]
      refine Held.one (i := 7) (o := { dst := _, op := _, type := _, pos := _, after := _, guard := _ }) (by kernel_rfl) rfl (fun K hK => ?_)
      go_simp
      refine hK.out _ _ (fun h => absurd rfl h) (fun _ => ?_)
      clear hK K
      refine Held.done (by kernel_rfl) ?_ _
      refine NoPanic.normal ?_
      go_wp2_with fail
      go_roundw
      case rel =>
        refine ⟨j + 1, some ⟨g, 0, none⟩, cap, by go_num, by omega, ?_, ?_, ?_⟩
        · have := HB6.out.set 3 (.slice (some ⟨g, 0, none⟩) (TL.length + 1) cap)
          rw [← HTK.out]
          simpa using this
        · rw [← HTK.out]
          have := own_set HO6.out HB6.out (i := 3) (by decide) (.slice (some ⟨g, 0, none⟩) (TL.length + 1) cap)
          simpa [encs] using this
        · exact HR6.out.step ((Chg.refl _ _).put bx 3 (.inl hge) _)
      case measure => simp [intOf]; omega
    · obtain rfl : j = xs.length := by omega
      rw [List.take_of_length_le (Nat.le_refl _)] at hb ho
      rw [List.drop_of_length_le (Nat.le_refl _)] at hr
      have HR := Lib.hid hr
      have HB := Lib.hid hb
      have HO := Lib.hid ho
      have d0 : wr.cell? ⟨bx, 0, none⟩ = some (.string l.frm) := hb.cell 0
      have d1 : wr.cell? ⟨bx, 1, none⟩ = some (.int .u64 l.serial) := hb.cell 1
      have d2 : wr.cell? ⟨bx, 2, none⟩ = some (.int .i64 l.kind) := hb.cell 2
      have d3 : wr.cell? ⟨bx, 3, none⟩ = some (.slice A xs.length c) := hb.cell 3
      have f0 := hb.free 0
      have f1 := hb.free 1
      have f2 := hb.free 2
      have f3 := hb.free 3
      have hlt := hb.lt
      clear hr hb ho
      go_wp2_with fail
      refine HR.out.bad.mono ?_
      rintro e w7 ⟨rfl, rfl⟩
      go_wp2_with fail
      refine (formed_letter _ _ _ _ _ _ l1 l4 _).mono ?_
      rintro e w8 ⟨rfl, rfl⟩
      go_wp2_with fail
      obtain ⟨W8, hW8⟩ : ∃ W, W = ((((wr.setCell ⟨bx, 0, none⟩ (.string l.frm)).setCell ⟨bx, 1, none⟩ (.int .u64 l.serial)).setCell ⟨bx, 2, none⟩ (.int .i64 l.kind)).setCell ⟨bx, 3, none⟩ (.slice A xs.length c)) := ⟨_, rfl⟩
      rw [← hW8]
      have hb8 : Blk W8 bx #[.string l.frm, .int .u64 l.serial, .int .i64 l.kind, .slice A xs.length c] 65 := hW8 ▸ (((HB.out.set 0 (.string l.frm)).set 1 (.int .u64 l.serial)).set 2 (.int .i64 l.kind)).set 3 (.slice A xs.length c)
      have ho8 : W8.ownsRow w.heap.size 2 1 (.slice A xs.length c) xs.length (encs (Value.int .i64) xs) := hW8 ▸ own_set (own_set (own_set (own_set HO.out HB.out (by decide) _) (HB.out.set 0 (.string l.frm)) (by decide) _) ((HB.out.set 0 (.string l.frm)).set 1 (.int .u64 l.serial)) (by decide) _) (((HB.out.set 0 (.string l.frm)).set 1 (.int .u64 l.serial)).set 2 (.int .i64 l.kind)) (by decide) _
      have hr8 : RP w rb X r W8 := hW8 ▸ HR.out.step (((((Chg.refl (fun k => w.heap.size ≤ k) wr).put bx 0 (.inl hge) _).put bx 1 (.inl hge) _).put bx 2 (.inl hge) _).put bx 3 (.inl hge) _)
      have hb9 := hb8.alloc (.cells #[.string l.frm, .int .u64 l.serial, .int .i64 l.kind, .slice A xs.length c] 65)
      obtain ⟨W9, hW9⟩ : ∃ W, W = W8.alloc (.cells #[.string l.frm, .int .u64 l.serial, .int .i64 l.kind, .slice A xs.length c] 65) := ⟨_, rfl⟩
      have ho9 : W9.ownsRow w.heap.size 2 1 (.slice A xs.length c) xs.length (encs (Value.int .i64) xs) := hW9 ▸ World.ownsRow.alloc ho8 _
      have hr9 : RP w rb X r W9 := hW9 ▸ hr8.alloc _
      rw [← hW9] at hb9 ⊢
      refine bodyPost_ret (v := .tuple #[.agg #[.string l.frm, .int .u64 l.serial, .int .i64 l.kind, .slice A xs.length c], .bool true]) (results_blk_tmp rfl _ hb9 rfl rfl Tryz.underlying65 rfl (by kernel_rfl)) rfl ⟨A, c, rfl, ArgsAt.of_own ho9, hr9⟩
end Go.Proofs.YtlcdjgpblpodaaaGreatDoor

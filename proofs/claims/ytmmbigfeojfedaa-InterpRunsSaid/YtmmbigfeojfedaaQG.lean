/- Two results of the same things are the same; what both runs return. -/
import Derived.Test.YtmmbigfeojfedaaQF
import Derived.Test.YtmmbigfeojfedaaEv2
import Derived.Test.YtmmbigfeojfedaaEv1
namespace Go.Proofs.Ytmmbigfeojfedaa.R
open Go.RowKit Go.Proofs.YtmmbigfeojfedaaW.PrintWords

/-- A row of n things of sz cells each, that is read. -/
def IsRow (w : World) (A : Option Addr) (sz n : Nat) (xs : List Value) : Prop := 0 < n → ∃ b off, A = some ⟨b, off, none⟩ ∧ b < w.heap.size ∧ ∀ i, i < n * sz → w.cell? ⟨b, off + i, none⟩ = xs[i]?
theorem IsRow.below {w w' : World} {A : Option Addr} {sz n : Nat} {xs : List Value} (h : IsRow w A sz n xs) (hb : Below w.heap.size w w') : IsRow w' A sz n xs := fun hp => by
  obtain ⟨b, off, e, hl, hc⟩ := h hp
  exact ⟨b, off, e, Nat.lt_of_lt_of_le hl hb.size, fun i hi => (World.cell?_of_block (w := w) (hb.block b hl)).trans (hc i hi)⟩
theorem IsRow.of_own {w : World} {base n size c : Nat} {e : TypeId} {A : Option Addr} {xs : List Value} (h : w.ownsRow base e size (.slice A n c) n xs) : IsRow w A size n xs := fun hp => by
  obtain ⟨g, hg, _, hlt, hc⟩ := own_cells h hp
  exact ⟨g, 0, hg, hlt, fun i hi => by rw [Nat.zero_add]; exact hc i hi⟩
theorem take_snoc {α : Type} {l : List α} {k : Nat} (h : k < l.length) (d : α) : l.take (k + 1) = l.take k ++ [l.getD k d] := by
  rw [show l.getD k d = l[k] by simp [List.getD, h]]
  exact (List.take_append_getElem h).symm

set_option maxRecDepth 100000 in
set_option maxHeartbeats 4000000 in
theorem timers_any (A : Option Addr) (cap : Nat) (TL : List (ByteArray × Bool × Int × Int × Int)) (w : World) (hT : IsRow w A 5 TL.length (encT TL)) (hl : TL.length ≤ 1000) :
    Calls Try.prog 26 #[.slice A TL.length cap] w fun e w' => Below w.heap.size w w' ∧ ∃ tA tC, e = .returned (.slice tA TL.length tC) ∧ w'.ownsRow w.heap.size 105 5 (.slice tA TL.length tC) TL.length (encT TL) := by
  have HT := Lib.hid hT
  clear hT
  go_enter Try.func26, Try.ntmps26
  go_wp2_with fail
  go_loopw [3, 7] (fun v i wr => ∃ k : Nat, k ≤ TL.length ∧ i = .int .i64 k ∧ wr.ownsRow w.heap.size 105 5 v (TL.take k).length (encT (TL.take k)) ∧ Below w.heap.size w wr) (fun _ i _ => TL.length - (intOf i).toNat)
  case atStart => exact ⟨0, by omega, rfl, own_nil _ _ _ _, Below.refl _ _⟩
  case round =>
    obtain ⟨k, hk, rfl, ho, hb⟩ := hrel
    obtain ⟨tA, tC, rfl⟩ := own_slice ho
    obtain ⟨UL, hUL⟩ : ∃ UL, UL = TL.take k := ⟨_, rfl⟩
    rw [← hUL] at ho
    rw [← hUL]
    have hlk : UL.length = k := by rw [hUL]; simp; omega
    have HB := Lib.hid hb
    have HO := Lib.hid ho
    have HUL := Lib.hid hUL
    clear hb ho hUL
    by_cases hkl : k < TL.length
    · obtain ⟨b, off, rfl, hbl, q⟩ := (HT.out.below HB.out) (by omega)
      obtain ⟨x, hx⟩ : ∃ x, x = TL.getD k (⟨#[]⟩, true, 0, 0, 0) := ⟨_, rfl⟩
      obtain ⟨q0, q1, q2, q3, q4⟩ := encT_at TL k hkl
      rw [← hx] at q0 q1 q2 q3 q4
      have p0 := (q (k * 5) (by omega)).trans q0
      have p1 := (q (k * 5 + 1) (by omega)).trans q1
      have p2 := (q (k * 5 + 2) (by omega)).trans q2
      have p3 := (q (k * 5 + 3) (by omega)).trans q3
      have p4 := (q (k * 5 + 4) (by omega)).trans q4
      simp only [← Nat.add_assoc] at p1 p2 p3 p4
      have HTK := Lib.hid (show TL.take (k + 1) = UL ++ [x] by rw [take_snoc hkl (⟨#[]⟩, true, 0, 0, 0), ← hx, ← HUL.out])
      obtain ⟨x0, x1, x2, x3, x4⟩ := x
      dsimp only at p0 p1 p2 p3 p4
      have k0 : (0 : Int) ≤ (k : Int) := by omega
      have k1 : (k : Int) < (TL.length : Int) := by omega
      have HL := Lib.hid (show (UL.length + 1) * 48 ≤ 140737488355328 by omega)
      have HX := Lib.hid hx
      clear q q0 q1 q2 q3 q4 hx
      go_wp2_with (at_builtin; refine print_append_cells (w0 := w) w.heap.size rfl (.tmp 10) (.tmp 15) 47 105 _ 5 48 rfl Try.underlying47 info105 rfl (by omega) (by omega) _ UL.length (encT UL) [.string x0, .bool x1, .int .i64 x2, .int .i64 x3, .int .i64 x4] rfl rfl rfl (by simp [Value.oneCell']) HO.out HB.out HB.out.size HL.out ?_; intro v1 w3 ho hbl hg hat; obtain ⟨V, vn, rfl⟩ := own_slice ho; have HO3 := Lib.hid ho; have HB3 := Lib.hid hbl; clear ho hbl hg hat p0 p1 p2 p3 p4)
      go_roundw
      case rel =>
        refine ⟨k + 1, by omega, by go_num, ?_, HB3.out⟩
        rw [HTK.out, encT_snoc, List.length_append]
        have h3 := HO3.out
        rw [hlk] at h3 ⊢
        exact h3
      case measure => simp [intOf]; omega
    · obtain rfl : k = TL.length := by omega
      rw [List.take_length] at HUL
      have HU2 := HUL.out
      subst HU2
      go_wp2
      go_ret
      exact ⟨HB.out, _, _, rfl, HO.out⟩
end Go.Proofs.Ytmmbigfeojfedaa.R
namespace Go.Proofs.Ytmmbigfeojfedaa.R
open Go.RowKit Go.Proofs.YtmmbigfeojfedaaW.PrintWords

theorem blk12n {w : World} {b b' t : Nat} {C : Array Value} (h : Blk w b C t) (hn : b ≠ b') (v0 v1 v2 v3 v4 v5 v6 v7 v8 v9 v10 v11 : Value) :
    Blk ((((((((((((w.setCell ⟨b', 0, none⟩ v0).setCell ⟨b', 1, none⟩ v1).setCell ⟨b', 2, none⟩ v2).setCell ⟨b', 3, none⟩ v3).setCell ⟨b', 4, none⟩ v4).setCell ⟨b', 5, none⟩ v5).setCell ⟨b', 6, none⟩ v6).setCell ⟨b', 7, none⟩ v7).setCell ⟨b', 8, none⟩ v8).setCell ⟨b', 9, none⟩ v9).setCell ⟨b', 10, none⟩ v10).setCell ⟨b', 11, none⟩ v11) b C t :=
  (((((((((((h.other (a := ⟨b', 0, none⟩) hn v0).other (a := ⟨b', 1, none⟩) hn v1).other (a := ⟨b', 2, none⟩) hn v2).other (a := ⟨b', 3, none⟩) hn v3).other (a := ⟨b', 4, none⟩) hn v4).other (a := ⟨b', 5, none⟩) hn v5).other (a := ⟨b', 6, none⟩) hn v6).other (a := ⟨b', 7, none⟩) hn v7).other (a := ⟨b', 8, none⟩) hn v8).other (a := ⟨b', 9, none⟩) hn v9).other (a := ⟨b', 10, none⟩) hn v10).other (a := ⟨b', 11, none⟩) hn v11
/-- What holds while the copy is made. -/
def OwI (w : World) (b1 b2 b3 : Nat) (C1 : Array Value) (S : St) (EL : List (Int × Int)) (SL : List (ByteArray × Int × Int)) (wr : World) : Prop :=
  ∃ eA eC sA sC tA tC, Blk wr b3 (resC S.reg (.slice eA EL.length eC) (.slice sA SL.length sC) (.slice tA S.tm.length tC) S.steps) 49 ∧ wr.ownsRow w.heap.size 86 2 (.slice eA EL.length eC) EL.length (encE EL) ∧ wr.ownsRow w.heap.size 83 3 (.slice sA SL.length sC) SL.length (encS SL) ∧
    wr.ownsRow w.heap.size 105 5 (.slice tA S.tm.length tC) S.tm.length (encT S.tm) ∧ Below w.heap.size w wr ∧ Blk wr b1 C1 37 ∧ Blk wr b2 (resC (fun _ => 0) (.slice none 0 0) (.slice none 0 0) (.slice none 0 0) 0) 49
section
variable {w w1 w2 : World} {b1 b2 b3 : Nat} {C1 : Array Value} {S : St} {EL : List (Int × Int)} {SL : List (ByteArray × Int × Int)} {eA sA tA : Option Addr} {eC sC tC : Nat} {v1 : Value}
theorem OwI.ev (r x : Int) (hb : Blk w1 b3 (resC S.reg (.slice eA EL.length eC) (.slice sA SL.length sC) (.slice tA S.tm.length tC) S.steps) 49) (he : w1.ownsRow w.heap.size 86 2 (.slice eA EL.length eC) EL.length (encE EL)) (hs : w1.ownsRow w.heap.size 83 3 (.slice sA SL.length sC) SL.length (encS SL))
    (ht : w1.ownsRow w.heap.size 105 5 (.slice tA S.tm.length tC) S.tm.length (encT S.tm)) (h1 : Blk w1 b1 C1 37) (h2 : Blk w1 b2 (resC (fun _ => 0) (.slice none 0 0) (.slice none 0 0) (.slice none 0 0) 0) 49) (hne : b2 ≠ b3) (hlo : w.heap.size ≤ b3)
    (ho : w2.ownsRow w.heap.size 86 2 v1 (EL.length + 1) (encE EL ++ [.int .i64 r, .int .i64 x])) (hB : Below w.heap.size w w2) (hg : w1.grownBy w2 (Value.slice eA EL.length eC).ownBlock) :
    Blk w2 b3 (resC S.reg (.slice eA EL.length eC) (.slice sA SL.length sC) (.slice tA S.tm.length tC) S.steps) 49 ∧ Blk w2 b1 C1 37 ∧ OwI w b1 b2 b3 C1 S (EL ++ [(r, x)]) SL (w2.setCell ⟨b3, 8, none⟩ v1) := by
  have hb2 := blk_grown hb he (by decide) hg
  have h12 := blk_grown h1 he (by decide) hg
  have h22 := blk_grown h2 he (by decide) hg
  obtain ⟨V, vn, rfl⟩ := own_slice ho
  refine ⟨hb2, h12, V, vn, sA, sC, tA, tC, ?_, ?_, own_set (own_grown hs he (by decide) hg) hb2 (by decide) _, own_set (own_grown ht he (by decide) hg) hb2 (by decide) _, hB.setCell (p := ⟨b3, 8, none⟩) hlo _, h12.other (a := ⟨b3, 8, none⟩) (blk_apart h12 hb2 (by decide)) _, h22.other (a := ⟨b3, 8, none⟩) hne _⟩
  · rw [List.length_append]; exact hb2.set 8 _
  · rw [List.length_append, encE_snoc]; exact own_set ho hb2 (by decide) _
theorem OwI.sn (t : ByteArray) (k x : Int) (hb : Blk w1 b3 (resC S.reg (.slice eA EL.length eC) (.slice sA SL.length sC) (.slice tA S.tm.length tC) S.steps) 49) (he : w1.ownsRow w.heap.size 86 2 (.slice eA EL.length eC) EL.length (encE EL)) (hs : w1.ownsRow w.heap.size 83 3 (.slice sA SL.length sC) SL.length (encS SL))
    (ht : w1.ownsRow w.heap.size 105 5 (.slice tA S.tm.length tC) S.tm.length (encT S.tm)) (h1 : Blk w1 b1 C1 37) (h2 : Blk w1 b2 (resC (fun _ => 0) (.slice none 0 0) (.slice none 0 0) (.slice none 0 0) 0) 49) (hne : b2 ≠ b3) (hlo : w.heap.size ≤ b3)
    (ho : w2.ownsRow w.heap.size 83 3 v1 (SL.length + 1) (encS SL ++ [.string t, .int .i64 k, .int .i64 x])) (hB : Below w.heap.size w w2) (hg : w1.grownBy w2 (Value.slice sA SL.length sC).ownBlock) :
    Blk w2 b3 (resC S.reg (.slice eA EL.length eC) (.slice sA SL.length sC) (.slice tA S.tm.length tC) S.steps) 49 ∧ Blk w2 b1 C1 37 ∧ OwI w b1 b2 b3 C1 S EL (SL ++ [(t, k, x)]) (w2.setCell ⟨b3, 9, none⟩ v1) := by
  have hb2 := blk_grown hb hs (by decide) hg
  have h12 := blk_grown h1 hs (by decide) hg
  have h22 := blk_grown h2 hs (by decide) hg
  obtain ⟨V, vn, rfl⟩ := own_slice ho
  refine ⟨hb2, h12, eA, eC, V, vn, tA, tC, ?_, own_set (own_grown he hs (by decide) hg) hb2 (by decide) _, ?_, own_set (own_grown ht hs (by decide) hg) hb2 (by decide) _, hB.setCell (p := ⟨b3, 9, none⟩) hlo _, h12.other (a := ⟨b3, 9, none⟩) (blk_apart h12 hb2 (by decide)) _, h22.other (a := ⟨b3, 9, none⟩) hne _⟩
  · rw [List.length_append]; exact hb2.set 9 _
  · rw [List.length_append, encS_snoc]; exact own_set ho hb2 (by decide) _
end
theorem encS_at : ∀ (l : List (ByteArray × Int × Int)) (j : Nat), j < l.length → (encS l)[j * 3]? = some (.string (l.getD j (⟨#[]⟩, 0, 0)).1) ∧ (encS l)[j * 3 + 1]? = some (.int .i64 (l.getD j (⟨#[]⟩, 0, 0)).2.1) ∧ (encS l)[j * 3 + 2]? = some (.int .i64 (l.getD j (⟨#[]⟩, 0, 0)).2.2)
  | [], j, h => absurd h (Nat.not_lt_zero _)
  | i :: l, 0, _ => ⟨rfl, rfl, rfl⟩
  | i :: l, j + 1, h => by
    have := encS_at l j (by simpa using h)
    rw [show (j + 1) * 3 = j * 3 + 1 + 1 + 1 by omega]
    exact this

set_option maxRecDepth 100000 in
set_option maxHeartbeats 4000000 in
theorem ours_any (S : St) (eA sA tA : Option Addr) (eC sC tC : Nat) (w : World) (hE : IsRow w eA 2 S.ev.length (encE S.ev)) (hS : IsRow w sA 3 S.sent.length (encS S.sent)) (hT : IsRow w tA 5 S.tm.length (encT S.tm)) (h1 : S.ev.length ≤ 1000) (h2 : S.sent.length ≤ 1000) (h3 : S.tm.length ≤ 1000) :
    Calls Try.prog 16 #[.agg (resC S.reg (.slice eA S.ev.length eC) (.slice sA S.sent.length sC) (.slice tA S.tm.length tC) S.steps)] w fun e w' => Below w.heap.size w w' ∧ ∃ eA' eC' sA' sC' tA' tC', e = .returned (.agg (resC S.reg (.slice eA' S.ev.length eC') (.slice sA' S.sent.length sC') (.slice tA' S.tm.length tC') S.steps)) ∧
      w'.ownsRow w.heap.size 86 2 (.slice eA' S.ev.length eC') S.ev.length (encE S.ev) ∧ w'.ownsRow w.heap.size 83 3 (.slice sA' S.sent.length sC') S.sent.length (encS S.sent) ∧ w'.ownsRow w.heap.size 105 5 (.slice tA' S.tm.length tC') S.tm.length (encT S.tm) := by
  have HE := Lib.hid hE
  have HS := Lib.hid hS
  have HT := Lib.hid hT
  obtain ⟨W1, hW1⟩ : ∃ W, W = (w.alloc (.cells (resC S.reg (.slice eA S.ev.length eC) (.slice sA S.sent.length sC) (.slice tA S.tm.length tC) S.steps) 37)).alloc (.cells (resC (fun _ => 0) (.slice none 0 0) (.slice none 0 0) (.slice none 0 0) 0) 49) := ⟨_, rfl⟩
  have g1 : Below w.heap.size w (w.alloc (.cells (resC S.reg (.slice eA S.ev.length eC) (.slice sA S.sent.length sC) (.slice tA S.tm.length tC) S.steps) 37)) := (Below.refl _ _).alloc (Nat.le_refl _) _
  have HB1 := Lib.hid (show Below w.heap.size w W1 from hW1 ▸ g1.alloc g1.size _)
  have HP1 := Lib.hid (show Blk W1 w.heap.size (resC S.reg (.slice eA S.ev.length eC) (.slice sA S.sent.length sC) (.slice tA S.tm.length tC) S.steps) 37 from hW1 ▸ (Blk.new _ _ _).alloc _)
  have HR1 := Lib.hid (show Blk W1 (w.heap.size + 1) (resC (fun _ => 0) (.slice none 0 0) (.slice none 0 0) (.slice none 0 0) 0) 49 from hW1 ▸ Blk.newAt (by simp))
  have HW1 := Lib.hid hW1
  clear hE hS hT hW1 g1
  go_enter Try.func16, Try.ntmps16
  go_upto_region 1 with fail
  rw [show (w.alloc _).alloc _ = W1 from HW1.out.symm]
  clear HW1
  obtain ⟨b1, hb1⟩ : ∃ b, b = w.heap.size := ⟨_, rfl⟩
  obtain ⟨b2, hb2⟩ : ∃ b, b = w.heap.size + 1 := ⟨_, rfl⟩
  rw [← hb1] at HP1
  rw [← hb2] at HR1
  rw [← hb2, ← hb1]
  have l2 : w.heap.size ≤ b2 := by omega
  clear hb1 hb2
  have HP1D := Lib.hid HP1.out.drew
  have HR1D := Lib.hid HR1.out.drew
  have HBD := Lib.hid HB1.out.drew
  have u1 : ∀ i, W1.drew.cell? ⟨b1, i, none⟩ = (resC S.reg (.slice eA S.ev.length eC) (.slice sA S.sent.length sC) (.slice tA S.tm.length tC) S.steps)[i]? := fun i => HP1.out.cell i
  obtain ⟨Sx, hSD⟩ : ∃ Sx : World → Prop, Sx = fun w' => ∀ i, w'.cell? ⟨b1, i, none⟩ = (resC S.reg (.slice eA S.ev.length eC) (.slice sA S.sent.length sC) (.slice tA S.tm.length tC) S.steps)[i]? := ⟨_, rfl⟩
  have HSD := Lib.hid hSD
  clear hSD
  go_cut [3] (fun v wx => ∃ b3, v = .pointer (some ⟨b3, 0, none⟩) ∧ OwI w b1 b2 b3 (resC S.reg (.slice eA S.ev.length eC) (.slice sA S.sent.length sC) (.slice tA S.tm.length tC) S.steps) S [] [] wx ∧ b2 ≠ b3 ∧ w.heap.size ≤ b3)
  case first =>
    refine Held.region Sx 9 (by kernel_rfl) (by rw [HSD.out]; exact u1) (fun hHeld => ?_)
    refine Held.take (i := 0) (oi := { dst := _, op := _, type := _, pos := _, after := _, guard := _ }) (v := ?v0q1) rfl (by kernel_rfl) (by kernel_rfl) (by kernel_rfl) (by kernel_rfl) (fun _ _ _ h => h) (Or.inl ⟨by rfl, ?hy0q1⟩) (by assumption) ?rest0q1
    case hy0q1 => (intro w hSw; rw [HSD.out] at hSw; (try dsimp only at hSw); (try unfold resC at hSw); go_simp; (try with_reducible rfl))
    try simp only [Act.put, List.setIfInBounds_toArray, List.set_cons_zero, List.set_cons_succ]
    refine Held.take (i := 1) (oi := { dst := _, op := _, type := _, pos := _, after := _, guard := _ }) (v := ?v1q2) rfl (by kernel_rfl) (by kernel_rfl) (by kernel_rfl) (by kernel_rfl) (fun _ _ _ h => h) (Or.inl ⟨by rfl, ?hy1q2⟩) (by assumption) ?rest1q2
    case hy1q2 => (intro w hSw; rw [HSD.out] at hSw; (try dsimp only at hSw); (try unfold resC at hSw); go_simp; (try with_reducible rfl))
    try simp only [Act.put, List.setIfInBounds_toArray, List.set_cons_zero, List.set_cons_succ]
    refine Held.take (i := 2) (oi := { dst := _, op := _, type := _, pos := _, after := _, guard := _ }) (v := ?v2q3) rfl (by kernel_rfl) (by kernel_rfl) (by kernel_rfl) (by kernel_rfl) (fun _ _ _ h => h) (Or.inl ⟨by rfl, ?hy2q3⟩) (by assumption) ?rest2q3
    case hy2q3 => (intro w hSw; rw [HSD.out] at hSw; (try dsimp only at hSw); (try unfold resC at hSw); go_simp; (try with_reducible rfl))
    try simp only [Act.put, List.setIfInBounds_toArray, List.set_cons_zero, List.set_cons_succ]
    refine Held.take (i := 3) (oi := { dst := _, op := _, type := _, pos := _, after := _, guard := _ }) (v := ?v3q4) rfl (by kernel_rfl) (by kernel_rfl) (by kernel_rfl) (by kernel_rfl) (fun _ _ _ h => h) (Or.inl ⟨by rfl, ?hy3q4⟩) (by assumption) ?rest3q4
    case hy3q4 => (intro w hSw; rw [HSD.out] at hSw; (try dsimp only at hSw); (try unfold resC at hSw); go_simp; (try with_reducible rfl))
    try simp only [Act.put, List.setIfInBounds_toArray, List.set_cons_zero, List.set_cons_succ]
    refine Held.take (i := 4) (oi := { dst := _, op := _, type := _, pos := _, after := _, guard := _ }) (v := ?v4q5) rfl (by kernel_rfl) (by kernel_rfl) (by kernel_rfl) (by kernel_rfl) (fun _ _ _ h => h) (Or.inl ⟨by rfl, ?hy4q5⟩) (by assumption) ?rest4q5
    case hy4q5 => (intro w hSw; rw [HSD.out] at hSw; (try dsimp only at hSw); (try unfold resC at hSw); go_simp; (try with_reducible rfl))
    try simp only [Act.put, List.setIfInBounds_toArray, List.set_cons_zero, List.set_cons_succ]
    refine Held.take (i := 5) (oi := { dst := _, op := _, type := _, pos := _, after := _, guard := _ }) (v := ?v5q6) rfl (by kernel_rfl) (by kernel_rfl) (by kernel_rfl) (by kernel_rfl) (fun _ _ _ h => h) (Or.inl ⟨by rfl, ?hy5q6⟩) (by assumption) ?rest5q6
    case hy5q6 => (intro w hSw; rw [HSD.out] at hSw; (try dsimp only at hSw); (try unfold resC at hSw); go_simp; (try with_reducible rfl))
    try simp only [Act.put, List.setIfInBounds_toArray, List.set_cons_zero, List.set_cons_succ]
    refine Held.two (i := 6) (j := 8) (o := { dst := _, op := _, type := _, pos := _, after := _, guard := _ }) (p := { dst := _, op := _, type := _, pos := _, after := _, guard := _ }) (by kernel_rfl) rfl rfl (fun K hK => ?_) (fun K hK => ?_)
    · go_simp
      refine (timers_any tA tC S.tm W1.drew (HT.out.below HBD.out) h3).mono ?_
      rintro e w3 ⟨hb3, uA, uC, rfl, ho3⟩
      have HB3 := Lib.hid (HBD.out.trans (hb3.mono HBD.out.size))
      have HP3 := Lib.hid (HP1D.out.below hb3)
      have HR3 := Lib.hid (HR1D.out.below hb3)
      have HO3 := Lib.hid (World.ownsRow.mono ho3 HBD.out.size)
      clear hb3 ho3
      refine hK.out _ _ (fun _ => (by rw [HSD.out]; exact fun i => HP3.out.cell i)) (fun hH2 => ?_)
      clear hK K
      replace hH2 := hH2 (by decide)
      try simp only [Act.put, List.setIfInBounds_toArray, List.set_cons_zero, List.set_cons_succ]
      refine Held.take (i := 7) (oi := { dst := _, op := _, type := _, pos := _, after := _, guard := _ }) (v := ?v7q7) rfl (by kernel_rfl) (by kernel_rfl) (by kernel_rfl) (by kernel_rfl) (fun _ _ _ h => h) (Or.inl ⟨by rfl, ?hy7q7⟩) (by assumption) ?rest7q7
      case hy7q7 => (intro w hSw; rw [HSD.out] at hSw; (try dsimp only at hSw); (try unfold resC at hSw); go_simp; (try with_reducible rfl))
      try simp only [Act.put, List.setIfInBounds_toArray, List.set_cons_zero, List.set_cons_succ]
      refine Held.one (i := 8) (o := { dst := _, op := _, type := _, pos := _, after := _, guard := _ }) (by kernel_rfl) rfl (fun K hK => ?_)
      go_simp
      have HP4 := Lib.hid (HP3.out.alloc (.cells (resC (fun _ => 0) (.slice none 0 0) (.slice none 0 0) (.slice none 0 0) 0) 49))
      have HR4 := Lib.hid (HR3.out.alloc (.cells (resC (fun _ => 0) (.slice none 0 0) (.slice none 0 0) (.slice none 0 0) 0) 49))
      have HZ4 := Lib.hid (Blk.new w3 (resC (fun _ => 0) (.slice none 0 0) (.slice none 0 0) (.slice none 0 0) 0) 49)
      have HO4 := Lib.hid (HO3.out.alloc (.cells (resC (fun _ => 0) (.slice none 0 0) (.slice none 0 0) (.slice none 0 0) 0) 49))
      have HB4 := Lib.hid (HB3.out.alloc HB3.out.size (.cells (resC (fun _ => 0) (.slice none 0 0) (.slice none 0 0) (.slice none 0 0) 0) 49))
      obtain ⟨zb, hzb⟩ : ∃ b, b = w3.heap.size := ⟨_, rfl⟩
      have lz : w.heap.size ≤ zb := hzb ▸ HB3.out.size
      have nz : b2 ≠ zb := fun e => by
        have := HR3.out.lt
        omega
      rw [← hzb] at HZ4
      rw [← hzb]
      obtain ⟨w4, hw4⟩ : ∃ W, W = w3.alloc (.cells (resC (fun _ => 0) (.slice none 0 0) (.slice none 0 0) (.slice none 0 0) 0) 49) := ⟨_, rfl⟩
      rw [← hw4] at HP4 HR4 HZ4 HO4 HB4
      rw [show w3.alloc _ = w4 from hw4.symm]
      clear hzb hw4
      refine hK.out _ _ (fun _ => (by rw [HSD.out]; exact fun i => HP4.out.cell i)) (fun hH3 => ?_)
      clear hK K
      replace hH3 := hH3 (by decide)
      have zc : ∀ i, w4.cell? ⟨zb, i, none⟩ = _ := fun i => HZ4.out.cell i
      have zf : ∀ i, w4.frozen? ⟨zb, i, none⟩ = false := fun i => HZ4.out.free i
      unfold resC at zc
      try simp only [Act.put, List.setIfInBounds_toArray, List.set_cons_zero, List.set_cons_succ]
      refine Held.one (i := 9) (o := { dst := _, op := _, type := _, pos := _, after := _, guard := _ }) (by kernel_rfl) rfl (fun K hK => ?_)
      (try unfold resC)
      go_simp
      refine hK.out _ _ (fun h => absurd rfl h) (fun _ => ?_)
      clear hK K
      refine Held.done (by kernel_rfl) ?_ _
      refine NoPanic.normal ?_
      go_wp2
      go_meet
      exact ⟨_, rfl, ⟨none, 0, none, 0, uA, uC, HZ4.out.twelve rfl _ _ _ _ _ _ _ _ _ _ _ _, own_nil _ _ _ _, own_nil _ _ _ _, own12 HO4.out HZ4.out (by decide) _ _ _ _ _ _ _ _ _ _ _ _, below12 HB4.out lz _ _ _ _ _ _ _ _ _ _ _ _, blk12 HP4.out HZ4.out (by decide) _ _ _ _ _ _ _ _ _ _ _ _, blk12n HR4.out nz _ _ _ _ _ _ _ _ _ _ _ _⟩, nz, lz⟩
    · go_simp
      have HPV := Lib.hid (show Blk ((W1.alloc (.cells (resC (fun _ => 0) (.slice none 0 0) (.slice none 0 0) (.slice none 0 0) 0) 49)).drew) b1 (resC S.reg (.slice eA S.ev.length eC) (.slice sA S.sent.length sC) (.slice tA S.tm.length tC) S.steps) 37 from (HP1.out.alloc _).drew)
      have HRV := Lib.hid (show Blk ((W1.alloc (.cells (resC (fun _ => 0) (.slice none 0 0) (.slice none 0 0) (.slice none 0 0) 0) 49)).drew) b2 (resC (fun _ => 0) (.slice none 0 0) (.slice none 0 0) (.slice none 0 0) 0) 49 from (HR1.out.alloc _).drew)
      have HZV := Lib.hid (show Blk ((W1.alloc (.cells (resC (fun _ => 0) (.slice none 0 0) (.slice none 0 0) (.slice none 0 0) 0) 49)).drew) W1.heap.size (resC (fun _ => 0) (.slice none 0 0) (.slice none 0 0) (.slice none 0 0) 0) 49 from (Blk.new W1 _ _).drew)
      have HBV := Lib.hid (show Below w.heap.size w ((W1.alloc (.cells (resC (fun _ => 0) (.slice none 0 0) (.slice none 0 0) (.slice none 0 0) 0) 49)).drew) from (HB1.out.alloc HB1.out.size _).drew)
      obtain ⟨zb, hzb⟩ : ∃ b, b = W1.heap.size := ⟨_, rfl⟩
      have lz : w.heap.size ≤ zb := hzb ▸ HB1.out.size
      have nz : b2 ≠ zb := fun e => by
        have := HR1.out.lt
        omega
      rw [← hzb] at HZV
      rw [← hzb]
      obtain ⟨w2, hw2⟩ : ∃ W, W = (W1.alloc (.cells (resC (fun _ => 0) (.slice none 0 0) (.slice none 0 0) (.slice none 0 0) 0) 49)).drew := ⟨_, rfl⟩
      rw [← hw2] at HPV HRV HZV HBV
      rw [show (W1.alloc _).drew = w2 from hw2.symm]
      clear hzb hw2
      refine hK.out _ _ (fun _ => (by rw [HSD.out]; exact fun i => HPV.out.cell i)) (fun hH2 => ?_)
      clear hK K
      replace hH2 := hH2 (by decide)
      try simp only [Act.put, List.setIfInBounds_toArray, List.set_cons_zero, List.set_cons_succ]
      refine Held.one (i := 6) (o := { dst := _, op := _, type := _, pos := _, after := _, guard := _ }) (by kernel_rfl) rfl (fun K hK => ?_)
      go_simp
      refine (timers_any tA tC S.tm w2 (HT.out.below HBV.out) h3).mono ?_
      rintro e w3 ⟨hb3, uA, uC, rfl, ho3⟩
      have HB3 := Lib.hid (HBV.out.trans (hb3.mono HBV.out.size))
      have HP3 := Lib.hid (HPV.out.below hb3)
      have HR3 := Lib.hid (HRV.out.below hb3)
      have HO3 := Lib.hid (World.ownsRow.mono ho3 HBV.out.size)
      have HZ3 := Lib.hid (HZV.out.below hb3)
      clear hb3 ho3
      refine hK.out _ _ (fun _ => (by rw [HSD.out]; exact fun i => HP3.out.cell i)) (fun hH3 => ?_)
      clear hK K
      replace hH3 := hH3 (by decide)
      try simp only [Act.put, List.setIfInBounds_toArray, List.set_cons_zero, List.set_cons_succ]
      refine Held.take (i := 7) (oi := { dst := _, op := _, type := _, pos := _, after := _, guard := _ }) (v := ?v7q8) rfl (by kernel_rfl) (by kernel_rfl) (by kernel_rfl) (by kernel_rfl) (fun _ _ _ h => h) (Or.inl ⟨by rfl, ?hy7q8⟩) (by assumption) ?rest7q8
      case hy7q8 => (intro w hSw; rw [HSD.out] at hSw; (try dsimp only at hSw); (try unfold resC at hSw); go_simp; (try with_reducible rfl))
      try simp only [Act.put, List.setIfInBounds_toArray, List.set_cons_zero, List.set_cons_succ]
      have zc : ∀ i, w3.cell? ⟨zb, i, none⟩ = _ := fun i => HZ3.out.cell i
      have zf : ∀ i, w3.frozen? ⟨zb, i, none⟩ = false := fun i => HZ3.out.free i
      unfold resC at zc
      try simp only [Act.put, List.setIfInBounds_toArray, List.set_cons_zero, List.set_cons_succ]
      refine Held.one (i := 9) (o := { dst := _, op := _, type := _, pos := _, after := _, guard := _ }) (by kernel_rfl) rfl (fun K hK => ?_)
      (try unfold resC)
      go_simp
      refine hK.out _ _ (fun h => absurd rfl h) (fun _ => ?_)
      clear hK K
      refine Held.done (by kernel_rfl) ?_ _
      refine NoPanic.normal ?_
      go_wp2
      go_meet
      exact ⟨_, rfl, ⟨none, 0, none, 0, uA, uC, HZ3.out.twelve rfl _ _ _ _ _ _ _ _ _ _ _ _, own_nil _ _ _ _, own_nil _ _ _ _, own12 HO3.out HZ3.out (by decide) _ _ _ _ _ _ _ _ _ _ _ _, below12 HB3.out lz _ _ _ _ _ _ _ _ _ _ _ _, blk12 HP3.out HZ3.out (by decide) _ _ _ _ _ _ _ _ _ _ _ _, blk12n HR3.out nz _ _ _ _ _ _ _ _ _ _ _ _⟩, nz, lz⟩
  obtain ⟨b3, rfl, hOw, hne, hlo⟩ := hcut
  obtain ⟨wP, hwP⟩ : ∃ x, x = wc := ⟨_, rfl⟩
  subst hwP
  have HOW := Lib.hid hOw
  clear hOw HB1 HP1 HR1 HP1D HR1D HBD u1 HSD
  obtain ⟨xA, xC, yA, yC, zA, zC, hb, he, hs, ht, hB, h1b, h2b⟩ := HOW.out
  have u1 : ∀ i, wP.cell? ⟨b1, i, none⟩ = _ := fun i => h1b.cell i
  unfold resC at u1
  clear hb he hs ht hB h1b h2b
  go_wp2_with fail
  go_loopw [17] (fun i wr => ∃ k : Nat, k ≤ S.ev.length ∧ i = .int .i64 k ∧ OwI w b1 b2 b3 (resC S.reg (.slice eA S.ev.length eC) (.slice sA S.sent.length sC) (.slice tA S.tm.length tC) S.steps) S (S.ev.take k) [] wr) (fun i _ => S.ev.length - (intOf i).toNat)
  case atStart => exact ⟨0, by omega, rfl, HOW.out⟩
  case round =>
    obtain ⟨k, hk, rfl, hOw⟩ := hrel
    obtain ⟨UL, hUL⟩ : ∃ UL, UL = S.ev.take k := ⟨_, rfl⟩
    rw [← hUL] at hOw
    have hlk : UL.length = k := by rw [hUL]; simp; omega
    have HUL := Lib.hid hUL
    have HOI := Lib.hid hOw
    clear hOw hUL
    obtain ⟨xA, xC, yA, yC, zA, zC, hb, he, hs, ht, hB, h1b, h2b⟩ := HOI.out
    have HBb := Lib.hid hb
    have HEe := Lib.hid he
    have HSs := Lib.hid hs
    have HTt := Lib.hid ht
    have HBB := Lib.hid hB
    have H1b := Lib.hid h1b
    have H2b := Lib.hid h2b
    have HBBD := Lib.hid hB.drew
    have HOD := Lib.hid HEe.out.drew
    clear hb he hs ht hB h1b h2b u1
    by_cases hkl : k < S.ev.length
    · obtain ⟨b, off, hA, hbl, q⟩ := (HE.out.below HBB.out) (by omega)
      obtain ⟨x, hx⟩ : ∃ x, x = S.ev.getD k (0, 0) := ⟨_, rfl⟩
      obtain ⟨q0, q1⟩ := encE_at S.ev k hkl
      rw [← hx] at q0 q1
      have p0 := (q (k * 2) (by omega)).trans q0
      have p1 := (q (k * 2 + 1) (by omega)).trans q1
      simp only [← Nat.add_assoc] at p1
      have HTK := Lib.hid (show S.ev.take (k + 1) = UL ++ [x] by rw [take_snoc hkl (0, 0), ← hx, ← HUL.out])
      have HXX := Lib.hid hx
      obtain ⟨x0, x1⟩ := x
      dsimp only at p0 p1
      have k0 : (0 : Int) ≤ (k : Int) := by omega
      have k1 : (k : Int) < (S.ev.length : Int) := by omega
      have HL := Lib.hid (show (UL.length + 1) * 16 ≤ 140737488355328 by omega)
      have HA := Lib.hid hA
      have HLK := Lib.hid hlk
      clear q q0 q1 hx hlk hA
      go_upto_region 5 with fail
      have r1 : wr.drew.cell? ⟨b3, 8, none⟩ = some (.slice xA UL.length xC) := HBb.out.cell 8
      have r2 : wr.drew.cell? ⟨b1, 8, none⟩ = some (.slice (some ⟨b, off, none⟩) S.ev.length eC) := HA.out ▸ H1b.out.cell 8
      have r3 : wr.drew.cell? ⟨b, off + k * 2, none⟩ = some (.int .i64 x0) := p0
      have r4 : wr.drew.cell? ⟨b, off + k * 2 + 1, none⟩ = some (.int .i64 x1) := p1
      have lz1 := HBb.out.lt
      have s1 : wr.cell? ⟨b3, 8, none⟩ = some (.slice xA UL.length xC) := r1
      have s2 : wr.cell? ⟨b1, 8, none⟩ = some (.slice (some ⟨b, off, none⟩) S.ev.length eC) := r2
      have lz2 := H1b.out.lt
      obtain ⟨Sx, hSD⟩ : ∃ Sx : World → Prop, Sx = fun w' => w'.cell? ⟨b3, 8, none⟩ = some (.slice xA UL.length xC) ∧ w'.cell? ⟨b1, 8, none⟩ = some (.slice (some ⟨b, off, none⟩) S.ev.length eC) ∧ w'.cell? ⟨b, off + k * 2, none⟩ = some (.int .i64 x0) ∧ w'.cell? ⟨b, off + k * 2 + 1, none⟩ = some (.int .i64 x1) := ⟨_, rfl⟩
      have HSD := Lib.hid hSD
      clear hSD
      refine Held.region Sx 10 (by kernel_rfl) (by rw [HSD.out]; exact ⟨r1, r2, r3, r4⟩) (fun hHeld => ?_)
      refine Held.take (i := 0) (oi := { dst := _, op := _, type := _, pos := _, after := _, guard := _ }) (v := ?v0q16) rfl (by kernel_rfl) (by kernel_rfl) (by kernel_rfl) (by kernel_rfl) (fun _ _ _ h => h) (Or.inl ⟨by rfl, ?hy0q16⟩) (by assumption) ?rest0q16
      case hy0q16 => (intro w hSw; rw [HSD.out] at hSw; (try dsimp only at hSw); obtain ⟨hs0, hs1, hs2, hs3⟩ := hSw; go_simp; (try with_reducible rfl))
      try simp only [Act.put, List.setIfInBounds_toArray, List.set_cons_zero, List.set_cons_succ]
      refine Held.take (i := 1) (oi := { dst := _, op := _, type := _, pos := _, after := _, guard := _ }) (v := ?v1q17) rfl (by kernel_rfl) (by kernel_rfl) (by kernel_rfl) (by kernel_rfl) (fun _ _ _ h => h) (Or.inl ⟨by rfl, ?hy1q17⟩) (by assumption) ?rest1q17
      case hy1q17 => (intro w hSw; rw [HSD.out] at hSw; (try dsimp only at hSw); obtain ⟨hs0, hs1, hs2, hs3⟩ := hSw; go_simp; (try with_reducible rfl))
      try simp only [Act.put, List.setIfInBounds_toArray, List.set_cons_zero, List.set_cons_succ]
      refine Held.take (i := 2) (oi := { dst := _, op := _, type := _, pos := _, after := _, guard := _ }) (v := ?v2q18) rfl (by kernel_rfl) (by kernel_rfl) (by kernel_rfl) (by kernel_rfl) (fun _ _ _ h => h) (Or.inl ⟨by rfl, ?hy2q18⟩) (by assumption) ?rest2q18
      case hy2q18 => (intro w hSw; rw [HSD.out] at hSw; (try dsimp only at hSw); obtain ⟨hs0, hs1, hs2, hs3⟩ := hSw; go_simp; (try with_reducible rfl))
      try simp only [Act.put, List.setIfInBounds_toArray, List.set_cons_zero, List.set_cons_succ]
      refine Held.take (i := 3) (oi := { dst := _, op := _, type := _, pos := _, after := _, guard := _ }) (v := ?v3q19) rfl (by kernel_rfl) (by kernel_rfl) (by kernel_rfl) (by kernel_rfl) (fun _ _ _ h => h) (Or.inl ⟨by rfl, ?hy3q19⟩) (by assumption) ?rest3q19
      case hy3q19 => (intro w hSw; rw [HSD.out] at hSw; (try dsimp only at hSw); obtain ⟨hs0, hs1, hs2, hs3⟩ := hSw; go_simp; (try with_reducible rfl))
      try simp only [Act.put, List.setIfInBounds_toArray, List.set_cons_zero, List.set_cons_succ]
      refine Held.take (i := 4) (oi := { dst := _, op := _, type := _, pos := _, after := _, guard := _ }) (v := ?v4q20) rfl (by kernel_rfl) (by kernel_rfl) (by kernel_rfl) (by kernel_rfl) (fun _ _ _ h => h) (Or.inl ⟨by rfl, ?hy4q20⟩) (by assumption) ?rest4q20
      case hy4q20 => (intro w hSw; rw [HSD.out] at hSw; (try dsimp only at hSw); obtain ⟨hs0, hs1, hs2, hs3⟩ := hSw; go_simp; (try with_reducible rfl))
      try simp only [Act.put, List.setIfInBounds_toArray, List.set_cons_zero, List.set_cons_succ]
      refine Held.take (i := 5) (oi := { dst := _, op := _, type := _, pos := _, after := _, guard := _ }) (v := ?v5q21) rfl (by kernel_rfl) (by kernel_rfl) (by kernel_rfl) (by kernel_rfl) (fun _ _ _ h => h) (Or.inl ⟨by rfl, ?hy5q21⟩) (by assumption) ?rest5q21
      case hy5q21 => (intro w hSw; rw [HSD.out] at hSw; (try dsimp only at hSw); obtain ⟨hs0, hs1, hs2, hs3⟩ := hSw; go_simp; (try with_reducible rfl))
      try simp only [Act.put, List.setIfInBounds_toArray, List.set_cons_zero, List.set_cons_succ]
      refine Held.take (i := 6) (oi := { dst := _, op := _, type := _, pos := _, after := _, guard := _ }) (v := ?v6q22) rfl (by kernel_rfl) (by kernel_rfl) (by kernel_rfl) (by kernel_rfl) (fun _ _ _ h => h) (Or.inl ⟨by rfl, ?hy6q22⟩) (by assumption) ?rest6q22
      case hy6q22 => (intro w hSw; rw [HSD.out] at hSw; (try dsimp only at hSw); obtain ⟨hs0, hs1, hs2, hs3⟩ := hSw; go_simp; (try with_reducible rfl))
      try simp only [Act.put, List.setIfInBounds_toArray, List.set_cons_zero, List.set_cons_succ]
      refine Held.one (i := 7) (o := { dst := _, op := _, type := _, pos := _, after := _, guard := _ }) (by kernel_rfl) rfl (fun K hK => ?_)
      go_simp
      refine hK.out _ _ (fun _ => ?hS17) (fun hHeld2 => ?_)
      case hS17 => (rw [HSD.out]; go_keep)
      clear hK K
      replace hHeld2 := hHeld2 (by decide)
      try simp only [Act.put, List.setIfInBounds_toArray, List.set_cons_zero, List.set_cons_succ]
      refine Held.one (i := 8) (o := { dst := _, op := _, type := _, pos := _, after := _, guard := _ }) (by kernel_rfl) rfl (fun K hK => ?_)
      refine step_append_cells (w0 := w) w.heap.size (by rfl) (.tmp 21) (.tmp 27) 45 86 _ 2 16 (by rfl) Try.underlying45 info86 rfl (by omega) (by omega) _ UL.length (encE UL) [.int .i64 x0, .int .i64 x1] (by rfl) (by rfl) rfl (by simp [Value.oneCell']) HOD.out HBBD.out HBBD.out.size HL.out ?_
      intro v1 w3 ho hbl3 hg hat
      obtain ⟨V, vn, rfl⟩ := own_slice ho
      have HF := Lib.hid (OwI.ev x0 x1 HBb.out.drew (World.ownsRow.drew HEe.out) (World.ownsRow.drew HSs.out) (World.ownsRow.drew HTt.out) H1b.out.drew H2b.out.drew hne hlo ho hbl3 hg)
      have u3 : ∀ i, w3.cell? ⟨b3, i, none⟩ = _ := fun i => HF.out.1.cell i
      have f3 : ∀ i, w3.frozen? ⟨b3, i, none⟩ = false := fun i => HF.out.1.free i
      have l3 := HF.out.1.lt
      obtain ⟨b', off', hb', hbl', q'⟩ := (HE.out.below hbl3) (by omega)
      obtain ⟨rfl, rfl⟩ : b' = b ∧ off' = off := by rw [HA.out] at hb'; injection hb' with hb'; injection hb' with hb1 hb2 _; exact ⟨hb1.symm, hb2.symm⟩
      obtain ⟨q0, q1⟩ := encE_at S.ev k hkl
      rw [← HXX.out] at q0 q1
      have p0' := (q' (k * 2) (by omega)).trans q0
      have p1' := (q' (k * 2 + 1) (by omega)).trans q1
      simp only [← Nat.add_assoc] at p1'
      have g1 : w3.cell? ⟨b3, 8, none⟩ = some (.slice xA UL.length xC) := u3 8
      have g2 : w3.cell? ⟨b1, 8, none⟩ = some (.slice (some ⟨b', off', none⟩) S.ev.length eC) := HA.out ▸ HF.out.2.1.cell 8
      clear ho hbl3 hg hat hHeld2 u3 q' hb' q0 q1
      refine hK.out _ _ (fun _ => ?hT17) (fun hHeld3 => ?_)
      case hT17 => (rw [HSD.out]; exact ⟨g1, g2, p0', p1'⟩)
      clear hK K
      replace hHeld3 := hHeld3 (by decide)
      try simp only [Act.put, List.setIfInBounds_toArray, List.set_cons_zero, List.set_cons_succ]
      refine Held.one (i := 9) (o := { dst := _, op := _, type := _, pos := _, after := _, guard := _ }) (by kernel_rfl) rfl (fun K hK => ?_)
      go_simp
      refine hK.out _ _ (fun _ => hHeld3) (fun _ => ?_)
      clear hK K
      try simp only [Act.put, List.setIfInBounds_toArray, List.set_cons_zero, List.set_cons_succ]
      refine Held.one (i := 10) (o := { dst := _, op := _, type := _, pos := _, after := _, guard := _ }) (by kernel_rfl) rfl (fun K hK => ?_)
      go_simp
      refine hK.out _ _ (fun h => absurd rfl h) (fun _ => ?_)
      clear hK K
      refine Held.done (by kernel_rfl) ?_ _
      refine NoPanic.normal ?_
      go_wp2
      go_roundw
      case rel => exact ⟨k + 1, by omega, by go_num, by rw [HTK.out]; exact HF.out.2.2⟩
      case measure => simp [intOf]; omega
    · obtain rfl : k = S.ev.length := by omega
      have hTC : UL = S.ev := by rw [HUL.out]; simp
      subst hTC
      clear HUL
      have u1 : ∀ i, wr.cell? ⟨b1, i, none⟩ = _ := fun i => H1b.out.cell i
      unfold resC at u1
      have HOW := Lib.hid (show OwI w b1 b2 b3 (resC S.reg (.slice eA S.ev.length eC) (.slice sA S.sent.length sC) (.slice tA S.tm.length tC) S.steps) S S.ev (S.sent.take 0) wr from HOI.out)
      clear HOI HBb HEe HSs HTt HBB H1b H2b HBBD HOD hk hlk
      obtain ⟨wo, hwo⟩ : ∃ wo, wo = wr := ⟨_, rfl⟩
      subst hwo
      go_wp2_with fail
      go_loopw [34] (fun i wr => ∃ k : Nat, k ≤ S.sent.length ∧ i = .int .i64 k ∧ OwI w b1 b2 b3 (resC S.reg (.slice eA S.ev.length eC) (.slice sA S.sent.length sC) (.slice tA S.tm.length tC) S.steps) S S.ev (S.sent.take k) wr) (fun i _ => S.sent.length - (intOf i).toNat)
      case atStart => exact ⟨0, by omega, rfl, HOW.out⟩
      case round =>
        obtain ⟨k, hk, rfl, hOw⟩ := hrel
        obtain ⟨UL, hUL⟩ : ∃ UL, UL = S.sent.take k := ⟨_, rfl⟩
        rw [← hUL] at hOw
        have hlk : UL.length = k := by rw [hUL]; simp; omega
        have HUL := Lib.hid hUL
        have HOI := Lib.hid hOw
        clear hOw hUL
        obtain ⟨xA, xC, yA, yC, zA, zC, hb, he, hs, ht, hB, h1b, h2b⟩ := HOI.out
        have HBb := Lib.hid hb
        have HEe := Lib.hid he
        have HSs := Lib.hid hs
        have HTt := Lib.hid ht
        have HBB := Lib.hid hB
        have H1b := Lib.hid h1b
        have H2b := Lib.hid h2b
        have HBBD := Lib.hid hB.drew
        have HOD := Lib.hid HSs.out.drew
        clear hb he hs ht hB h1b h2b u1
        by_cases hkl : k < S.sent.length
        · obtain ⟨b, off, hA, hbl, q⟩ := (HS.out.below HBB.out) (by omega)
          obtain ⟨x, hx⟩ : ∃ x, x = S.sent.getD k (⟨#[]⟩, 0, 0) := ⟨_, rfl⟩
          obtain ⟨q0, q1, q2⟩ := encS_at S.sent k hkl
          rw [← hx] at q0 q1 q2
          have p0 := (q (k * 3) (by omega)).trans q0
          have p1 := (q (k * 3 + 1) (by omega)).trans q1
          have p2 := (q (k * 3 + 2) (by omega)).trans q2
          simp only [← Nat.add_assoc] at p1 p2
          have HTK := Lib.hid (show S.sent.take (k + 1) = UL ++ [x] by rw [take_snoc hkl (⟨#[]⟩, 0, 0), ← hx, ← HUL.out])
          have HXX := Lib.hid hx
          obtain ⟨x0, x1, x2⟩ := x
          dsimp only at p0 p1 p2
          have k0 : (0 : Int) ≤ (k : Int) := by omega
          have k1 : (k : Int) < (S.sent.length : Int) := by omega
          have HL := Lib.hid (show (UL.length + 1) * 32 ≤ 140737488355328 by omega)
          have HA := Lib.hid hA
          have HLK := Lib.hid hlk
          clear q q0 q1 q2 hx hlk hA
          go_upto_region 10 with fail
          have r1 : wr.drew.cell? ⟨b3, 9, none⟩ = some (.slice yA UL.length yC) := HBb.out.cell 9
          have r2 : wr.drew.cell? ⟨b1, 9, none⟩ = some (.slice (some ⟨b, off, none⟩) S.sent.length sC) := HA.out ▸ H1b.out.cell 9
          have r3 : wr.drew.cell? ⟨b, off + k * 3, none⟩ = some (.string x0) := p0
          have r4 : wr.drew.cell? ⟨b, off + k * 3 + 1, none⟩ = some (.int .i64 x1) := p1
          have r5 : wr.drew.cell? ⟨b, off + k * 3 + 2, none⟩ = some (.int .i64 x2) := p2
          have lz1 := HBb.out.lt
          have s1 : wr.cell? ⟨b3, 9, none⟩ = some (.slice yA UL.length yC) := r1
          have s2 : wr.cell? ⟨b1, 9, none⟩ = some (.slice (some ⟨b, off, none⟩) S.sent.length sC) := r2
          have lz2 := H1b.out.lt
          obtain ⟨Sx, hSD⟩ : ∃ Sx : World → Prop, Sx = fun w' => w'.cell? ⟨b3, 9, none⟩ = some (.slice yA UL.length yC) ∧ w'.cell? ⟨b1, 9, none⟩ = some (.slice (some ⟨b, off, none⟩) S.sent.length sC) ∧ w'.cell? ⟨b, off + k * 3, none⟩ = some (.string x0) ∧ w'.cell? ⟨b, off + k * 3 + 1, none⟩ = some (.int .i64 x1) ∧ w'.cell? ⟨b, off + k * 3 + 2, none⟩ = some (.int .i64 x2) := ⟨_, rfl⟩
          have HSD := Lib.hid hSD
          clear hSD
          refine Held.region Sx 10 (by kernel_rfl) (by rw [HSD.out]; exact ⟨r1, r2, r3, r4, r5⟩) (fun hHeld => ?_)
          refine Held.take (i := 0) (oi := { dst := _, op := _, type := _, pos := _, after := _, guard := _ }) (v := ?v0q9) rfl (by kernel_rfl) (by kernel_rfl) (by kernel_rfl) (by kernel_rfl) (fun _ _ _ h => h) (Or.inl ⟨by rfl, ?hy0q9⟩) (by assumption) ?rest0q9
          case hy0q9 => (intro w hSw; rw [HSD.out] at hSw; (try dsimp only at hSw); obtain ⟨hs0, hs1, hs2, hs3, hs4⟩ := hSw; go_simp; (try with_reducible rfl))
          try simp only [Act.put, List.setIfInBounds_toArray, List.set_cons_zero, List.set_cons_succ]
          refine Held.take (i := 1) (oi := { dst := _, op := _, type := _, pos := _, after := _, guard := _ }) (v := ?v1q10) rfl (by kernel_rfl) (by kernel_rfl) (by kernel_rfl) (by kernel_rfl) (fun _ _ _ h => h) (Or.inl ⟨by rfl, ?hy1q10⟩) (by assumption) ?rest1q10
          case hy1q10 => (intro w hSw; rw [HSD.out] at hSw; (try dsimp only at hSw); obtain ⟨hs0, hs1, hs2, hs3, hs4⟩ := hSw; go_simp; (try with_reducible rfl))
          try simp only [Act.put, List.setIfInBounds_toArray, List.set_cons_zero, List.set_cons_succ]
          refine Held.take (i := 2) (oi := { dst := _, op := _, type := _, pos := _, after := _, guard := _ }) (v := ?v2q11) rfl (by kernel_rfl) (by kernel_rfl) (by kernel_rfl) (by kernel_rfl) (fun _ _ _ h => h) (Or.inl ⟨by rfl, ?hy2q11⟩) (by assumption) ?rest2q11
          case hy2q11 => (intro w hSw; rw [HSD.out] at hSw; (try dsimp only at hSw); obtain ⟨hs0, hs1, hs2, hs3, hs4⟩ := hSw; go_simp; (try with_reducible rfl))
          try simp only [Act.put, List.setIfInBounds_toArray, List.set_cons_zero, List.set_cons_succ]
          refine Held.take (i := 3) (oi := { dst := _, op := _, type := _, pos := _, after := _, guard := _ }) (v := ?v3q12) rfl (by kernel_rfl) (by kernel_rfl) (by kernel_rfl) (by kernel_rfl) (fun _ _ _ h => h) (Or.inl ⟨by rfl, ?hy3q12⟩) (by assumption) ?rest3q12
          case hy3q12 => (intro w hSw; rw [HSD.out] at hSw; (try dsimp only at hSw); obtain ⟨hs0, hs1, hs2, hs3, hs4⟩ := hSw; go_simp; (try with_reducible rfl))
          try simp only [Act.put, List.setIfInBounds_toArray, List.set_cons_zero, List.set_cons_succ]
          refine Held.take (i := 4) (oi := { dst := _, op := _, type := _, pos := _, after := _, guard := _ }) (v := ?v4q13) rfl (by kernel_rfl) (by kernel_rfl) (by kernel_rfl) (by kernel_rfl) (fun _ _ _ h => h) (Or.inl ⟨by rfl, ?hy4q13⟩) (by assumption) ?rest4q13
          case hy4q13 => (intro w hSw; rw [HSD.out] at hSw; (try dsimp only at hSw); obtain ⟨hs0, hs1, hs2, hs3, hs4⟩ := hSw; go_simp; (try with_reducible rfl))
          try simp only [Act.put, List.setIfInBounds_toArray, List.set_cons_zero, List.set_cons_succ]
          refine Held.take (i := 5) (oi := { dst := _, op := _, type := _, pos := _, after := _, guard := _ }) (v := ?v5q14) rfl (by kernel_rfl) (by kernel_rfl) (by kernel_rfl) (by kernel_rfl) (fun _ _ _ h => h) (Or.inl ⟨by rfl, ?hy5q14⟩) (by assumption) ?rest5q14
          case hy5q14 => (intro w hSw; rw [HSD.out] at hSw; (try dsimp only at hSw); obtain ⟨hs0, hs1, hs2, hs3, hs4⟩ := hSw; go_simp; (try with_reducible rfl))
          try simp only [Act.put, List.setIfInBounds_toArray, List.set_cons_zero, List.set_cons_succ]
          refine Held.take (i := 6) (oi := { dst := _, op := _, type := _, pos := _, after := _, guard := _ }) (v := ?v6q15) rfl (by kernel_rfl) (by kernel_rfl) (by kernel_rfl) (by kernel_rfl) (fun _ _ _ h => h) (Or.inl ⟨by rfl, ?hy6q15⟩) (by assumption) ?rest6q15
          case hy6q15 => (intro w hSw; rw [HSD.out] at hSw; (try dsimp only at hSw); obtain ⟨hs0, hs1, hs2, hs3, hs4⟩ := hSw; go_simp; (try with_reducible rfl))
          try simp only [Act.put, List.setIfInBounds_toArray, List.set_cons_zero, List.set_cons_succ]
          refine Held.one (i := 7) (o := { dst := _, op := _, type := _, pos := _, after := _, guard := _ }) (by kernel_rfl) rfl (fun K hK => ?_)
          go_simp
          refine hK.out _ _ (fun _ => ?hS34) (fun hHeld2 => ?_)
          case hS34 => (rw [HSD.out]; go_keep)
          clear hK K
          replace hHeld2 := hHeld2 (by decide)
          try simp only [Act.put, List.setIfInBounds_toArray, List.set_cons_zero, List.set_cons_succ]
          refine Held.one (i := 8) (o := { dst := _, op := _, type := _, pos := _, after := _, guard := _ }) (by kernel_rfl) rfl (fun K hK => ?_)
          refine step_append_cells (w0 := w) w.heap.size (by rfl) (.tmp 38) (.tmp 44) 46 83 _ 3 32 (by rfl) Try.underlying46 info83 rfl (by omega) (by omega) _ UL.length (encS UL) [.string x0, .int .i64 x1, .int .i64 x2] (by rfl) (by rfl) rfl (by simp [Value.oneCell']) HOD.out HBBD.out HBBD.out.size HL.out ?_
          intro v1 w3 ho hbl3 hg hat
          obtain ⟨V, vn, rfl⟩ := own_slice ho
          have HF := Lib.hid (OwI.sn x0 x1 x2 HBb.out.drew (World.ownsRow.drew HEe.out) (World.ownsRow.drew HSs.out) (World.ownsRow.drew HTt.out) H1b.out.drew H2b.out.drew hne hlo ho hbl3 hg)
          have u3 : ∀ i, w3.cell? ⟨b3, i, none⟩ = _ := fun i => HF.out.1.cell i
          have f3 : ∀ i, w3.frozen? ⟨b3, i, none⟩ = false := fun i => HF.out.1.free i
          have l3 := HF.out.1.lt
          obtain ⟨b', off', hb', hbl', q'⟩ := (HS.out.below hbl3) (by omega)
          obtain ⟨rfl, rfl⟩ : b' = b ∧ off' = off := by rw [HA.out] at hb'; injection hb' with hb'; injection hb' with hb1 hb2 _; exact ⟨hb1.symm, hb2.symm⟩
          obtain ⟨q0, q1, q2⟩ := encS_at S.sent k hkl
          rw [← HXX.out] at q0 q1 q2
          have p0' := (q' (k * 3) (by omega)).trans q0
          have p1' := (q' (k * 3 + 1) (by omega)).trans q1
          have p2' := (q' (k * 3 + 2) (by omega)).trans q2
          simp only [← Nat.add_assoc] at p1' p2'
          have g1 : w3.cell? ⟨b3, 9, none⟩ = some (.slice yA UL.length yC) := u3 9
          have g2 : w3.cell? ⟨b1, 9, none⟩ = some (.slice (some ⟨b', off', none⟩) S.sent.length sC) := HA.out ▸ HF.out.2.1.cell 9
          clear ho hbl3 hg hat hHeld2 u3 q' hb' q0 q1 q2
          refine hK.out _ _ (fun _ => ?hT34) (fun hHeld3 => ?_)
          case hT34 => (rw [HSD.out]; exact ⟨g1, g2, p0', p1', p2'⟩)
          clear hK K
          replace hHeld3 := hHeld3 (by decide)
          try simp only [Act.put, List.setIfInBounds_toArray, List.set_cons_zero, List.set_cons_succ]
          refine Held.one (i := 9) (o := { dst := _, op := _, type := _, pos := _, after := _, guard := _ }) (by kernel_rfl) rfl (fun K hK => ?_)
          go_simp
          refine hK.out _ _ (fun _ => hHeld3) (fun _ => ?_)
          clear hK K
          try simp only [Act.put, List.setIfInBounds_toArray, List.set_cons_zero, List.set_cons_succ]
          refine Held.one (i := 10) (o := { dst := _, op := _, type := _, pos := _, after := _, guard := _ }) (by kernel_rfl) rfl (fun K hK => ?_)
          go_simp
          refine hK.out _ _ (fun h => absurd rfl h) (fun _ => ?_)
          clear hK K
          refine Held.done (by kernel_rfl) ?_ _
          refine NoPanic.normal ?_
          go_wp2
          go_roundw
          case rel => exact ⟨k + 1, by omega, by go_num, by rw [HTK.out]; exact HF.out.2.2⟩
          case measure => simp [intOf]; omega
        · obtain rfl : k = S.sent.length := by omega
          have hTC : UL = S.sent := by rw [HUL.out]; simp
          subst hTC
          clear HUL
          have u3 : ∀ i, wr.cell? ⟨b3, i, none⟩ = _ := fun i => HBb.out.cell i
          have u2 : ∀ i, wr.cell? ⟨b2, i, none⟩ = _ := fun i => H2b.out.cell i
          have f2 : ∀ i, wr.frozen? ⟨b2, i, none⟩ = false := fun i => H2b.out.free i
          unfold resC at u3 u2
          go_wp2_with fail
          refine bodyPost_ret (results_single rfl (.cell b2 49 _ (0, 0) _ rfl (H2b.out.twelve rfl _ _ _ _ _ _ _ _ _ _ _ _) Try.underlying49 rfl (by kernel_rfl) .nil)) rfl ?_
          exact ⟨below12 HBB.out l2 _ _ _ _ _ _ _ _ _ _ _ _, xA, xC, yA, yC, zA, zC, rfl, own12 HEe.out H2b.out (by decide) _ _ _ _ _ _ _ _ _ _ _ _, own12 HSs.out H2b.out (by decide) _ _ _ _ _ _ _ _ _ _ _ _, own12 HTt.out H2b.out (by decide) _ _ _ _ _ _ _ _ _ _ _ _⟩
end Go.Proofs.Ytmmbigfeojfedaa.R
namespace Go.Proofs.Ytmmbigfeojfedaa.R
open Go.RowKit Go.Proofs.YtmmbigfeojfedaaW.PrintWords

set_option maxRecDepth 100000 in
set_option maxHeartbeats 4000000 in
theorem sameEvents_any (A B : Option Addr) (ca cb : Nat) (EL : List (Int × Int)) (w : World) (hA : IsRow w A 2 EL.length (encE EL)) (hB : IsRow w B 2 EL.length (encE EL)) (hl : EL.length ≤ 1000) :
    Calls Try.prog 24 #[.slice A EL.length ca, .slice B EL.length cb] w fun e w' => e = .returned (.bool true) ∧ Below w.heap.size w w' := by
  have HA := Lib.hid hA
  have HB := Lib.hid hB
  clear hA hB
  have t0 : ((EL.length : Int) != (EL.length : Int)) = false := by simp
  go_enter Try.func24, Try.ntmps24
  go_wp2_with fail
  go_loopw [13] (fun i wr => ∃ k : Nat, k ≤ EL.length ∧ i = .int .i64 k ∧ Below w.heap.size w wr) (fun i _ => EL.length - (intOf i).toNat)
  case atStart => exact ⟨0, by omega, rfl, Below.refl _ _⟩
  case round =>
    obtain ⟨k, hk, rfl, hb⟩ := hrel
    have HW := Lib.hid hb
    by_cases hkl : k < EL.length
    · obtain ⟨b, off, rfl, hbl, q⟩ := (HA.out.below hb) (by omega)
      obtain ⟨b', off', rfl, hbl', q'⟩ := (HB.out.below hb) (by omega)
      obtain ⟨x, hx⟩ : ∃ x, x = EL.getD k (0, 0) := ⟨_, rfl⟩
      obtain ⟨q0, q1⟩ := encE_at EL k hkl
      rw [← hx] at q0 q1
      have p0 := (q (k * 2) (by omega)).trans q0
      have p1 := (q (k * 2 + 1) (by omega)).trans q1
      have r0 := (q' (k * 2) (by omega)).trans q0
      have r1 := (q' (k * 2 + 1) (by omega)).trans q1
      simp only [← Nat.add_assoc] at p1 r1
      obtain ⟨x0, x1⟩ := x
      dsimp only at p0 p1 r0 r1
      have k0 : (0 : Int) ≤ (k : Int) := by omega
      have k1 : (k : Int) < (EL.length : Int) := by omega
      clear q q' q0 q1 hx hb
      go_wp2_with fail
      go_quiet (fail)
      go_wp2
      go_roundw
      case rel => exact ⟨k + 1, by omega, by go_num, below_drewN HW.out _⟩
      case measure => simp [intOf]; omega
    · obtain rfl : k = EL.length := by omega
      go_wp2
      go_ret
      exact ⟨rfl, HW.out⟩
set_option maxRecDepth 100000 in
set_option maxHeartbeats 4000000 in
theorem sameTimers_any (A B : Option Addr) (ca cb : Nat) (TL : List (ByteArray × Bool × Int × Int × Int)) (w : World) (hA : IsRow w A 5 TL.length (encT TL)) (hB : IsRow w B 5 TL.length (encT TL)) (hl : TL.length ≤ 1000) :
    Calls Try.prog 25 #[.slice A TL.length ca, .slice B TL.length cb] w fun e w' => e = .returned (.bool true) ∧ Below w.heap.size w w' := by
  have HA := Lib.hid hA
  have HB := Lib.hid hB
  clear hA hB
  have t0 : ((TL.length : Int) != (TL.length : Int)) = false := by simp
  go_enter Try.func25, Try.ntmps25
  go_wp2_with fail
  go_loopw [13] (fun i wr => ∃ k : Nat, k ≤ TL.length ∧ i = .int .i64 k ∧ Below w.heap.size w wr) (fun i _ => TL.length - (intOf i).toNat)
  case atStart => exact ⟨0, by omega, rfl, Below.refl _ _⟩
  case round =>
    obtain ⟨k, hk, rfl, hb⟩ := hrel
    have HW := Lib.hid hb
    by_cases hkl : k < TL.length
    · obtain ⟨b, off, rfl, hbl, q⟩ := (HA.out.below hb) (by omega)
      obtain ⟨b', off', rfl, hbl', q'⟩ := (HB.out.below hb) (by omega)
      obtain ⟨x, hx⟩ : ∃ x, x = TL.getD k (⟨#[]⟩, true, 0, 0, 0) := ⟨_, rfl⟩
      obtain ⟨q0, q1, q2, q3, q4⟩ := encT_at TL k hkl
      rw [← hx] at q0 q1 q2 q3 q4
      have p0 := (q (k * 5) (by omega)).trans q0
      have p1 := (q (k * 5 + 1) (by omega)).trans q1
      have p2 := (q (k * 5 + 2) (by omega)).trans q2
      have p3 := (q (k * 5 + 3) (by omega)).trans q3
      have p4 := (q (k * 5 + 4) (by omega)).trans q4
      have r0 := (q' (k * 5) (by omega)).trans q0
      have r1 := (q' (k * 5 + 1) (by omega)).trans q1
      have r2 := (q' (k * 5 + 2) (by omega)).trans q2
      have r3 := (q' (k * 5 + 3) (by omega)).trans q3
      have r4 := (q' (k * 5 + 4) (by omega)).trans q4
      simp only [← Nat.add_assoc] at p1 p2 p3 p4 r1 r2 r3 r4
      obtain ⟨x0, x1, x2, x3, x4⟩ := x
      dsimp only at p0 p1 p2 p3 p4 r0 r1 r2 r3 r4
      have k0 : (0 : Int) ≤ (k : Int) := by omega
      have k1 : (k : Int) < (TL.length : Int) := by omega
      clear q q' q0 q1 q2 q3 q4 hx hb
      go_wp2_with fail
      go_quiet (fail)
      go_wp2
      go_roundw
      case rel => exact ⟨k + 1, by omega, by go_num, below_drewN HW.out _⟩
      case measure => simp [intOf]; omega
    · obtain rfl : k = TL.length := by omega
      go_wp2
      go_ret
      exact ⟨rfl, HW.out⟩
end Go.Proofs.Ytmmbigfeojfedaa.R
namespace Go.Proofs.Ytmmbigfeojfedaa.R
open Go.RowKit Go.Proofs.YtmmbigfeojfedaaW.PrintWords

set_option maxRecDepth 100000 in
set_option maxHeartbeats 4000000 in
theorem same_any (S : St) (eA sA tA eB sB tB : Option Addr) (eC sC tC eD sD tD : Nat) (w : World) (hE : IsRow w eA 2 S.ev.length (encE S.ev)) (hS : IsRow w sA 3 S.sent.length (encS S.sent)) (hT : IsRow w tA 5 S.tm.length (encT S.tm))
    (hE' : IsRow w eB 2 S.ev.length (encE S.ev)) (hS' : IsRow w sB 3 S.sent.length (encS S.sent)) (hT' : IsRow w tB 5 S.tm.length (encT S.tm)) (h1 : S.ev.length ≤ 1000) (h2 : S.sent.length ≤ 1000) (h3 : S.tm.length ≤ 1000) :
    Calls Try.prog 15 #[.agg (resC S.reg (.slice eA S.ev.length eC) (.slice sA S.sent.length sC) (.slice tA S.tm.length tC) S.steps), .agg (resC S.reg (.slice eB S.ev.length eD) (.slice sB S.sent.length sD) (.slice tB S.tm.length tD) S.steps)] w fun e w' => e = .returned (.bool true) ∧ Below w.heap.size w w' := by
  obtain ⟨W1, hW1⟩ : ∃ W, W = (w.alloc (.cells (resC S.reg (.slice eA S.ev.length eC) (.slice sA S.sent.length sC) (.slice tA S.tm.length tC) S.steps) 49)).alloc (.cells (resC S.reg (.slice eB S.ev.length eD) (.slice sB S.sent.length sD) (.slice tB S.tm.length tD) S.steps) 49) := ⟨_, rfl⟩
  have g1 : Below w.heap.size w (w.alloc (.cells (resC S.reg (.slice eA S.ev.length eC) (.slice sA S.sent.length sC) (.slice tA S.tm.length tC) S.steps) 49)) := (Below.refl _ _).alloc (Nat.le_refl _) _
  have HB1 := Lib.hid (show Below w.heap.size w W1 from hW1 ▸ g1.alloc g1.size _)
  have HP := Lib.hid (show Blk W1 w.heap.size (resC S.reg (.slice eA S.ev.length eC) (.slice sA S.sent.length sC) (.slice tA S.tm.length tC) S.steps) 49 from hW1 ▸ (Blk.new _ _ _).alloc _)
  have HQ := Lib.hid (show Blk W1 (w.heap.size + 1) (resC S.reg (.slice eB S.ev.length eD) (.slice sB S.sent.length sD) (.slice tB S.tm.length tD) S.steps) 49 from hW1 ▸ Blk.newAt (by simp))
  have HW1 := Lib.hid hW1
  have HE := Lib.hid hE
  have HS := Lib.hid hS
  have HT := Lib.hid hT
  have HE' := Lib.hid hE'
  have HS' := Lib.hid hS'
  have HT' := Lib.hid hT'
  have hq : ∀ w : World, (Op.equalIn 10000 26 (.agg (regC S.reg)) (.agg (regC S.reg))).run Try.prog w = .ok true w := eq26 _
  have t1 : ((S.sent.length : Int) != (S.sent.length : Int)) = false := by simp
  have t2 : ((S.tm.length : Int) != (S.tm.length : Int)) = false := by simp
  have t3 : (S.steps != S.steps) = false := by simp
  clear hE hS hT hE' hS' hT' hW1 g1
  go_enter Try.func15, Try.ntmps15
  go_upto_region 1 with fail
  rw [show (w.alloc _).alloc _ = W1 from HW1.out.symm]
  clear HW1
  obtain ⟨b1, hb1⟩ : ∃ b, b = w.heap.size := ⟨_, rfl⟩
  obtain ⟨b2, hb2⟩ : ∃ b, b = w.heap.size + 1 := ⟨_, rfl⟩
  rw [← hb1] at HP
  rw [← hb2] at HQ
  rw [← hb2, ← hb1]
  clear hb1 hb2
  have u1 : ∀ i, W1.cell? ⟨b1, i, none⟩ = _ := fun i => HP.out.cell i
  have u2 : ∀ i, W1.cell? ⟨b2, i, none⟩ = _ := fun i => HQ.out.cell i
  unfold resC at u1 u2
  go_wp2_with fail
  refine (sameEvents_any eA eB eC eD S.ev W1 (HE.out.below HB1.out) (HE'.out.below HB1.out) h1).mono ?_
  rintro e w2 ⟨rfl, hb2⟩
  have HB2 := Lib.hid (HB1.out.trans (hb2.mono HB1.out.size))
  have HP2 := Lib.hid (HP.out.below hb2)
  have HQ2 := Lib.hid (HQ.out.below hb2)
  clear hb2 HB1 HP HQ u1 u2
  have u1 : ∀ i, w2.cell? ⟨b1, i, none⟩ = _ := fun i => HP2.out.cell i
  have u2 : ∀ i, w2.cell? ⟨b2, i, none⟩ = _ := fun i => HQ2.out.cell i
  unfold resC at u1 u2
  go_wp2_with fail
  go_loopw [47] (fun i wr => ∃ k : Nat, k ≤ S.sent.length ∧ i = .int .i64 k ∧ Below w.heap.size w wr ∧ Blk wr b1 (resC S.reg (.slice eA S.ev.length eC) (.slice sA S.sent.length sC) (.slice tA S.tm.length tC) S.steps) 49 ∧ Blk wr b2 (resC S.reg (.slice eB S.ev.length eD) (.slice sB S.sent.length sD) (.slice tB S.tm.length tD) S.steps) 49) (fun i _ => S.sent.length - (intOf i).toNat)
  case atStart => exact ⟨0, by omega, rfl, HB2.out, HP2.out, HQ2.out⟩
  case round =>
    obtain ⟨k, hk, rfl, hb, hp, hq2⟩ := hrel
    have HW := Lib.hid hb
    have HP3 := Lib.hid hp
    have HQ3 := Lib.hid hq2
    clear u1 u2 HB2 HP2 HQ2
    have u1 : ∀ i, wr.cell? ⟨b1, i, none⟩ = _ := fun i => HP3.out.cell i
    have u2 : ∀ i, wr.cell? ⟨b2, i, none⟩ = _ := fun i => HQ3.out.cell i
    unfold resC at u1 u2
    by_cases hkl : k < S.sent.length
    · obtain ⟨b, off, rfl, hbl, q⟩ := (HS.out.below hb) (by omega)
      obtain ⟨b', off', rfl, hbl', q'⟩ := (HS'.out.below hb) (by omega)
      obtain ⟨x, hx⟩ : ∃ x, x = S.sent.getD k (⟨#[]⟩, 0, 0) := ⟨_, rfl⟩
      obtain ⟨q0, q1, q2⟩ := encS_at S.sent k hkl
      rw [← hx] at q0 q1 q2
      have p0 := (q (k * 3) (by omega)).trans q0
      have p1 := (q (k * 3 + 1) (by omega)).trans q1
      have p2 := (q (k * 3 + 2) (by omega)).trans q2
      have r0 := (q' (k * 3) (by omega)).trans q0
      have r1 := (q' (k * 3 + 1) (by omega)).trans q1
      have r2 := (q' (k * 3 + 2) (by omega)).trans q2
      simp only [← Nat.add_assoc] at p1 p2 r1 r2
      obtain ⟨x0, x1, x2⟩ := x
      dsimp only at p0 p1 p2 r0 r1 r2
      have k0 : (0 : Int) ≤ (k : Int) := by omega
      have k1 : (k : Int) < (S.sent.length : Int) := by omega
      clear q q' q0 q1 q2 hx hb hp hq2
      go_wp2_with fail
      go_quiet (fail)
      go_wp2
      go_roundw
      case rel => exact ⟨k + 1, by omega, by go_num, below_drewN HW.out _, HP3.out.drewN _, HQ3.out.drewN _⟩
      case measure => simp [intOf]; omega
    · obtain rfl : k = S.sent.length := by omega
      go_wp2_with fail
      refine (sameTimers_any tA tB tC tD S.tm wr (HT.out.below HW.out) (HT'.out.below HW.out) h3).mono ?_
      rintro e w3 ⟨rfl, hb3⟩
      have HB3 := Lib.hid (HW.out.trans (hb3.mono HW.out.size))
      clear hb3 hb hp hq2
      go_wp2
      go_ret
      exact ⟨rfl, HB3.out⟩
end Go.Proofs.Ytmmbigfeojfedaa.R
namespace Go.Proofs.Ytmmbigfeojfedaa
open Go.RowKit Go.Proofs.YtmmbigfeojfedaaW.PrintWords

/-- How far the lists of a run go. -/
theorem len_loop {c : Env} (hF : formedB c.NL c.CL = true) : ∀ (f : Nat) (s : St), s.stack.length ≤ 16 → 0 ≤ s.at_ → 0 ≤ s.steps → s.steps ≤ 500 → (f : Int) = 501 - s.steps → (s.ev.length : Int) ≤ s.steps → (s.sent.length : Int) ≤ s.steps → (s.tm.length : Int) ≤ s.steps →
    ((loopF c f s).2.ev.length ≤ 1000 ∧ (loopF c f s).2.sent.length ≤ 1000 ∧ (loopF c f s).2.tm.length ≤ 1000)
  | 0, s, _, _, h1, h2, hf, e1, e2, e3 => by omega
  | f + 1, s, hst, hat, h1, h2, hf, e1, e2, e3 => by
    by_cases hd : s.done = true
    · rw [loopF_end (.inl hd)]
      exact ⟨by show s.ev.length ≤ 1000; omega, by show s.sent.length ≤ 1000; omega, by show s.tm.length ≤ 1000; omega⟩
    by_cases hl : s.at_ < c.CL.length
    · have hd' : s.done = false := by cases hb : s.done <;> simp_all
      by_cases h5 : s.steps = 500
      · have e : loopF c (f + 1) s = (11, s) := by simp [loopF, hd', hl, h5]
        rw [e]
        exact ⟨by show s.ev.length ≤ 1000; omega, by show s.sent.length ≤ 1000; omega, by show s.tm.length ≤ 1000; omega⟩
      · obtain ⟨k, hk⟩ : ∃ k : Nat, s.at_ = (k : Int) := ⟨s.at_.toNat, by omega⟩
        have hkl : k < c.CL.length := by omega
        obtain ⟨hok, hop0⟩ := argOk_of hF hkl
        obtain ⟨s2, hs2⟩ : ∃ s2, s2 = { s with steps := s.steps + 1, at_ := s.at_ + 1 } := ⟨_, rfl⟩
        obtain ⟨s3, hs3⟩ : ∃ s3, s3 = stepF c (c.CL.getD k (0, 0)).1.toNat (c.CL.getD k (0, 0)).2 s2 := ⟨_, rfl⟩
        have hn := stepF_near c (c.CL.getD k (0, 0)).1.toNat (c.CL.getD k (0, 0)).2 s2 (by rw [hs2]; exact hst) hok
        rw [← hs3] at hn
        have e := loopF_go (n := f) hd' hl h5 (show s3 = _ by rw [hs3, hs2, hk, Int.toNat_natCast])
        have n1 := hn.ev
        have n2 := hn.sent
        have n3 := hn.tm
        have n4 := hn.steps
        have n5 := hn.at_
        have n6 := hn.stack
        rw [hs2] at n1 n2 n3 n4 n5
        dsimp only at n1 n2 n3 n4 n5
        by_cases hf3 : s3.failed = 0
        · rw [e, if_pos hf3]
          exact len_loop hF f s3 n6 (by omega) (by omega) (by omega) (by omega) (by omega) (by omega) (by omega)
        · rw [e, if_neg hf3]
          exact ⟨by show s3.ev.length ≤ 1000; omega, by show s3.sent.length ≤ 1000; omega, by show s3.tm.length ≤ 1000; omega⟩
    · rw [loopF_end (.inr hl)]
      exact ⟨by show s.ev.length ≤ 1000; omega, by show s.sent.length ≤ 1000; omega, by show s.tm.length ≤ 1000; omega⟩
theorem len_run (c : Env) (r0 : Nat → Int) : (runF c r0).2.ev.length ≤ 1000 ∧ (runF c r0).2.sent.length ≤ 1000 ∧ (runF c r0).2.tm.length ≤ 1000 := by
  unfold runF
  split
  · next hok =>
    unfold okIn at hok
    simp only [Bool.and_eq_true, decide_eq_true_eq] at hok
    exact len_loop hok.1 501 (st0 r0) (by simp [st0]) (by simp [st0]) (by simp [st0]) (by simp [st0]) (by simp [st0]) (by simp [st0]) (by simp [st0]) (by simp [st0])
  · exact ⟨by simp [st0], by simp [st0], by simp [st0]⟩
/-- What a run tells. -/
def endS (p : Int × St) : St := if p.1 = 0 then p.2 else { st0 (fun _ => 0) with steps := p.2.steps }
theorem len_end (c : Env) (r0 : Nat → Int) : (endS (runF c r0)).ev.length ≤ 1000 ∧ (endS (runF c r0)).sent.length ≤ 1000 ∧ (endS (runF c r0)).tm.length ≤ 1000 := by
  unfold endS
  split
  · exact len_run c r0
  · exact ⟨by simp [st0], by simp [st0], by simp [st0]⟩
def UPost (k1 k2 k3 : Nat) (z : Int) (S : St) (W : World) (e : Ending) (w' : World) : Prop :=
  Below W.heap.size W w' ∧ ∃ eA eC sA sC tA tC, e = .returned (.tuple #[.agg (resC S.reg (.slice eA S.ev.length eC) (.slice sA S.sent.length sC) (.slice tA S.tm.length tC) S.steps), .int .i64 z]) ∧
    w'.ownsRow W.heap.size k1 2 (.slice eA S.ev.length eC) S.ev.length (encE S.ev) ∧ w'.ownsRow W.heap.size k2 3 (.slice sA S.sent.length sC) S.sent.length (encS S.sent) ∧ w'.ownsRow W.heap.size k3 5 (.slice tA S.tm.length tC) S.tm.length (encT S.tm)
section
variable {NL : List ByteArray} {CL : List (Int × Int)} {frm : ByteArray} {ser kd : Int} {aA : Option Addr} {aC : Nat} {AL : List Int} {now : Int} {reg : Nat → Int}
theorem run_u (W : World) (nA kA : Option Addr) (nC kC : Nat) (z : Int) (S : St) (hR : ((runF (evE NL CL frm ser kd aA aC AL now) reg).1, endS (runF (evE NL CL frm ser kd aA aC AL now) reg)) = (z, S)) (hN : ReadsOf Value.string (⟨#[]⟩ : ByteArray) W nA NL.length NL) (hA : ReadsOf (Value.int .i64) (0 : Int) W aA AL.length AL) (hC : IsCode W kA CL) (hcl : CL.length ≤ 1000) :
    Calls Try.prog 12 (evA NL CL frm ser kd aA aC AL now reg nA kA nC kC) W (UPost 56 66 58 z S W) := by
  have e := runF_core2 (evE NL CL frm ser kd aA aC AL now) nA kA nC kC reg
  refine (run_any { evE NL CL frm ser kd aA aC AL now with nA := nA, nC := nC, kA := kA, kC := kC } reg W ⟨hN, hA⟩ hC hcl).mono ?_
  rintro e1 w1 ⟨hb, h⟩
  rw [e] at h
  obtain ⟨h1, h2⟩ := Prod.mk.inj hR
  rcases h with ⟨h0, ev, sn, tv, rfl, o1, o2, o3⟩ | ⟨h0, rfl⟩
  · obtain ⟨eA, eC, rfl⟩ := own_slice o1
    obtain ⟨sA, sC, rfl⟩ := own_slice o2
    obtain ⟨tA, tC, rfl⟩ := own_slice o3
    have hS : S = (runF (evE NL CL frm ser kd aA aC AL now) reg).2 := by rw [← h2, endS, if_pos h0]
    subst hS
    exact ⟨hb, eA, eC, sA, sC, tA, tC, by rw [← h1, h0], o1, o2, o3⟩
  · have hS : S = { st0 (fun _ => 0) with steps := (runF (evE NL CL frm ser kd aA aC AL now) reg).2.steps } := by rw [← h2, endS, if_neg h0]
    subst hS
    exact ⟨hb, none, 0, none, 0, none, 0, by rw [← h1]; rfl, own_nil _ _ _ _, own_nil _ _ _ _, own_nil _ _ _ _⟩
theorem evC_core {nA kA : Option Addr} {nC kC : Nat} (h : EvC (evE NL CL frm ser kd aA aC AL now)) : EvC { evE NL CL frm ser kd aA aC AL now with nA := nA, nC := nC, kA := kA, kC := kC } := ⟨h.code, h.args, h.now, h.kind⟩
theorem run_ru (W : World) (nA kA : Option Addr) (nC kC : Nat) (z : Int) (S : St) (hR : ((runF (evE NL CL frm ser kd aA aC AL now) reg).1, endS (runF (evE NL CL frm ser kd aA aC AL now) reg)) = (z, S)) (hN : ReadsOf Value.string (⟨#[]⟩ : ByteArray) W nA NL.length NL) (hA : ReadsOf (Value.int .i64) (0 : Int) W aA AL.length AL) (hC : IsCode W kA CL) (hcl : CL.length ≤ 1000) (hev : EvC { evE NL CL frm ser kd aA aC AL now with nA := nA, nC := nC, kA := kA, kC := kC }) (hr : ∀ j, InR (reg j)) :
    Calls Try.prog 14 (evA NL CL frm ser kd aA aC AL now reg nA kA nC kC) W (UPost 86 83 105 z S W) := by
  have e := runF_core2 (evE NL CL frm ser kd aA aC AL now) nA kA nC kC reg
  refine (R.run_any { evE NL CL frm ser kd aA aC AL now with nA := nA, nC := nC, kA := kA, kC := kC } reg W ⟨hN, hA⟩ hC hcl hev hr).mono ?_
  rintro e1 w1 ⟨hb, h⟩
  rw [e] at h
  obtain ⟨h1, h2⟩ := Prod.mk.inj hR
  rcases h with ⟨h0, ev, sn, tv, rfl, o1, o2, o3⟩ | ⟨h0, rfl⟩
  · obtain ⟨eA, eC, rfl⟩ := own_slice o1
    obtain ⟨sA, sC, rfl⟩ := own_slice o2
    obtain ⟨tA, tC, rfl⟩ := own_slice o3
    have hS : S = (runF (evE NL CL frm ser kd aA aC AL now) reg).2 := by rw [← h2, endS, if_pos h0]
    subst hS
    exact ⟨hb, eA, eC, sA, sC, tA, tC, by rw [← h1, h0], o1, o2, o3⟩
  · have hS : S = { st0 (fun _ => 0) with steps := (runF (evE NL CL frm ser kd aA aC AL now) reg).2.steps } := by rw [← h2, endS, if_neg h0]
    subst hS
    exact ⟨hb, none, 0, none, 0, none, 0, by rw [← h1]; rfl, own_nil _ _ _ _, own_nil _ _ _ _, own_nil _ _ _ _⟩
end
end Go.Proofs.Ytmmbigfeojfedaa

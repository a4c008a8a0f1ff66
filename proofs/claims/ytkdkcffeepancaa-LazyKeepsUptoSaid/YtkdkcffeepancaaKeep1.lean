/- What LazyKeeps needs beyond LazyBack: a list apart from the bytes it was made of, texts apart from the list's own, rows that are written in place, nil lists. -/
import Derived.Test.YtkdkcffeepancaaBack
namespace Go.Proofs.Ytkdkcffeepancaa
open Go.RowKit Go.Proofs.YtkdkcffeepancaaW.PrintWords Go.Proofs.YtkdkcffeepancaaW.PrintMore

/-- A list that has not been read, all of it in blocks from B on. -/
def FreshFrom (B : Nat) (w : World) (lb : Nat) (bs : List Int) : Prop :=
  ∃ RA rc, Blk w lb #[.int .u32 0, .int .i32 0, .int .u32 0, .slice RA bs.length rc, .int .i32 0, .slice none 0 0, .bool false] 56 ∧ ReadsOf (Value.int .u8) (0 : Int) w RA bs.length bs ∧ (∀ a, RA = some a → a.block ≠ lb ∧ B ≤ a.block) ∧ B ≤ lb
theorem FreshFrom.chg {B : Nat} {w w' : World} {lb : Nat} {bs : List Int} (h : FreshFrom B w lb bs) (hc : Chg (fun k => k < B) w w') : Fresh w' lb bs := by
  obtain ⟨RA, rc, hb, hr, ha, hl⟩ := h
  exact ⟨RA, rc, hc.blk hb (by omega), hc.reads hr (fun a e => by have := (ha a e).2; omega), fun a e => (ha a e).1⟩

set_option maxRecDepth 100000 in
theorem new_from (A : Option Addr) (c : Nat) (bs : List Int) (w : World) (hr : ReadsOf (Value.int .u8) (0 : Int) w A bs.length bs) (hl : bs.length ≤ 1099511627776) (hnil : A = none → c = 0) :
    Calls Try.prog 8 #[.slice A bs.length c] w fun e w' => ∃ lb, e = .returned (.pointer (some ⟨lb, 0, none⟩)) ∧ FreshFrom w.heap.size w' lb bs ∧ Below w.heap.size w w' := by
  have HC := Lib.hid (clone5 A c bs w hr hl hnil)
  clear hr
  go_enter Try.func8, Try.ntmps8
  go_wp2_with fail
  refine HC.out.mono ?_
  rintro e w1 ⟨A', c', rfl, hr1, hA, hb⟩
  have HR1 := Lib.hid hr1
  have HA := Lib.hid hA
  have HB := Lib.hid hb
  clear hr1 hA hb
  go_wp2
  go_ret
  have hs := HB.out.size
  exact ⟨w1.heap.size, rfl, ⟨A', c', Blk.new _ _ _, HR1.out.below ((Below.refl _ _).alloc (Nat.le_refl _) _), fun a ha => by have := HA.out a ha; exact ⟨by omega, this.1⟩, hs⟩, HB.out.alloc hs _⟩

/-- What Texts leaves, its result apart from all that was. -/
def TextsApart (B lb : Nat) (ts : List ByteArray) (w : World) (e : Ending) (w' : World) : Prop :=
  ∃ raw tv v M, Blk w' lb #[.int .u32 1, .int .i32 0, .int .u32 0, raw, .int .i32 1, tv, .bool true] 56 ∧ w'.ownsRow B 9 1 tv ts.length (encs Value.string ts) ∧ lb < B ∧
    (∀ k, tv.ownBlock = some k → k < M) ∧ lb < M ∧ w.heap.size ≤ M ∧ w'.ownsRow M 9 1 v ts.length (encs Value.string ts) ∧ Chg (fun k => k = lb) w w' ∧ e = .returned (.tuple #[v, .bool true])

set_option maxRecDepth 100000 in
set_option maxHeartbeats 1000000 in
theorem texts_apart (B lb : Nat) (bs : List Int) (ts : List ByteArray) (w : World) (hp : parse bs = some ts) (hl : ts.length ≤ 1099511627776)
    (hR : Calls Try.prog 16 #[.pointer (some ⟨lb, 0, none⟩)] w fun e w' => e = .returned (.tuple #[]) ∧ Done w' B lb bs ∧ Chg (fun k => k = lb) w w') :
    Calls Try.prog 9 #[.pointer (some ⟨lb, 0, none⟩)] w (TextsApart B lb ts w) := by
  have HR := Lib.hid hR
  have HP := Lib.hid hp
  clear hR hp
  go_enter Try.func9, Try.ntmps9
  go_wp2_with fail
  refine HR.out.mono ?_
  rintro e w1 ⟨rfl, ⟨raw, tv, g, hb, ht, hlB⟩, hc⟩
  rcases ht with ⟨h1, _, _⟩ | ⟨ts', h1, rfl, h3⟩
  · rw [HP.out] at h1; cases h1
  obtain rfl : ts = ts' := by rw [HP.out] at h1; exact Option.some.inj h1
  have c5 := hb.cell 5
  have c6 := hb.cell 6
  simp at c5 c6
  have hs := hc.size
  have HB := Lib.hid hb
  have HC := Lib.hid hc
  have HO := Lib.hid h3
  clear hb hc h3 h1
  go_wp2_with fail
  go_region_held3 (fun w' => w'.cell? ⟨lb, 5, none⟩ = some tv ∧ w'.cell? ⟨lb, 6, none⟩ = some (.bool true))
    (first | go_keep | exact ⟨d5, d6⟩)
    ((go_at_call 17; refine (clone9 tv _ B _ HO.out.drew hl).mono ?_; rintro e w2 ⟨v', rfl, ho2, hb2⟩; have hbb := HB.out.drew.below hb2; have d5 := hbb.cell 5; have d6 := hbb.cell 6; simp at d5 d6; have HO2 := Lib.hid ho2; have HB2 := Lib.hid hb2; clear ho2 hb2 hbb))
  go_wp2
  go_ret2
  have hbel : Below w1.heap.size w1 w2 := (Below.refl _ _).drew.trans HB2.out
  have hlt := HB.out.lt
  exact ⟨raw, tv, v', w1.heap.size, HB.out.below hbel, pw_own_below HO.out hbel, hlB, fun k hk => own_lt HO.out k hk, hlt, hs, HO2.out, HC.out.then_below hbel, rfl⟩

/-- A row in a block of its own, of the values mk y, to be written in place. -/
def Rowed {α : Type} (mk : α → Value) (t : TypeId) (base : Nat) (w : World) (A : Option Addr) (n : Nat) : Prop :=
  (A = none ∧ n = 0) ∨ ∃ g cur, A = some ⟨g, 0, none⟩ ∧ base ≤ g ∧ Blk w g cur t ∧ ∀ j, j < n → ∃ y, cur[j]? = some (mk y)
theorem Rowed.of_own {α : Type} {mk : α → Value} {t : TypeId} {base n : Nat} {w : World} {v : Value} {xs : List α} (h : w.ownsRow base t 1 v n (encs mk xs)) : ∃ A c, v = .slice A n c ∧ Rowed mk t base w A n := by
  have h0 := h
  have hl : xs.length = n := by have := h.1; simp [encs] at this; exact this
  rcases h.2 with ⟨rfl, hn⟩ | ⟨g, cap, cur, rfl, hg, hh, r⟩
  · subst hn; exact ⟨none, 0, rfl, .inl ⟨rfl, rfl⟩⟩
  · refine ⟨some ⟨g, 0, none⟩, cap, rfl, .inr ⟨g, cur, rfl, hg, hh, fun j hj => ?_⟩⟩
    have hc := h0.cellAt j (by omega)
    have hb : w.cell? ⟨g, j, none⟩ = cur[j]? := Blk.cell (t := t) hh j
    rw [← hb, hc]
    have hj' : j < xs.length := by omega
    exact ⟨xs[j], by simp [encs, hj']⟩
theorem Rowed.below {α : Type} {mk : α → Value} {t : TypeId} {base n : Nat} {w w' : World} {A : Option Addr} (h : Rowed mk t base w A n) (hb : Below w.heap.size w w') : Rowed mk t base w' A n := by
  rcases h with h | ⟨g, cur, h1, h2, h3, h4⟩
  · exact .inl h
  · exact .inr ⟨g, cur, h1, h2, h3.below hb, h4⟩
theorem Rowed.lt {α : Type} {mk : α → Value} {t : TypeId} {base n : Nat} {w : World} {A : Option Addr} (h : Rowed mk t base w A n) : ∀ a, A = some a → base ≤ a.block ∧ a.block < w.heap.size := fun a e => by
  rcases h with ⟨h, _⟩ | ⟨g, cur, h1, h2, h3, h4⟩
  · rw [h] at e; cases e
  · rw [h1] at e; cases e; exact ⟨h2, h3.lt⟩
theorem Rowed.at_ {α : Type} {mk : α → Value} {t : TypeId} {base n k : Nat} {w : World} {A : Option Addr} (h : Rowed mk t base w A n) (hk : k < n) :
    ∃ g y, A = some ⟨g, 0, none⟩ ∧ base ≤ g ∧ w.cell? ⟨g, k, none⟩ = some (mk y) ∧ w.frozen? ⟨g, k, none⟩ = false ∧ ∀ z, Rowed mk t base (w.setCell ⟨g, k, none⟩ (mk z)) (some ⟨g, 0, none⟩) n := by
  rcases h with ⟨_, h⟩ | ⟨g, cur, h1, h2, h3, h4⟩
  · omega
  · obtain ⟨y, hy⟩ := h4 k hk
    refine ⟨g, y, h1, h2, by rw [h3.cell, hy], h3.free _, fun z => .inr ⟨g, _, rfl, h2, h3.set k (mk z), fun j hj => ?_⟩⟩
    by_cases e : j = k
    · subst e
      have hlt : j < cur.size := by
        rcases Nat.lt_or_ge j cur.size with h | h
        · exact h
        · rw [Array.getElem?_eq_none h] at hy; cases hy
      exact ⟨z, by simp [hlt]⟩
    · obtain ⟨y', hy'⟩ := h4 j hj
      exact ⟨y', by rw [Array.getElem?_setIfInBounds_ne (Ne.symm e)]; exact hy'⟩

/-! nil lists -/
theorem texts_nil (w : World) : Calls Try.prog 9 #[.pointer none] w fun e w' => e = .returned (.tuple #[.slice none 0 0, .bool false]) ∧ w' = w := by
  go_enter Try.func9, Try.ntmps9
  go_wp2
  go_ret2
  exact ⟨rfl, rfl⟩
theorem at_nil (i : Int) (w : World) : Calls Try.prog 11 #[.pointer none, .int .i64 i] w fun e w' => e = .returned (.tuple #[.string ⟨#[]⟩, .bool false]) ∧ w' = w := by
  go_enter Try.func11, Try.ntmps11
  go_wp2
  go_ret2
  exact ⟨rfl, rfl⟩
theorem made_nil (w : World) : Calls Try.prog 12 #[.pointer none] w fun e w' => e = .returned (.int .i64 0) ∧ w' = w := by
  go_enter Try.func12, Try.ntmps12
  go_wp2
  go_ret
  exact ⟨rfl, rfl⟩
theorem together_nil (v : Value) (w : World) : Calls Try.prog 13 #[.pointer none, v] w fun e w' => e = .returned (.slice none 0 0) ∧ w' = w.alloc (.cells #[.pointer none] 27) := by
  go_enter Try.func13, Try.ntmps13
  go_wp2
  go_ret
  exact ⟨rfl, rfl⟩
end Go.Proofs.Ytkdkcffeepancaa

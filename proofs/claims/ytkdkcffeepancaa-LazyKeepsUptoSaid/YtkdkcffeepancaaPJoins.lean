/- Of two lists' bytes, one behind the other, the texts are those of both; in plain Lean. -/
import Derived.Test.YtkdkcffeepancaaParse
namespace Go.Proofs.Ytkdkcffeepancaa

theorem decNum_append {bs r : List Int} {n : Int} (h : decNum bs = some (n, r)) (b : List Int) : decNum (bs ++ b) = some (n, r ++ b) := by
  cases bs with
  | nil => simp [decNum] at h
  | cons f t =>
    simp only [List.cons_append, decNum] at h ⊢
    split at h
    · rename_i hf
      rw [if_pos hf]
      simp at h
      obtain ⟨rfl, rfl⟩ := h
      rfl
    · rename_i hf
      rw [if_neg hf]
      split at h
      · cases h
      · rename_i hl
        rw [if_neg (by simp; omega)]
        split at h
        · cases h
        · rename_i hz
          simp at h
          obtain ⟨rfl, rfl⟩ := h
          have hl' : (f - 247).toNat ≤ t.length := by omega
          rw [List.take_append_of_le_length hl', List.drop_append_of_le_length hl']
          have ht : (t ++ b).getD 0 0 = t.getD 0 0 := by
            cases t with
            | nil =>
              exfalso
              have : (f - 247).toNat = 0 := by simp at hl'; omega
              rw [this] at hz
              simp [foldB] at hz
            | cons c t => rfl
          rw [ht, if_neg hz]
theorem decText_append {bs s r : List Int} (hb : IsBytes bs) (h : decText bs = some (s, r)) (b : List Int) : decText (bs ++ b) = some (s, r ++ b) := by
  unfold decText at h ⊢
  split at h
  · cases h
  · rename_i n t hd
    obtain ⟨h0, _, _⟩ := decNum_facts hb hd
    rw [decNum_append hd b]
    simp only []
    split at h
    · cases h
    · rename_i hl
      simp at h
      obtain ⟨rfl, rfl⟩ := h
      rw [if_neg (by simp; omega), List.take_append_of_le_length (by omega), List.drop_append_of_le_length (by omega)]
theorem parse_append (k : Nat) : ∀ (a : List Int), a.length ≤ k → IsBytes a → ∀ b, IsBytes b → ∀ x, parse a = some x → parse (a ++ b) = (parse b).map (x ++ ·) := by
  induction k with
  | zero =>
    intro a hk _ b _ x h
    obtain rfl : a = [] := List.eq_nil_of_length_eq_zero (by omega)
    rw [parse_nil] at h
    simp at h
    subst h
    simp
  | succ k ih =>
    intro a hk ha b hb x h
    by_cases h0 : a.length = 0
    · obtain rfl : a = [] := List.eq_nil_of_length_eq_zero h0
      rw [parse_nil] at h
      simp at h
      subst h
      simp
    · cases hd : decText a with
      | none => rw [parse_none h0 hd] at h; cases h
      | some q =>
        obtain ⟨s, r⟩ := q
        obtain ⟨hr, hl, _⟩ := decText_facts ha hd
        rw [parse_some ha h0 hd] at h
        obtain ⟨y, hy, rfl⟩ := Option.map_eq_some_iff.1 h
        rw [parse_some (ha.append hb) (by rw [List.length_append]; omega) (decText_append ha hd b), ih r (by omega) hr b hb y hy]
        cases parse b <;> simp
end Go.Proofs.Ytkdkcffeepancaa

/- Texts as bytes, in plain Lean: what the reader makes of a list of bytes. No program in sight. -/
namespace Go.Proofs.Ytkdkcffeepancaa

/-- Bytes, most significant first, as a number. -/
def foldB (l : List Int) : Int := l.foldl (fun a c => a * 256 + c) 0
/-- A number off the head of bytes, and what is left; or none. -/
def decNum : List Int → Option (Int × List Int)
  | [] => none
  | f :: r => if f < 248 then some (f, r) else
      if r.length < (f - 247).toNat then none else
      if foldB (r.take (f - 247).toNat) < 248 ∨ r.getD 0 0 = 0 then none else some (foldB (r.take (f - 247).toNat), r.drop (f - 247).toNat)
/-- A text off the head of bytes, and what is left; or none. -/
def decText (bs : List Int) : Option (List Int × List Int) :=
  match decNum bs with
  | none => none
  | some (n, r) => if (r.length : Int) < n then none else some (r.take n.toNat, r.drop n.toNat)

def IsBytes (bs : List Int) : Prop := ∀ x, x ∈ bs → 0 ≤ x ∧ x ≤ 255

theorem IsBytes.drop {bs : List Int} (h : IsBytes bs) (n : Nat) : IsBytes (bs.drop n) := fun x hx => h x (List.mem_of_mem_drop hx)
theorem IsBytes.take {bs : List Int} (h : IsBytes bs) (n : Nat) : IsBytes (bs.take n) := fun x hx => h x (List.mem_of_mem_take hx)
theorem IsBytes.append {a b : List Int} (h : IsBytes a) (k : IsBytes b) : IsBytes (a ++ b) := fun x hx => (List.mem_append.1 hx).elim (h x) (k x)

theorem foldB_snoc (l : List Int) (c : Int) : foldB (l ++ [c]) = foldB l * 256 + c := by unfold foldB; simp [List.foldl_append]
theorem foldB_acc (l : List Int) (h : IsBytes l) : ∀ a : Int, 0 ≤ a → 0 ≤ l.foldl (fun a c => a * 256 + c) a ∧ l.foldl (fun a c => a * 256 + c) a < (a + 1) * 256 ^ l.length := by
  induction l with
  | nil => intro a ha; simp; omega
  | cons c l ih =>
    intro a ha
    have h2 := h c (by simp)
    have h1 := ih (fun x hx => h x (List.mem_cons_of_mem _ hx)) (a * 256 + c) (by omega)
    simp only [List.foldl_cons, List.length_cons]
    refine ⟨h1.1, Int.lt_of_lt_of_le h1.2 ?_⟩
    rw [Int.pow_succ, Int.mul_comm (256 ^ l.length) 256, ← Int.mul_assoc]
    exact Int.mul_le_mul_of_nonneg_right (by omega) (Int.pow_nonneg (by omega))
theorem foldB_bound (l : List Int) (h : IsBytes l) : 0 ≤ foldB l ∧ foldB l < 256 ^ l.length := by
  have := foldB_acc l h 0 (by omega)
  unfold foldB
  omega
end Go.Proofs.Ytkdkcffeepancaa

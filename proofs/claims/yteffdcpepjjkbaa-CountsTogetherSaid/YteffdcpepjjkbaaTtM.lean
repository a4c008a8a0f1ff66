/- The plain law: what the law counts for itself is what the workers' adds come to. -/
import Derived.Test.YteffdcpepjjkbaaTtI
namespace Go.Proofs.Yteffdcpepjjkbaa.Team
open Go.Conc Go.ConcN
set_option linter.unusedVariables false

theorem vec_congr {a b : Nat → Int} (h : ∀ x, x < 8 → a x = b x) : vec a = vec b := by
  unfold vec
  rw [h 0 (by omega), h 1 (by omega), h 2 (by omega), h 3 (by omega), h 4 (by omega), h 5 (by omega), h 6 (by omega), h 7 (by omega)]
theorem tally_false (xs : List Int) (bf : Nat → Int) : tally false xs bf = bf := by
  induction xs generalizing bf with
  | nil => rfl
  | cons x xs ih => rw [tally, ih, bump, if_neg (by simp)]
theorem tallyFrom_false (L : Nat → Lst) (k r : Nat) (bf : Nat → Int) : tallyFrom false L k r bf = bf := by
  induction r generalizing k bf with
  | zero => rfl
  | succ r ih => rw [tallyFrom, tally_false, ih]
theorem tally_true (xs : List Int) (bf : Nat → Int) (hb : ∀ x, bf x = Cfg.wrapU (bf x)) : ∀ x, tally true xs bf x = Cfg.wrapU (bf x + ((valid xs).count x : Nat)) := by
  induction xs generalizing bf with
  | nil => intro x; simpa [tally, valid] using hb x
  | cons y ys ih =>
    intro x
    rw [tally, valid]
    by_cases hy : 0 ≤ y ∧ y < 8
    · rw [bump, if_pos ⟨rfl, hy⟩, if_pos hy, ih _ (fun z => ?_)]
      · by_cases hx : x = y.toNat
        · subst hx
          simp only [put, if_true, List.count_cons_self, Cfg.wrapU]
          omega
        · rw [List.count_cons_of_ne (Ne.symm hx)]
          simp only [put, hx, if_false]
      · simp only [put]
        split
        · simp only [Cfg.wrapU]; omega
        · exact hb z
    · rw [bump, if_neg (fun h => hy h.2), if_neg hy]
      exact ih bf hb x
theorem sumTo_front (f : Nat → Nat) (r : Nat) : sumTo (r + 1) f = f 0 + sumTo r fun i => f (i + 1) := by
  induction r with
  | zero => simp [sumTo]
  | succ r ih =>
    rw [sumTo, ih, sumTo]
    omega
theorem tallyFrom_true (L : Nat → Lst) : ∀ (r k : Nat) (bf : Nat → Int), (∀ x, bf x = Cfg.wrapU (bf x)) → ∀ x, tallyFrom true L k r bf x = Cfg.wrapU (bf x + (sumTo r fun i => (valid (L (k + i)).xs).count x : Nat)) := by
  intro r
  induction r with
  | zero => intro k bf hb x; simpa [tallyFrom, sumTo] using hb x
  | succ r ih =>
    intro k bf hb x
    have ht := tally_true (L k).xs bf hb
    rw [tallyFrom, ih (k + 1) _ (fun z => ?_) x, ht x, sumTo_front]
    · have e : (fun i => (valid (L (k + 1 + i)).xs).count x) = fun i => (valid (L (k + (i + 1))).xs).count x := by
        funext i
        rw [show k + 1 + i = k + (i + 1) by omega]
      rw [e]
      simp only [Cfg.wrapU, Nat.add_zero]
      omega
    · rw [ht z]
      simp only [Cfg.wrapU]
      omega
end Go.Proofs.Yteffdcpepjjkbaa.Team

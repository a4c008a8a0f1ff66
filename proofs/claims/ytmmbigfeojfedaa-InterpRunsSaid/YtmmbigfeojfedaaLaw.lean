/- Steps of a run, one by one; the rows of a result, read. -/
import Derived.Test.YtmmbigfeojfedaaReckons
namespace Go.Proofs.Ytmmbigfeojfedaa
open Go.RowKit Go.Proofs.YtmmbigfeojfedaaW.PrintWords

theorem loopF_ok {c : Env} {n : Nat} {s : St} (s3 : St) (hd : s.done = false) (hl : s.at_ < c.CL.length) (h5 : ¬ s.steps = 500)
    (h3 : s3 = stepF c (c.CL.getD s.at_.toNat (0, 0)).1.toNat (c.CL.getD s.at_.toNat (0, 0)).2 { s with steps := s.steps + 1, at_ := s.at_ + 1 }) (hf : s3.failed = 0) :
    loopF c (n + 1) s = loopF c n s3 := by rw [loopF_go hd hl h5 h3, if_pos hf]
theorem loopF_bad {c : Env} {n : Nat} {s : St} (s3 : St) (hd : s.done = false) (hl : s.at_ < c.CL.length) (h5 : ¬ s.steps = 500)
    (h3 : s3 = stepF c (c.CL.getD s.at_.toNat (0, 0)).1.toNat (c.CL.getD s.at_.toNat (0, 0)).2 { s with steps := s.steps + 1, at_ := s.at_ + 1 }) (hf : ¬ s3.failed = 0) :
    loopF c (n + 1) s = (s3.failed, s3) := by rw [loopF_go hd hl h5 h3, if_neg hf]
/-- The cells of a row of one's own. -/
theorem own_cells {w : World} {base n size c : Nat} {e : TypeId} {A : Option Addr} {xs : List Value} (h : w.ownsRow base e size (.slice A n c) n xs) (hn : 0 < n) :
    ∃ g, A = some ⟨g, 0, none⟩ ∧ base ≤ g ∧ g < w.heap.size ∧ ∀ i, i < n * size → w.cell? ⟨g, i, none⟩ = xs[i]? := by
  obtain ⟨g, cap, e, _, _⟩ := h.form hn
  injection e with e1 e2 e3
  subst e1
  subst e3
  obtain ⟨h1, h2⟩ := h.lt g rfl
  exact ⟨g, rfl, h1, h2, fun i hi => h.cellAt i hi⟩
end Go.Proofs.Ytmmbigfeojfedaa

/- Programs, letters and registers as arguments, opened. -/
import Derived.Test.YtmmbigfeojfedaaEv2
import Derived.Deep.Strs
import Derived.OpenShut
namespace Go.Proofs.Ytmmbigfeojfedaa
open Go.RowKit Go.ChangeShapes Go.WideShapes
open Go.Proofs.YtmmbigfeojfedaaW.PrintWords

theorem inR_wf {x : Int} (h : (Lit.int .i64 x).wf = true) : InR x := by
  have e1 : IntKind.i64.min = -9223372036854775808 := by decide
  have e2 : IntKind.i64.max = 9223372036854775807 := by decide
  unfold InR
  simp only [Lit.wf, Bool.and_eq_true, decide_eq_true_eq, e1, e2] at h
  exact h
section
variable {H : Type} {enc : TypeId × Value → H} {w : World} {base : Nat} {spare : Nat → Bool} {held : Bool} {fuel : Nat} {A : Option Addr} {len cap : Nat} {x : DataW H × List MemPlace}
theorem open_names22 (h : DataW.trod enc Try.prog w base (fun _ => true) true fuel 22 [.slice A len cap] = some x) : ∃ NL : List ByteArray, len = NL.length ∧ ReadsOf Value.string (⟨#[]⟩ : ByteArray) w A NL.length NL := by
  rcases Go.Deep.open_strs Try.underlying22 Try.underlying9 (by kernel_rfl) h with ⟨hcs, rfl⟩ | ⟨a, l, c, m, Sx, hcs, _, hl, hm, hmm, rfl, hx⟩
  · simp at hcs
    obtain ⟨rfl, rfl, rfl⟩ := hcs
    exact ⟨[], rfl, ReadsOf.nil _ _ _⟩
  · simp at hcs
    obtain ⟨rfl, rfl, rfl⟩ := hcs
    simp only [if_true] at hmm
    have hlen : ((List.range len).map Sx).length = len := by simp
    refine ⟨(List.range len).map Sx, hlen.symm, rfl, ?_, fun h0 => ⟨a, rfl, fun j hj => ?_⟩⟩
    · rw [hlen]
      unfold maxLen at hm
      omega
    · rw [hlen] at hj
      rw [(hx j (by omega)).1]
      simp [List.getD, hj]
theorem open_ints28 (h : DataW.trod enc Try.prog w base spare held fuel 28 [.slice A len cap] = some x) : ∃ AL : List Int, len = AL.length ∧ ReadsOf (Value.int .i64) (0 : Int) w A AL.length AL ∧ ∀ k, InR (AL.getD k 0) := by
  rcases Go.Deep.open_slice Try.underlying28 h with ⟨hcs, _⟩ | ⟨a, l, c, m, n, D, Pl, hcs, _, hl, hm, hmm, _, hx⟩
  · simp at hcs
    obtain ⟨rfl, rfl, rfl⟩ := hcs
    exact ⟨[], rfl, ReadsOf.nil _ _ _, fun k => by simp [inR_zero]⟩
  · simp at hcs
    obtain ⟨rfl, rfl, rfl⟩ := hcs
    rw [show Try.prog.cellsOf 2 = 1 by kernel_rfl] at hx
    have hlm : len ≤ m := by rw [hmm]; split <;> omega
    have key : ∀ i, i < len → ∃ q : Int, w.cell? (a.add i) = some (.int .i64 q) ∧ InR q := fun i hi => by
      obtain ⟨cs', h1, h2⟩ := hx i (by omega)
      obtain ⟨hl', _, hg⟩ := World.cells?_some h1
      match cs', hl' with
      | [u], _ =>
        obtain ⟨q, e, _, hw⟩ := DataW.trod_int Try.underlying2 h2
        simp at e
        subst e
        exact ⟨q, by simpa [Addr.add] using hg 0 (by omega), inR_wf hw⟩
    obtain ⟨q, hq⟩ := Go.Deep.choose_lt key
    refine ⟨(List.range len).map q, by simp, ⟨rfl, by simp; unfold maxLen at hm; omega, fun h0 => ⟨a, rfl, fun j hj => ?_⟩⟩, fun k => ?_⟩
    · simp at hj
      rw [(hq j hj).1]
      simp [List.getD, hj]
    · by_cases hk : k < len
      · simp [List.getD, hk]
        exact (hq k hk).2
      · simp [List.getD, hk, inR_zero]
set_option maxRecDepth 100000 in
theorem open_code23 (h : DataW.trod enc Try.prog w base spare held fuel 23 [.slice A len cap] = some x) : ∃ CL : List (Int × Int), len = CL.length ∧ IsCode w A CL ∧ ∀ k, InR (CL.getD k (0, 0)).2 := by
  rcases Go.Deep.open_slice Try.underlying23 h with ⟨hcs, _⟩ | ⟨a, l, c, m, n, D, Pl, hcs, _, hl, hm, hmm, _, hx⟩
  · simp at hcs
    obtain ⟨rfl, rfl, rfl⟩ := hcs
    exact ⟨[], rfl, fun h => absurd h (by simp), fun k => by simp [inR_zero]⟩
  · simp at hcs
    obtain ⟨rfl, rfl, rfl⟩ := hcs
    rw [show Try.prog.cellsOf 76 = 2 by kernel_rfl] at hx
    have hlm : len ≤ m := by rw [hmm]; split <;> omega
    have key : ∀ i, i < len → ∃ q : Int × Int, w.cell? (a.add (i * 2)) = some (.int .i64 q.1) ∧ w.cell? ((a.add (i * 2)).add 1) = some (.int .i64 q.2) ∧ InR q.2 := fun i hi => by
      obtain ⟨cs', h1, h2⟩ := hx i (by omega)
      obtain ⟨_, _, hg⟩ := World.cells?_some h1
      obtain ⟨y0, y1, m', _, hl', h20, h21⟩ := Go.ChangeShapes.trod_struct2 Try.underlying76 h2
      rw [show Try.prog.cellsOf 76 = 2 by kernel_rfl] at hl'
      match cs', hl' with
      | [u0, u1], _ =>
      dsimp only at h20 h21
      rw [show Try.prog.cellsOf 3 = 1 by kernel_rfl] at h20
      rw [show Try.prog.cellsOf 2 = 1 by kernel_rfl] at h21
      simp only [List.drop_zero, List.take_succ_cons, List.take_zero, List.drop_succ_cons] at h20 h21
      obtain ⟨q0, e0, _, _⟩ := DataW.trod_int Try.underlying3 h20
      obtain ⟨q1, e1, _, hw⟩ := DataW.trod_int Try.underlying2 h21
      simp at e0 e1
      subst e0 e1
      exact ⟨(q0, q1), by simpa [Addr.add] using hg 0 (by omega), by simpa using hg 1 (by omega), inR_wf hw⟩
    obtain ⟨q, hq⟩ := Go.Deep.choose_lt key
    refine ⟨(List.range len).map q, by simp, fun h0 => ?_, fun k => ?_⟩
    · simp at h0
      obtain ⟨b, off, spot⟩ := a
      obtain rfl : spot = none := by simpa [Addr.add] using World.cell?_spot (hq 0 h0).1
      refine ⟨b, off, rfl, fun j hj => ?_⟩
      simp at hj
      obtain ⟨t1, t2, _⟩ := hq j hj
      rw [Go.WideShapes.add_plain] at t1 t2
      rw [Go.WideShapes.add_plain] at t2
      have e : ((List.range len).map q).getD j (0, 0) = q j := by simp [List.getD, hj]
      rw [e]
      exact ⟨t1, t2⟩
    · by_cases hk : k < len
      · simp [List.getD, hk]
        exact (hq k hk).2.2
      · simp [List.getD, hk, inR_zero]
end
end Go.Proofs.Ytmmbigfeojfedaa

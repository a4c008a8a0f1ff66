/- Workers that count together, joined by a WaitGroup: the law CountsTogether returns true at every list of lists and every number, on every schedule. No condition. -/
import Derived.Test.YteffdcpepjjkbaaTtN
import Derived.Test.YteffdcpepjjkbaaRows
import Derived.Conc.LeavingOf
import Derived.ProofKit
import Derived.OpenShut
import Derived.ShutString
import Derived.Deep.Slices
import Derived.ChangeSlices
namespace Go.Proofs.Yteffdcpepjjkbaa.countsTogether
open Go.ChangeShapes Go.WideShapes Go.ChangeAt Go.RowKit Go.Conc Team
set_option linter.unusedVariables false

theorem own : ownKnob Try.prog.godebug = none := by kernel_rfl
theorem laidOut : laidOutB Try.prog = true := by kernel_rfl
theorem cells45 : Try.prog.cellsOf 45 = 1 := by kernel_rfl
theorem cells3 : Try.prog.cellsOf 3 = 1 := by kernel_rfl

theorem cell_lt {w : World} {a : Addr} {v : Value} (h : w.cell? a = some v) : a.block < w.heap.size := by
  rcases Nat.lt_or_ge a.block w.heap.size with h1 | h1
  · exact h1
  · simp [World.cell?, Array.getElem?_eq_none h1] at h

/-- What a list of indices is in memory. -/
structure IsLst (W : World) (s : Lst) : Prop where
  len : s.len = s.xs.length
  big : s.len ≤ 9223372036854775807
  nil : 0 < s.len → ∃ ad, s.a = some ad
  el : ∀ i ad, i < s.len → s.a = some ad → ad.block < W.heap.size ∧ W.cell? (ad.add i) = some (.int .i64 (s.xs.getD i 0))

instance : Inhabited Lst := ⟨⟨none, 0, 0, []⟩⟩
section
variable {H : Type} {enc : TypeId × Value → H} {W : World}
theorem open_lst {n : Nat} {v : Value} {x : DataW H × List MemPlace} (h : DataW.trod enc Try.prog W 0 (fun _ => true) true n 45 [v] = some x) : ∃ s : Lst, v = s.val ∧ IsLst W s := by
  rcases open_ints Try.underlying45 Try.underlying3 cells3 h with ⟨hcs, _⟩ | ⟨a, len, cap, zs, hcs, _, hl, hm, hz, _, hcell, _⟩
  · simp at hcs
    subst hcs
    exact ⟨⟨none, 0, 0, []⟩, rfl, rfl, by simp, fun h => absurd h (by simp), fun i ad hi => absurd hi (by simp)⟩
  · simp at hcs
    subst hcs
    simp only [if_true] at hz
    simp only [maxLen] at hm
    refine ⟨⟨some a, len, cap, zs.take len⟩, rfl, by simp; omega, by simp; omega, fun _ => ⟨a, rfl⟩, fun i ad hi e => ?_⟩
    cases e
    have hi' : i < len := hi
    have hc := hcell i (by omega)
    refine ⟨by have := cell_lt hc; rwa [Go.ConcR.Gen.add_block] at this, ?_⟩
    rw [hc]
    simp [List.getD_eq_getElem?_getD, hi']

theorem open_lists {n : Nat} {la : Option Addr} {len cap : Nat} {x : DataW H × List MemPlace} (h : DataW.trod enc Try.prog W 0 (fun _ => true) true n 44 [.slice la len cap] = some x) : ∃ L : Nat → Lst, Inp W.heap.size W la len L := by
  rcases Go.Deep.open_slice1 Try.underlying44 cells45 h with ⟨hcs, _⟩ | ⟨a, len', cap', m, n', V, D, Pl, hcs, _, hl, hm, hmm, _, hx⟩
  · simp at hcs
    obtain ⟨rfl, rfl, rfl⟩ := hcs
    exact ⟨fun _ => ⟨none, 0, 0, []⟩, ⟨fun h => absurd h (by simp), fun k ad hk => absurd hk (by simp), fun k hk => absurd hk (by simp), fun k hk => absurd hk (by simp), fun k hk => absurd hk (by simp), fun k i ad hk => absurd hk (by simp)⟩⟩
  · simp at hcs
    obtain ⟨rfl, rfl, rfl⟩ := hcs
    simp only [if_true] at hmm
    subst hmm
    obtain ⟨L, hL⟩ := Go.Deep.choose_lt (α := Lst) (p := fun i s => V i = s.val ∧ IsLst W s) (fun i hi => open_lst (hx i hi).2)
    have hL' : ∀ k, k < len → V k = (L k).val ∧ IsLst W (L k) := fun k hk => hL k (by omega)
    refine ⟨L, ⟨fun _ => ⟨a, rfl⟩, fun k ad hk e => ?_, fun k hk => (hL' k hk).2.len, fun k hk => (hL' k hk).2.big, fun k hk => (hL' k hk).2.nil, fun k i ad hk => (hL' k hk).2.el i ad⟩⟩
    cases e
    have hc := (hx k (by omega)).1
    refine ⟨by have := cell_lt hc; rwa [Go.ConcR.Gen.add_block] at this, ?_⟩
    rw [hc, (hL' k hk).1]
end

set_option maxRecDepth 100000 in
theorem lifted (os : Os) (started : os.Started) (H : Type) (enc : TypeId × Value → H) :
    ReturnsInLeavingWide {} Try.checked os 4 .any (Rows.countsTogetherSpec.pre6 enc Try.prog Try.f4 Rows.countsTogetherRow.domain false) (Rows.countsTogetherSpec.post enc Try.prog Try.f4 false true false false) := by
  refine returnsInLeavingWide_of_change_sized (C := Try.checked) own started Try.func4
    (ChangeSpec.witness6 (enc := enc) (C := Try.checked) false ⟨#[], #[.slice none 0 0, .int .u8 0], []⟩ 8 (by kernel_rfl) (by kernel_rfl) (by kernel_rfl) (by kernel_rfl)) ?_
  intro W base args ds gs before hval0 hW _ _ _
  have hval : ∀ (j : Nat) t v, Try.f4.params[j]? = some t → args[j]? = some v → Value.okWide Try.prog W .any base t v := hval0
  have hW' := hW
  obtain ⟨p, q, hA0, hV, rfl, hfz, hnd⟩ := hW
  have hA : DataW.TrodAll enc Try.prog W 0 (fun _ => true) true Try.f4.params.toList args.toList ds p := hA0
  rw [Try.params4] at hA hval
  obtain ⟨v0, vs0, d0, ds0, p0, q0, hargs, rfl, rfl, h0, r0⟩ := trodAll_cons hA
  obtain ⟨v1, vs1, d1, ds1, p1, q1, rfl, rfl, rfl, h1, r1⟩ := trodAll_cons r0
  obtain ⟨rfl, rfl, rfl⟩ := trodAll_nil r1
  obtain rfl : args = #[v0, v1] := by cases args; simp_all
  obtain ⟨rfl, rfl⟩ := trodVars_none hV
  obtain ⟨a0, len, cap, rfl⟩ := okWide_slice Try.underlying44 (hval 0 44 v0 rfl rfl)
  obtain ⟨d, rfl, rfl, rfl, w1⟩ := open_int Try.underlying5 (hval 1 5 v1 rfl rfl) h1
  have k0 := h0
  have lt0 : ∀ x ∈ p0, x.block < W.heap.size := by obtain ⟨m, hm⟩ := k0; exact DataW.trod_lt m _ _ _ hm
  obtain ⟨L, hI⟩ : ∃ L : Nat → Lst, Inp W.heap.size W a0 len L := by
    obtain ⟨fuel, hf⟩ := h0
    exact open_lists (by simpa [Value.cells] using hf)
  clear hA0 hval0
  have hd : 0 ≤ d ∧ d < 256 := by
    simp only [Lit.wf, Bool.and_eq_true, decide_eq_true_eq] at w1
    have e1 : IntKind.u8.min = 0 := rfl
    have e2 : IntKind.u8.max = 255 := rfl
    omega
  obtain ⟨M, last, o, w', t', e1, e2, e3, e4⟩ := the_run (lcap := cap) hI hd.1 hd.2
  refine ⟨M, last, o, w', t', e1, e2, e3, e4.mono fun v hP => ?_⟩
  obtain ⟨rfl, bel⟩ := hP
  exact ⟨_, _, _, [], _, [], hW', trodAll_mk1 (shut_bool Try.underlying4 _), (trodAll_cons_mk (Below.trod laidOut (by kernel_rfl) (of_decide_eq_true (by kernel_rfl)) k0 bel lt0) (trodAll_cons_mk (shut_int Try.underlying5 w1) trodAll_mk0)), rfl, bel.frame _, fun h => by cases h⟩

theorem over : Rows.countsTogetherRow.holds Try.pinned (OpenSpec.ofChange Rows.countsTogetherSpec) :=
  OpenClaim.holds_of_wide_leaving 4 Try.f4 rfl rfl rfl rfl rfl rfl rfl ⟨rfl, rfl, rfl, rfl, rfl⟩ rfl rfl rfl rfl rfl (by kernel_rfl) Try.func4 (by kernel_rfl)
    (of_decide_eq_true (by kernel_rfl)) (by unfold Func.isWrapper; first | (rw [if_pos (by decide +kernel)]; kernel_rfl) | (rw [if_neg (by decide +kernel)]; exact ⟨rfl, rfl⟩))
    (fun os started H enc _ => lifted os started H enc)

theorem proved : Rows.CountsTogetherSaid := over
#print axioms proved
end Go.Proofs.Yteffdcpepjjkbaa.countsTogether

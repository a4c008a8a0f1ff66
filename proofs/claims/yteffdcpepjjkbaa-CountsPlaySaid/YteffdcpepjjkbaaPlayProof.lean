/- Whatever is added, taken and asked of counters, in whatever order, is told as the document says: the law CountsPlay returns true at every script, for new counters and for the zero Counts. No condition. -/
import Derived.Test.YteffdcpepjjkbaaPlay
import Derived.ShutString
namespace Go.Proofs.Yteffdcpepjjkbaa.countsPlay
open Go.RowKit
set_option linter.unusedVariables false

open Go.ChangeShapes Go.WideShapes Go.ChangeAt
open Go.ChangeMaps (open_string shut_string)

theorem own : ownKnob Try.prog.godebug = none := by kernel_rfl
theorem laidOut : laidOutB Try.prog = true := by kernel_rfl

section
variable {H : Type} {enc : TypeId × Value → H} {w : World} {base : Nat} {spare : Nat → Bool} {held : Bool}
theorem open_op {n : Nat} {cs : List Value} {y : DataW H × List MemPlace} (h : DataW.trod enc Try.prog w base spare held n 37 cs = some y) : ∃ k i u : Int, cs = [.int .i64 k, .int .i64 i, .int .u64 u] := by
  obtain ⟨y0, y1, y2, m, rfl, hl, h0, h1, h2⟩ := Go.Deep.trod_struct3 Try.underlying37 h
  rw [show Try.prog.cellsOf 37 = 3 by kernel_rfl] at hl
  match cs, hl with
  | [a, b, c], _ =>
  rw [show Try.prog.cellsOf 3 = 1 by kernel_rfl] at h0 h1
  rw [show Try.prog.cellsOf 29 = 1 by kernel_rfl] at h2
  simp only [List.drop_zero, List.take_succ_cons, List.take_zero, List.drop_succ_cons] at h0 h1 h2
  obtain ⟨a', e0, _, _⟩ := DataW.trod_int Try.underlying3 h0
  obtain ⟨b', e1, _, _⟩ := DataW.trod_int Try.underlying3 h1
  obtain ⟨c', e2, _, _⟩ := DataW.trod_int Try.underlying29 h2
  simp at e0 e1 e2
  subst e0 e1 e2
  exact ⟨_, _, _, rfl⟩
theorem open_ops {fuel : Nat} {A : Option Addr} {len cap : Nat} {x : DataW H × List MemPlace} (h : DataW.trod enc Try.prog w base spare held fuel 22 [.slice A len cap] = some x) : ∃ K I N, IsOps w A len K I N := by
  rcases Go.Deep.open_slice Try.underlying22 h with ⟨hcs, _⟩ | ⟨a, l, c, m, n, D, Pl, hcs, _, hl, hm, hmm, _, hx⟩
  · simp at hcs
    obtain ⟨_, rfl, _⟩ := hcs
    exact ⟨fun _ => 0, fun _ => 0, fun _ => 0, by omega, fun h => by omega⟩
  · simp at hcs
    obtain ⟨rfl, rfl, rfl⟩ := hcs
    rw [show Try.prog.cellsOf 37 = 3 by kernel_rfl] at hx
    have hlm : len ≤ m := by rw [hmm]; split <;> omega
    have key : ∀ i, i < len → ∃ q : Int × Int × Int, w.cell? (a.add (i * 3)) = some (.int .i64 q.1) ∧ w.cell? ((a.add (i * 3)).add 1) = some (.int .i64 q.2.1) ∧ w.cell? ((a.add (i * 3)).add 2) = some (.int .u64 q.2.2) := fun i hi => by
      obtain ⟨cs', h1, h2⟩ := hx i (by omega)
      obtain ⟨k, j, u, rfl⟩ := open_op h2
      obtain ⟨_, _, hg⟩ := World.cells?_some h1
      exact ⟨(k, j, u), by simpa [Addr.add] using hg 0 (by omega), by simpa using hg 1 (by omega), by simpa using hg 2 (by omega)⟩
    obtain ⟨q, hq⟩ := Go.Deep.choose_lt key
    refine ⟨fun i => (q i).1, fun i => (q i).2.1, fun i => (q i).2.2, by unfold maxLen at hm; omega, fun h0 => ?_⟩
    obtain ⟨b, off, spot⟩ := a
    obtain rfl : spot = none := by simpa [Addr.add] using World.cell?_spot (hq 0 h0).1
    refine ⟨b, off, rfl, fun i hi => ?_⟩
    have := hq i hi
    simpa [add_plain] using this
end

set_option maxRecDepth 100000 in
theorem lifted (os : Os) (started : os.Started) (H : Type) (enc : TypeId × Value → H) :
    ReturnsInHanded {} Try.checked os 3 .any (Rows.countsPlaySpec.pre6 enc Try.prog Try.f3 Rows.countsPlayRow.domain false) (Rows.countsPlaySpec.post enc Try.prog Try.f3 false true false false) := by
  refine returnsInHanded_of_change (C := Try.checked) own started (by kernel_rfl) Try.func3
    (ChangeSpec.witness6 (enc := enc) (C := Try.checked) false ⟨#[], #[.slice none 0 0, .bool false], []⟩ 8 (by kernel_rfl) (by kernel_rfl) (by kernel_rfl) (by kernel_rfl)) ?_
  intro W base args ds gs before hval0 hW hcnd _
  have hval : ∀ (j : Nat) t v, Try.f3.params[j]? = some t → args[j]? = some v → Value.okWide Try.prog W .any base t v := hval0
  have hW' := hW
  obtain ⟨p, q, hA0, hV, rfl, hfz, hnd⟩ := hW
  have hA : DataW.TrodAll enc Try.prog W 0 (fun _ => true) true Try.f3.params.toList args.toList ds p := hA0
  rw [Try.params3] at hA hval
  obtain ⟨v0, vs0, d0, ds0, p0, q0, hargs, rfl, rfl, h0, r0⟩ := trodAll_cons hA
  obtain ⟨v1, vs1, d1, ds1, p1, q1, rfl, rfl, rfl, h1, r1⟩ := trodAll_cons r0
  obtain ⟨rfl, rfl, rfl⟩ := trodAll_nil r1
  obtain rfl : args = #[v0, v1] := by cases args; simp_all
  obtain ⟨rfl, rfl⟩ := trodVars_none hV
  obtain ⟨a0, len0, cap0, rfl⟩ := okWide_slice Try.underlying22 (hval 0 22 v0 rfl rfl)
  have k0 := h0
  have lt0 : ∀ x ∈ p0, x.block < W.heap.size := by obtain ⟨m, hm⟩ := k0; exact DataW.trod_lt m _ _ _ hm
  obtain ⟨K, I, N, w0⟩ : ∃ K I N, IsOps W a0 len0 K I N := by
    obtain ⟨fuel, hf⟩ := h0
    exact open_ops (by simpa [Value.cells] using hf)
  obtain ⟨a1, rfl, rfl, rfl⟩ := open_bool Try.underlying4 (hval 1 4 v1 rfl rfl) h1
  clear hA0 hval0
  refine (walk a0 len0 cap0 K I N a1 W w0).mono fun e W' ⟨he, bel⟩ => ?_
  subst he
  exact ⟨_, rfl, _, _, _, [], _, [], hW', trodAll_mk1 (shut_bool Try.underlying4 _), (trodAll_cons_mk (Below.trod laidOut (by kernel_rfl) (of_decide_eq_true (by kernel_rfl)) k0 bel lt0) (trodAll_cons_mk (shut_bool Try.underlying4 _) trodAll_mk0)), rfl, bel.frame _, fun h => by cases h⟩

theorem over : Rows.countsPlayRow.holds Try.pinned (OpenSpec.ofChange Rows.countsPlaySpec) :=
  OpenClaim.holds_of_wide 3 Try.f3 rfl rfl rfl rfl rfl rfl rfl ⟨rfl, rfl, rfl, rfl, rfl⟩ rfl rfl rfl rfl rfl (by kernel_rfl) Try.func3 (by kernel_rfl)
    (of_decide_eq_true (by kernel_rfl)) (by unfold Func.isWrapper; first | (rw [if_pos (by decide +kernel)]; kernel_rfl) | (rw [if_neg (by decide +kernel)]; exact ⟨rfl, rfl⟩))
    (fun os started H enc _ => lifted os started H enc)

theorem proved : Rows.CountsPlaySaid := over
#print axioms proved
end Go.Proofs.Yteffdcpepjjkbaa.countsPlay

/- What is sent goes out in order; the fifth letter is refused, and all with it: the law InterpSends returns true at every number, kind, four arguments and choice. No condition. -/
import Derived.Test.YtmmbigfeojfedaaRows
import Derived.Test.YtmmbigfeojfedaaSends
import Derived.WalkKit
import Derived.ProofKit
import Derived.OpenShut
import Derived.Laws.IdiomArrays
import Derived.ShutString
namespace Go.Proofs.Ytmmbigfeojfedaa.interpSends
open Go.ChangeShapes Go.WideShapes Go.ChangeAt Go.RowKit
open Go.ChangeMaps (open_string shut_string)
set_option linter.unusedVariables false      -- a walk need not use every 'w<i>' (that an integer argument fits its kind)

theorem own : ownKnob Try.prog.godebug = none := by kernel_rfl
theorem arr4 {cs : Array Value} (h : cs.size = 4) : ∃ c0 c1 c2 c3, cs = #[c0, c1, c2, c3] := by
  obtain ⟨l⟩ := cs
  match l, h with
  | [a, b, c, d], _ => exact ⟨a, b, c, d, rfl⟩
theorem laidOut : laidOutB Try.prog = true := by kernel_rfl

set_option maxRecDepth 100000 in
theorem lifted (os : Os) (started : os.Started) (H : Type) (enc : TypeId × Value → H) :
    ReturnsInHanded {} Try.checked os 8 .any (Rows.interpSendsSpec.pre6 enc Try.prog Try.f8 Rows.interpSendsRow.domain false) (Rows.interpSendsSpec.post enc Try.prog Try.f8 false true false false) := by
  refine returnsInHanded_of_change (C := Try.checked) own started (by kernel_rfl) Try.func8
    (ChangeSpec.witness6 (enc := enc) (C := Try.checked) false ⟨#[], #[.int .u8 0, .int .i64 0, .agg #[.int .i64 0, .int .i64 0, .int .i64 0, .int .i64 0], .bool false], []⟩ 8 (by kernel_rfl) (by kernel_rfl) (by kernel_rfl) (by kernel_rfl)) ?_
  intro W base args ds gs before hval0 hW hcnd _
  have hval : ∀ (j : Nat) t v, Try.f8.params[j]? = some t → args[j]? = some v → Value.okWide Try.prog W .any base t v := hval0
  have hW' := hW
  obtain ⟨p, q, hA0, hV, rfl, hfz, hnd⟩ := hW
  have hA : DataW.TrodAll enc Try.prog W 0 (fun _ => true) true Try.f8.params.toList args.toList ds p := hA0
  rw [Try.params8] at hA hval
  obtain ⟨v0, vs0, d0, ds0, p0, q0, hargs, rfl, rfl, h0, r0⟩ := trodAll_cons hA
  obtain ⟨v1, vs1, d1, ds1, p1, q1, rfl, rfl, rfl, h1, r1⟩ := trodAll_cons r0
  obtain ⟨v2, vs2, d2, ds2, p2, q2, rfl, rfl, rfl, h2, r2⟩ := trodAll_cons r1
  obtain ⟨v3, vs3, d3, ds3, p3, q3, rfl, rfl, rfl, h3, r3⟩ := trodAll_cons r2
  obtain ⟨rfl, rfl, rfl⟩ := trodAll_nil r3
  obtain rfl : args = #[v0, v1, v2, v3] := by cases args; simp_all
  obtain ⟨rfl, rfl⟩ := trodVars_none hV
  obtain ⟨a0, rfl, rfl, rfl, w0⟩ := open_int Try.underlying5 (hval 0 5 v0 rfl rfl) h0
  obtain ⟨a1, rfl, rfl, rfl, w1⟩ := open_int Try.underlying2 (hval 1 2 v1 rfl rfl) h1
  obtain ⟨a3, rfl, rfl, rfl⟩ := open_bool Try.underlying4 (hval 3 4 v3 rfl rfl) h3
  have k2 := h2
  have lt2 : ∀ x ∈ p2, x.block < W.heap.size := by obtain ⟨m, hm⟩ := k2; exact DataW.trod_lt m _ _ _ hm
  obtain ⟨cs, rfl, hsz, _⟩ : ∃ cs, v2 = .agg cs ∧ cs.size = Try.prog.cellsOf 64 ∧ Row.okWide Try.prog W .any base 64 cs := by
    have := hval 2 64 v2 rfl rfl
    simpa [Value.okWide, Try.underlying64] using this
  rw [show Try.prog.cellsOf 64 = 4 by kernel_rfl] at hsz
  obtain ⟨c0, c1, c2, c3, rfl⟩ := arr4 hsz
  obtain ⟨x0, x1, x2, x3, rfl, rfl, rfl, rfl⟩ : ∃ x0 x1 x2 x3 : Int, c0 = .int .i64 x0 ∧ c1 = .int .i64 x1 ∧ c2 = .int .i64 x2 ∧ c3 = .int .i64 x3 := by
    obtain ⟨fuel, hf⟩ := h2
    obtain ⟨y0, y1, y2, y3, m, _, hy0, hy1, hy2, hy3⟩ := trod_array4 Try.underlying64 (show Try.prog.cellsOf 2 = 1 by kernel_rfl) hf
    obtain ⟨x0, e0, _, _⟩ := DataW.trod_int Try.underlying2 hy0
    obtain ⟨x1, e1, _, _⟩ := DataW.trod_int Try.underlying2 hy1
    obtain ⟨x2, e2, _, _⟩ := DataW.trod_int Try.underlying2 hy2
    obtain ⟨x3, e3, _, _⟩ := DataW.trod_int Try.underlying2 hy3
    simp at e0 e1 e2 e3
    exact ⟨x0, x1, x2, x3, e0, e1, e2, e3⟩
  clear hA0 hval0
  refine (sends_any a0 w0 a1 x0 x1 x2 x3 a3 W).mono fun e W' ⟨he, bel⟩ => ?_
  subst he
  exact ⟨_, rfl, _, _, _, [], _, [], hW', trodAll_mk1 (shut_bool Try.underlying4 _), (trodAll_cons_mk (shut_int Try.underlying5 w0) (trodAll_cons_mk (shut_int Try.underlying2 w1) (trodAll_cons_mk (Below.trod laidOut (by kernel_rfl) (of_decide_eq_true (by kernel_rfl)) k2 bel lt2) (trodAll_cons_mk (shut_bool Try.underlying4 _) trodAll_mk0)))), rfl, bel.frame _, fun h => by cases h⟩

theorem over : Rows.interpSendsRow.holds Try.pinned (OpenSpec.ofChange Rows.interpSendsSpec) :=
  OpenClaim.holds_of_wide 8 Try.f8 rfl rfl rfl rfl rfl rfl rfl ⟨rfl, rfl, rfl, rfl, rfl⟩ rfl rfl rfl rfl rfl (by kernel_rfl) Try.func8 (by kernel_rfl)
    (of_decide_eq_true (by kernel_rfl)) (by unfold Func.isWrapper; first | (rw [if_pos (by decide +kernel)]; kernel_rfl) | (rw [if_neg (by decide +kernel)]; exact ⟨rfl, rfl⟩))
    (fun os started H enc _ => lifted os started H enc)

theorem proved : Rows.InterpSendsSaid :=
  over
#print axioms proved
end Go.Proofs.Ytmmbigfeojfedaa.interpSends

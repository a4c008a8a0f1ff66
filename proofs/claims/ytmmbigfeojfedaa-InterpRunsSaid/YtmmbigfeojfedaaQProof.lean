/- Any program, over any registers, letter and tick, comes to what the document says, or fails as it says: the law InterpRuns returns true at every program, registers, letter and tick. No condition. -/
import Derived.Test.YtmmbigfeojfedaaRows
import Derived.Test.YtmmbigfeojfedaaQH
import Derived.Test.YtmmbigfeojfedaaEvOpen
import Derived.WalkKit
import Derived.ProofKit
import Derived.OpenShut
import Derived.Lib.SmallJoins
import Derived.ShutString
namespace Go.Proofs.Ytmmbigfeojfedaa.interpRuns
open Go.Proofs.YtmmbigfeojfedaaW.PrintWords
open Go.ChangeShapes Go.WideShapes Go.ChangeAt Go.RowKit
open Go.ChangeMaps (open_string shut_string)
set_option linter.unusedVariables false      -- a walk need not use every 'w<i>' (that an integer argument fits its kind)

theorem own : ownKnob Try.prog.godebug = none := by kernel_rfl
theorem arr8 {cs : Array Value} (h : cs.size = 8) : ∃ c0 c1 c2 c3 c4 c5 c6 c7, cs = #[c0, c1, c2, c3, c4, c5, c6, c7] := by
  obtain ⟨l⟩ := cs
  match l, h with
  | [a, b, c, d, e, f, g, i], _ => exact ⟨a, b, c, d, e, f, g, i, rfl⟩
theorem arr4 {cs : Array Value} (h : cs.size = 4) : ∃ c0 c1 c2 c3, cs = #[c0, c1, c2, c3] := by
  obtain ⟨l⟩ := cs
  match l, h with
  | [a, b, c, d], _ => exact ⟨a, b, c, d, rfl⟩
theorem arr2 {cs : Array Value} (h : cs.size = 2) : ∃ c0 c1, cs = #[c0, c1] := by
  obtain ⟨l⟩ := cs
  match l, h with
  | [a, b], _ => exact ⟨a, b, rfl⟩
theorem laidOut : laidOutB Try.prog = true := by kernel_rfl
theorem slice_of {H : Type} {enc : TypeId × Value → H} {W : World} {base : Nat} {spare : Nat → Bool} {held : Bool} {fuel : Nat} {t e : TypeId} {u : Value} {x : DataW H × List MemPlace} (ht : Try.prog.underlying t = some (.slice e)) (h : DataW.trod enc Try.prog W base spare held fuel t [u] = some x) : ∃ A l k, u = .slice A l k := by
  rcases Go.Deep.open_slice ht h with ⟨hcs, _⟩ | ⟨a, l, c, m, n, D, Pl, hcs, _⟩
  · simp at hcs; exact ⟨_, _, _, hcs⟩
  · simp at hcs; exact ⟨_, _, _, hcs⟩
section
variable {H : Type} {enc : TypeId × Value → H} {W : World}
set_option maxRecDepth 100000 in
theorem open_prog {v : Value} {d : DataW H} {p : List MemPlace} (hv : Value.okWide Try.prog W .any 0 25 v) (h : DataW.Trod enc Try.prog W 0 (fun _ => true) true 25 v d p) :
    ∃ (nA kA : Option Addr) (nC kC : Nat) (NL : List ByteArray) (CL : List (Int × Int)), v = .agg #[.slice nA NL.length nC, .slice kA CL.length kC] ∧ ReadsOf Value.string (⟨#[]⟩ : ByteArray) W nA NL.length NL ∧ IsCode W kA CL ∧ ∀ k, InR (CL.getD k (0, 0)).2 := by
  obtain ⟨cs, rfl, hsz⟩ := okWide_struct Try.underlying25 hv
  rw [show Try.prog.cellsOf 25 = 2 by kernel_rfl] at hsz
  obtain ⟨c0, c1, rfl⟩ := arr2 hsz
  obtain ⟨fuel, hf⟩ := h
  obtain ⟨y0, y1, m, _, _, h0, h1⟩ := Go.ChangeShapes.trod_struct2 Try.underlying25 hf
  dsimp only at h0 h1
  rw [show Try.prog.cellsOf 22 = 1 by kernel_rfl] at h0
  rw [show Try.prog.cellsOf 23 = 1 by kernel_rfl] at h1
  simp only [Value.cells, List.drop_zero, List.take_succ_cons, List.take_zero, List.drop_succ_cons] at h0 h1
  obtain ⟨a0, l0, k0, e0⟩ := slice_of Try.underlying22 h0
  obtain ⟨a1, l1, k1, e1⟩ := slice_of Try.underlying23 h1
  subst e0 e1
  obtain ⟨NL, rfl, hN⟩ := open_names22 h0
  obtain ⟨CL, rfl, hC, hr⟩ := open_code23 h1
  exact ⟨_, _, _, _, NL, CL, rfl, hN, hC, hr⟩
set_option maxRecDepth 100000 in
theorem open_regs {v : Value} {d : DataW H} {p : List MemPlace} (hv : Value.okWide Try.prog W .any 0 26 v) (h : DataW.Trod enc Try.prog W 0 (fun _ => true) true 26 v d p) : ∃ r : Nat → Int, v = .agg (regC r) ∧ ∀ j, InR (r j) := by
  obtain ⟨cs, rfl, hsz, _⟩ : ∃ cs, v = .agg cs ∧ cs.size = Try.prog.cellsOf 26 ∧ Row.okWide Try.prog W .any 0 26 cs := by
    simpa [Value.okWide, Try.underlying26] using hv
  rw [show Try.prog.cellsOf 26 = 8 by kernel_rfl] at hsz
  obtain ⟨fuel, hf⟩ := h
  obtain ⟨xs, m, _, _, _, hl, hx⟩ := DataW.trod_array Try.underlying26 hf
  rw [show Try.prog.cellsOf 2 = 1 by kernel_rfl] at hx
  obtain ⟨c0, c1, c2, c3, c4, c5, c6, c7, rfl⟩ := arr8 hsz
  have key : ∀ i, i < 8 → ∃ q : Int, (#[c0, c1, c2, c3, c4, c5, c6, c7] : Array Value)[i]? = some (.int .i64 q) ∧ InR q := fun i hi => by
    have h1 := hx i hi
    obtain ⟨y, hy⟩ : ∃ y, xs[i]? = some y := ⟨_, List.getElem?_eq_getElem (by omega)⟩
    rw [hy] at h1
    match i, hi with
    | 0, _ | 1, _ | 2, _ | 3, _ | 4, _ | 5, _ | 6, _ | 7, _ =>
      obtain ⟨q, e, _, hw⟩ := DataW.trod_int Try.underlying2 h1
      simp [Value.cells] at e
      exact ⟨q, by simp [e], inR_wf hw⟩
  obtain ⟨q, hq⟩ := Go.Deep.choose_lt key
  refine ⟨fun j => if j < 8 then q j else 0, ?_, fun j => ?_⟩
  · have e := fun i hi => (hq i hi).1
    have e0 := e 0 (by omega)
    have e1 := e 1 (by omega)
    have e2 := e 2 (by omega)
    have e3 := e 3 (by omega)
    have e4 := e 4 (by omega)
    have e5 := e 5 (by omega)
    have e6 := e 6 (by omega)
    have e7 := e 7 (by omega)
    simp at e0 e1 e2 e3 e4 e5 e6 e7
    simp [regC, e0, e1, e2, e3, e4, e5, e6, e7]
  · show InR (if j < 8 then q j else 0)
    split
    · next hj => exact (hq j hj).2
    · exact inR_zero
set_option maxRecDepth 100000 in
theorem open_letter {v : Value} {d : DataW H} {p : List MemPlace} (hv : Value.okWide Try.prog W .any 0 30 v) (h : DataW.Trod enc Try.prog W 0 (fun _ => true) true 30 v d p) :
    ∃ (frm : ByteArray) (ser kd : Int) (aA : Option Addr) (aC : Nat) (AL : List Int), v = .agg #[.string frm, .int .u64 ser, .int .i64 kd, .slice aA AL.length aC] ∧ ReadsOf (Value.int .i64) (0 : Int) W aA AL.length AL ∧ (∀ k, InR (AL.getD k 0)) ∧ InR kd := by
  obtain ⟨cs, rfl, hsz⟩ := okWide_struct Try.underlying30 hv
  rw [show Try.prog.cellsOf 30 = 4 by kernel_rfl] at hsz
  obtain ⟨c0, c1, c2, c3, rfl⟩ := arr4 hsz
  obtain ⟨fuel, hf⟩ := h
  obtain ⟨y0, y1, y2, y3, m, _, _, h0, h1, h2, h3⟩ := Go.Joins.trod_struct4 Try.underlying30 hf
  dsimp only at h0 h1 h2 h3
  rw [show Try.prog.cellsOf 9 = 1 by kernel_rfl] at h0
  rw [show Try.prog.cellsOf 27 = 1 by kernel_rfl] at h1
  rw [show Try.prog.cellsOf 2 = 1 by kernel_rfl] at h2
  rw [show Try.prog.cellsOf 28 = 1 by kernel_rfl] at h3
  simp only [Value.cells, List.drop_zero, List.take_succ_cons, List.take_zero, List.drop_succ_cons] at h0 h1 h2 h3
  obtain ⟨s, e0, _⟩ := DataW.trod_string Try.underlying9 h0
  obtain ⟨q1, e1, _, _⟩ := DataW.trod_int Try.underlying27 h1
  obtain ⟨q2, e2, _, hw⟩ := DataW.trod_int Try.underlying2 h2
  obtain ⟨a3, l3, k3, e3⟩ := slice_of Try.underlying28 h3
  simp at e0 e1 e2
  subst e0 e1 e2 e3
  obtain ⟨AL, rfl, hA, hr⟩ := open_ints28 h3
  exact ⟨_, _, _, _, _, AL, rfl, hA, hr, inR_wf hw⟩
end

set_option maxRecDepth 100000 in
theorem lifted (os : Os) (started : os.Started) (H : Type) (enc : TypeId × Value → H) :
    ReturnsInHanded {} Try.checked os 3 .any (Rows.interpRunsSpec.pre6 enc Try.prog Try.f3 Rows.interpRunsRow.domain false) (Rows.interpRunsSpec.post enc Try.prog Try.f3 false true false false) := by
  refine returnsInHanded_of_change (C := Try.checked) own started (by kernel_rfl) Try.func3
    (ChangeSpec.witness6 (enc := enc) (C := Try.checked) false ⟨#[], #[.agg #[.slice none 0 0, .slice none 0 0], .agg #[.int .i64 0, .int .i64 0, .int .i64 0, .int .i64 0, .int .i64 0, .int .i64 0, .int .i64 0, .int .i64 0], .agg #[.string ⟨#[]⟩, .int .u64 0, .int .i64 0, .slice none 0 0], .int .i64 0], []⟩ 8 (by kernel_rfl) (by kernel_rfl) (by kernel_rfl) (by kernel_rfl)) ?_
  intro W base args ds gs before hval0 hW hcnd _
  have hval : ∀ (j : Nat) t v, Try.f3.params[j]? = some t → args[j]? = some v → Value.okWide Try.prog W .any base t v := hval0
  have hW' := hW
  obtain ⟨p, q, hA0, hV, rfl, hfz, hnd⟩ := hW
  have hA : DataW.TrodAll enc Try.prog W 0 (fun _ => true) true Try.f3.params.toList args.toList ds p := hA0
  rw [Try.params3] at hA hval
  obtain ⟨v0, vs0, d0, ds0, p0, q0, hargs, rfl, rfl, h0, r0⟩ := trodAll_cons hA
  obtain ⟨v1, vs1, d1, ds1, p1, q1, rfl, rfl, rfl, h1, r1⟩ := trodAll_cons r0
  obtain ⟨v2, vs2, d2, ds2, p2, q2, rfl, rfl, rfl, h2, r2⟩ := trodAll_cons r1
  obtain ⟨v3, vs3, d3, ds3, p3, q3, rfl, rfl, rfl, h3, r3⟩ := trodAll_cons r2
  obtain ⟨rfl, rfl, rfl⟩ := trodAll_nil r3
  obtain rfl : args = #[v0, v1, v2, v3] := by cases args; simp_all
  obtain ⟨rfl, rfl⟩ := trodVars_none hV
  have k0 := h0
  have k1 := h1
  have k2 := h2
  have lt0 : ∀ x ∈ p0, x.block < W.heap.size := by obtain ⟨m, hm⟩ := k0; exact DataW.trod_lt m _ _ _ hm
  have lt1 : ∀ x ∈ p1, x.block < W.heap.size := by obtain ⟨m, hm⟩ := k1; exact DataW.trod_lt m _ _ _ hm
  have lt2 : ∀ x ∈ p2, x.block < W.heap.size := by obtain ⟨m, hm⟩ := k2; exact DataW.trod_lt m _ _ _ hm
  obtain ⟨nA, kA, nC, kC, NL, CL, rfl, hN, hC, hcr⟩ := open_prog (hval 0 25 v0 rfl rfl) h0
  obtain ⟨reg, rfl, hrr⟩ := open_regs (hval 1 26 v1 rfl rfl) h1
  obtain ⟨frm, ser, kd, aA, aC, AL, rfl, hA', har, hkd⟩ := open_letter (hval 2 30 v2 rfl rfl) h2
  obtain ⟨a3, rfl, rfl, rfl, w3⟩ := open_int Try.underlying2 (hval 3 2 v3 rfl rfl) h3
  clear hA0 hval0
  refine (runs_any nA kA aA nC kC aC NL CL AL frm ser kd a3 reg W hN hC hA' ⟨hcr, har, inR_wf w3, hkd⟩ hrr).mono fun e W' ⟨he, bel⟩ => ?_
  subst he
  exact ⟨_, rfl, _, _, _, [], _, [], hW', trodAll_mk1 (shut_bool Try.underlying4 _), (trodAll_cons_mk (Below.trod laidOut (by kernel_rfl) (of_decide_eq_true (by kernel_rfl)) k0 bel lt0) (trodAll_cons_mk (Below.trod laidOut (by kernel_rfl) (of_decide_eq_true (by kernel_rfl)) k1 bel lt1) (trodAll_cons_mk (Below.trod laidOut (by kernel_rfl) (of_decide_eq_true (by kernel_rfl)) k2 bel lt2) (trodAll_cons_mk (shut_int Try.underlying2 w3) trodAll_mk0)))), rfl, bel.frame _, fun h => by cases h⟩

theorem over : Rows.interpRunsRow.holds Try.pinned (OpenSpec.ofChange Rows.interpRunsSpec) :=
  OpenClaim.holds_of_wide 3 Try.f3 rfl rfl rfl rfl rfl rfl rfl ⟨rfl, rfl, rfl, rfl, rfl⟩ rfl rfl rfl rfl rfl (by kernel_rfl) Try.func3 (by kernel_rfl)
    (of_decide_eq_true (by kernel_rfl)) (by unfold Func.isWrapper; first | (rw [if_pos (by decide +kernel)]; kernel_rfl) | (rw [if_neg (by decide +kernel)]; exact ⟨rfl, rfl⟩))
    (fun os started H enc _ => lifted os started H enc)

theorem proved : Rows.InterpRunsSaid :=
  over
#print axioms proved
end Go.Proofs.Ytmmbigfeojfedaa.interpRuns

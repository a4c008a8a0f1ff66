/- What two byte strings decode to, laid end to end, is what their joined bytes decode to: the law LazyJoins returns true, where what it reads is of bulk at most 1048576. -/
import Derived.Test.YtkdkcffeepancaaJoins
import Derived.Test.YtkdkcffeepancaaUp
namespace Go.Proofs.Ytkdkcffeepancaa.lazyJoins
open Go.RowKit
set_option linter.unusedVariables false
open Go.ChangeShapes Go.WideShapes Go.ChangeAt
open Go.Proofs.YtkdkcffeepancaaW.PrintWords

theorem open_in {H : Type} {enc : TypeId × Value → H} {w : World} {base : Nat} {A : Option Addr} {len cap : Nat} {fuel : Nat} {x : DataW H × List MemPlace}
    (h : DataW.trod enc Try.prog w base (fun _ => true) true fuel 24 [.slice A len cap] = some x) (hb : Rows.uptoBulk x.1 ≤ 1048576) :
    ∃ bs : List Int, len = bs.length ∧ InB w A cap bs := by
  rcases open_ints Try.underlying24 Try.underlying5 (by kernel_rfl) h with ⟨hcs, rfl⟩ | ⟨a, l, c, zs, hcs, _, hl, hm, hz, rfl, hc, hw⟩
  · simp at hcs
    obtain ⟨rfl, rfl, rfl⟩ := hcs
    exact ⟨[], rfl, ⟨rfl, by simp, fun h => by simp at h⟩, fun _ => rfl, fun x hx => by simp at hx, by simp⟩
  · simp at hcs
    obtain ⟨rfl, rfl, rfl⟩ := hcs
    simp only [if_true] at hz
    have hlen : (zs.take len).length = len := by rw [List.length_take]; omega
    have hsm : len ≤ 1048576 := by
      have h1 := Up.slice_le (H := H) (lits .u8 (zs.take len)) (lits .u8 (zs.drop len))
      have h2 : (lits (H := H) .u8 (zs.take len)).length = len := by unfold lits; simp; omega
      dsimp only at hb
      omega
    refine ⟨zs.take len, hlen.symm, ⟨rfl, by omega, fun h0 => ⟨a, rfl, fun j hj => ?_⟩⟩, (fun e => by cases e), (fun y hy => ?_), by omega⟩
    · rw [hlen] at hj
      rw [hc j (by omega)]
      simp [List.getD, hj]
    · have := hw y (List.mem_of_mem_take hy)
      simp only [Lit.wf, Bool.and_eq_true, decide_eq_true_eq] at this
      have e1 : IntKind.u8.min = 0 := rfl
      have e2 : IntKind.u8.max = 255 := rfl
      omega

set_option maxRecDepth 100000 in
theorem contract (H : Type) (enc : TypeId × Value → H) (W : World) (base : Nat) (args : Array Value) (ds gs : List (DataW H)) (before : List MemPlace)
    (hval0 : ∀ (j : Nat) t v, Try.f4.params[j]? = some t → args[j]? = some v → Value.okWide Try.prog W .any base t v)
    (hW : DataW.Whole enc Try.prog Try.f4.params.toList Rows.lazyJoinsSpec.vars false W args.toList ds gs before) (hk : Rows.uptoSmall H (ds ++ gs) = true) :
    Calls Try.prog 4 args W fun e W' => ∃ v, e = .returned v ∧ Rows.lazyJoinsSpec.post enc Try.prog Try.f4 false true false false W args v W' := by
  have hval : ∀ (j : Nat) t v, Try.f4.params[j]? = some t → args[j]? = some v → Value.okWide Try.prog W .any base t v := hval0
  have hW' := hW
  obtain ⟨p, q, hA0, hV, rfl, hfz, hnd⟩ := hW
  have hA : DataW.TrodAll enc Try.prog W 0 (fun _ => true) true Try.f4.params.toList args.toList ds p := hA0
  rw [Try.params4] at hA hval
  obtain ⟨v0, vs0, d0, ds0, p0, q0, hargs, rfl, rfl, h0, r0⟩ := trodAll_cons hA
  obtain ⟨v1, vs1, d1, ds1, p1, q1, rfl, rfl, rfl, h1, r1⟩ := trodAll_cons r0
  obtain ⟨rfl, rfl, rfl⟩ := trodAll_nil r1
  obtain rfl : args = #[v0, v1] := by cases args; simp_all
  obtain ⟨rfl, rfl⟩ := trodVars_none hV
  have hbd := Up.bound hk
  simp only [List.append_nil, Rows.uptoBulkAll] at hbd
  obtain ⟨a0, len0, cap0, rfl⟩ := okWide_slice Try.underlying24 (hval 0 24 v0 rfl rfl)
  have k0 := h0
  have lt0 : ∀ x ∈ p0, x.block < W.heap.size := by obtain ⟨m, hm⟩ := k0; exact DataW.trod_lt m _ _ _ hm
  obtain ⟨bs0, rfl, w0⟩ : ∃ bs : List Int, len0 = bs.length ∧ InB W a0 cap0 bs := by
    obtain ⟨fuel, hf⟩ := h0
    exact open_in (by simpa [Value.cells] using hf) (by show Rows.uptoBulk d0 ≤ _; omega)
  obtain ⟨a1, len1, cap1, rfl⟩ := okWide_slice Try.underlying24 (hval 1 24 v1 rfl rfl)
  have k1 := h1
  have lt1 : ∀ x ∈ p1, x.block < W.heap.size := by obtain ⟨m, hm⟩ := k1; exact DataW.trod_lt m _ _ _ hm
  obtain ⟨bs1, rfl, w1⟩ : ∃ bs : List Int, len1 = bs.length ∧ InB W a1 cap1 bs := by
    obtain ⟨fuel, hf⟩ := h1
    exact open_in (by simpa [Value.cells] using hf) (by show Rows.uptoBulk d1 ≤ _; omega)
  clear hA0 hval0 hk
  refine (joins a0 a1 cap0 cap1 bs0 bs1 W w0 w1).mono fun e W' ⟨he, bel⟩ => ?_
  subst he
  exact ⟨_, rfl, _, _, _, [], _, [], hW', trodAll_mk1 (shut_bool Try.underlying4 _), (trodAll_cons_mk (Below.trod Up.laidOut (by kernel_rfl) (of_decide_eq_true (by kernel_rfl)) k0 bel lt0) (trodAll_cons_mk (Below.trod Up.laidOut (by kernel_rfl) (of_decide_eq_true (by kernel_rfl)) k1 bel lt1) trodAll_mk0)), rfl, bel.frame _, fun h => by cases h⟩

set_option maxRecDepth 100000 in
theorem lifted (os : Os) (started : os.Started) (H : Type) (enc : TypeId × Value → H) (F : Stop.Interp) :
    ReturnsInHanded { calm := true } Try.checked os 4 .any ((Rows.OpenSpec.upto Rows.lazyJoinsSpec).pre6 enc Try.prog Try.f4 Rows.lazyJoinsUptoRow.domain false) (((Rows.OpenSpec.upto Rows.lazyJoinsSpec).at F).post enc Try.prog Try.f4 false true false false) := by
  refine returnsInHanded_of_cond (C := Try.checked) (s := Rows.OpenSpec.upto Rows.lazyJoinsSpec) (k := Rows.uptoSmall) rfl Up.own started (by kernel_rfl) Try.func4
    (Up.witness_calm (enc := enc) (C := Try.checked) (s := Rows.OpenSpec.upto Rows.lazyJoinsSpec) (k := Rows.uptoSmall) rfl ⟨#[], #[.slice none 0 0, .slice none 0 0], []⟩ 8 (by kernel_rfl) (by kernel_rfl) (by kernel_rfl)
      (x := ([.nil, .nil], [], [])) (by kernel_rfl) rfl (by kernel_rfl)) ?_
  intro W base args ds gs before hval hW _ hk _
  exact contract H enc W base args ds gs before hval hW hk

theorem proved : Rows.LazyJoinsUptoSaid :=
  Up.holds 4 Try.f4 rfl rfl rfl rfl rfl rfl rfl ⟨rfl, rfl, rfl, rfl, rfl⟩ rfl rfl rfl rfl rfl (by kernel_rfl) Try.func4 (by kernel_rfl)
    (of_decide_eq_true (by kernel_rfl)) (by unfold Func.isWrapper; first | (rw [if_pos (by decide +kernel)]; kernel_rfl) | (rw [if_neg (by decide +kernel)]; exact ⟨rfl, rfl⟩))
    (fun os started H enc _ F => Up.lifted_time (fun _ => rfl) (lifted os started H enc F))
#print axioms proved
end Go.Proofs.Ytkdkcffeepancaa.lazyJoins

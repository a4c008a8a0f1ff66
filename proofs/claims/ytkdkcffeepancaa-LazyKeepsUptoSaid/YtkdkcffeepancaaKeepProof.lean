/- A list keeps what it read: neither what is written into the bytes behind it nor into its texts changes it, and a nil list has nothing: the law LazyKeeps returns true, where what it reads is of bulk at most 1048576. -/
import Derived.Test.YtkdkcffeepancaaOpenT
import Derived.Test.YtkdkcffeepancaaKeep2
namespace Go.Proofs.Ytkdkcffeepancaa.lazyKeeps
open Go.RowKit
set_option linter.unusedVariables false
open Go.ChangeShapes Go.WideShapes Go.ChangeAt

set_option maxRecDepth 100000 in
theorem contract (H : Type) (enc : TypeId × Value → H) (W : World) (base : Nat) (args : Array Value) (ds gs : List (DataW H)) (before : List MemPlace)
    (hval0 : ∀ (j : Nat) t v, Try.f5.params[j]? = some t → args[j]? = some v → Value.okWide Try.prog W .any base t v)
    (hW : DataW.Whole enc Try.prog Try.f5.params.toList Rows.lazyKeepsSpec.vars false W args.toList ds gs before) (hk : Rows.uptoSmall H (ds ++ gs) = true) :
    Calls Try.prog 5 args W fun e W' => ∃ v, e = .returned v ∧ Rows.lazyKeepsSpec.post enc Try.prog Try.f5 false true false false W args v W' := by
  have hval : ∀ (j : Nat) t v, Try.f5.params[j]? = some t → args[j]? = some v → Value.okWide Try.prog W .any base t v := hval0
  have hW' := hW
  obtain ⟨p, q, hA0, hV, rfl, hfz, hnd⟩ := hW
  have hA : DataW.TrodAll enc Try.prog W 0 (fun _ => true) true Try.f5.params.toList args.toList ds p := hA0
  rw [Try.params5] at hA hval
  obtain ⟨v0, vs0, d0, ds0, p0, q0, hargs, rfl, rfl, h0, r0⟩ := trodAll_cons hA
  obtain ⟨rfl, rfl, rfl⟩ := trodAll_nil r0
  obtain rfl : args = #[v0] := by cases args; simp_all
  obtain ⟨rfl, rfl⟩ := trodVars_none hV
  have hbd := Up.bound hk
  simp only [List.append_nil, Rows.uptoBulkAll] at hbd
  obtain ⟨a0, len0, cap0, rfl⟩ := okWide_slice Try.underlying22 (hval 0 22 v0 rfl rfl)
  have k0 := h0
  have lt0 : ∀ x ∈ p0, x.block < W.heap.size := by obtain ⟨m, hm⟩ := k0; exact DataW.trod_lt m _ _ _ hm
  obtain ⟨ts, rfl, w0⟩ : ∃ ts : List ByteArray, len0 = ts.length ∧ InT W a0 ts := by
    obtain ⟨fuel, hf⟩ := h0
    exact open_texts (by simpa [Value.cells] using hf) (by show Rows.uptoBulk d0 ≤ _; omega)
  clear hA0 hval0 hk
  refine (keeps a0 cap0 ts W w0).mono fun e W' ⟨he, bel⟩ => ?_
  subst he
  exact ⟨_, rfl, _, _, _, [], _, [], hW', trodAll_mk1 (shut_bool Try.underlying4 _), (trodAll_cons_mk (Below.trod Up.laidOut (by kernel_rfl) (of_decide_eq_true (by kernel_rfl)) k0 bel lt0) trodAll_mk0), rfl, bel.frame _, fun h => by cases h⟩

set_option maxRecDepth 100000 in
theorem lifted (os : Os) (started : os.Started) (H : Type) (enc : TypeId × Value → H) (F : Stop.Interp) :
    ReturnsInHanded { calm := true } Try.checked os 5 .any ((Rows.OpenSpec.upto Rows.lazyKeepsSpec).pre6 enc Try.prog Try.f5 Rows.lazyKeepsUptoRow.domain false) (((Rows.OpenSpec.upto Rows.lazyKeepsSpec).at F).post enc Try.prog Try.f5 false true false false) := by
  refine returnsInHanded_of_cond (C := Try.checked) (s := Rows.OpenSpec.upto Rows.lazyKeepsSpec) (k := Rows.uptoSmall) rfl Up.own started (by kernel_rfl) Try.func5
    (Up.witness_calm (enc := enc) (C := Try.checked) (s := Rows.OpenSpec.upto Rows.lazyKeepsSpec) (k := Rows.uptoSmall) rfl ⟨#[], #[.slice none 0 0], []⟩ 8 (by kernel_rfl) (by kernel_rfl) (by kernel_rfl)
      (x := ([.nil], [], [])) (by kernel_rfl) rfl (by kernel_rfl)) ?_
  intro W base args ds gs before hval hW _ hk _
  exact contract H enc W base args ds gs before hval hW hk

theorem proved : Rows.LazyKeepsUptoSaid :=
  Up.holds 5 Try.f5 rfl rfl rfl rfl rfl rfl rfl ⟨rfl, rfl, rfl, rfl, rfl⟩ rfl rfl rfl rfl rfl (by kernel_rfl) Try.func5 (by kernel_rfl)
    (of_decide_eq_true (by kernel_rfl)) (by unfold Func.isWrapper; first | (rw [if_pos (by decide +kernel)]; kernel_rfl) | (rw [if_neg (by decide +kernel)]; exact ⟨rfl, rfl⟩))
    (fun os started H enc _ F => Up.lifted_time (fun _ => rfl) (lifted os started H enc F))
#print axioms proved
end Go.Proofs.Ytkdkcffeepancaa.lazyKeeps

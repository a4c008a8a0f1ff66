/- The law of the inbox that fills returns true at every list of kinds and every t. No condition. -/
import Derived.Test.YtlcdjgpblpodaaaGreatDoorCards
import Derived.Test.YtlcdjgpblpodaaaGreatDoorTie
import Derived.Test.YtlcdjgpblpodaaaGreatDoorMBO
import Derived.Test.YtlcdjgpblpodaaaGreatDoorFullFactu
import Derived.Test.YtlcdjgpblpodaaaGreatDoorFullFactt
import Derived.WalkKit
import Derived.ProofKit
import Derived.OpenShut
import Derived.ShutString
import Derived.HandedShaped
import Derived.MakeChecks
import Derived.Lay
import Derived.SevenTiedAt
namespace Go.Proofs.YtlcdjgpblpodaaaGreatDoor.topFull
open Go.Proofs.YtlcdjgpblpodaaaGreatDoorW.PrintWords
open Go.ChangeShapes Go.WideShapes Go.ChangeAt Go.RowKit
open Go.ChangeMaps (open_string shut_string)
set_option linter.unusedVariables false

theorem own : ownKnob Tryz.prog.godebug = none := by kernel_rfl
theorem laidOut : laidOutB Tryz.prog = true := by kernel_rfl
section
variable {H : Type} {enc : TypeId × Value → H} {w : World} {base : Nat} {spare : Nat → Bool} {held : Bool}
theorem open_kinds {fuel : Nat} {A : Option Addr} {len cap : Nat} {x : DataW H × List MemPlace} (h : DataW.trod enc Tryz.prog w base spare held fuel 22 [.slice A len cap] = some x) :
    ∃ ks : List Int, len = ks.length ∧ ReadsOf (Value.int .i64) (0 : Int) w A ks.length ks ∧ ∀ y ∈ ks, In64 y := by
  rcases Go.Deep.open_slice Tryz.underlying22 h with ⟨hcs, _⟩ | ⟨a, l, c, m, n, D, Pl, hcs, _, hl, hm, hmm, _, hx⟩
  · simp at hcs
    obtain ⟨rfl, rfl, rfl⟩ := hcs
    exact ⟨[], rfl, ⟨rfl, by show 0 ≤ _; omega, fun h => absurd h (by simp)⟩, fun y hy => by cases hy⟩
  · simp at hcs
    obtain ⟨rfl, rfl, rfl⟩ := hcs
    rw [show Tryz.prog.cellsOf 2 = 1 by kernel_rfl] at hx
    have hlm : len ≤ m := by rw [hmm]; split <;> omega
    have key : ∀ i, i < len → ∃ q : Int, w.cell? (a.add (i * 1)) = some (.int .i64 q) ∧ In64 q := fun i hi => by
      obtain ⟨cs', h1, h2⟩ := hx i (by omega)
      obtain ⟨_, _, hg⟩ := World.cells?_some h1
      obtain ⟨q, e, _, hw⟩ := DataW.trod_int Tryz.underlying2 h2
      subst e
      exact ⟨q, by simpa [Addr.add] using hg 0 (by omega), by simpa [In64, Lit.wf, IntKind.min, IntKind.max, IntKind.signed, IntKind.bits] using hw⟩
    obtain ⟨q, hq⟩ := Go.Deep.choose_lt key
    refine ⟨(List.range len).map q, by simp, ⟨rfl, by simp; unfold maxLen at hm; omega, fun _ => ⟨a, rfl, fun j hj => ?_⟩⟩, fun y hy => ?_⟩
    · have hj' : j < len := by simpa using hj
      have h1 := (hq j hj').1
      rw [Nat.mul_one] at h1
      rw [h1]
      simp [List.getD_eq_getElem?_getD, hj']
    · obtain ⟨j, hj, rfl⟩ := List.mem_map.1 hy
      exact (hq j (by simpa using hj)).2
end
/-- The wrap: the list's data and the world's shape at once; the data are not read. -/
theorem wrap {H : Type} {enc : TypeId × Value → H} {C : Checked} {os : Os} {f : FuncId} {fn : Func} {s : ChangeSpec} {X : World → Array Value → Prop}
    (own : ownKnob C.prog.godebug = none) (started : os.Started) (noInit : C.prog.inits.idxOf? f = none) (hfn : C.prog.funcs[f]? = some fn)
    (witness : ∃ (w : World) (tape : Tape) (i : Input), w.os = os ∧ (w.forCall tape i).Shaped C.prog ∧ i.vars = [] ∧ Input.okWide C.prog (w.forCall tape i) .any w.heap.size f i ∧
      ((s.pre enc C.prog fn [] false (w.forCall tape i).memory i.args ∧ X (w.forCall tape i).memory i.args) ∧ sizedMet enc C.prog fn (OpenSpec.ofChange s) false (w.forCall tape i).memory i.args) ∧ ({} : Assume).holds C.prog (lone (Frame.enter C.prog f i.args .normal) [] (w.forCall tape i)))
    (contract : ∀ (W : World) (base : Nat) (args : Array Value) (ds gs : List (DataW H)) (before : List MemPlace),
      (∀ (j : Nat) t v, fn.params[j]? = some t → args[j]? = some v → Value.okWide C.prog W .any base t v) →
      DataW.Whole enc C.prog fn.params.toList s.vars false W args.toList ds gs before → W.ShapedOpen C.prog →
      Calls C.prog f args W fun e W' => ∃ v, e = .returned v ∧ s.post enc C.prog fn false true false false W args v W') :
    ReturnsInHanded {} C os f .any (fun w args => (s.pre enc C.prog fn [] false w args ∧ X w args) ∧ sizedMet enc C.prog fn (OpenSpec.ofChange s) false w args) (s.post enc C.prog fn false true false false) := by
  refine returnsInHanded_of_calls own started noInit witness fun w tape i _ hsh _ hok hpre _ => ?_
  obtain ⟨_, _, _, fn', hfn', _, _, _, _, hval⟩ := hok
  obtain rfl : fn' = fn := Option.some.inj (hfn'.symm.trans hfn)
  obtain ⟨⟨⟨ds, gs, before, hw, _⟩, _⟩, _⟩ := hpre
  refine (contract (w.forCall tape i) w.heap.size i.args ds gs before hval (DataW.Whole.of_heap (w' := w.forCall tape i) (by rfl) hw) hsh).mono fun e W' ⟨v, he, hp⟩ => ?_
  subst he
  exact ChangeSpec.post_blind hp

set_option maxRecDepth 100000 in
theorem lifted (os : Os) (started : os.Started) (H : Type) (enc : TypeId × Value → H) :
    ReturnsInHanded {} Tryz.checked os 3 .any (fun w args => (Rows.topFullSpec.pre enc Tryz.prog Tryz.f3 [] false w args ∧ laidMetH Tryz.prog Rows.topFullRow.laid w) ∧ sizedMet enc Tryz.prog Tryz.f3 (OpenSpec.ofChange Rows.topFullSpec) false w args)
      (Rows.topFullSpec.post enc Tryz.prog Tryz.f3 false true false false) := by
  refine wrap (C := Tryz.checked) (X := fun w _ => laidMetH Tryz.prog Rows.topFullRow.laid w) own started (by kernel_rfl) Tryz.func3
    (ChangeSpec.witness_shaped (enc := enc) (C := Tryz.checked) (os := os) (X := fun w _ => laidMetH Tryz.prog Rows.topFullRow.laid w) false (World.laidAll Tryz.prog os Rows.topFullRow.laid) #[.slice none 0 0, .int .u8 0] 8 (World.laidAll_os _ _ _)
      (World.shaped_of_ZipB (by kernel_rfl) (by kernel_rfl)) (by kernel_rfl) (by kernel_rfl) (by kernel_rfl)
      (by rw [MakeChecks.laidMetH_plain _ _ _ (by kernel_rfl)]; exact laidMet_laidAll _ (by kernel_rfl) (by kernel_rfl))) ?_
  intro W base args ds gs before hval0 hW hsh
  have hval : ∀ (j : Nat) t v, Tryz.f3.params[j]? = some t → args[j]? = some v → Value.okWide Tryz.prog W .any base t v := hval0
  have hW' := hW
  obtain ⟨p, q, hA0, hV, rfl, hfz, hnd⟩ := hW
  have hA : DataW.TrodAll enc Tryz.prog W 0 (fun _ => true) true Tryz.f3.params.toList args.toList ds p := hA0
  rw [Tryz.params3] at hA hval
  obtain ⟨v0, vs0, d0, ds0, p0, q0, hargs, rfl, rfl, h0, r0⟩ := trodAll_cons hA
  obtain ⟨v1, vs1, d1, ds1, p1, q1, rfl, rfl, rfl, h1, r1⟩ := trodAll_cons r0
  obtain ⟨rfl, rfl, rfl⟩ := trodAll_nil r1
  obtain rfl : args = #[v0, v1] := by cases args; simp_all
  obtain ⟨rfl, rfl⟩ := trodVars_none hV
  obtain ⟨a0, len0, cap0, rfl⟩ := okWide_slice Tryz.underlying22 (hval 0 22 v0 rfl rfl)
  have k0 := h0
  have lt0 : ∀ x ∈ p0, x.block < W.heap.size := by obtain ⟨m, hm⟩ := k0; exact DataW.trod_lt m _ _ _ hm
  obtain ⟨ks, rfl, hks, h64⟩ : ∃ ks : List Int, len0 = ks.length ∧ ReadsOf (Value.int .i64) (0 : Int) W a0 ks.length ks ∧ ∀ y ∈ ks, In64 y := by
    obtain ⟨fuel, hf⟩ := h0
    exact open_kinds (by simpa [Value.cells] using hf)
  obtain ⟨a1, rfl, rfl, rfl, w1⟩ := open_int Tryz.underlying5 (hval 1 5 v1 rfl rfl) h1
  obtain ⟨t, rfl, ht⟩ : ∃ t : Nat, a1 = t ∧ t ≤ 255 := by
    have h2 : 0 ≤ a1 ∧ a1 ≤ 255 := by simpa [Lit.wf, IntKind.min, IntKind.max, IntKind.signed, IntKind.bits] using w1
    exact ⟨a1.toNat, by omega, by omega⟩
  clear hA0 hval0
  have hG : MaxLenAt W := Tryz.lSplit.s1_3 W hsh
  refine (full_walk MaxLenAt awake_max a0 cap0 ks t W hG hks h64 ht).mono fun e W' ⟨he, bel⟩ => ?_
  subst he
  exact ⟨_, rfl, _, _, _, [], _, [], hW', trodAll_mk1 (shut_bool Tryz.underlying4 _), (trodAll_cons_mk (Below.trod laidOut (by kernel_rfl) (of_decide_eq_true (by kernel_rfl)) k0 bel lt0) (trodAll_cons_mk (shut_int Tryz.underlying5 w1) trodAll_mk0)), rfl, bel.frame _, fun h => by cases h⟩

theorem over : Rows.TopFullSaid :=
  OpenClaim.holds_of_wide 3 Tryz.f3 rfl rfl rfl rfl rfl rfl rfl ⟨rfl, rfl, rfl, rfl, rfl⟩ rfl rfl rfl rfl rfl a0 Tryz.func3 joined inst wrapper
    (fun os started H enc _ => lifted os started H enc)

theorem proved : Rows.TopFullCardSaid :=
  Claim7.holds_tied_plain_at .later [] [.data, .data, .data, .data, .sentinel, .sentinel, .pinned] true (true, "991e1d7bbd9e5a17e381f404e0963fe696ca8cec504a3f0107cc101f341d24bf") true
    over (fun _ h => by cases h) b1 (fun _ h => by cases h) topFull_row_tie rfl ⟨rfl, rfl⟩ b2 rfl
    (fun f fn hf hfn => by
      obtain rfl : f = 3 := Option.some.inj (a0.symm.trans hf) |>.symm
      obtain rfl : fn = Tryz.f3 := (Option.some.inj (Tryz.func3.symm.trans hfn)).symm
      exact ⟨b4, fun j t ht => by
        rw [Tryz.params3] at ht
        have hm : t ∈ [22, 5] := by simpa using Array.mem_of_getElem? ht
        exact (show Tryz.prog.wantsStandIn t = false by simpa using List.all_eq_true.1 b5 t hm)⟩)
    b6
#print axioms proved
end Go.Proofs.YtlcdjgpblpodaaaGreatDoor.topFull

/- From the law's entry to its count. -/
import Derived.Test.YteffdcpepjjkbaaTtJ
namespace Go.Proofs.Yteffdcpepjjkbaa.Team
open Go.Conc Go.ConcN Go.RowKit Go.Conc.Lib Go.ConcR.Gen Go.ConcN.Gen
open Go.ConcR (KK wgBlock WgAt stA smA rd wr mk Payload Aside2 DC0 ofEvent_cell)
set_option linter.unusedVariables false

theorem PK.setC {N : Nat} {W w : World} {c bf : Nat → Int} (h : PK N W c bf w) {i : Nat} (hi : i < 8) (v : Int) : PK N W (put c i v) bf (w.setCell ⟨N + 1, i, none⟩ (.int .u64 v)) := by
  have hA := aside_setCell w ⟨N + 1, i, none⟩ (.int .u64 v)
  exact ⟨h.below.setCell (by simp) _, by rw [hA.size]; exact h.size, set_vec h.cnt hi v, (hA.block _ (by simp)).trans h.bef⟩
theorem PK.cellC {N : Nat} {W w : World} {c bf : Nat → Int} (h : PK N W c bf w) {i : Nat} (hi : i < 8) : w.cell? ⟨N + 1, i, none⟩ = some (.int .u64 (c i)) ∧ w.frozen? ⟨N + 1, i, none⟩ = false := ⟨vec_cell h.cnt hi, by simp [World.frozen?, h.cnt]⟩
theorem K2.pk {N : Nat} {W w : World} {d : Nat → Int} (h : K2 N W (N + 1) d w) : PK N W d (fun _ => 0) (w.alloc (.cells (vec fun _ => 0) 35)) := by
  have hs := h.size
  exact ⟨h.below.alloc (by omega) _, by simp [hs], (Below.heap_alloc _ _ _ (by omega)).trans h.cnt, new_at hs _⟩

section
variable {N n : Nat} {W : World} {la : Option Addr} {lcap : Nat} {d : Int} {E : Event → Prop} {Stop : Goroutine → World → Prop} {f₀ : Nat}
set_option maxRecDepth 100000 in
set_option maxHeartbeats 16000000 in
theorem entryMany (hE : EvO N E) (h80 : 80 < n) (hN : W.heap.size = N) : G0 E (AtRetE E (Post N W)) 1000 (G ((base 4).at ⟨#[.slice la n lcap, .int .u8 d, undef, undef, undef, undef, undef, undef, undef, undef, undef, undef, undef, undef, undef, undef, undef, undef, undef, undef, undef, undef, undef, undef, undef, undef, undef, undef, undef, undef, undef, undef, undef, undef, undef, undef, undef, undef, undef, undef, undef, undef, undef, undef, undef, undef, undef, undef, undef, undef, undef, undef, undef, undef, undef, undef, undef, undef, undef, undef, undef, undef, undef, undef, undef, undef, undef, undef, undef, undef, undef, undef, undef, undef, undef, undef, undef], []⟩ [.code body4]) []) W := by
  have h80' : (80 : Int) < (n : Int) := by omega
  have hF : K1 N W N W := ⟨.refl _ _, hN, Nat.le_refl _⟩
  have hA := fun (S : Nat) (b₀ : Frame) (a₀ : Act) (ops₀ : Array Oper) (i₀ : Nat) (rest₀ : List Nat) (k₀ : List Item) (cs : List Frame) (mT : Nat) hT w hw => awakeRun (N := N) (S := S) (W := W) (E := E) (Stop := AtRetE E (Post N W)) (b₀ := b₀) (a₀ := a₀) (ops₀ := ops₀) (i₀ := i₀) (rest₀ := rest₀) (k₀ := k₀) (cs := cs) (mT := mT) hE hT w hw
  simp only [body4, body6, Try.f4, Try.f6, Option.getD_some] at hA ⊢
  repeat w_bar (eqr (F := K1 N W N))
  u_in (eqr (F := K1 N W N)) hF
  refine goes_call rfl rfl (by k_ne) rfl Try.func6 nm6 rfl ⟨by u_nil, ?_⟩
  walk_nrmf Try.f6
  refine goes_upto (hA N _ _ _ _ _ _ _ 500 ?_ _ hF) (by omega)
  clear hF
  intro w' hF
  walk_nrm
  repeat w_bar (eqr (F := K1 N W (N + 1)))
  u_in (eqr (F := K1 N W (N + 1))) hF
  refine goes_call rfl rfl (by k_ne) rfl Try.func6 nm6 rfl ⟨by u_nil, ?_⟩
  walk_nrmf Try.f6
  refine goes_upto (hA (N + 1) _ _ _ _ _ _ _ 30 ?_ _ hF) (by omega)
  clear hF hA
  intro w' hF
  walk_nrm
  repeat w_bar (eqr (F := K1 N W (N + 1 + 1)))
  refine Goes.stop (fun w₂ r₂ => ⟨rfl, .bool true, #[], ?_, by simp, rfl, (eqr (F := K1 N W (N + 1 + 1)) hF r₂).below⟩)
  simp [G, stepG, unwind, doReturn, results, Frame.at, base, Try.func4, Try.f4, seen, GStep.after]

set_option maxRecDepth 100000 in
set_option maxHeartbeats 16000000 in
theorem entryFew (hE : EvO N E) (h80 : n ≤ 80) (hN : W.heap.size = N) (h0 : 0 ≤ d) (h1 : d < 18446744073709551616)
    (hEnd : ∀ (g : Goroutine) (w : World), AnchO N n la lcap 0 g → PK N W (put (fun _ => 0) 1 d) (put (fun _ => 0) 1 d) w → G0 E Stop f₀ g w) :
    G0 E Stop (f₀ + 1000) (G ((base 4).at ⟨#[.slice la n lcap, .int .u8 d, undef, undef, undef, undef, undef, undef, undef, undef, undef, undef, undef, undef, undef, undef, undef, undef, undef, undef, undef, undef, undef, undef, undef, undef, undef, undef, undef, undef, undef, undef, undef, undef, undef, undef, undef, undef, undef, undef, undef, undef, undef, undef, undef, undef, undef, undef, undef, undef, undef, undef, undef, undef, undef, undef, undef, undef, undef, undef, undef, undef, undef, undef, undef, undef, undef, undef, undef, undef, undef, undef, undef, undef, undef, undef, undef], []⟩ [.code body4]) []) W := by
  have h80' : ¬ (80 : Int) < (n : Int) := by omega
  have hF : K1 N W N W := ⟨.refl _ _, hN, Nat.le_refl _⟩
  have hA := fun (S : Nat) (b₀ : Frame) (a₀ : Act) (ops₀ : Array Oper) (i₀ : Nat) (rest₀ : List Nat) (k₀ : List Item) (cs : List Frame) (mT : Nat) hT w hw => awakeRun (N := N) (S := S) (W := W) (E := E) (Stop := Stop) (b₀ := b₀) (a₀ := a₀) (ops₀ := ops₀) (i₀ := i₀) (rest₀ := rest₀) (k₀ := k₀) (cs := cs) (mT := mT) hE hT w hw
  have hNw := fun (b₀ : Frame) (a₀ : Act) (ops₀ : Array Oper) (i₀ : Nat) (rest₀ : List Nat) (k₀ : List Item) (cs : List Frame) (mT : Nat) hT w hw => newRun (E := E) (Stop := Stop) (S := N + 1) (F := K1 N W (N + 1)) (F' := K2 N W (N + 1) fun _ => 0) (b₀ := b₀) (a₀ := a₀) (ops₀ := ops₀) (i₀ := i₀) (rest₀ := rest₀) (k₀ := k₀) (cs := cs) (mT := mT) (fun h => h.size) (fun h => h.make) hT w hw
  have hwd : IntKind.u64.wrap d = d := by rw [IntKind.wrap_u64]; omega
  have hwd0 : IntKind.u64.wrap (0 + d) = d := by rw [IntKind.wrap_u64]; omega
  have hAd := fun (b₀ : Frame) (a₀ : Act) (ops₀ : Array Oper) (i₀ : Nat) (rest₀ : List Nat) (k₀ : List Item) (cs : List Frame) (mT : Nat) hT w hw => addRun (N := N) (E := E) (Stop := Stop) (F := PK N W (fun _ => 0) (fun _ => 0)) (F' := PK N W (put (fun _ => 0) 1 d) (fun _ => 0)) (b := N + 1) (i := 1) (x := 0) (v := d) (b₀ := b₀) (a₀ := a₀) (ops₀ := ops₀) (i₀ := i₀) (rest₀ := rest₀) (k₀ := k₀) (cs := cs) (mT := mT) hE (by omega) (fun h => h.cellC (by omega)) (fun h => by rw [hwd0]; exact h.setC (by omega) d) hT w hw
  rw [hwd0] at hAd
  clear hwd0
  simp only [body4, body6, body7, body8, Try.f4, Try.f6, Try.f7, Try.f8, Option.getD_some] at hA hNw hAd ⊢
  repeat w_bar (eqr (F := K1 N W N))
  u_in (eqr (F := K1 N W N)) hF
  refine goes_call rfl rfl (by k_ne) rfl Try.func6 nm6 rfl ⟨by u_nil, ?_⟩
  walk_nrmf Try.f6
  refine goes_upto (hA N _ _ _ _ _ _ _ (f₀ + 500) ?_ _ hF) (by omega)
  clear hF hA
  intro w' hF
  walk_nrm
  repeat w_bar (eqr (F := K1 N W (N + 1)))
  u_in (eqr (F := K1 N W (N + 1))) hF
  refine goes_call rfl rfl (by k_ne) rfl Try.func7 nm7 rfl ⟨by u_nil, ?_⟩
  walk_nrmf Try.f7
  refine goes_upto (hNw _ _ _ _ _ _ _ (f₀ + 400) ?_ _ hF) (by omega)
  clear hF hNw
  intro w' hF
  walk_nrm
  repeat w_bar (eqr (F := K2 N W (N + 1) fun _ => 0))
  u_in (eqr (F := K2 N W (N + 1) fun _ => 0)) hF
  refine goes_oper_k rfl rfl (by k_ne) (fun K hK => ?_)
  have hsz : _ = N + 2 := hF.size
  go_simp
  refine hK _ _ ⟨fun e he => ?_, ?_⟩
  · have hm := mem_listed he
    simp [go_sem] at hm
  clear hK K hsz
  replace hF := hF.pk
  repeat w_bar (eqr (F := PK N W (fun _ => 0) fun _ => 0))
  u_in (eqr (F := PK N W (fun _ => 0) fun _ => 0)) hF
  refine goes_call rfl rfl (by k_ne) rfl Try.func8 nm8 rfl ⟨by u_nil, ?_⟩
  walk_nrmf Try.f8
  refine goes_upto (hAd _ _ _ _ _ _ _ (f₀ + 200) ?_ _ hF) (by omega)
  clear hF hAd
  intro w' hF
  walk_nrm
  repeat w_bar (eqr (F := PK N W (put (fun _ => 0) 1 d) fun _ => 0))
  have hix := fun w es => events_indexAt_array (P := Try.prog) (w := w) (es := es) 35 29 8 ⟨N + 2, 0, none⟩ .i64 1 Try.underlying35 ⟨by omega, by omega⟩
  repeat w_bar (eqr (F := PK N W (put (fun _ => 0) 1 d) fun _ => 0))
  clear hix
  d_opw (eqr (F := PK N W (put (fun _ => 0) 1 d) fun _ => 0)) hF [(PK.cell hF (show 1 < 8 by omega)).1, (PK.cell hF (show 1 < 8 by omega)).2] (hE.any _ _ _ (by simp) (by simp))
  replace hF := hF.set (show 1 < 8 by omega) d
  repeat w_bar (eqr (F := PK N W (put (fun _ => 0) 1 d) (put (fun _ => 0) 1 d)))
  u_c stepG_loop (eqr (F := PK N W (put (fun _ => 0) 1 d) (put (fun _ => 0) 1 d))) hF
  exact goes_upto (hEnd _ _ ⟨_, rfl, by simp, by simp, by simp, by simp, by simp, by simp⟩ hF) (by omega)
end
end Go.Proofs.Yteffdcpepjjkbaa.Team

/- Ahead of the workers: the law counts for itself: the outer loop; the early return at a long list. -/
import Derived.Test.YteffdcpepjjkbaaTtH
namespace Go.Proofs.Yteffdcpepjjkbaa.Team
open Go.Conc Go.ConcN Go.RowKit Go.Conc.Lib Go.ConcR.Gen Go.ConcN.Gen
open Go.ConcR (KK wgBlock WgAt stA smA rd wr mk Payload Aside2 DC0 ofEvent_cell)
set_option linter.unusedVariables false

def tallyFrom (b : Bool) (L : Nat → Lst) : Nat → Nat → (Nat → Int) → (Nat → Int)
  | _, 0, bf => bf
  | k, r + 1, bf => tallyFrom b L (k + 1) r (tally b (L k).xs bf)

section
variable {N n m : Nat} {W : World} {L : Nat → Lst} {la : Option Addr} {lcap : Nat} {c tgt : Nat → Int} {E : Event → Prop} {Stop : Goroutine → World → Prop} {f₀ : Nat}
set_option maxRecDepth 100000 in
set_option maxHeartbeats 16000000 in
theorem outer (hE : EvO N E) (hI : Inp N W la n L) (hn : n ≤ 80) (hm : m ≤ n) (hsh : ∀ k, k < m → (L k).len ≤ 300)
    (hEnd : ∀ (g : Goroutine) (w : World), AnchO N n la lcap m g → PK N W c tgt w → G0 E Stop f₀ g w) : ∀ (r k : Nat), k + r = m →
    ∃ f, ∀ (bf : Nat → Int) (g : Goroutine) (w : World), AnchO N n la lcap k g → PK N W c bf w → tallyFrom (decide (n ≤ 64)) L k r bf = tgt → G0 E Stop f g w := by
  intro r
  induction r with
  | zero =>
    intro k hk
    obtain rfl : k = m := by omega
    refine ⟨f₀, fun bf g w hA hF ht => ?_⟩
    obtain rfl : bf = tgt := ht
    exact hEnd g w hA hF
  | succ r ih =>
    intro k hk
    have hkn' : k < n := by omega
    obtain ⟨f₁, h₁⟩ := ih (k + 1) (by omega)
    clear ih
    have hl3 := hsh k (by omega)
    have hin : ∃ f, ∀ (bf : Nat → Int) (g : Goroutine) (w : World), AnchI N n la lcap (L k).len k 0 g → PK N W c bf w → tallyFrom (decide (n ≤ 64)) L k (r + 1) bf = tgt → G0 E Stop f g w := by
      obtain ⟨f, hf⟩ := inner (E := E) (Stop := Stop) (f₁ := f₁) (Q := fun bf => tallyFrom (decide (n ≤ 64)) L (k + 1) r bf = tgt) hE hI hn hkn' hl3 (fun bf g w hA hF hq => h₁ bf g w hA hF hq) (L k).len 0 (by omega)
      exact ⟨f, fun bf g w hA hF hq => hf bf g w hA hF hq⟩
    obtain ⟨f₂, h₂⟩ := hin
    refine ⟨f₂ + 60, ?_⟩
    rintro bf g w ⟨T, rfl, hT, t0, t5, t6, t27, t28⟩ hF htgt
    obtain ⟨ad, rfl⟩ := hI.nil (by omega)
    obtain ⟨v0, v1, v2, v3, v4, v5, v6, v7, v8, v9, v10, v11, v12, v13, v14, v15, v16, v17, v18, v19, v20, v21, v22, v23, v24, v25, v26, v27, v28, v29, v30, v31, v32, v33, v34, v35, v36, v37, v38, v39, v40, v41, v42, v43, v44, v45, v46, v47, v48, v49, v50, v51, v52, v53, v54, v55, v56, v57, v58, v59, v60, v61, v62, v63, v64, v65, v66, v67, v68, v69, v70, v71, v72, v73, v74, v75, v76, rfl⟩ := array77 T hT
    simp only [List.getElem?_toArray, List.getElem?_cons_succ, List.getElem?_cons_zero, Option.some.injEq] at t0 t5 t6 t27 t28
    subst t0 t5 t6 t27 t28
    clear hT
    have hrow : ∀ w, PK N W c bf w → w.cell? (ad.add k) = some (.slice (L k).a (L k).len (L k).cap) := fun w h => by
      obtain ⟨h1, h2⟩ := hI.row k ad hkn' rfl
      rw [World.cell?_of_block (h.below.block (ad.add k).block (by rw [add_block]; exact h1))]
      exact h2
    have hbl := (hI.row k ad hkn' rfl).1
    have hkn : (k : Int) < (n : Int) := by omega
    have hk0 : (0 : Int) ≤ (k : Int) := by omega
    have hl3' : ¬ (300 : Int) < ((L k).len : Int) := by omega
    simp only [L8, R8, body4, Try.f4, Option.getD_some]
    repeat w_bar (eqr (F := PK N W c bf))
    d_opw (eqr (F := PK N W c bf)) hF [hrow _ hF] (hE.any _ _ _ (by rw [add_block]; omega) (by rw [add_block]; omega))
    repeat w_bar (eqr (F := PK N W c bf))
    d_opw (eqr (F := PK N W c bf)) hF [hrow _ hF] (hE.any _ _ _ (by rw [add_block]; omega) (by rw [add_block]; omega))
    repeat w_bar (eqr (F := PK N W c bf))
    u_c stepG_loop (eqr (F := PK N W c bf)) hF
    exact goes_upto (h₂ _ _ _ ⟨_, rfl, by simp, by simp, by simp, by simp, by simp, by simp, by simp, by simp, by simp⟩ hF htgt) (by omega)
end
end Go.Proofs.Yteffdcpepjjkbaa.Team

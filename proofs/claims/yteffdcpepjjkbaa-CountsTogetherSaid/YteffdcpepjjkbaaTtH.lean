/- Ahead of the workers: the law counts for itself: the inner loop. -/
import Derived.Test.YteffdcpepjjkbaaTtG
namespace Go.Proofs.Yteffdcpepjjkbaa.Team
open Go.Conc Go.ConcN Go.RowKit Go.Conc.Lib Go.ConcR.Gen Go.ConcN.Gen
open Go.ConcR (KK wgBlock WgAt stA smA rd wr mk Payload Aside2 DC0 ofEvent_cell)
set_option linter.unusedVariables false

noncomputable def L8 : Code := match body4 with | .seq _ (.seq _ (.seq _ (.seq _ (.seq _ (.seq _ (.seq (.seq _ (.block _ (.loop c))) _)))))) => c | _ => .skip
noncomputable def R8 : Code := match body4 with | .seq _ (.seq _ (.seq _ (.seq _ (.seq _ (.seq _ (.seq _ r)))))) => r | _ => .skip
noncomputable def R19 : Code := match L8 with | .seq _ (.seq _ (.seq _ r)) => r | _ => .skip
noncomputable def LI : Code := match L8 with | .seq _ (.seq _ (.seq (.block _ (.seq _ (.seq _ (.seq _ (.block _ (.loop c)))))) _)) => c | _ => .skip

/-- One index counted. -/
def bump (b : Bool) (bf : Nat → Int) (x : Int) : Nat → Int := if b = true ∧ 0 ≤ x ∧ x < 8 then put bf x.toNat (Cfg.wrapU (bf x.toNat + 1)) else bf
def tally (b : Bool) : List Int → (Nat → Int) → (Nat → Int)
  | [], bf => bf
  | x :: xs, bf => tally b xs (bump b bf x)

/-- What is known while the law counts. -/
structure PK (N : Nat) (W : World) (c bf : Nat → Int) (w : World) : Prop where
  below : Below N W w
  size : w.heap.size = N + 3
  cnt : w.heap[N + 1]? = some (.cells (vec c) 34)
  bef : w.heap[N + 2]? = some (.cells (vec bf) 35)
theorem PK.set {N : Nat} {W w : World} {c bf : Nat → Int} (h : PK N W c bf w) {i : Nat} (hi : i < 8) (v : Int) : PK N W c (put bf i v) (w.setCell ⟨N + 2, i, none⟩ (.int .u64 v)) := by
  have hA := aside_setCell w ⟨N + 2, i, none⟩ (.int .u64 v)
  exact ⟨h.below.setCell (by simp) _, by rw [hA.size]; exact h.size, (hA.block _ (by simp)).trans h.cnt, set_vec h.bef hi v⟩
theorem PK.cell {N : Nat} {W w : World} {c bf : Nat → Int} (h : PK N W c bf w) {i : Nat} (hi : i < 8) : w.cell? ⟨N + 2, i, none⟩ = some (.int .u64 (bf i)) ∧ w.frozen? ⟨N + 2, i, none⟩ = false := ⟨vec_cell h.bef hi, by simp [World.frozen?, h.bef]⟩

/-- An operation that looks at memory. -/
macro "d_opw " rl:term:max hF:ident "[" fs:term,* "]" ev:term:max : tactic => do
  let mut acc ← `(tactic|
    (go_simp
     refine hK _ _ ⟨fun e he => ?_, ?_⟩
     · have hm := mem_listed he
       simp [go_sem, storedEv, *] at hm
       try (subst hm; exact $ev)
     clear hK K))
  for f in fs.getElems.reverse do
    acc ← `(tactic| (have := $f; $acc:tactic))
  `(tactic| (u_in $rl $hF; refine goes_oper_k rfl rfl (by k_ne) (fun K hK => ?_); $acc:tactic))

section
variable (N n : Nat) (la : Option Addr) (lcap : Nat)
/-- At the head of the outer loop. -/
def AnchO (k : Nat) (g : Goroutine) : Prop :=
  ∃ T : Array Value, g = G ((base 4).at ⟨T, []⟩ [.code L8, .inLoop L8, .inBlock 0, .code R8]) [] ∧ T.size = 77 ∧ T[0]? = some (.slice la n lcap) ∧ T[5]? = some (.pointer (some ⟨N + 1, 0, none⟩)) ∧ T[6]? = some (.pointer (some ⟨N + 2, 0, none⟩)) ∧
    T[27]? = some (.int .i64 n) ∧ T[28]? = some (.int .i64 k)
/-- At the head of the inner loop. -/
def AnchI (len k i : Nat) (g : Goroutine) : Prop :=
  ∃ T : Array Value, g = G ((base 4).at ⟨T, []⟩ [.code LI, .inLoop LI, .inBlock 2, .inBlock 1, .code R19, .inLoop L8, .inBlock 0, .code R8]) [] ∧ T.size = 77 ∧ T[0]? = some (.slice la n lcap) ∧ T[5]? = some (.pointer (some ⟨N + 1, 0, none⟩)) ∧ T[6]? = some (.pointer (some ⟨N + 2, 0, none⟩)) ∧
    T[7]? = some (.int .i64 k) ∧ T[27]? = some (.int .i64 n) ∧ T[28]? = some (.int .i64 k) ∧ T[41]? = some (.int .i64 len) ∧ T[42]? = some (.int .i64 i)
end

section
variable {N n : Nat} {W : World} {L : Nat → Lst} {la : Option Addr} {lcap : Nat} {c : Nat → Int} {E : Event → Prop} {Stop : Goroutine → World → Prop} {k f₁ : Nat} {Q : (Nat → Int) → Prop}
set_option maxRecDepth 100000 in
set_option maxHeartbeats 16000000 in
theorem inner (hE : EvO N E) (hI : Inp N W la n L) (hn : n ≤ 80) (hk : k < n) (hlen : (L k).len ≤ 300)
    (h₁ : ∀ (bf : Nat → Int) (g : Goroutine) (w : World), AnchO N n la lcap (k + 1) g → PK N W c bf w → Q bf → G0 E Stop f₁ g w) : ∀ (r i : Nat), i + r = (L k).len →
    ∃ f, ∀ (bf : Nat → Int) (g : Goroutine) (w : World), AnchI N n la lcap (L k).len k i g → PK N W c bf w → Q (tally (decide (n ≤ 64)) ((L k).xs.drop i) bf) → G0 E Stop f g w := by
  have hkk : IntKind.i64.wrap ((k : Int) + 1) = ((k + 1 : Nat) : Int) := by rw [IntKind.wrap_i64]; omega
  obtain ⟨ad, rfl⟩ := hI.nil (by omega)
  have hrow : ∀ bf w, PK N W c bf w → w.cell? (ad.add k) = some (.slice (L k).a (L k).len (L k).cap) := fun bf w h => by
    obtain ⟨h1, h2⟩ := hI.row k ad hk rfl
    rw [World.cell?_of_block (h.below.block (ad.add k).block (by rw [add_block]; exact h1))]
    exact h2
  have hbl := (hI.row k ad hk rfl).1
  have hlxs := hI.len k hk
  intro r
  induction r with
  | zero =>
    intro i hi
    obtain rfl : i = (L k).len := by omega
    refine ⟨f₁ + 40, ?_⟩
    rintro bf g w ⟨T, rfl, hT, t0, t5, t6, t7, t27, t28, t41, t42⟩ hF htgt
    obtain ⟨v0, v1, v2, v3, v4, v5, v6, v7, v8, v9, v10, v11, v12, v13, v14, v15, v16, v17, v18, v19, v20, v21, v22, v23, v24, v25, v26, v27, v28, v29, v30, v31, v32, v33, v34, v35, v36, v37, v38, v39, v40, v41, v42, v43, v44, v45, v46, v47, v48, v49, v50, v51, v52, v53, v54, v55, v56, v57, v58, v59, v60, v61, v62, v63, v64, v65, v66, v67, v68, v69, v70, v71, v72, v73, v74, v75, v76, rfl⟩ := array77 T hT
    simp only [List.getElem?_toArray, List.getElem?_cons_succ, List.getElem?_cons_zero, Option.some.injEq] at t0 t5 t6 t7 t27 t28 t41 t42
    subst t0 t5 t6 t7 t27 t28 t41 t42
    clear hT
    have hd : (L k).xs.drop (L k).len = [] := by rw [hlxs]; simp
    rw [hd] at htgt
    replace htgt : Q bf := htgt
    clear hd hlxs
    have hnl : ¬ (((L k).len : Int) < ((L k).len : Int)) := by omega
    simp only [LI, R19, L8, R8, body4, Try.f4, Option.getD_some]
    repeat w_nl (eqr (F := PK N W c bf))
    u_c stepG_inLoop (eqr (F := PK N W c bf)) hF
    exact goes_upto (h₁ _ _ _ ⟨_, rfl, by simp, by simp, by simp, by simp, by simp, by simp⟩ hF htgt) (by omega)
  | succ r ih =>
    intro i hi
    have hil : i < (L k).len := by omega
    obtain ⟨ad2, ha2⟩ := hI.nilk k hk (by omega)
    obtain ⟨f₂, h₂⟩ := ih (i + 1) (by omega)
    clear ih h₁
    refine ⟨f₂ + 80, ?_⟩
    rintro bf g w ⟨T, rfl, hT, t0, t5, t6, t7, t27, t28, t41, t42⟩ hF htgt
    obtain ⟨v0, v1, v2, v3, v4, v5, v6, v7, v8, v9, v10, v11, v12, v13, v14, v15, v16, v17, v18, v19, v20, v21, v22, v23, v24, v25, v26, v27, v28, v29, v30, v31, v32, v33, v34, v35, v36, v37, v38, v39, v40, v41, v42, v43, v44, v45, v46, v47, v48, v49, v50, v51, v52, v53, v54, v55, v56, v57, v58, v59, v60, v61, v62, v63, v64, v65, v66, v67, v68, v69, v70, v71, v72, v73, v74, v75, v76, rfl⟩ := array77 T hT
    simp only [List.getElem?_toArray, List.getElem?_cons_succ, List.getElem?_cons_zero, Option.some.injEq] at t0 t5 t6 t7 t27 t28 t41 t42
    subst t0 t5 t6 t7 t27 t28 t41 t42
    clear hT
    obtain ⟨x, hx⟩ : ∃ x, x = (L k).xs.getD i 0 := ⟨_, rfl⟩
    have hd : (L k).xs.drop i = x :: (L k).xs.drop (i + 1) := by
      rw [List.drop_eq_getElem_cons (by omega), hx]
      simp [List.getD_eq_getElem?_getD, List.getElem?_eq_getElem (show i < (L k).xs.length by omega)]
    rw [hd, tally] at htgt
    have hel : ∀ w, PK N W c bf w → w.cell? (ad2.add i) = some (.int .i64 x) := fun w h => by
      obtain ⟨h1, h2⟩ := hI.el k i ad2 hk hil ha2
      rw [World.cell?_of_block (h.below.block (ad2.add i).block (by rw [add_block]; exact h1)), hx]
      exact h2
    have hbl2 := (hI.el k i ad2 hk hil ha2).1
    clear hx hd hlxs
    have hlt : (i : Int) < ((L k).len : Int) := by omega
    have hi0 : (0 : Int) ≤ (i : Int) := by omega
    have hkn : (k : Int) < (n : Int) := by omega
    have hk0 : (0 : Int) ≤ (k : Int) := by omega
    have hwr : IntKind.i64.wrap ((i : Int) + 1) = ((i + 1 : Nat) : Int) := by rw [IntKind.wrap_i64]; omega
    simp only [LI, R19, L8, R8, body4, Try.f4, Option.getD_some]
    repeat w_nl (eqr (F := PK N W c bf))
    d_opw (eqr (F := PK N W c bf)) hF [hrow bf _ hF] (hE.any _ _ _ (by rw [add_block]; omega) (by rw [add_block]; omega))
    repeat w_nl (eqr (F := PK N W c bf))
    d_opw (eqr (F := PK N W c bf)) hF [hel _ hF] (hE.any _ _ _ (by rw [add_block]; omega) (by rw [add_block]; omega))
    w_nl (eqr (F := PK N W c bf))
    w_nl (eqr (F := PK N W c bf))
    by_cases hx0 : 0 ≤ x
    · by_cases hx8 : x < 8
      · by_cases hn64 : n ≤ 64
        · have hv : bump (decide (n ≤ 64)) bf x = put bf x.toNat (Cfg.wrapU (bf x.toNat + 1)) := by rw [bump, if_pos ⟨by simpa using hn64, hx0, hx8⟩]
          rw [hv] at htgt
          clear hv
          have hn64' : (n : Int) ≤ 64 := by omega
          have hxt : x.toNat < 8 := by omega
          have hix := fun w es => events_indexAt_array (P := Try.prog) (w := w) (es := es) 35 29 8 ⟨N + 2, 0, none⟩ .i64 x Try.underlying35 ⟨hx0, hx8⟩
          repeat w_nl (eqr (F := PK N W c bf))
          d_opw (eqr (F := PK N W c bf)) hF [(PK.cell hF hxt).1] (hE.any _ _ _ (by simp) (by simp))
          repeat w_nl (eqr (F := PK N W c bf))
          clear hix
          d_opw (eqr (F := PK N W c bf)) hF [(PK.cell hF hxt).1, (PK.cell hF hxt).2] (hE.any _ _ _ (by simp) (by simp))
          replace hF := hF.set hxt (Cfg.wrapU (bf x.toNat + 1))
          repeat w_nl (eqr (F := PK N W c (put bf x.toNat (Cfg.wrapU (bf x.toNat + 1)))))
          u_c stepG_inLoop (eqr (F := PK N W c (put bf x.toNat (Cfg.wrapU (bf x.toNat + 1))))) hF
          exact goes_upto (h₂ _ _ _ ⟨_, rfl, by simp, by simp, by simp, by simp, by simp, by simp, by simp, by simp, by simp⟩ hF htgt) (by omega)
        · have hv : bump (decide (n ≤ 64)) bf x = bf := by rw [bump, if_neg (by simp; omega)]
          have hn64' : ¬ (n : Int) ≤ 64 := by omega
          rw [hv] at htgt
          clear hv
          repeat w_nl (eqr (F := PK N W c bf))
          u_c stepG_inLoop (eqr (F := PK N W c bf)) hF
          exact goes_upto (h₂ _ _ _ ⟨_, rfl, by simp, by simp, by simp, by simp, by simp, by simp, by simp, by simp, by simp⟩ hF htgt) (by omega)
      · have hv : bump (decide (n ≤ 64)) bf x = bf := by rw [bump, if_neg (by omega)]
        rw [hv] at htgt
        clear hv
        repeat w_nl (eqr (F := PK N W c bf))
        u_c stepG_inLoop (eqr (F := PK N W c bf)) hF
        exact goes_upto (h₂ _ _ _ ⟨_, rfl, by simp, by simp, by simp, by simp, by simp, by simp, by simp, by simp, by simp⟩ hF htgt) (by omega)
    · have hv : bump (decide (n ≤ 64)) bf x = bf := by rw [bump, if_neg (by omega)]
      rw [hv] at htgt
      clear hv
      repeat w_nl (eqr (F := PK N W c bf))
      u_c stepG_inLoop (eqr (F := PK N W c bf)) hF
      exact goes_upto (h₂ _ _ _ ⟨_, rfl, by simp, by simp, by simp, by simp, by simp, by simp, by simp, by simp, by simp⟩ hF htgt) (by omega)
end
end Go.Proofs.Yteffdcpepjjkbaa.Team

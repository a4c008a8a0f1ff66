/- Behind the join: the law's tail, to the return. -/
import Derived.Test.YteffdcpepjjkbaaTtD
import Derived.Conc.AppendEvents3
namespace Go.Proofs.Yteffdcpepjjkbaa.Team
open Go.Conc Go.ConcN Go.RowKit Go.Conc.Lib Go.ConcR.Gen Go.ConcN.Gen
open Go.ConcR (KK wgBlock WgAt stA smA rd wr mk Payload Aside2 DC0 ofEvent_cell)
set_option linter.unusedVariables false

theorem array77 (T : Array Value) (h : T.size = 77) : ∃ v0 v1 v2 v3 v4 v5 v6 v7 v8 v9 v10 v11 v12 v13 v14 v15 v16 v17 v18 v19 v20 v21 v22 v23 v24 v25 v26 v27 v28 v29 v30 v31 v32 v33 v34 v35 v36 v37 v38 v39 v40 v41 v42 v43 v44 v45 v46 v47 v48 v49 v50 v51 v52 v53 v54 v55 v56 v57 v58 v59 v60 v61 v62 v63 v64 v65 v66 v67 v68 v69 v70 v71 v72 v73 v74 v75 v76 : Value, T = #[v0, v1, v2, v3, v4, v5, v6, v7, v8, v9, v10, v11, v12, v13, v14, v15, v16, v17, v18, v19, v20, v21, v22, v23, v24, v25, v26, v27, v28, v29, v30, v31, v32, v33, v34, v35, v36, v37, v38, v39, v40, v41, v42, v43, v44, v45, v46, v47, v48, v49, v50, v51, v52, v53, v54, v55, v56, v57, v58, v59, v60, v61, v62, v63, v64, v65, v66, v67, v68, v69, v70, v71, v72, v73, v74, v75, v76] := by
  obtain ⟨l⟩ := T
  match l, h with
  | v0 :: v1 :: v2 :: v3 :: v4 :: v5 :: v6 :: v7 :: v8 :: v9 :: v10 :: v11 :: v12 :: v13 :: v14 :: v15 :: v16 :: v17 :: v18 :: v19 :: v20 :: v21 :: v22 :: v23 :: v24 :: v25 :: v26 :: v27 :: v28 :: v29 :: v30 :: v31 :: v32 :: v33 :: v34 :: v35 :: v36 :: v37 :: v38 :: v39 :: v40 :: v41 :: v42 :: v43 :: v44 :: v45 :: v46 :: v47 :: v48 :: v49 :: v50 :: v51 :: v52 :: v53 :: v54 :: v55 :: v56 :: v57 :: v58 :: v59 :: v60 :: v61 :: v62 :: v63 :: v64 :: v65 :: v66 :: v67 :: v68 :: v69 :: v70 :: v71 :: v72 :: v73 :: v74 :: v75 :: v76 :: [], _ => exact ⟨v0, v1, v2, v3, v4, v5, v6, v7, v8, v9, v10, v11, v12, v13, v14, v15, v16, v17, v18, v19, v20, v21, v22, v23, v24, v25, v26, v27, v28, v29, v30, v31, v32, v33, v34, v35, v36, v37, v38, v39, v40, v41, v42, v43, v44, v45, v46, v47, v48, v49, v50, v51, v52, v53, v54, v55, v56, v57, v58, v59, v60, v61, v62, v63, v64, v65, v66, v67, v68, v69, v70, v71, v72, v73, v74, v75, v76, rfl⟩

theorem load8_run {w : World} {b : Nat} {c : Nat → Int} (h : w.heap[b]? = some (.cells (vec c) 35)) : (Instr.loadAt 35 (.pointer (some ⟨b, 0, none⟩))).run Try.prog w = .ok (.agg (vec c)) w := by
  have h0 := vec_cell h (show 0 < 8 by omega)
  have h1 := vec_cell h (show 1 < 8 by omega)
  have h2 := vec_cell h (show 2 < 8 by omega)
  have h3 := vec_cell h (show 3 < 8 by omega)
  have h4 := vec_cell h (show 4 < 8 by omega)
  have h5 := vec_cell h (show 5 < 8 by omega)
  have h6 := vec_cell h (show 6 < 8 by omega)
  have h7 := vec_cell h (show 7 < 8 by omega)
  go_simp
  simp [vec]
theorem load8_ev {w : World} {b : Nat} {c : Nat → Int} (h : w.heap[b]? = some (.cells (vec c) 35)) : ∀ e ∈ (Instr.loadAt 35 (.pointer (some ⟨b, 0, none⟩))).events Try.prog w #[], ∃ ad, e.loc = .cell ad ∧ e.write = false ∧ ad.block = b := by
  intro e he
  have hl : (Instr.loadAt 35 (.pointer (some ⟨b, 0, none⟩))).events Try.prog w #[] = (loadCellsFrom ⟨b, 0, none⟩ 0 8 #[]).events Try.prog w #[] := by
    simp only [Instr.loadAt, Instr.sureAddr, loadVar, loadCells]
    simp [go_sem, Sem.events_bind]
  rw [hl] at he
  have hc : ∀ j, j < 8 → (w.cell? ((⟨b, 0, none⟩ : Addr).add (0 + j))).isSome := fun j hj => by
    have e1 : (⟨b, 0, none⟩ : Addr).add (0 + j) = ⟨b, j, none⟩ := by simp [Addr.add]; intro h0; exact h0.symm
    rw [e1, vec_cell h hj]
    rfl
  rcases events_loadCellsFrom_at ⟨b, 0, none⟩ (· = b) rfl 8 0 #[] w #[] hc e he with h1 | ⟨ad, h1, h2, h3⟩
  · simp at h1
  · exact ⟨ad, h1, h2, h3⟩
/-- The load of eight numbers, as one step. -/
theorem goes_load8 {main : Bool} {b : Frame} {a : Act} {k : List Item} {cs : List Frame} {w : World} {ops : Array Oper} {i : Nat} {rest : List Nat} {o : Oper} {x : Operand} {bl : Nat} {c : Nat → Int} {K : Goroutine → World → Array Event → Prop}
    (ho : ops[i]? = some o) (hw : Region.wanted o (yielded ops a.tmps) = true) (hk : b.kind ≠ .early) (hop : o.op = .load 35 x) (hx : a.eval x = .pointer (some ⟨bl, 0, none⟩)) (h : w.heap[bl]? = some (.cells (vec c) 35))
    (hK : ∀ es, (∀ e ∈ es, ∃ ad, e.loc = .cell ad ∧ e.write = false ∧ ad.block = bl) → K (G (b.at (a.put o.dst (.agg (vec c))) (.inRegion ops rest :: k)) cs) w es) :
    (stepG Try.prog main (G (b.at a (.inRegion ops (i :: rest) :: k)) cs) w).goes K := by
  have hr : (execOp a.eval o).run Try.prog w = .ok (.value (.agg (vec c))) w := by
    have h1 := load8_run h
    unfold execOp
    simp only [hop, hx]
    simp [h1]
  have he : ∀ e ∈ listed Try.prog b.fn a o w, ∃ ad, e.loc = .cell ad ∧ e.write = false ∧ ad.block = bl := fun e he => by
    have hm := mem_listed he
    have h1 := load8_ev h
    unfold execOp at hm
    simp only [hop, hx] at hm
    simp only [Sem.events_bind, load8_run h, Result.evThen_ok, Sem.events_pure] at hm
    exact h1 e hm
  rw [stepG_value ho hw hk hr]
  exact hK _ he

def Post (N : Nat) (W : World) (v : Value) (w : World) : Prop := v = .bool true ∧ Below N W w
/-- THE RETURN. -/
def AtRetE (E : Event → Prop) (Post : Value → World → Prop) (g : Goroutine) (w : World) : Prop :=
  g.status = .running ∧ ∃ v es, stepG Try.prog true g w = .ended (.done v) w es ∧ (∀ e ∈ es, E e) ∧ Post v w

section
variable {N hi : Nat} {W : World} {c : Nat → Int} {E : Event → Prop}
set_option maxRecDepth 100000 in
set_option maxHeartbeats 16000000 in
theorem tail4 (hE : EvOk N hi E) (T : Array Value) (hT : T.size = 77) (t5 : T[5]? = some (.pointer (some ⟨N + 1, 0, none⟩))) (t6 : T[6]? = some (.pointer (some ⟨N + 2, 0, none⟩))) (w : World) (hF : FK N hi W c w) :
    GF E (AtRetE E (Post N W)) 2100 (G ((base 4).at ⟨T, []⟩ [.inRegion ops20 [], .code R21]) []) w := by
  obtain ⟨v0, v1, v2, v3, v4, v5, v6, v7, v8, v9, v10, v11, v12, v13, v14, v15, v16, v17, v18, v19, v20, v21, v22, v23, v24, v25, v26, v27, v28, v29, v30, v31, v32, v33, v34, v35, v36, v37, v38, v39, v40, v41, v42, v43, v44, v45, v46, v47, v48, v49, v50, v51, v52, v53, v54, v55, v56, v57, v58, v59, v60, v61, v62, v63, v64, v65, v66, v67, v68, v69, v70, v71, v72, v73, v74, v75, v76, rfl⟩ := array77 T hT
  simp only [List.getElem?_toArray, List.getElem?_cons_succ, List.getElem?_cons_zero, Option.some.injEq] at t5 t6
  subst t5 t6
  clear hT
  have hO : ∀ t, Region.schedule (Try.prog.follows .mixedOrders) ops21 t ∈ [[0, 1, 2, 3, 4], [0, 2, 1, 3, 4], [2, 0, 1, 3, 4]] := fun t => by
    have h := orders_mem ops21 5 t (Array.replicate 5 false) []
    rw [orders21] at h
    have hm : Try.prog.follows .mixedOrders = true := by kernel_rfl
    rw [hm]
    exact h
  have hAll := fun (b₀ : Frame) (a₀ : Act) (ops₀ : Array Oper) (i₀ : Nat) (rest₀ : List Nat) (k₀ : List Item) (cs : List Frame) (mT : Nat) hT w hw => allRun (E := E) (Stop := AtRetE E (Post N W)) (W := W) (c := c) (b₀ := b₀) (a₀ := a₀) (ops₀ := ops₀) (i₀ := i₀) (rest₀ := rest₀) (k₀ := k₀) (cs := cs) (mT := mT) hE hT w hw
  have hSame := fun (b₀ : Frame) (a₀ : Act) (ops₀ : Array Oper) (i₀ : Nat) (rest₀ : List Nat) (k₀ : List Item) (cs : List Frame) (mT : Nat) hT S w hw => sameRun (E := E) (Stop := AtRetE E (Post N W)) (W := W) (c := c) (b₀ := b₀) (a₀ := a₀) (ops₀ := ops₀) (i₀ := i₀) (rest₀ := rest₀) (k₀ := k₀) (cs := cs) (mT := mT) hE hT S w hw
  simp only [ops21, R21, ops20, R20, body4, body12, body11, Try.f4, Try.f12, Try.f11, Option.getD_some] at hO hAll hSame ⊢
  repeat w_go FK.rely
  u_in FK.rely hF
  rw [stepG_region_draw]
  simp only [goes_go]
  refine ⟨fun e he => by simp at he, ?_⟩
  replace hF := FK.rely hF (RF.drew _)
  generalize hsc : Region.schedule _ _ _ = sc
  have hm : sc ∈ [[0, 1, 2, 3, 4], [0, 2, 1, 3, 4], [2, 0, 1, 3, 4]] := by rw [← hsc]; exact hO _
  clear hsc hO
  simp only [List.mem_cons, List.not_mem_nil, or_false] at hm
  rcases hm with rfl | rfl | rfl
  · w_go FK.rely
    u_in FK.rely hF
    refine goes_call rfl rfl (by k_ne) rfl Try.func12 nm12 rfl ⟨by u_nil, ?_⟩
    walk_nrmf Try.f12
    refine goes_upto (hAll _ _ _ _ _ _ _ 800 ?_ _ hF) (by omega)
    clear hF
    intro S w' hF
    walk_nrm
    u_in FA.rely hF
    refine goes_load8 rfl rfl (by k_ne) rfl rfl (FA.k hF).bef (fun es hes => ⟨fun e he => ?_, ?_⟩)
    · obtain ⟨ad, h1, h2, h3⟩ := hes e he
      obtain ⟨l, wr', sy⟩ := e
      simp only at h1 h2
      subst h1 h2
      exact hE.rd _ _ (.inl h3)
    walk_nrm
    u_in FA.rely hF
    refine goes_call rfl rfl (by k_ne) rfl Try.func11 nm11 rfl ⟨by u_nil, ?_⟩
    walk_nrmf Try.f11
    refine goes_upto (hSame _ _ _ _ _ _ _ 20 ?_ _ _ hF) (by omega)
    clear hF
    intro w' hF
    walk_nrm
    w_go FK.rely
    repeat w_go FK.rely
    refine Goes.stop (fun w₂ r₂ => ⟨rfl, .bool true, #[], ?_, by simp, rfl, (FK.rely hF r₂).below⟩)
    simp [G, stepG, unwind, doReturn, results, Frame.at, base, Try.func4, Try.f4, seen, GStep.after]
  · w_go FK.rely
    u_in FK.rely hF
    refine goes_load8 rfl rfl (by k_ne) rfl rfl (FK.bef hF) (fun es hes => ⟨fun e he => ?_, ?_⟩)
    · obtain ⟨ad, h1, h2, h3⟩ := hes e he
      obtain ⟨l, wr', sy⟩ := e
      simp only at h1 h2
      subst h1 h2
      exact hE.rd _ _ (.inl h3)
    walk_nrm
    u_in FK.rely hF
    refine goes_call rfl rfl (by k_ne) rfl Try.func12 nm12 rfl ⟨by u_nil, ?_⟩
    walk_nrmf Try.f12
    refine goes_upto (hAll _ _ _ _ _ _ _ 800 ?_ _ hF) (by omega)
    clear hF
    intro S w' hF
    walk_nrm
    u_in FA.rely hF
    refine goes_call rfl rfl (by k_ne) rfl Try.func11 nm11 rfl ⟨by u_nil, ?_⟩
    walk_nrmf Try.f11
    refine goes_upto (hSame _ _ _ _ _ _ _ 20 ?_ _ _ hF) (by omega)
    clear hF
    intro w' hF
    walk_nrm
    w_go FK.rely
    repeat w_go FK.rely
    refine Goes.stop (fun w₂ r₂ => ⟨rfl, .bool true, #[], ?_, by simp, rfl, (FK.rely hF r₂).below⟩)
    simp [G, stepG, unwind, doReturn, results, Frame.at, base, Try.func4, Try.f4, seen, GStep.after]
  · u_in FK.rely hF
    refine goes_load8 rfl rfl (by k_ne) rfl rfl (FK.bef hF) (fun es hes => ⟨fun e he => ?_, ?_⟩)
    · obtain ⟨ad, h1, h2, h3⟩ := hes e he
      obtain ⟨l, wr', sy⟩ := e
      simp only at h1 h2
      subst h1 h2
      exact hE.rd _ _ (.inl h3)
    walk_nrm
    w_go FK.rely
    u_in FK.rely hF
    refine goes_call rfl rfl (by k_ne) rfl Try.func12 nm12 rfl ⟨by u_nil, ?_⟩
    walk_nrmf Try.f12
    refine goes_upto (hAll _ _ _ _ _ _ _ 800 ?_ _ hF) (by omega)
    clear hF
    intro S w' hF
    walk_nrm
    u_in FA.rely hF
    refine goes_call rfl rfl (by k_ne) rfl Try.func11 nm11 rfl ⟨by u_nil, ?_⟩
    walk_nrmf Try.f11
    refine goes_upto (hSame _ _ _ _ _ _ _ 20 ?_ _ _ hF) (by omega)
    clear hF
    intro w' hF
    walk_nrm
    w_go FK.rely
    repeat w_go FK.rely
    refine Goes.stop (fun w₂ r₂ => ⟨rfl, .bool true, #[], ?_, by simp, rfl, (FK.rely hF r₂).below⟩)
    simp [G, stepG, unwind, doReturn, results, Frame.at, base, Try.func4, Try.f4, seen, GStep.after]
end
end Go.Proofs.Yteffdcpepjjkbaa.Team

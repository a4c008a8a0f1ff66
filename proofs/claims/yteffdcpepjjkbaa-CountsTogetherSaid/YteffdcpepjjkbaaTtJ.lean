/- Ahead of the workers: from the law's count to the early return, to the tail where there are too many lists, to the loop that starts the workers. -/
import Derived.Test.YteffdcpepjjkbaaTtI
namespace Go.Proofs.Yteffdcpepjjkbaa.Team
open Go.Conc Go.ConcN Go.RowKit Go.Conc.Lib Go.ConcR.Gen Go.ConcN.Gen
open Go.ConcR (KK wgBlock WgAt stA smA rd wr mk Payload Aside2 DC0 ofEvent_cell)
set_option linter.unusedVariables false

theorem nm13 : (Try.f13.name == "runtime.NumGoroutine") = false := by kernel_rfl

section
variable {T : Cfg} {A A' Nx Nx' : Goroutine → World → Prop} {j : Nat} {g : Goroutine} {w : World}
theorem go_monoS (h : ∀ g w, Nx g w → Nx' g w) (x : AtGo T j Nx g w) : AtGo T j Nx' g w :=
  ⟨x.1, let ⟨g', ch, e, s, sc, n⟩ := x.2; ⟨g', ch, e, s, sc, h _ _ n⟩⟩
theorem keS_mono (h : ∀ g w, Nx g w → Nx' g w) (x : AtKeS T j Nx g w) : AtKeS T j Nx' g w :=
  ⟨x.1, let ⟨g', e, m, hm⟩ := x.2; ⟨g', e, m, goes_mono (fun _ _ y => go_monoS h y) hm⟩⟩
theorem a1_mono (h : ∀ g w, Nx g w → Nx' g w) (x : AtA1 T j Nx g w) : AtA1 T j Nx' g w :=
  ⟨x.1, fun v hv hw => let ⟨g', e, m, hm⟩ := x.2 v hv hw; ⟨g', e, m, goes_mono (fun _ _ y => keS_mono h y) hm⟩⟩
theorem kdS_mono (h : ∀ g w, Nx g w → Nx' g w) (x : AtKdS T j Nx g w) : AtKdS T j Nx' g w :=
  ⟨x.1, let ⟨g', e, m, hm⟩ := x.2; ⟨g', e, m, goes_mono (fun _ _ y => a1_mono h y) hm⟩⟩
theorem fin_mono (h : ∀ g w, A g w → A' g w) (x : Fin T A g w) : Fin T A' g w := let ⟨m, hm⟩ := x; ⟨m, goes_mono (fun _ _ y => kd_mono h y) hm⟩
theorem spawns_mono (h : ∀ g w, A g w → A' g w) : ∀ (r : Nat) (g : Goroutine) (w : World), Spawns T (Fin T A) r g w → Spawns T (Fin T A') r g w
  | 0, _, _, x => fin_mono h x
  | r + 1, _, _, x => let ⟨m, hm⟩ := x; ⟨m, goes_mono (fun _ _ y => kdS_mono (spawns_mono h r) y) hm⟩
end

/-- The law's frame under Together's. -/
noncomputable def fr4 (T : Array Value) : Frame := (base 4).at ⟨T, []⟩ [.inRegion ops20 [2], .code R21]
/-- The anchor in Wait. -/
def AnchW4 (N n : Nat) (W : World) (L : Nat → Lst) (c0 bf : Nat → Int) (g : Goroutine) (w : World) : Prop :=
  ∃ T : Array Value, T.size = 77 ∧ T[5]? = some (.pointer (some ⟨N + 1, 0, none⟩)) ∧ T[6]? = some (.pointer (some ⟨N + 2, 0, none⟩)) ∧ AnW N n W L c0 bf (fr4 T) g w

/-- What is known in Together, its variable being made. -/
structure TK (N : Nat) (W : World) (c bf : Nat → Int) (w : World) : Prop where
  below : Below N W w
  size : w.heap.size = N + 4
  cnt : w.heap[N + 1]? = some (.cells (vec c) 34)
  bef : w.heap[N + 2]? = some (.cells (vec bf) 35)
  box : w.heap[N + 3]? = some (.cells #[.pointer (some ⟨N + 1, 0, none⟩)] 24)
theorem PK.box {N : Nat} {W w : World} {c bf : Nat → Int} (h : PK N W c bf w) : TK N W c bf (w.alloc (.cells #[.pointer (some ⟨N + 1, 0, none⟩)] 24)) := by
  have hs := h.size
  exact ⟨h.below.alloc (by omega) _, by simp [hs], (Below.heap_alloc _ _ _ (by omega)).trans h.cnt, (Below.heap_alloc _ _ _ (by omega)).trans h.bef, new_at hs _⟩
theorem TK.group {N n : Nat} {W w : World} {c bf c0 : Nat → Int} {L : Nat → Lst} (h : TK N W c bf w) :
    SI N n W L c0 bf 0 0 none none none (w.alloc (.cells #[.int .u64 0, .int .u32 0] 57)) ∧ WgAt 57 (N + 4) (w.alloc (.cells #[.int .u64 0, .int .u32 0] 57)) 0 0 ∧ (w.alloc (.cells #[.int .u64 0, .int .u32 0] 57)).heap[N + 1]? = some (.cells (vec c) 34) := by
  have hs := h.size
  have hw : WgAt 57 (N + 4) (w.alloc (.cells #[.int .u64 0, .int .u32 0] 57)) 0 0 := new_at hs _
  have hc : (w.alloc (.cells #[.int .u64 0, .int .u32 0] 57)).heap[N + 1]? = some (.cells (vec c) 34) := (Below.heap_alloc _ _ _ (by omega)).trans h.cnt
  exact ⟨⟨h.below.alloc (by omega) _, by simp [hs], (Below.heap_alloc _ _ _ (by omega)).trans h.box, (Below.heap_alloc _ _ _ (by omega)).trans h.bef, ⟨_, _, hw⟩, ⟨c, hc⟩, fun _ e => (by cases e), fun _ e => (by cases e), fun _ e => (by cases e)⟩, hw, hc⟩

section
variable {N n k : Nat} {W : World} {L : Nat → Lst} {la : Option Addr} {lcap : Nat} {c bf : Nat → Int} {E : Event → Prop}
set_option maxRecDepth 100000 in
set_option maxHeartbeats 16000000 in
/-- A list that is too long: the law says true. -/
theorem long (hE : EvO N E) (hI : Inp N W la n L) (hn : n ≤ 80) (hk : k < n) (hl : 300 < (L k).len) (g : Goroutine) (w : World) (hA : AnchO N n la lcap k g) (hF : PK N W c bf w) : G0 E (AtRetE E (Post N W)) 60 g w := by
  obtain ⟨T, rfl, hT, t0, t5, t6, t27, t28⟩ := hA
  obtain ⟨ad, rfl⟩ := hI.nil (by omega)
  obtain ⟨v0, v1, v2, v3, v4, v5, v6, v7, v8, v9, v10, v11, v12, v13, v14, v15, v16, v17, v18, v19, v20, v21, v22, v23, v24, v25, v26, v27, v28, v29, v30, v31, v32, v33, v34, v35, v36, v37, v38, v39, v40, v41, v42, v43, v44, v45, v46, v47, v48, v49, v50, v51, v52, v53, v54, v55, v56, v57, v58, v59, v60, v61, v62, v63, v64, v65, v66, v67, v68, v69, v70, v71, v72, v73, v74, v75, v76, rfl⟩ := array77 T hT
  simp only [List.getElem?_toArray, List.getElem?_cons_succ, List.getElem?_cons_zero, Option.some.injEq] at t0 t5 t6 t27 t28
  subst t0 t5 t6 t27 t28
  clear hT
  have hrow : ∀ w, PK N W c bf w → w.cell? (ad.add k) = some (.slice (L k).a (L k).len (L k).cap) := fun w h => by
    obtain ⟨h1, h2⟩ := hI.row k ad hk rfl
    rw [World.cell?_of_block (h.below.block (ad.add k).block (by rw [add_block]; exact h1))]
    exact h2
  have hbl := (hI.row k ad hk rfl).1
  have hkn : (k : Int) < (n : Int) := by omega
  have hk0 : (0 : Int) ≤ (k : Int) := by omega
  have hl' : (300 : Int) < ((L k).len : Int) := by omega
  simp only [L8, R8, body4, Try.f4, Option.getD_some]
  repeat w_bar (eqr (F := PK N W c bf))
  d_opw (eqr (F := PK N W c bf)) hF [hrow _ hF] (hE.any _ _ _ (by rw [add_block]; omega) (by rw [add_block]; omega))
  repeat w_bar (eqr (F := PK N W c bf))
  refine Goes.stop (fun w₂ r₂ => ⟨rfl, .bool true, #[], ?_, by simp, rfl, (eqr (F := PK N W c bf) hF r₂).below⟩)
  simp [G, stepG, unwind, doReturn, results, Frame.at, base, Try.func4, Try.f4, seen, GStep.after]

set_option maxRecDepth 100000 in
set_option maxHeartbeats 16000000 in
/-- Too many lists for Together. -/
theorem many (hE : EvO N E) (hE2 : EvOk N (N + 4) E) (h64 : 64 < n) (hn : n ≤ 80) (hb : vec bf = vec c) (g : Goroutine) (w : World) (hA : AnchO N n la lcap n g) (hF : PK N W c bf w) : G0 E (AtRetE E (Post N W)) 2200 g w := by
  obtain ⟨T, rfl, hT, t0, t5, t6, t27, t28⟩ := hA
  obtain ⟨v0, v1, v2, v3, v4, v5, v6, v7, v8, v9, v10, v11, v12, v13, v14, v15, v16, v17, v18, v19, v20, v21, v22, v23, v24, v25, v26, v27, v28, v29, v30, v31, v32, v33, v34, v35, v36, v37, v38, v39, v40, v41, v42, v43, v44, v45, v46, v47, v48, v49, v50, v51, v52, v53, v54, v55, v56, v57, v58, v59, v60, v61, v62, v63, v64, v65, v66, v67, v68, v69, v70, v71, v72, v73, v74, v75, v76, rfl⟩ := array77 T hT
  simp only [List.getElem?_toArray, List.getElem?_cons_succ, List.getElem?_cons_zero, Option.some.injEq] at t0 t5 t6 t27 t28
  subst t0 t5 t6 t27 t28
  clear hT
  have h64' : (64 : Int) < (n : Int) := by omega
  have hnl : ¬ ((n : Int) < (n : Int)) := by omega
  have hT4 := fun T hT t5 t6 w hw => tail4 (N := N) (hi := N + 4) (W := W) (c := c) (E := E) hE2 T hT t5 t6 w hw
  simp only [L8, R8, R21, ops20, R20, body4, Try.f4, Option.getD_some] at hT4 ⊢
  repeat w_bar (eqr (F := PK N W c bf))
  u_call Try.func13 nm13 Try.f13 (eqr (F := PK N W c bf)) hF
  repeat w_bar (eqr (F := PK N W c bf))
  -- Together's variable c
  u_in (eqr (F := PK N W c bf)) hF
  refine goes_oper_k rfl rfl (by k_ne) (fun K hK => ?_)
  have hsz := hF.size
  go_simp
  refine hK _ _ ⟨fun e he => ?_, ?_⟩
  · have hm := mem_listed he
    simp [go_sem] at hm
  clear hK K hsz
  replace hF := hF.box
  repeat w_bar (eqr (F := TK N W c bf))
  d_opw (eqr (F := TK N W c bf)) hF [(cell_of_one hF.box).1] (hE.any _ _ _ (by simp) (by simp))
  n_nil (eqr (F := TK N W c bf)) hF
  repeat w_bar (eqr (F := TK N W c bf))
  u_leave0 Try.func13 (eqr (F := TK N W c bf)) hF
  have hK : FK N (N + 4) W c _ := ⟨hF.below, by omega, by rw [hF.size]; exact Nat.le_refl _, hF.cnt, by rw [← hb]; exact hF.bef⟩
  exact goes_upto (k := 2100) (Goes.imp (fun a b e => by subst e; exact Cfg.RF.refl a) (fun _ _ _ h => h) (fun _ _ h => h) (hT4 _ (by simp) (by simp) (by simp) _ hK)) (by omega)

set_option maxRecDepth 100000 in
set_option maxHeartbeats 16000000 in
/-- Into the loop that starts the workers. -/
theorem begin (hE : EvO N E) {c0 : Nat → Int} (hI : Inp N W la n L) (h64 : n ≤ 64) (hc : vec c = vec fun x => Cfg.wrapU (c0 x)) : ∃ f, ∀ (g : Goroutine) (w : World), AnchO N n la lcap n g → PK N W c bf w →
    G0 E (fun a' w' => Spawns (cfg (N + 1) (N + 3) n L c0) (Fin (cfg (N + 1) (N + 3) n L c0) (AnchW4 N n W L c0 bf)) n a' w' ∧ WgAt 57 (N + 4) w' 0 0 ∧ (cfg (N + 1) (N + 3) n L c0).Cnt (fun x => Cfg.wrapU (c0 x)) w') f g w := by
  refine ⟨200, ?_⟩
  rintro g w ⟨T, rfl, hT, t0, t5, t6, t27, t28⟩ hF
  obtain ⟨v0, v1, v2, v3, v4, v5, v6, v7, v8, v9, v10, v11, v12, v13, v14, v15, v16, v17, v18, v19, v20, v21, v22, v23, v24, v25, v26, v27, v28, v29, v30, v31, v32, v33, v34, v35, v36, v37, v38, v39, v40, v41, v42, v43, v44, v45, v46, v47, v48, v49, v50, v51, v52, v53, v54, v55, v56, v57, v58, v59, v60, v61, v62, v63, v64, v65, v66, v67, v68, v69, v70, v71, v72, v73, v74, v75, v76, rfl⟩ := array77 T hT
  simp only [List.getElem?_toArray, List.getElem?_cons_succ, List.getElem?_cons_zero, Option.some.injEq] at t0 t5 t6 t27 t28
  subst t0 t5 t6 t27 t28
  clear hT
  have h64' : ¬ (64 : Int) < (n : Int) := by omega
  have hnl : ¬ ((n : Int) < (n : Int)) := by omega
  have hS := fun (T4 : Array Value) => spawnsFrom (N := N) (n := n) (W := W) (L := L) (c0 := c0) (bf := bf) (c4 := fr4 T4) (la := la) (lcap := lcap) hI h64 n 0 (by omega)
  simp only [AnchS, L13, R13, body13, Try.f13, Option.getD_some] at hS
  simp only [L8, R8, body4, Try.f4, Option.getD_some]
  repeat w_bar (eqr (F := PK N W c bf))
  u_call Try.func13 nm13 Try.f13 (eqr (F := PK N W c bf)) hF
  generalize h4e : (base 4).at _ _ = c4
  have hx : ∃ T4 : Array Value, T4.size = 77 ∧ T4[5]? = some (.pointer (some ⟨N + 1, 0, none⟩)) ∧ T4[6]? = some (.pointer (some ⟨N + 2, 0, none⟩)) ∧ c4 = fr4 T4 := by
    refine ⟨_, ?_, ?_, ?_, h4e.symm⟩
    · simp
    · simp
    · simp
  clear h4e
  obtain ⟨T4, s4, a5, a6, rfl⟩ := hx
  repeat w_bar (eqr (F := PK N W c bf))
  -- Together's variable c
  u_in (eqr (F := PK N W c bf)) hF
  refine goes_oper_k rfl rfl (by k_ne) (fun K hK => ?_)
  have hsz := hF.size
  go_simp
  refine hK _ _ ⟨fun e he => ?_, ?_⟩
  · have hm := mem_listed he
    simp [go_sem] at hm
  clear hK K hsz
  replace hF := hF.box
  repeat w_bar (eqr (F := TK N W c bf))
  d_opw (eqr (F := TK N W c bf)) hF [(cell_of_one hF.box).1] (hE.any _ _ _ (by simp) (by simp))
  n_nil (eqr (F := TK N W c bf)) hF
  repeat w_bar (eqr (F := TK N W c bf))
  -- the group
  u_in (eqr (F := TK N W c bf)) hF
  refine goes_oper_k rfl rfl (by k_ne) (fun K hK => ?_)
  have hsz := hF.size
  go_simp
  refine hK _ _ ⟨fun e he => ?_, ?_⟩
  · have hm := mem_listed he
    simp [go_sem] at hm
  clear hK K hsz
  replace hF := hF.group (n := n) (L := L) (c0 := c0)
  repeat w_bar (eqr (F := fun w => SI N n W L c0 bf 0 0 none none none w ∧ WgAt 57 (N + 4) w 0 0 ∧ w.heap[N + 1]? = some (.cells (vec c) 34)))
  u_c stepG_loop (eqr (F := fun w => SI N n W L c0 bf 0 0 none none none w ∧ WgAt 57 (N + 4) w 0 0 ∧ w.heap[N + 1]? = some (.cells (vec c) 34))) hF
  refine Goes.stop (fun w₁ e => ?_)
  subst e
  obtain ⟨f, hf⟩ := hS T4
  refine ⟨spawns_mono (fun g w h => ⟨T4, s4, a5, a6, h⟩) n _ _ ((spawns_iff N n W L c0 bf (fr4 T4) n _ _).2 ⟨f, ?_⟩), hF.2.1, ?_⟩
  · rw [Nat.sub_self]
    exact hf _ _ ⟨_, rfl, by simp, by simp, by simp, by simp, by simp, by simp⟩ hF.1
  · have := hF.2.2
    rw [hc] at this
    exact this
end
end Go.Proofs.Yteffdcpepjjkbaa.Team

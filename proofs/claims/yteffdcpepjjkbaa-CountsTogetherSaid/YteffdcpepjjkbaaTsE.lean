/- Together's starter: the loop that starts the workers, by induction on how many are still to be started. -/
import Derived.Test.YteffdcpepjjkbaaTsD
namespace Go.Proofs.Yteffdcpepjjkbaa.Team
open Go.Conc Go.ConcN Go.RowKit Go.Conc.Lib Go.ConcR.Gen Go.ConcN.Gen
open Go.ConcR (KK wgBlock WgAt stA smA rd wr mk Payload Aside2 DC0 ofEvent_cell)
set_option linter.unusedVariables false

section
variable {N n : Nat} {W : World} {L : Nat → Lst} {c0 bf : Nat → Int} {c4 : Frame} {la : Option Addr} {lcap : Nat}

theorem loud13 : (Try.prog.funcs[(base 13).fn]?).any (·.norace) = false := by kernel_rfl

set_option maxRecDepth 100000 in
set_option maxHeartbeats 16000000 in
theorem spawnsFrom (hI : Inp N W la n L) (hn : n ≤ 64) : ∀ (r j : Nat), j + r = n →
    ∃ f, ∀ (g : Goroutine) (w : World), AnchS N n c4 la lcap j g → SI N n W L c0 bf j 0 none none none w → GS (N + 1) (N + 3) n L c0 j (StopS N n W L c0 bf c4 r) f g w := by
  intro r
  induction r with
  | zero =>
    intro j hj
    obtain rfl : j = n := by omega
    refine ⟨40, ?_⟩
    rintro g w ⟨T, rfl, hT, t2, t4, t14, t15, t16⟩ hF
    obtain ⟨v0, v1, v2, v3, v4, v5, v6, v7, v8, v9, v10, v11, v12, v13, v14, v15, v16, v17, v18, v19, v20, v21, v22, v23, rfl⟩ := array24 T hT
    simp only [List.getElem?_toArray, List.getElem?_cons_succ, List.getElem?_cons_zero, Option.some.injEq] at t2 t4 t14 t15 t16
    subst t2 t4 t14 t15 t16
    clear hT
    have hA := fun (T₀ : Array Value) w hw => waitStart (L := L) (c0 := c0) (F := FE N j W L c0 bf) (Cb := N + 1) (B := N + 3) (n := j) (b₀ := base 13) (a₀ := ⟨T₀, []⟩) (ops₀ := ops13) (i₀ := 0) (rest₀ := []) (k₀ := []) (cs := [c4]) (by omega) (fun h r => SI.rely h r) w hw
    simp only [StopS, L13, R13, body13, body21, Try.f13, Try.f21, Option.getD_some] at hA ⊢
    repeat w_go SI.rely
    u_in SI.rely hF
    refine goes_call rfl rfl (by decide) rfl Try.func21 nm21 rfl ⟨by u_nil, ?_⟩
    walk_nrmf Try.f21
    refine goes_upto (k := 5) (goes_mono (fun _ _ y => kd_mono (fun _ _ z => ⟨_, ?_, z⟩) y) (hA _ _ hF)) (by omega)
    simp
  | succ r ih =>
    intro j hj
    obtain ⟨ad, rfl⟩ := hI.nil (by omega)
    obtain ⟨f₁, h₁⟩ := ih (j + 1) (by omega)
    refine ⟨f₁ + 100, ?_⟩
    rintro g w ⟨T, rfl, hT, t2, t4, t14, t15, t16⟩ hF
    obtain ⟨v0, v1, v2, v3, v4, v5, v6, v7, v8, v9, v10, v11, v12, v13, v14, v15, v16, v17, v18, v19, v20, v21, v22, v23, rfl⟩ := array24 T hT
    simp only [List.getElem?_toArray, List.getElem?_cons_succ, List.getElem?_cons_zero, Option.some.injEq] at t2 t4 t14 t15 t16
    subst t2 t4 t14 t15 t16
    clear hT
    have ej : n - (r + 1) = j := by omega
    have hjn : j < n := by omega
    have hlt : (j : Int) < (n : Int) := by omega
    have hj0 : (0 : Int) ≤ (j : Int) := by omega
    have hrow : ∀ w, SI N n W L c0 bf j 0 none none none w → w.cell? (ad.add j) = some (L j).val := fun w h => by
      obtain ⟨h1, h2⟩ := hI.row j ad hjn rfl
      rw [World.cell?_of_block (h.below.block (ad.add j).block (by rw [add_block]; exact h1))]
      exact h2
    have hbl := (hI.row j ad hjn rfl).1
    simp only [StopS, ej, L13, R13, body13, Try.f13, Option.getD_some]
    clear ej
    repeat w_go SI.rely
    -- the list is read
    g_opw SI.rely hF [hrow _ hF] (fun _ _ => rfl) (ev0_rd _ _ (by rw [add_block]; omega) (by rw [add_block]; omega))
    -- its cell is made
    u_in SI.rely hF
    refine goes_oper_k rfl rfl (by decide) (fun K hK => ?_)
    have hsz := hF.size
    go_simp
    refine hK _ _ ⟨⟨fun b hb => low_alloc hsz _ b (by have hb' : b < N + 3 + 2 + 3 * j := hb; omega), fun e he => ?_⟩, ?_⟩
    · have hm := mem_listed he
      simp [go_sem, *] at hm
    clear hK K hsz
    replace hF := hF.alloc1 (.slice none 0 0)
    -- .. and written
    simp only [Lst.val]
    u_in SI.rely hF
    refine goes_oper_k rfl rfl (by decide) (fun K hK => ?_)
    obtain ⟨hu1, hu2⟩ := cell_of_one (hF.c1 _ rfl)
    go_simp
    refine hK _ _ ⟨⟨fun b hb => (aside_setCell _ _ _).block b (by have hb' : b < N + 3 + 2 + 3 * j := hb; simp; omega), fun e he => ?_⟩, ?_⟩
    · have hm := mem_listed he
      simp [go_sem, storedEv, *] at hm
      try (subst hm; exact ev0_wr _ _ (by simp))
    clear hK K hu1 hu2
    replace hF := hF.store1 (.slice (L j).a (L j).len (L j).cap)
    repeat w_go SI.rely
    u_call Try.func19 nm19 Try.f19 SI.rely hF
    repeat w_go SI.rely
    -- Go's boxes
    u_in SI.rely hF
    refine goes_oper_k rfl rfl (by decide) (fun K hK => ?_)
    have hsz : _ = N + 6 + 3 * j := hF.size.trans (by omega)
    go_simp
    refine hK _ _ ⟨⟨fun b hb => low_alloc hsz _ b (by have hb' : b < N + 3 + 2 + 3 * j := hb; omega), fun e he => ?_⟩, ?_⟩
    · have hm := mem_listed he
      simp [go_sem, *] at hm
    clear hK K hsz
    replace hF := hF.alloc2 (.pointer (some ⟨N + 4, 0, none⟩))
    u_in SI.rely hF
    refine goes_oper_k rfl rfl (by decide) (fun K hK => ?_)
    have hsz : _ = N + 7 + 3 * j := hF.size.trans (by omega)
    go_simp
    refine hK _ _ ⟨⟨fun b hb => low_alloc hsz _ b (by have hb' : b < N + 3 + 2 + 3 * j := hb; omega), fun e he => ?_⟩, ?_⟩
    · have hm := mem_listed he
      simp [go_sem, *] at hm
    clear hK K hsz
    replace hF := hF.alloc3 (.func (.func 20) #[] #[.pointer (some ⟨N + 5 + 3 * j, 0, none⟩), .pointer (some ⟨N + 3, 0, none⟩)])
    repeat w_go SI.rely
    g_opw SI.rely hF [(cell_of_one (hF.c2 _ rfl)).1] (fun _ _ => rfl) (ev0_rd _ _ (by simp; omega) (by simp; omega))
    -- Add(1), in company
    have hA := fun (b₀ : Frame) (a₀ : Act) (ops₀ : Array Oper) (i₀ : Nat) (rest₀ : List Nat) (k₀ : List Item) (cs : List Frame) (mT : Nat) hT w hw => addPos (Cb := N + 1) (B := N + 3) (n := n) (L := L) (c0 := c0) (j := j) (Next := SP N n W L c0 bf c4 r) (F := SI N n W L c0 bf j 3 (some (.slice (L j).a (L j).len (L j).cap)) (some (.pointer (some ⟨N + 4, 0, none⟩))) (some (.func (.func 20) #[] #[.pointer (some ⟨N + 5 + 3 * j, 0, none⟩), .pointer (some ⟨N + 3, 0, none⟩)]))) (b₀ := b₀) (a₀ := a₀) (ops₀ := ops₀) (i₀ := i₀) (rest₀ := rest₀) (k₀ := k₀) (cs := cs) (mT := mT) (by omega) (fun h r => SI.rely h r) (fun h => h.live) hT w hw
    simp only [body26, Try.f26, Option.getD_some] at hA
    u_in SI.rely hF
    refine goes_call rfl rfl (by decide) rfl Try.func26 nm26 rfl ⟨by u_nil, ?_⟩
    walk_nrmf Try.f26
    refine goes_upto (k := 20) (hA _ _ _ _ _ _ _ 8 ?_ _ hF) (by omega)
    clear hA hF
    intro w' hF
    walk_nrm
    repeat w_go SI.rely
    -- THE go STATEMENT
    refine Goes.stop (fun w₂ r₂ => ?_)
    replace hF := hF.rely r₂
    clear r₂
    refine ⟨rfl, ?_⟩
    show ∃ g' child, stepG Try.prog true _ w₂ = _ ∧ _
    rw [stepG_spawn (d := call27 (N + 3) j) (w' := w₂) (f := .func 27) (c := #[.pointer (some ⟨N + 3 + 3 + 3 * j, 0, none⟩), .pointer (some ⟨N + 3 + 4 + 3 * j, 0, none⟩)]) rfl rfl (by decide) (by simp [go_sem, call27, Deferred.ofValue]) rfl]
    generalize hL : listed _ _ _ _ _ = Lx
    have hLx : Lx = #[] := by
      rw [← hL]
      simp [listed, go_sem, seen, Deferred.ofValue]
      rfl
    subst hLx
    clear hL
    have hw : WK (N + 1) (N + 3) n L c0 j w₂ := by
      refine ⟨(cell_of_one hF.box).1, ?_, ?_, ?_, fun i ad' hi ha => ?_, hF.live, hF.cnt⟩
      · exact (cell_of_one (hF.c1 _ rfl)).1
      · have := (cell_of_one (hF.c2 _ rfl)).1
        rwa [show N + 6 + 3 * j = N + 3 + 3 + 3 * j by omega] at this
      · have := (cell_of_one (hF.c3 _ rfl)).1
        rwa [show N + 7 + 3 * j = N + 3 + 4 + 3 * j by omega] at this
      · obtain ⟨h1, h2⟩ := hI.el j i ad' hjn hi ha
        refine ⟨by omega, ?_⟩
        rw [World.cell?_of_block (hF.below.block (ad'.add i).block (by rw [add_block]; exact h1))]
        exact h2
    refine ⟨_, _, rfl, rfl, works (by omega) hjn (hI.len j hjn) (hI.big j hjn) (hI.nilk j hjn) hw, ?_⟩
    clear hw
    -- ON TO THE LOOP's HEAD
    refine (spawns_iff N n W L c0 bf c4 r _ _).2 ⟨f₁ + 20, ?_⟩
    have e6 : n - r = j + 1 := by omega
    rw [e6]
    replace hF := hF.next
    have hwr : IntKind.i64.wrap ((j : Int) + 1) = ((j + 1 : Nat) : Int) := by rw [IntKind.wrap_i64]; omega
    clear e6
    walk_nrm
    repeat w_nl SI.rely
    u_leave0 Try.func19 SI.rely hF
    repeat w_nl SI.rely
    u_c stepG_inLoop SI.rely hF
    exact goes_upto (h₁ _ _ ⟨_, rfl, by simp, by simp, by simp, by simp, by simp, by simp⟩ hF) (by omega)
end
end Go.Proofs.Yteffdcpepjjkbaa.Team

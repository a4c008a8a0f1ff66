/- Together's workers: the closure's loop: each valid index is one atomic add. -/
import Derived.Test.YteffdcpepjjkbaaTwA
import Derived.Conc.EventLaws2
namespace Go.Proofs.Yteffdcpepjjkbaa.Team
open Go.Conc Go.ConcN Go.RowKit Go.Conc.Lib Go.ConcR.Gen Go.ConcN.Gen
open Go.ConcR (KK wgBlock WgAt stA smA rd wr mk Payload Aside2 DC0 ofEvent_cell)
set_option linter.unusedVariables false

theorem goes_upto {P : Program} {main : Bool} {R : World → World → Prop} {D : World → World → Array Event → Prop} {Stop : Goroutine → World → Prop} {k : Nat} {g : Goroutine} {w : World} (h : Goes P main R D Stop k g w) : ∀ {k' : Nat}, k ≤ k' → Goes P main R D Stop k' g w
  | 0, e => by obtain rfl : k = 0 := by omega
               exact h
  | k' + 1, e => by
    rcases Nat.lt_or_ge k (k' + 1) with h1 | h1
    · exact (goes_upto h (by omega)).more
    · obtain rfl : k = k' + 1 := by omega
      exact h

theorem array14 (T : Array Value) (h : T.size = 14) : ∃ v0 v1 v2 v3 v4 v5 v6 v7 v8 v9 v10 v11 v12 v13 : Value, T = #[v0, v1, v2, v3, v4, v5, v6, v7, v8, v9, v10, v11, v12, v13] := by
  obtain ⟨l⟩ := T
  match l, h with
  | [v0, v1, v2, v3, v4, v5, v6, v7, v8, v9, v10, v11, v12, v13], _ => exact ⟨v0, v1, v2, v3, v4, v5, v6, v7, v8, v9, v10, v11, v12, v13, rfl⟩

theorem eqp (t e : TypeId) (ht : ∀ w, Sem.run Try.prog (underlying t) w = .ok (.pointer e) w) (hte : ∀ w es, Sem.events Try.prog (underlying t) w es = es) (p : Option Addr) (w : World) (es : Array Event) :
    Sem.events Try.prog (Op.equalIn (9999 + 1) t (.pointer p) (.pointer none)) w es = es ∧ ∃ b, Sem.run Try.prog (Op.equalIn (9999 + 1) t (.pointer p) (.pointer none)) w = .ok b w := by
  rw [Op.equalIn]
  cases p <;> simp [Sem.events_bind, go_sem, ht, hte]
/-- A pointer is compared with nil: nothing is listed. -/
theorem ev_eqp (p : Option Addr) (w : World) (es : Array Event) : Sem.events Try.prog (binOp .eql 24 (.pointer p) (.pointer none)) w es = es := by
  obtain ⟨h, b, hr⟩ := eqp 24 34 Try.runUnderlying24 (by simp [go_sem]) p w es
  simp only [binOp, Op.equal, Op.maxDepth, Sem.events_bind, h, hr]
  simp [go_sem]
theorem ev_nep (p : Option Addr) (w : World) (es : Array Event) : Sem.events Try.prog (binOp .neq 50 (.pointer p) (.pointer none)) w es = es := by
  obtain ⟨h, b, hr⟩ := eqp 50 31 Try.runUnderlying50 (by simp [go_sem]) p w es
  simp only [binOp, Op.equal, Op.maxDepth, Sem.events_bind, h, hr]
  simp [go_sem]
set_option hygiene false in
/-- A comparison with nil. -/
macro "v_nil" : tactic => `(tactic|
  (u_in (WK.rely' hB) hF
   refine goes_oper_k rfl rfl (by k_ne) (fun K hK => ?_)
   go_simp
   refine hK _ _ ⟨?_, ?_⟩
   · u_none
     intro e he
     have hm := mem_listed he
     simp [go_sem, ev_eqp, ev_nep] at hm
   clear hK K))

theorem cnt_cell {T : Cfg} {c : Nat → Int} {w : World} (h : T.Cnt c w) {x : Nat} (hx : x < 8) : w.cell? ⟨T.Cb, x, none⟩ = some (.int .u64 (c x)) ∧ w.frozen? ⟨T.Cb, x, none⟩ = false := by
  unfold Cfg.Cnt at h
  refine ⟨?_, by simp [World.frozen?, h]⟩
  match x, hx with
  | 0, _ | 1, _ | 2, _ | 3, _ | 4, _ | 5, _ | 6, _ | 7, _ => simp [World.cell?, h]

section
variable {Cb B n : Nat} {L : Nat → Lst} {c0 : Nat → Int} {i : Nat}

/-- The next stop, these indices being still to come. -/
def Stop20 (Cb B n : Nat) (L : Nat → Lst) (c0 : Nat → Int) (i : Nat) : List Nat → Goroutine → World → Prop
  | [] => AtTail (cfg Cb B n L c0) i
  | x :: xs => AtAdd (cfg Cb B n L c0) x (Script (cfg Cb B n L c0) i xs)
theorem stop20_iff (xs : List Nat) (g : Goroutine) (w : World) : Script (cfg Cb B n L c0) i xs g w ↔ ∃ m, GT Cb B n L c0 i (Stop20 Cb B n L c0 i xs) m g w := by cases xs <;> exact Iff.rfl

/-- Go$1's frame under the closure's. -/
noncomputable def fr27 (B i : Nat) : Frame := (baseD 27).at ⟨#[.pointer (some ⟨B + 3 + 3 * i, 0, none⟩), .pointer (some ⟨B + 4 + 3 * i, 0, none⟩), .func (.func 28) #[] #[.pointer (some ⟨B + 3 + 3 * i, 0, none⟩)], closure B i, undef], [def28 B i]⟩ [.inRegion ops27 [1]]

/-- At the head of the loop, j elements being done. -/
def AnchL (B : Nat) (L : Nat → Lst) (i j : Nat) (g : Goroutine) : Prop :=
  ∃ T : Array Value, g = G ((base 20).at ⟨T, []⟩ [.code L20, .inLoop L20, .inBlock 0]) [fr27 B i, bot] ∧ T.size = 14 ∧ T[0]? = some (.pointer (some ⟨B + 2 + 3 * i, 0, none⟩)) ∧ T[1]? = some (.pointer (some ⟨B, 0, none⟩)) ∧
    T[4]? = some (L i).val ∧ T[5]? = some (.int .i64 (L i).len) ∧ T[6]? = some (.int .i64 j)

set_option maxRecDepth 100000 in
set_option maxHeartbeats 8000000 in
theorem loop20 (hB : Cb < B) (hi : i < n) (hlen : (L i).len = (L i).xs.length) (hbig : (L i).len ≤ 9223372036854775807) (hnil : 0 < (L i).len → ∃ ad, (L i).a = some ad) : ∀ (r j : Nat), j + r = (L i).len →
    ∃ f, ∀ (g : Goroutine) (w : World), AnchL B L i j g → WK Cb B n L c0 i w → GT Cb B n L c0 i (Stop20 Cb B n L c0 i (valid ((L i).xs.drop j))) f g w := by
  intro r
  induction r with
  | zero =>
    intro j hj
    obtain rfl : j = (L i).len := by omega
    refine ⟨9 + 30, ?_⟩
    rintro g w ⟨T, rfl, hT, t0, t1, t4, t5, t6⟩ hF
    obtain ⟨v0, v1, v2, v3, v4, v5, v6, v7, v8, v9, v10, v11, v12, v13, rfl⟩ := array14 T hT
    simp only [List.getElem?_toArray, List.getElem?_cons_succ, List.getElem?_cons_zero, Option.some.injEq] at t0 t1 t4 t5 t6
    subst t0 t1 t4 t5 t6
    have hd : (L i).xs.drop (L i).len = [] := by rw [hlen]; simp
    rw [hd]
    have hA := fun w hw => afterF (L := L) (c0 := c0) hB hi _ rfl w hw
    simp only [Stop20, valid, L20, body20, Try.f20, Option.getD_some] at hA ⊢
    have hnl : ¬ (((L i).len : Int) < ((L i).len : Int)) := by omega
    v_c stepG_seq
    v_reg
    v_op
    v_c stepG_region_end
    v_c stepG_seq
    v_cond false
    u_exit (WK.rely' hB) hF
    v_c stepG_end
    u_leave0 Try.func20 (WK.rely' hB) hF
    exact hA _ hF
  | succ r ih =>
    intro j hj
    have hjn : j < (L i).len := by omega
    obtain ⟨ad, ha⟩ := hnil (by omega)
    obtain ⟨f₁, h₁⟩ := ih (j + 1) (by omega)
    refine ⟨f₁ + 200, ?_⟩
    rintro g w ⟨T, rfl, hT, t0, t1, t4, t5, t6⟩ hF
    obtain ⟨v0, v1, v2, v3, v4, v5, v6, v7, v8, v9, v10, v11, v12, v13, rfl⟩ := array14 T hT
    simp only [List.getElem?_toArray, List.getElem?_cons_succ, List.getElem?_cons_zero, Option.some.injEq] at t0 t1 t4 t5 t6
    subst t0 t1 t4 t5 t6
    obtain ⟨x, hx⟩ : ∃ x, x = (L i).xs.getD j 0 := ⟨_, rfl⟩
    have hd : (L i).xs.drop j = x :: (L i).xs.drop (j + 1) := by
      rw [List.drop_eq_getElem_cons (by omega), hx]
      simp [List.getD_eq_getElem?_getD, List.getElem?_eq_getElem (show j < (L i).xs.length by omega)]
    rw [hd]
    clear hlen
    have hel : ∀ w, WK Cb B n L c0 i w → ad.block < Cb ∧ w.cell? (ad.add j) = some (.int .i64 x) := fun w h => by have := WK.el h j ad hjn ha; rwa [← hx] at this
    clear hx hd
    have hlt : (j : Int) < ((L i).len : Int) := by omega
    have hj0 : (0 : Int) ≤ (j : Int) := by omega
    have hwr : IntKind.i64.wrap ((j : Int) + 1) = ((j + 1 : Nat) : Int) := by rw [IntKind.wrap_i64]; omega
    simp only [L20, body20, Try.f20, Option.getD_some]
    simp only [Lst.val, ha]
    v_c stepG_seq
    v_reg
    v_op
    v_c stepG_region_end
    v_c stepG_seq
    v_cond true
    v_c stepG_skip
    v_c stepG_seq
    v_c stepG_block
    v_c stepG_seq
    v_reg
    v_op
    g_opw (WK.rely' hB) hF [(hel _ hF).2] (AsideCell.refl _ _ _ _) (evW_rd _ _ (by rw [add_block]; exact .inl (hel _ hF).1))
    v_op
    v_c stepG_region_end
    v_reg
    g_opw (WK.rely' hB) hF [WK.cb hF] (AsideCell.refl _ _ _ _) (evW_rd _ _ (by simp))
    v_op
    u_call Try.func8 nm8 Try.f8 (WK.rely' hB) hF
    v_c stepG_seq
    v_reg
    v_op
    v_c stepG_region_end
    v_c stepG_seq
    v_c stepG_seq
    v_reg
    v_op
    v_op
    u_call Try.func15 nm15 Try.f15 (WK.rely' hB) hF
    v_c stepG_seq
    v_reg
    v_op
    v_c stepG_region_end
    v_c stepG_seq
    v_c stepG_seq
    v_reg
    v_op
    v_nil
    v_op
    have hcase : (x < 0 ∨ 8 ≤ x) ∨ (¬ x < 0 ∧ ¬ 8 ≤ x) := by omega
    rcases hcase with (h0 | h8) | ⟨h0, h8⟩
    · have hv : valid (x :: (L i).xs.drop (j + 1)) = valid ((L i).xs.drop (j + 1)) := by rw [valid, if_neg (by omega)]
      rw [hv]
      clear hv
      v_op
      v_op
      v_op
      v_op
      v_skip
      v_skip
      v_op
      v_c stepG_region_end
      v_cond true
      v_c stepG_seq
      v_reg
      v_op
      v_c stepG_region_end
      v_c stepG_ret'
      u_leave1 Try.func15 (WK.rely' hB) hF
      v_op
      v_c stepG_region_end
      v_c stepG_seq
      v_reg
      v_op
      v_nil
      v_c stepG_region_end
      v_cond false
      v_c stepG_skip
      v_c stepG_seq
      v_reg
      v_op
      v_c stepG_region_end
      v_c stepG_ret'
      u_leave1 Try.func8 (WK.rely' hB) hF
      v_c stepG_region_end
      v_c stepG_inBlock
      v_reg
      v_op
      v_op
      v_c stepG_region_end
      v_c stepG_inLoop
      exact goes_upto (h₁ _ _ ⟨_, rfl, by simp, by simp, by simp, by simp [Lst.val, ha], by simp, by simp⟩ hF) (by omega)
    · have hv : valid (x :: (L i).xs.drop (j + 1)) = valid ((L i).xs.drop (j + 1)) := by rw [valid, if_neg (by omega)]
      rw [hv]
      clear hv
      have h0 : ¬ x < 0 := by omega
      v_op
      v_op
      v_op
      v_op
      v_op
      v_op
      v_op
      v_c stepG_region_end
      v_cond true
      v_c stepG_seq
      v_reg
      v_op
      v_c stepG_region_end
      v_c stepG_ret'
      u_leave1 Try.func15 (WK.rely' hB) hF
      v_op
      v_c stepG_region_end
      v_c stepG_seq
      v_reg
      v_op
      v_nil
      v_c stepG_region_end
      v_cond false
      v_c stepG_skip
      v_c stepG_seq
      v_reg
      v_op
      v_c stepG_region_end
      v_c stepG_ret'
      u_leave1 Try.func8 (WK.rely' hB) hF
      v_c stepG_region_end
      v_c stepG_inBlock
      v_reg
      v_op
      v_op
      v_c stepG_region_end
      v_c stepG_inLoop
      exact goes_upto (h₁ _ _ ⟨_, rfl, by simp, by simp, by simp, by simp [Lst.val, ha], by simp, by simp⟩ hF) (by omega)
    · have hv : valid (x :: (L i).xs.drop (j + 1)) = x.toNat :: valid ((L i).xs.drop (j + 1)) := by rw [valid, if_pos (by omega)]
      rw [hv]
      clear hv
      have hx0 : 0 ≤ x := by omega
      have hx8 : x < 8 := by omega
      v_op
      v_op
      v_op
      v_op
      v_op
      v_op
      v_op
      v_c stepG_region_end
      v_cond false
      v_c stepG_skip
      v_c stepG_seq
      v_reg
      v_op
      v_op
      v_op
      v_op
      have hix := fun w es => events_indexAt_array (P := Try.prog) (w := w) (es := es) 32 31 8 ⟨Cb, 0, none⟩ .i64 x Try.underlying32 ⟨hx0, hx8⟩
      v_op
      clear hix
      v_op
      v_c stepG_region_end
      v_c stepG_ret'
      u_leave1 Try.func15 (WK.rely' hB) hF
      v_op
      v_c stepG_region_end
      v_c stepG_seq
      v_reg
      v_op
      v_nil
      v_c stepG_region_end
      v_cond true
      v_c stepG_seq
      v_reg
      v_op
      v_op
      u_call Try.func16 nm16 Try.f16 (WK.rely' hB) hF
      v_c stepG_seq
      v_reg
      v_op
      v_c stepG_region_end
      v_c stepG_seq
      v_reg
      v_op
      v_op
      v_op
      v_op
      -- THE ATOMIC ADD
      rw [Stop20]
      refine Goes.stop (fun w₁ hr => ⟨rfl, fun c hc => ?_⟩)
      replace hF := hF.rely' hB hr
      clear hr
      obtain ⟨hcell, hfz⟩ := cnt_cell hc (show x.toNat < 8 by omega)
      refine ⟨_, (stepG_add_atomic rfl rfl (by k_ne) rfl Try.func23 (by kernel_rfl) (by kernel_rfl) (by kernel_rfl) .u64 (by kernel_rfl) rfl rfl hcell hfz).trans (by rw [IntKind.wrap_u64]; rfl), (stop20_iff _ _ _).2 ⟨f₁ + 20, ?_⟩⟩
      replace hF := hF.add hB hc (x := x.toNat) (by omega)
      clear hcell hfz hc
      generalize IntKind.wrap _ _ = vv
      walk_nrm
      v_op
      v_c stepG_region_end
      v_c stepG_ret'
      u_leave1 Try.func16 (WK.rely' hB) hF
      v_op
      v_c stepG_region_end
      v_c stepG_ret'
      u_leave1 Try.func8 (WK.rely' hB) hF
      v_c stepG_region_end
      v_c stepG_inBlock
      v_reg
      v_op
      v_op
      v_c stepG_region_end
      v_c stepG_inLoop
      exact goes_upto (h₁ _ _ ⟨_, rfl, by simp, by simp, by simp, by simp [Lst.val, ha], by simp, by simp⟩ hF) (by omega)
end
end Go.Proofs.Yteffdcpepjjkbaa.Team

/- Behind the join: same, in whatever company, the heap standing. -/
import Derived.Test.YteffdcpepjjkbaaTtB
namespace Go.Proofs.Yteffdcpepjjkbaa.Team
open Go.Conc Go.ConcN Go.RowKit Go.Conc.Lib Go.ConcR.Gen Go.ConcN.Gen
open Go.ConcR (KK wgBlock WgAt stA smA rd wr mk Payload Aside2 DC0 ofEvent_cell)
set_option linter.unusedVariables false

noncomputable def body11 : Code := Try.f11.body.getD .skip
noncomputable def L11 : Code := match body11 with | .seq _ (.seq _ (.seq (.seq _ (.block _ (.loop c))) _)) => c | _ => .skip
noncomputable def R11 : Code := match body11 with | .seq _ (.seq _ (.seq _ r)) => r | _ => .skip

/-- A region that draws its order, on a walk. -/
theorem goes_drawn {P : Program} {main : Bool} {R : World → World → Prop} {D : World → World → Array Event → Prop} {b : Frame} {a : Act} {k : List Item} {cs : List Frame} {Stop : Goroutine → World → Prop} {m id : Nat} {ops : Array Oper} {w : World} {S : World → Prop}
    (T : Terms R D) (hd : LetsDraw D) (hm : P.follows .mixedOrders = true) (hk : b.kind ≠ .early)
    (h : ∀ w₁, R w w₁ → AnyCH P R D b.fn .any ops (After P main R D Stop m b k cs) S ops.size (Array.replicate ops.size false) a { w₁ with drawn := w₁.drawn + 1 }) :
    Goes P main R D Stop (m + (ops.size + 1 + 1)) (G (b.at a (.code (.region id ops true) :: k)) cs) w := wpC_goes (wpC_region_held T hd hm h) rfl hk (fun _ _ _ h => h)

theorem termsF (E : Event → Prop) : Terms Cfg.RF (DE E) := ⟨fun _ _ _ h k => h.trans k, fun _ => fun e he => by simp at he⟩
theorem drawF (E : Event → Prop) : LetsDraw (DE E) := fun _ => fun e he => by simp at he
theorem RF.drew (w : World) : Cfg.RF w { w with drawn := w.drawn + 1 } := ⟨rfl, rfl, rfl, rfl⟩
/-- Take operation number i first. -/
macro "s_take " i:num ppSpace T:term:max ppSpace rl:term:max ppSpace hF:ident ppSpace hw:ident ppSpace "(" pre:tacticSeq ")" ppSpace "(" guar:tacticSeq ")" : tactic => `(tactic|
  (co_applyP anyCH_take $T (fun _ _ h r => $rl h r) (fun _ _ _ h r => Goes.rely (Terms.trans $T) h r) (i := $i) rfl (by first | kernel_rfl | decide +kernel) (by first | kernel_rfl | decide +kernel) (by first | kernel_rfl | decide +kernel)
     (.inl ⟨by rfl, fun _ $hw => ⟨run_eq_of ?run, ?guar⟩⟩) $hF ?rest
   case run =>
     intro K hK
     ($pre)
     go_simp
     exact hK
   case guar =>
     ($pre)
     ($guar)
   try walk_nrm))

structure FS (N hi : Nat) (W : World) (c : Nat → Int) (S S2 : Nat) (w : World) : Prop where
  a : FA N hi W c S c w
  lo2 : hi ≤ S2
  two : w.heap[S2]? = some (.cells (vec c) 35)
theorem FS.rely {N hi : Nat} {W : World} {c : Nat → Int} {S S2 : Nat} {w w₁ : World} (h : FS N hi W c S S2 w) (r : Cfg.RF w w₁) : FS N hi W c S S2 w₁ := ⟨h.a.rely r, h.lo2, by rw [r.heap]; exact h.two⟩

theorem FA.box {N hi : Nat} {W : World} {c : Nat → Int} {S : Nat} {w : World} (h : FA N hi W c S c w) : FS N hi W c S w.heap.size (w.alloc (.cells (vec c) 35)) := by
  have h5 := h.k.hi5
  have hs := h.k.size
  have hS : S < w.heap.size := by
    rcases Nat.lt_or_ge S w.heap.size with h1 | h1
    · exact h1
    · have := h.new
      rw [Array.getElem?_eq_none h1] at this
      cases this
  exact ⟨⟨h.k.alloc _ (by omega), h.lo, (Below.heap_alloc _ _ _ hS).trans h.new⟩, hs, heap_alloc_new w _⟩

section
variable {N hi : Nat} {W : World} {c : Nat → Int} {E : Event → Prop} {Stop : Goroutine → World → Prop} {b₀ : Frame} {a₀ : Act} {ops₀ : Array Oper} {i₀ : Nat} {rest₀ : List Nat} {k₀ : List Item} {cs : List Frame} {mT : Nat}
def AnchM (S S2 j : Nat) (c₀ : Frame) (cs : List Frame) (g : Goroutine) : Prop :=
  ∃ T : Array Value, g = G ((base 11).at ⟨T, []⟩ [.code L11, .inLoop L11, .inBlock 0, .code R11]) (c₀ :: cs) ∧ T.size = 21 ∧ T[0]? = some (.slice (some ⟨S, 0, none⟩) 8 8) ∧
    T[3]? = some (.pointer (some ⟨S2, 0, none⟩)) ∧ T[9]? = some (.int .i64 j)

set_option maxRecDepth 100000 in
set_option maxHeartbeats 8000000 in
theorem sameLoop (hE : EvOk N hi E) (hT : ∀ w, FK N hi W c w → GF E Stop mT (G (b₀.at (a₀.put ((ops₀[i₀]?).bind (·.dst)) (.bool true)) (.inRegion ops₀ rest₀ :: k₀)) cs) w) :
    ∀ (r j : Nat), j + r = 8 → ∀ (S S2 : Nat) (g : Goroutine) (w : World), AnchM S S2 j (b₀.at a₀ (.inRegion ops₀ (i₀ :: rest₀) :: k₀)) cs g → FS N hi W c S S2 w → GF E Stop (mT + 40 + 80 * r) g w := by
  intro r
  induction r with
  | zero =>
    intro j hj
    obtain rfl : j = 8 := by omega
    rw [show mT + 40 + 80 * 0 = mT + 40 by omega]
    rintro S S2 g w ⟨T, rfl, hT', t0, t3, t9⟩ hF
    obtain ⟨v0, v1, v2, v3, v4, v5, v6, v7, v8, v9, v10, v11, v12, v13, v14, v15, v16, v17, v18, v19, v20, rfl⟩ := array21 T hT'
    simp only [List.getElem?_toArray, List.getElem?_cons_succ, List.getElem?_cons_zero, Option.some.injEq] at t0 t3 t9
    subst t0 t3 t9
    clear hT'
    simp only [L11, R11, body11, Try.f11, Option.getD_some]
    repeat w_go FS.rely
    u_leave1 Try.func11 FS.rely hF
    exact goes_upto (hT _ hF.a.k) (by omega)
  | succ r ih =>
    intro j hj
    have h₁ := ih (j + 1) (by omega)
    rw [show mT + 40 + 80 * (r + 1) = mT + 40 + 80 * r + 80 by omega]
    generalize mT + 40 + 80 * r = f₁ at h₁ ⊢
    clear ih
    rintro S S2 g w ⟨T, rfl, hT', t0, t3, t9⟩ hF
    obtain ⟨v0, v1, v2, v3, v4, v5, v6, v7, v8, v9, v10, v11, v12, v13, v14, v15, v16, v17, v18, v19, v20, rfl⟩ := array21 T hT'
    simp only [List.getElem?_toArray, List.getElem?_cons_succ, List.getElem?_cons_zero, Option.some.injEq] at t0 t3 t9
    subst t0 t3 t9
    clear hT'
    have hj8 : j < 8 := by omega
    have hlt : (j : Int) < 8 := by omega
    have hj0 : (0 : Int) ≤ (j : Int) := by omega
    have hwr : IntKind.i64.wrap ((j : Int) + 1) = ((j + 1 : Nat) : Int) := by rw [IntKind.wrap_i64]; omega
    simp only [L11, R11, body11, Try.f11, Option.getD_some]
    repeat w_go FS.rely
    refine goes_upto (k := (f₁ + 40) + (8 + 1 + 1)) (goes_drawn (S := FS N hi W c S S2) (termsF E) (drawF E) (by kernel_rfl) (by k_ne) (fun w₁ hR => ?_)) (by omega)
    replace hF := FS.rely (FS.rely hF hR) (RF.drew _)
    clear hR
    simp only [List.size_toArray, List.length_cons, List.length_nil, Nat.reduceAdd, Nat.zero_add]
    s_take 0 (termsF E) FS.rely hF hw (skip) (co_evs (skip))
    s_take 1 (termsF E) FS.rely hF hw (skip) (co_evs (skip))
    s_take 2 (termsF E) FS.rely hF hw (skip) (co_evs (skip))
    s_take 3 (termsF E) FS.rely hF hw (have hc := (FA.cell (FS.a hw) hj8).1) (have hlo := FA.lo (FS.a hw); co_evs (exact hE.rd _ _ (.inr hlo)))
    s_take 4 (termsF E) FS.rely hF hw (skip) (co_evs (skip))
    have hix := fun w es => events_indexAt_array (P := Try.prog) (w := w) (es := es) 35 29 8 ⟨S2, 0, none⟩ .i64 (j : Int) Try.underlying35 ⟨hj0, hlt⟩
    s_take 5 (termsF E) FS.rely hF hw (skip) (co_evs (skip))
    clear hix
    s_take 6 (termsF E) FS.rely hF hw (have hc := vec_cell (FS.two hw) hj8) (have hlo := FS.lo2 hw; co_evs (exact hE.rd _ _ (.inr hlo)))
    s_take 7 (termsF E) FS.rely hF hw (skip) (co_evs (skip))
    refine anyCH_done (by first | kernel_rfl | decide +kernel) ?_ _
    simp only [After]
    repeat w_nl FS.rely
    u_c stepG_inLoop FS.rely hF
    exact goes_upto (h₁ _ _ _ _ ⟨_, rfl, by simp, by simp, by simp, by simp⟩ hF) (by omega)

set_option maxRecDepth 100000 in
set_option maxHeartbeats 8000000 in
theorem sameRun (hE : EvOk N hi E) (hT : ∀ w, FK N hi W c w → GF E Stop mT (G (b₀.at (a₀.put ((ops₀[i₀]?).bind (·.dst)) (.bool true)) (.inRegion ops₀ rest₀ :: k₀)) cs) w) :
    ∀ S w, FA N hi W c S c w → GF E Stop (mT + 720) (G ((base 11).at ⟨#[.slice (some ⟨S, 0, none⟩) 8 8, .agg (vec c), undef, undef, undef, undef, undef, undef, undef, undef, undef, undef, undef, undef, undef, undef, undef, undef, undef, undef, undef], []⟩ [.code body11]) (b₀.at a₀ (.inRegion ops₀ (i₀ :: rest₀) :: k₀) :: cs)) w := by
  have h₁ := sameLoop (c := c) hE hT 8 0 (by omega)
  rw [show mT + 720 = mT + 40 + 80 * 8 + 40 by omega]
  generalize mT + 40 + 80 * 8 = f₁ at h₁ ⊢
  intro S w hF
  simp only [body11, Try.f11, Option.getD_some]
  repeat w_go FA.rely
  u_in FA.rely hF
  refine goes_oper_k rfl rfl (by k_ne) (fun K hK => ?_)
  go_simp
  refine hK _ _ ⟨fun e he => ?_, ?_⟩
  · have hm := mem_listed he
    simp [go_sem] at hm
  clear hK K
  replace hF := hF.box
  repeat w_bar FS.rely
  u_c stepG_loop FS.rely hF
  exact goes_upto (h₁ _ _ _ _ ⟨_, rfl, by simp, by simp, by simp, by simp⟩ hF) (by omega)
end
end Go.Proofs.Yteffdcpepjjkbaa.Team

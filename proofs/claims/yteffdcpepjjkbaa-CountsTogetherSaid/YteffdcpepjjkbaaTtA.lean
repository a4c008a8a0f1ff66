/- Behind the join (and where there are no workers): Get, in whatever company, the heap standing. -/
import Derived.Test.YteffdcpepjjkbaaTsE
import Derived.Conc.CompanyMem
namespace Go.Proofs.Yteffdcpepjjkbaa.Team
open Go.Conc Go.ConcN Go.RowKit Go.Conc.Lib Go.ConcR.Gen Go.ConcN.Gen
open Go.ConcR (KK wgBlock WgAt stA smA rd wr mk Payload Aside2 DC0 ofEvent_cell)
set_option linter.unusedVariables false

theorem nm9 : (Try.f9.name == "runtime.NumGoroutine") = false := by kernel_rfl
theorem nm12 : (Try.f12.name == "runtime.NumGoroutine") = false := by kernel_rfl
theorem nm11 : (Try.f11.name == "runtime.NumGoroutine") = false := by kernel_rfl
noncomputable def body9 : Code := Try.f9.body.getD .skip

/-- What may be listed. -/
structure EvOk (N hi : Nat) (E : Event → Prop) : Prop where
  rd : ∀ a s, a.block = N + 2 ∨ hi ≤ a.block → E ⟨.cell a, false, s⟩
  at_ : ∀ x, E ⟨.cell ⟨N + 1, x, none⟩, false, true⟩
  wr : ∀ a s, hi ≤ a.block → E ⟨.cell a, true, s⟩

/-- A comparison with nil. -/
macro "n_nil " rl:term:max hF:ident : tactic => `(tactic|
  (u_in $rl $hF
   refine goes_oper_k rfl rfl (by k_ne) (fun K hK => ?_)
   go_simp
   refine hK _ _ ⟨?_, ?_⟩
   · u_none
     intro e he
     have hm := mem_listed he
     simp [go_sem, ev_eqp, ev_nep] at hm
   clear hK K))

abbrev GF (E : Event → Prop) (Stop : Goroutine → World → Prop) (m : Nat) (g : Goroutine) (w : World) : Prop := Goes Try.prog true Cfg.RF (DE E) Stop m g w

theorem vec_get (c : Nat → Int) {j : Nat} (hj : j < 8) : (vec c)[j]? = some (.int .u64 (c j)) := by
  match j, hj with
  | 0, _ | 1, _ | 2, _ | 3, _ | 4, _ | 5, _ | 6, _ | 7, _ => rfl
theorem vec_cell {c : Nat → Int} {b : Nat} {t : TypeId} {w : World} (h : w.heap[b]? = some (.cells (vec c) t)) {j : Nat} (hj : j < 8) : w.cell? ⟨b, j, none⟩ = some (.int .u64 (c j)) := by
  simp [World.cell?, h, vec_get c hj]

section
variable {N hi : Nat} {E : Event → Prop} {Stop : Goroutine → World → Prop} {F : World → Prop} {c : Nat → Int} {j : Nat}
  {b₀ : Frame} {a₀ : Act} {ops₀ : Array Oper} {i₀ : Nat} {rest₀ : List Nat} {k₀ : List Item} {cs : List Frame} {mT : Nat}
set_option maxRecDepth 100000 in
set_option maxHeartbeats 4000000 in
theorem getRun (hE : EvOk N hi E) (hj : j < 8) (fl : ∀ {w w'}, F w → Cfg.RF w w' → F w') (hc : ∀ {w}, F w → w.cell? ⟨N + 1, j, none⟩ = some (.int .u64 (c j)))
    (hT : ∀ w, F w → GF E Stop mT (G (b₀.at (a₀.put ((ops₀[i₀]?).bind (·.dst)) (.int .u64 (c j))) (.inRegion ops₀ rest₀ :: k₀)) cs) w) (w : World) (hF : F w) :
    GF E Stop (mT + 90) (G ((base 9).at ⟨#[.pointer (some ⟨N + 1, 0, none⟩), .int .i64 j, undef, undef, undef, undef, undef, undef, undef, undef, undef, undef, undef], []⟩ [.code body9]) (b₀.at a₀ (.inRegion ops₀ (i₀ :: rest₀) :: k₀) :: cs)) w := by
  have h0 : ¬ (j : Int) < 0 := by omega
  have h8 : ¬ 8 ≤ (j : Int) := by omega
  have h8' : ¬ 8 ≤ j := by omega
  have hx0 : (0 : Int) ≤ (j : Int) := by omega
  have hx8 : (j : Int) < 8 := by omega
  simp only [body9, Try.f9, Option.getD_some]
  repeat w_go fl
  u_call Try.func15 nm15 Try.f15 fl hF
  repeat w_go fl
  n_nil fl hF
  repeat w_go fl
  have hix := fun w es => events_indexAt_array (P := Try.prog) (w := w) (es := es) 32 31 8 ⟨N + 1, 0, none⟩ .i64 (j : Int) Try.underlying32 ⟨hx0, hx8⟩
  w_go fl
  clear hix
  repeat w_go fl
  u_leave1 Try.func15 fl hF
  repeat w_go fl
  n_nil fl hF
  repeat w_go fl
  u_call Try.func17 nm17 Try.f17 fl hF
  repeat w_go fl
  u_in fl hF
  rw [stepG_load_atomic (v := c j) rfl rfl (by k_ne) rfl Try.func24 (by kernel_rfl) (by kernel_rfl) (by kernel_rfl) .u64 (by kernel_rfl) rfl (by simpa [Act.eval] using hc hF)]
  simp only [goes_go]
  refine ⟨fun e he => ?_, ?_⟩
  · rw [Array.mem_singleton] at he
    subst he
    exact hE.at_ j
  walk_nrm
  repeat w_go fl
  u_leave1 Try.func17 fl hF
  repeat w_go fl
  u_leave1 Try.func9 fl hF
  exact goes_upto (hT _ hF) (by omega)
end
end Go.Proofs.Yteffdcpepjjkbaa.Team

/- Ahead of the workers: New, awake. -/
import Derived.Test.YteffdcpepjjkbaaTtF
namespace Go.Proofs.Yteffdcpepjjkbaa.Team
open Go.Conc Go.ConcN Go.RowKit Go.Conc.Lib Go.ConcR.Gen Go.ConcN.Gen
open Go.ConcR (KK wgBlock WgAt stA smA rd wr mk Payload Aside2 DC0 ofEvent_cell)
set_option linter.unusedVariables false

theorem build_run : ∀ w, (Instr.build 34 #[]).run Try.prog w = .ok (.agg (vec fun _ => 0)) w := fun _ => by kernel_rfl
theorem build_ev : ∀ w es, (Instr.build 34 #[]).events Try.prog w es = es := fun _ _ => by kernel_rfl
theorem ev_nep24 (p : Option Addr) (w : World) (es : Array Event) : Sem.events Try.prog (binOp .neq 24 (.pointer p) (.pointer none)) w es = es := by
  obtain ⟨h, b, hr⟩ := eqp 24 34 Try.runUnderlying24 (by simp [go_sem]) p w es
  simp only [binOp, Op.equal, Op.maxDepth, Sem.events_bind, h, hr]
  simp [go_sem]
/-- So many blocks; nothing of the entry's has turned. -/
structure K1 (N : Nat) (W : World) (S : Nat) (w : World) : Prop where
  below : Below N W w
  size : w.heap.size = S
  lo : N ≤ S
/-- .. and the last is a Counts. -/
structure K2 (N : Nat) (W : World) (S : Nat) (d : Nat → Int) (w : World) : Prop where
  below : Below N W w
  size : w.heap.size = S + 1
  lo : N ≤ S
  cnt : w.heap[S]? = some (.cells (vec d) 34)
def put (d : Nat → Int) (i : Nat) (v : Int) : Nat → Int := fun x => if x = i then v else d x
theorem vec_put (d : Nat → Int) {i : Nat} (hi : i < 8) (v : Int) : (vec d).setIfInBounds i (.int .u64 v) = vec (put d i v) := by
  match i, hi with
  | 0, _ | 1, _ | 2, _ | 3, _ | 4, _ | 5, _ | 6, _ | 7, _ => rfl
theorem set_vec {w : World} {S : Nat} {d : Nat → Int} {t : TypeId} (h : w.heap[S]? = some (.cells (vec d) t)) {i : Nat} (hi : i < 8) (v : Int) : (w.setCell ⟨S, i, none⟩ (.int .u64 v)).heap[S]? = some (.cells (vec (put d i v)) t) := by
  rw [setCell_eq_setRow w S i _ _ (0, 0) _ h, setRow_heap w S _ _ _ _ h, vec_put d hi]
section
variable {N S : Nat} {W w : World} {d : Nat → Int}
theorem K1.make (h : K1 N W S w) : K2 N W S (fun _ => 0) (w.alloc (.cells (vec fun _ => 0) 34)) :=
  ⟨h.below.alloc (by rw [h.size]; exact h.lo) _, by simp [h.size], h.lo, new_at h.size _⟩
theorem K2.set (h : K2 N W S d w) {i : Nat} (hi : i < 8) (v : Int) : K2 N W S (put d i v) (w.setCell ⟨S, i, none⟩ (.int .u64 v)) :=
  ⟨h.below.setCell h.lo _, by rw [(aside_setCell w ⟨S, i, none⟩ (.int .u64 v)).size]; exact h.size, h.lo, set_vec h.cnt hi v⟩
theorem K2.cell (h : K2 N W S d w) {i : Nat} (hi : i < 8) : w.cell? ⟨S, i, none⟩ = some (.int .u64 (d i)) ∧ w.frozen? ⟨S, i, none⟩ = false := ⟨vec_cell h.cnt hi, by simp [World.frozen?, h.cnt]⟩
theorem K2.k1 (h : K2 N W S d w) : K1 N W (S + 1) w := ⟨h.below, h.size, by have := h.lo; omega⟩
end

section
variable {N S : Nat} {W : World} {E : Event → Prop} {Stop : Goroutine → World → Prop} {F F' : World → Prop}
  {b₀ : Frame} {a₀ : Act} {ops₀ : Array Oper} {i₀ : Nat} {rest₀ : List Nat} {k₀ : List Item} {cs : List Frame} {mT : Nat}
set_option maxRecDepth 100000 in
set_option maxHeartbeats 4000000 in
theorem newRun (hs : ∀ {w}, F w → w.heap.size = S) (hset : ∀ {w}, F w → F' (w.alloc (.cells (vec fun _ => 0) 34)))
    (hT : ∀ w, F' w → G0 E Stop mT (G (b₀.at (a₀.put ((ops₀[i₀]?).bind (·.dst)) (.pointer (some ⟨S, 0, none⟩))) (.inRegion ops₀ rest₀ :: k₀)) cs) w) (w : World) (hF : F w) :
    G0 E Stop (mT + 20) (G ((base 7).at ⟨#[undef, undef, undef], []⟩ [.code body7]) (b₀.at a₀ (.inRegion ops₀ (i₀ :: rest₀) :: k₀) :: cs)) w := by
  simp only [body7, Try.f7, Option.getD_some]
  repeat w_go (eqr (F := F))
  u_in (eqr (F := F)) hF
  refine goes_oper_k rfl rfl (by k_ne) (fun K hK => ?_)
  have hbr := build_run
  have hbe := build_ev
  go_simp
  refine hK _ _ ⟨fun e he => ?_, ?_⟩
  · have hm := mem_listed he
    simp [go_sem, hbe] at hm
  clear hK K hbr hbe
  u_in (eqr (F := F)) hF
  refine goes_oper_k rfl rfl (by k_ne) (fun K hK => ?_)
  have hsz := hs hF
  go_simp
  refine hK _ _ ⟨fun e he => ?_, ?_⟩
  · have hm := mem_listed he
    simp [go_sem] at hm
  clear hK K hsz
  replace hF := hset hF
  repeat w_go (eqr (F := F'))
  u_leave1 Try.func7 (eqr (F := F')) hF
  exact goes_upto (hT _ hF) (by omega)

set_option maxRecDepth 100000 in
set_option maxHeartbeats 4000000 in
theorem awakeRun (hE : EvO N E) (hT : ∀ w, K1 N W (S + 1) w → G0 E Stop mT (G (b₀.at (a₀.put ((ops₀[i₀]?).bind (·.dst)) (.bool true)) (.inRegion ops₀ rest₀ :: k₀)) cs) w) (w : World) (hF : K1 N W S w) :
    G0 E Stop (mT + 400) (G ((base 6).at ⟨#[undef, undef, undef, undef, undef, undef, undef, undef, undef, undef, undef, undef, undef, undef, undef], []⟩ [.code body6]) (b₀.at a₀ (.inRegion ops₀ (i₀ :: rest₀) :: k₀) :: cs)) w := by
  have hN := fun (b₀ : Frame) (a₀ : Act) (ops₀ : Array Oper) (i₀ : Nat) (rest₀ : List Nat) (k₀ : List Item) (cs : List Frame) (mT : Nat) hT w hw => newRun (E := E) (Stop := Stop) (S := S) (F := K1 N W S) (F' := K2 N W S fun _ => 0) (b₀ := b₀) (a₀ := a₀) (ops₀ := ops₀) (i₀ := i₀) (rest₀ := rest₀) (k₀ := k₀) (cs := cs) (mT := mT) (fun h => h.size) (fun h => h.make) hT w hw
  have hA := fun (b₀ : Frame) (a₀ : Act) (ops₀ : Array Oper) (i₀ : Nat) (rest₀ : List Nat) (k₀ : List Item) (cs : List Frame) (mT : Nat) hT w hw => addRun (N := N) (E := E) (Stop := Stop) (F := K2 N W S fun _ => 0) (F' := K2 N W S (put (fun _ => 0) 2 5)) (b := S) (i := 2) (x := 0) (v := 5) (b₀ := b₀) (a₀ := a₀) (ops₀ := ops₀) (i₀ := i₀) (rest₀ := rest₀) (k₀ := k₀) (cs := cs) (mT := mT) hE (by omega) (fun h => h.cell (by omega)) (fun h => h.set (by omega) 5) hT w hw
  have hTk := fun (b₀ : Frame) (a₀ : Act) (ops₀ : Array Oper) (i₀ : Nat) (rest₀ : List Nat) (k₀ : List Item) (cs : List Frame) (mT : Nat) hT w hw => takeRun (N := N) (E := E) (Stop := Stop) (F := K2 N W S (put (fun _ => 0) 2 5)) (F' := K2 N W S (put (put (fun _ => 0) 2 5) 2 0)) (b := S) (i := 2) (x := 5) (b₀ := b₀) (a₀ := a₀) (ops₀ := ops₀) (i₀ := i₀) (rest₀ := rest₀) (k₀ := k₀) (cs := cs) (mT := mT) hE (by omega) (fun h => h.cell (by omega)) (fun h => h.set (by omega) 0) hT w hw
  simp only [body6, body7, body8, body10, Try.f6, Try.f7, Try.f8, Try.f10, Option.getD_some] at hN hA hTk ⊢
  have e5 : IntKind.u64.wrap (0 + 5) = 5 := by decide
  rw [e5] at hA
  repeat w_go (eqr (F := K1 N W S))
  u_in (eqr (F := K1 N W S)) hF
  refine goes_call rfl rfl (by k_ne) rfl Try.func7 nm7 rfl ⟨by u_nil, ?_⟩
  walk_nrmf Try.f7
  refine goes_upto (hN _ _ _ _ _ _ _ (mT + 340) ?_ _ hF) (by omega)
  clear hN hF
  intro w' hF
  walk_nrm
  repeat w_go (eqr (F := K2 N W S fun _ => 0))
  u_in (eqr (F := K2 N W S fun _ => 0)) hF
  refine goes_oper_k rfl rfl (by k_ne) (fun K hK => ?_)
  go_simp
  refine hK _ _ ⟨?_, ?_⟩
  · u_none
    intro e he
    have hm := mem_listed he
    simp [go_sem, ev_nep24] at hm
  clear hK K
  repeat w_go (eqr (F := K2 N W S fun _ => 0))
  u_in (eqr (F := K2 N W S fun _ => 0)) hF
  refine goes_call rfl rfl (by k_ne) rfl Try.func8 nm8 rfl ⟨by u_nil, ?_⟩
  walk_nrmf Try.f8
  refine goes_upto (hA _ _ _ _ _ _ _ (mT + 180) ?_ _ hF) (by omega)
  clear hA hF
  intro w' hF
  walk_nrm
  repeat w_go (eqr (F := K2 N W S (put (fun _ => 0) 2 5)))
  u_in (eqr (F := K2 N W S (put (fun _ => 0) 2 5))) hF
  refine goes_call rfl rfl (by k_ne) rfl Try.func10 nm10 rfl ⟨by u_nil, ?_⟩
  walk_nrmf Try.f10
  refine goes_upto (hTk _ _ _ _ _ _ _ (mT + 30) ?_ _ hF) (by omega)
  clear hTk hF
  intro w' hF
  replace hF := hF.k1
  walk_nrm
  repeat w_go (eqr (F := K1 N W (S + 1)))
  u_leave1 Try.func6 (eqr (F := K1 N W (S + 1))) hF
  exact goes_upto (hT _ hF) (by omega)
end
end Go.Proofs.Yteffdcpepjjkbaa.Team

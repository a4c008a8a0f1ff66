/- Ahead of the workers: Add and awake, nobody else being there. -/
import Derived.Test.YteffdcpepjjkbaaTtE
namespace Go.Proofs.Yteffdcpepjjkbaa.Team
open Go.Conc Go.ConcN Go.RowKit Go.Conc.Lib Go.ConcR.Gen Go.ConcN.Gen
open Go.ConcR (KK wgBlock WgAt stA smA rd wr mk Payload Aside2 DC0 ofEvent_cell)
set_option linter.unusedVariables false

theorem nm7 : (Try.f7.name == "runtime.NumGoroutine") = false := by kernel_rfl
theorem nm10 : (Try.f10.name == "runtime.NumGoroutine") = false := by kernel_rfl
theorem nm18 : (Try.f18.name == "runtime.NumGoroutine") = false := by kernel_rfl
theorem nm6 : (Try.f6.name == "runtime.NumGoroutine") = false := by kernel_rfl
noncomputable def body8 : Code := Try.f8.body.getD .skip
noncomputable def body10 : Code := Try.f10.body.getD .skip
noncomputable def body6 : Code := Try.f6.body.getD .skip
noncomputable def body7 : Code := Try.f7.body.getD .skip

/-- What may be listed while nobody else is there. -/
structure EvO (N : Nat) (E : Event → Prop) : Prop where
  any : ∀ a wr s, a.block ≠ N + 4 → a.block ≠ N + 1 → E ⟨.cell a, wr, s⟩
  at_ : ∀ a wr, E ⟨.cell a, wr, true⟩
abbrev G0 (E : Event → Prop) (Stop : Goroutine → World → Prop) (m : Nat) (g : Goroutine) (w : World) : Prop := Goes Try.prog true Eq (DE E) Stop m g w
theorem eqr {F : World → Prop} {w w₁ : World} (h : F w) (e : w = w₁) : F w₁ := e ▸ h

section
variable {P : Program} {main : Bool} {b : Frame} {a : Act} {kk : List Item} {cs : List Frame} {w : World} {f : FuncId} {fn : Func} {ops : Array Oper} {i : Nat} {rest : List Nat} {o : Oper} {ats : Array TypeId} {ad : Addr} {k : IntKind}
theorem run_swap_entry {v n : Int} (hc : w.cell? ad = some (.int k v)) (hz : w.frozen? ad = false) : (Extern.Atomic.swapT (.int k) #[.pointer (some ad), .int k n]).run P w = .ok (.int k v) (w.setCell ad (.int k n)) := by
  change Sem.run P (do
    let a' ← asAddr (.pointer (some ad))
    let old ← Extern.Atomic.read (.int k) a'
    store a' (.int k n) .atomic
    pure old) w = _
  simp [Extern.Atomic.read, asAddr, hc, hz, run_store P w ad (.int k n) .atomic rfl, Result.andThen]
theorem events_swap_entry {v n : Int} (hc : w.cell? ad = some (.int k v)) (hz : w.frozen? ad = false) (es : Array Event) : (Extern.Atomic.swapT (.int k) #[.pointer (some ad), .int k n]).events P w es = (es.push ⟨.cell ad, false, true⟩).push ⟨.cell ad, true, true⟩ := by
  change Sem.events P (do
    let a' ← asAddr (.pointer (some ad))
    let old ← Extern.Atomic.read (.int k) a'
    store a' (.int k n) .atomic
    pure old) w es = _
  simp [Extern.Atomic.read, asAddr, hc, hz, events_load, events_store P w _ ad (.int k n) .atomic rfl, Result.evThen]
/-- THE ATOMIC SWAP. -/
theorem stepG_swap_atomic {x y : Operand} (ho : ops[i]? = some o) (hw : Region.wanted o (yielded ops a.tmps) = true) (hk : b.kind ≠ .early) (hop : o.op = .call { callee := .value (.func f), args := #[x, y], argTypes := ats })
    (hf : P.funcs[f]? = some fn) (hname : (fn.name == "runtime.NumGoroutine") = false) (hb : fn.body.isNone = true) (hn : Extern.findNext fn = none) (k : IntKind)
    (he : Extern.find fn = some (Extern.Atomic.swapT (.int k))) {ad : Addr} {v n : Int} (hx : a.eval x = .pointer (some ad)) (hy : a.eval y = .int k n) (hc : w.cell? ad = some (.int k v)) (hz : w.frozen? ad = false) :
    stepG P main (G (b.at a (.inRegion ops (i :: rest) :: kk)) cs) w =
      .go (G (b.at (a.put o.dst (.int k v)) (.inRegion ops rest :: kk)) cs) (w.setCell ad (.int k n)) #[⟨.cell ad, false, true⟩, ⟨.cell ad, true, true⟩] := by
  have hm : (#[x, y] : Array Operand).map a.eval = #[.pointer (some ad), .int k n] := by simp [hx, hy]
  exact stepG_entry ho hw hk hop hf hname hb hn he (by rw [hm]; exact run_swap_entry hc hz) (by rw [hm, events_swap_entry hc hz]; rfl) (sync_rw ad)
end

section
variable {N : Nat} {E : Event → Prop} {Stop : Goroutine → World → Prop} {F F' : World → Prop} {b i : Nat} {x v : Int}
  {b₀ : Frame} {a₀ : Act} {ops₀ : Array Oper} {i₀ : Nat} {rest₀ : List Nat} {k₀ : List Item} {cs : List Frame} {mT : Nat}
set_option maxRecDepth 100000 in
set_option maxHeartbeats 4000000 in
theorem addRun (hE : EvO N E) (hi : i < 8) (hc : ∀ {w}, F w → w.cell? ⟨b, i, none⟩ = some (.int .u64 x) ∧ w.frozen? ⟨b, i, none⟩ = false) (hset : ∀ {w}, F w → F' (w.setCell ⟨b, i, none⟩ (.int .u64 (IntKind.u64.wrap (x + v)))))
    (hT : ∀ w, F' w → G0 E Stop mT (G (b₀.at (a₀.put ((ops₀[i₀]?).bind (·.dst)) (.int .u64 (IntKind.u64.wrap (x + v)))) (.inRegion ops₀ rest₀ :: k₀)) cs) w) (w : World) (hF : F w) :
    G0 E Stop (mT + 120) (G ((base 8).at ⟨#[.pointer (some ⟨b, 0, none⟩), .int .i64 i, .int .u64 v, undef, undef, undef, undef, undef, undef, undef, undef, undef, undef, undef, undef, undef], []⟩ [.code body8]) (b₀.at a₀ (.inRegion ops₀ (i₀ :: rest₀) :: k₀) :: cs)) w := by
  have h0 : ¬ (i : Int) < 0 := by omega
  have h8 : ¬ 8 ≤ (i : Int) := by omega
  have h8' : ¬ 8 ≤ i := by omega
  have hx0 : (0 : Int) ≤ (i : Int) := by omega
  have hx8 : (i : Int) < 8 := by omega
  simp only [body8, Try.f8, Option.getD_some]
  repeat w_go (eqr (F := F))
  u_call Try.func15 nm15 Try.f15 (eqr (F := F)) hF
  repeat w_go (eqr (F := F))
  n_nil (eqr (F := F)) hF
  repeat w_go (eqr (F := F))
  have hix := fun w es => events_indexAt_array (P := Try.prog) (w := w) (es := es) 32 31 8 ⟨b, 0, none⟩ .i64 (i : Int) Try.underlying32 ⟨hx0, hx8⟩
  w_go (eqr (F := F))
  clear hix
  repeat w_go (eqr (F := F))
  u_leave1 Try.func15 (eqr (F := F)) hF
  repeat w_go (eqr (F := F))
  n_nil (eqr (F := F)) hF
  repeat w_go (eqr (F := F))
  u_call Try.func16 nm16 Try.f16 (eqr (F := F)) hF
  repeat w_go (eqr (F := F))
  u_in (eqr (F := F)) hF
  rw [stepG_add_atomic rfl rfl (by k_ne) rfl Try.func23 (by kernel_rfl) (by kernel_rfl) (by kernel_rfl) .u64 (by kernel_rfl) rfl rfl (hc hF).1 (hc hF).2]
  simp only [goes_go]
  refine ⟨fun e he => ?_, ?_⟩
  · simp only [List.mem_toArray, List.mem_cons, List.not_mem_nil, or_false] at he
    rcases he with rfl | rfl
    · exact hE.at_ _ _
    · exact hE.at_ _ _
  replace hF := hset hF
  generalize IntKind.u64.wrap (x + v) = y at hT hF ⊢
  walk_nrm
  repeat w_go (eqr (F := F'))
  u_leave1 Try.func16 (eqr (F := F')) hF
  repeat w_go (eqr (F := F'))
  u_leave1 Try.func8 (eqr (F := F')) hF
  exact goes_upto (hT _ hF) (by omega)
set_option maxRecDepth 100000 in
set_option maxHeartbeats 4000000 in
theorem takeRun (hE : EvO N E) (hi : i < 8) (hc : ∀ {w}, F w → w.cell? ⟨b, i, none⟩ = some (.int .u64 x) ∧ w.frozen? ⟨b, i, none⟩ = false) (hset : ∀ {w}, F w → F' (w.setCell ⟨b, i, none⟩ (.int .u64 0)))
    (hT : ∀ w, F' w → G0 E Stop mT (G (b₀.at (a₀.put ((ops₀[i₀]?).bind (·.dst)) (.int .u64 x)) (.inRegion ops₀ rest₀ :: k₀)) cs) w) (w : World) (hF : F w) :
    G0 E Stop (mT + 120) (G ((base 10).at ⟨#[.pointer (some ⟨b, 0, none⟩), .int .i64 i, undef, undef, undef, undef, undef, undef, undef, undef, undef, undef, undef], []⟩ [.code body10]) (b₀.at a₀ (.inRegion ops₀ (i₀ :: rest₀) :: k₀) :: cs)) w := by
  have h0 : ¬ (i : Int) < 0 := by omega
  have h8 : ¬ 8 ≤ (i : Int) := by omega
  have h8' : ¬ 8 ≤ i := by omega
  have hx0 : (0 : Int) ≤ (i : Int) := by omega
  have hx8 : (i : Int) < 8 := by omega
  simp only [body10, Try.f10, Option.getD_some]
  repeat w_go (eqr (F := F))
  u_call Try.func15 nm15 Try.f15 (eqr (F := F)) hF
  repeat w_go (eqr (F := F))
  n_nil (eqr (F := F)) hF
  repeat w_go (eqr (F := F))
  have hix := fun w es => events_indexAt_array (P := Try.prog) (w := w) (es := es) 32 31 8 ⟨b, 0, none⟩ .i64 (i : Int) Try.underlying32 ⟨hx0, hx8⟩
  w_go (eqr (F := F))
  clear hix
  repeat w_go (eqr (F := F))
  u_leave1 Try.func15 (eqr (F := F)) hF
  repeat w_go (eqr (F := F))
  n_nil (eqr (F := F)) hF
  repeat w_go (eqr (F := F))
  u_call Try.func18 nm18 Try.f18 (eqr (F := F)) hF
  repeat w_go (eqr (F := F))
  u_in (eqr (F := F)) hF
  rw [stepG_swap_atomic rfl rfl (by k_ne) rfl Try.func25 (by kernel_rfl) (by kernel_rfl) (by kernel_rfl) .u64 (by kernel_rfl) rfl rfl (hc hF).1 (hc hF).2]
  simp only [goes_go]
  refine ⟨fun e he => ?_, ?_⟩
  · simp only [List.mem_toArray, List.mem_cons, List.not_mem_nil, or_false] at he
    rcases he with rfl | rfl
    · exact hE.at_ _ _
    · exact hE.at_ _ _
  replace hF := hset hF
  walk_nrm
  repeat w_go (eqr (F := F'))
  u_leave1 Try.func18 (eqr (F := F')) hF
  repeat w_go (eqr (F := F'))
  u_leave1 Try.func10 (eqr (F := F')) hF
  exact goes_upto (hT _ hF) (by omega)
end
end Go.Proofs.Yteffdcpepjjkbaa.Team

/- Behind the join: All, in whatever company, the heap standing. -/
import Derived.Test.YteffdcpepjjkbaaTtA
import Derived.KernelRfl
namespace Go.Proofs.Yteffdcpepjjkbaa.Team
open Go.Conc Go.ConcN Go.RowKit Go.Conc.Lib Go.ConcR.Gen Go.ConcN.Gen
open Go.ConcR (KK wgBlock WgAt stA smA rd wr mk Payload Aside2 DC0 ofEvent_cell)
set_option linter.unusedVariables false

theorem array21 (T : Array Value) (h : T.size = 21) : ∃ v0 v1 v2 v3 v4 v5 v6 v7 v8 v9 v10 v11 v12 v13 v14 v15 v16 v17 v18 v19 v20 : Value, T = #[v0, v1, v2, v3, v4, v5, v6, v7, v8, v9, v10, v11, v12, v13, v14, v15, v16, v17, v18, v19, v20] := by
  obtain ⟨l⟩ := T
  match l, h with
  | [v0, v1, v2, v3, v4, v5, v6, v7, v8, v9, v10, v11, v12, v13, v14, v15, v16, v17, v18, v19, v20], _ => exact ⟨v0, v1, v2, v3, v4, v5, v6, v7, v8, v9, v10, v11, v12, v13, v14, v15, v16, v17, v18, v19, v20, rfl⟩
noncomputable def body12 : Code := Try.f12.body.getD .skip
noncomputable def L12 : Code := match body12 with | .seq _ (.seq _ (.seq _ (.seq (.seq _ (.block _ (.loop c))) _))) => c | _ => .skip
noncomputable def R12 : Code := match body12 with | .seq _ (.seq _ (.seq _ (.seq _ r))) => r | _ => .skip

theorem made_run : ∀ w, (Instr.makeSlice 41 (.int .i64 8) (.int .i64 8)).run Try.prog w = .ok (.slice (some ⟨w.heap.size, 0, none⟩) 8 8) (w.alloc (.cells #[.int .u64 0, .int .u64 0, .int .u64 0, .int .u64 0, .int .u64 0, .int .u64 0, .int .u64 0, .int .u64 0] 29)) := fun _ => by kernel_rfl
theorem made_ev : ∀ w es, (Instr.makeSlice 41 (.int .i64 8) (.int .i64 8)).events Try.prog w es = es := fun _ _ => by kernel_rfl
/-- The first j of them. -/
def upto (c : Nat → Int) (j : Nat) : Nat → Int := fun x => if x < j then c x else 0
theorem upto_all (c : Nat → Int) : vec (upto c 8) = vec c := rfl
theorem upto_set (c : Nat → Int) {j : Nat} (hj : j < 8) : (vec (upto c j)).setIfInBounds j (.int .u64 (c j)) = vec (upto c (j + 1)) := by
  match j, hj with
  | 0, _ | 1, _ | 2, _ | 3, _ | 4, _ | 5, _ | 6, _ | 7, _ => rfl

/-- What is known behind the join: the counters, and what was to come out. -/
structure FK (N hi : Nat) (W : World) (c : Nat → Int) (w : World) : Prop where
  below : Below N W w
  hi5 : N + 3 ≤ hi
  size : hi ≤ w.heap.size
  cnt : w.heap[N + 1]? = some (.cells (vec c) 34)
  bef : w.heap[N + 2]? = some (.cells (vec c) 35)
/-- .. and a slice of All's. -/
structure FA (N hi : Nat) (W : World) (c : Nat → Int) (S : Nat) (d : Nat → Int) (w : World) : Prop where
  k : FK N hi W c w
  lo : hi ≤ S
  new : w.heap[S]? = some (.cells (vec d) 29)

section
variable {N hi : Nat} {W : World} {c d : Nat → Int} {S : Nat} {w w₁ : World}
theorem FK.rely (h : FK N hi W c w) (r : Cfg.RF w w₁) : FK N hi W c w₁ :=
  ⟨⟨r.os.trans h.below.os, r.tape.trans h.below.tape, r.output.trans h.below.output, by rw [r.heap]; exact h.below.size, fun k hk => by rw [r.heap]; exact h.below.block k hk⟩, h.hi5, by rw [r.heap]; exact h.size, by rw [r.heap]; exact h.cnt, by rw [r.heap]; exact h.bef⟩
theorem FA.rely (h : FA N hi W c S d w) (r : Cfg.RF w w₁) : FA N hi W c S d w₁ := ⟨h.k.rely r, h.lo, by rw [r.heap]; exact h.new⟩
theorem FK.alloc (h : FK N hi W c w) (o : Obj) (hN : N ≤ w.heap.size) : FK N hi W c (w.alloc o) := by
  have h5 := h.hi5
  have hs := h.size
  exact ⟨h.below.alloc hN o, h5, by simp; omega, (Below.heap_alloc _ _ _ (by omega)).trans h.cnt, (Below.heap_alloc _ _ _ (by omega)).trans h.bef⟩
theorem FK.make (h : FK N hi W c w) : FA N hi W c w.heap.size d (w.alloc (.cells (vec d) 29)) :=
  ⟨h.alloc _ (by have := h.hi5; have := h.size; omega), h.size, heap_alloc_new w _⟩
theorem FK.store (h : FK N hi W c w) {a : Addr} (ha : hi ≤ a.block) (v : Value) : FK N hi W c (w.setCell a v) := by
  have h5 := h.hi5
  have hs := h.size
  have hA := aside_setCell w a v
  exact ⟨h.below.setCell (by omega) v, h5, by rw [hA.size]; exact hs, (hA.block _ (by omega)).trans h.cnt, (hA.block _ (by omega)).trans h.bef⟩
theorem FA.set {j : Nat} (h : FA N hi W c S (upto c j) w) (hj : j < 8) : FA N hi W c S (upto c (j + 1)) (w.setCell ⟨S, j, none⟩ (.int .u64 (c j))) := by
  refine ⟨h.k.store h.lo _, h.lo, ?_⟩
  rw [setCell_eq_setRow w S j _ _ (0, 0) _ h.new, setRow_heap w S _ _ _ _ h.new, upto_set c hj]
theorem FA.cell {j : Nat} (h : FA N hi W c S d w) (hj : j < 8) : w.cell? ⟨S, j, none⟩ = some (.int .u64 (d j)) ∧ w.frozen? ⟨S, j, none⟩ = false := ⟨vec_cell h.new hj, by simp [World.frozen?, h.new]⟩
end

section
variable {N hi : Nat} {W : World} {c : Nat → Int} {E : Event → Prop} {Stop : Goroutine → World → Prop} {b₀ : Frame} {a₀ : Act} {ops₀ : Array Oper} {i₀ : Nat} {rest₀ : List Nat} {k₀ : List Item} {cs : List Frame} {mT : Nat}
def AnchA (S j : Nat) (N : Nat) (c₀ : Frame) (cs : List Frame) (g : Goroutine) : Prop :=
  ∃ T : Array Value, g = G ((base 12).at ⟨T, []⟩ [.code L12, .inLoop L12, .inBlock 0, .code R12]) (c₀ :: cs) ∧ T.size = 21 ∧ T[0]? = some (.pointer (some ⟨N + 1, 0, none⟩)) ∧
    T[3]? = some (.slice (some ⟨S, 0, none⟩) 8 8) ∧ T[9]? = some (.int .i64 8) ∧ T[10]? = some (.int .i64 j)

set_option maxRecDepth 100000 in
set_option maxHeartbeats 8000000 in
theorem allLoop (hE : EvOk N hi E) (hT : ∀ S w, FA N hi W c S c w → GF E Stop mT (G (b₀.at (a₀.put ((ops₀[i₀]?).bind (·.dst)) (.slice (some ⟨S, 0, none⟩) 8 8)) (.inRegion ops₀ rest₀ :: k₀)) cs) w) :
    ∀ (r j : Nat), j + r = 8 → ∀ (S : Nat) (g : Goroutine) (w : World), AnchA S j N (b₀.at a₀ (.inRegion ops₀ (i₀ :: rest₀) :: k₀)) cs g → FA N hi W c S (upto c j) w → GF E Stop (mT + 40 + 140 * r) g w := by
  intro r
  induction r with
  | zero =>
    intro j hj
    obtain rfl : j = 8 := by omega
    rw [show mT + 40 + 140 * 0 = mT + 40 by omega]
    rintro S g w ⟨T, rfl, hT', t0, t3, t9, t10⟩ hF
    obtain ⟨v0, v1, v2, v3, v4, v5, v6, v7, v8, v9, v10, v11, v12, v13, v14, v15, v16, v17, v18, v19, v20, rfl⟩ := array21 T hT'
    simp only [List.getElem?_toArray, List.getElem?_cons_succ, List.getElem?_cons_zero, Option.some.injEq] at t0 t3 t9 t10
    subst t0 t3 t9 t10
    clear hT'
    simp only [L12, R12, body12, Try.f12, Option.getD_some]
    repeat w_go FA.rely
    u_leave1 Try.func12 FA.rely hF
    have hF' : FA N hi W c S c _ := ⟨hF.k, hF.lo, hF.new⟩
    exact goes_upto (hT _ _ hF') (by omega)
  | succ r ih =>
    intro j hj
    have h₁ := ih (j + 1) (by omega)
    rw [show mT + 40 + 140 * (r + 1) = mT + 40 + 140 * r + 140 by omega]
    generalize mT + 40 + 140 * r = f₁ at h₁ ⊢
    clear ih
    rintro S g w ⟨T, rfl, hT', t0, t3, t9, t10⟩ hF
    obtain ⟨v0, v1, v2, v3, v4, v5, v6, v7, v8, v9, v10, v11, v12, v13, v14, v15, v16, v17, v18, v19, v20, rfl⟩ := array21 T hT'
    simp only [List.getElem?_toArray, List.getElem?_cons_succ, List.getElem?_cons_zero, Option.some.injEq] at t0 t3 t9 t10
    subst t0 t3 t9 t10
    clear hT'
    have hj8 : j < 8 := by omega
    have hlt : (j : Int) < 8 := by omega
    have hj0 : (0 : Int) ≤ (j : Int) := by omega
    have hwr : IntKind.i64.wrap ((j : Int) + 1) = ((j + 1 : Nat) : Int) := by rw [IntKind.wrap_i64]; omega
    have hG := fun (b₀ : Frame) (a₀ : Act) (ops₀ : Array Oper) (i₀ : Nat) (rest₀ : List Nat) (k₀ : List Item) (cs : List Frame) (mT : Nat) hT w hw => getRun (E := E) (Stop := Stop) (F := FA N hi W c S (upto c j)) (c := c) (j := j) (b₀ := b₀) (a₀ := a₀) (ops₀ := ops₀) (i₀ := i₀) (rest₀ := rest₀) (k₀ := k₀) (cs := cs) (mT := mT) hE hj8 (fun h r => FA.rely h r) (fun h => vec_cell h.k.cnt hj8) hT w hw
    simp only [L12, R12, body12, body9, Try.f12, Try.f9, Option.getD_some] at hG ⊢
    repeat w_go FA.rely
    u_in FA.rely hF
    refine goes_call rfl rfl (by k_ne) rfl Try.func9 nm9 rfl ⟨by u_nil, ?_⟩
    walk_nrmf Try.f9
    refine goes_upto (hG _ _ _ _ _ _ _ (f₁ + 30) ?_ _ hF) (by omega)
    clear hG hF
    intro w' hF
    walk_nrm
    repeat w_go FA.rely
    u_in FA.rely hF
    refine goes_oper_k rfl rfl (by k_ne) (fun K hK => ?_)
    obtain ⟨hu1, hu2⟩ := hF.cell hj8
    go_simp
    refine hK _ _ ⟨fun e he => ?_, ?_⟩
    · have hm := mem_listed he
      simp [go_sem, storedEv, *] at hm
      try (subst hm; exact hE.wr _ _ hF.lo)
    clear hK K hu1 hu2
    replace hF := hF.set hj8
    repeat w_nl FA.rely
    u_c stepG_inLoop FA.rely hF
    exact goes_upto (h₁ _ _ _ ⟨_, rfl, by simp, by simp, by simp, by simp, by simp⟩ hF) (by omega)

set_option maxRecDepth 100000 in
set_option maxHeartbeats 8000000 in
theorem allRun (hE : EvOk N hi E) (hT : ∀ S w, FA N hi W c S c w → GF E Stop mT (G (b₀.at (a₀.put ((ops₀[i₀]?).bind (·.dst)) (.slice (some ⟨S, 0, none⟩) 8 8)) (.inRegion ops₀ rest₀ :: k₀)) cs) w) :
    ∀ w, FK N hi W c w → GF E Stop (mT + 1200) (G ((base 12).at ⟨#[.pointer (some ⟨N + 1, 0, none⟩), undef, undef, undef, undef, undef, undef, undef, undef, undef, undef, undef, undef, undef, undef, undef, undef, undef, undef, undef, undef], []⟩ [.code body12]) (b₀.at a₀ (.inRegion ops₀ (i₀ :: rest₀) :: k₀) :: cs)) w := by
  have h₁ := allLoop (c := c) hE hT 8 0 (by omega)
  rw [show mT + 1200 = mT + 40 + 140 * 8 + 40 by omega]
  generalize mT + 40 + 140 * 8 = f₁ at h₁ ⊢
  intro w hF
  simp only [body12, Try.f12, Option.getD_some]
  repeat w_go FK.rely
  n_nil FK.rely hF
  repeat w_go FK.rely
  u_in FK.rely hF
  refine goes_oper_k rfl rfl (by k_ne) (fun K hK => ?_)
  have hmk := made_run
  have hme := made_ev
  go_simp
  refine hK _ _ ⟨fun e he => ?_, ?_⟩
  · have hm := mem_listed he
    simp [go_sem, hme] at hm
  clear hK K hmk hme
  have hs := hF.size
  replace hF := hF.make (d := upto c 0)
  have e0 : vec (upto c 0) = #[.int .u64 0, .int .u64 0, .int .u64 0, .int .u64 0, .int .u64 0, .int .u64 0, .int .u64 0, .int .u64 0] := rfl
  rw [e0] at hF
  clear e0
  repeat w_bar FA.rely
  u_c stepG_loop FA.rely hF
  exact goes_upto (h₁ _ _ _ ⟨_, rfl, by simp, by simp, by simp, by simp, by simp⟩ hF) (by omega)
end
end Go.Proofs.Yteffdcpepjjkbaa.Team

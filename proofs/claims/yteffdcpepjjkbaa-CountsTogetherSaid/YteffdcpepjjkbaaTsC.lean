/- Together's starter: what it knows of the world while workers are being started. -/
import Derived.Test.YteffdcpepjjkbaaTsB
import Derived.Below
namespace Go.Proofs.Yteffdcpepjjkbaa.Team
open Go.Conc Go.ConcN Go.RowKit Go.Conc.Lib Go.ConcR.Gen Go.ConcN.Gen
open Go.ConcR (KK wgBlock WgAt stA smA rd wr mk Payload Aside2 DC0 ofEvent_cell)
set_option linter.unusedVariables false

/-- Eight numbers. -/
def vec (c : Nat → Int) : Array Value := #[.int .u64 (c 0), .int .u64 (c 1), .int .u64 (c 2), .int .u64 (c 3), .int .u64 (c 4), .int .u64 (c 5), .int .u64 (c 6), .int .u64 (c 7)]

/-- N: how many blocks there were at the entry; W: the world at the entry; j workers are started; s blocks of this iteration are made. -/
structure SI (N n : Nat) (W : World) (L : Nat → Lst) (c0 bf : Nat → Int) (j s : Nat) (u1 u2 u3 : Option Value) (w : World) : Prop where
  below : Below N W w
  size : w.heap.size = N + 5 + 3 * j + s
  box : w.heap[N + 3]? = some (.cells #[.pointer (some ⟨N + 1, 0, none⟩)] 24)
  bef : w.heap[N + 2]? = some (.cells (vec bf) 35)
  live : WgLive 57 (N + 4) w
  cnt : ∃ c, (cfg (N + 1) (N + 3) n L c0).Cnt c w
  c1 : ∀ v, u1 = some v → w.heap[N + 5 + 3 * j]? = some (.cells #[v] 45)
  c2 : ∀ v, u2 = some v → w.heap[N + 6 + 3 * j]? = some (.cells #[v] 62)
  c3 : ∀ v, u3 = some v → w.heap[N + 7 + 3 * j]? = some (.cells #[v] 1)

section
variable {N n : Nat} {W : World} {L : Nat → Lst} {c0 bf : Nat → Int} {j s : Nat} {u1 u2 u3 : Option Value} {w w₁ : World}
theorem SI.rely (h : SI N n W L c0 bf j s u1 u2 u3 w) (r : (cfg (N + 1) (N + 3) n L c0).RS j w w₁) : SI N n W L c0 bf j s u1 u2 u3 w₁ := by
  have hb : ∀ b, b ≠ N + 4 → b ≠ N + 1 → (∀ i, i < j → b ≠ N + 5 + 3 * i) → w₁.heap[b]? = w.heap[b]? := fun b h1 h2 h3 => r.block b h1 h2 (fun i hi => by have := h3 i hi; show b ≠ N + 3 + 2 + 3 * i; omega)
  refine ⟨⟨r.os.trans h.below.os, r.tape.trans h.below.tape, r.output.trans h.below.output, by rw [r.size]; exact h.below.size, fun k hk => (hb k (by omega) (by omega) (fun _ _ => by omega)).trans (h.below.block k hk)⟩, by rw [r.size]; exact h.size,
    (hb _ (by omega) (by omega) (fun _ _ => by omega)).trans h.box, (hb _ (by omega) (by omega) (fun _ _ => by omega)).trans h.bef, r.live h.live, r.cnt h.cnt,
    fun v e => (hb _ (by omega) (by omega) (fun _ _ => by omega)).trans (h.c1 v e), fun v e => (hb _ (by omega) (by omega) (fun _ _ => by omega)).trans (h.c2 v e), fun v e => (hb _ (by omega) (by omega) (fun _ _ => by omega)).trans (h.c3 v e)⟩

/-- The world turns above the known blocks alone. -/
theorem SI.low (h : SI N n W L c0 bf j s u1 u2 u3 w) {s' : Nat} {v1 v2 v3 : Option Value} (hss : s ≤ s') (hsz : w₁.heap.size = N + 5 + 3 * j + s') (hlow : ∀ b, b < N + 5 + 3 * j → w₁.heap[b]? = w.heap[b]?) (ho : w₁.os = w.os) (ht : w₁.tape = w.tape) (hp : w₁.output = w.output)
    (k1 : ∀ v, v1 = some v → w₁.heap[N + 5 + 3 * j]? = some (.cells #[v] 45)) (k2 : ∀ v, v2 = some v → w₁.heap[N + 6 + 3 * j]? = some (.cells #[v] 62)) (k3 : ∀ v, v3 = some v → w₁.heap[N + 7 + 3 * j]? = some (.cells #[v] 1)) :
    SI N n W L c0 bf j s' v1 v2 v3 w₁ := by
  have hs := h.below.size
  have hs2 := h.size
  refine ⟨⟨ho.trans h.below.os, ht.trans h.below.tape, hp.trans h.below.output, ?_, fun k hk => (hlow k (by omega)).trans (h.below.block k hk)⟩, hsz, (hlow _ (by omega)).trans h.box, (hlow _ (by omega)).trans h.bef, live_block h.live (hlow _ (by omega)), ?_, k1, k2, k3⟩
  · omega
  · obtain ⟨c, hc⟩ := h.cnt
    exact ⟨c, Cfg.Cnt.of_block hc (hlow (N + 1) (by omega))⟩

theorem low_alloc {S : Nat} (h : w.heap.size = S) (o : Obj) : ∀ b, b < S → (w.alloc o).heap[b]? = w.heap[b]? := fun b hb => Below.heap_alloc _ _ _ (by omega)
theorem heap_set1 {b : Nat} {t : TypeId} {u : Value} (h : w.heap[b]? = some (.cells #[u] t)) (v : Value) : (w.setCell ⟨b, 0, none⟩ v).heap[b]? = some (.cells #[v] t) := by
  rw [setCell_eq_setRow w b 0 #[u] t (0, 0) _ h, setRow_heap w b _ _ t _ h]
  simp
theorem new_at {S : Nat} (h : w.heap.size = S) (o : Obj) : (w.alloc o).heap[S]? = some o := by
  have := heap_alloc_new w o
  rwa [h] at this

theorem SI.alloc1 (h : SI N n W L c0 bf j 0 none none none w) (v : Value) : SI N n W L c0 bf j 1 (some v) none none (w.alloc (.cells #[v] 45)) := by
  have hs := h.size
  refine h.low (by omega) (by simp [hs]) (fun b hb => low_alloc hs _ b (by omega)) rfl rfl rfl (fun u e => ?_) (fun u e => by cases e) (fun u e => by cases e)
  cases e
  exact new_at (by omega) _
theorem SI.store1 {u : Value} (h : SI N n W L c0 bf j 1 (some u) none none w) (v : Value) : SI N n W L c0 bf j 1 (some v) none none (w.setCell ⟨N + 5 + 3 * j, 0, none⟩ v) := by
  have hA := aside_setCell w ⟨N + 5 + 3 * j, 0, none⟩ v
  refine h.low (by omega) (by rw [hA.size]; exact h.size) (fun b hb => hA.block b (by simp; omega)) hA.os hA.tape hA.output (fun u' e => ?_) (fun u e => by cases e) (fun u e => by cases e)
  cases e
  exact heap_set1 (h.c1 u rfl) v
theorem SI.alloc2 {u : Value} (h : SI N n W L c0 bf j 1 (some u) none none w) (v : Value) : SI N n W L c0 bf j 2 (some u) (some v) none (w.alloc (.cells #[v] 62)) := by
  have hs := h.size
  refine h.low (by omega) (by simp [hs]) (fun b hb => low_alloc hs _ b (by omega)) rfl rfl rfl (fun u' e => (low_alloc hs _ _ (by omega)).trans (h.c1 u' e)) (fun u' e => ?_) (fun u e => by cases e)
  cases e
  exact new_at (by omega) _
theorem SI.alloc3 {u u' : Value} (h : SI N n W L c0 bf j 2 (some u) (some u') none w) (v : Value) : SI N n W L c0 bf j 3 (some u) (some u') (some v) (w.alloc (.cells #[v] 1)) := by
  have hs := h.size
  refine h.low (by omega) (by simp [hs]) (fun b hb => low_alloc hs _ b (by omega)) rfl rfl rfl (fun u' e => (low_alloc hs _ _ (by omega)).trans (h.c1 u' e)) (fun u' e => (low_alloc hs _ _ (by omega)).trans (h.c2 u' e)) (fun u' e => ?_)
  cases e
  exact new_at (by omega) _
theorem SI.next (h : SI N n W L c0 bf j 3 u1 u2 u3 w) : SI N n W L c0 bf (j + 1) 0 none none none w :=
  ⟨h.below, by rw [h.size]; omega, h.box, h.bef, h.live, h.cnt, fun _ e => (by cases e), fun _ e => (by cases e), fun _ e => (by cases e)⟩

theorem cell_of_one {b : Nat} {t : TypeId} {u : Value} (h : w.heap[b]? = some (.cells #[u] t)) : w.cell? ⟨b, 0, none⟩ = some u ∧ w.frozen? ⟨b, 0, none⟩ = false := ⟨by simp [World.cell?, h], by simp [World.frozen?, h]⟩

/-- The starter reads a cell that is neither the group's nor a counter. -/
theorem ev0_rd (a : Addr) (s : Bool) (h : a.block ≠ N + 4) (h' : a.block ≠ N + 1) : Ev0 (N + 3 + 1) (Own1 (cfg (N + 1) (N + 3) n L c0)) (Rd1 (cfg (N + 1) (N + 3) n L c0)) (j + 1) ⟨.cell a, false, s⟩ := by
  refine ⟨fun fn pos => ⟨rfl, fun y hy => ?_⟩, by simp, by simp, by simp⟩
  simp only [ofEvent_cell, MemAct.touch?, Option.some.injEq] at hy
  subst hy
  exact .inr ⟨fun ⟨a', e, hb⟩ => by cases e; exact h hb, fun k _ _ ⟨_, a', e, hb⟩ => by cases e; exact h' hb, fun e => by cases e⟩
/-- It writes a cell of a block that is still its own. -/
theorem ev0_wr (a : Addr) (s : Bool) (h : N + 5 + 3 * j ≤ a.block) : Ev0 (N + 3 + 1) (Own1 (cfg (N + 1) (N + 3) n L c0)) (Rd1 (cfg (N + 1) (N + 3) n L c0)) (j + 1) ⟨.cell a, true, s⟩ := by
  refine ⟨fun fn pos => ⟨rfl, fun y hy => ?_⟩, by simp, by simp, by simp⟩
  simp only [ofEvent_cell, MemAct.touch?, Option.some.injEq] at hy
  subst hy
  refine .inr ⟨fun ⟨a', e, hb⟩ => by cases e; omega, fun k _ _ ⟨_, a', e, hb⟩ => ?_, fun _ k k1 kj ⟨k2, h3, a', e, hb⟩ => ?_⟩
  · cases e
    have : a.block = N + 1 := hb
    omega
  · cases e
    omega
end
end Go.Proofs.Yteffdcpepjjkbaa.Team

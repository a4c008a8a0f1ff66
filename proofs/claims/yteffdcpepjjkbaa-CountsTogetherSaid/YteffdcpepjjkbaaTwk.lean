/- Together's workers: where things lie, what a worker knows. -/
import Derived.Test.YteffdcpepjjkbaaTlaw
namespace Go.Proofs.Yteffdcpepjjkbaa.Team
open Go.Conc Go.ConcN Go.RowKit Go.Conc.Lib Go.ConcR.Gen Go.ConcN.Gen
open Go.ConcR (KK wgBlock WgAt stA smA rd wr mk Payload Aside2 DC0 ofEvent_cell)

/-- A list of indices. -/
structure Lst where
  a : Option Addr
  len : Nat
  cap : Nat
  xs : List Int
def Lst.val (s : Lst) : Value := .slice s.a s.len s.cap

/-- The indices that are any. -/
def valid : List Int → List Nat
  | [] => []
  | x :: xs => if 0 ≤ x ∧ x < 8 then x.toNat :: valid xs else valid xs

theorem valid_lt : ∀ (xs : List Int) (x : Nat), x ∈ valid xs → x < 8
  | [], _, h => by cases h
  | y :: ys, x, h => by
    unfold valid at h
    split at h
    · rcases List.mem_cons.1 h with rfl | h
      · omega
      · exact valid_lt ys x h
    · exact valid_lt ys x h

/-- What worker k may read. -/
def rdOf (Cb B k : Nat) (l : Loc) : Prop := 1 ≤ k ∧ ∃ a, l = .cell a ∧ (a.block < Cb ∨ a.block = B ∨ a.block = B + 2 + 3 * (k - 1) ∨ a.block = B + 3 + 3 * (k - 1) ∨ a.block = B + 4 + 3 * (k - 1))
noncomputable abbrev cfg (Cb B n : Nat) (L : Nat → Lst) (c0 : Nat → Int) : Cfg where
  P := Try.prog
  ty := 57
  Wg := B + 1
  Cb := Cb
  tC := 34
  n := n
  Ck := fun i => B + 2 + 3 * i
  Rd := rdOf Cb B
  Lw := fun i => B + 2 + 3 * i
  val := fun i => (L i).val
  adds := fun i => valid (L i).xs
  c0 := c0

section
variable {Cb B n : Nat} {L : Nat → Lst} {c0 : Nat → Int}
theorem geo (h : Cb < B) : (cfg Cb B n L c0).Geo := by
  refine ⟨fun a b h => ?_, ?_, ?_, ?_, fun i _ => ?_, fun i _ => ?_, fun i _ => ?_, fun i i' _ _ => ?_, fun k l h1 h2 => ?_, fun i x hx => valid_lt _ _ hx⟩
  · show B + 2 + 3 * a ≤ B + 2 + 3 * b; omega
  · show B + 1 < B + 2 + 3 * 0; omega
  · show Cb < B + 2 + 3 * 0; omega
  · show Cb ≠ B + 1; omega
  · show B + 2 + 3 * i < B + 2 + 3 * (i + 1); omega
  · show B + 2 + 3 * i ≠ B + 1; omega
  · show B + 2 + 3 * i ≠ Cb; omega
  · show i ≠ i' → B + 2 + 3 * i ≠ B + 2 + 3 * i'; omega
  · obtain ⟨_, a, rfl, hb⟩ := h1
    obtain ⟨a', e, hb'⟩ := h2
    cases e
    have hb'' : a.block = B + 1 ∨ a.block = Cb := hb'
    omega

/-- The func value that is handed to Go. -/
def closure (B i : Nat) : Value := .func (.func 20) #[] #[.pointer (some ⟨B + 2 + 3 * i, 0, none⟩), .pointer (some ⟨B, 0, none⟩)]

/-- WHAT WORKER NUMBER i KNOWS OF THE WORLD. -/
structure WK (Cb B n : Nat) (L : Nat → Lst) (c0 : Nat → Int) (i : Nat) (w : World) : Prop where
  cb : w.cell? ⟨B, 0, none⟩ = some (.pointer (some ⟨Cb, 0, none⟩))
  lb : w.cell? ⟨B + 2 + 3 * i, 0, none⟩ = some (L i).val
  wb : w.cell? ⟨B + 3 + 3 * i, 0, none⟩ = some (.pointer (some ⟨B + 1, 0, none⟩))
  fb : w.cell? ⟨B + 4 + 3 * i, 0, none⟩ = some (closure B i)
  el : ∀ j ad, j < (L i).len → (L i).a = some ad → ad.block < Cb ∧ w.cell? (ad.add j) = some (.int .i64 ((L i).xs.getD j 0))
  live : WgLive 57 (B + 1) w
  cnt : ∃ c, (cfg Cb B n L c0).Cnt c w

variable {i : Nat} {w w₁ : World}
theorem cell_block {a : Addr} (h : w₁.heap[a.block]? = w.heap[a.block]?) : w₁.cell? a = w.cell? a := World.cell?_of_block h
theorem WK.rely' (hB : Cb < B) (h : WK Cb B n L c0 i w) (r : (cfg Cb B n L c0).RT i w w₁) : WK Cb B n L c0 i w₁ := by
  have hk : ∀ b, b < B + 5 + 3 * i → b ≠ B + 1 → b ≠ Cb → (∀ i', i' < n → i' ≠ i → b ≠ B + 2 + 3 * i') → w₁.heap[b]? = w.heap[b]? := fun b h1 h2 h3 h4 => r.keep b (by show b < B + 2 + 3 * (i + 1); omega) h2 h3 h4
  refine ⟨?_, ?_, ?_, ?_, fun j ad hj ha => ?_, r.live h.live, r.cnt h.cnt⟩
  · rw [cell_block (hk B (by omega) (by omega) (by omega) (fun _ _ _ => by omega))]; exact h.cb
  · rw [cell_block (hk (B + 2 + 3 * i) (by omega) (by omega) (by omega) (fun _ _ _ => by omega))]; exact h.lb
  · rw [cell_block (hk (B + 3 + 3 * i) (by omega) (by omega) (by omega) (fun _ _ _ => by omega))]; exact h.wb
  · rw [cell_block (hk (B + 4 + 3 * i) (by omega) (by omega) (by omega) (fun _ _ _ => by omega))]; exact h.fb
  · obtain ⟨h1, h2⟩ := h.el j ad hj ha
    refine ⟨h1, ?_⟩
    rw [cell_block (hk (ad.add j).block (by rw [add_block]; omega) (by rw [add_block]; omega) (by rw [add_block]; omega) (fun _ _ _ => by rw [add_block]; omega))]; exact h2
/-- Behind its own add. -/
theorem WK.add (hB : Cb < B) (h : WK Cb B n L c0 i w) {c : Nat → Int} (hc : (cfg Cb B n L c0).Cnt c w) {x : Nat} (hx : x < 8) : WK Cb B n L c0 i (w.setCell ⟨Cb, x, none⟩ (.int .u64 (Cfg.wrapU (c x + 1)))) := by
  have hA := aside_setCell w ⟨Cb, x, none⟩ (.int .u64 (Cfg.wrapU (c x + 1)))
  have hk : ∀ b, b ≠ Cb → (w.setCell ⟨Cb, x, none⟩ (.int .u64 (Cfg.wrapU (c x + 1)))).heap[b]? = w.heap[b]? := fun b hb => hA.block b hb
  refine ⟨?_, ?_, ?_, ?_, fun j ad hj ha => ?_, live_block h.live (hk _ (by omega)), ⟨_, hc.raise hx⟩⟩
  · rw [cell_block (hk B (by omega))]; exact h.cb
  · rw [cell_block (hk (B + 2 + 3 * i) (by omega))]; exact h.lb
  · rw [cell_block (hk (B + 3 + 3 * i) (by omega))]; exact h.wb
  · rw [cell_block (hk (B + 4 + 3 * i) (by omega))]; exact h.fb
  · obtain ⟨h1, h2⟩ := h.el j ad hj ha
    refine ⟨h1, ?_⟩
    rw [cell_block (hk (ad.add j).block (by rw [add_block]; omega))]; exact h2

theorem evW_rd (a : Addr) (s : Bool) (h : a.block < Cb ∨ a.block = B ∨ a.block = B + 2 + 3 * i ∨ a.block = B + 3 + 3 * i ∨ a.block = B + 4 + 3 * i) :
    EvW (B + 1) (fun _ _ => False) (fun _ => (cfg Cb B n L c0).Rd (i + 1)) 1 ⟨.cell a, false, s⟩ := by
  refine ⟨fun fn pos => ⟨rfl, fun y hy => ?_⟩, by simp, by simp, by simp⟩
  simp only [ofEvent_cell, MemAct.touch?, Option.some.injEq] at hy
  subst hy
  exact .inr (.inr ⟨⟨by omega, a, rfl, by simpa using h⟩, rfl⟩)
end
end Go.Proofs.Yteffdcpepjjkbaa.Team

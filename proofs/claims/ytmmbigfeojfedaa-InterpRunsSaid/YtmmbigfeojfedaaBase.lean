/- Small laws on worlds, for whatever program: what a stretch of a run may have changed ('Chg'), blocks that are known whole ('Blk'). -/
import Derived.WalkKit
import Derived.WalkSpells
import Derived.WalkLawsBesides
import Derived.Below
import Derived.OwnWalk
import Derived.OneCell
import Derived.KernelRfl
import Derived.Outline
import Derived.WalkSmall
import Derived.Lib.Hide
import Derived.BigQuiet
import Derived.Deep.QuietTactic
import Derived.Deep.RegionHeld3
import Derived.Deep.DeepCutAuto
import Derived.Deep.CutBlock
import Derived.Test.YtmmbigfeojfedaaWWords
namespace Go.Proofs.Ytmmbigfeojfedaa
open Go.RowKit Go.Proofs.YtmmbigfeojfedaaW.PrintWords

/-- From w to w' only blocks of S, and new ones, have changed. -/
structure Chg (S : Nat → Prop) (w w' : World) : Prop where
  os : w'.os = w.os
  tape : w'.tape = w.tape
  output : w'.output = w.output
  size : w.heap.size ≤ w'.heap.size
  block : ∀ k, k < w.heap.size → ¬ S k → w'.heap[k]? = w.heap[k]?

theorem Chg.refl (S : Nat → Prop) (w : World) : Chg S w w := ⟨rfl, rfl, rfl, Nat.le_refl _, fun _ _ _ => rfl⟩
theorem Chg.mono {S S' : Nat → Prop} {w w' : World} (h : Chg S w w') (hs : ∀ k, k < w.heap.size → S k → S' k) : Chg S' w w' := ⟨h.os, h.tape, h.output, h.size, fun k hk hn => h.block k hk (fun hS => hn (hs k hk hS))⟩
theorem Chg.trans {S S' : Nat → Prop} {w w1 w2 : World} (h : Chg S w w1) (k : Chg S' w1 w2) (hs : ∀ i, i < w.heap.size → S' i → S i) : Chg S w w2 :=
  ⟨k.os.trans h.os, k.tape.trans h.tape, k.output.trans h.output, Nat.le_trans h.size k.size, fun i hi hn => (k.block i (Nat.lt_of_lt_of_le hi h.size) (fun h' => hn (hs i hi h'))).trans (h.block i hi hn)⟩
theorem Chg.of_below {w w' : World} (h : Below w.heap.size w w') (S : Nat → Prop) : Chg S w w' := ⟨h.os, h.tape, h.output, h.size, fun k hk _ => h.block k hk⟩
theorem Chg.of_belowB {B : Nat} {w w' : World} (h : Below B w w') : Chg (fun k => B ≤ k) w w' := ⟨h.os, h.tape, h.output, h.size, fun k _ hn => h.block k (by omega)⟩
theorem Chg.below {S : Nat → Prop} {w w' : World} {B : Nat} (h : Chg S w w') (hS : ∀ k, S k → B ≤ k) (hB : B ≤ w.heap.size) : Below B w w' := ⟨h.os, h.tape, h.output, h.size, fun k hk => h.block k (by omega) (fun hs => by have := hS k hs; omega)⟩
theorem Chg.then_below {S : Nat → Prop} {w w1 w2 : World} (h : Chg S w w1) (k : Below w1.heap.size w1 w2) : Chg S w w2 := h.trans (Chg.of_below k (fun _ => False)) (fun _ _ h => h.elim)
theorem Chg.alloc {S : Nat → Prop} {w w1 : World} (h : Chg S w w1) (o : Obj) : Chg S w (w1.alloc o) := h.then_below ((Below.refl _ _).alloc (Nat.le_refl _) o)
theorem Chg.setCell {S : Nat → Prop} {w w1 : World} (h : Chg S w w1) {a : Addr} (ha : S a.block ∨ w.heap.size ≤ a.block) (v : Value) : Chg S w (w1.setCell a v) :=
  h.trans (S' := fun k => k = a.block) ⟨rfl, rfl, rfl, by simp [World.setCell], fun k _ hn => Below.heap_setCell _ _ _ _ hn⟩ (fun i hi he => by subst he; exact ha.elim id (fun h => by omega))
theorem Chg.put {S : Nat → Prop} {w w1 : World} (h : Chg S w w1) (b i : Nat) (ha : S b ∨ w.heap.size ≤ b) (v : Value) : Chg S w (w1.setCell ⟨b, i, none⟩ v) := h.setCell (a := ⟨b, i, none⟩) ha v
theorem Chg.drew {S : Nat → Prop} {w w1 : World} (h : Chg S w w1) : Chg S w w1.drew := ⟨h.os, h.tape, h.output, h.size, h.block⟩
theorem Chg.drewN {S : Nat → Prop} {w w1 : World} (h : Chg S w w1) (n : Nat) : Chg S w (w1.drewN n) := ⟨h.os, h.tape, h.output, h.size, h.block⟩
theorem Chg.grown {S : Nat → Prop} {w w1 w2 : World} {row : Option Nat} (h : Chg S w w1) (hg : w1.grownBy w2 row) (hr : ∀ k, row = some k → S k ∨ w.heap.size ≤ k) : Chg S w w2 :=
  h.trans (S' := fun k => row = some k) ⟨hg.os, hg.tape, hg.output, hg.size, fun k hk hn => hg.block k hk (fun e => hn e.symm)⟩ (fun i hi he => (hr i he).elim id (fun h => by omega))
theorem Chg.cell {S : Nat → Prop} {w w' : World} (h : Chg S w w') {a : Addr} {v : Value} (hn : ¬ S a.block) (hc : w.cell? a = some v) : w'.cell? a = some v :=
  (World.cell?_of_block (w := w) (h.block a.block (World.block_lt_of_cell? w a hc) hn)).trans hc
theorem Chg.at_ {S : Nat → Prop} {w w' : World} (h : Chg S w w') {k : Nat} {o : Obj} (hn : ¬ S k) (hc : w.heap[k]? = some o) : w'.heap[k]? = some o :=
  (h.block k (lt_of_block hc) hn).trans hc
theorem Chg.owns {S : Nat → Prop} {w w' : World} (h : Chg S w w') {base n size : Nat} {e : TypeId} {v : Value} {xs : List Value} (ho : w.ownsRow base e size v n xs) (hn : ∀ k, v.ownBlock = some k → ¬ S k) : w'.ownsRow base e size v n xs :=
  own_move ho (fun k hk => h.block k (own_lt ho k hk) (hn k hk))
theorem Chg.reads {α : Type} {enc : α → Value} {d : α} {S : Nat → Prop} {w w' : World} (h : Chg S w w') {A : Option Addr} {n : Nat} {xs : List α} (hr : ReadsOf enc d w A n xs) (hn : ∀ a, A = some a → ¬ S a.block) : ReadsOf enc d w' A n xs :=
  ⟨hr.1, hr.2.1, fun hp => by
    obtain ⟨ad, e, hc⟩ := hr.2.2 hp
    exact ⟨ad, e, fun j hj => h.cell (by rw [show (ad.add j).block = ad.block by unfold Addr.add; split <;> rfl]; exact hn ad e) (hc j hj)⟩⟩
theorem add_blk (a : Addr) (j : Nat) : (a.add j).block = a.block := by unfold Addr.add; split <;> rfl
theorem reads_lt {α : Type} {enc : α → Value} {d : α} {w : World} {A : Option Addr} {n : Nat} {xs : List α} (hr : ReadsOf enc d w A n xs) (hp : 0 < n) : ∃ a, A = some a ∧ a.block < w.heap.size := by
  obtain ⟨ad, e, hc⟩ := hr.2.2 hp
  exact ⟨ad, e, by have := World.block_lt_of_cell? w _ (hc 0 hp); rwa [add_blk] at this⟩

/-- Block b is known whole, and may be written. -/
def Blk (w : World) (b : Nat) (C : Array Value) (t : TypeId) : Prop := w.heap[b]? = some (.cells C t (0, 0))
theorem Blk.lt {w : World} {b : Nat} {C : Array Value} {t : TypeId} (h : Blk w b C t) : b < w.heap.size := lt_of_block h
theorem Blk.cell {w : World} {b : Nat} {C : Array Value} {t : TypeId} (h : Blk w b C t) (i : Nat) : w.cell? ⟨b, i, none⟩ = C[i]? := by unfold Blk at h; simp [World.cell?, h]
theorem Blk.free {w : World} {b : Nat} {C : Array Value} {t : TypeId} (h : Blk w b C t) (i : Nat) : w.frozen? ⟨b, i, none⟩ = false := by unfold Blk at h; simp [World.frozen?, h]
theorem Blk.new (w : World) (C : Array Value) (t : TypeId) : Blk (w.alloc (.cells C t)) w.heap.size C t := heap_alloc_new w _
theorem Blk.alloc {w : World} {b : Nat} {C : Array Value} {t : TypeId} (h : Blk w b C t) (o : Obj) : Blk (w.alloc o) b C t := (Below.heap_alloc w o b h.lt).trans h
theorem Blk.drew {w : World} {b : Nat} {C : Array Value} {t : TypeId} (h : Blk w b C t) : Blk w.drew b C t := h
theorem Blk.drewN {w : World} {b : Nat} {C : Array Value} {t : TypeId} (h : Blk w b C t) (n : Nat) : Blk (w.drewN n) b C t := h
theorem Blk.other {w : World} {b : Nat} {C : Array Value} {t : TypeId} (h : Blk w b C t) {a : Addr} (hn : b ≠ a.block) (v : Value) : Blk (w.setCell a v) b C t := (Below.heap_setCell w a v b hn).trans h
theorem Blk.set {w : World} {b : Nat} {C : Array Value} {t : TypeId} (h : Blk w b C t) (i : Nat) (v : Value) : Blk (w.setCell ⟨b, i, none⟩ v) b (C.setIfInBounds i v) t := by
  have hlt := h.lt
  have h' : w.heap[b] = .cells C t (0, 0) := by unfold Blk at h; simpa [Array.getElem?_eq_getElem hlt] using h
  show (w.heap.modify b _)[b]? = _
  rw [Array.getElem?_eq_getElem (by simpa using hlt), Array.getElem_modify_self, h']
  rfl
theorem Chg.blk {S : Nat → Prop} {w w' : World} (h : Chg S w w') {b : Nat} {C : Array Value} {t : TypeId} (hb : Blk w b C t) (hn : ¬ S b) : Blk w' b C t := h.at_ hn hb
theorem Blk.below {w w' : World} {b : Nat} {C : Array Value} {t : TypeId} (hb : Blk w b C t) (h : Below w.heap.size w w') : Blk w' b C t := (h.block b hb.lt).trans hb

/-! ### Cuts of a slice that is read: the address, by a letter; in which block it lies. -/
section
variable {P : Program} {α : Type} {enc : α → Value} {d : α}
theorem cut_lo (t e : TypeId) (kl : IntKind) {i : TypeInfo} (ht : P.underlying t = some (.slice e)) (hi : P.info? e = some i) (hsz : i.size = 1) (A : Option Addr) (n c m : Nat) (hm : m ≤ n) (hc : n ≤ c) :
    ∃ A' : Option Addr, (∀ W : World, (Instr.slice t (.slice A n c) (some (.int kl (m : Int))) none none).run P W = .ok (.slice A' (n - m) (c - m)) W) ∧
      (∀ (w : World) (xs : List α), ReadsOf enc d w A n xs → ReadsOf enc d w A' (n - m) (xs.drop m)) ∧ (∀ X : Nat → Prop, (∀ a, A = some a → X a.block) → ∀ a, A' = some a → X a.block) := by
  refine ⟨if c = m then A else A.map (·.add m), fun W => ?_, fun w xs h => h.drop_ m hm hc, fun X hX a ha => ?_⟩
  · have hel : P.elem t = e := by simp [Program.elem, ht]
    have hu : P.underlying t = some (.slice (P.elem t)) := by rw [hel]; exact ht
    rw [run_slice_l W t A n c hu kl (m : Int) (Int.natCast_nonneg _) (by omega), hel]
    simp [sizeOf, typeInfo, hi, hsz, sliced, Result.andThen]
  · split at ha
    · exact hX a ha
    · cases A with
      | none => cases ha
      | some b => simp at ha; subst ha; rw [add_blk]; exact hX b rfl
theorem cut_hi (t e : TypeId) (kh : IntKind) {i : TypeInfo} (ht : P.underlying t = some (.slice e)) (hi : P.info? e = some i) (hsz : i.size = 1) (A : Option Addr) (n c m : Nat) (hm : m ≤ c) :
    ∀ W : World, (Instr.slice t (.slice A n c) none (some (.int kh (m : Int))) none).run P W = .ok (.slice A m c) W := by
  intro W
  have hel : P.elem t = e := by simp [Program.elem, ht]
  have hu : P.underlying t = some (.slice (P.elem t)) := by rw [hel]; exact ht
  have ha : (A.map fun x => x.add 0) = A := by cases A <;> simp [Addr.add]
  rw [run_slice_h W t A n c hu kh (m : Int) (Int.natCast_nonneg _) (by omega), hel]
  simp [sizeOf, typeInfo, hi, hsz, sliced, Result.andThen, ha]
theorem cut_mid (t e : TypeId) (kl kh : IntKind) {i : TypeInfo} (ht : P.underlying t = some (.slice e)) (hi : P.info? e = some i) (hsz : i.size = 1) (A : Option Addr) (n c l m : Nat) (hl : l ≤ m) (hm : m ≤ n) (hc : n ≤ c) :
    ∃ A' : Option Addr, (∀ W : World, (Instr.slice t (.slice A n c) (some (.int kl (l : Int))) (some (.int kh (m : Int))) none).run P W = .ok (.slice A' (m - l) (c - l)) W) ∧
      (∀ (w : World) (xs : List α), ReadsOf enc d w A n xs → ReadsOf enc d w A' (m - l) ((xs.take m).drop l)) ∧ (∀ X : Nat → Prop, (∀ a, A = some a → X a.block) → ∀ a, A' = some a → X a.block) := by
  refine ⟨if c = l then A else A.map (·.add l), fun W => ?_, fun w xs h => (h.take_ m hm).drop_ l hl (by omega), fun X hX a ha => ?_⟩
  · have hel : P.elem t = e := by simp [Program.elem, ht]
    have hu : P.underlying t = some (.slice (P.elem t)) := by rw [hel]; exact ht
    rw [run_slice_lh W t A n c hu kl kh (l : Int) (m : Int) (Int.natCast_nonneg _) (by omega) (by omega), hel]
    simp [sizeOf, typeInfo, hi, hsz, sliced, Result.andThen]
  · split at ha
    · exact hX a ha
    · cases A with
      | none => cases ha
      | some b => simp at ha; subst ha; rw [add_blk]; exact hX b rfl
end
end Go.Proofs.Ytmmbigfeojfedaa

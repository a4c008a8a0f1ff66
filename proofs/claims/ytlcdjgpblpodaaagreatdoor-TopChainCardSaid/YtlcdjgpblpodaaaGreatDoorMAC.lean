/- Base, Num -/
import Derived.WalkKit
import Derived.WalkSpells
import Derived.WalkLawsBesides
import Derived.Below
import Derived.OwnWalk
import Derived.OneCell
import Derived.KernelRfl
import Derived.Outline
import Derived.WalkSmall
import Derived.Lib.Hide
import Derived.BigQuiet
import Derived.Deep.QuietTactic
import Derived.Deep.RegionHeld3
import Derived.Deep.DeepCutAuto
import Derived.Deep.CutBlock
import Derived.Test.YtlcdjgpblpodaaaGreatDoorMAB
namespace Go.Proofs.YtlcdjgpblpodaaaGreatDoor
open Go.RowKit Go.Proofs.YtlcdjgpblpodaaaGreatDoorW.PrintWords

/-- From w to w' only blocks of S, and new ones, have changed. -/
structure Chg (S : Nat → Prop) (w w' : World) : Prop where
  os : w'.os = w.os
  tape : w'.tape = w.tape
  output : w'.output = w.output
  size : w.heap.size ≤ w'.heap.size
  block : ∀ k, k < w.heap.size → ¬ S k → w'.heap[k]? = w.heap[k]?

theorem Chg.refl (S : Nat → Prop) (w : World) : Chg S w w := ⟨rfl, rfl, rfl, Nat.le_refl _, fun _ _ _ => rfl⟩
theorem Chg.mono {S S' : Nat → Prop} {w w' : World} (h : Chg S w w') (hs : ∀ k, k < w.heap.size → S k → S' k) : Chg S' w w' := ⟨h.os, h.tape, h.output, h.size, fun k hk hn => h.block k hk (fun hS => hn (hs k hk hS))⟩
theorem Chg.trans {S S' : Nat → Prop} {w w1 w2 : World} (h : Chg S w w1) (k : Chg S' w1 w2) (hs : ∀ i, i < w.heap.size → S' i → S i) : Chg S w w2 :=
  ⟨k.os.trans h.os, k.tape.trans h.tape, k.output.trans h.output, Nat.le_trans h.size k.size, fun i hi hn => (k.block i (Nat.lt_of_lt_of_le hi h.size) (fun h' => hn (hs i hi h'))).trans (h.block i hi hn)⟩
theorem Chg.of_below {w w' : World} (h : Below w.heap.size w w') (S : Nat → Prop) : Chg S w w' := ⟨h.os, h.tape, h.output, h.size, fun k hk _ => h.block k hk⟩
theorem Chg.below {S : Nat → Prop} {w w' : World} {B : Nat} (h : Chg S w w') (hS : ∀ k, S k → B ≤ k) (hB : B ≤ w.heap.size) : Below B w w' := ⟨h.os, h.tape, h.output, h.size, fun k hk => h.block k (by omega) (fun hs => by have := hS k hs; omega)⟩
theorem Chg.then_below {S : Nat → Prop} {w w1 w2 : World} (h : Chg S w w1) (k : Below w1.heap.size w1 w2) : Chg S w w2 := h.trans (Chg.of_below k (fun _ => False)) (fun _ _ h => h.elim)
theorem Chg.alloc {S : Nat → Prop} {w w1 : World} (h : Chg S w w1) (o : Obj) : Chg S w (w1.alloc o) := h.then_below ((Below.refl _ _).alloc (Nat.le_refl _) o)
theorem Chg.setCell {S : Nat → Prop} {w w1 : World} (h : Chg S w w1) {a : Addr} (ha : S a.block ∨ w.heap.size ≤ a.block) (v : Value) : Chg S w (w1.setCell a v) :=
  h.trans (S' := fun k => k = a.block) ⟨rfl, rfl, rfl, by simp [World.setCell], fun k _ hn => Below.heap_setCell _ _ _ _ hn⟩ (fun i hi he => by subst he; exact ha.elim id (fun h => by omega))
theorem Chg.put {S : Nat → Prop} {w w1 : World} (h : Chg S w w1) (b i : Nat) (ha : S b ∨ w.heap.size ≤ b) (v : Value) : Chg S w (w1.setCell ⟨b, i, none⟩ v) := h.setCell (a := ⟨b, i, none⟩) ha v
theorem Chg.drew {S : Nat → Prop} {w w1 : World} (h : Chg S w w1) : Chg S w w1.drew := ⟨h.os, h.tape, h.output, h.size, h.block⟩
theorem Chg.drewN {S : Nat → Prop} {w w1 : World} (h : Chg S w w1) (n : Nat) : Chg S w (w1.drewN n) := ⟨h.os, h.tape, h.output, h.size, h.block⟩
theorem Chg.grown {S : Nat → Prop} {w w1 w2 : World} {row : Option Nat} (h : Chg S w w1) (hg : w1.grownBy w2 row) (hr : ∀ k, row = some k → S k ∨ w.heap.size ≤ k) : Chg S w w2 :=
  h.trans (S' := fun k => row = some k) ⟨hg.os, hg.tape, hg.output, hg.size, fun k hk hn => hg.block k hk (fun e => hn e.symm)⟩ (fun i hi he => (hr i he).elim id (fun h => by omega))
theorem Chg.cell {S : Nat → Prop} {w w' : World} (h : Chg S w w') {a : Addr} {v : Value} (hn : ¬ S a.block) (hc : w.cell? a = some v) : w'.cell? a = some v :=
  (World.cell?_of_block (w := w) (h.block a.block (World.block_lt_of_cell? w a hc) hn)).trans hc
theorem Chg.at_ {S : Nat → Prop} {w w' : World} (h : Chg S w w') {k : Nat} {o : Obj} (hn : ¬ S k) (hc : w.heap[k]? = some o) : w'.heap[k]? = some o :=
  (h.block k (lt_of_block hc) hn).trans hc
theorem Chg.owns {S : Nat → Prop} {w w' : World} (h : Chg S w w') {base n size : Nat} {e : TypeId} {v : Value} {xs : List Value} (ho : w.ownsRow base e size v n xs) (hn : ∀ k, v.ownBlock = some k → ¬ S k) : w'.ownsRow base e size v n xs :=
  own_move ho (fun k hk => h.block k (own_lt ho k hk) (hn k hk))
theorem Chg.reads {α : Type} {enc : α → Value} {d : α} {S : Nat → Prop} {w w' : World} (h : Chg S w w') {A : Option Addr} {n : Nat} {xs : List α} (hr : ReadsOf enc d w A n xs) (hn : ∀ a, A = some a → ¬ S a.block) : ReadsOf enc d w' A n xs :=
  ⟨hr.1, hr.2.1, fun hp => by
    obtain ⟨ad, e, hc⟩ := hr.2.2 hp
    exact ⟨ad, e, fun j hj => h.cell (by rw [show (ad.add j).block = ad.block by unfold Addr.add; split <;> rfl]; exact hn ad e) (hc j hj)⟩⟩
theorem add_blk (a : Addr) (j : Nat) : (a.add j).block = a.block := by unfold Addr.add; split <;> rfl
theorem reads_lt {α : Type} {enc : α → Value} {d : α} {w : World} {A : Option Addr} {n : Nat} {xs : List α} (hr : ReadsOf enc d w A n xs) (hp : 0 < n) : ∃ a, A = some a ∧ a.block < w.heap.size := by
  obtain ⟨ad, e, hc⟩ := hr.2.2 hp
  exact ⟨ad, e, by have := World.block_lt_of_cell? w _ (hc 0 hp); rwa [add_blk] at this⟩

/-- Block b is known whole, and may be written. -/
def Blk (w : World) (b : Nat) (C : Array Value) (t : TypeId) : Prop := w.heap[b]? = some (.cells C t (0, 0))
theorem Blk.lt {w : World} {b : Nat} {C : Array Value} {t : TypeId} (h : Blk w b C t) : b < w.heap.size := lt_of_block h
theorem Blk.cell {w : World} {b : Nat} {C : Array Value} {t : TypeId} (h : Blk w b C t) (i : Nat) : w.cell? ⟨b, i, none⟩ = C[i]? := by unfold Blk at h; simp [World.cell?, h]
theorem Blk.free {w : World} {b : Nat} {C : Array Value} {t : TypeId} (h : Blk w b C t) (i : Nat) : w.frozen? ⟨b, i, none⟩ = false := by unfold Blk at h; simp [World.frozen?, h]
theorem Blk.new (w : World) (C : Array Value) (t : TypeId) : Blk (w.alloc (.cells C t)) w.heap.size C t := heap_alloc_new w _
theorem Blk.alloc {w : World} {b : Nat} {C : Array Value} {t : TypeId} (h : Blk w b C t) (o : Obj) : Blk (w.alloc o) b C t := (Below.heap_alloc w o b h.lt).trans h
theorem Blk.drew {w : World} {b : Nat} {C : Array Value} {t : TypeId} (h : Blk w b C t) : Blk w.drew b C t := h
theorem Blk.drewN {w : World} {b : Nat} {C : Array Value} {t : TypeId} (h : Blk w b C t) (n : Nat) : Blk (w.drewN n) b C t := h
theorem Blk.other {w : World} {b : Nat} {C : Array Value} {t : TypeId} (h : Blk w b C t) {a : Addr} (hn : b ≠ a.block) (v : Value) : Blk (w.setCell a v) b C t := (Below.heap_setCell w a v b hn).trans h
theorem Blk.set {w : World} {b : Nat} {C : Array Value} {t : TypeId} (h : Blk w b C t) (i : Nat) (v : Value) : Blk (w.setCell ⟨b, i, none⟩ v) b (C.setIfInBounds i v) t := by
  have hlt := h.lt
  have h' : w.heap[b] = .cells C t (0, 0) := by unfold Blk at h; simpa [Array.getElem?_eq_getElem hlt] using h
  show (w.heap.modify b _)[b]? = _
  rw [Array.getElem?_eq_getElem (by simpa using hlt), Array.getElem_modify_self, h']
  rfl
theorem Chg.blk {S : Nat → Prop} {w w' : World} (h : Chg S w w') {b : Nat} {C : Array Value} {t : TypeId} (hb : Blk w b C t) (hn : ¬ S b) : Blk w' b C t := h.at_ hn hb
theorem Blk.below {w w' : World} {b : Nat} {C : Array Value} {t : TypeId} (hb : Blk w b C t) (h : Below w.heap.size w w') : Blk w' b C t := (h.block b hb.lt).trans hb

/-! ### Cuts of a slice that is read: the address, by a letter; in which block it lies. -/
section
variable {P : Program} {α : Type} {enc : α → Value} {d : α}
theorem cut_lo (t e : TypeId) (kl : IntKind) {i : TypeInfo} (ht : P.underlying t = some (.slice e)) (hi : P.info? e = some i) (hsz : i.size = 1) (A : Option Addr) (n c m : Nat) (hm : m ≤ n) (hc : n ≤ c) :
    ∃ A' : Option Addr, (∀ W : World, (Instr.slice t (.slice A n c) (some (.int kl (m : Int))) none none).run P W = .ok (.slice A' (n - m) (c - m)) W) ∧
      (∀ (w : World) (xs : List α), ReadsOf enc d w A n xs → ReadsOf enc d w A' (n - m) (xs.drop m)) ∧ (∀ X : Nat → Prop, (∀ a, A = some a → X a.block) → ∀ a, A' = some a → X a.block) := by
  refine ⟨if c = m then A else A.map (·.add m), fun W => ?_, fun w xs h => h.drop_ m hm hc, fun X hX a ha => ?_⟩
  · have hel : P.elem t = e := by simp [Program.elem, ht]
    have hu : P.underlying t = some (.slice (P.elem t)) := by rw [hel]; exact ht
    rw [run_slice_l W t A n c hu kl (m : Int) (Int.natCast_nonneg _) (by omega), hel]
    simp [sizeOf, typeInfo, hi, hsz, sliced, Result.andThen]
  · split at ha
    · exact hX a ha
    · cases A with
      | none => cases ha
      | some b => simp at ha; subst ha; rw [add_blk]; exact hX b rfl
theorem cut_hi (t e : TypeId) (kh : IntKind) {i : TypeInfo} (ht : P.underlying t = some (.slice e)) (hi : P.info? e = some i) (hsz : i.size = 1) (A : Option Addr) (n c m : Nat) (hm : m ≤ c) :
    ∀ W : World, (Instr.slice t (.slice A n c) none (some (.int kh (m : Int))) none).run P W = .ok (.slice A m c) W := by
  intro W
  have hel : P.elem t = e := by simp [Program.elem, ht]
  have hu : P.underlying t = some (.slice (P.elem t)) := by rw [hel]; exact ht
  have ha : (A.map fun x => x.add 0) = A := by cases A <;> simp [Addr.add]
  rw [run_slice_h W t A n c hu kh (m : Int) (Int.natCast_nonneg _) (by omega), hel]
  simp [sizeOf, typeInfo, hi, hsz, sliced, Result.andThen, ha]
theorem cut_mid (t e : TypeId) (kl kh : IntKind) {i : TypeInfo} (ht : P.underlying t = some (.slice e)) (hi : P.info? e = some i) (hsz : i.size = 1) (A : Option Addr) (n c l m : Nat) (hl : l ≤ m) (hm : m ≤ n) (hc : n ≤ c) :
    ∃ A' : Option Addr, (∀ W : World, (Instr.slice t (.slice A n c) (some (.int kl (l : Int))) (some (.int kh (m : Int))) none).run P W = .ok (.slice A' (m - l) (c - l)) W) ∧
      (∀ (w : World) (xs : List α), ReadsOf enc d w A n xs → ReadsOf enc d w A' (m - l) ((xs.take m).drop l)) ∧ (∀ X : Nat → Prop, (∀ a, A = some a → X a.block) → ∀ a, A' = some a → X a.block) := by
  refine ⟨if c = l then A else A.map (·.add l), fun W => ?_, fun w xs h => (h.take_ m hm).drop_ l hl (by omega), fun X hX a ha => ?_⟩
  · have hel : P.elem t = e := by simp [Program.elem, ht]
    have hu : P.underlying t = some (.slice (P.elem t)) := by rw [hel]; exact ht
    rw [run_slice_lh W t A n c hu kl kh (l : Int) (m : Int) (Int.natCast_nonneg _) (by omega) (by omega), hel]
    simp [sizeOf, typeInfo, hi, hsz, sliced, Result.andThen]
  · split at ha
    · exact hX a ha
    · cases A with
      | none => cases ha
      | some b => simp at ha; subst ha; rw [add_blk]; exact hX b rfl
end
end Go.Proofs.YtlcdjgpblpodaaaGreatDoor
namespace Go.Proofs.YtlcdjgpblpodaaaGreatDoor

/-- Bytes, most significant first, as a number. -/
def foldB (l : List Int) : Int := l.foldl (fun a c => a * 256 + c) 0
/-- A number off the head of bytes, and what is left; or none. -/
def decNum : List Int → Option (Int × List Int)
  | [] => none
  | f :: r => if f < 248 then some (f, r) else
      if r.length < (f - 247).toNat then none else
      if foldB (r.take (f - 247).toNat) < 248 ∨ r.getD 0 0 = 0 then none else some (foldB (r.take (f - 247).toNat), r.drop (f - 247).toNat)
def IsBytes (bs : List Int) : Prop := ∀ x, x ∈ bs → 0 ≤ x ∧ x ≤ 255
theorem IsBytes.nil : IsBytes [] := fun x hx => by cases hx
theorem IsBytes.append {a b : List Int} (h : IsBytes a) (k : IsBytes b) : IsBytes (a ++ b) := fun x hx => (List.mem_append.1 hx).elim (h x) (k x)
theorem foldB_snoc (l : List Int) (c : Int) : foldB (l ++ [c]) = foldB l * 256 + c := by unfold foldB; simp [List.foldl_append]

/-- The k last bytes of a number. -/
def digits : Nat → Nat → List Int
  | 0, _ => []
  | k + 1, n => digits k (n / 256) ++ [((n % 256 : Nat) : Int)]
theorem digits_length : ∀ k n, (digits k n).length = k
  | 0, _ => rfl
  | k + 1, n => by rw [digits, List.length_append, digits_length k]; rfl
theorem digits_bytes : ∀ k n, IsBytes (digits k n)
  | 0, _ => .nil
  | k + 1, n => (digits_bytes k _).append fun x hx => by
    rw [List.mem_singleton] at hx
    subst hx
    omega
theorem digits_fold : ∀ k n, n < 256 ^ k → foldB (digits k n) = n
  | 0, n, h => by
    have : n = 0 := by simp at h; omega
    subst this
    rfl
  | k + 1, n, h => by
    rw [digits, foldB_snoc, digits_fold k (n / 256) (by rw [Nat.pow_succ] at h; omega)]
    omega
theorem digits_head : ∀ k n, 256 ^ k ≤ n → n < 256 ^ (k + 1) → (digits (k + 1) n).getD 0 0 ≠ 0
  | 0, n, h1, h2 => by
    simp at h1 h2
    simp [digits]
    omega
  | k + 1, n, h1, h2 => by
    have h := digits_head k (n / 256) (by rw [Nat.pow_succ] at h1; omega) (by rw [Nat.pow_succ] at h2; omega)
    rw [digits]
    have hl := digits_length (k + 1) (n / 256)
    match hd : digits (k + 1) (n / 256), hl with
    | x :: xs, _ =>
      rw [hd] at h
      simpa using h

/-- How many bytes a number takes. -/
def width (n : Nat) : Nat :=
  if n < 256 then 1 else if n < 256 ^ 2 then 2 else if n < 256 ^ 3 then 3 else if n < 256 ^ 4 then 4 else if n < 256 ^ 5 then 5 else if n < 256 ^ 6 then 6 else if n < 256 ^ 7 then 7 else 8
theorem width_spec (n : Nat) (h : n < 18446744073709551616) : 1 ≤ width n ∧ width n ≤ 8 ∧ n < 256 ^ width n ∧ (n ≠ 0 → 256 ^ (width n - 1) ≤ n) := by
  unfold width
  repeat' split
  all_goals (refine ⟨by omega, by omega, by first | assumption | (simpa using h), fun h0 => ?_⟩; simp at *; omega)

def encNum (n : Nat) : List Int := if n < 248 then [(n : Int)] else (247 + (width n : Int)) :: digits (width n) n
theorem encNum_bytes (n : Nat) (h : n < 18446744073709551616) : IsBytes (encNum n) := by
  unfold encNum
  have hw := width_spec n h
  split
  · intro x hx
    simp at hx
    omega
  · intro x hx
    rcases List.mem_cons.1 hx with rfl | hx
    · omega
    · exact digits_bytes _ _ x hx
theorem encNum_length (n : Nat) (h : n < 18446744073709551616) : 1 ≤ (encNum n).length ∧ (encNum n).length ≤ 9 := by
  unfold encNum
  have hw := width_spec n h
  split
  · simp
  · simp [digits_length]
    omega
theorem decNum_enc (n : Nat) (h : n < 18446744073709551616) (r : List Int) : decNum (encNum n ++ r) = some ((n : Int), r) := by
  unfold encNum
  have hw := width_spec n h
  split
  · rename_i hn
    simp [decNum]
    omega
  · rename_i hn
    have e1 : ((247 : Int) + (width n : Int) - 247).toNat = width n := by omega
    have hlen := digits_length (width n) n
    have ht : (digits (width n) n ++ r).take (width n) = digits (width n) n := by rw [List.take_append_of_le_length (by omega), List.take_of_length_le (by omega)]
    have hd : (digits (width n) n ++ r).drop (width n) = r := by rw [List.drop_append_of_le_length (by omega), List.drop_of_length_le (by omega)]; rfl
    have hhd : (digits (width n) n ++ r).getD 0 0 ≠ 0 := by
      obtain ⟨k, hk⟩ : ∃ k, width n = k + 1 := ⟨width n - 1, by omega⟩
      have := digits_head k n (by have := hw.2.2.2 (by omega); rwa [hk] at this) (by have := hw.2.2.1; rwa [hk] at this)
      rw [hk]
      have hl := digits_length (k + 1) n
      match hd : digits (k + 1) n, hl with
      | x :: xs, _ =>
        rw [hd] at this
        simpa using this
    rw [List.cons_append, decNum, if_neg (by omega), e1, if_neg (by rw [List.length_append]; omega), ht, digits_fold _ _ hw.2.2.1, if_neg (fun h => h.elim (fun h => by omega) hhd), hd]

/-- An integer as a number. -/
def zig (x : Int) : Nat := if 0 ≤ x then (2 * x).toNat else (-2 * x - 1).toNat
theorem zig_lt (x : Int) (h0 : -9223372036854775808 ≤ x) (h1 : x ≤ 9223372036854775807) : zig x < 18446744073709551616 := by
  unfold zig
  split <;> omega
def encInt (x : Int) : List Int := encNum (zig x)

/-- A text's bytes. -/
def bytesOf (s : ByteArray) : List Int := s.data.toList.map fun b => (b.toNat : Int)
theorem bytesOf_length (s : ByteArray) : (bytesOf s).length = s.size := by
  unfold bytesOf
  rw [List.length_map, Array.length_toList]
  rfl
theorem bytesOf_bytes (s : ByteArray) : IsBytes (bytesOf s) := fun x hx => by
  obtain ⟨b, _, rfl⟩ := List.mem_map.1 hx
  have := b.toNat_lt
  omega
def encText (s : ByteArray) : List Int := encNum s.size ++ bytesOf s
/-- Bytes as a text. -/
def encBytes (bs : List Int) : List Int := encNum bs.length ++ bs

structure Let where
  frm : ByteArray
  serial : Nat
  kind : Int
  args : List Int
def In64 (x : Int) : Prop := -9223372036854775808 ≤ x ∧ x ≤ 9223372036854775807
/-- A letter that the program takes. -/
structure Let.Ok (l : Let) : Prop where
  frm : l.frm.size ≤ 40
  serial : l.serial < 18446744073709551616
  kind : In64 l.kind
  args : l.args.length ≤ 4
  each : ∀ x ∈ l.args, In64 x

def encInts : List Int → List Int
  | [] => []
  | x :: r => encInt x ++ encInts r
def encLet (l : Let) : List Int := encText l.frm ++ (encNum l.serial ++ (encInt l.kind ++ (encNum l.args.length ++ encInts l.args)))
def encLetList : List Let → List Int
  | [] => []
  | l :: r => encLet l ++ encLetList r
def encLets (ls : List Let) : List Int := encNum ls.length ++ encLetList ls

structure Jour where
  version : Nat
  base : List Int
  events : List (Nat × Int)
def encEvents : List (Nat × Int) → List Int
  | [] => []
  | e :: r => encNum e.1 ++ (encInt e.2 ++ encEvents r)
def encJour (j : Jour) : List Int := encNum j.version ++ (encInts j.base ++ (encNum j.events.length ++ encEvents j.events))

structure Outb where
  owner : ByteArray
  serials : List (ByteArray × Nat)
  list : List (ByteArray × Let)
def encSerials : List (ByteArray × Nat) → List Int
  | [] => []
  | e :: r => encText e.1 ++ (encNum e.2 ++ encSerials r)
def encOuts : List (ByteArray × Let) → List Int
  | [] => []
  | e :: r => encText e.1 ++ (encBytes (encLet e.2) ++ encOuts r)
def encOutb (o : Outb) : List Int := encText o.owner ++ (encNum o.serials.length ++ (encSerials o.serials ++ (encNum o.list.length ++ encOuts o.list)))

structure Actr where
  jour : Jour
  inbox : List Let
  outb : Outb
  tries : Nat
  poison : List Let
def encAct (a : Actr) : List Int := encNum a.tries ++ (encBytes (encJour a.jour) ++ (encBytes (encLets a.inbox) ++ (encBytes (encOutb a.outb) ++ encBytes (encLets a.poison))))

structure Win where
  rows : List (Nat × List Nat)
def encNums : List Nat → List Int
  | [] => []
  | x :: r => encNum x ++ encNums r
def encRows : List (Nat × List Nat) → List Int
  | [] => []
  | e :: r => encNum e.1 ++ (encNum e.2.length ++ (encNums e.2 ++ encRows r))
def encWin (w : Win) : List Int := encNum w.rows.length ++ encRows w.rows

/-! ### bytes, and how many -/
theorem encInt_bytes (x : Int) (h : In64 x) : IsBytes (encInt x) := encNum_bytes _ (zig_lt x h.1 h.2)
theorem encInt_length (x : Int) (h : In64 x) : 1 ≤ (encInt x).length ∧ (encInt x).length ≤ 9 := encNum_length _ (zig_lt x h.1 h.2)
theorem encText_bytes (s : ByteArray) (h : s.size < 18446744073709551616) : IsBytes (encText s) := (encNum_bytes _ h).append (bytesOf_bytes s)
theorem encText_length (s : ByteArray) (h : s.size < 18446744073709551616) : (encText s).length ≤ s.size + 9 := by
  unfold encText
  rw [List.length_append, bytesOf_length]
  have := encNum_length s.size h
  omega
theorem encInts_bytes : ∀ xs : List Int, (∀ x ∈ xs, In64 x) → IsBytes (encInts xs)
  | [], _ => .nil
  | x :: r, h => (encInt_bytes x (h x (by simp))).append (encInts_bytes r fun y hy => h y (List.mem_cons_of_mem _ hy))
theorem encInts_length : ∀ xs : List Int, (∀ x ∈ xs, In64 x) → (encInts xs).length ≤ 9 * xs.length
  | [], _ => by simp [encInts]
  | x :: r, h => by
    have h1 := encInts_length r fun y hy => h y (List.mem_cons_of_mem _ hy)
    have h2 := (encInt_length x (h x (by simp))).2
    rw [encInts, List.length_append, List.length_cons]
    omega
theorem encLet_bytes (l : Let) (h : l.Ok) : IsBytes (encLet l) :=
  (encText_bytes _ (by have := h.frm; omega)).append ((encNum_bytes _ h.serial).append ((encInt_bytes _ h.kind).append ((encNum_bytes _ (by have := h.args; omega)).append (encInts_bytes _ h.each))))
theorem encLet_length (l : Let) (h : l.Ok) : 1 ≤ (encLet l).length ∧ (encLet l).length ≤ 112 := by
  have h1 := encText_length l.frm (by have := h.frm; omega)
  have h2 := (encNum_length l.serial h.serial)
  have h3 := (encInt_length l.kind h.kind)
  have h4 := (encNum_length l.args.length (by have := h.args; omega))
  have h5 := encInts_length l.args h.each
  have h6 := h.frm
  have h7 := h.args
  simp only [encLet, List.length_append]
  omega
theorem encLetList_bytes : ∀ ls : List Let, (∀ l ∈ ls, l.Ok) → IsBytes (encLetList ls)
  | [], _ => .nil
  | l :: r, h => (encLet_bytes l (h l (by simp))).append (encLetList_bytes r fun y hy => h y (List.mem_cons_of_mem _ hy))
theorem encLetList_length : ∀ ls : List Let, (∀ l ∈ ls, l.Ok) → ls.length ≤ (encLetList ls).length ∧ (encLetList ls).length ≤ 112 * ls.length
  | [], _ => by simp [encLetList]
  | l :: r, h => by
    have h1 := encLetList_length r fun y hy => h y (List.mem_cons_of_mem _ hy)
    have h2 := encLet_length l (h l (by simp))
    rw [encLetList, List.length_append, List.length_cons]
    omega

/-- A key. -/
def KeyOk (k : ByteArray) : Prop := 1 ≤ k.size ∧ k.size ≤ 40
def U64 (n : Nat) : Prop := n < 18446744073709551616
structure Jour.Ok (j : Jour) : Prop where
  version : U64 j.version
  base : j.base.length = 8
  each : ∀ x ∈ j.base, In64 x
  few : j.events.length ≤ 16
  less : j.events.length ≤ j.version
  event : ∀ e ∈ j.events, e.1 < 8 ∧ In64 e.2
structure Outb.Ok (o : Outb) : Prop where
  owner : KeyOk o.owner
  serials : ∀ e ∈ o.serials, KeyOk e.1 ∧ 1 ≤ e.2 ∧ U64 e.2
  list : ∀ e ∈ o.list, KeyOk e.1 ∧ e.2.Ok
  shape : (o.serials = [] ∧ o.list = []) ∨ (∃ k s, o.serials = [(k, s)] ∧ (o.list = [] ∨ ∃ l : Let, l.frm = o.owner ∧ l.serial = s ∧ o.list = [(k, l)]))
structure Actr.Ok (a : Actr) : Prop where
  jour : a.jour.Ok
  inbox : ∀ l ∈ a.inbox, l.Ok
  room : a.inbox.length ≤ 8
  outb : a.outb.Ok
  tries : a.tries < 3
  tried : a.tries = 0 ∨ a.inbox ≠ []
  poison : ∀ l ∈ a.poison, l.Ok
  few : a.poison.length ≤ 8
structure Win.Ok (w : Win) : Prop where
  rows : ∀ e ∈ w.rows, U64 e.1 ∧ 1 ≤ e.2.length ∧ e.2.length ≤ 4 ∧ e.2.Nodup ∧ ∀ x ∈ e.2, U64 x
  one : w.rows.length ≤ 1

theorem encBytes_bytes (bs : List Int) (h : IsBytes bs) (hl : U64 bs.length) : IsBytes (encBytes bs) := (encNum_bytes _ hl).append h
theorem encBytes_length (bs : List Int) (hl : U64 bs.length) : (encBytes bs).length ≤ bs.length + 9 := by
  have := (encNum_length _ hl).2
  rw [encBytes, List.length_append]
  omega
theorem encText_eq (s : ByteArray) : encText s = encBytes (bytesOf s) := by rw [encText, encBytes, bytesOf_length]
theorem encEvents_bytes : ∀ es : List (Nat × Int), (∀ e ∈ es, e.1 < 8 ∧ In64 e.2) → IsBytes (encEvents es)
  | [], _ => .nil
  | e :: r, h => (encNum_bytes _ (by have := (h e (by simp)).1; omega)).append ((encInt_bytes _ (h e (by simp)).2).append (encEvents_bytes r fun y hy => h y (List.mem_cons_of_mem _ hy)))
theorem encEvents_length : ∀ es : List (Nat × Int), (∀ e ∈ es, e.1 < 8 ∧ In64 e.2) → (encEvents es).length ≤ 18 * es.length
  | [], _ => by simp [encEvents]
  | e :: r, h => by
    have h1 := encEvents_length r fun y hy => h y (List.mem_cons_of_mem _ hy)
    have h2 := (encNum_length e.1 (by have := (h e (by simp)).1; omega)).2
    have h3 := (encInt_length e.2 (h e (by simp)).2).2
    simp only [encEvents, List.length_append, List.length_cons]
    omega
theorem encJour_bytes (j : Jour) (h : j.Ok) : IsBytes (encJour j) :=
  (encNum_bytes _ h.version).append ((encInts_bytes _ h.each).append ((encNum_bytes _ (by have := h.few; omega)).append (encEvents_bytes _ h.event)))
theorem encJour_length (j : Jour) (h : j.Ok) : (encJour j).length ≤ 90 + 18 * j.events.length := by
  have h1 := (encNum_length _ h.version).2
  have h2 := encInts_length _ h.each
  have h3 := (encNum_length j.events.length (by have := h.few; omega)).2
  have h4 := encEvents_length _ h.event
  have h5 := h.base
  simp only [encJour, List.length_append]
  omega
theorem encSerials_bytes : ∀ es : List (ByteArray × Nat), (∀ e ∈ es, KeyOk e.1 ∧ 1 ≤ e.2 ∧ U64 e.2) → IsBytes (encSerials es)
  | [], _ => .nil
  | e :: r, h => (encText_bytes _ (by have := (h e (by simp)).1.2; omega)).append ((encNum_bytes _ (h e (by simp)).2.2).append (encSerials_bytes r fun y hy => h y (List.mem_cons_of_mem _ hy)))
theorem encSerials_length : ∀ es : List (ByteArray × Nat), (∀ e ∈ es, KeyOk e.1 ∧ 1 ≤ e.2 ∧ U64 e.2) → (encSerials es).length ≤ 58 * es.length
  | [], _ => by simp [encSerials]
  | e :: r, h => by
    have h1 := encSerials_length r fun y hy => h y (List.mem_cons_of_mem _ hy)
    have h2 := (encNum_length e.2 (h e (by simp)).2.2).2
    have h3 := encText_length e.1 (by have := (h e (by simp)).1.2; omega)
    have h4 := (h e (by simp)).1.2
    simp only [encSerials, List.length_append, List.length_cons]
    omega
theorem encOuts_bytes : ∀ es : List (ByteArray × Let), (∀ e ∈ es, KeyOk e.1 ∧ e.2.Ok) → IsBytes (encOuts es)
  | [], _ => .nil
  | e :: r, h => (encText_bytes _ (by have := (h e (by simp)).1.2; omega)).append ((encBytes_bytes _ (encLet_bytes _ (h e (by simp)).2) (by have := (encLet_length _ (h e (by simp)).2).2; unfold U64; omega)).append (encOuts_bytes r fun y hy => h y (List.mem_cons_of_mem _ hy)))
theorem encOuts_length : ∀ es : List (ByteArray × Let), (∀ e ∈ es, KeyOk e.1 ∧ e.2.Ok) → (encOuts es).length ≤ 170 * es.length
  | [], _ => by simp [encOuts]
  | e :: r, h => by
    have h1 := encOuts_length r fun y hy => h y (List.mem_cons_of_mem _ hy)
    have h2 := (encLet_length _ (h e (by simp)).2).2
    have h2' := encBytes_length (encLet e.2) (by unfold U64; omega)
    have h3 := encText_length e.1 (by have := (h e (by simp)).1.2; omega)
    have h4 := (h e (by simp)).1.2
    simp only [encOuts, List.length_append, List.length_cons]
    omega
theorem Outb.Ok.counts {o : Outb} (h : o.Ok) : o.serials.length ≤ 1 ∧ o.list.length ≤ o.serials.length := by
  rcases h.shape with ⟨h1, h2⟩ | ⟨k, s, h1, h2 | ⟨l, _, _, h2⟩⟩ <;> simp [h1, h2]
theorem encOutb_bytes (o : Outb) (h : o.Ok) : IsBytes (encOutb o) := by
  have hc := h.counts
  exact (encText_bytes _ (by have := h.owner.2; omega)).append ((encNum_bytes _ (by omega)).append ((encSerials_bytes _ h.serials).append ((encNum_bytes _ (by omega)).append (encOuts_bytes _ h.list))))
theorem encOutb_length (o : Outb) (h : o.Ok) : (encOutb o).length ≤ 67 + 58 * o.serials.length + 170 * o.list.length := by
  have hc := h.counts
  have h1 := encText_length o.owner (by have := h.owner.2; omega)
  have h2 := (encNum_length o.serials.length (by omega)).2
  have h3 := encSerials_length _ h.serials
  have h4 := (encNum_length o.list.length (by omega)).2
  have h5 := encOuts_length _ h.list
  have h6 := h.owner.2
  simp only [encOutb, List.length_append]
  omega
theorem encLets_bytes (ls : List Let) (h : ∀ l ∈ ls, l.Ok) (hl : ls.length ≤ 8) : IsBytes (encLets ls) := (encNum_bytes _ (by omega)).append (encLetList_bytes _ h)
theorem encLets_length (ls : List Let) (h : ∀ l ∈ ls, l.Ok) (hl : ls.length ≤ 8) : (encLets ls).length ≤ 9 + 112 * ls.length := by
  have h1 := (encNum_length ls.length (by omega)).2
  have h2 := (encLetList_length _ h).2
  simp only [encLets, List.length_append]
  omega
theorem encAct_bytes (a : Actr) (h : a.Ok) : IsBytes (encAct a) := by
  have h1 := encJour_length _ h.jour
  have h2 := encLets_length _ h.inbox h.room
  have h3 := encOutb_length _ h.outb
  have h4 := encLets_length _ h.poison h.few
  have h5 := h.room
  have h6 := h.few
  have h7 := h.jour.few
  have h8 := h.outb.counts
  exact (encNum_bytes _ (by have := h.tries; omega)).append ((encBytes_bytes _ (encJour_bytes _ h.jour) (by unfold U64; omega)).append ((encBytes_bytes _ (encLets_bytes _ h.inbox h.room) (by unfold U64; omega)).append
    ((encBytes_bytes _ (encOutb_bytes _ h.outb) (by unfold U64; omega)).append (encBytes_bytes _ (encLets_bytes _ h.poison h.few) (by unfold U64; omega)))))
theorem encAct_length (a : Actr) (h : a.Ok) : (encAct a).length ≤ 220 + 18 * a.jour.events.length + 112 * a.inbox.length + 228 * a.outb.serials.length + 112 * a.poison.length := by
  have h1 := encJour_length _ h.jour
  have h2 := encLets_length _ h.inbox h.room
  have h3 := encOutb_length _ h.outb
  have h4 := encLets_length _ h.poison h.few
  have h5 := h.room
  have h6 := h.few
  have h7 := h.jour.few
  have h8 := h.outb.counts
  have g0 := (encNum_length a.tries (by have := h.tries; omega)).2
  have g1 := encBytes_length (encJour a.jour) (by unfold U64; omega)
  have g2 := encBytes_length (encLets a.inbox) (by unfold U64; omega)
  have g3 := encBytes_length (encOutb a.outb) (by unfold U64; omega)
  have g4 := encBytes_length (encLets a.poison) (by unfold U64; omega)
  simp only [encAct, List.length_append]
  omega
theorem encNums_bytes : ∀ xs : List Nat, (∀ x ∈ xs, U64 x) → IsBytes (encNums xs)
  | [], _ => .nil
  | x :: r, h => (encNum_bytes x (h x (by simp))).append (encNums_bytes r fun y hy => h y (List.mem_cons_of_mem _ hy))
theorem encNums_length : ∀ xs : List Nat, (∀ x ∈ xs, U64 x) → (encNums xs).length ≤ 9 * xs.length
  | [], _ => by simp [encNums]
  | x :: r, h => by
    have h1 := encNums_length r fun y hy => h y (List.mem_cons_of_mem _ hy)
    have h2 := (encNum_length x (h x (by simp))).2
    rw [encNums, List.length_append, List.length_cons]
    omega
theorem encRows_bytes : ∀ rs : List (Nat × List Nat), (∀ e ∈ rs, U64 e.1 ∧ 1 ≤ e.2.length ∧ e.2.length ≤ 4 ∧ e.2.Nodup ∧ ∀ x ∈ e.2, U64 x) → IsBytes (encRows rs)
  | [], _ => .nil
  | e :: r, h => by
    obtain ⟨h1, h2, h3, h4, h5⟩ := h e (by simp)
    exact (encNum_bytes _ h1).append ((encNum_bytes _ (by omega)).append ((encNums_bytes _ h5).append (encRows_bytes r fun y hy => h y (List.mem_cons_of_mem _ hy))))
theorem encRows_length : ∀ rs : List (Nat × List Nat), (∀ e ∈ rs, U64 e.1 ∧ 1 ≤ e.2.length ∧ e.2.length ≤ 4 ∧ e.2.Nodup ∧ ∀ x ∈ e.2, U64 x) → (encRows rs).length ≤ 54 * rs.length
  | [], _ => by simp [encRows]
  | e :: r, h => by
    obtain ⟨h1, h2, h3, h4, h5⟩ := h e (by simp)
    have g1 := (encNum_length _ h1).2
    have g2 := (encNum_length e.2.length (by omega)).2
    have g3 := encNums_length _ h5
    have g4 := encRows_length r fun y hy => h y (List.mem_cons_of_mem _ hy)
    simp only [encRows, List.length_append, List.length_cons]
    omega
theorem encWin_bytes (w : Win) (h : w.Ok) : IsBytes (encWin w) := (encNum_bytes _ (by have := h.one; omega)).append (encRows_bytes _ h.rows)
theorem encWin_length (w : Win) (h : w.Ok) : (encWin w).length ≤ 63 := by
  have h0 := h.one
  have h1 := (encNum_length w.rows.length (by omega)).2
  have h2 := encRows_length _ h.rows
  simp only [encWin, List.length_append]
  omega
/-- A text off the head of bytes, and what is left; or none. -/
def decText (bs : List Int) : Option (List Int × List Int) :=
  match decNum bs with
  | none => none
  | some (n, r) => if (r.length : Int) < n then none else some (r.take n.toNat, r.drop n.toNat)
theorem decText_enc (bs r : List Int) (h : bs.length < 18446744073709551616) : decText (encBytes bs ++ r) = some (bs, r) := by
  unfold decText encBytes
  rw [List.append_assoc, decNum_enc _ h]
  have e : ¬ (((bs ++ r).length : Int) < (bs.length : Int)) := by rw [List.length_append]; omega
  simp only [if_neg e, Int.toNat_natCast, Option.some.injEq, Prod.mk.injEq]
  simp
theorem IsBytes.drop {bs : List Int} (h : IsBytes bs) (n : Nat) : IsBytes (bs.drop n) := fun x hx => h x (List.mem_of_mem_drop hx)
theorem IsBytes.take {bs : List Int} (h : IsBytes bs) (n : Nat) : IsBytes (bs.take n) := fun x hx => h x (List.mem_of_mem_take hx)
theorem foldB_acc (l : List Int) (h : IsBytes l) : ∀ a : Int, 0 ≤ a → 0 ≤ l.foldl (fun a c => a * 256 + c) a ∧ l.foldl (fun a c => a * 256 + c) a < (a + 1) * 256 ^ l.length := by
  induction l with
  | nil => intro a ha; simp; omega
  | cons c l ih =>
    intro a ha
    have h2 := h c (by simp)
    have h1 := ih (fun x hx => h x (List.mem_cons_of_mem _ hx)) (a * 256 + c) (by omega)
    simp only [List.foldl_cons, List.length_cons]
    refine ⟨h1.1, Int.lt_of_lt_of_le h1.2 ?_⟩
    rw [Int.pow_succ, Int.mul_comm (256 ^ l.length) 256, ← Int.mul_assoc]
    exact Int.mul_le_mul_of_nonneg_right (by omega) (Int.pow_nonneg (by omega))
theorem foldB_bound (l : List Int) (h : IsBytes l) : 0 ≤ foldB l ∧ foldB l < 256 ^ l.length := by
  have := foldB_acc l h 0 (by omega)
  unfold foldB
  omega
end Go.Proofs.YtlcdjgpblpodaaaGreatDoor

/- What the reference's encoder writes, in plain Lean, and that the reader reads it back. -/
import Derived.Test.YtkdkcffeepancaaParse
import Derived.Test.YtkdkcffeepancaaPNum
import Derived.Laws.BytesArg
namespace Go.Proofs.Ytkdkcffeepancaa
set_option linter.unusedSimpArgs false
open Go.RowKit Go.Proofs.YtkdkcffeepancaaW.PrintWords Go.Proofs.YtkdkcffeepancaaW.PrintMore

def encNum (n : Nat) : List Int :=
  if n < 248 then [(n : Int)] else if n < 256 then [248, (n : Int)] else if n < 65536 then [249, (n : Int) / 256, (n : Int) % 256]
  else [250, (n : Int) / 65536, (n : Int) / 256 % 256, (n : Int) % 256]
def encText (s : ByteArray) : List Int := encNum s.size ++ bytesOf s
def encAll : List ByteArray → List Int
  | [] => []
  | s :: r => encText s ++ encAll r

theorem encNum_length (n : Nat) : (encNum n).length ≤ 4 := by
  unfold encNum
  split; · simp
  split; · simp
  split <;> simp
theorem encNum_bytes (n : Nat) (h : n ≤ 1048576) : IsBytes (encNum n) := by
  unfold encNum
  intro x hx
  split at hx
  · simp at hx; omega
  split at hx
  · simp at hx; omega
  split at hx
  · simp at hx; omega
  · simp at hx; omega
theorem bytesOf_bytes (s : ByteArray) : IsBytes (bytesOf s) := fun x hx => by
  obtain ⟨b, _, rfl⟩ := List.mem_map.1 hx
  have := b.toNat_lt
  omega
theorem encText_bytes (s : ByteArray) (h : s.size ≤ 1048576) : IsBytes (encText s) := (encNum_bytes _ h).append (bytesOf_bytes s)
theorem encText_length (s : ByteArray) : (encText s).length ≤ s.size + 4 := by
  unfold encText
  rw [List.length_append, bytesOf_length]
  have := encNum_length s.size
  omega
theorem strOf_bytesOf (s : ByteArray) : strOfNums (bytesOf s) = s := by
  have h : (bytesOf s).map (fun n => UInt8.ofNat n.toNat) = s.data.toList := by
    unfold bytesOf
    rw [List.map_map]
    conv => rhs; rw [← List.map_id s.data.toList]
    apply List.map_congr_left
    intro b _
    simp
  unfold strOfNums
  rw [h]

theorem decNum_enc (n : Nat) (h : n ≤ 1048576) (r : List Int) : decNum (encNum n ++ r) = some ((n : Int), r) := by
  unfold encNum
  split
  · simp [decNum]; omega
  split
  · rename_i h1 h2
    have e : ¬ ((n : Int) < 248 ∨ (n : Int) = 0) := by omega
    simp [decNum, foldB]
    omega
  split
  · rename_i h1 h2 h3
    have e : ¬ ((n : Int) / 256 * 256 + (n : Int) % 256 < 248 ∨ (n : Int) / 256 = 0) := by omega
    have e2 : (n : Int) / 256 * 256 + (n : Int) % 256 = n := by omega
    simp [decNum, foldB, e, e2]
    omega
  · rename_i h1 h2 h3
    have e2 : ((n : Int) / 65536 * 256 + (n : Int) / 256 % 256) * 256 + (n : Int) % 256 = n := by omega
    have e : ¬ ((n : Int) < 248 ∨ (n : Int) / 65536 = 0) := by omega
    simp [decNum, foldB, e2, e]
theorem decText_enc (s : ByteArray) (h : s.size ≤ 1048576) (r : List Int) : decText (encText s ++ r) = some (bytesOf s, r) := by
  unfold decText encText
  rw [List.append_assoc, decNum_enc _ h]
  have hl := bytesOf_length s
  have e : ¬ (((bytesOf s ++ r).length : Int) < (s.size : Int)) := by rw [List.length_append]; omega
  simp only [if_neg e, Int.toNat_natCast, Option.some.injEq, Prod.mk.injEq]
  rw [← hl]
  simp
theorem encAll_bytes : ∀ ts : List ByteArray, (∀ s ∈ ts, s.size ≤ 1048576) → IsBytes (encAll ts)
  | [], _ => fun x hx => by simp [encAll] at hx
  | s :: r, h => (encText_bytes s (h s (by simp))).append (encAll_bytes r fun t ht => h t (List.mem_cons_of_mem _ ht))
theorem encNum_pos (n : Nat) : 1 ≤ (encNum n).length := by
  unfold encNum
  split; · simp
  split; · simp
  split <;> simp
theorem parse_enc : ∀ ts : List ByteArray, (∀ s ∈ ts, s.size ≤ 1048576) → parse (encAll ts) = some ts
  | [], _ => parse_nil
  | s :: r, h => by
    have hs := h s (by simp)
    have hr := parse_enc r fun t ht => h t (List.mem_cons_of_mem _ ht)
    have hb := encAll_bytes (s :: r) h
    have hd : decText (encAll (s :: r)) = some (bytesOf s, encAll r) := decText_enc s hs _
    have hn : (encAll (s :: r)).length ≠ 0 := by
      unfold encAll encText
      rw [List.length_append, List.length_append]
      have := encNum_pos s.size
      omega
    rw [parse_some hb hn hd, hr, strOf_bytesOf]
    rfl
theorem encAll_snoc : ∀ (ts : List ByteArray) (s : ByteArray), encAll (ts ++ [s]) = encAll ts ++ encText s
  | [], s => by simp [encAll]
  | t :: r, s => by simp [encAll, encAll_snoc r s]
/-- The letters that texts hold, and one for each. -/
def mass : List ByteArray → Nat
  | [] => 0
  | s :: r => s.size + 1 + mass r
theorem mass_append : ∀ (a b : List ByteArray), mass (a ++ b) = mass a + mass b
  | [], b => by simp [mass]
  | t :: r, b => by simp only [List.cons_append, mass, mass_append r b]; omega
theorem mass_mem : ∀ (ts : List ByteArray) (s : ByteArray), s ∈ ts → s.size + 1 ≤ mass ts
  | t :: r, s, h => by
    simp only [mass]
    rcases List.mem_cons.1 h with rfl | h
    · omega
    · have := mass_mem r s h; omega
theorem mass_length : ∀ ts : List ByteArray, ts.length ≤ mass ts
  | [] => by simp [mass]
  | t :: r => by have := mass_length r; simp only [mass, List.length_cons]; omega
theorem encAll_length : ∀ ts : List ByteArray, (encAll ts).length ≤ 4 * mass ts
  | [] => by simp [encAll]
  | s :: r => by
    have := encAll_length r
    have := encText_length s
    simp only [encAll, mass, List.length_append]
    omega

/-- What the encoder's walk computes is what is written here. -/
theorem number_f (n : Nat) (h : n ≤ 1048576) (l : List Int) (hl : l.length ≤ 1073741824) : PNum.reeveref01_Number.f 12 l n = some (l ++ encNum n) := by
  have w0 : IntKind.u64.wrap (wrap64 (8 * 0)) = 0 := by decide +kernel
  have w1 : IntKind.u64.wrap (wrap64 (8 * 1)) = 8 := by decide +kernel
  have w2 : IntKind.u64.wrap (wrap64 (8 * 2)) = 16 := by decide +kernel
  have w3 : IntKind.u64.wrap (wrap64 (8 * 3)) = 24 := by decide +kernel
  have a1 : wrap64 (1 + 1) = 2 := by decide +kernel
  have a2 : wrap64 (2 + 1) = 3 := by decide +kernel
  have b1 : wrap64 (1 - 1) = 0 := by decide +kernel
  have b2 : wrap64 (2 - 1) = 1 := by decide +kernel
  have b3 : wrap64 (3 - 1) = 2 := by decide +kernel
  have b0 : wrap64 (0 - 1) = -1 := by decide +kernel
  have c1 : wrap64 (247 + 1) % 256 = 248 := by decide +kernel
  have c2 : wrap64 (247 + 2) % 256 = 249 := by decide +kernel
  have c3 : wrap64 (247 + 3) % 256 = 250 := by decide +kernel
  have s0 : shr .u64 (n : Int) 0 = n := by unfold shr; simp
  have s1 : shr .u64 (n : Int) 8 = (n : Int) / 256 := by unfold shr; rfl
  have s2 : shr .u64 (n : Int) 16 = (n : Int) / 65536 := by unfold shr; rfl
  have s3 : shr .u64 (n : Int) 24 = (n : Int) / 16777216 := by unfold shr; rfl
  unfold PNum.reeveref01_Number.f encNum
  by_cases h1 : n < 248
  · rw [if_pos (by omega), if_pos (by omega), if_pos h1, Int.emod_eq_of_lt (by omega) (by omega)]
  rw [if_neg (by omega), if_neg h1]
  by_cases h2 : n < 256
  · rw [if_pos h2]
    have e1 : ¬ ((n : Int) / 256 > 0) := by omega
    have e2 : (n : Int) % 256 = n := by omega
    have l1 : l.length < 140737488355328 := by omega
    have l2 : (l ++ [248]).length < 140737488355328 := by simp; omega
    simp only [PNum.reeveref01_Number.l0, PNum.reeveref01_Number.j1, PNum.reeveref01_Number.l1, w0, w1, a1, b1, b0, c1, s0, s1, e1, e2, l1, l2, if_pos, if_false, if_true, ge_iff_le, gt_iff_lt, Int.reduceLT, Int.reduceLE, Int.reduceNeg, List.append_assoc, List.cons_append, List.nil_append]
  rw [if_neg h2]
  by_cases h3 : n < 65536
  · rw [if_pos h3]
    have e1 : 0 < (n : Int) / 256 := by omega
    have e2 : ¬ (0 < (n : Int) / 65536) := by omega
    have e3 : (n : Int) / 256 % 256 = (n : Int) / 256 := by omega
    have l1 : l.length < 140737488355328 := by omega
    have l2 : (l ++ [249]).length < 140737488355328 := by simp; omega
    have l3 : (l ++ [249, (n : Int) / 256]).length < 140737488355328 := by simp; omega
    simp only [PNum.reeveref01_Number.l0, PNum.reeveref01_Number.j1, PNum.reeveref01_Number.l1, w0, w1, w2, a1, a2, b1, b2, b0, c2, s0, s1, s2, e1, e2, e3, l1, l2, l3, if_false, if_true, ge_iff_le, gt_iff_lt, Int.reduceLT, Int.reduceLE, Int.reduceNeg, List.append_assoc, List.cons_append, List.nil_append]
  rw [if_neg h3]
  have e1 : 0 < (n : Int) / 256 := by omega
  have e2 : 0 < (n : Int) / 65536 := by omega
  have e3 : ¬ (0 < (n : Int) / 16777216) := by omega
  have e4 : (n : Int) / 65536 % 256 = (n : Int) / 65536 := by omega
  have l1 : l.length < 140737488355328 := by omega
  have l2 : (l ++ [250]).length < 140737488355328 := by simp; omega
  have l3 : (l ++ [250, (n : Int) / 65536]).length < 140737488355328 := by simp; omega
  have l4 : (l ++ [250, (n : Int) / 65536, (n : Int) / 256 % 256]).length < 140737488355328 := by simp; omega
  simp only [PNum.reeveref01_Number.l0, PNum.reeveref01_Number.j1, PNum.reeveref01_Number.l1, w0, w1, w2, w3, a1, a2, b1, b2, b3, b0, c3, s0, s1, s2, s3, e1, e2, e3, e4, l1, l2, l3, l4, if_false, if_true, ge_iff_le, gt_iff_lt, Int.reduceLT, Int.reduceLE, Int.reduceNeg, List.append_assoc, List.cons_append, List.nil_append]
end Go.Proofs.Ytkdkcffeepancaa

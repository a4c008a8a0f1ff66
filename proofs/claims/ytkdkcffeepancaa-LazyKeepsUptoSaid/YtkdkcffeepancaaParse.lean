/- All texts that bytes are, in plain Lean. No program in sight. -/
import Derived.Test.YtkdkcffeepancaaRd5
namespace Go.Proofs.Ytkdkcffeepancaa

/-- All texts, with a bound on the rounds. -/
def decAll : Nat → List Int → Option (List ByteArray)
  | 0, _ => none
  | k + 1, bs => if bs.length = 0 then some [] else match decText bs with
    | none => none
    | some (s, r) => (decAll k r).map (strOfNums s :: ·)
def parse (bs : List Int) : Option (List ByteArray) := decAll (bs.length + 1) bs

theorem decAll_same : ∀ (k k' : Nat) (bs : List Int), IsBytes bs → bs.length < k → bs.length < k' → decAll k bs = decAll k' bs
  | 0, _, _, _, h, _ => absurd h (by omega)
  | _ + 1, 0, _, _, _, h => absurd h (by omega)
  | k + 1, k' + 1, bs, hb, h1, h2 => by
    unfold decAll
    split
    · rfl
    · split
      · rfl
      · rename_i s r hd
        obtain ⟨hr, hl, _⟩ := decText_facts hb hd
        rw [decAll_same k k' r hr (by omega) (by omega)]
theorem parse_nil : parse [] = some [] := by simp [parse, decAll]
theorem parse_none {bs : List Int} (hn : bs.length ≠ 0) (hd : decText bs = none) : parse bs = none := by
  unfold parse decAll
  rw [if_neg hn, hd]
theorem parse_some {bs s r : List Int} (hb : IsBytes bs) (hn : bs.length ≠ 0) (hd : decText bs = some (s, r)) : parse bs = (parse r).map (strOfNums s :: ·) := by
  obtain ⟨hr, hl, _⟩ := decText_facts hb hd
  unfold parse
  rw [decAll, if_neg hn, hd]
  simp only []
  rw [decAll_same bs.length (r.length + 1) r hr (by omega) (by omega)]
end Go.Proofs.Ytkdkcffeepancaa

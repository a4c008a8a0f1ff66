/- few: what it says bounds the program and the letter. -/
import Derived.Test.YtmmbigfeojfedaaAwake
namespace Go.Proofs.Ytmmbigfeojfedaa
open Go.RowKit Go.Proofs.YtmmbigfeojfedaaW.PrintWords

set_option maxRecDepth 100000 in
set_option maxHeartbeats 4000000 in
theorem few_any (nA kA : Option Addr) (nC kC cl : Nat) (NL : List ByteArray) (w : World) (hN : ReadsOf Value.string (⟨#[]⟩ : ByteArray) w nA NL.length NL) :
    Calls Try.prog 17 #[.agg #[.slice nA NL.length nC, .slice kA cl kC]] w fun e w' => Below w.heap.size w w' ∧ ∃ b : Bool, e = .returned (.bool b) ∧ (b = true → cl ≤ 1000 ∧ NL.length ≤ 51) := by
  have HN := Lib.hid hN
  have hnl := hN.2.1
  clear hN
  have hbk0 : Blk (w.alloc (.cells #[.slice nA NL.length nC, .slice kA cl kC] 25)) w.heap.size #[.slice nA NL.length nC, .slice kA cl kC] 25 := Blk.new _ _ _
  have HBK := Lib.hid hbk0
  clear hbk0
  go_enter Try.func17, Try.ntmps17
  go_wp2_with fail
  go_loopw [7] (fun i wr => ∃ k : Nat, (k ≤ NL.length ∧ k ≤ 51) ∧ i = .int .i64 k ∧ Below w.heap.size w wr ∧ Blk wr w.heap.size #[.slice nA NL.length nC, .slice kA cl kC] 25) (fun i _ => NL.length - (intOf i).toNat)
  case atStart => exact ⟨0, ⟨by omega, by omega⟩, rfl, (Below.refl _ _).alloc (Nat.le_refl _) _, HBK.out⟩
  case round =>
    obtain ⟨k, ⟨hk, hk51⟩, rfl, hb, hbk⟩ := hrel
    have HB := Lib.hid hb
    have HBK2 := Lib.hid hbk
    have u : ∀ i, wr.cell? ⟨w.heap.size, i, none⟩ = _ := fun i => hbk.cell i
    clear hb hbk HBK
    by_cases hlt : k < NL.length
    · obtain ⟨⟨b, off, sp⟩, rfl, q⟩ := (HN.out.below HB.out).2.2 (by omega)
      have p := q k hlt
      obtain ⟨s, hs⟩ : ∃ s, s = NL.getD k ⟨#[]⟩ := ⟨_, rfl⟩
      rw [← hs] at p
      clear q hs
      have k0 : (0 : Int) ≤ (k : Int) := by omega
      have k1 : (k : Int) < (NL.length : Int) := by omega
      by_cases h1 : 1000 < s.size
      · have d1 : decide ((1000 : Int) < (s.size : Int)) = true := decide_eq_true (by omega)
        go_wp2_with fail
        go_ret
        exact ⟨HB.out, false, rfl, fun h => by cases h⟩
      · have d1 : decide ((1000 : Int) < (s.size : Int)) = false := decide_eq_false (by omega)
        by_cases h2 : 50 < k
        · have d2 : decide ((50 : Int) < (k : Int)) = true := decide_eq_true (by omega)
          go_wp2_with fail
          go_ret
          exact ⟨HB.out, false, rfl, fun h => by cases h⟩
        · have d2 : decide ((50 : Int) < (k : Int)) = false := decide_eq_false (by omega)
          go_wp2_with fail
          go_roundw
          case rel => exact ⟨k + 1, ⟨by omega, by omega⟩, by go_num, HB.out, HBK2.out⟩
          case measure => simp [intOf]; omega
    · obtain rfl : k = NL.length := by omega
      go_wp2_with fail
      go_ret
      exact ⟨HB.out, _, rfl, fun h => ⟨by simp at h; omega, by omega⟩⟩

set_option maxRecDepth 100000 in
set_option maxHeartbeats 4000000 in
theorem fewL_any (nA kA aA : Option Addr) (nC kC aC cl al : Nat) (NL : List ByteArray) (frm : ByteArray) (ser kd : Int) (w : World) (hN : ReadsOf Value.string (⟨#[]⟩ : ByteArray) w nA NL.length NL) :
    Calls Try.prog 11 #[.agg #[.slice nA NL.length nC, .slice kA cl kC], .agg #[.string frm, .int .u64 ser, .int .i64 kd, .slice aA al aC]] w fun e w' => Below w.heap.size w w' ∧ ∃ b : Bool, e = .returned (.bool b) ∧ (b = true → cl ≤ 1000 ∧ NL.length ≤ 51) := by
  have HN := Lib.hid hN
  have h1 : Below w.heap.size w (w.alloc (.cells #[.slice nA NL.length nC, .slice kA cl kC] 25)) := (Below.refl _ _).alloc (Nat.le_refl _) _
  have h2 := h1.alloc h1.size (.cells #[.string frm, .int .u64 ser, .int .i64 kd, .slice aA al aC] 30)
  have HB := Lib.hid h2
  have HL := Lib.hid (show Blk ((w.alloc (.cells #[.slice nA NL.length nC, .slice kA cl kC] 25)).alloc (.cells #[.string frm, .int .u64 ser, .int .i64 kd, .slice aA al aC] 30)) (w.heap.size + 1) #[.string frm, .int .u64 ser, .int .i64 kd, .slice aA al aC] 30 from Blk.newAt (by simp))
  clear hN h1 h2
  go_enter Try.func11, Try.ntmps11
  go_wp2_with fail
  refine (few_any nA kA nC kC cl NL _ (HN.out.below HB.out)).mono ?_
  rintro e w1 ⟨hb, b, rfl, hbc⟩
  have HB1 := Lib.hid (HB.out.trans (hb.mono HB.out.size))
  have HL1 := Lib.hid (HL.out.below hb)
  have HC := Lib.hid hbc
  have u : ∀ i, w1.cell? ⟨w.heap.size + 1, i, none⟩ = _ := fun i => HL1.out.cell i
  clear hb hbc
  cases b with
  | false =>
    go_wp2_with fail
    go_ret
    exact ⟨HB1.out, false, rfl, fun h => by cases h⟩
  | true =>
    by_cases g1 : al ≤ 1000
    · have d1 : decide ((al : Int) ≤ 1000) = true := decide_eq_true (by omega)
      go_wp2_with fail
      go_ret
      exact ⟨HB1.out, _, rfl, fun _ => HC.out trivial⟩
    · have d1 : decide ((al : Int) ≤ 1000) = false := decide_eq_false (by omega)
      go_wp2_with fail
      go_ret
      exact ⟨HB1.out, _, rfl, fun _ => HC.out trivial⟩
end Go.Proofs.Ytmmbigfeojfedaa

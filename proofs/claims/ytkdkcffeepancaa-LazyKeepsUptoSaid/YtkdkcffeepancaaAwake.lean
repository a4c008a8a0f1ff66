/- The list's At, the law's awake, and the reference's Same at two lists that are alike; one goroutine. -/
import Derived.Test.YtkdkcffeepancaaList
namespace Go.Proofs.Ytkdkcffeepancaa
open Go.RowKit Go.Proofs.YtkdkcffeepancaaW.PrintWords

/-- What At leaves. -/
def AtPost (s : ByteArray) (lb : Nat) (w : World) (e : Ending) (w' : World) : Prop := e = .returned (.tuple #[.string s, .bool true]) ∧ Chg (fun k => k = lb) w w'

set_option maxRecDepth 100000 in
set_option maxHeartbeats 1000000 in
theorem at_of (B lb : Nat) (bs : List Int) (ts : List ByteArray) (i : Nat) (hi : i < ts.length) (s : ByteArray) (hgs : ts.getD i ⟨#[]⟩ = s) (hp : parse bs = some ts) (w : World)
    (hR : Calls Try.prog 16 #[.pointer (some ⟨lb, 0, none⟩)] w fun e w' => e = .returned (.tuple #[]) ∧ Done w' B lb bs ∧ Chg (fun k => k = lb) w w') :
    Calls Try.prog 11 #[.pointer (some ⟨lb, 0, none⟩), .int .i64 i] w (AtPost s lb w) := by
  have HR := Lib.hid hR
  have HP := Lib.hid hp
  have HS := Lib.hid hgs
  clear hR hp hgs
  have i0 : (0 : Int) ≤ (i : Int) := by omega
  have t0 : decide (ts.length ≤ i) = false := by simp; omega
  have t2 : (i : Int) < (ts.length : Int) := by omega
  go_enter Try.func11, Try.ntmps11
  go_wp2_with fail
  refine HR.out.mono ?_
  rintro e w1 ⟨rfl, ⟨raw, tv, g, hb, ht, hlB⟩, hc⟩
  rcases ht with ⟨h1, _, _⟩ | ⟨ts', h1, rfl, h3⟩
  · rw [HP.out] at h1; cases h1
  obtain rfl : ts = ts' := by rw [HP.out] at h1; exact Option.some.inj h1
  obtain ⟨A, c, rfl, hr⟩ := own_reads_of (d := (⟨#[]⟩ : ByteArray)) h3
  have hlen := hr.2.1
  obtain ⟨a, rfl, hcell⟩ := hr.2.2 (by omega)
  have g0 := hcell i hi
  obtain ⟨b, off, sp⟩ := a
  obtain rfl : sp = none := by
    have := hcell 0 (by omega)
    simpa [Addr.add] using World.cell?_spot this
  rw [show (⟨b, off, none⟩ : Addr).add i = ⟨b, off + i, none⟩ from Go.WideShapes.add_plain b off i] at g0
  rw [HS.out] at g0
  have c5 := hb.cell 5
  simp at c5
  have HC := Lib.hid hc
  clear hb hc h3 hr hcell h1
  go_wp2
  go_ret2
  exact ⟨rfl, HC.out⟩

theorem parse_awake : parse [1, 97, 2, 98, 99] = some [⟨#[97]⟩, ⟨#[98, 99]⟩] := by rfl

set_option maxRecDepth 100000 in
set_option maxHeartbeats 1000000 in
theorem awake_any (w : World) : Calls Try.prog 6 #[] w fun e w' => e = .returned (.bool true) ∧ Below w.heap.size w w' := by
  have hb0 : Blk (w.alloc (.cells #[.int .u8 1, .int .u8 97, .int .u8 2, .int .u8 98, .int .u8 99] 5)) w.heap.size #[.int .u8 1, .int .u8 97, .int .u8 2, .int .u8 98, .int .u8 99] 5 := Blk.new _ _ _
  have hr0 : ReadsOf (Value.int .u8) (0 : Int) (w.alloc (.cells #[.int .u8 1, .int .u8 97, .int .u8 2, .int .u8 98, .int .u8 99] 5)) (some ⟨w.heap.size, 0, none⟩) [(1 : Int), 97, 2, 98, 99].length [1, 97, 2, 98, 99] := by
    refine ⟨rfl, by simp, fun _ => ⟨_, rfl, fun j hj => ?_⟩⟩
    rw [show (⟨w.heap.size, 0, none⟩ : Addr).add j = ⟨w.heap.size, j, none⟩ by rw [Go.WideShapes.add_plain]; simp, hb0.cell]
    match j, hj with
    | 0, _ | 1, _ | 2, _ | 3, _ | 4, _ => rfl
  have HN := Lib.hid (new_any (some ⟨w.heap.size, 0, none⟩) 5 [1, 97, 2, 98, 99] _ hr0 (by simp) (fun h => by cases h))
  clear hb0 hr0
  go_enter Try.func6, Try.ntmps6
  go_wp2_with fail
  refine HN.out.mono ?_
  rintro e w1 ⟨lb, rfl, hlb, hf, hbel⟩
  have HA := Lib.hid (at_of w1.heap.size lb [1, 97, 2, 98, 99] [⟨#[97]⟩, ⟨#[98, 99]⟩] 1 (by simp) ⟨#[98, 99]⟩ rfl parse_awake w1 ((read_first lb _ w1 hf (by intro x hx; simp at hx; omega) (by simp)).mono fun _ _ q => q))
  have HB := Lib.hid hbel
  have hlb' : w.heap.size ≤ lb := by simp at hlb; omega
  clear hf hbel
  go_wp2_with fail
  refine HA.out.mono ?_
  rintro e w2 ⟨rfl, hc⟩
  have HC := Lib.hid hc
  clear hc
  go_wp2
  go_ret
  refine ⟨rfl, ?_⟩
  have h1 : Below w.heap.size w w1 := ((Below.refl _ _).alloc (Nat.le_refl _) _).trans (HB.out.mono (by simp))
  exact h1.trans (HC.out.below (fun k (e : k = lb) => by omega) h1.size)

set_option maxRecDepth 100000 in
set_option maxHeartbeats 1000000 in
theorem same_yes (A0 A1 : Option Addr) (c0 c1 : Nat) (ts : List ByteArray) (w : World) (h0 : ReadsOf Value.string (⟨#[]⟩ : ByteArray) w A0 ts.length ts) (h1 : ReadsOf Value.string (⟨#[]⟩ : ByteArray) w A1 ts.length ts) :
    Calls Try.prog 10 #[.slice A0 ts.length c0, .slice A1 ts.length c1] w fun e w' => e = .returned (.bool true) ∧ Below w.heap.size w w' := by
  have hlen := h0.2.1
  have H0 := Lib.hid h0
  have H1 := Lib.hid h1
  clear h0 h1
  go_enter Try.func10, Try.ntmps10
  go_wp2
  go_loopw [13] (fun i wr => ∃ k : Nat, k ≤ ts.length ∧ i = .int .i64 k ∧ Below w.heap.size w wr) (fun i _ => ts.length - (intOf i).toNat)
  case atStart => exact ⟨0, by omega, rfl, Below.refl _ _⟩
  case round =>
    obtain ⟨k, hk, rfl, hb⟩ := hrel
    have HB := Lib.hid hb
    clear hb
    by_cases hlt : k < ts.length
    · obtain ⟨a0, rfl, q0⟩ := (H0.out.below HB.out).2.2 (by omega)
      obtain ⟨a1, rfl, q1⟩ := (H1.out.below HB.out).2.2 (by omega)
      have p0 := q0 k hlt
      have p1 := q1 k hlt
      obtain ⟨s, hs⟩ : ∃ s, s = ts.getD k ⟨#[]⟩ := ⟨_, rfl⟩
      rw [← hs] at p0 p1
      clear q0 q1 hs
      have k0 : (0 : Int) ≤ (k : Int) := by omega
      have k1 : (k : Int) < (ts.length : Int) := by omega
      go_wp2
      go_quiet (fail)
      go_wp2
      go_roundw
      case rel => exact ⟨k + 1, by omega, by go_num, below_drewN HB.out _⟩
      case measure => simp [intOf]; omega
    · go_wp2
      go_ret
      exact ⟨rfl, HB.out⟩
end Go.Proofs.Ytkdkcffeepancaa

/- The contracts of (*Counts).All and of the law's helper same, one goroutine. -/
import Derived.Test.YteffdcpepjjkbaaC1
import Derived.BigQuiet
import Derived.Deep.QuietTactic
import Derived.Deep.RegionHeld3
import Derived.Lib.Hide
import Derived.WalkSmall
namespace Go.Proofs.Yteffdcpepjjkbaa
open Go.RowKit

/-- Block b holds the eight numbers f, and may be written. -/
def Cnt (w : World) (b : Nat) (f : Nat → Int) : Prop := ∀ j, j < 8 → w.cell? ⟨b, j, none⟩ = some (.int .u64 (f j)) ∧ w.frozen? ⟨b, j, none⟩ = false

theorem Cnt.lt {w : World} {b : Nat} {f : Nat → Int} (h : Cnt w b f) : b < w.heap.size := World.block_lt_of_cell? w _ (h 0 (by omega)).1

theorem Cnt.below {w w' : World} {b : Nat} {f : Nat → Int} (h : Cnt w b f) (hb : Below w.heap.size w w') : Cnt w' b f := fun j hj =>
  ⟨(hb.cell (p := ⟨b, j, none⟩) h.lt).trans (h j hj).1, (hb.frozen (p := ⟨b, j, none⟩) h.lt).trans (h j hj).2⟩

theorem ne_off {b i j : Nat} (h : i ≠ j) : (⟨b, i, none⟩ : Addr) ≠ ⟨b, j, none⟩ := fun e => h (congrArg Addr.off e)
theorem ne_blk {b c i j : Nat} (h : b ≠ c) : (⟨b, i, none⟩ : Addr) ≠ ⟨c, j, none⟩ := fun e => h (congrArg Addr.block e)

set_option maxHeartbeats 400000 in
theorem all_in (b : Nat) (f : Nat → Int) (w : World) (hc : Cnt w b f) :
    Calls Try.prog 12 #[.pointer (some ⟨b, 0, none⟩)] w fun e w' => e = .returned (.slice (some ⟨w.heap.size, 0, none⟩) 8 8) ∧ Below w.heap.size w w' ∧ Cnt w' w.heap.size f := by
  have hmk : ∀ w, (Instr.makeSlice 41 (.int .i64 8) (.int .i64 8)).run Try.prog w = .ok (.slice (some ⟨w.heap.size, 0, none⟩) 8 8) (w.alloc (.cells #[.int .u64 0, .int .u64 0, .int .u64 0, .int .u64 0, .int .u64 0, .int .u64 0, .int .u64 0, .int .u64 0] 29)) := fun _ => by kernel_rfl
  have hlt := hc.lt
  have HC := Lib.hid hc
  clear hc
  go_enter Try.func12, Try.ntmps12
  go_wp2
  go_loopw [4, 10] (fun u i wr => ∃ k : Nat, k ≤ 8 ∧ i = .int .i64 k ∧ Below w.heap.size w wr ∧ w.heap.size < wr.heap.size ∧ (∀ j, j < 8 → ∃ x, wr.cell? ⟨w.heap.size, j, none⟩ = some (.int .u64 x) ∧ wr.frozen? ⟨w.heap.size, j, none⟩ = false ∧ (j < k → x = f j))) (fun _ i _ => 8 - (intOf i).toNat)
  case atStart =>
    refine ⟨0, by omega, rfl, (Below.refl _ _).alloc (Nat.le_refl _) _, by simp, fun j hj => ⟨0, ?_, ?_, by omega⟩⟩
    · match j, hj with
      | 0, _ | 1, _ | 2, _ | 3, _ | 4, _ | 5, _ | 6, _ | 7, _ => simp
    · simp
  case round =>
    obtain ⟨k, hk, rfl, hb, hs, hr⟩ := hrel
    by_cases hlt8 : k < 8
    · have HB := Lib.hid hb
      obtain ⟨x0, hx0, hz0, _⟩ := hr k hlt8
      have HR := Lib.hid hr
      clear hr hb
      have hck := (HC.out.below HB.out k hlt8).1
      have e0 : ((k : Nat) : Int).toNat = k := by omega
      go_wp2_with (go_at_call 9; refine (get_in b k (f k) (by omega) (by omega) _ (by simpa [e0] using hck)).mono ?_; rintro e w' ⟨rfl, rfl⟩)
      go_roundw
      case rel =>
        refine ⟨k + 1, by omega, by go_num, HB.out.setCell (Nat.le_refl _) _, by simpa using hs, fun j hj => ?_⟩
        by_cases hjk : j = k
        · subst hjk
          exact ⟨f j, World.cell?_setCell_same _ _ _ hx0, by simp [hz0], fun _ => rfl⟩
        · obtain ⟨x, hx, hz, hf⟩ := HR.out j hj
          refine ⟨x, (World.cell?_setCell_other _ _ _ _ (ne_off (Ne.symm hjk))).trans hx, by simp [hz], fun h => hf (by omega)⟩
      case measure => simp [intOf]; omega
    · have HB := Lib.hid hb
      have HR := Lib.hid hr
      clear hr hb
      go_wp2
      go_ret
      refine ⟨rfl, HB.out, fun j hj => ?_⟩
      obtain ⟨x, hx, hz, hf⟩ := HR.out j hj
      obtain rfl := hf (by omega)
      exact ⟨hx, hz⟩

/-- An array of eight numbers, as a value. -/
def arr8 (f : Nat → Int) : Value := .agg #[.int .u64 (f 0), .int .u64 (f 1), .int .u64 (f 2), .int .u64 (f 3), .int .u64 (f 4), .int .u64 (f 5), .int .u64 (f 6), .int .u64 (f 7)]

set_option maxHeartbeats 400000 in
theorem same_yes (lb : Nat) (f : Nat → Int) (w : World) (hc : Cnt w lb f) :
    Calls Try.prog 11 #[.slice (some ⟨lb, 0, none⟩) 8 8, arr8 f] w fun e w' => e = .returned (.bool true) ∧ Below w.heap.size w w' := by
  have hlt := hc.lt
  unfold arr8
  have HC := Lib.hid hc
  clear hc
  go_enter Try.func11, Try.ntmps11
  go_wp2
  go_loopw [5, 9] (fun u i wr => ∃ k : Nat, k ≤ 8 ∧ i = .int .i64 k ∧ Below w.heap.size w wr ∧ w.heap.size < wr.heap.size ∧ (∀ j, j < 8 → wr.cell? ⟨w.heap.size, j, none⟩ = some (.int .u64 (f j)))) (fun _ i _ => 8 - (intOf i).toNat)
  case atStart =>
    refine ⟨0, by omega, rfl, (Below.refl _ _).alloc (Nat.le_refl _) _, by simp, fun j hj => ?_⟩
    match j, hj with
    | 0, _ | 1, _ | 2, _ | 3, _ | 4, _ | 5, _ | 6, _ | 7, _ => simp
  case round =>
    obtain ⟨k, hk, rfl, hb, hs, hr⟩ := hrel
    by_cases hlt8 : k < 8
    · have HB := Lib.hid hb
      have hx0 := hr k hlt8
      have HR := Lib.hid hr
      clear hr hb
      have hck := (HC.out.below HB.out k hlt8).1
      have e0 : (0 : Int) ≤ (k : Int) := by omega
      have e1 : (k : Int) < 8 := by omega
      go_wp2
      go_quiet (fail)
      go_wp2
      go_roundw
      case rel =>
        exact ⟨k + 1, by omega, by go_num, below_drewN HB.out _, by simpa using hs, fun j hj => by simpa using HR.out j hj⟩
      case measure => simp [intOf]; omega
    · have HB := Lib.hid hb
      have HR := Lib.hid hr
      clear hr hb
      go_wp2
      go_ret
      exact ⟨rfl, HB.out⟩
end Go.Proofs.Yteffdcpepjjkbaa

/- The law InterpReckons, walked. -/
import Derived.Test.YtmmbigfeojfedaaAwake
namespace Go.Proofs.Ytmmbigfeojfedaa
open Go.RowKit Go.Proofs.YtmmbigfeojfedaaW.PrintWords

/-- A program that a law builds, with no names and an empty letter. -/
def lawE (a k : Nat) (CL : List (Int × Int)) : Env := { nA := none, nC := 0, NL := [], kA := some ⟨a, 0, none⟩, kC := k, CL := CL, frm := ⟨#[]⟩, serial := 0, kind := 0, aA := none, aC := 0, AL := [], now := 0 }
abbrev zeros8 : Value := .agg #[.int .i64 0, .int .i64 0, .int .i64 0, .int .i64 0, .int .i64 0, .int .i64 0, .int .i64 0, .int .i64 0]
abbrev noLetter : Value := .agg #[.string ⟨#[]⟩, .int .u64 0, .int .i64 0, .slice none 0 0]
theorem lawE_ok (w : World) (a k : Nat) (CL : List (Int × Int)) : EnvOk (lawE a k CL) w := ⟨ReadsOf.nil _ _ _, ReadsOf.nil _ _ _⟩

theorem rk_run (a : Nat) (x y : Int) (i : Nat) (hi : i < 5) : (runF (lawE a 4 (rkL x y i)) (fun _ => 0)).1 = 0 ∧ (runF (lawE a 4 (rkL x y i)) (fun _ => 0)).2.reg 7 = reckonV (6 + i) x y ∧ (runF (lawE a 4 (rkL x y i)) (fun _ => 0)).2.steps = 4 := by
  match i, hi with
  | 0, _ => exact ⟨by kernel_rfl, by kernel_rfl, by kernel_rfl⟩
  | 1, _ => exact ⟨by kernel_rfl, by kernel_rfl, by kernel_rfl⟩
  | 2, _ => exact ⟨by kernel_rfl, by kernel_rfl, by kernel_rfl⟩
  | 3, _ => exact ⟨by kernel_rfl, by kernel_rfl, by kernel_rfl⟩
  | 4, _ => exact ⟨by kernel_rfl, by kernel_rfl, by kernel_rfl⟩
theorem rk_ok (w : World) (a : Nat) (x y : Int) (i : Nat) (hi : i < 5) (hC : IsCode w (some ⟨a, 0, none⟩) (rkL x y i)) :
    Calls Try.prog 12 #[.agg #[.slice none 0 0, .slice (some ⟨a, 0, none⟩) 4 4], zeros8, noLetter, .int .i64 0] w (OkPost (fun R => R.reg 7 = reckonV (6 + i) x y ∧ R.steps = 4) w) :=
  run_ok (fun R => R.reg 7 = reckonV (6 + i) x y ∧ R.steps = 4) (lawE a 4 (rkL x y i)) (fun _ => 0) w (lawE_ok _ _ _ _) hC (show 4 ≤ 1000 by decide) (rk_run a x y i hi).1 (rk_run a x y i hi).2
theorem rk2_run (a : Nat) (x : Int) : (runF (lawE a 6 (rk2L x)) (fun _ => 0)).1 = 0 ∧ (runF (lawE a 6 (rk2L x)) (fun _ => 0)).2.reg 0 = x ∧ (runF (lawE a 6 (rk2L x)) (fun _ => 0)).2.reg 1 = truth (x == 0) :=
  ⟨by kernel_rfl, by kernel_rfl, by kernel_rfl⟩
theorem rk2_ok (w : World) (a : Nat) (x : Int) (hC : IsCode w (some ⟨a, 0, none⟩) (rk2L x)) :
    Calls Try.prog 12 #[.agg #[.slice none 0 0, .slice (some ⟨a, 0, none⟩) 6 6], zeros8, noLetter, .int .i64 0] w (OkPost (fun R => R.reg 0 = x ∧ R.reg 1 = truth (x == 0)) w) :=
  run_ok (fun R => R.reg 0 = x ∧ R.reg 1 = truth (x == 0)) (lawE a 6 (rk2L x)) (fun _ => 0) w (lawE_ok _ _ _ _) hC (show 6 ≤ 1000 by decide) (rk2_run a x).1 (rk2_run a x).2

set_option maxRecDepth 100000 in
set_option maxHeartbeats 4000000 in
theorem reckons_any (x : Int) (_ : (Lit.int .i64 x).wf = true) (y : Int) (_ : (Lit.int .i64 y).wf = true) (w : World) : Calls Try.prog 5 #[.int .i64 x, .int .i64 y] w (fun e w' => e = .returned (.bool true) ∧ Below w.heap.size w w') := by
  go_enter Try.func5, Try.ntmps5
  go_wp2_with fail
  refine (awake_any _).mono ?_
  rintro e w1 ⟨rfl, hb1⟩
  have HB1 := Lib.hid hb1
  clear hb1
  go_upto_if 20 with fail
  go_cut [5] (fun v wx => v = .int .i64 (truth (decide (x < y))) ∧ wx = w1)
  case first =>
    by_cases hxy : x < y
    · have d0 : decide (x < y) = true := decide_eq_true hxy
      go_wp2
      go_meet
      simp [truth, d0]
    · have d0 : decide (x < y) = false := decide_eq_false hxy
      go_wp2
      go_meet
      simp [truth, d0]
  obtain ⟨rfl, rfl⟩ := hcut
  obtain ⟨w2, hw2⟩ : ∃ z, z = wc := ⟨_, rfl⟩
  subst hw2
  go_upto_if 23 with fail
  go_cut [6] (fun v wx => v = .int .i64 (truth (x == y)) ∧ wx = w2)
  case first =>
    cases d0 : (x == y)
    all_goals
      go_wp2
      go_meet
      simp [truth]
      simpa using d0
  obtain ⟨rfl, rfl⟩ := hcut
  obtain ⟨w3, hw3⟩ : ∃ z, z = wc := ⟨_, rfl⟩
  subst hw3
  go_upto_if 25 with fail
  go_cut [7] (fun v wx => v = .int .i64 (truth (x == 0)) ∧ wx = w3)
  case first =>
    cases d0 : (x == 0)
    all_goals
      go_wp2
      go_meet
      simp [truth]
      simpa using d0
  obtain ⟨rfl, rfl⟩ := hcut
  obtain ⟨w4, hw4⟩ : ∃ z, z = wc := ⟨_, rfl⟩
  subst hw4
  obtain ⟨W, hW⟩ : ∃ W, W = w4.alloc (.cells #[.int .i64 (wrap64 (x + y)), .int .i64 (wrap64 (x - y)), .int .i64 (wrap64 (x * y)), .int .i64 (truth (decide (x < y))), .int .i64 (truth (x == y))] 2) := ⟨_, rfl⟩
  have HW := Lib.hid hW
  have HBW := Lib.hid (show Below w.heap.size w W from hW ▸ HB1.out.alloc HB1.out.size _)
  have HKW := Lib.hid (show Blk W w4.heap.size #[.int .i64 (wrap64 (x + y)), .int .i64 (wrap64 (x - y)), .int .i64 (wrap64 (x * y)), .int .i64 (truth (decide (x < y))), .int .i64 (truth (x == y))] 2 from hW ▸ Blk.new _ _ _)
  have hlo : w.heap.size ≤ w4.heap.size := HB1.out.size
  clear hW
  go_wp2_with fail
  go_loopw [40] (fun i wr => ∃ k : Nat, k ≤ 5 ∧ i = .int .i64 k ∧ Below w.heap.size w wr ∧ Blk wr w4.heap.size #[.int .i64 (wrap64 (x + y)), .int .i64 (wrap64 (x - y)), .int .i64 (wrap64 (x * y)), .int .i64 (truth (decide (x < y))), .int .i64 (truth (x == y))] 2) (fun i _ => 5 - (intOf i).toNat)
  case atStart => exact ⟨0, by omega, rfl, HW.out ▸ HBW.out, HW.out ▸ HKW.out⟩
  case round =>
    obtain ⟨k, hk, rfl, hb, hkw⟩ := hrel
    have HB := Lib.hid hb
    have HK := Lib.hid hkw
    clear HW HBW HKW HB1 hb hkw
    have call : ∀ i, i < 5 → ∀ W1 : World, IsCode W1 (some ⟨wr.heap.size, 0, none⟩) (rkL x y i) → Calls Try.prog 12 #[.agg #[.slice none 0 0, .slice (some ⟨wr.heap.size, 0, none⟩) 4 4], zeros8, noLetter, .int .i64 0] W1 (OkPost (fun R => R.reg 7 = reckonV (6 + i) x y ∧ R.steps = 4) W1) := fun i hi W1 h => rk_ok W1 wr.heap.size x y i hi h
    match k, hk with
    | 0, _ =>
      go_wp2_with fail
      refine (call 0 (by omega) _ (isCode_blk ((Blk.newAt rfl).alloc _) rfl)).mono ?_
      rintro e w5 ⟨R, ⟨h1, h2⟩, eA, eC, sA, sC, tA, tC, rfl, hb, -⟩
      have hb6 : Below wr.heap.size wr w5 := (((Below.refl _ _).alloc (Nat.le_refl _) _).alloc (by simp) _).trans (hb.mono (by simp; omega))
      have HB6 := Lib.hid (HB.out.trans (hb6.mono HB.out.size))
      have HK6 := Lib.hid (HK.out.below hb6)
      have u : ∀ i, w5.cell? ⟨w4.heap.size, i, none⟩ = _ := fun i => HK6.out.cell i
      have lu := HK6.out.lt
      have h3 : R.reg 7 = wrap64 (x + y) := h1
      clear hb hb6 h1
      unfold resC
      rw [h2, h3]
      go_wp2_with fail
      go_quiet (fail)
      go_wp2
      go_roundw
      case measure => decide
      case rel => exact ⟨1, by omega, rfl, below_drewN (HB6.out.alloc HB6.out.size _) _, (HK6.out.alloc _).drewN _⟩
    | 1, _ =>
      go_wp2_with fail
      refine (call 1 (by omega) _ (isCode_blk ((Blk.newAt rfl).alloc _) rfl)).mono ?_
      rintro e w5 ⟨R, ⟨h1, h2⟩, eA, eC, sA, sC, tA, tC, rfl, hb, -⟩
      have hb6 : Below wr.heap.size wr w5 := (((Below.refl _ _).alloc (Nat.le_refl _) _).alloc (by simp) _).trans (hb.mono (by simp; omega))
      have HB6 := Lib.hid (HB.out.trans (hb6.mono HB.out.size))
      have HK6 := Lib.hid (HK.out.below hb6)
      have u : ∀ i, w5.cell? ⟨w4.heap.size, i, none⟩ = _ := fun i => HK6.out.cell i
      have lu := HK6.out.lt
      have h3 : R.reg 7 = wrap64 (x - y) := h1
      clear hb hb6 h1
      unfold resC
      rw [h2, h3]
      go_wp2_with fail
      go_quiet (fail)
      go_wp2
      go_roundw
      case measure => decide
      case rel => exact ⟨2, by omega, rfl, below_drewN (HB6.out.alloc HB6.out.size _) _, (HK6.out.alloc _).drewN _⟩
    | 2, _ =>
      go_wp2_with fail
      refine (call 2 (by omega) _ (isCode_blk ((Blk.newAt rfl).alloc _) rfl)).mono ?_
      rintro e w5 ⟨R, ⟨h1, h2⟩, eA, eC, sA, sC, tA, tC, rfl, hb, -⟩
      have hb6 : Below wr.heap.size wr w5 := (((Below.refl _ _).alloc (Nat.le_refl _) _).alloc (by simp) _).trans (hb.mono (by simp; omega))
      have HB6 := Lib.hid (HB.out.trans (hb6.mono HB.out.size))
      have HK6 := Lib.hid (HK.out.below hb6)
      have u : ∀ i, w5.cell? ⟨w4.heap.size, i, none⟩ = _ := fun i => HK6.out.cell i
      have lu := HK6.out.lt
      have h3 : R.reg 7 = wrap64 (x * y) := h1
      clear hb hb6 h1
      unfold resC
      rw [h2, h3]
      go_wp2_with fail
      go_quiet (fail)
      go_wp2
      go_roundw
      case measure => decide
      case rel => exact ⟨3, by omega, rfl, below_drewN (HB6.out.alloc HB6.out.size _) _, (HK6.out.alloc _).drewN _⟩
    | 3, _ =>
      go_wp2_with fail
      refine (call 3 (by omega) _ (isCode_blk ((Blk.newAt rfl).alloc _) rfl)).mono ?_
      rintro e w5 ⟨R, ⟨h1, h2⟩, eA, eC, sA, sC, tA, tC, rfl, hb, -⟩
      have hb6 : Below wr.heap.size wr w5 := (((Below.refl _ _).alloc (Nat.le_refl _) _).alloc (by simp) _).trans (hb.mono (by simp; omega))
      have HB6 := Lib.hid (HB.out.trans (hb6.mono HB.out.size))
      have HK6 := Lib.hid (HK.out.below hb6)
      have u : ∀ i, w5.cell? ⟨w4.heap.size, i, none⟩ = _ := fun i => HK6.out.cell i
      have lu := HK6.out.lt
      have h3 : R.reg 7 = truth (decide (x < y)) := h1
      clear hb hb6 h1
      unfold resC
      rw [h2, h3]
      go_wp2_with fail
      go_quiet (fail)
      go_wp2
      go_roundw
      case measure => decide
      case rel => exact ⟨4, by omega, rfl, below_drewN (HB6.out.alloc HB6.out.size _) _, (HK6.out.alloc _).drewN _⟩
    | 4, _ =>
      go_wp2_with fail
      refine (call 4 (by omega) _ (isCode_blk ((Blk.newAt rfl).alloc _) rfl)).mono ?_
      rintro e w5 ⟨R, ⟨h1, h2⟩, eA, eC, sA, sC, tA, tC, rfl, hb, -⟩
      have hb6 : Below wr.heap.size wr w5 := (((Below.refl _ _).alloc (Nat.le_refl _) _).alloc (by simp) _).trans (hb.mono (by simp; omega))
      have HB6 := Lib.hid (HB.out.trans (hb6.mono HB.out.size))
      have HK6 := Lib.hid (HK.out.below hb6)
      have u : ∀ i, w5.cell? ⟨w4.heap.size, i, none⟩ = _ := fun i => HK6.out.cell i
      have lu := HK6.out.lt
      have h3 : R.reg 7 = truth (x == y) := h1
      clear hb hb6 h1
      unfold resC
      rw [h2, h3]
      go_wp2_with fail
      go_quiet (fail)
      go_wp2
      go_roundw
      case measure => decide
      case rel => exact ⟨5, by omega, rfl, below_drewN (HB6.out.alloc HB6.out.size _) _, (HK6.out.alloc _).drewN _⟩
    | 5, _ =>
      go_wp2_with fail
      refine (rk2_ok _ wr.heap.size x (isCode_blk ((Blk.newAt rfl).alloc _) rfl)).mono ?_
      rintro e w5 ⟨R, ⟨h1, h2⟩, eA, eC, sA, sC, tA, tC, rfl, hb, -⟩
      have hb6 : Below wr.heap.size wr w5 := (((Below.refl _ _).alloc (Nat.le_refl _) _).alloc (by simp) _).trans (hb.mono (by simp; omega))
      have HB6 := Lib.hid (HB.out.trans (hb6.mono HB.out.size))
      clear hb hb6
      unfold resC
      rw [h1, h2]
      go_wp2_with fail
      go_ret
      exact ⟨rfl, HB6.out.alloc HB6.out.size _⟩
end Go.Proofs.Ytmmbigfeojfedaa

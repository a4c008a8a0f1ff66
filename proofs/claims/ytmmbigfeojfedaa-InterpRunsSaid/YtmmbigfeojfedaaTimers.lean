/- The law InterpTimers, walked. -/
import Derived.Test.YtmmbigfeojfedaaLaw
namespace Go.Proofs.Ytmmbigfeojfedaa
open Go.RowKit Go.Proofs.YtmmbigfeojfedaaW.PrintWords

def tmL (d p : Int) : List (Int × Int) := [(1, d), (1, p), (19, 0), (20, 0)]
def tmE (a b : Nat) (d p kd now : Int) : Env := { nA := some ⟨b, 0, none⟩, nC := 1, NL := [⟨#[120]⟩], kA := some ⟨a, 0, none⟩, kC := 4, CL := tmL d p, frm := ⟨#[]⟩, serial := 0, kind := kd, aA := none, aC := 0, AL := [], now := now }
theorem tm_neg (a b : Nat) (d p kd now : Int) (h : now < 0) : runF (tmE a b d p kd now) (fun _ => 0) = (1, st0 fun _ => 0) := by
  unfold runF
  rw [if_neg]
  unfold okIn
  rw [show decide (0 ≤ (tmE a b d p kd now).now) = false from decide_eq_false (by show ¬ 0 ≤ now; omega), Bool.and_false, Bool.and_false]
  decide
theorem tm_start (a b : Nat) (d p kd now : Int) (h : 0 ≤ now) : runF (tmE a b d p kd now) (fun _ => 0) = loopF (tmE a b d p kd now) 501 (st0 fun _ => 0) := by
  unfold runF
  rw [if_pos]
  unfold okIn
  rw [show decide (0 ≤ (tmE a b d p kd now).now) = true from decide_eq_true h, show formedB (tmE a b d p kd now).NL (tmE a b d p kd now).CL = true by kernel_rfl]
  rfl
def tmS (st : List Int) (at_ steps f : Int) (tm : List (ByteArray × Bool × Int × Int × Int)) : St := { at_ := at_, stack := st, reg := fun _ => 0, ev := [], sent := [], tm := tm, steps := steps, failed := f, done := false }
theorem tm_two (a b : Nat) (d p kd now : Int) : loopF (tmE a b d p kd now) 501 (st0 fun _ => 0) = loopF (tmE a b d p kd now) 499 (tmS [d, p] 2 2 0 []) := by
  rw [loopF_ok (n := 500) (tmS [d] 1 1 0 []) rfl (show (0 : Int) < 4 by decide) (show ¬ (0 : Int) = 500 by decide) (by kernel_rfl) rfl]
  exact loopF_ok (n := 499) (tmS [d, p] 2 2 0 []) rfl (show (1 : Int) < 4 by decide) (show ¬ (1 : Int) = 500 by decide) (by kernel_rfl) rfl
theorem tm_step (a b : Nat) (d p kd now : Int) : stepF (tmE a b d p kd now) 19 0 (tmS [d, p] 3 3 0 []) = remindF ⟨#[120]⟩ now kd d p (tmS [] 3 3 0 []) := by kernel_rfl
theorem tm_bad (a b : Nat) (d p kd now : Int) (h : 0 ≤ now) (hb : badT now d p = true) : runF (tmE a b d p kd now) (fun _ => 0) = (12, tmS [] 3 3 12 []) := by
  rw [tm_start a b d p kd now h, tm_two]
  have e : remindF ⟨#[120]⟩ now kd d p (tmS [] 3 3 0 []) = tmS [] 3 3 12 [] := by
    unfold remindF refuseF
    rw [hb]
    rfl
  exact loopF_bad (n := 498) (tmS [] 3 3 12 []) rfl (show (2 : Int) < 4 by decide) (show ¬ (2 : Int) = 500 by decide) (e.symm.trans (tm_step a b d p kd now).symm) (show ¬ (12 : Int) = 0 by decide)
theorem tm_good (a b : Nat) (d p kd now : Int) (h : 0 ≤ now) (hb : badT now d p = false) : runF (tmE a b d p kd now) (fun _ => 0) = (0, tmS [] 4 4 0 [(⟨#[120]⟩, false, wrap64 (now + d), p, kd), (⟨#[120]⟩, true, 0, 0, 0)]) := by
  rw [tm_start a b d p kd now h, tm_two]
  have e : remindF ⟨#[120]⟩ now kd d p (tmS [] 3 3 0 []) = tmS [] 3 3 0 [(⟨#[120]⟩, false, wrap64 (now + d), p, kd)] := by
    unfold remindF refuseF
    rw [hb]
    rfl
  rw [loopF_ok (n := 498) (tmS [] 3 3 0 [(⟨#[120]⟩, false, wrap64 (now + d), p, kd)]) rfl (show (2 : Int) < 4 by decide) (show ¬ (2 : Int) = 500 by decide) (e.symm.trans (tm_step a b d p kd now).symm) rfl]
  rw [loopF_ok (n := 497) (tmS [] 4 4 0 [(⟨#[120]⟩, false, wrap64 (now + d), p, kd), (⟨#[120]⟩, true, 0, 0, 0)]) rfl (show (3 : Int) < 4 by decide) (show ¬ (3 : Int) = 500 by decide) (by kernel_rfl) rfl]
  exact loopF_end (.inr (show ¬ (4 : Int) < 4 by decide))
theorem tm_env {W : World} {b t : Nat} (a : Nat) (d p kd now : Int) (hN : Blk W b #[.string ⟨#[120]⟩] t) : EnvOk (tmE a b d p kd now) W :=
  ⟨reads_blk hN rfl (show 1 ≤ 9223372036854775807 by decide), ReadsOf.nil _ _ _⟩
abbrev tmA (a b : Nat) (kd now : Int) : Array Value := #[.agg #[.slice (some ⟨b, 0, none⟩) 1 1, .slice (some ⟨a, 0, none⟩) 4 4], zeros8, .agg #[.string ⟨#[]⟩, .int .u64 0, .int .i64 kd, .slice none 0 0], .int .i64 now]
theorem tm_goodC (W : World) (a b t : Nat) (d p kd now : Int) (hN : Blk W b #[.string ⟨#[120]⟩] t) (hC : IsCode W (some ⟨a, 0, none⟩) (tmL d p)) (h : 0 ≤ now) (hb : badT now d p = false) :
    Calls Try.prog 12 (tmA a b kd now) W (OkPost (fun R => R.tm = [(⟨#[120]⟩, false, wrap64 (now + d), p, kd), (⟨#[120]⟩, true, 0, 0, 0)] ∧ R.steps = 4) W) := by
  have e := tm_good a b d p kd now h hb
  exact run_ok (fun R => R.tm = [(⟨#[120]⟩, false, wrap64 (now + d), p, kd), (⟨#[120]⟩, true, 0, 0, 0)] ∧ R.steps = 4) (tmE a b d p kd now) (fun _ => 0) W (tm_env a d p kd now hN) hC (show 4 ≤ 1000 by decide) (by rw [e]) (by rw [e]; exact ⟨rfl, rfl⟩)
/-- What a run that fails returns. -/
def BadPost (code steps : Int) (w : World) (e : Ending) (w' : World) : Prop := e = .returned (.tuple #[.agg (resC (fun _ => 0) (.slice none 0 0) (.slice none 0 0) (.slice none 0 0) steps), .int .i64 code]) ∧ Below w.heap.size w w'
theorem tm_badC (W : World) (a b t : Nat) (d p kd now : Int) (hN : Blk W b #[.string ⟨#[120]⟩] t) (hC : IsCode W (some ⟨a, 0, none⟩) (tmL d p)) (h : 0 ≤ now) (hb : badT now d p = true) :
    Calls Try.prog 12 (tmA a b kd now) W (BadPost 12 3 W) := by
  have e := tm_bad a b d p kd now h hb
  exact (run_bad (tmE a b d p kd now) (fun _ => 0) W (tm_env a d p kd now hN) hC (show 4 ≤ 1000 by decide) (by rw [e]; decide)).mono fun e1 w1 ⟨h1, h2⟩ => ⟨by rw [h1, e]; rfl, h2⟩
theorem tm_negC (W : World) (a b t : Nat) (d p kd now : Int) (hN : Blk W b #[.string ⟨#[120]⟩] t) (hC : IsCode W (some ⟨a, 0, none⟩) (tmL d p)) (h : now < 0) :
    Calls Try.prog 12 (tmA a b kd now) W (BadPost 1 0 W) := by
  have e := tm_neg a b d p kd now h
  exact (run_bad (tmE a b d p kd now) (fun _ => 0) W (tm_env a d p kd now hN) hC (show 4 ≤ 1000 by decide) (by rw [e]; decide)).mono fun e1 w1 ⟨h1, h2⟩ => ⟨by rw [h1, e]; rfl, h2⟩

set_option maxRecDepth 100000 in
set_option maxHeartbeats 4000000 in
theorem timers_any (d : Int) (hd : (Lit.int .i64 d).wf = true) (p : Int) (_ : (Lit.int .i64 p).wf = true) (kd : Int) (_ : (Lit.int .i64 kd).wf = true) (now : Int) (hnow : (Lit.int .i64 now).wf = true) (w : World) :
    Calls Try.prog 9 #[.int .i64 d, .int .i64 p, .int .i64 kd, .int .i64 now] w (fun e w' => e = .returned (.bool true) ∧ Below w.heap.size w w') := by
  simp [Lit.wf] at hd hnow
  go_enter Try.func9, Try.ntmps9
  go_wp2_with fail
  refine (awake_any _).mono ?_
  rintro e w1 ⟨rfl, hb1⟩
  have HB1 := Lib.hid hb1
  clear hb1
  by_cases h0 : now < 0
  · have d0 : decide (now < 0) = true := decide_eq_true h0
    go_wp2_with fail
    refine (tm_negC _ (w1.heap.size + 1) w1.heap.size _ d p kd now (((Blk.newAt rfl).alloc _).alloc _) (isCode_blk ((Blk.newAt (by simp)).alloc _) rfl) h0).mono ?_
    rintro e w2 ⟨rfl, hb⟩
    have HB2 := Lib.hid (HB1.out.trans ((((Below.refl _ _).alloc (Nat.le_refl _) _).alloc (by simp) _).alloc (by simp; omega) _ |>.trans (hb.mono (by simp; omega)) |>.mono HB1.out.size))
    clear hb
    unfold resC
    go_wp2_with fail
    go_ret
    exact ⟨rfl, HB2.out.alloc HB2.out.size _⟩
  · have hn : 0 ≤ now := by omega
    have d0 : decide (now < 0) = false := decide_eq_false h0
    by_cases h1 : d < 0
    · have d1 : decide (d < 0) = true := decide_eq_true h1
      have hbad : badT now d p = true := by simp [badT, d1]
      go_wp2_with fail
      refine (tm_badC _ (w1.heap.size + 1) w1.heap.size _ d p kd now (((Blk.newAt rfl).alloc _).alloc _) (isCode_blk ((Blk.newAt (by simp)).alloc _) rfl) hn hbad).mono ?_
      rintro e w2 ⟨rfl, hb⟩
      have HB2 := Lib.hid (HB1.out.trans ((((Below.refl _ _).alloc (Nat.le_refl _) _).alloc (by simp) _).alloc (by simp; omega) _ |>.trans (hb.mono (by simp; omega)) |>.mono HB1.out.size))
      clear hb
      unfold resC
      go_wp2_with fail
      go_ret
      exact ⟨rfl, HB2.out.alloc HB2.out.size _⟩
    · have d1 : decide (d < 0) = false := decide_eq_false h1
      by_cases h2 : p < 1
      · have d2 : decide (p < 1) = true := decide_eq_true h2
        have hbad : badT now d p = true := by simp [badT, d2]
        go_wp2_with fail
        refine (tm_badC _ (w1.heap.size + 1) w1.heap.size _ d p kd now (((Blk.newAt rfl).alloc _).alloc _) (isCode_blk ((Blk.newAt (by simp)).alloc _) rfl) hn hbad).mono ?_
        rintro e w2 ⟨rfl, hb⟩
        have HB2 := Lib.hid (HB1.out.trans ((((Below.refl _ _).alloc (Nat.le_refl _) _).alloc (by simp) _).alloc (by simp; omega) _ |>.trans (hb.mono (by simp; omega)) |>.mono HB1.out.size))
        clear hb
        unfold resC
        go_wp2_with fail
        go_ret
        exact ⟨rfl, HB2.out.alloc HB2.out.size _⟩
      · have d2 : decide (p < 1) = false := decide_eq_false h2
        have k1 : wrap64 (9223372036854775807 - now) = 9223372036854775807 - now := by unfold wrap64; omega
        by_cases h3 : 9223372036854775807 - now < d
        · have d3 : decide (9223372036854775807 - now < d) = true := decide_eq_true h3
          have hbad : badT now d p = true := by
            have : wrap64 (now + d) < 0 := by unfold wrap64; omega
            simp [badT, this]
          go_wp2_with fail
          refine (tm_badC _ (w1.heap.size + 1) w1.heap.size _ d p kd now (((Blk.newAt rfl).alloc _).alloc _) (isCode_blk ((Blk.newAt (by simp)).alloc _) rfl) hn hbad).mono ?_
          rintro e w2 ⟨rfl, hb⟩
          have HB2 := Lib.hid (HB1.out.trans ((((Below.refl _ _).alloc (Nat.le_refl _) _).alloc (by simp) _).alloc (by simp; omega) _ |>.trans (hb.mono (by simp; omega)) |>.mono HB1.out.size))
          clear hb
          unfold resC
          go_wp2_with fail
          go_ret
          exact ⟨rfl, HB2.out.alloc HB2.out.size _⟩
        · have d3 : decide (9223372036854775807 - now < d) = false := decide_eq_false h3
          have hbad : badT now d p = false := by
            have : ¬ wrap64 (now + d) < 0 := by unfold wrap64; omega
            simp [badT, this]
            omega
          go_wp2_with fail
          refine (tm_goodC _ (w1.heap.size + 1) w1.heap.size _ d p kd now (((Blk.newAt rfl).alloc _).alloc _) (isCode_blk ((Blk.newAt (by simp)).alloc _) rfl) hn hbad).mono ?_
          rintro e w2 ⟨R, ⟨e1, e2⟩, eA, eC, sA, sC, tA, tC, rfl, hb, -, -, o3⟩
          have HB2 := Lib.hid (HB1.out.trans ((((Below.refl _ _).alloc (Nat.le_refl _) _).alloc (by simp) _).alloc (by simp; omega) _ |>.trans (hb.mono (by simp; omega)) |>.mono HB1.out.size))
          clear hb
          rw [show wrap64 (now + d) = now + d by unfold wrap64; omega] at e1
          have k2 : wrap64 (now + d) = now + d := by unfold wrap64; omega
          unfold resC
          rw [e1] at o3 ⊢
          rw [e2]
          obtain ⟨g, rfl, _, lg, hc⟩ := own_cells o3 (show 0 < 2 by decide)
          have c0 : w2.cell? ⟨g, 0, none⟩ = some (.string ⟨#[120]⟩) := hc 0 (show 0 < 10 by decide)
          have c1 : w2.cell? ⟨g, 1, none⟩ = some (.bool false) := hc 1 (show 1 < 10 by decide)
          have c2 : w2.cell? ⟨g, 2, none⟩ = some (.int .i64 (now + d)) := hc 2 (show 2 < 10 by decide)
          have c3 : w2.cell? ⟨g, 3, none⟩ = some (.int .i64 p) := hc 3 (show 3 < 10 by decide)
          have c4 : w2.cell? ⟨g, 4, none⟩ = some (.int .i64 kd) := hc 4 (show 4 < 10 by decide)
          have c5 : w2.cell? ⟨g, 5, none⟩ = some (.string ⟨#[120]⟩) := hc 5 (show 5 < 10 by decide)
          have c6 : w2.cell? ⟨g, 6, none⟩ = some (.bool true) := hc 6 (show 6 < 10 by decide)
          have c7 : w2.cell? ⟨g, 7, none⟩ = some (.int .i64 0) := hc 7 (show 7 < 10 by decide)
          have c8 : w2.cell? ⟨g, 8, none⟩ = some (.int .i64 0) := hc 8 (show 8 < 10 by decide)
          have c9 : w2.cell? ⟨g, 9, none⟩ = some (.int .i64 0) := hc 9 (show 9 < 10 by decide)
          clear hc o3 e1 e2
          go_wp2_with fail
          go_ret
          exact ⟨rfl, HB2.out.alloc HB2.out.size _⟩
end Go.Proofs.Ytmmbigfeojfedaa

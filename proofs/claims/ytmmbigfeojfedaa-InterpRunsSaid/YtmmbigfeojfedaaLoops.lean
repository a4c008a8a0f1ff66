/- The law InterpLoops: the run in plain Lean, and the walk. -/
import Derived.Test.YtmmbigfeojfedaaTimers
namespace Go.Proofs.Ytmmbigfeojfedaa
open Go.RowKit Go.Proofs.YtmmbigfeojfedaaW.PrintWords

theorem loopF_out {c : Env} {n : Nat} {s : St} (hd : s.done = false) (hl : s.at_ < c.CL.length) (h5 : s.steps = 500) : loopF c (n + 1) s = (11, s) := by simp [loopF, hd, hl, h5]
def lpL (n : Int) : List (Int × Int) := [(1, n), (3, 0), (2, 0), (16, 9), (2, 0), (1, 1), (7, 0), (3, 0), (15, 2)]
def lpE (a : Nat) (n : Int) : Env := lawE a 9 (lpL n)
def lpT (r : Nat → Int) (at_ : Int) (st : List Int) (t : Int) (ev : List (Int × Int)) : St := { at_ := at_, stack := st, reg := r, ev := ev, sent := [], tm := [], steps := t, failed := 0, done := false }
def lpR (r : Nat → Int) (x : Int) : Nat → Int := fun j => if j = 0 then x else r j
section
variable (a : Nat) (n : Int)
theorem lp_start : runF (lpE a n) (fun _ => 0) = loopF (lpE a n) 501 (st0 fun _ => 0) := by
  unfold runF
  rw [if_pos]
  kernel_rfl
theorem lp_two : loopF (lpE a n) 501 (st0 fun _ => 0) = loopF (lpE a n) 499 (lpT (lpR (fun _ => 0) n) 2 [] 2 [(0, n)]) := by
  rw [loopF_ok (n := 500) (lpT (fun _ => 0) 1 [n] 1 []) rfl (show (0 : Int) < 9 by decide) (show ¬ (0 : Int) = 500 by decide) (by kernel_rfl) rfl]
  exact loopF_ok (n := 499) _ rfl (show (1 : Int) < 9 by decide) (show ¬ (1 : Int) = 500 by decide) (by kernel_rfl) rfl
theorem lp_load (r : Nat → Int) (t : Int) (ev : List (Int × Int)) (f : Nat) (h : ¬ t = 500) : loopF (lpE a n) (f + 1) (lpT r 2 [] t ev) = loopF (lpE a n) f (lpT r 3 [r 0] (t + 1) ev) :=
  loopF_ok (n := f) _ rfl (show (2 : Int) < 9 by decide) h (by kernel_rfl) rfl
theorem lp_zero (r : Nat → Int) (t : Int) (ev : List (Int × Int)) (f : Nat) (h : ¬ t = 500) (h0 : r 0 = 0) : loopF (lpE a n) (f + 1) (lpT r 3 [r 0] t ev) = loopF (lpE a n) f (lpT r 9 [] (t + 1) ev) := by
  rw [h0]
  exact loopF_ok (n := f) _ rfl (show (3 : Int) < 9 by decide) h (by kernel_rfl) rfl
theorem lp_step16 (r : Nat → Int) (x t : Int) (ev : List (Int × Int)) (h0 : ¬ x = 0) : stepF (lpE a n) 16 9 (lpT r 4 [x] t ev) = lpT r 4 [] t ev := by
  show (if popV (lpT r 4 [x] t ev) = 0 ∧ (popF (lpT r 4 [x] t ev)).failed = 0 then _ else popF (lpT r 4 [x] t ev)) = _
  rw [if_neg (fun h => h0 (show x = 0 from h.1))]
  rfl
theorem lp_more (r : Nat → Int) (t : Int) (ev : List (Int × Int)) (f : Nat) (h0 : ¬ r 0 = 0) (h : t + 6 < 500) :
    loopF (lpE a n) (f + 7) (lpT r 2 [] t ev) = loopF (lpE a n) f (lpT (lpR r (wrap64 (r 0 - 1))) 2 [] (t + 7) (ev ++ [(0, wrap64 (r 0 - 1))])) := by
  rw [lp_load a n r t ev (f + 6) (by omega)]
  rw [loopF_ok (n := f + 5) (lpT r 4 [] (t + 1 + 1) ev) rfl (show (3 : Int) < 9 by decide) (show ¬ t + 1 = 500 by omega) (lp_step16 a n r (r 0) (t + 1 + 1) ev h0).symm rfl]
  rw [loopF_ok (n := f + 4) (lpT r 5 [r 0] (t + 1 + 1 + 1) ev) rfl (show (4 : Int) < 9 by decide) (show ¬ t + 1 + 1 = 500 by omega) (by kernel_rfl) rfl]
  rw [loopF_ok (n := f + 3) (lpT r 6 [r 0, 1] (t + 1 + 1 + 1 + 1) ev) rfl (show (5 : Int) < 9 by decide) (show ¬ t + 1 + 1 + 1 = 500 by omega) (by kernel_rfl) rfl]
  rw [loopF_ok (n := f + 2) (lpT r 7 [wrap64 (r 0 - 1)] (t + 1 + 1 + 1 + 1 + 1) ev) rfl (show (6 : Int) < 9 by decide) (show ¬ t + 1 + 1 + 1 + 1 = 500 by omega) (by kernel_rfl) rfl]
  rw [loopF_ok (n := f + 1) (lpT (lpR r (wrap64 (r 0 - 1))) 8 [] (t + 1 + 1 + 1 + 1 + 1 + 1) (ev ++ [(0, wrap64 (r 0 - 1))])) rfl (show (7 : Int) < 9 by decide) (show ¬ t + 1 + 1 + 1 + 1 + 1 = 500 by omega) (by kernel_rfl) rfl]
  rw [loopF_ok (n := f) (lpT (lpR r (wrap64 (r 0 - 1))) 2 [] (t + 1 + 1 + 1 + 1 + 1 + 1 + 1) (ev ++ [(0, wrap64 (r 0 - 1))])) rfl (show (8 : Int) < 9 by decide) (show ¬ t + 1 + 1 + 1 + 1 + 1 + 1 = 500 by omega) (by kernel_rfl) rfl]
  rw [show t + 1 + 1 + 1 + 1 + 1 + 1 + 1 = t + 7 by omega]
theorem lp_iter : ∀ (j : Nat) (r : Nat → Int) (t : Int) (ev : List (Int × Int)) (f : Nat), (j : Int) ≤ r 0 → r 0 ≤ 255 → t + 7 * j ≤ 500 → ∃ r' ev', r' 0 = r 0 - j ∧ ev'.length = ev.length + j ∧ loopF (lpE a n) (f + 7 * j) (lpT r 2 [] t ev) = loopF (lpE a n) f (lpT r' 2 [] (t + 7 * j) ev')
  | 0, r, t, ev, f, _, _, _ => ⟨r, ev, by simp, by simp, by simp⟩
  | j + 1, r, t, ev, f, h1, h2, h3 => by
    have hw : wrap64 (r 0 - 1) = r 0 - 1 := by unfold wrap64; omega
    obtain ⟨r', ev', e1, e2, e3⟩ := lp_iter j (lpR r (wrap64 (r 0 - 1))) (t + 7) (ev ++ [(0, wrap64 (r 0 - 1))]) f (by rw [hw]; show (j : Int) ≤ r 0 - 1; omega) (by rw [hw]; show r 0 - 1 ≤ 255; omega) (by omega)
    refine ⟨r', ev', ?_, ?_, ?_⟩
    · rw [e1, hw]
      show r 0 - 1 - (j : Int) = _
      omega
    · rw [e2]
      simp
      omega
    · rw [show f + 7 * (j + 1) = (f + 7 * j) + 7 by omega, lp_more a n r t ev (f + 7 * j) (by omega) (by omega), e3, show t + 7 + 7 * (j : Int) = t + 7 * ((j + 1 : Nat) : Int) by omega]
theorem lp_good (k : Nat) (hk : k ≤ 70) : (runF (lpE a k) (fun _ => 0)).1 = 0 ∧ (runF (lpE a k) (fun _ => 0)).2.steps = 4 + 7 * (k : Int) ∧ (runF (lpE a k) (fun _ => 0)).2.reg 0 = 0 ∧ (runF (lpE a k) (fun _ => 0)).2.ev.length = k + 1 := by
  rw [lp_start, lp_two]
  obtain ⟨r', ev', e1, e2, e3⟩ := lp_iter a k k (lpR (fun _ => 0) k) 2 [(0, (k : Int))] (499 - 7 * k) (show (k : Int) ≤ k by omega) (show (k : Int) ≤ 255 by omega) (by omega)
  rw [show 499 - 7 * k + 7 * k = 499 by omega] at e3
  have e1' : r' 0 = 0 := by rw [e1]; show (k : Int) - k = 0; omega
  rw [e3, show 499 - 7 * k = (496 - 7 * k + 1 + 1) + 1 by omega, lp_load a k r' _ ev' _ (by omega), lp_zero a k r' _ ev' _ (by omega) e1', loopF_end (.inr (show ¬ (9 : Int) < 9 by decide))]
  refine ⟨rfl, ?_, e1', ?_⟩
  · show 2 + 7 * (k : Int) + 1 + 1 = _
    omega
  · show ev'.length = _
    rw [e2]
    simp
    omega
theorem lp_long (k : Nat) (hk : 70 < k) (h : k ≤ 255) : (runF (lpE a k) (fun _ => 0)).1 = 11 ∧ (runF (lpE a k) (fun _ => 0)).2.steps = 500 := by
  rw [lp_start, lp_two]
  obtain ⟨r', ev', e1, e2, e3⟩ := lp_iter a k 71 (lpR (fun _ => 0) k) 2 [(0, (k : Int))] 2 (show (71 : Int) ≤ k by omega) (show (k : Int) ≤ 255 by omega) (by omega)
  rw [show (499 : Nat) = 2 + 7 * 71 by omega, e3, show (2 : Int) + 7 * ((71 : Nat) : Int) = 499 by omega, lp_load a k r' 499 ev' 1 (by decide)]
  have e : loopF (lpE a k) (0 + 1) (lpT r' 3 [r' 0] (499 + 1) ev') = (11, lpT r' 3 [r' 0] (499 + 1) ev') := loopF_out rfl (show (3 : Int) < 9 by decide) (show (499 : Int) + 1 = 500 by decide)
  rw [e]
  exact ⟨rfl, rfl⟩
end
abbrev plainA (a n : Nat) : Array Value := #[.agg #[.slice none 0 0, .slice (some ⟨a, 0, none⟩) n n], zeros8, noLetter, .int .i64 0]
theorem lp_goodC (W : World) (a : Nat) (x : Int) (h0 : 0 ≤ x) (h1 : x ≤ 70) (hC : IsCode W (some ⟨a, 0, none⟩) (lpL x)) :
    Calls Try.prog 12 (plainA a 9) W (OkPost (fun R => R.steps = 4 + 7 * x ∧ R.reg 0 = 0 ∧ (R.ev.length : Int) = x + 1) W) := by
  obtain ⟨k, rfl⟩ : ∃ k : Nat, x = (k : Int) := ⟨x.toNat, by omega⟩
  obtain ⟨e1, e2, e3, e4⟩ := lp_good a k (by omega)
  exact run_ok (fun R => R.steps = 4 + 7 * (k : Int) ∧ R.reg 0 = 0 ∧ (R.ev.length : Int) = (k : Int) + 1) (lpE a k) (fun _ => 0) W (lawE_ok _ _ _ _) hC (show 9 ≤ 1000 by decide) e1 ⟨e2, e3, by rw [e4]; omega⟩
theorem lp_longC (W : World) (a : Nat) (x : Int) (h0 : 70 < x) (h1 : x ≤ 255) (hC : IsCode W (some ⟨a, 0, none⟩) (lpL x)) :
    Calls Try.prog 12 (plainA a 9) W (BadPost 11 500 W) := by
  obtain ⟨k, rfl⟩ : ∃ k : Nat, x = (k : Int) := ⟨x.toNat, by omega⟩
  obtain ⟨e1, e2⟩ := lp_long a k (by omega) (by omega)
  exact (run_bad (lpE a k) (fun _ => 0) W (lawE_ok _ _ _ _) hC (show 9 ≤ 1000 by decide) (by rw [e1]; decide)).mono fun e w1 ⟨h1, h2⟩ => ⟨by rw [h1, e1, e2], h2⟩

set_option maxRecDepth 100000 in
set_option maxHeartbeats 4000000 in
theorem loops_any (x : Int) (hx : (Lit.int .u8 x).wf = true) (w : World) :
    Calls Try.prog 6 #[.int .u8 x] w (fun e w' => e = .returned (.bool true) ∧ Below w.heap.size w w') := by
  simp [Lit.wf] at hx
  have hx0 : 0 ≤ x := (show IntKind.u8.min = 0 from rfl) ▸ hx.1
  have hx1 : x ≤ 255 := (show IntKind.u8.max = 255 by decide) ▸ hx.2
  go_enter Try.func6, Try.ntmps6
  go_wp2_with fail
  refine (awake_any _).mono ?_
  rintro e w1 ⟨rfl, hb1⟩
  have HB1 := Lib.hid hb1
  clear hb1
  have k1 : wrap64 x = x := by unfold wrap64; omega
  have k2 : wrap64 (7 * x) = 7 * x := by unfold wrap64; omega
  have k3 : wrap64 (2 + 7 * x) = 2 + 7 * x := by unfold wrap64; omega
  have k4 : wrap64 (2 + 7 * x + 2) = 4 + 7 * x := by unfold wrap64; omega
  have k5 : wrap64 (x + 1) = x + 1 := by unfold wrap64; omega
  by_cases h : x ≤ 70
  · have d0 : decide (500 < 4 + 7 * x) = false := decide_eq_false (by omega)
    go_wp2_with fail
    refine (lp_goodC _ w1.heap.size x hx0 h (isCode_blk ((Blk.newAt rfl).alloc _) rfl)).mono ?_
    rintro e w2 ⟨R, ⟨e1, e2, e3⟩, eA, eC, sA, sC, tA, tC, rfl, hb, -⟩
    have HB2 := Lib.hid (HB1.out.trans (((Below.refl _ _).alloc (Nat.le_refl _) _).alloc (by simp) _ |>.trans (hb.mono (by simp; omega)) |>.mono HB1.out.size))
    clear hb
    unfold resC
    rw [e1, e2]
    go_wp2_with fail
    go_ret
    exact ⟨rfl, HB2.out.alloc HB2.out.size _⟩
  · have d0 : decide (500 < 4 + 7 * x) = true := decide_eq_true (by omega)
    go_wp2_with fail
    refine (lp_longC _ w1.heap.size x (by omega) hx1 (isCode_blk ((Blk.newAt rfl).alloc _) rfl)).mono ?_
    rintro e w2 ⟨rfl, hb⟩
    have HB2 := Lib.hid (HB1.out.trans (((Below.refl _ _).alloc (Nat.le_refl _) _).alloc (by simp) _ |>.trans (hb.mono (by simp; omega)) |>.mono HB1.out.size))
    clear hb
    unfold resC
    go_wp2_with fail
    go_ret
    exact ⟨rfl, HB2.out.alloc HB2.out.size _⟩
end Go.Proofs.Ytmmbigfeojfedaa

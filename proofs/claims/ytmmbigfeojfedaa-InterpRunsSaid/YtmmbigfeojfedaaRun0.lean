/- A run, in plain Lean; how far a step goes. -/
import Derived.Test.YtmmbigfeojfedaaStep6
import Derived.Test.YtmmbigfeojfedaaForm2
namespace Go.Proofs.Ytmmbigfeojfedaa
open Go.RowKit Go.Proofs.YtmmbigfeojfedaaW.PrintWords

def st0 (reg : Nat → Int) : St := { at_ := 0, stack := [], reg := reg, ev := [], sent := [], tm := [], steps := 0, failed := 0, done := false }
/-- The loop: the error, and the state at the end. -/
def loopF (c : Env) : Nat → St → Int × St
  | 0, s => (11, s)
  | f + 1, s =>
    if s.done = true then (0, s) else
    if s.at_ < c.CL.length then
      if s.steps = 500 then (11, s) else
      let s1 := stepF c (c.CL.getD s.at_.toNat (0, 0)).1.toNat (c.CL.getD s.at_.toNat (0, 0)).2 { s with steps := s.steps + 1, at_ := s.at_ + 1 }
      if s1.failed = 0 then loopF c f s1 else (s1.failed, s1)
    else (0, s)
def okIn (c : Env) : Bool := formedB c.NL c.CL && (letterB c.frm c.AL.length && decide (0 ≤ c.now))
def runF (c : Env) (reg : Nat → Int) : Int × St := if okIn c = true then loopF c 501 (st0 reg) else (1, st0 reg)

/-- What a step leaves as it was, and how far it goes. -/
structure Near (s s' : St) : Prop where
  stack : s'.stack.length ≤ 16
  ev : s'.ev.length ≤ s.ev.length + 1
  sent : s'.sent.length ≤ s.sent.length + 1
  tm : s'.tm.length ≤ s.tm.length + 1
  steps : s'.steps = s.steps
  at_ : s'.at_ = s.at_ ∨ 0 ≤ s'.at_

theorem pushF_near (xs : List Int) (s : St) (h : s.stack.length ≤ 16) : Near s (pushF xs s) := by
  unfold pushF
  split
  · split
    · exact ⟨h, by simp, by simp, by simp, rfl, .inl rfl⟩
    · exact ⟨by simp only [List.length_append]; omega, by simp, by simp, by simp, rfl, .inl rfl⟩
  · exact ⟨h, by omega, by omega, by omega, rfl, .inl rfl⟩
theorem popF_near (s : St) (h : s.stack.length ≤ 16) : (popF s).stack.length ≤ 16 ∧ (popF s).ev = s.ev ∧ (popF s).sent = s.sent ∧ (popF s).tm = s.tm ∧ (popF s).steps = s.steps ∧ (popF s).at_ = s.at_ := by
  refine ⟨Nat.le_trans (popF_len s) h, popF_ev s, popF_sent s, popF_tm s, ?_, ?_⟩
  · unfold popF; split; · split <;> rfl
    · rfl
  · unfold popF; split; · split <;> rfl
    · rfl
theorem twoF_near (s : St) (h : s.stack.length ≤ 16) : (twoF s).stack.length ≤ 16 ∧ (twoF s).ev = s.ev ∧ (twoF s).sent = s.sent ∧ (twoF s).tm = s.tm ∧ (twoF s).steps = s.steps ∧ (twoF s).at_ = s.at_ := by
  obtain ⟨a1, a2, a3, a4, a5, a6⟩ := popF_near s h
  obtain ⟨b1, b2, b3, b4, b5, b6⟩ := popF_near (popF s) a1
  exact ⟨b1, b2.trans a2, b3.trans a3, b4.trans a4, b5.trans a5, b6.trans a6⟩
theorem Near.of_same {s s1 s' : St} (h : Near s1 s') (e : s1.ev = s.ev ∧ s1.sent = s.sent ∧ s1.tm = s.tm ∧ s1.steps = s.steps ∧ s1.at_ = s.at_) : Near s s' :=
  ⟨h.stack, e.1 ▸ h.ev, e.2.1 ▸ h.sent, e.2.2.1 ▸ h.tm, e.2.2.2.1 ▸ h.steps, e.2.2.2.2 ▸ h.at_⟩
theorem refuseF_near (b : Bool) (s : St) (h : s.stack.length ≤ 16) : Near s (refuseF b s) := by
  unfold refuseF
  split
  · exact ⟨h, by simp, by simp, by simp, rfl, .inl rfl⟩
  · exact ⟨h, by omega, by omega, by omega, rfl, .inl rfl⟩
theorem sendF_near (d : ByteArray) (x y : Int) (s : St) (h : s.stack.length ≤ 16) : Near s (sendF d x y s) := by
  have hr := refuseF_near (decide ((4 : Int) ≤ s.sent.length)) s h
  unfold sendF
  split
  · exact ⟨h, by omega, by omega, by omega, rfl, .inl rfl⟩
  · split
    · exact ⟨hr.stack, hr.ev, by simp, hr.tm, hr.steps, hr.at_⟩
    · exact hr
theorem remindF_near (n : ByteArray) (now kd x y : Int) (s : St) (h : s.stack.length ≤ 16) : Near s (remindF n now kd x y s) := by
  have hr := refuseF_near (badT now x y) s h
  unfold remindF
  split
  · exact ⟨hr.stack, hr.ev, hr.sent, by simp, hr.steps, hr.at_⟩
  · exact hr
theorem stepF_near (c : Env) (op : Nat) (a : Int) (s : St) (h : s.stack.length ≤ 16) (ha : argOk c.NL.length c.CL.length op a) : Near s (stepF c op a s) := by
  obtain ⟨hop, hk⟩ := ha
  obtain ⟨a1, a2, a3, a4, a5, a6⟩ := popF_near s h
  obtain ⟨b1, b2, b3, b4, b5, b6⟩ := twoF_near s h
  match op, hop with
  | 0, _ => exact ⟨h, by simp [stepF], by simp [stepF], by simp [stepF], rfl, .inl rfl⟩
  | 1, _ | 2, _ | 4, _ | 5, _ | 22, _ | 23, _ => exact pushF_near _ s h
  | 3, _ =>
    show Near s (if _ then _ else _)
    split
    · exact ⟨a1, by simp [tellF, setReg, a2], by simp [tellF, setReg, a3], by simp [tellF, setReg, a4], a5, .inl a6⟩
    · exact ⟨a1, by rw [a2]; omega, by rw [a3]; omega, by rw [a4]; omega, a5, .inl a6⟩
  | 6, _ | 7, _ | 8, _ | 9, _ | 10, _ | 14, _ => exact (pushF_near _ _ b1).of_same ⟨b2, b3, b4, b5, b6⟩
  | 11, _ | 12, _ => exact (pushF_near _ _ a1).of_same ⟨a2, a3, a4, a5, a6⟩
  | 13, _ => exact ⟨a1, (by show (popF s).ev.length ≤ _; rw [a2]; omega), (by show (popF s).sent.length ≤ _; rw [a3]; omega), (by show (popF s).tm.length ≤ _; rw [a4]; omega), a5, .inl a6⟩
  | 15, _ =>
    simp [kindOf, belowV] at hk
    exact ⟨h, by simp [stepF], by simp [stepF], by simp [stepF], rfl, .inr hk.1⟩
  | 16, _ =>
    simp [kindOf, belowV] at hk
    show Near s (if _ then _ else _)
    split
    · exact ⟨a1, by simp [a2], by simp [a3], by simp [a4], a5, .inr hk.1⟩
    · exact ⟨a1, by rw [a2]; omega, by rw [a3]; omega, by rw [a4]; omega, a5, .inl a6⟩
  | 17, _ | 18, _ => exact (sendF_near _ _ _ _ b1).of_same ⟨b2, b3, b4, b5, b6⟩
  | 19, _ => exact (remindF_near _ _ _ _ _ _ b1).of_same ⟨b2, b3, b4, b5, b6⟩
  | 20, _ => exact ⟨h, by simp [stepF], by simp [stepF], by simp [stepF], rfl, .inl rfl⟩
  | 21, _ => exact refuseF_near _ s h
  | n + 24, h => exact absurd h (by omega)
end Go.Proofs.Ytmmbigfeojfedaa

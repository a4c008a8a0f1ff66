/- What holds of every run: the registers are those ahead with all events done, and what goes out keeps its bounds. -/
import Derived.Test.YtmmbigfeojfedaaLaw
namespace Go.Proofs.Ytmmbigfeojfedaa
open Go.RowKit Go.Proofs.YtmmbigfeojfedaaW.PrintWords

def InR (x : Int) : Prop := -9223372036854775808 ≤ x ∧ x ≤ 9223372036854775807
theorem inR_wrap (x : Int) : InR (wrap64 x) := by unfold InR wrap64; omega
theorem inR_truth (b : Bool) : InR (truth b) := by cases b <;> simp [InR, truth]
theorem inR_zero : InR 0 := by unfold InR; omega
/-- The registers, with events done. -/
def doEv (r : Nat → Int) (l : List (Int × Int)) : Nat → Int := l.foldl (fun r e => fun j => if j = e.1.toNat then e.2 else r j) r
theorem doEv_snoc (r : Nat → Int) (l : List (Int × Int)) (e : Int × Int) : doEv r (l ++ [e]) = fun j => if j = e.1.toNat then e.2 else doEv r l j := by simp [doEv]
structure EvC (c : Env) : Prop where
  code : ∀ k, InR (c.CL.getD k (0, 0)).2
  args : ∀ k, InR (c.AL.getD k 0)
  now : InR c.now
  kind : InR c.kind
structure EvI (c : Env) (r0 : Nat → Int) (s : St) : Prop where
  stack : ∀ x ∈ s.stack, InR x
  regs : ∀ j, InR (s.reg j)
  reg : s.reg = doEv r0 s.ev
  evr : ∀ e ∈ s.ev, 0 ≤ e.1 ∧ e.1 < 8
  sent : s.sent.length ≤ 4
  tm : ∀ t ∈ s.tm, t.2.1 = true ∨ (c.now ≤ t.2.2.1 ∧ 1 ≤ t.2.2.2.1)
  f : s.failed = 0 ∨ s.failed = 10 ∨ s.failed = 12
variable {c : Env} {r0 : Nat → Int} {s : St}
theorem EvI.pushFI (h : EvI c r0 s) {xs : List Int} (hx : ∀ x ∈ xs, InR x) : EvI c r0 (pushF xs s) := by
  unfold pushF
  split
  · split
    · exact ⟨h.stack, h.regs, h.reg, h.evr, h.sent, h.tm, .inr (.inl rfl)⟩
    · exact ⟨fun x hx' => (List.mem_append.1 hx').elim (h.stack x) (hx x), h.regs, h.reg, h.evr, h.sent, h.tm, h.f⟩
  · exact h
theorem EvI.popFI (h : EvI c r0 s) : EvI c r0 (popF s) := by
  unfold popF
  split
  · split
    · exact ⟨h.stack, h.regs, h.reg, h.evr, h.sent, h.tm, .inr (.inl rfl)⟩
    · exact ⟨fun x hx' => h.stack x (List.mem_of_mem_take hx'), h.regs, h.reg, h.evr, h.sent, h.tm, h.f⟩
  · exact h
theorem EvI.popVI (h : EvI c r0 s) : InR (popV s) := by
  unfold popV
  split
  · rw [List.getD_eq_getElem?_getD]
    cases hg : s.stack[s.stack.length - 1]? with
    | none => exact inR_zero
    | some x => exact h.stack x (List.mem_of_getElem? hg)
  · exact inR_zero
theorem EvI.refuseFI (h : EvI c r0 s) (b : Bool) : EvI c r0 (refuseF b s) := by
  unfold refuseF
  split
  · exact ⟨h.stack, h.regs, h.reg, h.evr, h.sent, h.tm, .inr (.inr rfl)⟩
  · exact h
theorem EvI.send (h : EvI c r0 s) (d : ByteArray) (k x : Int) : EvI c r0 (sendF d k x s) := by
  unfold sendF
  split
  · exact h
  · have hr := h.refuseFI (decide ((4 : Int) ≤ s.sent.length))
    split
    · next hf =>
      have hs : ¬ (4 : Int) ≤ s.sent.length := fun h4 => by
        unfold refuseF at hf
        split at hf
        · exact absurd (show (12 : Int) = 0 from hf) (by decide)
        · next hn => exact hn ⟨by simpa using h4, hf⟩
      refine ⟨hr.stack, hr.regs, hr.reg, hr.evr, ?_, hr.tm, hr.f⟩
      simp
      omega
    · exact hr
theorem EvI.remind (h : EvI c r0 s) (n : ByteArray) (kd d p : Int) (hd : InR d) (hn : InR c.now) (h0 : 0 ≤ c.now) : EvI c r0 (remindF n c.now kd d p s) := by
  unfold remindF
  have hr := h.refuseFI (badT c.now d p)
  split
  · next hf =>
    have hb : badT c.now d p = false := by
      cases hb : badT c.now d p with
      | false => rfl
      | true =>
        rw [hb] at hf
        unfold refuseF at hf
        split at hf
        · exact absurd (show (12 : Int) = 0 from hf) (by decide)
        · next hn => exact absurd ⟨rfl, hf⟩ hn
    unfold badT at hb
    simp only [Bool.or_eq_false_iff, decide_eq_false_iff_not] at hb
    obtain ⟨⟨b1, b2⟩, b3⟩ := hb
    refine ⟨hr.stack, hr.regs, hr.reg, hr.evr, hr.sent, ?_, hr.f⟩
    intro t ht
    rcases List.mem_append.1 ht with ht | ht
    · exact h.tm t ht
    · simp at ht
      subst ht
      refine .inr ⟨?_, by show (1 : Int) ≤ p; omega⟩
      show c.now ≤ wrap64 (c.now + d)
      unfold InR at hd hn
      unfold wrap64 at b2 ⊢
      omega
  · exact hr
theorem EvI.step (h : EvI c r0 s) (hc : EvC c) (h0 : 0 ≤ c.now) (op : Nat) (a : Int) (ha : argOk c.NL.length c.CL.length op a) (hr : InR a) : EvI c r0 (stepF c op a s) := by
  obtain ⟨hop, hk⟩ := ha
  have one : ∀ {x : Int}, InR x → ∀ y ∈ [x], InR y := fun hx y hy => by simp at hy; exact hy ▸ hx
  have two : ∀ {x z : Int}, InR x → InR z → ∀ y ∈ [x, z], InR y := fun hx hz y hy => by simp at hy; rcases hy with rfl | rfl <;> assumption
  have p1 := h.popFI
  have p2 := p1.popFI
  match op, hop with
  | 0, _ => exact ⟨h.stack, h.regs, h.reg, h.evr, h.sent, h.tm, h.f⟩
  | 1, _ => exact h.pushFI (one hr)
  | 2, _ => exact h.pushFI (one (h.regs _))
  | 3, _ =>
    simp [kindOf, belowV] at hk
    show EvI c r0 (if _ then _ else _)
    split
    · refine ⟨p1.stack, ?_, ?_, ?_, p1.sent, p1.tm, p1.f⟩
      · intro j
        show InR (if j = a.toNat then popV s else (popF s).reg j)
        split
        · exact h.popVI
        · exact p1.regs j
      · show (fun j => if j = a.toNat then popV s else (popF s).reg j) = doEv r0 ((popF s).ev ++ [((a.toNat : Int), popV s)])
        rw [doEv_snoc, p1.reg]
        show _ = fun j => if j = ((a.toNat : Nat) : Int).toNat then popV s else doEv r0 (popF s).ev j
        rw [Int.toNat_natCast]
      · intro e he
        rcases List.mem_append.1 he with he | he
        · exact p1.evr e he
        · simp at he
          subst he
          simp
          omega
    · exact p1
  | 4, _ => exact h.pushFI (one (hc.args _))
  | 5, _ => exact h.pushFI (one hc.kind)
  | 6, _ => exact p2.pushFI (one (inR_wrap _))
  | 7, _ => exact p2.pushFI (one (inR_wrap _))
  | 8, _ => exact p2.pushFI (one (inR_wrap _))
  | 9, _ => exact p2.pushFI (one (inR_truth _))
  | 10, _ => exact p2.pushFI (one (inR_truth _))
  | 11, _ => exact p1.pushFI (one (inR_truth _))
  | 12, _ => exact p1.pushFI (two h.popVI h.popVI)
  | 13, _ => exact p1
  | 14, _ => exact p2.pushFI (two h.popVI p1.popVI)
  | 15, _ => exact ⟨h.stack, h.regs, h.reg, h.evr, h.sent, h.tm, h.f⟩
  | 16, _ =>
    show EvI c r0 (if _ then _ else _)
    split
    · exact ⟨p1.stack, p1.regs, p1.reg, p1.evr, p1.sent, p1.tm, p1.f⟩
    · exact p1
  | 17, _ => exact p2.send _ _ _
  | 18, _ => exact p2.send _ _ _
  | 19, _ => exact p2.remind _ _ _ _ p1.popVI hc.now h0
  | 20, _ =>
    refine ⟨h.stack, h.regs, h.reg, h.evr, h.sent, ?_, h.f⟩
    intro t ht
    rcases List.mem_append.1 ht with ht | ht
    · exact h.tm t ht
    · simp at ht
      subst ht
      exact .inl rfl
  | 21, _ => exact h.refuseFI true
  | 22, _ => exact h.pushFI (one hc.now)
  | 23, _ => exact h.pushFI (one (inR_wrap _))
  | n + 24, h => exact absurd h (by omega)
theorem ev_loop (hc : EvC c) (h0 : 0 ≤ c.now) (hF : formedB c.NL c.CL = true) : ∀ (f : Nat) (s : St), EvI c r0 s → s.failed = 0 → s.stack.length ≤ 16 → 0 ≤ s.at_ → 0 ≤ s.steps → s.steps ≤ 500 → (f : Int) = 501 - s.steps →
    EvI c r0 (loopF c f s).2 ∧ (0 ≤ (loopF c f s).2.steps ∧ (loopF c f s).2.steps ≤ 500) ∧ ((loopF c f s).1 = 11 → (loopF c f s).2.steps = 500)
  | 0, s, h, _, _, _, h1, h2, hf => by omega
  | f + 1, s, h, hf0, hst, hat, h1, h2, hf => by
    by_cases hd : s.done = true
    · rw [loopF_end (.inl hd)]
      exact ⟨h, ⟨h1, h2⟩, fun e => absurd (show (0 : Int) = 11 from e) (by decide)⟩
    by_cases hl : s.at_ < c.CL.length
    · have hd' : s.done = false := by cases hb : s.done <;> simp_all
      by_cases h5 : s.steps = 500
      · have e : loopF c (f + 1) s = (11, s) := by simp [loopF, hd', hl, h5]
        rw [e]
        exact ⟨h, ⟨h1, h2⟩, fun _ => h5⟩
      · obtain ⟨k, hk⟩ : ∃ k : Nat, s.at_ = (k : Int) := ⟨s.at_.toNat, by omega⟩
        have hkl : k < c.CL.length := by omega
        obtain ⟨hok, hop0⟩ := argOk_of hF hkl
        obtain ⟨s2, hs2⟩ : ∃ s2, s2 = { s with steps := s.steps + 1, at_ := s.at_ + 1 } := ⟨_, rfl⟩
        have hi2 : EvI c r0 s2 := by rw [hs2]; exact ⟨h.stack, h.regs, h.reg, h.evr, h.sent, h.tm, h.f⟩
        obtain ⟨s3, hs3⟩ : ∃ s3, s3 = stepF c (c.CL.getD k (0, 0)).1.toNat (c.CL.getD k (0, 0)).2 s2 := ⟨_, rfl⟩
        have hi3 : EvI c r0 s3 := by rw [hs3]; exact hi2.step hc h0 _ _ hok (hc.code k)
        have hn := stepF_near c (c.CL.getD k (0, 0)).1.toNat (c.CL.getD k (0, 0)).2 s2 (by rw [hs2]; exact hst) hok
        rw [← hs3] at hn
        have e := loopF_go (n := f) hd' hl h5 (show s3 = _ by rw [hs3, hs2, hk, Int.toNat_natCast])
        have n4 := hn.steps
        have n5 := hn.at_
        have n6 := hn.stack
        rw [hs2] at n4 n5
        dsimp only at n4 n5
        by_cases hf3 : s3.failed = 0
        · rw [e, if_pos hf3]
          exact ev_loop hc h0 hF f s3 hi3 hf3 n6 (by omega) (by omega) (by omega) (by omega)
        · rw [e, if_neg hf3]
          refine ⟨hi3, ⟨by show 0 ≤ s3.steps; omega, by show s3.steps ≤ 500; omega⟩, fun e1 => ?_⟩
          have e2 : s3.failed = 11 := e1
          rcases hi3.f with h | h | h <;> rw [h] at e2 <;> exact absurd e2 (by decide)
    · rw [loopF_end (.inr hl)]
      exact ⟨h, ⟨h1, h2⟩, fun e => absurd (show (0 : Int) = 11 from e) (by decide)⟩
theorem ev_run (hc : EvC c) (hr : ∀ j, InR (r0 j)) : EvI c r0 (runF c r0).2 ∧ (0 ≤ (runF c r0).2.steps ∧ (runF c r0).2.steps ≤ 500) ∧ ((runF c r0).1 = 11 → (runF c r0).2.steps = 500) := by
  have hs : EvI c r0 (st0 r0) := ⟨fun x hx => by simp [st0] at hx, hr, rfl, fun e he => by simp [st0] at he, by simp [st0], fun t ht => by simp [st0] at ht, .inl rfl⟩
  unfold runF
  split
  · next hok =>
    unfold okIn at hok
    simp only [Bool.and_eq_true, decide_eq_true_eq] at hok
    exact ev_loop hc hok.2.2 hok.1 501 (st0 r0) hs rfl (by simp [st0]) (by simp [st0]) (by simp [st0]) (by simp [st0]) (by simp [st0])
  · exact ⟨hs, ⟨by simp [st0], by simp [st0]⟩, fun e => absurd (show (1 : Int) = 11 from e) (by decide)⟩
end Go.Proofs.Ytmmbigfeojfedaa

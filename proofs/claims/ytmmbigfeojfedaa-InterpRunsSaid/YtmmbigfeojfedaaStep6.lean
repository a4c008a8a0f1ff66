/- step, whatever the operation. -/
import Derived.Test.YtmmbigfeojfedaaStep1
import Derived.Test.YtmmbigfeojfedaaStep2
import Derived.Test.YtmmbigfeojfedaaStep3
import Derived.Test.YtmmbigfeojfedaaStep4
import Derived.Test.YtmmbigfeojfedaaStep5
import Derived.Test.YtmmbigfeojfedaaForm0
namespace Go.Proofs.Ytmmbigfeojfedaa
open Go.RowKit Go.Proofs.YtmmbigfeojfedaaW.PrintWords

/-- What the integer of an operation is, where the program is formed. -/
def argOk (nl cl : Nat) (op : Nat) (a : Int) : Prop := op < 24 ∧ (kindOf op = 1 ∨ (0 ≤ a ∧ a < belowV nl cl (kindOf op)))

def stepF (c : Env) (op : Nat) (a : Int) (s : St) : St :=
  match op with
  | 0 => { s with done := true }
  | 1 => pushF [a] s
  | 2 => pushF [s.reg a.toNat] s
  | 3 => if (popF s).failed = 0 then tellF a.toNat (popV s) (popF s) else popF s
  | 4 => pushF [c.AL.getD a.toNat 0] s
  | 5 => pushF [c.kind] s
  | 6 | 7 | 8 | 9 | 10 => pushF [reckonV op (twoX s) (twoY s)] (twoF s)
  | 11 => pushF [truth (popV s == 0)] (popF s)
  | 12 => pushF [popV s, popV s] (popF s)
  | 13 => popF s
  | 14 => pushF [twoY s, twoX s] (twoF s)
  | 15 => { s with at_ := a }
  | 16 => if popV s = 0 ∧ (popF s).failed = 0 then { popF s with at_ := a } else popF s
  | 17 => sendF (c.NL.getD a.toNat ⟨#[]⟩) (twoX s) (twoY s) (twoF s)
  | 18 => sendF c.frm (twoX s) (twoY s) (twoF s)
  | 19 => remindF (c.NL.getD a.toNat ⟨#[]⟩) c.now c.kind (twoX s) (twoY s) (twoF s)
  | 20 => { s with tm := s.tm ++ [(c.NL.getD a.toNat ⟨#[]⟩, true, 0, 0, 0)] }
  | 21 => refuseF true s
  | 22 => pushF [c.now] s
  | 23 => pushF [wrap64 c.serial] s
  | _ => s

/-- What the bounds are on a state. -/
structure Small (s : St) : Prop where
  stack : s.stack.length ≤ 16
  ev : s.ev.length ≤ 1000
  sent : s.sent.length ≤ 1000
  tm : s.tm.length ≤ 1000

theorem step_any (c : Env) (w0 wb w : World) (mb : Nat) (s : St) (op : Nat) (a : Int) (h : M c w0 wb mb s w) (hs : Small s) (hE : EnvOk c w0) (ha : argOk c.NL.length c.CL.length op a) :
    Calls Try.prog 20 #[mp mb, ins (op : Int) a] w fun e w' => e = .returned (.tuple #[]) ∧ M c w0 wb mb (stepF c op a s) w' := by
  obtain ⟨hop, hk⟩ := ha
  have toN : ∀ {a : Int}, 0 ≤ a → a = (a.toNat : Int) := fun h => by omega
  match op, hop with
  | 0, _ => exact step_0 c w0 wb w mb s a h
  | 1, _ => exact step_1 c w0 wb w mb s a h hs.stack
  | 2, _ =>
    simp [kindOf, belowV] at hk
    have e := toN hk.1
    have := step_2 c w0 wb w mb s a.toNat (by omega) h hs.stack
    rw [← e] at this
    exact this
  | 3, _ =>
    simp [kindOf, belowV] at hk
    have e := toN hk.1
    have := step_3 c w0 wb w mb s a.toNat (by omega) hs.ev h hs.stack
    rw [← e] at this
    exact this
  | 4, _ =>
    simp [kindOf, belowV] at hk
    have e := toN hk.1
    have := step_4 c w0 wb w mb s a.toNat hE h hs.stack
    rw [← e] at this
    exact this
  | 5, _ => exact step_5 c w0 wb w mb s a h hs.stack
  | 6, _ => exact step_6 c w0 wb w mb s a h hs.stack
  | 7, _ => exact step_7 c w0 wb w mb s a h hs.stack
  | 8, _ => exact step_8 c w0 wb w mb s a h hs.stack
  | 9, _ => exact step_9 c w0 wb w mb s a h hs.stack
  | 10, _ => exact step_10 c w0 wb w mb s a h hs.stack
  | 11, _ => exact step_11 c w0 wb w mb s a h hs.stack
  | 12, _ => exact step_12 c w0 wb w mb s a h hs.stack
  | 13, _ => exact step_13 c w0 wb w mb s a h hs.stack
  | 14, _ => exact step_14 c w0 wb w mb s a h hs.stack
  | 15, _ => exact step_15 c w0 wb w mb s a h
  | 16, _ => exact step_16 c w0 wb w mb s a h hs.stack
  | 17, _ =>
    simp [kindOf, belowV] at hk
    have e := toN hk.1
    have := step_17 c w0 wb w mb s a.toNat (by omega) hE hs.sent h hs.stack
    rw [← e] at this
    exact this
  | 18, _ => exact step_18 c w0 wb w mb s a hs.sent h hs.stack
  | 19, _ =>
    simp [kindOf, belowV] at hk
    have e := toN hk.1
    have := step_19 c w0 wb w mb s a.toNat (by omega) hE hs.tm h hs.stack
    rw [← e] at this
    exact this
  | 20, _ =>
    simp [kindOf, belowV] at hk
    have e := toN hk.1
    have := step_20 c w0 wb w mb s a.toNat (by omega) hE hs.tm h
    rw [← e] at this
    exact this
  | 21, _ => exact step_21 c w0 wb w mb s a h
  | 22, _ => exact step_22 c w0 wb w mb s a h hs.stack
  | 23, _ => exact step_23 c w0 wb w mb s a h hs.stack
  | n + 24, h => exact absurd h (by omega)
end Go.Proofs.Ytmmbigfeojfedaa

/- Eng6 -/
import Derived.Test.YtlcdjgpblpodaaaGreatDoorMBC
namespace Go.Proofs.YtlcdjgpblpodaaaGreatDoor
open Go.RowKit Go.Maps Go.Proofs.YtlcdjgpblpodaaaGreatDoorW.PrintWords

open Classical in
/-- The labels behind a unit that was written. -/
noncomputable def laidR (reg : Nat → Nat) (a : Nat) (F XL XD : Nat → Prop) : Nat → Nat := fun k => if k < a then reg k else if XL k then 2 else if XD k then 3 else if F k then 1 else 0
section
variable {w w' : World} {reg reg' : Nat → Nat} {v : EngV}
theorem EngC.committed (h : EngC w reg v) {F XL XD : Nat → Prop} {n nc used nu m : Nat} {T : ByteArray → Option (List Int)} (hb : BookP w' F XL XD v.bb v.db v.sb v.lb v.pb v.tb v.mb v.hb v.N v.cnt used nu m n nc (v.pend + 1) T)
    (hF : ∀ k, F k → reg k = 1 ∨ w.heap.size ≤ k) (hL : ∀ k, XL k → reg k = 2 ∨ w.heap.size ≤ k) (hD : ∀ k, XD k → reg k = 3 ∨ w.heap.size ≤ k) (hc : Chg (bookS (fun k => reg k = 2) (fun k => reg k = 3) v.bb v.mb v.hb) w w') :
    EngC w' (laidR reg w.heap.size F XL XD) { v with used := used, nu := nu, m := m, n := n, nc := nc, pend := v.pend + 1, T := T } := by
  have old : ∀ k, k < w.heap.size → laidR reg w.heap.size F XL XD k = reg k := fun k hk => if_pos hk
  have kp : ∀ c k, c ≠ 0 → reg k = c → laidR reg w.heap.size F XL XD k = c := fun c k hc hk => by rw [old k (h.lt k (by omega)), hk]
  have lt : ∀ k, laidR reg w.heap.size F XL XD k ≠ 0 → k < w'.heap.size := fun k hk => by
    by_cases a : k < w.heap.size
    · exact Nat.lt_of_lt_of_le a hc.size
    · by_cases b : XL k
      · exact hb.lt k (.inr (.inl b))
      · by_cases c : XD k
        · exact hb.lt k (.inr (.inr c))
        · by_cases d : F k
          · exact hb.lt k (.inl d)
          · exact absurd (by unfold laidR; rw [if_neg a, if_neg b, if_neg c, if_neg d]) hk
  have toL : ∀ k, XL k → laidR reg w.heap.size F XL XD k = 2 := fun k hk => by
    rcases hL k hk with e | e
    · exact kp 2 k (by decide) e
    · unfold laidR; rw [if_neg (by omega), if_pos hk]
  have toD : ∀ k, XD k → laidR reg w.heap.size F XL XD k = 3 := fun k hk => by
    rcases hD k hk with e | e
    · exact kp 3 k (by decide) e
    · unfold laidR; rw [if_neg (by omega), if_neg (fun g => hb.ld k g hk), if_pos hk]
  have toF : ∀ k, F k → laidR reg w.heap.size F XL XD k = 1 := fun k hk => by
    rcases hF k hk with e | e
    · exact kp 1 k (by decide) e
    · unfold laidR; rw [if_neg (by omega), if_neg (hb.fl k hk).1, if_neg (hb.fl k hk).2.1, if_pos hk]
  have ne : ∀ k, laidR reg w.heap.size F XL XD k ≤ 4 → k ≠ v.bb ∧ k ≠ v.mb ∧ k ≠ v.hb := fun k hk => by
    refine ⟨fun e => ?_, fun e => ?_, fun e => ?_⟩ <;> subst e
    · rw [kp 6 _ (by decide) h.lbb] at hk; omega
    · rw [kp 7 _ (by decide) h.lm] at hk; omega
    · rw [kp 8 _ (by decide) h.lh] at hk; omega
  have hS : ∀ k, reg k = 1 ∨ reg k = 4 ∨ reg k = 5 ∨ reg k = 9 ∨ reg k = 10 → ¬ bookS (fun k => reg k = 2) (fun k => reg k = 3) v.bb v.mb v.hb k := fun k hk g => by
    rcases g with g | g | g | g | g
    · subst g; have := h.lbb; omega
    · subst g; have := h.lm; omega
    · subst g; have := h.lh; omega
    · omega
    · omega
  exact ⟨hc.blk h.blk (hS _ (by rw [h.le]; decide)), hb.relab toF toL toD (fun k hk => ⟨by omega, by omega, ne k (by omega)⟩) (fun k hk => ⟨by omega, ne k (by omega)⟩) (fun k hk => ne k (by omega)) (fun k hk => lt k (by omega)),
    (h.tab.chg hc (fun k hk => hS k (by omega))).mono (fun k => kp 4 k (by decide)), h.map.chg hc (hS _ (by rw [h.la]; decide)), h.cnt.chg hc (hS _ (by rw [h.lc]; decide)), (h.win.chg hc (fun k hk => hS k (by omega))).mono (fun k => kp 1 k (by decide)) (Nat.le_refl _),
    hc.reads h.names (fun a ha => hS _ (.inl (h.nin a ha))), isCode_chg h.code hc (fun a ha => hS _ (.inl (h.kin a ha))), fun a ha => kp 1 _ (by decide) (h.nin a ha), fun a ha => kp 1 _ (by decide) (h.kin a ha),
    kp 5 _ (by decide) h.le, kp 6 _ (by decide) h.lbb, kp 7 _ (by decide) h.lm, kp 8 _ (by decide) h.lh, kp 9 _ (by decide) h.la, kp 10 _ (by decide) h.lc, lt⟩
/-- Another window stands in the engine's block. -/
theorem EngC.windowed (h : EngC w reg v) {nb : Nat} {W : Win} (hW : WinAt 5 w (fun k => reg k = 1) nb W) : EngC (w.setCell ⟨v.eb, 4, none⟩ (.pointer (some ⟨nb, 0, none⟩))) reg { v with wb := nb, win := W } := by
  have hc : Chg (fun k => k = v.eb) w (w.setCell ⟨v.eb, 4, none⟩ (.pointer (some ⟨nb, 0, none⟩))) := (Chg.refl (fun k => k = v.eb) w).put v.eb 4 (.inl rfl) _
  have ne : ∀ k, reg k ≠ 5 → ¬ (k = v.eb) := fun k hk e => by subst e; exact hk h.le
  exact ⟨by simpa using h.blk.set 4 (.pointer (some ⟨nb, 0, none⟩)), h.book.chg hc (fun k hk => ne k (by omega)) (fun k hk => ne k (by omega)) (fun k hk => ne k (by omega)) (ne _ (by rw [h.lbb]; decide)) (ne _ (by rw [h.lm]; decide)) (ne _ (by rw [h.lh]; decide)),
    h.tab.chg hc (fun k hk => ne k (by omega)), h.map.chg hc (ne _ (by rw [h.la]; decide)), h.cnt.chg hc (ne _ (by rw [h.lc]; decide)), hW.chg hc (fun k hk => ne k (by omega)), hc.reads h.names (fun a ha => ne _ (by rw [h.nin a ha]; decide)), isCode_chg h.code hc (fun a ha => ne _ (by rw [h.kin a ha]; decide)),
    h.nin, h.kin, h.le, h.lbb, h.lm, h.lh, h.la, h.lc, fun k hk => Nat.lt_of_lt_of_le (h.lt k hk) hc.size⟩
end
open Classical in
/-- What lies in X does not turn any more. -/
noncomputable def promo (reg : Nat → Nat) (X : Nat → Prop) : Nat → Nat := fun k => if reg k = 0 ∧ X k then 1 else reg k
theorem promo_old {reg : Nat → Nat} {X : Nat → Prop} {k : Nat} (h : reg k ≠ 0) : promo reg X k = reg k := if_neg (fun e => h e.1)
theorem promo_cases (reg : Nat → Nat) (X : Nat → Prop) (k : Nat) : promo reg X k = reg k ∨ (X k ∧ reg k = 0 ∧ promo reg X k = 1) := by
  by_cases h : reg k = 0 ∧ X k
  · exact .inr ⟨h.2, h.1, if_pos h⟩
  · exact .inl (if_neg h)
theorem promo_in {reg : Nat → Nat} {X : Nat → Prop} {k : Nat} (h : reg k = 0) (hX : X k) : promo reg X k = 1 := if_pos ⟨h, hX⟩

/-- The actors in memory. -/
def ActsAt (w : World) (reg : Nat → Nat) (g : Lit → Option Value) (ls : List ByteArray) (act : ByteArray → Actr) : Prop :=
  ∀ k, KeyOk k → (k ∈ ls → ∃ p, g (litS k) = some (.pointer (some ⟨p, 0, none⟩)) ∧ ActAt false w (fun j => reg j = 1) p (act k)) ∧ (k ∉ ls → g (litS k) = none)
theorem ActsAt.chg {w w' : World} {reg : Nat → Nat} {S : Nat → Prop} {g : Lit → Option Value} {ls : List ByteArray} {act : ByteArray → Actr} (h : ActsAt w reg g ls act) (hc : Chg S w w') (hS : ∀ k, reg k = 1 → ¬ S k) : ActsAt w' reg g ls act := fun k hk => ⟨fun hm => by
  obtain ⟨p, e, ha⟩ := (h k hk).1 hm
  exact ⟨p, e, ha.chg hc hS⟩, (h k hk).2⟩
theorem ActsAt.relab {w : World} {reg reg' : Nat → Nat} {g : Lit → Option Value} {ls : List ByteArray} {act : ByteArray → Actr} (h : ActsAt w reg g ls act) (h1 : ∀ k, reg k = 1 → reg' k = 1) : ActsAt w reg' g ls act := fun k hk => ⟨fun hm => by
  obtain ⟨p, e, ha⟩ := (h k hk).1 hm
  exact ⟨p, e, ha.mono h1⟩, (h k hk).2⟩
/-- The actor a, if it is in memory, stands there now. -/
theorem ActsAt.put {w : World} {reg : Nat → Nat} {g : Lit → Option Value} {ls : List ByteArray} {act : ByteArray → Actr} {p : Nat} {a : Actr} (h : ActsAt w reg g ls act) (hin : a.outb.owner ∈ ls) (ha : ActAt false w (fun j => reg j = 1) p a) : ActsAt w reg (putF g (litS a.outb.owner) (.pointer (some ⟨p, 0, none⟩))) ls (upd act a) := fun k hk => by
  by_cases e : k = a.outb.owner
  · subst e
    exact ⟨fun _ => ⟨p, putF_same _ _ _, by rw [upd_same]; exact ha⟩, fun hn => absurd hin hn⟩
  · rw [upd_other _ _ e, putF_other _ _ (fun e' => e (litS_inj e'))]
    exact h k hk
theorem ActsAt.skip {w : World} {reg : Nat → Nat} {g : Lit → Option Value} {ls : List ByteArray} {act : ByteArray → Actr} {a : Actr} (h : ActsAt w reg g ls act) (hin : a.outb.owner ∉ ls) : ActsAt w reg g ls (upd act a) := fun k hk => by
  by_cases e : k = a.outb.owner
  · exact ⟨fun hm => absurd (e ▸ hm) hin, (h k hk).2⟩
  · rw [upd_other _ _ e]
    exact h k hk
/-- The actors of a unit: pointers in a row, each an actor. -/
structure UnA (w : World) (X : Nat → Prop) (ua uo : Nat) (us : List (Nat × Actr)) : Prop where
  cell : ∀ i u, us[i]? = some u → w.cell? ⟨ua, uo + i, none⟩ = some (.pointer (some ⟨u.1, 0, none⟩))
  at_ : ∀ u ∈ us, ActAt false w X u.1 u.2
theorem UnA.chg {w w' : World} {S X : Nat → Prop} {ua uo : Nat} {us : List (Nat × Actr)} (h : UnA w X ua uo us) (hc : Chg S w w') (hX : ∀ k, X k → ¬ S k) (hu : ¬ S ua) : UnA w' X ua uo us :=
  ⟨fun i u hi => hc.cell hu (h.cell i u hi), fun u hu => (h.at_ u hu).chg hc hX⟩
/-- All actors behind a unit. -/
def updAll (act : ByteArray → Actr) (us : List (Nat × Actr)) : ByteArray → Actr := us.foldl (fun f u => upd f u.2) act
theorem updAll_take (act : ByteArray → Actr) (us : List (Nat × Actr)) (k : Nat) (u : Nat × Actr) (h : us[k]? = some u) : updAll act (us.take (k + 1)) = upd (updAll act (us.take k)) u.2 := by
  obtain ⟨h1, h2⟩ := List.getElem?_eq_some_iff.1 h
  rw [List.take_succ_eq_append_getElem h1, h2]
  simp [updAll]
def chsOf (us : List (Nat × Actr)) : List Chn := us.map fun u => chOf u.2
theorem tabs_all : ∀ (us : List (Nat × Actr)) (T : ByteArray → Option (List Int)) (act : ByteArray → Actr), TabsOk T act → TabsOk (layT T (chsOf us)) (updAll act us)
  | [], _, _, h => h
  | u :: us, _, _, h => tabs_all us _ _ (h.upd u.2)
/-- The window's change. -/
def winCh (W : Win) : Chn := ⟨⟨#[119]⟩, encWin W, false⟩
theorem tabs_win {T : ByteArray → Option (List Int)} {act : ByteArray → Actr} (h : TabsOk T act) (W : Win) : TabsOk (layT T [winCh W]) act := fun k hk => by
  have : layT T [winCh W] (akey k) = T (akey k) := setT_other T _ (akey_ne k 119 (by decide))
  rw [this]; exact h k hk
theorem layT_append (T : ByteArray → Option (List Int)) (a b : List Chn) : layT T (a ++ b) = layT (layT T a) b := List.foldl_append
end Go.Proofs.YtlcdjgpblpodaaaGreatDoor

/- The reader's Number whole, and Text, one goroutine. -/
import Derived.Test.YtkdkcffeepancaaRd3
import Derived.Laws.BytesArg
namespace Go.Proofs.Ytkdkcffeepancaa
open Go.RowKit Go.Proofs.YtkdkcffeepancaaW.PrintWords

theorem num_any (rb : Nat) (X : Nat → Prop) (bs : List Int) (hX : ¬ X rb) (hby : IsBytes bs) (w : World) (h : RD w rb X bs false) : Calls Try.prog 47 #[.pointer (some ⟨rb, 0, none⟩)] w (NumPost rb X bs w) := by
  cases bs with
  | nil => exact num_nil rb X w h
  | cons f r =>
    have hf := hby f (by simp)
    by_cases h1 : f < 248
    · exact num_small rb X f r hX hf.1 h1 w h
    · obtain ⟨k, hk⟩ := Int.eq_ofNat_of_zero_le (show 0 ≤ f - 247 by omega)
      by_cases h2 : r.length < k
      · exact num_short rb X f r k hk (by omega) (by omega) h2 w h
      · exact num_wide rb X f r k hX hk (by omega) (by omega) (by omega) (fun x hx => hby x (List.mem_cons_of_mem _ hx)) w h

theorem conv_str {w : World} {A : Option Addr} {n c : Nat} {xs : List Int} (hr : ReadsOf (Value.int .u8) (0 : Int) w A n xs) : (convert 24 9 (.slice A n c)).run Try.prog w = .ok (.string (strOfNums xs)) w := by
  obtain ⟨hl, _, hc⟩ := hr
  rcases Nat.eq_zero_or_pos n with h0 | h0
  · subst h0
    obtain rfl : xs = [] := List.eq_nil_of_length_eq_zero hl
    cases A with
    | none => exact run_convert_bytes_nil w 24 5 Try.underlying24 Try.underlying5 0 c 9 Try.underlying9
    | some a =>
      have hl : (loadCells a 0).run Try.prog w = .ok #[] w := by simpa using run_loadCells_list (P := Try.prog) w a [] (by simp)
      rw [run_convert_bytes_string w 24 9 5 (some a) 0 c Try.underlying24 Try.underlying5 Try.underlying9, run_bytesToString w _ 0 c [] hl]
      rfl
  · obtain ⟨a, rfl, hcell⟩ := hc h0
    obtain ⟨b, off, sp⟩ := a
    have g0 := hcell 0 h0
    obtain rfl : sp = none := by simpa [Addr.add] using World.cell?_spot g0
    exact run_convert_bytes_arg w 24 5 Try.underlying24 Try.underlying5 b off n c xs hl (fun i hi => by have := hcell i hi; rwa [show (⟨b, off, none⟩ : Addr).add i = ⟨b, off + i, none⟩ from Go.WideShapes.add_plain b off i] at this) 9 Try.underlying9

/-- What Text leaves. -/
def TextPost (rb : Nat) (X : Nat → Prop) (bs : List Int) (w : World) (e : Ending) (w' : World) : Prop :=
  match decText bs with
  | none => e = .returned (.string ⟨#[]⟩) ∧ RD w' rb X [] true ∧ Chg (fun k => k = rb) w w'
  | some (s, r) => e = .returned (.string (strOfNums s)) ∧ RD w' rb X r false ∧ Chg (fun k => k = rb) w w'
theorem TextPost.none_ {rb : Nat} {X : Nat → Prop} {bs : List Int} {w w' : World} {e : Ending} (hd : decText bs = none) (h : e = .returned (.string ⟨#[]⟩) ∧ RD w' rb X [] true ∧ Chg (fun k => k = rb) w w') : TextPost rb X bs w e w' := by unfold TextPost; rw [hd]; exact h
theorem TextPost.some_ {rb : Nat} {X : Nat → Prop} {bs s r : List Int} {w w' : World} {e : Ending} (hd : decText bs = some (s, r)) (h : e = .returned (.string (strOfNums s)) ∧ RD w' rb X r false ∧ Chg (fun k => k = rb) w w') : TextPost rb X bs w e w' := by unfold TextPost; rw [hd]; exact h

theorem num_none {rb : Nat} {X : Nat → Prop} {bs : List Int} {w : World} (hd : decNum bs = none) (h : Calls Try.prog 47 #[.pointer (some ⟨rb, 0, none⟩)] w (NumPost rb X bs w)) :
    Calls Try.prog 47 #[.pointer (some ⟨rb, 0, none⟩)] w fun e w' => e = .returned (.int .u64 0) ∧ RD w' rb X [] true ∧ Chg (fun k => k = rb) w w' := h.mono fun e w' q => by unfold NumPost at q; rw [hd] at q; exact q
theorem num_some {rb : Nat} {X : Nat → Prop} {bs r : List Int} {n : Int} {w : World} (hd : decNum bs = some (n, r)) (h : Calls Try.prog 47 #[.pointer (some ⟨rb, 0, none⟩)] w (NumPost rb X bs w)) :
    Calls Try.prog 47 #[.pointer (some ⟨rb, 0, none⟩)] w fun e w' => e = .returned (.int .u64 n) ∧ RD w' rb X r false ∧ Chg (fun k => k = rb) w w' := h.mono fun e w' q => by unfold NumPost at q; rw [hd] at q; exact q

set_option maxRecDepth 100000 in
set_option maxHeartbeats 1000000 in
theorem text_bad (rb : Nat) (X : Nat → Prop) (bs : List Int) (hX : ¬ X rb) (hby : IsBytes bs) (hd : decNum bs = none) (w : World) (h : RD w rb X bs false) : Calls Try.prog 27 #[.pointer (some ⟨rb, 0, none⟩)] w (TextPost rb X bs w) := by
  have HN := Lib.hid (num_none hd (num_any rb X bs hX hby w h))
  have HD := Lib.hid (show decText bs = none by unfold decText; rw [hd])
  clear hd h
  go_enter Try.func27, Try.ntmps27
  go_wp2_with fail
  refine HN.out.mono ?_
  rintro e w1 ⟨rfl, hr, hc⟩
  obtain ⟨A, c, hb, h1, h2, h3⟩ := hr
  have b1 := hb.cell 1
  simp at b1
  have HB := Lib.hid hb
  have HC := Lib.hid hc
  have HR := Lib.hid (show RD w1 rb X [] true from ⟨A, c, hb, h1, h2, h3⟩)
  clear hb hc h1 h2 h3
  go_wp2
  go_ret
  exact TextPost.none_ HD.out ⟨rfl, HR.out, HC.out⟩

set_option maxRecDepth 100000 in
set_option maxHeartbeats 1000000 in
theorem text_long (rb : Nat) (X : Nat → Prop) (bs r : List Int) (n : Int) (hX : ¬ X rb) (hby : IsBytes bs) (hd : decNum bs = some (n, r)) (hlong : (r.length : Int) < n) (w : World) (h : RD w rb X bs false) : Calls Try.prog 27 #[.pointer (some ⟨rb, 0, none⟩)] w (TextPost rb X bs w) := by
  have HN := Lib.hid (num_some hd (num_any rb X bs hX hby w h))
  have HD := Lib.hid (show decText bs = none by unfold decText; rw [hd]; simp only []; rw [if_pos hlong])
  clear hd h
  go_enter Try.func27, Try.ntmps27
  go_wp2_with fail
  refine HN.out.mono ?_
  rintro e w1 ⟨rfl, hr, hc⟩
  obtain ⟨A, c, hb, h1, h2, h3⟩ := hr
  have b0 := hb.cell 0
  have b1 := hb.cell 1
  simp at b0 b1
  have hlen := h2.2.1
  have t0 : decide ((r.length : Int) < n) = true := by simpa using hlong
  have HB := Lib.hid hb
  have HC := Lib.hid hc
  clear hb hc h1 h2 h3
  go_wp2_with (go_at_call 48; refine (fail_any rb _ _ _ HB.out).mono ?_; rintro e w' ⟨rfl, rfl⟩)
  go_ret
  exact TextPost.none_ HD.out ⟨rfl, (failed_RD HB.out X).1, HC.out.trans (failed_RD HB.out X).2 (fun _ _ h => h)⟩
end Go.Proofs.Ytkdkcffeepancaa

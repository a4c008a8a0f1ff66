/- The law LazyJoins, walked; one goroutine. -/
import Derived.Test.YtkdkcffeepancaaPJoins
import Derived.Test.YtkdkcffeepancaaAwake
import Derived.Test.YtkdkcffeepancaaWGuard
namespace Go.Proofs.Ytkdkcffeepancaa
open Go.RowKit Go.Proofs.YtkdkcffeepancaaW.PrintWords

/-- A slice of bytes that came in. -/
def InB (w : World) (A : Option Addr) (c : Nat) (bs : List Int) : Prop :=
  ReadsOf (Value.int .u8) (0 : Int) w A bs.length bs ∧ (A = none → c = 0) ∧ IsBytes bs ∧ bs.length ≤ 1048576
theorem InB.below {w w' : World} {A : Option Addr} {c : Nat} {bs : List Int} (h : InB w A c bs) (hb : Below w.heap.size w w') : InB w' A c bs := ⟨h.1.below hb, h.2⟩
theorem bthen {w w1 w2 : World} (h : Below w.heap.size w w1) (k : Below w1.heap.size w1 w2) : Below w.heap.size w w2 :=
  h.trans ⟨k.os, k.tape, k.output, k.size, fun i hi => k.block i (by have := h.size; omega)⟩

theorem own_in {w : World} {base n : Nat} {v : Value} {xs : List Int} (h : w.ownsRow base 5 1 v n (encs (Value.int .u8) xs)) : ∃ A c, v = .slice A xs.length c ∧ ReadsOf (Value.int .u8) (0 : Int) w A xs.length xs ∧ (A = none → c = 0) := by
  have hf := h.2
  obtain ⟨A, c, rfl, hr⟩ := own_reads_of (d := (0 : Int)) h
  obtain rfl := hr.1
  refine ⟨A, c, rfl, hr, fun e => ?_⟩
  subst e
  rcases hf with ⟨h, _⟩ | ⟨g, cap, cur, h, _⟩
  · simp at h; exact h.2
  · cases h

/-- Texts as the call has made them, from w on. -/
def Mine (w w' : World) (v : Value) (ts : List ByteArray) : Prop := w'.ownsRow w.heap.size 9 1 v ts.length (encs Value.string ts)
theorem Mine.below {w w1 w2 : World} {v : Value} {ts : List ByteArray} (h : Mine w w1 v ts) (hb : Below w1.heap.size w1 w2) : Mine w w2 v ts := pw_own_below h hb

/-- What New and Texts together leave. -/
structure NT (bs : List Int) (w w' : World) (v : Value) (g : Bool) : Prop where
  below : Below w.heap.size w w'
  mine : Mine w w' v ((parse bs).getD [])
  good : g = (parse bs).isSome
theorem NT.of {w w1 w2 : World} {lb : Nat} {bs : List Int} {v : Value} (h1 : w.heap.size ≤ lb) (hb : Below w.heap.size w w1) (_hd : Done w2 w1.heap.size lb bs) (hc : Chg (fun k => k = lb) w1 w2)
    (ho : w2.ownsRow w1.heap.size 9 1 v ((parse bs).getD []).length (encs Value.string ((parse bs).getD []))) : NT bs w w2 v (parse bs).isSome :=
  ⟨hb.trans (hc.below (fun k (e : k = lb) => by omega) hb.size), own_weaken ho hb.size, rfl⟩

set_option maxRecDepth 100000 in
set_option maxHeartbeats 2000000 in
theorem joins (A B : Option Addr) (ca cb : Nat) (a b : List Int) (w : World) (ha : InB w A ca a) (hb : InB w B cb b) :
    Calls Try.prog 4 #[.slice A a.length ca, .slice B b.length cb] w fun e w' => e = .returned (.bool true) ∧ Below w.heap.size w w' := by
  have HA := Lib.hid ha
  have HB := Lib.hid hb
  clear ha hb
  go_enter Try.func4, Try.ntmps4
  go_wp2_with fail
  refine (awake_any _).mono ?_
  rintro e w1 ⟨rfl, hb1⟩
  have HA1 := Lib.hid (HA.out.below hb1)
  have HB1 := Lib.hid (HB.out.below hb1)
  have HW1 := Lib.hid hb1
  clear hb1 HA HB
  go_wp2_with fail
  refine (new_any A ca a _ HA1.out.1 (by have := HA1.out.2.2.2; omega) HA1.out.2.1).mono ?_
  rintro e w2 ⟨lb1, rfl, hl1, hf1, hb2⟩
  have HF1 := Lib.hid hf1
  have HB2 := Lib.hid hb2
  clear hf1 hb2
  go_wp2_with fail
  refine (texts_first lb1 a _ HF1.out HA1.out.2.2.1 (by have := HA1.out.2.2.2; omega)).mono ?_
  rintro e w3 ⟨hd, hc, v1, ho, rfl⟩
  have N1 := Lib.hid (NT.of hl1 HB2.out hd hc ho)
  have HA3 := Lib.hid (HA1.out.below N1.out.below)
  have HB3 := Lib.hid (HB1.out.below N1.out.below)
  have HW3 := Lib.hid (bthen HW1.out N1.out.below)
  clear hd hc ho HF1 HB2 HA1 HB1 HW1 hl1
  go_wp2_with fail
  refine (new_any B cb b _ HB3.out.1 (by have := HB3.out.2.2.2; omega) HB3.out.2.1).mono ?_
  rintro e w4 ⟨lb2, rfl, hl2, hf2, hb4⟩
  have HF2 := Lib.hid hf2
  have HB4 := Lib.hid hb4
  clear hf2 hb4
  go_wp2_with fail
  refine (texts_first lb2 b _ HF2.out HB3.out.2.2.1 (by have := HB3.out.2.2.2; omega)).mono ?_
  rintro e w5 ⟨hd, hc, v2, ho, rfl⟩
  have N2 := Lib.hid (NT.of hl2 HB4.out hd hc ho)
  have M1 := Lib.hid (N1.out.mine.below N2.out.below)
  have HA5 := Lib.hid (HA3.out.below N2.out.below)
  have HB5 := Lib.hid (HB3.out.below N2.out.below)
  have HW5 := Lib.hid (bthen HW3.out N2.out.below)
  clear hd hc ho HF2 HB4 HA3 HB3 HW3 hl2 N1
  have HE := Lib.hid (show (w5.alloc (.cells #[] 5)).ownsRow w5.heap.size 5 1 (.slice (some ⟨w5.heap.size, 0, none⟩) 0 0) 0 (encs (Value.int .u8) []) from own_lit_of (enc := Value.int .u8) w5 w5.heap.size 5 [] (Nat.le_refl _) (by simp))
  have HBE := Lib.hid (show Below w5.heap.size w5 (w5.alloc (.cells #[] 5)) from (Below.refl _ _).alloc (Nat.le_refl _) _)
  have HAE := Lib.hid (HA5.out.below HBE.out)
  obtain ⟨ab, hab⟩ : ∃ l, l = a ++ b := ⟨_, rfl⟩
  have HAB := Lib.hid hab
  clear hab
  have hla := HA5.out.2.2.2
  have hlb := HB5.out.2.2.2
  go_wp2_with (first | (at_builtin; refine print_append_row_of (w0 := w5) (Value.int .u8) (0 : Int) w5.heap.size rfl (.tmp 26) (.tmp 27) 24 5 (.int .u8 0) 1 rfl Try.underlying24 info5 rfl (by omega) (fun _ => rfl) _ [] a A a.length ca rfl rfl HE.out HAE.out.1 HBE.out (by simp) (by simp; omega) ?_; intro vA wA hoA hbA hgA hatA; simp only [List.nil_append] at hoA; have HOA := Lib.hid hoA; have HBA := Lib.hid hbA; have HB6 := Lib.hid (HB5.out.below hbA); clear hoA hbA hgA hatA) | (at_builtin; refine print_append_row_of (w0 := w5) (Value.int .u8) (0 : Int) w5.heap.size rfl (.tmp 28) (.tmp 29) 24 5 (.int .u8 0) 1 rfl Try.underlying24 info5 rfl (by omega) (fun _ => rfl) _ a b B b.length cb rfl rfl HOA.out HB6.out.1 HBA.out HBA.out.size (by omega) ?_; intro vB wB hoB hbB hgB hatB; rw [← HAB.out] at hoB; obtain ⟨C, cc, rfl, hrC, hnC⟩ := own_in hoB; have HRC := Lib.hid hrC; have HNC := Lib.hid hnC; have HBB := Lib.hid hbB; clear hoB hbB hgB hatB hrC hnC))
  have hbyab : IsBytes ab := HAB.out ▸ HA5.out.2.2.1.append HB5.out.2.2.1
  have hlab : ab.length ≤ 2097152 := by rw [HAB.out, List.length_append]; omega
  have HBY := Lib.hid hbyab
  clear hbyab
  refine (new_any C cc ab _ HRC.out (by omega) HNC.out).mono ?_
  rintro e w6 ⟨lb3, rfl, hl3, hf3, hb6⟩
  have HF3 := Lib.hid hf3
  have HB7 := Lib.hid hb6
  clear hf3 hb6
  go_wp2_with fail
  refine (texts_first lb3 ab _ HF3.out HBY.out (by omega)).mono ?_
  rintro e w7 ⟨hd, hc, v3, ho, rfl⟩
  have N3 := Lib.hid (NT.of hl3 HB7.out hd hc ho)
  have M3 := Lib.hid N3.out.mine
  have HBw := Lib.hid (bthen HBB.out N3.out.below)
  have M1' := Lib.hid (M1.out.below HBw.out)
  have M2' := Lib.hid (N2.out.mine.below HBw.out)
  have HW7 := Lib.hid (bthen HW5.out HBw.out)
  clear hd hc ho HF3 HB7 hl3 HE HBE HAE HRC HNC
  cases hpa : parse a with
  | none =>
    go_wp2_with fail
    go_ret
    exact ⟨rfl, HW7.out⟩
  | some xa =>
    have hj := parse_append _ a (Nat.le_refl _) HA5.out.2.2.1 b HB5.out.2.2.1 xa hpa
    rw [← HAB.out] at hj
    have HPA := Lib.hid hpa
    clear hpa
    cases hpb : parse b with
    | none =>
      rw [hpb] at hj
      have hj' : parse ab = none := hj
      rw [hj']
      clear hj hj' hpb
      go_wp2_with fail
      go_ret
      exact ⟨rfl, HW7.out⟩
    | some xb =>
      rw [hpb] at hj
      have hj' : parse ab = some (xa ++ xb) := hj
      have hm1 : Mine w1 w7 v1 xa := by have := M1'.out; rw [HPA.out] at this; exact this
      have hm2 : Mine w3 w7 v2 xb := by have := M2'.out; rw [hpb] at this; exact this
      have hm3 : Mine wB w7 v3 (xa ++ xb) := by have := M3.out; rw [hj'] at this; exact this
      rw [hj']
      have hxa : xa.length ≤ 1048576 := by have := parse_length a HA5.out.2.2.1; rw [HPA.out] at this; simp at this; omega
      have hxb : xb.length ≤ 1048576 := by have := parse_length b HB5.out.2.2.1; rw [hpb] at this; simp at this; omega
      obtain ⟨xs, hxs⟩ : ∃ l, l = xa ++ xb := ⟨_, rfl⟩
      rw [← hxs] at hm3
      have HXS := Lib.hid hxs
      obtain ⟨A1, k1, rfl, hr1⟩ := own_reads_of (d := (⟨#[]⟩ : ByteArray)) hm1
      obtain ⟨A2, k2, rfl, hr2⟩ := own_reads_of (d := (⟨#[]⟩ : ByteArray)) hm2
      obtain ⟨A3, k3, rfl, hr3⟩ := own_reads_of (d := (⟨#[]⟩ : ByteArray)) hm3
      have HE := Lib.hid (show (w7.alloc (.cells #[] 9)).ownsRow w7.heap.size 9 1 (.slice (some ⟨w7.heap.size, 0, none⟩) 0 0) 0 (encs Value.string []) from own_lit_of (enc := Value.string) w7 w7.heap.size 9 [] (Nat.le_refl _) (by simp))
      have HBE := Lib.hid (show Below w7.heap.size w7 (w7.alloc (.cells #[] 9)) from (Below.refl _ _).alloc (Nat.le_refl _) _)
      have HR1 := Lib.hid (hr1.below HBE.out)
      have HR2 := Lib.hid hr2
      have HR3 := Lib.hid hr3
      clear hj hj' hpb hm1 hm2 hm3 hr1 hr2 hr3 hxs M1' M2' M3 M1 N2 N3 HA5 HB5
      go_wp2_with (first | (at_builtin; refine gate_guard (by rfl) ?_; refine print_append_row_of (w0 := w7) Value.string (⟨#[]⟩ : ByteArray) w7.heap.size rfl (.tmp 46) (.tmp 47) 22 9 (.string ⟨#[]⟩) 16 rfl Try.underlying22 info9 rfl (by omega) (fun _ => rfl) _ [] xa A1 xa.length k1 rfl rfl HE.out HR1.out HBE.out (by simp) (by simp; omega) ?_; intro vA2 wA2 hoA hbA hgA hatA; simp only [List.nil_append] at hoA; have HOA := Lib.hid hoA; have HBA := Lib.hid hbA; have HR2' := Lib.hid (HR2.out.below hbA); clear hoA hbA hgA hatA) | (at_builtin; refine gate_guard (by rfl) ?_; refine print_append_row_of (w0 := w7) Value.string (⟨#[]⟩ : ByteArray) w7.heap.size rfl (.tmp 48) (.tmp 49) 22 9 (.string ⟨#[]⟩) 16 rfl Try.underlying22 info9 rfl (by omega) (fun _ => rfl) _ xa xb A2 xb.length k2 rfl rfl HOA.out HR2'.out HBA.out HBA.out.size (by omega) ?_; intro vB2 wB2 hoB hbB hgB hatB; rw [← HXS.out] at hoB; obtain ⟨C2, cc2, rfl, hrC⟩ := own_reads_of (d := (⟨#[]⟩ : ByteArray)) hoB; have HRC2 := Lib.hid hrC; have HBB2 := Lib.hid hbB; clear hoB hbB hgB hatB hrC))
      refine (same_yes A3 C2 k3 cc2 xs _ (HR3.out.below HBB2.out) HRC2.out).mono ?_
      rintro e w8 ⟨rfl, hb8⟩
      have HB8 := Lib.hid (bthen HW7.out (bthen HBB2.out hb8))
      clear hb8
      go_wp2_with fail
      go_ret
      exact ⟨rfl, HB8.out⟩
end Go.Proofs.Ytkdkcffeepancaa

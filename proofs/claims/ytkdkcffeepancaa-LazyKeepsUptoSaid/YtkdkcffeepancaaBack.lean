/- The law LazyBack, walked; one goroutine. -/
import Derived.Test.YtkdkcffeepancaaText
import Derived.Test.YtkdkcffeepancaaJoins
namespace Go.Proofs.Ytkdkcffeepancaa
open Go.RowKit Go.Proofs.YtkdkcffeepancaaW.PrintWords Go.Proofs.YtkdkcffeepancaaW.PrintMore

/-- A slice of texts that came in. -/
def InT (w : World) (A : Option Addr) (ts : List ByteArray) : Prop := ReadsOf Value.string (⟨#[]⟩ : ByteArray) w A ts.length ts ∧ mass ts ≤ 1048576
theorem InT.below {w w' : World} {A : Option Addr} {ts : List ByteArray} (h : InT w A ts) (hb : Below w.heap.size w w') : InT w' A ts := ⟨h.1.below hb, h.2⟩
theorem Bytes.start (w : World) : Bytes w w (.slice none 0 0) (encAll []) := ⟨own_nil _ _ _ _, Below.refl _ _⟩
theorem take_snoc {ts : List ByteArray} {k : Nat} (h : k < ts.length) : ts.take (k + 1) = ts.take k ++ [ts.getD k ⟨#[]⟩] := by
  rw [List.take_add_one]
  simp [List.getD, h]
theorem mass_take (ts : List ByteArray) (k : Nat) : mass (ts.take k) ≤ mass ts := by
  have h := mass_append (ts.take k) (ts.drop k)
  rw [List.take_append_drop] at h
  omega
theorem getD_mass {ts : List ByteArray} {k : Nat} (h : k < ts.length) : (ts.getD k ⟨#[]⟩).size + 1 ≤ mass ts := mass_mem ts _ (by
  have : ts.getD k ⟨#[]⟩ = ts[k] := by simp [List.getD, h]
  rw [this]; exact List.getElem_mem h)
theorem enc_take {ts : List ByteArray} {k : Nat} (h : k < ts.length) : encAll (ts.take (k + 1)) = encAll (ts.take k) ++ encText (ts.getD k ⟨#[]⟩) := by
  rw [take_snoc h, encAll_snoc]

set_option maxRecDepth 100000 in
set_option maxHeartbeats 2000000 in
theorem back (A : Option Addr) (c : Nat) (ts : List ByteArray) (w : World) (ht : InT w A ts) :
    Calls Try.prog 3 #[.slice A ts.length c] w fun e w' => e = .returned (.bool true) ∧ Below w.heap.size w w' := by
  have HT := Lib.hid ht
  have hlen := ht.1.2.1
  have hmass := ht.2
  clear ht
  go_enter Try.func3, Try.ntmps3
  go_wp2_with fail
  refine (awake_any _).mono ?_
  rintro e w1 ⟨rfl, hb1⟩
  have HT1 := Lib.hid (HT.out.below hb1)
  have HW1 := Lib.hid hb1
  clear hb1 HT
  go_wp2_with fail
  go_loopw [11, 3] (fun i b wr => ∃ k : Nat, k ≤ ts.length ∧ i = .int .i64 k ∧ Bytes w1 wr b (encAll (ts.take k))) (fun i _ _ => ts.length - (intOf i).toNat)
  case atStart => exact ⟨0, by omega, rfl, Bytes.start _⟩
  case round =>
    obtain ⟨k, hk, rfl, hb⟩ := hrel
    have HB := Lib.hid hb
    clear hb
    by_cases hlt : k < ts.length
    · obtain ⟨a, rfl, q⟩ := (HT1.out.1.below HB.out.2).2.2 (by omega)
      have p := q k hlt
      have hs1 := getD_mass hlt
      have hs2 := enc_take hlt
      have hs3 := encAll_length (ts.take k)
      have hs4 := mass_take ts k
      obtain ⟨s, hs⟩ : ∃ s, s = ts.getD k ⟨#[]⟩ := ⟨_, rfl⟩
      rw [← hs] at p hs1 hs2
      have HS := Lib.hid hs2
      clear q hs hs2
      have k0 : (0 : Int) ≤ (k : Int) := by omega
      have k1 : (k : Int) < (ts.length : Int) := by omega
      go_wp2_with fail
      refine (text_enc _ _ s w1 _ HB.out (by omega) (by omega)).mono ?_
      rintro e w2 ⟨v2, rfl, h2⟩
      rw [← HS.out] at h2
      have H2 := Lib.hid h2
      clear h2
      go_wp2_with fail
      go_roundw
      case rel => exact ⟨k + 1, by omega, by go_num, H2.out⟩
      case measure => simp [intOf]; omega
    · obtain rfl : k = ts.length := by omega
      rw [List.take_length] at HB
      have hl := encAll_length ts
      obtain ⟨bs, hbs⟩ : ∃ l, l = encAll ts := ⟨_, rfl⟩
      rw [← hbs] at HB hl
      have hby : IsBytes bs := hbs ▸ encAll_bytes ts (fun s hs => by have := mass_mem ts s hs; omega)
      have hpa : parse bs = some ts := hbs ▸ parse_enc ts (fun s hs => by have := mass_mem ts s hs; omega)
      obtain ⟨A2, c2, rfl, hr2, hn2⟩ := own_in HB.out.1
      have HR2 := Lib.hid hr2
      have HN2 := Lib.hid hn2
      have HBY := Lib.hid hby
      have HPA := Lib.hid hpa
      have HB2 := Lib.hid HB.out.2
      clear hr2 hn2 hby hpa hbs HB
      go_wp2_with fail
      refine (new_any A2 c2 bs _ HR2.out (by omega) HN2.out).mono ?_
      rintro e w4 ⟨lb, rfl, hlb, hf, hb4⟩
      have HF := Lib.hid hf
      have HB4 := Lib.hid hb4
      clear hf hb4
      go_wp2_with fail
      refine (texts_first lb bs _ HF.out HBY.out (by omega)).mono ?_
      rintro e w5 ⟨hd, hc, v, ho, rfl⟩
      have HNT := Lib.hid (NT.of hlb HB4.out hd hc ho)
      have hm := HNT.out.mine
      rw [HPA.out] at hm ⊢
      obtain ⟨A3, c3, rfl, hr3⟩ := own_reads_of (d := (⟨#[]⟩ : ByteArray)) (show w5.ownsRow _ 9 1 v ts.length (encs Value.string ts) from hm)
      have HR3 := Lib.hid hr3
      have HW5 := Lib.hid (bthen HB2.out HNT.out.below)
      have HT5 := Lib.hid (HT1.out.below HW5.out)
      clear hd hc ho hm hr3 HF HB4
      go_wp2_with (first | (refine gate_guard (by rfl) ?_; refine (same_yes A3 A c3 c ts _ HR3.out HT5.out.1).mono ?_; rintro e w6 ⟨rfl, hb6⟩) | (go_at_call 10; refine (same_yes A3 A c3 c ts _ HR3.out HT5.out.1).mono ?_; rintro e w6 ⟨rfl, hb6⟩))
      go_ret
      exact ⟨rfl, bthen HW1.out (bthen HW5.out hb6)⟩
end Go.Proofs.Ytkdkcffeepancaa

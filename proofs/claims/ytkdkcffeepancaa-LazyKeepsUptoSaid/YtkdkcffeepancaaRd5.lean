/- The reader's Text whole, one goroutine. -/
import Derived.Test.YtkdkcffeepancaaRd4
namespace Go.Proofs.Ytkdkcffeepancaa
open Go.RowKit Go.Proofs.YtkdkcffeepancaaW.PrintWords

theorem decNum_facts {bs r : List Int} {n : Int} (hby : IsBytes bs) (h : decNum bs = some (n, r)) : 0 ≤ n ∧ IsBytes r ∧ r.length < bs.length := by
  cases bs with
  | nil => simp [decNum] at h
  | cons f t =>
    have hf := hby f (by simp)
    have ht : IsBytes t := fun x hx => hby x (List.mem_cons_of_mem _ hx)
    simp only [decNum] at h
    split at h
    · simp at h
      obtain ⟨rfl, rfl⟩ := h
      exact ⟨hf.1, ht, by simp⟩
    · split at h
      · cases h
      · split at h
        · cases h
        · simp at h
          obtain ⟨rfl, rfl⟩ := h
          exact ⟨(foldB_bound _ (ht.take _)).1, ht.drop _, by simp; omega⟩

theorem decText_facts {bs s r : List Int} (hby : IsBytes bs) (h : decText bs = some (s, r)) : IsBytes r ∧ r.length < bs.length ∧ s.length + r.length < bs.length := by
  unfold decText at h
  split at h
  · cases h
  · rename_i n t hd
    obtain ⟨h0, h1, h2⟩ := decNum_facts hby hd
    split at h
    · cases h
    · simp at h
      obtain ⟨rfl, rfl⟩ := h
      refine ⟨h1.drop _, by simp; omega, by simp; omega⟩

set_option maxRecDepth 100000 in
set_option maxHeartbeats 1000000 in
theorem text_ok (rb : Nat) (X : Nat → Prop) (bs r : List Int) (m : Nat) (hX : ¬ X rb) (hby : IsBytes bs) (hd : decNum bs = some ((m : Int), r)) (hm : m ≤ r.length) (w : World) (h : RD w rb X bs false) : Calls Try.prog 27 #[.pointer (some ⟨rb, 0, none⟩)] w (TextPost rb X bs w) := by
  have HN := Lib.hid (num_some hd (num_any rb X bs hX hby w h))
  have HD := Lib.hid (show decText bs = some (r.take m, r.drop m) by unfold decText; rw [hd]; simp only []; rw [if_neg (by omega)]; rfl)
  clear hd h
  obtain ⟨i, hi, hsz⟩ := one5
  go_enter Try.func27, Try.ntmps27
  go_wp2_with fail
  refine HN.out.mono ?_
  rintro e w1 ⟨rfl, hr, hc⟩
  obtain ⟨A, c, hb, h1, h2, h3⟩ := hr
  obtain ⟨A', hcut, hrd, hblk⟩ := cut_lo (P := Try.prog) (enc := Value.int .u8) (d := (0 : Int)) 24 5 .u64 Try.underlying24 hi hsz A r.length c m hm h1
  have hhi := cut_hi (P := Try.prog) 24 5 .u64 Try.underlying24 hi hsz A r.length c m (by omega)
  have hcv := conv_str (c := c) (h2.take_ m hm)
  have hr2 := hrd w1 _ h2
  have b0 := hb.cell 0
  have b1 := hb.cell 1
  have f0 := hb.free 0
  simp at b0 b1
  have hlen := h2.2.1
  have t0 : decide (r.length < m) = false := by simpa using hm
  have HB := Lib.hid hb
  have HC := Lib.hid hc
  have HR := Lib.hid hr2
  have HX := Lib.hid h3
  have HK := Lib.hid hblk
  have HL := Lib.hid h1
  clear hb hc h1 h2 h3 hrd hblk hr2
  go_wp2_with fail
  go_ret
  have hch : Chg (fun k => k = rb) w1 (w1.setCell ⟨rb, 0, none⟩ (.slice A' (r.length - m) (c - m))) := (Chg.refl (fun k => k = rb) w1).put rb 0 (.inl rfl) _
  exact TextPost.some_ HD.out ⟨rfl, ⟨A', c - m, by have := HB.out.set 0 (.slice A' (r.length - m) (c - m)); simpa using this, by have := HL.out; simp; omega, by have := hch.reads HR.out (fun a ha e => hX (e ▸ HK.out X HX.out a ha)); simpa using this, HK.out X HX.out⟩, HC.out.trans hch (fun _ _ h => h)⟩

theorem text_any (rb : Nat) (X : Nat → Prop) (bs : List Int) (hX : ¬ X rb) (hby : IsBytes bs) (w : World) (h : RD w rb X bs false) : Calls Try.prog 27 #[.pointer (some ⟨rb, 0, none⟩)] w (TextPost rb X bs w) := by
  cases hd : decNum bs with
  | none => exact text_bad rb X bs hX hby hd w h
  | some p =>
    obtain ⟨n, r⟩ := p
    obtain ⟨h0, _, _⟩ := decNum_facts hby hd
    obtain ⟨m, rfl⟩ := Int.eq_ofNat_of_zero_le h0
    by_cases hm : (r.length : Int) < m
    · exact text_long rb X bs r _ hX hby hd hm w h
    · exact text_ok rb X bs r m hX hby hd (by omega) w h
end Go.Proofs.Ytkdkcffeepancaa

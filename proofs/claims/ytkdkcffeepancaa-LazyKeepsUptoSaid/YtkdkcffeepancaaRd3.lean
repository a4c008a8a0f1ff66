/- The reader's Number at a wide number, one goroutine. -/
import Derived.Test.YtkdkcffeepancaaRd2
import Derived.Laws.Bits64b
namespace Go.Proofs.Ytkdkcffeepancaa
open Go.RowKit Go.Proofs.YtkdkcffeepancaaW.PrintWords

theorem or_byte (a c : Int) (ha : 0 ≤ a) (hl : a * 256 < 18446744073709551616) (hc : 0 ≤ c) (hc2 : c ≤ 255) : bits .or .u64 (IntKind.u64.wrap (a * 256)) (IntKind.u64.wrap c) = a * 256 + c := by
  obtain ⟨x, rfl⟩ := Int.eq_ofNat_of_zero_le ha
  obtain ⟨y, rfl⟩ := Int.eq_ofNat_of_zero_le hc
  rw [IntKind.wrap_u64, IntKind.wrap_u64, Int.emod_eq_of_lt (by omega) hl, Int.emod_eq_of_lt (by omega) (by omega)]
  have h := bits_or_u64_nat (x * 256) y (by omega) (by omega)
  have e : (x * 256 ||| y) = x * 256 + y := by
    have h8 := Nat.shiftLeft_add_eq_or_of_lt (i := 8) (b := y) (by omega) x
    rw [Nat.shiftLeft_eq, show 2 ^ 8 = 256 from rfl] at h8
    exact h8.symm
  rw [e] at h
  have e2 : ((x * 256 : Nat) : Int) = (x : Int) * 256 := by omega
  rw [e2] at h
  rw [h, Int.natCast_add, e2]
theorem fold_step (m : List Int) (hb : IsBytes m) (h8 : m.length ≤ 8) (j : Nat) (hj : j < m.length) (c : Int) (hc : m[j]? = some c) :
    bits .or .u64 (IntKind.u64.wrap (foldB (m.take j) * 256)) (IntKind.u64.wrap c) = foldB (m.take (j + 1)) := by
  have hbd := foldB_bound (m.take j) (hb.take j)
  have hlen : (m.take j).length = j := by rw [List.length_take]; omega
  rw [hlen] at hbd
  have h7 : (256 : Int) ^ j ≤ 256 ^ 7 := by
    have hj7 : j = 0 ∨ j = 1 ∨ j = 2 ∨ j = 3 ∨ j = 4 ∨ j = 5 ∨ j = 6 ∨ j = 7 := by omega
    rcases hj7 with rfl | rfl | rfl | rfl | rfl | rfl | rfl | rfl <;> decide
  have hcb := hb c (List.mem_of_getElem? hc)
  rw [or_byte _ _ hbd.1 (by have : (256 : Int) ^ 7 = 72057594037927936 := by decide
                            omega) hcb.1 hcb.2, List.take_add_one, hc]
  simp only [Option.toList_some, foldB_snoc]

set_option maxRecDepth 100000 in
set_option maxHeartbeats 1000000 in
theorem num_short (rb : Nat) (X : Nat → Prop) (f : Int) (r : List Int) (k : Nat) (hk : f - 247 = (k : Int)) (hk1 : 1 ≤ k) (hk8 : k ≤ 8) (hs : r.length < k) (w : World) (h : RD w rb X (f :: r) false) : Calls Try.prog 47 #[.pointer (some ⟨rb, 0, none⟩)] w (NumPost rb X (f :: r) w) := by
  have hd : decNum (f :: r) = none := by
    simp only [decNum]
    rw [if_neg (by omega), if_pos (by rw [hk]; omega)]
  obtain ⟨A, c, hb, hc, hr, hA⟩ := h
  obtain ⟨a, rfl, hcell⟩ := hr.2.2 (by simp)
  have h0 := hcell 0 (by simp)
  obtain ⟨b, off, sp⟩ := a
  obtain rfl : sp = none := by simpa [Addr.add] using World.cell?_spot h0
  simp [Addr.add] at h0
  have c0 := hb.cell 0
  have c1 := hb.cell 1
  simp at c0 c1
  have hf0 : 0 ≤ f := by omega
  have hf1 : f ≤ 255 := by omega
  have t0 : decide (f < 248) = false := by simp; omega
  have t1 : decide (r.length < k) = true := by simpa using hs
  have hne : ((r.length : Int) + 1 == 0) = false := by simp; omega
  have hlen := hr.2.1
  have HB := Lib.hid hb
  have HD := Lib.hid hd
  clear hb hr hA hcell hc hd
  go_enter Try.func47, Try.ntmps47
  go_wp2_with (go_at_call 48; refine (fail_any rb _ _ _ HB.out).mono ?_; rintro e w' ⟨rfl, rfl⟩)
  go_ret
  exact NumPost.none_ HD.out ⟨rfl, failed_RD HB.out X⟩

set_option maxRecDepth 100000 in
set_option maxHeartbeats 1000000 in
theorem num_wide (rb : Nat) (X : Nat → Prop) (f : Int) (r : List Int) (k : Nat) (hX : ¬ X rb) (hk : f - 247 = (k : Int)) (hk1 : 1 ≤ k) (hk8 : k ≤ 8) (hs : k ≤ r.length) (hby : IsBytes r) (w : World) (h : RD w rb X (f :: r) false) : Calls Try.prog 47 #[.pointer (some ⟨rb, 0, none⟩)] w (NumPost rb X (f :: r) w) := by
  obtain ⟨A, c, hb, hc, hr, hA⟩ := h
  obtain ⟨i, hi, hsz⟩ := one5
  obtain ⟨A', hcut, hrd, hblk⟩ := cut_lo (P := Try.prog) (enc := Value.int .u8) (d := (0 : Int)) 24 5 .i64 Try.underlying24 hi hsz A (f :: r).length c (1 + k) (by simp; omega) hc
  obtain ⟨B', hmid, hmrd, hmblk⟩ := cut_mid (P := Try.prog) (enc := Value.int .u8) (d := (0 : Int)) 24 5 .i64 .i64 Try.underlying24 hi hsz A (f :: r).length c 1 (1 + k) (by omega) (by simp; omega) hc
  have hr' := hrd w _ hr
  have hm' := hmrd w _ hr
  obtain ⟨a, rfl, hcell⟩ := hr.2.2 (by simp)
  have h0 := hcell 0 (by simp)
  have h1 := hcell 1 (by simp; omega)
  obtain ⟨b, off, sp⟩ := a
  obtain rfl : sp = none := by simpa [Addr.add] using World.cell?_spot h0
  simp [Addr.add] at h0 h1
  have c0 := hb.cell 0
  have c1 := hb.cell 1
  have f0 := hb.free 0
  simp at c0 c1
  simp only [List.length_cons] at c0 hcut hmid
  have e1 : ((1 + k : Nat) : Int) = 1 + (k : Int) := by omega
  have e2 : r.length + 1 - (1 + k) = r.length - k := by omega
  have e3 : 1 + k - 1 = k := by omega
  rw [e1, e2] at hcut
  have hmid1 : ∀ W : World, (Instr.slice 24 (.slice (some ⟨b, off, none⟩) (r.length + 1) c) (some (.int .i64 1)) (some (.int .i64 (1 + (k : Int)))) none).run Try.prog W = .ok (.slice B' k (c - 1)) W := by rw [e1, e3] at hmid; exact hmid
  have e4 : List.drop 1 (List.take (1 + k) (f :: r)) = r.take k := by rw [Nat.add_comm]; simp
  have e5 : List.drop (1 + k) (f :: r) = r.drop k := by rw [Nat.add_comm]; simp
  have e6 : (f :: r).length - (1 + k) = r.length - k := by simp; omega
  rw [e4, e3] at hm'
  rw [e5, e6] at hr'
  obtain ⟨mb, hB, hmc⟩ := hm'.2.2 (by omega)
  subst hB
  obtain ⟨b2, off2, sp2⟩ := mb
  have g0 := hmc 0 (by omega)
  obtain rfl : sp2 = none := by simpa [Addr.add] using World.cell?_spot g0
  have hlen := hr.2.1
  simp at hlen
  have hf0 : 0 ≤ f := by omega
  have hf1 : f ≤ 255 := by omega
  have t0 : decide (f < 248) = false := by simp; omega
  have t1 : decide (r.length < k) = false := by simpa using hs
  have hne : ((r.length : Int) + 1 == 0) = false := by simp; omega
  have k1 : (k : Int) ≤ 8 := by omega
  have k2 : (1 : Int) ≤ k := by omega
  have HMC := Lib.hid (show ∀ j, j < k → w.cell? ⟨b2, off2 + j, none⟩ = some (.int .u8 ((r.take k).getD j 0)) from fun j hj => by have := hmc j hj; rwa [show (⟨b2, off2, none⟩ : Addr).add j = ⟨b2, off2 + j, none⟩ from Go.WideShapes.add_plain b2 off2 j] at this)
  have HB := Lib.hid hb
  have HR := Lib.hid hr'
  have HX := Lib.hid hA
  have HK := Lib.hid hblk
  have HC := Lib.hid hc
  have HBY := Lib.hid hby
  clear hb hrd hr' hr hA hblk hcell hc e1 e2 e3 e4 e5 e6 hmid hmrd hmblk hm' g0 hmc hby
  go_enter Try.func47, Try.ntmps47
  go_wp2_with fail
  go_loop [5, 63] (fun n i => ∃ j : Nat, j ≤ k ∧ i = .int .i64 j ∧ n = .int .u64 (foldB ((r.take k).take j))) (fun _ i => k - (intOf i).toNat)
  case atStart => exact ⟨0, by omega, rfl, by simp [foldB]⟩
  case round =>
    obtain ⟨j, hj, rfl, rfl⟩ := hrel
    by_cases hjk : j < k
    · have hcj := HMC.out j hjk
      have j0 : (0 : Int) ≤ (j : Int) := by omega
      have j1 : (j : Int) < (k : Int) := by omega
      go_wp2_with fail
      go_round
      case rel =>
        refine ⟨j + 1, by omega, by go_num, ?_⟩
        have hm : (r.take k).length = k := by rw [List.length_take]; omega
        rw [fold_step (r.take k) (HBY.out.take k) (by omega) j (by omega) r[j] (by rw [List.getElem?_take_of_lt hjk]; exact List.getElem?_eq_getElem (by omega))]
      case measure => simp [intOf]; omega
    · obtain rfl : j = k := by omega
      have ett : List.take j (List.take j r) = List.take j r := by rw [List.take_take, Nat.min_self]
      rw [ett]
      clear ett
      have hbd := foldB_bound (r.take j) (HBY.out.take j)
      have hml : (r.take j).length = j := by rw [List.length_take]; omega
      have HBD := Lib.hid hbd
      clear hbd
      by_cases hn : foldB (r.take j) < 248
      · have t2 : decide (foldB (r.take j) < 248) = true := by simpa using hn
        have hd := Lib.hid (show decNum (f :: r) = none by
          simp only [decNum]
          rw [if_neg (by omega), if_neg (by rw [hk]; omega), if_pos (by rw [hk]; exact .inl hn)])
        go_wp2_with (go_at_call 48; refine (fail_any rb _ _ _ HB.out).mono ?_; rintro e w' ⟨rfl, rfl⟩)
        go_ret
        exact NumPost.none_ hd.out ⟨rfl, failed_RD HB.out X⟩
      · have t2 : decide (foldB (r.take j) < 248) = false := by simpa using hn
        have t3 : (1 : Int) < (r.length : Int) + 1 := by omega
        have hr0 : r[0]?.getD 0 = r.getD 0 0 := by simp [List.getD_eq_getElem?_getD]
        rw [hr0] at h1
        clear hr0
        obtain ⟨x0, hx0⟩ : ∃ x, x = r.getD 0 0 := ⟨_, rfl⟩
        rw [← hx0] at h1
        have HX0 := Lib.hid hx0
        clear hx0
        by_cases hz : x0 = 0
        · have t4 : (x0 == 0) = true := by simpa using hz
          have hd := Lib.hid (show decNum (f :: r) = none by
            simp only [decNum]
            rw [if_neg (by omega), if_neg (by rw [hk]; omega), if_pos (.inr (HX0.out ▸ hz))])
          clear hz
          go_wp2_with (go_at_call 48; refine (fail_any rb _ _ _ HB.out).mono ?_; rintro e w' ⟨rfl, rfl⟩)
          go_ret
          exact NumPost.none_ hd.out ⟨rfl, failed_RD HB.out X⟩
        · have t4 : (x0 == 0) = false := by simpa using hz
          have hd := Lib.hid (show decNum (f :: r) = some (foldB (r.take j), r.drop j) by
            simp only [decNum]
            rw [if_neg (by omega), if_neg (by rw [hk]; omega), if_neg (by rw [hk]; simp only [Int.toNat_natCast]; exact fun h => h.elim hn (fun e => hz (HX0.out.trans e))), hk]
            rfl)
          clear hz
          go_wp2_with fail
          go_ret
          have hch : Chg (fun k => k = rb) w (w.setCell ⟨rb, 0, none⟩ (.slice A' (r.length - j) (c - (1 + j)))) := (Chg.refl (fun k => k = rb) w).put rb 0 (.inl rfl) _
          exact NumPost.some_ hd.out ⟨rfl, ⟨A', c - (1 + j), by have := HB.out.set 0 (.slice A' (r.length - j) (c - (1 + j))); simpa using this, by have := HC.out; simp at this ⊢; omega, by have := hch.reads HR.out (fun a ha e => hX (e ▸ HK.out X HX.out a ha)); simpa using this, HK.out X HX.out⟩, hch⟩
end Go.Proofs.Ytkdkcffeepancaa

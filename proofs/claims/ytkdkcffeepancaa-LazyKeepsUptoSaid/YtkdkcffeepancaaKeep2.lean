/- The law LazyKeeps, walked; one goroutine. -/
import Derived.Test.YtkdkcffeepancaaKeep1
namespace Go.Proofs.Ytkdkcffeepancaa
open Go.RowKit Go.Proofs.YtkdkcffeepancaaW.PrintWords Go.Proofs.YtkdkcffeepancaaW.PrintMore

set_option maxRecDepth 100000 in
set_option maxHeartbeats 4000000 in
theorem keeps (A : Option Addr) (c : Nat) (ts : List ByteArray) (w : World) (ht : InT w A ts) :
    Calls Try.prog 5 #[.slice A ts.length c] w fun e w' => e = .returned (.bool true) ∧ Below w.heap.size w w' := by
  have HT := Lib.hid ht
  have hlen := ht.1.2.1
  have hmass := ht.2
  clear ht
  go_enter Try.func5, Try.ntmps5
  go_wp2_with fail
  refine (awake_any _).mono ?_
  rintro e w1 ⟨rfl, hb1⟩
  have HT1 := Lib.hid (HT.out.below hb1)
  have HW1 := Lib.hid hb1
  clear hb1 HT
  go_wp2_with fail
  go_loopw [21, 3] (fun i b wr => ∃ k : Nat, k ≤ ts.length ∧ i = .int .i64 k ∧ Bytes w1 wr b (encAll (ts.take k))) (fun i _ _ => ts.length - (intOf i).toNat)
  case atStart => exact ⟨0, by omega, rfl, Bytes.start _⟩
  case round =>
    obtain ⟨k, hk, rfl, hb⟩ := hrel
    have HB := Lib.hid hb
    clear hb
    by_cases hlt : k < ts.length
    · obtain ⟨a, rfl, q⟩ := (HT1.out.1.below HB.out.2).2.2 (by omega)
      have p := q k hlt
      have hs1 := getD_mass hlt
      have hs2 := enc_take hlt
      have hs3 := encAll_length (ts.take k)
      have hs4 := mass_take ts k
      obtain ⟨s, hs⟩ : ∃ s, s = ts.getD k ⟨#[]⟩ := ⟨_, rfl⟩
      rw [← hs] at p hs1 hs2
      have HS := Lib.hid hs2
      clear q hs hs2
      have k0 : (0 : Int) ≤ (k : Int) := by omega
      have k1 : (k : Int) < (ts.length : Int) := by omega
      go_wp2_with fail
      refine (text_enc _ _ s w1 _ HB.out (by omega) (by omega)).mono ?_
      rintro e w2 ⟨v2, rfl, h2⟩
      rw [← HS.out] at h2
      have H2 := Lib.hid h2
      clear h2
      go_wp2_with fail
      go_roundw
      case rel => exact ⟨k + 1, by omega, by go_num, H2.out⟩
      case measure => simp [intOf]; omega
    · obtain rfl : k = ts.length := by omega
      rw [List.take_length] at HB
      have hl := encAll_length ts
      obtain ⟨bs, hbs⟩ : ∃ l, l = encAll ts := ⟨_, rfl⟩
      rw [← hbs] at HB hl
      have hby : IsBytes bs := hbs ▸ encAll_bytes ts (fun s hs => by have := mass_mem ts s hs; omega)
      have hpa : parse bs = some ts := hbs ▸ parse_enc ts (fun s hs => by have := mass_mem ts s hs; omega)
      obtain ⟨A2, c2, hv2, hr2, hn2⟩ := own_in HB.out.1
      obtain ⟨A2', c2', hv2', hrow⟩ := Rowed.of_own HB.out.1
      subst hv2
      obtain ⟨rfl, _, rfl⟩ := by simpa using hv2'
      have HR2 := Lib.hid hr2
      have HN2 := Lib.hid hn2
      have HBY := Lib.hid hby
      have HPA := Lib.hid hpa
      have HB2 := Lib.hid HB.out.2
      have HROW := Lib.hid hrow
      clear hr2 hn2 hby hpa hbs HB hrow hv2'
      go_wp2_with fail
      refine (new_from A2 c2 bs _ HR2.out (by omega) HN2.out).mono ?_
      rintro e w4 ⟨lb, rfl, hf, hb4⟩
      have HF := Lib.hid hf
      have HB4 := Lib.hid hb4
      have HROW4 := Lib.hid (HROW.out.below hb4)
      have HLT := Lib.hid (HROW.out.lt)
      have hsz := HB2.out.size
      have HW4 := Lib.hid (show Below w1.heap.size w1 w4 from HB2.out.trans (hb4.mono hsz))
      obtain ⟨NR, hNR⟩ : ∃ n, n = wr.heap.size := ⟨_, rfl⟩
      rw [← hNR] at HF HLT
      clear hf hb4 HROW
      go_wp2_with fail
      go_loopw [35] (fun i wz => ∃ k : Nat, k ≤ bs.length ∧ i = .int .i64 k ∧ Rowed (Value.int .u8) 5 w1.heap.size wz A2 bs.length ∧ Chg (fun k => w1.heap.size ≤ k ∧ k < NR) w4 wz) (fun i _ => bs.length - (intOf i).toNat)
      case atStart => exact ⟨0, by omega, rfl, HROW4.out, Chg.refl _ _⟩
      case round =>
        obtain ⟨k, hk, rfl, hro, hch⟩ := hrel
        have HCH := Lib.hid hch
        clear hch
        by_cases hlt : k < bs.length
        · obtain ⟨g, y, rfl, hg, hcell, hfr, hnext⟩ := hro.at_ hlt
          have hgl := (HLT.out _ rfl).2
          have HNX := Lib.hid hnext
          clear hro hnext
          have k0 : (0 : Int) ≤ (k : Int) := by omega
          have k1 : (k : Int) < (bs.length : Int) := by omega
          go_wp2_with fail
          go_roundw
          case rel => exact ⟨k + 1, by omega, by go_num, HNX.out _, HCH.out.put g k (.inl ⟨hg, hgl⟩) _⟩
          case measure => simp [intOf]; omega
        · have hfr5 := HF.out.chg (HCH.out.mono (fun k _ hk => hk.2))
          have HW5 := Lib.hid (HW4.out.trans (HCH.out.below (B := w1.heap.size) (fun k hk => hk.1) HW4.out.size))
          have hts := mass_length ts
          obtain ⟨NB, hNB⟩ : ∃ n, n = wr.heap.size := ⟨_, rfl⟩
          have HTX := Lib.hid (texts_apart NB lb bs ts wr HPA.out (by omega) ((read_first lb bs wr hfr5 HBY.out (by omega)).mono fun _ _ q => hNB ▸ q))
          have hlb : NR ≤ lb := by
            obtain ⟨_, _, _, _, _, h⟩ := HF.out
            exact h
          clear hro hfr5 HCH HROW4 HLT HF HB4 HW4
          go_wp2_with fail
          refine HTX.out.mono ?_
          rintro e w6 ⟨raw, tv, v, M, hblk, htv, hlB, htvM, hlM, hMs, hown, hchg, rfl⟩
          obtain ⟨A3, c3, rfl, hrow3⟩ := Rowed.of_own hown
          have HBLK := Lib.hid hblk
          have HTV := Lib.hid htv
          have HTVM := Lib.hid htvM
          have HROW3 := Lib.hid hrow3
          have HW6 := Lib.hid (HW5.out.trans (hchg.below (B := w1.heap.size) (fun k (e : k = lb) => by omega) HW5.out.size))
          have hMw : w1.heap.size ≤ M := Nat.le_trans HW5.out.size hMs
          clear hblk htv htvM hown hchg hrow3 HTX HW5
          go_wp2_with fail
          go_loopw [52] (fun i wy => ∃ k : Nat, k ≤ ts.length ∧ i = .int .i64 k ∧ Rowed Value.string 9 M wy A3 ts.length ∧ Chg (fun k => M ≤ k) w6 wy) (fun i _ => ts.length - (intOf i).toNat)
          case atStart => exact ⟨0, by omega, rfl, HROW3.out, Chg.refl _ _⟩
          case round =>
            obtain ⟨k, hk, rfl, hro, hch⟩ := hrel
            have HCH := Lib.hid hch
            clear hch
            by_cases hlt : k < ts.length
            · obtain ⟨g, y, rfl, hg, hcell, hfr, hnext⟩ := hro.at_ hlt
              have HNX := Lib.hid hnext
              clear hro hnext
              have k0 : (0 : Int) ≤ (k : Int) := by omega
              have k1 : (k : Int) < (ts.length : Int) := by omega
              go_wp2_with fail
              go_roundw
              case rel => exact ⟨k + 1, by omega, by go_num, HNX.out _, HCH.out.put g k (.inl hg) _⟩
              case measure => simp [intOf]; omega
            · have hdone : Done wr NB lb bs := ⟨raw, tv, true, HCH.out.blk HBLK.out (by omega), .inr ⟨ts, HPA.out, rfl, HCH.out.owns HTV.out (fun k hk h => by have := HTVM.out k hk; omega)⟩, hlB⟩
              have HW7 := Lib.hid (HW6.out.trans (HCH.out.below (B := w1.heap.size) (fun k (hk : M ≤ k) => by omega) HW6.out.size))
              have HTA := Lib.hid (texts_again NB lb bs wr hdone HBY.out (by omega))
              clear hro hdone HCH HROW3 HW6 HBLK HTV HTVM
              go_wp2_with fail
              refine HTA.out.mono ?_
              rintro e w8 ⟨hd, hc, v8, ho, rfl⟩
              rw [HPA.out] at ho ⊢
              obtain ⟨A8, c8, rfl, hr8⟩ := own_reads_of (d := (⟨#[]⟩ : ByteArray)) (show w8.ownsRow _ 9 1 v8 ts.length (encs Value.string ts) from ho)
              have HR8 := Lib.hid hr8
              have HW8 := Lib.hid (HW7.out.trans (hc.below (B := w1.heap.size) (fun k (e : k = lb) => by omega) HW7.out.size))
              have HT8 := Lib.hid (HT1.out.below HW8.out)
              clear hd hc ho hr8 HTA HW7
              go_wp2_with (first
                | (go_at_call 9; refine (texts_nil _).mono ?_; rintro e w' ⟨rfl, rfl⟩)
                | (go_at_call 11; refine (at_nil _ _).mono ?_; rintro e w' ⟨rfl, rfl⟩)
                | (go_at_call 10; refine (same_yes A8 A c8 c ts _ HR8.out HT8.out.1).mono ?_; rintro e w9 ⟨rfl, hb9⟩; have HB9 := Lib.hid hb9; clear hb9))
              refine (made_nil _).mono ?_
              rintro e w' ⟨rfl, rfl⟩
              go_wp2_with fail
              refine (together_nil _ _).mono ?_
              rintro e w' ⟨rfl, rfl⟩
              go_wp2_with fail
              go_ret
              refine ⟨rfl, bthen HW1.out (HW8.out.trans ?_)⟩
              have h8 := HW8.out.size
              have h9 := HB9.out.size
              exact ((HB9.out.mono h8).alloc (by omega) _).alloc (by simp; omega) _
end Go.Proofs.Ytkdkcffeepancaa

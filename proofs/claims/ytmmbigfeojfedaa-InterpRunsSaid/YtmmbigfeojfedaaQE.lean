/- The reference's form of a program. -/
import Derived.Test.YtmmbigfeojfedaaForm0
import Derived.Test.YtmmbigfeojfedaaForm2
namespace Go.Proofs.Ytmmbigfeojfedaa.R
open Go.RowKit Go.Proofs.YtmmbigfeojfedaaW.PrintWords

set_option maxRecDepth 100000 in
theorem key_any (s : ByteArray) (w : World) : Calls Try.prog 37 #[.string s] w fun e w' => e = .returned (.bool (keyB s)) ∧ w' = w := by
  by_cases h1 : 1 ≤ s.size
  · have t1 : decide ((1 : Int) ≤ (s.size : Int)) = true := decide_eq_true (by omega)
    have hk : keyB s = decide ((s.size : Int) ≤ 40) := by
      unfold keyB
      by_cases h : s.size ≤ 40
      · rw [decide_eq_true ⟨h1, h⟩, decide_eq_true (by omega)]
      · rw [decide_eq_false (fun x => h x.2), decide_eq_false (by omega)]
    rw [hk]
    clear hk
    go_enter Try.func37, Try.ntmps37
    go_wp2
    go_ret
    exact ⟨rfl, rfl⟩
  · have t1 : decide ((1 : Int) ≤ (s.size : Int)) = false := decide_eq_false (by omega)
    have hk : keyB s = false := decide_eq_false (fun x => h1 x.1)
    rw [hk]
    clear hk
    go_enter Try.func37, Try.ntmps37
    go_wp2
    go_ret
    exact ⟨rfl, rfl⟩

set_option maxRecDepth 100000 in
theorem letter_any (f : ByteArray) (sr kd : Int) (A : Option Addr) (n m : Nat) (w : World) :
    Calls Try.prog 22 #[.agg #[.string f, .int .u64 sr, .int .i64 kd, .slice A n m]] w fun e w' => e = .returned (.bool (letterB f n)) ∧ w' = w.alloc (.cells #[.string f, .int .u64 sr, .int .i64 kd, .slice A n m] 30) := by
  by_cases h0 : f.size ≤ 40
  · have t0 : decide ((f.size : Int) ≤ 40) = true := decide_eq_true (by omega)
    have hk : letterB f n = decide ((n : Int) ≤ 4) := by
      unfold letterB
      by_cases h : n ≤ 4
      · rw [decide_eq_true ⟨h0, h⟩, decide_eq_true (by omega)]
      · rw [decide_eq_false (fun x => h x.2), decide_eq_false (by omega)]
    rw [hk]
    clear hk
    go_enter Try.func22, Try.ntmps22
    go_wp2
    go_ret
    exact ⟨rfl, rfl⟩
  · have t0 : decide ((f.size : Int) ≤ 40) = false := decide_eq_false (by omega)
    have hk : letterB f n = false := decide_eq_false (fun x => h0 x.1)
    rw [hk]
    clear hk
    go_enter Try.func22, Try.ntmps22
    go_wp2
    go_ret
    exact ⟨rfl, rfl⟩
end Go.Proofs.Ytmmbigfeojfedaa.R
namespace Go.Proofs.Ytmmbigfeojfedaa.R
open Go.RowKit Go.Proofs.YtmmbigfeojfedaaW.PrintWords

def wordS (k : Nat) : ByteArray := ([⟨#[104, 97, 108, 116]⟩, ⟨#[112, 117, 115, 104]⟩, ⟨#[108, 111, 97, 100]⟩, ⟨#[115, 116, 111, 114, 101]⟩, ⟨#[97, 114, 103]⟩, ⟨#[107, 105, 110, 100]⟩, ⟨#[97, 100, 100]⟩, ⟨#[115, 117, 98]⟩, ⟨#[109, 117, 108]⟩, ⟨#[108, 101, 115, 115]⟩, ⟨#[101, 113, 117, 97, 108]⟩, ⟨#[110, 111, 116]⟩, ⟨#[100, 117, 112]⟩, ⟨#[100, 114, 111, 112]⟩, ⟨#[115, 119, 97, 112]⟩, ⟨#[106, 117, 109, 112]⟩, ⟨#[106, 117, 109, 112, 122]⟩, ⟨#[115, 101, 110, 100]⟩, ⟨#[114, 101, 112, 108, 121]⟩, ⟨#[114, 101, 109, 105, 110, 100]⟩, ⟨#[99, 97, 110, 99, 101, 108]⟩, ⟨#[102, 97, 105, 108]⟩, ⟨#[110, 111, 119]⟩, ⟨#[115, 101, 114, 105, 97, 108]⟩] : List ByteArray).getD k ⟨#[]⟩
set_option maxRecDepth 100000 in
set_option maxHeartbeats 4000000 in
theorem word_in (k : Nat) (hk : k < 24) (w : World) : (wordS k).toList.isEmpty = false ∧ Calls Try.prog 38 #[.int .i64 (k : Int)] w fun e w' => e = .returned (.tuple #[.string (wordS k), .int .i64 (kindOf k)]) ∧ w' = w := by
  match k, hk with
  | 0, _ | 1, _ | 2, _ | 3, _ | 4, _ | 5, _ | 6, _ | 7, _ | 8, _ | 9, _ | 10, _ | 11, _ | 12, _ | 13, _ | 14, _ | 15, _ | 16, _ | 17, _ | 18, _ | 19, _ | 20, _ | 21, _ | 22, _ | 23, _ =>
    refine ⟨str_ne (fun h => absurd (congrArg ByteArray.size h) (by decide)), ?_⟩
    go_enter Try.func38, Try.ntmps38
    go_wp2
    refine bodyPost_ret (results_tmp2 rfl _ _ _) rfl ?_
    exact ⟨rfl, rfl⟩
  | n + 24, h => exact absurd h (by omega)
set_option maxRecDepth 100000 in
set_option maxHeartbeats 4000000 in
theorem word_out (op : Int) (h : ¬ (0 ≤ op ∧ op < 24)) (w : World) : Calls Try.prog 38 #[.int .i64 op] w fun e w' => e = .returned (.tuple #[.string ⟨#[]⟩, .int .i64 0]) ∧ w' = w := by
  have t0 : (op == 0) = false := beq_eq_false_iff_ne.mpr (by omega)
  have t1 : (op == 1) = false := beq_eq_false_iff_ne.mpr (by omega)
  have t2 : (op == 2) = false := beq_eq_false_iff_ne.mpr (by omega)
  have t3 : (op == 3) = false := beq_eq_false_iff_ne.mpr (by omega)
  have t4 : (op == 4) = false := beq_eq_false_iff_ne.mpr (by omega)
  have t5 : (op == 5) = false := beq_eq_false_iff_ne.mpr (by omega)
  have t6 : (op == 6) = false := beq_eq_false_iff_ne.mpr (by omega)
  have t7 : (op == 7) = false := beq_eq_false_iff_ne.mpr (by omega)
  have t8 : (op == 8) = false := beq_eq_false_iff_ne.mpr (by omega)
  have t9 : (op == 9) = false := beq_eq_false_iff_ne.mpr (by omega)
  have t10 : (op == 10) = false := beq_eq_false_iff_ne.mpr (by omega)
  have t11 : (op == 11) = false := beq_eq_false_iff_ne.mpr (by omega)
  have t12 : (op == 12) = false := beq_eq_false_iff_ne.mpr (by omega)
  have t13 : (op == 13) = false := beq_eq_false_iff_ne.mpr (by omega)
  have t14 : (op == 14) = false := beq_eq_false_iff_ne.mpr (by omega)
  have t15 : (op == 15) = false := beq_eq_false_iff_ne.mpr (by omega)
  have t16 : (op == 16) = false := beq_eq_false_iff_ne.mpr (by omega)
  have t17 : (op == 17) = false := beq_eq_false_iff_ne.mpr (by omega)
  have t18 : (op == 18) = false := beq_eq_false_iff_ne.mpr (by omega)
  have t19 : (op == 19) = false := beq_eq_false_iff_ne.mpr (by omega)
  have t20 : (op == 20) = false := beq_eq_false_iff_ne.mpr (by omega)
  have t21 : (op == 21) = false := beq_eq_false_iff_ne.mpr (by omega)
  have t22 : (op == 22) = false := beq_eq_false_iff_ne.mpr (by omega)
  have t23 : (op == 23) = false := beq_eq_false_iff_ne.mpr (by omega)
  go_enter Try.func38, Try.ntmps38
  go_wp2
  refine bodyPost_ret (results_tmp2 rfl _ _ _) rfl ?_
  exact ⟨rfl, rfl⟩
end Go.Proofs.Ytmmbigfeojfedaa.R
namespace Go.Proofs.Ytmmbigfeojfedaa.R
open Go.RowKit Go.Proofs.YtmmbigfeojfedaaW.PrintWords

set_option maxRecDepth 100000 in
set_option maxHeartbeats 4000000 in
theorem formed_any (nA kA : Option Addr) (nC kC : Nat) (NL : List ByteArray) (CL : List (Int × Int)) (w : World) (hN : ReadsOf Value.string (⟨#[]⟩ : ByteArray) w nA NL.length NL) (hC : IsCode w kA CL) (hcl : CL.length ≤ 1000) :
    Calls Try.prog 21 #[.agg #[.slice nA NL.length nC, .slice kA CL.length kC]] w fun e w' => e = .returned (.bool (formedB NL CL)) ∧ Below w.heap.size w w' := by
  have HN := Lib.hid hN
  have HC := Lib.hid hC
  obtain ⟨R, hR⟩ : ∃ R, R = formedB NL CL := ⟨_, rfl⟩
  rw [← hR]
  have HR := Lib.hid hR
  have hnl := hN.2.1
  clear hN hC hR
  by_cases h1 : NL.length ≤ 8
  · have d1 : decide ((NL.length : Int) > 8) = false := decide_eq_false (by omega)
    have d1' : decide ((8 : Int) < (NL.length : Int)) = false := decide_eq_false (by omega)
    by_cases h2 : CL.length ≤ 200
    · have d2 : decide ((CL.length : Int) > 200) = false := decide_eq_false (by omega)
      have d2' : decide ((200 : Int) < (CL.length : Int)) = false := decide_eq_false (by omega)
      have HR2 := Lib.hid (show R = (NL.all keyB && CL.all (instrB NL.length CL.length)) by rw [HR.out, formedB, decide_eq_true h1, decide_eq_true h2]; rfl)
      have hbk0 : Blk (w.alloc (.cells #[.slice nA NL.length nC, .slice kA CL.length kC] 25)) w.heap.size #[.slice nA NL.length nC, .slice kA CL.length kC] 25 := Blk.new _ _ _
      have HBK := Lib.hid hbk0
      clear hbk0 HR
      go_enter Try.func21, Try.ntmps21
      go_wp2_with fail
      go_loopw [21] (fun i wr => ∃ k : Nat, k ≤ NL.length ∧ i = .int .i64 k ∧ Below w.heap.size w wr ∧ Blk wr w.heap.size #[.slice nA NL.length nC, .slice kA CL.length kC] 25 ∧ ∀ j, j < k → keyB (NL.getD j ⟨#[]⟩) = true) (fun i _ => NL.length - (intOf i).toNat)
      case atStart => exact ⟨0, by omega, rfl, (Below.refl _ _).alloc (Nat.le_refl _) _, HBK.out, fun j hj => absurd hj (by omega)⟩
      case round =>
        obtain ⟨k, hk, rfl, hb, hbk, hall⟩ := hrel
        have HB := Lib.hid hb
        have HBK2 := Lib.hid hbk
        have HA := Lib.hid hall
        clear hb hbk hall HBK
        by_cases hlt : k < NL.length
        · obtain ⟨a, rfl, q⟩ := (HN.out.below HB.out).2.2 (by omega)
          have p := q k hlt
          obtain ⟨s, hs⟩ : ∃ s, s = NL.getD k ⟨#[]⟩ := ⟨_, rfl⟩
          rw [← hs] at p
          have HS := Lib.hid hs
          clear q hs
          have e0 := HBK2.out.cell 0
          simp at e0
          have k0 : (0 : Int) ≤ (k : Int) := by omega
          have k1 : (k : Int) < (NL.length : Int) := by omega
          have HKY := Lib.hid (key_any s)
          cases hkb : keyB s with
          | true =>
            rw [hkb] at HKY
            go_wp2_with fail
            refine (HKY.out _).mono ?_
            rintro e w' ⟨rfl, rfl⟩
            go_wp2_with fail
            go_roundw
            case rel => exact ⟨k + 1, by omega, by go_num, HB.out, HBK2.out, fun j hj => by
              rcases Nat.lt_or_ge j k with h | h
              · exact HA.out j h
              · obtain rfl : j = k := by omega
                rw [← HS.out]; exact hkb⟩
            case measure => simp [intOf]; omega
          | false =>
            rw [hkb] at HKY
            go_wp2_with fail
            refine (HKY.out _).mono ?_
            rintro e w' ⟨rfl, rfl⟩
            go_wp2_with fail
            go_ret
            refine ⟨?_, HB.out⟩
            rw [HR2.out, not_all (d := ⟨#[]⟩) hlt (by rw [← HS.out]; exact hkb)]
            rfl
        · obtain rfl : k = NL.length := by omega
          have hallN : NL.all keyB = true := all_lt (d := ⟨#[]⟩) HA.out
          have HR3 := Lib.hid (show R = CL.all (instrB NL.length CL.length) by rw [HR2.out, hallN]; rfl)
          have e0 := HBK2.out.cell 0
          have e1 := HBK2.out.cell 1
          simp at e0 e1
          clear hallN HR2 HA
          go_wp2_with fail
          go_loopw [35] (fun i wr => ∃ k : Nat, k ≤ CL.length ∧ i = .int .i64 k ∧ Below w.heap.size w wr ∧ Blk wr w.heap.size #[.slice nA NL.length nC, .slice kA CL.length kC] 25 ∧ ∀ j, j < k → instrB NL.length CL.length (CL.getD j (0, 0)) = true) (fun i _ => CL.length - (intOf i).toNat)
          case atStart => exact ⟨0, by omega, rfl, HB.out, HBK2.out, fun j hj => absurd hj (by omega)⟩
          case round =>
            obtain ⟨k, hk, rfl, hb, hbk, hall⟩ := hrel
            have HB4 := Lib.hid hb
            have HBK4 := Lib.hid hbk
            have HA := Lib.hid hall
            clear hb hbk hall HBK2 HB e0 e1
            by_cases hlt : k < CL.length
            · obtain ⟨b, off, hkA, q⟩ := (HC.out.below HB4.out) (by omega)
              obtain ⟨p0, p1⟩ := q k hlt
              obtain ⟨op, hop⟩ : ∃ op, op = (CL.getD k (0, 0)).1 := ⟨_, rfl⟩
              obtain ⟨arg, harg⟩ : ∃ arg, arg = (CL.getD k (0, 0)).2 := ⟨_, rfl⟩
              rw [← hop] at p0
              rw [← harg] at p1
              have HOP := Lib.hid (show CL.getD k (0, 0) = (op, arg) by rw [hop, harg])
              subst hkA
              have k0 : (0 : Int) ≤ (k : Int) := by omega
              have k1 : (k : Int) < (CL.length : Int) := by omega
              have hsz := HB4.out.size
              clear q hop harg
              have e0 := HBK4.out.cell 0
              have e1 := HBK4.out.cell 1
              simp at e0 e1
              have lb := World.block_lt_of_cell? wr _ p0
              have lk := HBK4.out.lt
              simp at lb
              have HAL := Lib.hid (show ∀ C : Array Value, Below w.heap.size w (wr.alloc (.cells C 2)) ∧ Blk (wr.alloc (.cells C 2)) w.heap.size #[.slice nA NL.length nC, .slice (some ⟨b, off, none⟩) CL.length kC] 25 from fun C => ⟨HB4.out.alloc hsz _, HBK4.out.alloc _⟩)
              by_cases hr : 0 ≤ op ∧ op < 24
              · obtain ⟨hs, HW⟩ := word_in op.toNat (by omega) wr
                obtain ⟨s, hsd⟩ : ∃ s, s = wordS op.toNat := ⟨_, rfl⟩
                rw [← hsd] at hs HW
                rw [show (op.toNat : Int) = op by omega] at HW
                have HW := Lib.hid HW
                have hkc := kind_cases op.toNat
                obtain ⟨kd, hkd⟩ : ∃ kd, kd = kindOf op.toNat := ⟨_, rfl⟩
                rw [← hkd] at hkc HW
                have HIN := Lib.hid (show instrB NL.length CL.length (op, arg) = (decide (kd = 1) || (decide (0 ≤ arg) && decide (arg < belowV NL.length CL.length kd))) by rw [hkd, instrB, decide_eq_true hr]; rfl)
                clear hkd hr hsd
                rcases hkc with rfl | rfl | rfl | rfl | rfl | rfl
                · go_wp2_with fail
                  refine HW.out.mono ?_
                  rintro e w6 ⟨rfl, hw6⟩
                  subst w6
                  by_cases ha : arg < 0
                  · have d3 : decide (arg < 0) = true := decide_eq_true ha
                    go_wp2_with fail
                    go_ret
                    refine ⟨?_, (HAL.out _).1⟩
                    rw [HR3.out, not_all (d := (0, 0)) hlt (by rw [HOP.out, HIN.out, decide_eq_false (by omega : ¬ (0 ≤ arg))]; rfl)]
                    rfl
                  · have d3 : decide (arg < 0) = false := decide_eq_false ha
                    by_cases hbB : 0 < arg
                    · have d4 : decide (0 < arg) = true := decide_eq_true hbB
                      go_wp2_with fail
                      go_ret
                      refine ⟨?_, (HAL.out _).1⟩
                      rw [HR3.out, not_all (d := (0, 0)) hlt (by rw [HOP.out, HIN.out, decide_eq_false (by simp [belowV]; omega : ¬ arg < belowV NL.length CL.length 0)]; simp)]
                      rfl
                    · have d4 : decide (0 < arg) = false := decide_eq_false hbB
                      go_wp2_with fail
                      go_roundw
                      case rel => exact ⟨k + 1, by omega, by go_num, (HAL.out _).1, (HAL.out _).2, fun j hj => by
                        rcases Nat.lt_or_ge j k with h | h
                        · exact HA.out j h
                        · obtain rfl : j = k := by omega
                          rw [HOP.out, HIN.out, decide_eq_true (by omega : 0 ≤ arg), decide_eq_true (by simp [belowV]; omega : arg < belowV NL.length CL.length 0)]; simp⟩
                      case measure => simp [intOf]; omega
                · go_wp2_with fail
                  refine HW.out.mono ?_
                  rintro e w6 ⟨rfl, hw6⟩
                  subst w6
                  go_wp2_with fail
                  go_roundw
                  case rel => exact ⟨k + 1, by omega, by go_num, (HAL.out _).1, (HAL.out _).2, fun j hj => by
                    rcases Nat.lt_or_ge j k with h | h
                    · exact HA.out j h
                    · obtain rfl : j = k := by omega
                      rw [HOP.out, HIN.out]; rfl⟩
                  case measure => simp [intOf]; omega
                · go_wp2_with fail
                  refine HW.out.mono ?_
                  rintro e w6 ⟨rfl, hw6⟩
                  subst w6
                  by_cases ha : arg < 0
                  · have d3 : decide (arg < 0) = true := decide_eq_true ha
                    go_wp2_with fail
                    go_ret
                    refine ⟨?_, (HAL.out _).1⟩
                    rw [HR3.out, not_all (d := (0, 0)) hlt (by rw [HOP.out, HIN.out, decide_eq_false (by omega : ¬ (0 ≤ arg))]; rfl)]
                    rfl
                  · have d3 : decide (arg < 0) = false := decide_eq_false ha
                    by_cases hbB : 7 < arg
                    · have d4 : decide (7 < arg) = true := decide_eq_true hbB
                      go_wp2_with fail
                      go_ret
                      refine ⟨?_, (HAL.out _).1⟩
                      rw [HR3.out, not_all (d := (0, 0)) hlt (by rw [HOP.out, HIN.out, decide_eq_false (by simp [belowV]; omega : ¬ arg < belowV NL.length CL.length 2)]; simp)]
                      rfl
                    · have d4 : decide (7 < arg) = false := decide_eq_false hbB
                      go_wp2_with fail
                      go_roundw
                      case rel => exact ⟨k + 1, by omega, by go_num, (HAL.out _).1, (HAL.out _).2, fun j hj => by
                        rcases Nat.lt_or_ge j k with h | h
                        · exact HA.out j h
                        · obtain rfl : j = k := by omega
                          rw [HOP.out, HIN.out, decide_eq_true (by omega : 0 ≤ arg), decide_eq_true (by simp [belowV]; omega : arg < belowV NL.length CL.length 2)]; simp⟩
                      case measure => simp [intOf]; omega
                · go_wp2_with fail
                  refine HW.out.mono ?_
                  rintro e w6 ⟨rfl, hw6⟩
                  subst w6
                  by_cases ha : arg < 0
                  · have d3 : decide (arg < 0) = true := decide_eq_true ha
                    go_wp2_with fail
                    go_ret
                    refine ⟨?_, (HAL.out _).1⟩
                    rw [HR3.out, not_all (d := (0, 0)) hlt (by rw [HOP.out, HIN.out, decide_eq_false (by omega : ¬ (0 ≤ arg))]; rfl)]
                    rfl
                  · have d3 : decide (arg < 0) = false := decide_eq_false ha
                    by_cases hbB : 3 < arg
                    · have d4 : decide (3 < arg) = true := decide_eq_true hbB
                      go_wp2_with fail
                      go_ret
                      refine ⟨?_, (HAL.out _).1⟩
                      rw [HR3.out, not_all (d := (0, 0)) hlt (by rw [HOP.out, HIN.out, decide_eq_false (by simp [belowV]; omega : ¬ arg < belowV NL.length CL.length 3)]; simp)]
                      rfl
                    · have d4 : decide (3 < arg) = false := decide_eq_false hbB
                      go_wp2_with fail
                      go_roundw
                      case rel => exact ⟨k + 1, by omega, by go_num, (HAL.out _).1, (HAL.out _).2, fun j hj => by
                        rcases Nat.lt_or_ge j k with h | h
                        · exact HA.out j h
                        · obtain rfl : j = k := by omega
                          rw [HOP.out, HIN.out, decide_eq_true (by omega : 0 ≤ arg), decide_eq_true (by simp [belowV]; omega : arg < belowV NL.length CL.length 3)]; simp⟩
                      case measure => simp [intOf]; omega
                · go_wp2_with fail
                  refine HW.out.mono ?_
                  rintro e w6 ⟨rfl, hw6⟩
                  subst w6
                  by_cases ha : arg < 0
                  · have d3 : decide (arg < 0) = true := decide_eq_true ha
                    go_wp2_with fail
                    go_ret
                    refine ⟨?_, (HAL.out _).1⟩
                    rw [HR3.out, not_all (d := (0, 0)) hlt (by rw [HOP.out, HIN.out, decide_eq_false (by omega : ¬ (0 ≤ arg))]; rfl)]
                    rfl
                  · have d3 : decide (arg < 0) = false := decide_eq_false ha
                    by_cases hbB : (CL.length : Int) < arg
                    · have d4 : decide ((CL.length : Int) < arg) = true := decide_eq_true hbB
                      go_wp2_with fail
                      go_ret
                      refine ⟨?_, (HAL.out _).1⟩
                      rw [HR3.out, not_all (d := (0, 0)) hlt (by rw [HOP.out, HIN.out, decide_eq_false (by simp [belowV]; omega : ¬ arg < belowV NL.length CL.length 4)]; simp)]
                      rfl
                    · have d4 : decide ((CL.length : Int) < arg) = false := decide_eq_false hbB
                      go_wp2_with fail
                      go_roundw
                      case rel => exact ⟨k + 1, by omega, by go_num, (HAL.out _).1, (HAL.out _).2, fun j hj => by
                        rcases Nat.lt_or_ge j k with h | h
                        · exact HA.out j h
                        · obtain rfl : j = k := by omega
                          rw [HOP.out, HIN.out, decide_eq_true (by omega : 0 ≤ arg), decide_eq_true (by simp [belowV]; omega : arg < belowV NL.length CL.length 4)]; simp⟩
                      case measure => simp [intOf]; omega
                · have kw : wrap64 ((NL.length : Int) - 1) = (NL.length : Int) - 1 := by unfold wrap64; omega
                  go_wp2_with fail
                  refine HW.out.mono ?_
                  rintro e w6 ⟨rfl, hw6⟩
                  subst w6
                  by_cases ha : arg < 0
                  · have d3 : decide (arg < 0) = true := decide_eq_true ha
                    go_wp2_with fail
                    go_ret
                    refine ⟨?_, (HAL.out _).1⟩
                    rw [HR3.out, not_all (d := (0, 0)) hlt (by rw [HOP.out, HIN.out, decide_eq_false (by omega : ¬ (0 ≤ arg))]; rfl)]
                    rfl
                  · have d3 : decide (arg < 0) = false := decide_eq_false ha
                    by_cases hbB : ((NL.length : Int) - 1) < arg
                    · have d4 : decide (((NL.length : Int) - 1) < arg) = true := decide_eq_true hbB
                      go_wp2_with fail
                      go_ret
                      refine ⟨?_, (HAL.out _).1⟩
                      rw [HR3.out, not_all (d := (0, 0)) hlt (by rw [HOP.out, HIN.out, decide_eq_false (by simp [belowV]; omega : ¬ arg < belowV NL.length CL.length 5)]; simp)]
                      rfl
                    · have d4 : decide (((NL.length : Int) - 1) < arg) = false := decide_eq_false hbB
                      go_wp2_with fail
                      go_roundw
                      case rel => exact ⟨k + 1, by omega, by go_num, (HAL.out _).1, (HAL.out _).2, fun j hj => by
                        rcases Nat.lt_or_ge j k with h | h
                        · exact HA.out j h
                        · obtain rfl : j = k := by omega
                          rw [HOP.out, HIN.out, decide_eq_true (by omega : 0 ≤ arg), decide_eq_true (by simp [belowV]; omega : arg < belowV NL.length CL.length 5)]; simp⟩
                      case measure => simp [intOf]; omega
              · go_wp2_with fail
                refine (word_out op hr wr).mono ?_
                rintro e w6 ⟨rfl, hw6⟩
                subst w6
                go_wp2_with fail
                go_ret
                refine ⟨?_, (HAL.out _).1⟩
                rw [HR3.out, not_all (d := (0, 0)) hlt (by rw [HOP.out, instrB, decide_eq_false hr]; rfl)]
                rfl
            · obtain rfl : k = CL.length := by omega
              go_wp2
              go_ret
              rw [HR3.out, all_lt (d := (0, 0)) HA.out]
              exact ⟨rfl, HB4.out⟩
    · have d2 : decide ((CL.length : Int) > 200) = true := decide_eq_true (by omega)
      have d2' : decide ((200 : Int) < (CL.length : Int)) = true := decide_eq_true (by omega)
      have HR2 := Lib.hid (show R = false by rw [HR.out, formedB, decide_eq_false h2]; simp)
      clear HR
      go_enter Try.func21, Try.ntmps21
      go_wp2_with fail
      go_ret
      rw [HR2.out]
      exact ⟨rfl, (Below.refl _ _).alloc (Nat.le_refl _) _⟩
  · have d1 : decide ((NL.length : Int) > 8) = true := decide_eq_true (by omega)
    have d1' : decide ((8 : Int) < (NL.length : Int)) = true := decide_eq_true (by omega)
    have HR2 := Lib.hid (show R = false by rw [HR.out, formedB, decide_eq_false h1]; simp)
    clear HR
    go_enter Try.func21, Try.ntmps21
    go_wp2_with fail
    go_ret
    rw [HR2.out]
    exact ⟨rfl, (Below.refl _ _).alloc (Nat.le_refl _) _⟩
end Go.Proofs.Ytmmbigfeojfedaa.R

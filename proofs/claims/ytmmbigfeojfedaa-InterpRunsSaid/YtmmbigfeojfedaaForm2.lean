/- A program's form. -/
import Derived.Test.YtmmbigfeojfedaaForm1
import Derived.Deep.RegionHeld3
namespace Go.Proofs.Ytmmbigfeojfedaa
open Go.RowKit Go.Proofs.YtmmbigfeojfedaaW.PrintWords

def instrB (nl cl : Nat) (i : Int × Int) : Bool := decide (0 ≤ i.1 ∧ i.1 < 24) && (decide (kindOf i.1.toNat = 1) || (decide (0 ≤ i.2) && decide (i.2 < belowV nl cl (kindOf i.1.toNat))))
def formedB (NL : List ByteArray) (CL : List (Int × Int)) : Bool := decide (NL.length ≤ 8) && (decide (CL.length ≤ 200) && (NL.all keyB && CL.all (instrB NL.length CL.length)))
/-- Instructions in memory. -/
def IsCode (w : World) (A : Option Addr) (CL : List (Int × Int)) : Prop :=
  0 < CL.length → ∃ b off, A = some ⟨b, off, none⟩ ∧ ∀ j, j < CL.length → w.cell? ⟨b, off + j * 2, none⟩ = some (.int .i64 (CL.getD j (0, 0)).1) ∧ w.cell? ⟨b, off + j * 2 + 1, none⟩ = some (.int .i64 (CL.getD j (0, 0)).2)
theorem IsCode.below {w w' : World} {A : Option Addr} {CL : List (Int × Int)} (h : IsCode w A CL) (hb : Below w.heap.size w w') : IsCode w' A CL := fun hp => by
  obtain ⟨b, off, e, hc⟩ := h hp
  exact ⟨b, off, e, fun j hj => ⟨pw_cell_below hb (hc j hj).1, pw_cell_below hb (hc j hj).2⟩⟩
theorem all_lt {α : Type} {p : α → Bool} {l : List α} {d : α} (h : ∀ j, j < l.length → p (l.getD j d) = true) : l.all p = true := by
  rw [List.all_eq_true]
  intro x hx
  obtain ⟨j, hj, rfl⟩ := List.getElem_of_mem hx
  have := h j hj
  simpa [List.getD, hj] using this
theorem not_all {α : Type} {p : α → Bool} {l : List α} {d : α} {j : Nat} (hj : j < l.length) (h : p (l.getD j d) = false) : l.all p = false := by
  rw [List.all_eq_false]
  refine ⟨l[j], List.getElem_mem hj, ?_⟩
  have : l.getD j d = l[j] := by simp [List.getD, hj]
  rw [this] at h
  simp [h]
theorem kind_cases (op : Nat) : kindOf op = 0 ∨ kindOf op = 1 ∨ kindOf op = 2 ∨ kindOf op = 3 ∨ kindOf op = 4 ∨ kindOf op = 5 := by
  by_cases h : op < 24
  · have key : ∀ n : Fin 24, kindOf n.1 = 0 ∨ kindOf n.1 = 1 ∨ kindOf n.1 = 2 ∨ kindOf n.1 = 3 ∨ kindOf n.1 = 4 ∨ kindOf n.1 = 5 := by decide
    exact key ⟨op, h⟩
  · left
    unfold kindOf
    rw [List.getD, List.getElem?_eq_none (by simp; omega)]
    rfl

set_option maxRecDepth 100000 in
set_option maxHeartbeats 4000000 in
theorem formed_any (nA kA : Option Addr) (nC kC : Nat) (NL : List ByteArray) (CL : List (Int × Int)) (w : World) (hN : ReadsOf Value.string (⟨#[]⟩ : ByteArray) w nA NL.length NL) (hC : IsCode w kA CL) (hcl : CL.length ≤ 1000) :
    Calls Try.prog 18 #[.agg #[.slice nA NL.length nC, .slice kA CL.length kC]] w fun e w' => e = .returned (.bool (formedB NL CL)) ∧ Below w.heap.size w w' := by
  have HN := Lib.hid hN
  have HC := Lib.hid hC
  obtain ⟨R, hR⟩ : ∃ R, R = formedB NL CL := ⟨_, rfl⟩
  rw [← hR]
  have HR := Lib.hid hR
  have hnl := hN.2.1
  clear hN hC hR
  by_cases h1 : NL.length ≤ 8
  · have d1 : decide ((NL.length : Int) > 8) = false := decide_eq_false (by omega)
    have d1' : decide ((8 : Int) < (NL.length : Int)) = false := decide_eq_false (by omega)
    by_cases h2 : CL.length ≤ 200
    · have d2 : decide ((CL.length : Int) > 200) = false := decide_eq_false (by omega)
      have d2' : decide ((200 : Int) < (CL.length : Int)) = false := decide_eq_false (by omega)
      have HR2 := Lib.hid (show R = (NL.all keyB && CL.all (instrB NL.length CL.length)) by rw [HR.out, formedB, decide_eq_true h1, decide_eq_true h2]; rfl)
      have hbk0 : Blk (w.alloc (.cells #[.slice nA NL.length nC, .slice kA CL.length kC] 43)) w.heap.size #[.slice nA NL.length nC, .slice kA CL.length kC] 43 := Blk.new _ _ _
      have HBK := Lib.hid hbk0
      clear hbk0 HR
      go_enter Try.func18, Try.ntmps18
      go_wp2_with fail
      go_loopw [23] (fun i wr => ∃ k : Nat, k ≤ NL.length ∧ i = .int .i64 k ∧ Below w.heap.size w wr ∧ Blk wr w.heap.size #[.slice nA NL.length nC, .slice kA CL.length kC] 43 ∧ ∀ j, j < k → keyB (NL.getD j ⟨#[]⟩) = true) (fun i _ => NL.length - (intOf i).toNat)
      case atStart => exact ⟨0, by omega, rfl, (Below.refl _ _).alloc (Nat.le_refl _) _, HBK.out, fun j hj => absurd hj (by omega)⟩
      case round =>
        obtain ⟨k, hk, rfl, hb, hbk, hall⟩ := hrel
        have HB := Lib.hid hb
        have HBK2 := Lib.hid hbk
        have HA := Lib.hid hall
        clear hb hbk hall HBK
        by_cases hlt : k < NL.length
        · obtain ⟨a, rfl, q⟩ := (HN.out.below HB.out).2.2 (by omega)
          have p := q k hlt
          obtain ⟨s, hs⟩ : ∃ s, s = NL.getD k ⟨#[]⟩ := ⟨_, rfl⟩
          rw [← hs] at p
          have HS := Lib.hid hs
          clear q hs
          have k0 : (0 : Int) ≤ (k : Int) := by omega
          have k1 : (k : Int) < (NL.length : Int) := by omega
          have HKY := Lib.hid (key_any s)
          cases hkb : keyB s with
          | true =>
            rw [hkb] at HKY
            go_wp2_with fail
            refine (HKY.out _).mono ?_
            rintro e w' ⟨rfl, rfl⟩
            go_wp2_with fail
            go_roundw
            case rel => exact ⟨k + 1, by omega, by go_num, HB.out, HBK2.out, fun j hj => by
              rcases Nat.lt_or_ge j k with h | h
              · exact HA.out j h
              · obtain rfl : j = k := by omega
                rw [← HS.out]; exact hkb⟩
            case measure => simp [intOf]; omega
          | false =>
            rw [hkb] at HKY
            go_wp2_with fail
            refine (HKY.out _).mono ?_
            rintro e w' ⟨rfl, rfl⟩
            go_wp2_with fail
            go_ret
            refine ⟨?_, HB.out⟩
            rw [HR2.out, not_all (d := ⟨#[]⟩) hlt (by rw [← HS.out]; exact hkb)]
            rfl
        · obtain rfl : k = NL.length := by omega
          have hallN : NL.all keyB = true := all_lt (d := ⟨#[]⟩) HA.out
          have HR3 := Lib.hid (show R = CL.all (instrB NL.length CL.length) by rw [HR2.out, hallN]; rfl)
          have e0 := HBK2.out.cell 0
          have e1 := HBK2.out.cell 1
          simp at e0 e1
          clear hallN HR2 HA
          go_wp2_with fail
          go_loopw [34] (fun i wr => ∃ k : Nat, k ≤ CL.length ∧ i = .int .i64 k ∧ Below w.heap.size w wr ∧ Blk wr w.heap.size #[.slice nA NL.length nC, .slice kA CL.length kC] 43 ∧ ∀ j, j < k → instrB NL.length CL.length (CL.getD j (0, 0)) = true) (fun i _ => CL.length - (intOf i).toNat)
          case atStart => exact ⟨0, by omega, rfl, HB.out, HBK2.out, fun j hj => absurd hj (by omega)⟩
          case round =>
            obtain ⟨k, hk, rfl, hb, hbk, hall⟩ := hrel
            have HB4 := Lib.hid hb
            have HBK4 := Lib.hid hbk
            have HA := Lib.hid hall
            clear hb hbk hall HBK2 HB e0 e1
            by_cases hlt : k < CL.length
            · obtain ⟨b, off, hkA, q⟩ := (HC.out.below HB4.out) (by omega)
              obtain ⟨p0, p1⟩ := q k hlt
              obtain ⟨op, hop⟩ : ∃ op, op = (CL.getD k (0, 0)).1 := ⟨_, rfl⟩
              obtain ⟨arg, harg⟩ : ∃ arg, arg = (CL.getD k (0, 0)).2 := ⟨_, rfl⟩
              rw [← hop] at p0
              rw [← harg] at p1
              have HOP := Lib.hid (show CL.getD k (0, 0) = (op, arg) by rw [hop, harg])
              subst hkA
              have k0 : (0 : Int) ≤ (k : Int) := by omega
              have k1 : (k : Int) < (CL.length : Int) := by omega
              have hsz := HB4.out.size
              clear q hop harg
              go_upto_region 11 with fail
              go_cut [6] (fun v wx => ∃ ib, v = .pointer (some ⟨ib, 0, none⟩) ∧ Below w.heap.size w wx ∧ Blk wx ib #[.int .i64 op, .int .i64 arg] 60 ∧ Blk wx w.heap.size #[.slice nA NL.length nC, .slice (some ⟨b, off, none⟩) CL.length kC] 43)
              case first =>
                go_wp2
                go_meet
                exact ⟨_, rfl, HB4.out.alloc hsz _, Blk.new _ _ _, HBK4.out.alloc _⟩
              obtain ⟨ib, rfl, hb5, hi5, hk5⟩ := hcut
              have q0 := hi5.cell 0
              simp at q0
              have HB5 := Lib.hid hb5
              have HI5 := Lib.hid hi5
              have HK5 := Lib.hid hk5
              clear hb5 hi5 hk5 p0 p1
              go_wp2_with fail
              refine (operation_any op _).mono ?_
              rintro e w6 ⟨hb6, nm, rfl⟩
              have HB6 := Lib.hid (HB5.out.trans (hb6.mono HB5.out.size))
              have HI6 := Lib.hid (HI5.out.below hb6)
              have HK6 := Lib.hid (HK5.out.below hb6)
              clear hb6 q0
              by_cases hr : 0 ≤ op ∧ op < 24
              · rw [if_pos hr, decide_eq_true hr]
                have hkc := kind_cases op.toNat
                obtain ⟨kd, hkd⟩ : ∃ kd, kd = kindOf op.toNat := ⟨_, rfl⟩
                rw [← hkd] at hkc ⊢
                have HKD := Lib.hid hkd
                have HKC := Lib.hid hkc
                clear hkd hkc
                have HIN := Lib.hid (show instrB NL.length CL.length (op, arg) = (decide (kd = 1) || (decide (0 ≤ arg) && decide (arg < belowV NL.length CL.length kd))) by rw [HKD.out, instrB, decide_eq_true hr]; rfl)
                by_cases hk1 : kd = 1
                · subst hk1
                  clear HKC
                  go_wp2
                  go_quiet (fail)
                  go_wp2
                  go_roundw
                  case rel => exact ⟨k + 1, by omega, by go_num, below_drewN HB6.out _, HK6.out.drewN _, fun j hj => by
                    rcases Nat.lt_or_ge j k with h | h
                    · exact HA.out j h
                    · obtain rfl : j = k := by omega
                      rw [HOP.out, HIN.out]; rfl⟩
                  case measure => simp [intOf]; omega
                · have t1 : (kd != 1) = true := by simpa using hk1
                  have t2 : (kd == 1) = false := by simpa using hk1
                  have q1 := HI6.out.cell 1
                  have e0 := HK6.out.cell 0
                  have e1 := HK6.out.cell 1
                  simp at q1 e0 e1
                  by_cases ha : arg < 0
                  · have d3 : decide (arg < 0) = true := decide_eq_true ha
                    go_wp2
                    go_quiet (fail)
                    go_wp2
                    go_ret
                    refine ⟨?_, below_drewN HB6.out _⟩
                    rw [HR3.out, not_all (d := (0, 0)) hlt (by rw [HOP.out, HIN.out, decide_eq_false hk1, decide_eq_false (by omega : ¬ (0 ≤ arg))]; rfl)]
                    rfl
                  · have d3 : decide (arg < 0) = false := decide_eq_false ha
                    obtain ⟨B, hB⟩ : ∃ B, B = belowV NL.length CL.length kd := ⟨_, rfl⟩
                    have HBV := Lib.hid (fun w => below_any nA (some ⟨b, off, none⟩) NL.length CL.length nC kC kd HKC.out hcl w)
                    rw [← hB] at HBV HIN
                    clear hB HKC
                    go_wp2
                    go_region_held3 (fun w' => w'.cell? ⟨ib, 1, none⟩ = some (.int .i64 arg) ∧ w'.cell? ⟨w.heap.size, 0, none⟩ = some (.slice nA NL.length nC) ∧ w'.cell? ⟨w.heap.size, 1, none⟩ = some (.slice (some ⟨b, off, none⟩) CL.length kC))
                      (first | exact ⟨q1, e0, e1⟩ | go_keep)
                      (first | (go_at_call 29; refine (HBV.out _).mono ?_; rintro e w' ⟨rfl, rfl⟩))
                    have HFIN := Lib.hid (show Below w.heap.size w ((w6.alloc (.cells #[.slice nA NL.length nC, .slice (some ⟨b, off, none⟩) CL.length kC] 43)).drew) from (HB6.out.alloc HB6.out.size _).drew)
                    have HKF := Lib.hid (show Blk ((w6.alloc (.cells #[.slice nA NL.length nC, .slice (some ⟨b, off, none⟩) CL.length kC] 43)).drew) w.heap.size #[.slice nA NL.length nC, .slice (some ⟨b, off, none⟩) CL.length kC] 43 from (HK6.out.alloc _).drew)
                    by_cases hbB : arg < B
                    · have d4 : decide (arg ≥ B) = false := decide_eq_false (by omega)
                      have d5 : decide (B ≤ arg) = false := decide_eq_false (by omega)
                      go_wp2
                      go_roundw
                      case rel => exact ⟨k + 1, by omega, by go_num, HFIN.out, HKF.out, fun j hj => by
                        rcases Nat.lt_or_ge j k with h | h
                        · exact HA.out j h
                        · obtain rfl : j = k := by omega
                          rw [HOP.out, HIN.out, decide_eq_true (by omega : 0 ≤ arg), decide_eq_true hbB]; simp⟩
                      case measure => simp [intOf]; omega
                    · have d4 : decide (arg ≥ B) = true := decide_eq_true (by omega)
                      have d5 : decide (B ≤ arg) = true := decide_eq_true (by omega)
                      go_wp2
                      go_ret
                      refine ⟨?_, HFIN.out⟩
                      rw [HR3.out, not_all (d := (0, 0)) hlt (by rw [HOP.out, HIN.out, decide_eq_false hk1, decide_eq_false (by omega : ¬ arg < B)]; simp)]
                      rfl
              · rw [if_neg hr, decide_eq_false hr]
                go_wp2
                go_quiet (fail)
                go_wp2
                go_ret
                refine ⟨?_, below_drewN HB6.out _⟩
                rw [HR3.out, not_all (d := (0, 0)) hlt (by rw [HOP.out, instrB, decide_eq_false hr]; rfl)]
                rfl
            · obtain rfl : k = CL.length := by omega
              go_wp2
              go_ret
              rw [HR3.out, all_lt (d := (0, 0)) HA.out]
              exact ⟨rfl, HB4.out⟩
    · have d2 : decide ((CL.length : Int) > 200) = true := decide_eq_true (by omega)
      have d2' : decide ((200 : Int) < (CL.length : Int)) = true := decide_eq_true (by omega)
      have HR2 := Lib.hid (show R = false by rw [HR.out, formedB, decide_eq_false h2]; simp)
      clear HR
      go_enter Try.func18, Try.ntmps18
      go_wp2_with fail
      go_ret
      rw [HR2.out]
      exact ⟨rfl, (Below.refl _ _).alloc (Nat.le_refl _) _⟩
  · have d1 : decide ((NL.length : Int) > 8) = true := decide_eq_true (by omega)
    have d1' : decide ((8 : Int) < (NL.length : Int)) = true := decide_eq_true (by omega)
    have HR2 := Lib.hid (show R = false by rw [HR.out, formedB, decide_eq_false h1]; simp)
    clear HR
    go_enter Try.func18, Try.ntmps18
    go_wp2_with fail
    go_ret
    rw [HR2.out]
    exact ⟨rfl, (Below.refl _ _).alloc (Nat.le_refl _) _⟩
end Go.Proofs.Ytmmbigfeojfedaa

/- IpForm2, Eng1, Eng2 -/
import Derived.Test.YtlcdjgpblpodaaaGreatDoorMBA
import Derived.Deep.RegionHeld3
import Derived.Test.YtlcdjgpblpodaaaGreatDoorMAY
import Derived.Test.YtlcdjgpblpodaaaGreatDoorMAP
import Derived.Test.YtlcdjgpblpodaaaGreatDoorMAS
import Derived.Test.YtlcdjgpblpodaaaGreatDoorMAT
namespace Go.Proofs.YtlcdjgpblpodaaaGreatDoor.Ip
open Go.RowKit Go.Proofs.YtlcdjgpblpodaaaGreatDoorW.PrintWords

def instrB (nl cl : Nat) (i : Int × Int) : Bool := decide (0 ≤ i.1 ∧ i.1 < 24) && (decide (kindOf i.1.toNat = 1) || (decide (0 ≤ i.2) && decide (i.2 < belowV nl cl (kindOf i.1.toNat))))
def formedB (NL : List ByteArray) (CL : List (Int × Int)) : Bool := decide (NL.length ≤ 8) && (decide (CL.length ≤ 200) && (NL.all keyB && CL.all (instrB NL.length CL.length)))
/-- Instructions in memory. -/
def IsCode (w : World) (A : Option Addr) (CL : List (Int × Int)) : Prop :=
  0 < CL.length → ∃ b off, A = some ⟨b, off, none⟩ ∧ ∀ j, j < CL.length → w.cell? ⟨b, off + j * 2, none⟩ = some (.int .i64 (CL.getD j (0, 0)).1) ∧ w.cell? ⟨b, off + j * 2 + 1, none⟩ = some (.int .i64 (CL.getD j (0, 0)).2)
theorem IsCode.below {w w' : World} {A : Option Addr} {CL : List (Int × Int)} (h : IsCode w A CL) (hb : Below w.heap.size w w') : IsCode w' A CL := fun hp => by
  obtain ⟨b, off, e, hc⟩ := h hp
  exact ⟨b, off, e, fun j hj => ⟨pw_cell_below hb (hc j hj).1, pw_cell_below hb (hc j hj).2⟩⟩
theorem all_lt {α : Type} {p : α → Bool} {l : List α} {d : α} (h : ∀ j, j < l.length → p (l.getD j d) = true) : l.all p = true := by
  rw [List.all_eq_true]
  intro x hx
  obtain ⟨j, hj, rfl⟩ := List.getElem_of_mem hx
  have := h j hj
  simpa [List.getD, hj] using this
theorem not_all {α : Type} {p : α → Bool} {l : List α} {d : α} {j : Nat} (hj : j < l.length) (h : p (l.getD j d) = false) : l.all p = false := by
  rw [List.all_eq_false]
  refine ⟨l[j], List.getElem_mem hj, ?_⟩
  have : l.getD j d = l[j] := by simp [List.getD, hj]
  rw [this] at h
  simp [h]
theorem kind_cases (op : Nat) : kindOf op = 0 ∨ kindOf op = 1 ∨ kindOf op = 2 ∨ kindOf op = 3 ∨ kindOf op = 4 ∨ kindOf op = 5 := by
  by_cases h : op < 24
  · have key : ∀ n : Fin 24, kindOf n.1 = 0 ∨ kindOf n.1 = 1 ∨ kindOf n.1 = 2 ∨ kindOf n.1 = 3 ∨ kindOf n.1 = 4 ∨ kindOf n.1 = 5 := by decide
    exact key ⟨op, h⟩
  · left
    unfold kindOf
    rw [List.getD, List.getElem?_eq_none (by simp; omega)]
    rfl

set_option maxRecDepth 100000 in
set_option maxHeartbeats 4000000 in
theorem formed_any (nA kA : Option Addr) (nC kC : Nat) (NL : List ByteArray) (CL : List (Int × Int)) (w : World) (hN : ReadsOf Value.string (⟨#[]⟩ : ByteArray) w nA NL.length NL) (hC : IsCode w kA CL) (hcl : CL.length ≤ 1000) :
    Calls Tryz.prog 78 #[.agg #[.slice nA NL.length nC, .slice kA CL.length kC]] w fun e w' => e = .returned (.bool (formedB NL CL)) ∧ Below w.heap.size w w' := by
  have HN := Lib.hid hN
  have HC := Lib.hid hC
  obtain ⟨R, hR⟩ : ∃ R, R = formedB NL CL := ⟨_, rfl⟩
  rw [← hR]
  have HR := Lib.hid hR
  have hnl := hN.2.1
  clear hN hC hR
  by_cases h1 : NL.length ≤ 8
  · have d1 : decide ((NL.length : Int) > 8) = false := decide_eq_false (by omega)
    have d1' : decide ((8 : Int) < (NL.length : Int)) = false := decide_eq_false (by omega)
    by_cases h2 : CL.length ≤ 200
    · have d2 : decide ((CL.length : Int) > 200) = false := decide_eq_false (by omega)
      have d2' : decide ((200 : Int) < (CL.length : Int)) = false := decide_eq_false (by omega)
      have HR2 := Lib.hid (show R = (NL.all keyB && CL.all (instrB NL.length CL.length)) by rw [HR.out, formedB, decide_eq_true h1, decide_eq_true h2]; rfl)
      have hbk0 : Blk (w.alloc (.cells #[.slice nA NL.length nC, .slice kA CL.length kC] 54)) w.heap.size #[.slice nA NL.length nC, .slice kA CL.length kC] 54 := Blk.new _ _ _
      have HBK := Lib.hid hbk0
      clear hbk0 HR
      go_enter Tryz.func78, Tryz.ntmps78
      go_wp2_with fail
      go_loopw [23] (fun i wr => ∃ k : Nat, k ≤ NL.length ∧ i = .int .i64 k ∧ Below w.heap.size w wr ∧ Blk wr w.heap.size #[.slice nA NL.length nC, .slice kA CL.length kC] 54 ∧ ∀ j, j < k → keyB (NL.getD j ⟨#[]⟩) = true) (fun i _ => NL.length - (intOf i).toNat)
      case atStart => exact ⟨0, by omega, rfl, (Below.refl _ _).alloc (Nat.le_refl _) _, HBK.out, fun j hj => absurd hj (by omega)⟩
      case round =>
        obtain ⟨k, hk, rfl, hb, hbk, hall⟩ := hrel
        have HB := Lib.hid hb
        have HBK2 := Lib.hid hbk
        have HA := Lib.hid hall
        clear hb hbk hall HBK
        by_cases hlt : k < NL.length
        · obtain ⟨a, rfl, q⟩ := (HN.out.below HB.out).2.2 (by omega)
          have p := q k hlt
          obtain ⟨s, hs⟩ : ∃ s, s = NL.getD k ⟨#[]⟩ := ⟨_, rfl⟩
          rw [← hs] at p
          have HS := Lib.hid hs
          clear q hs
          have k0 : (0 : Int) ≤ (k : Int) := by omega
          have k1 : (k : Int) < (NL.length : Int) := by omega
          have HKY := Lib.hid (key_any s)
          cases hkb : keyB s with
          | true =>
            rw [hkb] at HKY
            go_wp2_with fail
            refine (HKY.out _).mono ?_
            rintro e w' ⟨rfl, rfl⟩
            go_wp2_with fail
            go_roundw
            case rel => exact ⟨k + 1, by omega, by go_num, HB.out, HBK2.out, fun j hj => by
              rcases Nat.lt_or_ge j k with h | h
              · exact HA.out j h
              · obtain rfl : j = k := by omega
                rw [← HS.out]; exact hkb⟩
            case measure => simp [intOf]; omega
          | false =>
            rw [hkb] at HKY
            go_wp2_with fail
            refine (HKY.out _).mono ?_
            rintro e w' ⟨rfl, rfl⟩
            go_wp2_with fail
            go_ret
            refine ⟨?_, HB.out⟩
            rw [HR2.out, not_all (d := ⟨#[]⟩) hlt (by rw [← HS.out]; exact hkb)]
            rfl
        · obtain rfl : k = NL.length := by omega
          have hallN : NL.all keyB = true := all_lt (d := ⟨#[]⟩) HA.out
          have HR3 := Lib.hid (show R = CL.all (instrB NL.length CL.length) by rw [HR2.out, hallN]; rfl)
          have e0 := HBK2.out.cell 0
          have e1 := HBK2.out.cell 1
          simp at e0 e1
          clear hallN HR2 HA
          go_wp2_with fail
          go_loopw [34] (fun i wr => ∃ k : Nat, k ≤ CL.length ∧ i = .int .i64 k ∧ Below w.heap.size w wr ∧ Blk wr w.heap.size #[.slice nA NL.length nC, .slice kA CL.length kC] 54 ∧ ∀ j, j < k → instrB NL.length CL.length (CL.getD j (0, 0)) = true) (fun i _ => CL.length - (intOf i).toNat)
          case atStart => exact ⟨0, by omega, rfl, HB.out, HBK2.out, fun j hj => absurd hj (by omega)⟩
          case round =>
            obtain ⟨k, hk, rfl, hb, hbk, hall⟩ := hrel
            have HB4 := Lib.hid hb
            have HBK4 := Lib.hid hbk
            have HA := Lib.hid hall
            clear hb hbk hall HBK2 HB e0 e1
            by_cases hlt : k < CL.length
            · obtain ⟨b, off, hkA, q⟩ := (HC.out.below HB4.out) (by omega)
              obtain ⟨p0, p1⟩ := q k hlt
              obtain ⟨op, hop⟩ : ∃ op, op = (CL.getD k (0, 0)).1 := ⟨_, rfl⟩
              obtain ⟨arg, harg⟩ : ∃ arg, arg = (CL.getD k (0, 0)).2 := ⟨_, rfl⟩
              rw [← hop] at p0
              rw [← harg] at p1
              have HOP := Lib.hid (show CL.getD k (0, 0) = (op, arg) by rw [hop, harg])
              subst hkA
              have k0 : (0 : Int) ≤ (k : Int) := by omega
              have k1 : (k : Int) < (CL.length : Int) := by omega
              have hsz := HB4.out.size
              clear q hop harg
              go_upto_region 11 with fail
              go_cut [6] (fun v wx => ∃ ib, v = .pointer (some ⟨ib, 0, none⟩) ∧ Below w.heap.size w wx ∧ Blk wx ib #[.int .i64 op, .int .i64 arg] 51 ∧ Blk wx w.heap.size #[.slice nA NL.length nC, .slice (some ⟨b, off, none⟩) CL.length kC] 54)
              case first =>
                go_wp2
                go_meet
                exact ⟨_, rfl, HB4.out.alloc hsz _, Blk.new _ _ _, HBK4.out.alloc _⟩
              obtain ⟨ib, rfl, hb5, hi5, hk5⟩ := hcut
              have q0 := hi5.cell 0
              simp at q0
              have HB5 := Lib.hid hb5
              have HI5 := Lib.hid hi5
              have HK5 := Lib.hid hk5
              clear hb5 hi5 hk5 p0 p1
              go_wp2_with fail
              refine (operation_any op _).mono ?_
              rintro e w6 ⟨hb6, nm, rfl⟩
              have HB6 := Lib.hid (HB5.out.trans (hb6.mono HB5.out.size))
              have HI6 := Lib.hid (HI5.out.below hb6)
              have HK6 := Lib.hid (HK5.out.below hb6)
              clear hb6 q0
              by_cases hr : 0 ≤ op ∧ op < 24
              · rw [if_pos hr, decide_eq_true hr]
                have hkc := kind_cases op.toNat
                obtain ⟨kd, hkd⟩ : ∃ kd, kd = kindOf op.toNat := ⟨_, rfl⟩
                rw [← hkd] at hkc ⊢
                have HKD := Lib.hid hkd
                have HKC := Lib.hid hkc
                clear hkd hkc
                have HIN := Lib.hid (show instrB NL.length CL.length (op, arg) = (decide (kd = 1) || (decide (0 ≤ arg) && decide (arg < belowV NL.length CL.length kd))) by rw [HKD.out, instrB, decide_eq_true hr]; rfl)
                by_cases hk1 : kd = 1
                · subst hk1
                  clear HKC
                  go_wp2
                  go_quiet (fail)
                  go_wp2
                  go_roundw
                  case rel => exact ⟨k + 1, by omega, by go_num, below_drewN HB6.out _, HK6.out.drewN _, fun j hj => by
                    rcases Nat.lt_or_ge j k with h | h
                    · exact HA.out j h
                    · obtain rfl : j = k := by omega
                      rw [HOP.out, HIN.out]; rfl⟩
                  case measure => simp [intOf]; omega
                · have t1 : (kd != 1) = true := by simpa using hk1
                  have t2 : (kd == 1) = false := by simpa using hk1
                  have q1 := HI6.out.cell 1
                  have e0 := HK6.out.cell 0
                  have e1 := HK6.out.cell 1
                  simp at q1 e0 e1
                  by_cases ha : arg < 0
                  · have d3 : decide (arg < 0) = true := decide_eq_true ha
                    go_wp2
                    go_quiet (fail)
                    go_wp2
                    go_ret
                    refine ⟨?_, below_drewN HB6.out _⟩
                    rw [HR3.out, not_all (d := (0, 0)) hlt (by rw [HOP.out, HIN.out, decide_eq_false hk1, decide_eq_false (by omega : ¬ (0 ≤ arg))]; rfl)]
                    rfl
                  · have d3 : decide (arg < 0) = false := decide_eq_false ha
                    obtain ⟨B, hB⟩ : ∃ B, B = belowV NL.length CL.length kd := ⟨_, rfl⟩
                    have HBV := Lib.hid (fun w => below_any nA (some ⟨b, off, none⟩) NL.length CL.length nC kC kd HKC.out hcl w)
                    rw [← hB] at HBV HIN
                    clear hB HKC
                    go_wp2
                    go_region_held3 (fun w' => w'.cell? ⟨ib, 1, none⟩ = some (.int .i64 arg) ∧ w'.cell? ⟨w.heap.size, 0, none⟩ = some (.slice nA NL.length nC) ∧ w'.cell? ⟨w.heap.size, 1, none⟩ = some (.slice (some ⟨b, off, none⟩) CL.length kC))
                      (first | exact ⟨q1, e0, e1⟩ | go_keep)
                      (first | (go_at_call 147; refine (HBV.out _).mono ?_; rintro e w' ⟨rfl, rfl⟩))
                    have HFIN := Lib.hid (show Below w.heap.size w ((w6.alloc (.cells #[.slice nA NL.length nC, .slice (some ⟨b, off, none⟩) CL.length kC] 54)).drew) from (HB6.out.alloc HB6.out.size _).drew)
                    have HKF := Lib.hid (show Blk ((w6.alloc (.cells #[.slice nA NL.length nC, .slice (some ⟨b, off, none⟩) CL.length kC] 54)).drew) w.heap.size #[.slice nA NL.length nC, .slice (some ⟨b, off, none⟩) CL.length kC] 54 from (HK6.out.alloc _).drew)
                    by_cases hbB : arg < B
                    · have d4 : decide (arg ≥ B) = false := decide_eq_false (by omega)
                      have d5 : decide (B ≤ arg) = false := decide_eq_false (by omega)
                      go_wp2
                      go_roundw
                      case rel => exact ⟨k + 1, by omega, by go_num, HFIN.out, HKF.out, fun j hj => by
                        rcases Nat.lt_or_ge j k with h | h
                        · exact HA.out j h
                        · obtain rfl : j = k := by omega
                          rw [HOP.out, HIN.out, decide_eq_true (by omega : 0 ≤ arg), decide_eq_true hbB]; simp⟩
                      case measure => simp [intOf]; omega
                    · have d4 : decide (arg ≥ B) = true := decide_eq_true (by omega)
                      have d5 : decide (B ≤ arg) = true := decide_eq_true (by omega)
                      go_wp2
                      go_ret
                      refine ⟨?_, HFIN.out⟩
                      rw [HR3.out, not_all (d := (0, 0)) hlt (by rw [HOP.out, HIN.out, decide_eq_false hk1, decide_eq_false (by omega : ¬ arg < B)]; simp)]
                      rfl
              · rw [if_neg hr, decide_eq_false hr]
                go_wp2
                go_quiet (fail)
                go_wp2
                go_ret
                refine ⟨?_, below_drewN HB6.out _⟩
                rw [HR3.out, not_all (d := (0, 0)) hlt (by rw [HOP.out, instrB, decide_eq_false hr]; rfl)]
                rfl
            · obtain rfl : k = CL.length := by omega
              go_wp2
              go_ret
              rw [HR3.out, all_lt (d := (0, 0)) HA.out]
              exact ⟨rfl, HB4.out⟩
    · have d2 : decide ((CL.length : Int) > 200) = true := decide_eq_true (by omega)
      have d2' : decide ((200 : Int) < (CL.length : Int)) = true := decide_eq_true (by omega)
      have HR2 := Lib.hid (show R = false by rw [HR.out, formedB, decide_eq_false h2]; simp)
      clear HR
      go_enter Tryz.func78, Tryz.ntmps78
      go_wp2_with fail
      go_ret
      rw [HR2.out]
      exact ⟨rfl, (Below.refl _ _).alloc (Nat.le_refl _) _⟩
  · have d1 : decide ((NL.length : Int) > 8) = true := decide_eq_true (by omega)
    have d1' : decide ((8 : Int) < (NL.length : Int)) = true := decide_eq_true (by omega)
    have HR2 := Lib.hid (show R = false by rw [HR.out, formedB, decide_eq_false h1]; simp)
    clear HR
    go_enter Tryz.func78, Tryz.ntmps78
    go_wp2_with fail
    go_ret
    rw [HR2.out]
    exact ⟨rfl, (Below.refl _ _).alloc (Nat.le_refl _) _⟩
end Go.Proofs.YtlcdjgpblpodaaaGreatDoor.Ip
namespace Go.Proofs.YtlcdjgpblpodaaaGreatDoor
open Go.RowKit Go.Maps Go.Proofs.YtlcdjgpblpodaaaGreatDoorW.PrintWords

/-- The book's key of an actor. -/
def akey (k : ByteArray) : ByteArray := ⟨#[97]⟩ ++ k
theorem akey_list (k : ByteArray) : (akey k).data.toList = 97 :: k.data.toList := by unfold akey; simp [ByteArray.data_append]
theorem akey_inj {k k' : ByteArray} (h : akey k = akey k') : k = k' := by
  have h1 : (akey k).data.toList = (akey k').data.toList := by rw [h]
  rw [akey_list, akey_list] at h1
  injection h1 with _ h1
  cases k with | mk a => cases k' with | mk b =>
  have : a = b := Array.toList_inj.1 h1
  rw [this]
theorem akey_size (k : ByteArray) : (akey k).size = k.size + 1 := by
  have h := congrArg List.length (akey_list k)
  rw [Array.length_toList, List.length_cons, Array.length_toList] at h
  exact h
theorem akey_ne (k : ByteArray) (c : UInt8) (hc : c ≠ 97) : akey k ≠ ⟨#[c]⟩ := fun h => by
  have h1 : (akey k).data.toList = [c] := by rw [h]
  rw [akey_list] at h1
  injection h1 with h1 _
  exact hc h1.symm

section
variable {w w' : World} {F XL XD F' XL' XD' S : Nat → Prop} {bb db sb lb pb tb mb hb N cnt used nu m n nc pend : Nat} {T : ByteArray → Option (List Int)}
theorem BookP.chg (h : BookP w F XL XD bb db sb lb pb tb mb hb N cnt used nu m n nc pend T) (hc : Chg S w w') (hF : ∀ k, F k → ¬ S k) (hL : ∀ k, XL k → ¬ S k) (hD : ∀ k, XD k → ¬ S k) (h1 : ¬ S bb) (h2 : ¬ S mb) (h3 : ¬ S hb) :
    BookP w' F XL XD bb db sb lb pb tb mb hb N cnt used nu m n nc pend T :=
  ⟨hc.blk h.blk h1, h.maps.chg hc h1 h2 h3 hF, h.log.chg hc hL, h.disk.chg hc hD, h.ld, h.fl, h.bl, h.ml, h.hl, h.bm, fun k hk => Nat.lt_of_lt_of_le (h.lt k hk) hc.size⟩
theorem BookP.relab (h : BookP w F XL XD bb db sb lb pb tb mb hb N cnt used nu m n nc pend T) (hF : ∀ k, F k → F' k) (hL : ∀ k, XL k → XL' k) (hD : ∀ k, XD k → XD' k) (h1 : ∀ k, F' k → ¬ XL' k ∧ ¬ XD' k ∧ k ≠ bb ∧ k ≠ mb ∧ k ≠ hb) (h2 : ∀ k, XL' k → ¬ XD' k ∧ k ≠ bb ∧ k ≠ mb ∧ k ≠ hb) (h3 : ∀ k, XD' k → k ≠ bb ∧ k ≠ mb ∧ k ≠ hb) (hlt : ∀ k, F' k ∨ XL' k ∨ XD' k → k < w.heap.size) :
    BookP w F' XL' XD' bb db sb lb pb tb mb hb N cnt used nu m n nc pend T :=
  ⟨h.blk, h.maps.mono hF, h.log.mono hL, h.disk.mono hD, fun k hk => (h2 k hk).1, h1, ⟨fun e => (h2 _ e).2.1 rfl, fun e => (h3 _ e).1 rfl⟩, ⟨fun e => (h2 _ e).2.2.1 rfl, fun e => (h3 _ e).2.1 rfl⟩, ⟨fun e => (h2 _ e).2.2.2 rfl, fun e => (h3 _ e).2.2 rfl⟩, h.bm, hlt⟩
end
theorem isCode_chg {S : Nat → Prop} {w w' : World} {A : Option Addr} {CL : List (Int × Int)} (h : Ip.IsCode w A CL) (hc : Chg S w w') (hA : ∀ a, A = some a → ¬ S a.block) : Ip.IsCode w' A CL := fun hp => by
  obtain ⟨b, off, rfl, hcell⟩ := h hp
  have hn : ¬ S b := hA ⟨b, off, none⟩ rfl
  exact ⟨b, off, rfl, fun j hj => ⟨hc.cell (a := ⟨b, off + j * 2, none⟩) hn (hcell j hj).1, hc.cell (a := ⟨b, off + j * 2 + 1, none⟩) hn (hcell j hj).2⟩⟩

/-- What the engine's block leads to, and how much of all there is. -/
structure EngV where
  eb : Nat
  bb : Nat
  db : Nat
  sb : Nat
  lb : Nat
  pb : Nat
  tb : Nat
  mb : Nat
  hb : Nat
  tt : Nat
  ab : Nat
  wb : Nat
  cb : Nat
  qb : Nat
  N : Nat
  cnt : Nat
  used : Nat
  nu : Nat
  m : Nat
  n : Nat
  nc : Nat
  pend : Nat
  na : Nat
  nC : Nat
  kC : Nat
  room : Nat
  NA : Option Addr
  KA : Option Addr
  T : ByteArray → Option (List Int)
  g : Lit → Option Value
  ls : List ByteArray
  win : Win
  NL : List ByteArray
  CL : List (Int × Int)

/-- The engine in memory. Each block that is the engine's has a label: 1 what does not turn, 2 the log, 3 the disk, 4 the table, 5 .. 10 one block each. -/
structure EngC (w : World) (reg : Nat → Nat) (v : EngV) : Prop where
  blk : Blk w v.eb #[.pointer (some ⟨v.bb, 0, none⟩), .pointer (some ⟨v.tt, 0, none⟩), .map (some v.ab), .pointer (some ⟨v.qb, 0, none⟩), .pointer (some ⟨v.wb, 0, none⟩), .int .i64 0, .slice v.NA v.NL.length v.nC, .slice v.KA v.CL.length v.kC, .pointer (some ⟨v.cb, 0, none⟩), .bool false] 87
  book : BookP w (fun k => reg k = 1) (fun k => reg k = 2) (fun k => reg k = 3) v.bb v.db v.sb v.lb v.pb v.tb v.mb v.hb v.N v.cnt v.used v.nu v.m v.n v.nc v.pend v.T
  tab : TabAt w (fun k => reg k = 4) v.tt v.room v.ls
  map : MapAt w 9 v.ab v.na v.g
  cnt : CntAt w v.cb
  win : WinAt 5 w (fun k => reg k = 1) v.wb v.win
  names : ReadsOf Value.string (⟨#[]⟩ : ByteArray) w v.NA v.NL.length v.NL
  code : Ip.IsCode w v.KA v.CL
  nin : ∀ a, v.NA = some a → reg a.block = 1
  kin : ∀ a, v.KA = some a → reg a.block = 1
  le : reg v.eb = 5
  lbb : reg v.bb = 6
  lm : reg v.mb = 7
  lh : reg v.hb = 8
  la : reg v.ab = 9
  lc : reg v.cb = 10
  lt : ∀ k, reg k ≠ 0 → k < w.heap.size

section
variable {w w' : World} {reg reg' : Nat → Nat} {v : EngV} {S : Nat → Prop}
theorem EngC.chg (h : EngC w reg v) (hc : Chg S w w') (hS : ∀ k, reg k ≠ 0 → ¬ S k) : EngC w' reg v := by
  have e1 : ∀ k, reg k = 1 → ¬ S k := fun k hk => hS k (by omega)
  exact ⟨hc.blk h.blk (hS _ (by rw [h.le]; decide)), h.book.chg hc e1 (fun k hk => hS k (by omega)) (fun k hk => hS k (by omega)) (hS _ (by rw [h.lbb]; decide)) (hS _ (by rw [h.lm]; decide)) (hS _ (by rw [h.lh]; decide)),
    h.tab.chg hc (fun k hk => hS k (by omega)), h.map.chg hc (hS _ (by rw [h.la]; decide)), h.cnt.chg hc (hS _ (by rw [h.lc]; decide)), h.win.chg hc e1, hc.reads h.names (fun a ha => e1 _ (h.nin a ha)), isCode_chg h.code hc (fun a ha => e1 _ (h.kin a ha)),
    h.nin, h.kin, h.le, h.lbb, h.lm, h.lh, h.la, h.lc, fun k hk => Nat.lt_of_lt_of_le (h.lt k hk) hc.size⟩
theorem EngC.below (h : EngC w reg v) (hb : Below w.heap.size w w') : EngC w' reg v := h.chg (Chg.of_below hb (fun _ => False)) (fun _ _ h => h)
theorem EngC.relab (h : EngC w reg v) (h1 : ∀ k, reg k ≠ 0 → reg' k = reg k) (h2 : ∀ k, reg k = 0 → reg' k ≠ 0 → reg' k ≤ 4 ∧ k < w.heap.size) : EngC w reg' v := by
  have lt : ∀ k, reg' k ≠ 0 → k < w.heap.size := fun k hk => by
    by_cases h0 : reg k = 0
    · exact (h2 k h0 hk).2
    · exact h.lt k h0
  have e1 : ∀ k, reg k = 1 → reg' k = 1 := fun k hk => by rw [h1 k (by omega), hk]
  have ee := h1 v.eb (by rw [h.le]; decide)
  have eb := h1 v.bb (by rw [h.lbb]; decide)
  have em := h1 v.mb (by rw [h.lm]; decide)
  have eh := h1 v.hb (by rw [h.lh]; decide)
  have ea := h1 v.ab (by rw [h.la]; decide)
  have ec := h1 v.cb (by rw [h.lc]; decide)
  have ne : ∀ k, reg' k ≤ 4 → k ≠ v.bb ∧ k ≠ v.mb ∧ k ≠ v.hb := fun k hk => by
    refine ⟨fun e => ?_, fun e => ?_, fun e => ?_⟩ <;> subst e
    · rw [eb, h.lbb] at hk; omega
    · rw [em, h.lm] at hk; omega
    · rw [eh, h.lh] at hk; omega
  exact ⟨h.blk, h.book.relab e1 (fun k hk => by rw [h1 k (by omega), hk]) (fun k hk => by rw [h1 k (by omega), hk]) (fun k hk => ⟨by omega, by omega, ne k (by omega)⟩) (fun k hk => ⟨by omega, ne k (by omega)⟩) (fun k hk => ne k (by omega)) (fun k hk => lt k (by omega)),
    h.tab.mono (fun k hk => by rw [h1 k (by omega), hk]), h.map, h.cnt, h.win.mono e1 (Nat.le_refl _), h.names, h.code, fun a ha => e1 _ (h.nin a ha), fun a ha => e1 _ (h.kin a ha), ee.trans h.le, eb.trans h.lbb, em.trans h.lm, eh.trans h.lh, ea.trans h.la, ec.trans h.lc, lt⟩
/-- The labels, with new blocks labelled. -/
def grow (reg : Nat → Nat) (a b c : Nat) : Nat → Nat := fun k => if k < a then reg k else if k < b then c else 0
theorem grow_old {a b c k : Nat} (h : k < a) : grow reg a b c k = reg k := if_pos h
theorem grow_new {a b c k : Nat} (h : ¬ k < a) (h2 : k < b) : grow reg a b c k = c := by unfold grow; rw [if_neg h, if_pos h2]
theorem grow_far {a b c k : Nat} (h : ¬ k < a) (h2 : ¬ k < b) : grow reg a b c k = 0 := by unfold grow; rw [if_neg h, if_neg h2]
/-- The table was touched. -/
theorem EngC.touch (h : EngC w reg v) {ls : List ByteArray} (ht : TabAt w' (fun j => reg j = 4 ∨ w.heap.size ≤ j) v.tt v.room ls) (hc : Chg (fun k => reg k = 4) w w') : EngC w' (grow reg w.heap.size w'.heap.size 4) { v with ls := ls } := by
  have g1 : ∀ k, reg k ≠ 0 → grow reg w.heap.size w'.heap.size 4 k = reg k := fun k hk => grow_old (h.lt k hk)
  have lt : ∀ k, grow reg w.heap.size w'.heap.size 4 k ≠ 0 → k < w'.heap.size := fun k hk => by
    by_cases a : k < w.heap.size
    · exact Nat.lt_of_lt_of_le a hc.size
    · by_cases b : k < w'.heap.size
      · exact b
      · exact absurd (grow_far a b) hk
  have kp : ∀ c k, c ≠ 0 → reg k = c → grow reg w.heap.size w'.heap.size 4 k = c := fun c k hc hk => by rw [g1 k (by omega), hk]
  have bk := h.book.chg hc (fun k hk => by omega) (fun k hk => by omega) (fun k hk => by omega) (by rw [h.lbb]; decide) (by rw [h.lm]; decide) (by rw [h.lh]; decide)
  have ne : ∀ k, grow reg w.heap.size w'.heap.size 4 k ≠ 0 → grow reg w.heap.size w'.heap.size 4 k ≤ 4 → k ≠ v.bb ∧ k ≠ v.mb ∧ k ≠ v.hb := fun k _ hk => by
    refine ⟨fun e => ?_, fun e => ?_, fun e => ?_⟩ <;> subst e
    · rw [kp 6 _ (by decide) h.lbb] at hk; omega
    · rw [kp 7 _ (by decide) h.lm] at hk; omega
    · rw [kp 8 _ (by decide) h.lh] at hk; omega
  refine ⟨hc.blk h.blk (by rw [h.le]; decide), bk.relab (fun k => kp 1 k (by decide)) (fun k => kp 2 k (by decide)) (fun k => kp 3 k (by decide)) (fun k hk => ⟨by omega, by omega, ne k (by omega) (by omega)⟩) (fun k hk => ⟨by omega, ne k (by omega) (by omega)⟩) (fun k hk => ne k (by omega) (by omega)) (fun k hk => lt k (by omega)),
    ht.lt.mono (fun k hk => ?_), h.map.chg hc (by rw [h.la]; decide), h.cnt.chg hc (by rw [h.lc]; decide), (h.win.chg hc (fun k hk => by omega)).mono (fun k => kp 1 k (by decide)) (Nat.le_refl _), hc.reads h.names (fun a ha => by have := h.nin a ha; omega), isCode_chg h.code hc (fun a ha => by have := h.kin a ha; omega),
    fun a ha => kp 1 _ (by decide) (h.nin a ha), fun a ha => kp 1 _ (by decide) (h.kin a ha), kp 5 _ (by decide) h.le, kp 6 _ (by decide) h.lbb, kp 7 _ (by decide) h.lm, kp 8 _ (by decide) h.lh, kp 9 _ (by decide) h.la, kp 10 _ (by decide) h.lc, lt⟩
  rcases hk.1 with a | a
  · exact kp 4 k (by decide) a
  · exact grow_new (by omega) hk.2
/-- The map of the actors was written. -/
theorem EngC.mapped (h : EngC w reg v) {na : Nat} {g : Lit → Option Value} (hm : MapAt w' 9 v.ab na g) (hc : Chg (fun k => k = v.ab) w w') : EngC w' reg { v with na := na, g := g } := by
  have ne : ∀ k, reg k ≠ 9 → ¬ (k = v.ab) := fun k hk e => by subst e; exact hk h.la
  exact ⟨hc.blk h.blk (ne _ (by rw [h.le]; decide)), h.book.chg hc (fun k hk => ne k (by omega)) (fun k hk => ne k (by omega)) (fun k hk => ne k (by omega)) (ne _ (by rw [h.lbb]; decide)) (ne _ (by rw [h.lm]; decide)) (ne _ (by rw [h.lh]; decide)),
    h.tab.chg hc (fun k hk => ne k (by omega)), hm, h.cnt.chg hc (ne _ (by rw [h.lc]; decide)), h.win.chg hc (fun k hk => ne k (by omega)), hc.reads h.names (fun a ha => ne _ (by rw [h.nin a ha]; decide)), isCode_chg h.code hc (fun a ha => ne _ (by rw [h.kin a ha]; decide)),
    h.nin, h.kin, h.le, h.lbb, h.lm, h.lh, h.la, h.lc, fun k hk => Nat.lt_of_lt_of_le (h.lt k hk) hc.size⟩
/-- A counter was raised. -/
theorem EngC.counted (h : EngC w reg v) (hn : CntAt w' v.cb) (hc : Chg (fun k => k = v.cb) w w') : EngC w' reg v := by
  have ne : ∀ k, reg k ≠ 10 → ¬ (k = v.cb) := fun k hk e => by subst e; exact hk h.lc
  exact ⟨hc.blk h.blk (ne _ (by rw [h.le]; decide)), h.book.chg hc (fun k hk => ne k (by omega)) (fun k hk => ne k (by omega)) (fun k hk => ne k (by omega)) (ne _ (by rw [h.lbb]; decide)) (ne _ (by rw [h.lm]; decide)) (ne _ (by rw [h.lh]; decide)),
    h.tab.chg hc (fun k hk => ne k (by omega)), h.map.chg hc (ne _ (by rw [h.la]; decide)), hn, h.win.chg hc (fun k hk => ne k (by omega)), hc.reads h.names (fun a ha => ne _ (by rw [h.nin a ha]; decide)), isCode_chg h.code hc (fun a ha => ne _ (by rw [h.kin a ha]; decide)),
    h.nin, h.kin, h.le, h.lbb, h.lm, h.lh, h.la, h.lc, fun k hk => Nat.lt_of_lt_of_le (h.lt k hk) hc.size⟩
end
end Go.Proofs.YtlcdjgpblpodaaaGreatDoor
namespace Go.Proofs.YtlcdjgpblpodaaaGreatDoor
open Go.RowKit Go.Maps Go.Proofs.YtlcdjgpblpodaaaGreatDoorW.PrintWords

/-- gone: the engine is not lost. -/
theorem gone_any (eb : Nat) (w : World) (c9 : w.cell? ⟨eb, 9, none⟩ = some (.bool false)) : Calls Tryz.prog 35 #[.pointer (some ⟨eb, 0, none⟩)] w fun e w' => e = .returned (.int .i64 0) ∧ w = w' := by
  go_enter Tryz.func35, Tryz.ntmps35
  go_wp2
  go_ret
  exact ⟨rfl, rfl⟩
/-- end, where all is well. -/
theorem end_ok (eb : Nat) (w : World) : Calls Tryz.prog 39 #[.pointer (some ⟨eb, 0, none⟩), .int .i64 0] w fun e w' => e = .returned (.int .i64 0) ∧ w = w' := by
  go_enter Tryz.func39, Tryz.ntmps39
  go_wp2
  go_ret
  exact ⟨rfl, rfl⟩
/-- end, where something was refused. -/
theorem end_bad (eb cb f : Nat) (hf : f ≠ 0 ∧ f ≠ 9) (w : World) (c8 : w.cell? ⟨eb, 8, none⟩ = some (.pointer (some ⟨cb, 0, none⟩))) (h : CntAt w cb) : Calls Tryz.prog 39 #[.pointer (some ⟨eb, 0, none⟩), .int .i64 f] w fun e w' => e = .returned (.int .i64 f) ∧ CntAt w' cb ∧ Chg (fun k => k = cb) w w' := by
  have HC := Lib.hid (count_any cb 6 (by omega) 1 w h)
  have t1 : ((f : Int) == 9) = false := by rw [beq_eq_false_iff_ne]; omega
  have t2 : ((f : Int) == 0) = false := by rw [beq_eq_false_iff_ne]; omega
  clear h hf
  go_enter Tryz.func39, Tryz.ntmps39
  go_wp2_with fail
  refine HC.out.mono ?_
  rintro e w1 ⟨⟨x, rfl⟩, h1, h2⟩
  have H1 := Lib.hid h1
  have H2 := Lib.hid h2
  clear h1 h2
  go_wp2_with fail
  go_ret
  exact ⟨rfl, H1.out, H2.out⟩
/-- copied: the actor, in new memory. -/
theorem copied_any {fr : Bool} (X : Nat → Prop) (p : Nat) (a : Actr) (ha : a.Ok) (he : OutEnc a.outb) (hd : OutDec a.outb) (w : World) (h : ActAt fr w X p a) :
    Calls Tryz.prog 41 #[.pointer (some ⟨p, 0, none⟩)] w fun e w' => ∃ q, e = .returned (.pointer (some ⟨q, 0, none⟩)) ∧ ActAt true w' (fun k => w.heap.size ≤ k) q a ∧ Below w.heap.size w w' := by
  have HE := Lib.hid (actenc X p a ha he w h)
  have HA := Lib.hid ha
  have HD := Lib.hid hd
  clear h ha he hd
  go_enter Tryz.func41, Tryz.ntmps41
  go_wp2_with fail
  refine HE.out.mono ?_
  rintro e w1 ⟨A, c, rfl, ho, hb1⟩
  have hr : ReadsOf (Value.int .u8) (0 : Int) w1 A (encAct a).length (encAct a) := by
    obtain ⟨A', c', he, hle, hr⟩ := own_reads_of_le (d := (0 : Int)) ho
    injection he with he1 he2 he3
    subst he1 he3
    exact hr
  have HC := Lib.hid (actdec A c a HA.out HD.out w1 hr)
  have HB1 := Lib.hid hb1
  clear hb1 ho hr
  go_wp2_with fail
  refine HC.out.mono ?_
  rintro e w2 ⟨q, rfl, hq, hb2⟩
  have hs := HB1.out.size
  have HQ := Lib.hid (hq.mono (X' := fun k => w.heap.size ≤ k) (fun k hk => by omega))
  have HB2 := Lib.hid (HB1.out.trans (hb2.mono hs))
  clear hq hb2
  go_wp2_with fail
  go_ret
  exact ⟨q, rfl, HQ.out, HB2.out⟩

/-- What holds of each actor. -/
def ActOk (k : ByteArray) (a : Actr) : Prop := a.Ok ∧ OutEnc a.outb ∧ OutDec a.outb ∧ a.outb.owner = k ∧ (freshA a = true → a = actr0 k)
/-- kept: the actor as the book has it. -/
theorem kept_any (F : Nat → Prop) (eb bb mb n : Nat) (T : ByteArray → Option (List Int)) (k : ByteArray) (hk : KeyOk k) (a : Actr) (ha : ActOk k a) (hT : T (akey k) = if freshA a then none else some (encAct a)) (w : World)
    (c0 : w.cell? ⟨eb, 0, none⟩ = some (.pointer (some ⟨bb, 0, none⟩))) (c6 : w.cell? ⟨bb, 6, none⟩ = some (.map (some mb))) (h : TblAt w F mb n T) :
    Calls Tryz.prog 94 #[.pointer (some ⟨eb, 0, none⟩), .string k] w fun e w' => ∃ p, e = .returned (.pointer (some ⟨p, 0, none⟩)) ∧ ActAt true w' (fun j => w.heap.size ≤ j) p a ∧ Below w.heap.size w w' := by
  have hs : (akey k).size ≤ 1000 := by rw [akey_size]; have := hk.2; omega
  have hadd := fun W => run_string_add_sum (P := Tryz.prog) W ⟨#[97]⟩ k (by have := hk.2; show 1 + k.size ≤ _; omega)
  cases hf : freshA a with
  | true =>
    obtain rfl := ha.2.2.2.2 hf
    rw [hf] at hT
    have HG := Lib.hid (get_none F bb mb n T (akey k) hs hT w c6 h)
    have HK := Lib.hid hk
    unfold akey at HG
    clear h ha hT c6 hs hf hk
    go_enter Tryz.func94, Tryz.ntmps94
    go_wp2_with fail
    refine HG.out.mono ?_
    rintro e w1 ⟨A, c, rfl, hb1⟩
    have HB1 := Lib.hid hb1
    clear hb1
    go_wp2_with fail
    refine (newact k HK.out w1).mono ?_
    rintro e w2 ⟨p, rfl, hp, hb2⟩
    have hs := HB1.out.size
    have HP := Lib.hid (hp.mono (X' := fun k => w.heap.size ≤ k) (fun k hk => by omega))
    have HB2 := Lib.hid (HB1.out.trans (hb2.mono hs))
    clear hp hb2
    go_wp2_with fail
    go_ret
    exact ⟨p, rfl, HP.out, HB2.out⟩
  | false =>
    rw [hf] at hT
    have HG := Lib.hid (get_some F bb mb n T (akey k) hs (encAct a) hT w c6 h)
    have HA := Lib.hid ha
    unfold akey at HG
    clear h ha hT c6 hs hf hk
    go_enter Tryz.func94, Tryz.ntmps94
    go_wp2_with fail
    refine HG.out.mono ?_
    rintro e w1 ⟨A, c, rfl, ho, hb1⟩
    have hr : ReadsOf (Value.int .u8) (0 : Int) w1 A (encAct a).length (encAct a) := by
      obtain ⟨A', c', he, hle, hr⟩ := own_reads_of_le (d := (0 : Int)) ho
      injection he with he1 he2 he3
      subst he1 he3
      exact hr
    have HC := Lib.hid (actdec A c a HA.out.1 HA.out.2.2.1 w1 hr)
    have HB1 := Lib.hid hb1
    clear hb1 ho hr
    go_wp2_with fail
    refine HC.out.mono ?_
    rintro e w2 ⟨p, rfl, hp, hb2⟩
    have hs := HB1.out.size
    have HP := Lib.hid (hp.mono (X' := fun k => w.heap.size ≤ k) (fun k hk => by omega))
    have HB2 := Lib.hid (HB1.out.trans (hb2.mono hs))
    clear hp hb2
    go_wp2_with fail
    go_ret
    exact ⟨p, rfl, HP.out, HB2.out⟩
end Go.Proofs.YtlcdjgpblpodaaaGreatDoor

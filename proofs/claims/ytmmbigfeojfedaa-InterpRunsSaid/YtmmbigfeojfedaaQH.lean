/- The law InterpRuns, walked. -/
import Derived.Test.YtmmbigfeojfedaaQG
import Derived.Test.YtmmbigfeojfedaaEv2
namespace Go.Proofs.Ytmmbigfeojfedaa
open Go.RowKit Go.Proofs.YtmmbigfeojfedaaW.PrintWords

set_option maxRecDepth 100000 in
set_option maxHeartbeats 4000000 in
theorem runs_any (nA kA aA : Option Addr) (nC kC aC : Nat) (NL : List ByteArray) (CL : List (Int × Int)) (AL : List Int) (frm : ByteArray) (ser kd now : Int) (reg : Nat → Int) (w : World)
    (hN : ReadsOf Value.string (⟨#[]⟩ : ByteArray) w nA NL.length NL) (hC : IsCode w kA CL) (hA : ReadsOf (Value.int .i64) (0 : Int) w aA AL.length AL) (hev : EvC (evE NL CL frm ser kd aA aC AL now)) (hr : ∀ j, InR (reg j)) :
    Calls Try.prog 3 #[.agg #[.slice nA NL.length nC, .slice kA CL.length kC], .agg (regC reg), .agg #[.string frm, .int .u64 ser, .int .i64 kd, .slice aA AL.length aC], .int .i64 now] w (fun e w' => e = .returned (.bool true) ∧ Below w.heap.size w w') := by
  have HN := Lib.hid hN
  have HC := Lib.hid hC
  have HA := Lib.hid hA
  have HEV := Lib.hid hev
  have HRR := Lib.hid hr
  obtain ⟨W0, hW0⟩ : ∃ W, W = ((w.alloc (.cells #[.slice nA NL.length nC, .slice kA CL.length kC] 25)).alloc (.cells (regC reg) 26)).alloc (.cells #[.string frm, .int .u64 ser, .int .i64 kd, .slice aA AL.length aC] 30) := ⟨_, rfl⟩
  have h1 : Below w.heap.size w (w.alloc (.cells #[.slice nA NL.length nC, .slice kA CL.length kC] 25)) := (Below.refl _ _).alloc (Nat.le_refl _) _
  have h2 := h1.alloc h1.size (.cells (regC reg) 26)
  have HB0 := Lib.hid (show Below w.heap.size w W0 from hW0 ▸ h2.alloc h2.size _)
  have H40 := Lib.hid (show Blk W0 w.heap.size #[.slice nA NL.length nC, .slice kA CL.length kC] 25 from hW0 ▸ ((Blk.new _ _ _).alloc _).alloc _)
  have H50 := Lib.hid (show Blk W0 (w.heap.size + 1) (regC reg) 26 from hW0 ▸ (Blk.newAt (by simp)).alloc _)
  have H60 := Lib.hid (show Blk W0 (w.heap.size + 2) #[.string frm, .int .u64 ser, .int .i64 kd, .slice aA AL.length aC] 30 from hW0 ▸ Blk.newAt (by simp))
  have HW0 := Lib.hid hW0
  clear hN hC hA hev hr hW0 h1 h2
  go_enter Try.func3, Try.ntmps3
  go_upto_region 1 with fail
  rw [← HW0.out]
  clear HW0
  go_wp2_with fail
  refine (awake_any _).mono ?_
  rintro e w1 ⟨rfl, hb1⟩
  have HB1 := Lib.hid (HB0.out.trans (hb1.mono HB0.out.size))
  have H41 := Lib.hid (H40.out.below hb1)
  have H51 := Lib.hid (H50.out.below hb1)
  have H61 := Lib.hid (H60.out.below hb1)
  have u4 : ∀ i, w1.cell? ⟨w.heap.size, i, none⟩ = _ := fun i => H41.out.cell i
  have u6 : ∀ i, w1.cell? ⟨w.heap.size + 2, i, none⟩ = _ := fun i => H61.out.cell i
  clear hb1 HB0 H40 H50 H60
  go_wp2_with fail
  refine (fewL_any nA kA aA nC kC aC CL.length AL.length NL frm ser kd _ (HN.out.below HB1.out)).mono ?_
  rintro e w2 ⟨hb2, b, rfl, hfew⟩
  have HB2 := Lib.hid (HB1.out.trans (hb2.mono HB1.out.size))
  have H42 := Lib.hid (H41.out.below hb2)
  have H52 := Lib.hid (H51.out.below hb2)
  have H62 := Lib.hid (H61.out.below hb2)
  have HF := Lib.hid hfew
  clear hb2 HB1 H41 H51 H61 u4 u6 hfew
  cases b with
  | false =>
    go_wp2_with fail
    refine (awake_any _).mono ?_
    rintro e w3 ⟨rfl, hb3⟩
    have HB3 := Lib.hid (HB2.out.trans (hb3.mono HB2.out.size))
    clear hb3
    go_wp2_with fail
    go_ret
    exact ⟨rfl, HB3.out⟩
  | true =>
    obtain ⟨hcl, hnl⟩ := HF.out rfl
    clear HF
    go_upto_region 3 with fail
    obtain ⟨z, S, hzR⟩ : ∃ z S, ((runF (evE NL CL frm ser kd aA aC AL now) reg).1, endS (runF (evE NL CL frm ser kd aA aC AL now) reg)) = (z, S) := ⟨_, _, rfl⟩
    obtain ⟨n1, n2, n3⟩ : S.ev.length ≤ 1000 ∧ S.sent.length ≤ 1000 ∧ S.tm.length ≤ 1000 := by rw [← (Prod.mk.inj hzR).2]; exact len_end _ _
    have HZR := Lib.hid hzR
    clear hzR
    obtain ⟨b4, hb4⟩ : ∃ b, b = w.heap.size := ⟨_, rfl⟩
    obtain ⟨b5, hb5⟩ : ∃ b, b = w.heap.size + 1 := ⟨_, rfl⟩
    obtain ⟨b6, hb6⟩ : ∃ b, b = w.heap.size + 1 + 1 := ⟨_, rfl⟩
    rw [← hb6, ← hb5, ← hb4]
    have H4 := Lib.hid (hb4 ▸ H42.out)
    have H5 := Lib.hid (hb5 ▸ H52.out)
    have H6 := Lib.hid (hb6 ▸ H62.out)
    have l5 : w.heap.size ≤ b5 := by omega
    clear H42 H52 H62 hb4 hb5 hb6
    have D4 := Lib.hid H4.out.drew
    have D5 := Lib.hid H5.out.drew
    have D6 := Lib.hid H6.out.drew
    have HBD := Lib.hid HB2.out.drew
    have q4 : ∀ i, w2.drew.cell? ⟨b4, i, none⟩ = _ := fun i => H4.out.cell i
    have q5 : ∀ i, w2.drew.cell? ⟨b5, i, none⟩ = _ := fun i => H5.out.cell i
    have q6 : ∀ i, w2.drew.cell? ⟨b6, i, none⟩ = _ := fun i => H6.out.cell i
    obtain ⟨Sx, hSD⟩ : ∃ Sx : World → Prop, Sx = fun w' => (∀ i, w'.cell? ⟨b4, i, none⟩ = #[.slice nA NL.length nC, .slice kA CL.length kC][i]?) ∧ (∀ i, w'.cell? ⟨b5, i, none⟩ = (regC reg)[i]?) ∧ (∀ i, w'.cell? ⟨b6, i, none⟩ = #[.string frm, .int .u64 ser, .int .i64 kd, .slice aA AL.length aC][i]?) := ⟨_, rfl⟩
    have HSD := Lib.hid hSD
    clear hSD
    go_cut [9, 10] (fun v9 v10 wx => ∃ (rb : Nat) (eA : Option Addr) (eC : Nat) (sA : Option Addr) (sC : Nat) (tA : Option Addr) (tC : Nat), v9 = .pointer (some ⟨rb, 0, none⟩) ∧ v10 = .int .i64 z ∧ Blk wx rb (resC S.reg (.slice eA S.ev.length eC) (.slice sA S.sent.length sC) (.slice tA S.tm.length tC) S.steps) 37 ∧ Below w.heap.size w wx ∧ wx.ownsRow w.heap.size 56 2 (.slice eA S.ev.length eC) S.ev.length (encE S.ev) ∧ wx.ownsRow w.heap.size 66 3 (.slice sA S.sent.length sC) S.sent.length (encS S.sent) ∧ wx.ownsRow w.heap.size 58 5 (.slice tA S.tm.length tC) S.tm.length (encT S.tm) ∧ Blk wx b4 #[.slice nA NL.length nC, .slice kA CL.length kC] 25 ∧ Blk wx b5 (regC reg) 26 ∧ Blk wx b6 #[.string frm, .int .u64 ser, .int .i64 kd, .slice aA AL.length aC] 30)
    case first =>
      refine Held.region Sx 11 (by kernel_rfl) (by rw [HSD.out]; exact ⟨q4, q5, q6⟩) (fun hHeld => ?_)
      refine Held.take (i := 0) (oi := { dst := _, op := _, type := _, pos := _, after := _, guard := _ }) (v := ?v0q10) rfl (by kernel_rfl) (by kernel_rfl) (by kernel_rfl) (by kernel_rfl) (fun _ _ _ h => h) (Or.inl ⟨by rfl, ?hy0q10⟩) (by assumption) ?rest0q10
      case hy0q10 => (intro w hSw; rw [HSD.out] at hSw; (try dsimp only at hSw); obtain ⟨hs1, hs2, hs3⟩ := hSw; go_simp; (try with_reducible rfl))
      try simp only [Act.put, List.setIfInBounds_toArray, List.set_cons_zero, List.set_cons_succ]
      refine Held.take (i := 2) (oi := { dst := _, op := _, type := _, pos := _, after := _, guard := _ }) (v := ?v2q11) rfl (by kernel_rfl) (by kernel_rfl) (by kernel_rfl) (by kernel_rfl) (fun _ _ _ h => h) (Or.inl ⟨by rfl, ?hy2q11⟩) (by assumption) ?rest2q11
      case hy2q11 => (intro w hSw; rw [HSD.out] at hSw; (try dsimp only at hSw); obtain ⟨hs1, hs2, hs3⟩ := hSw; go_simp; (try with_reducible rfl))
      try simp only [Act.put, List.setIfInBounds_toArray, List.set_cons_zero, List.set_cons_succ]
      refine Held.take (i := 3) (oi := { dst := _, op := _, type := _, pos := _, after := _, guard := _ }) (v := ?v3q12) rfl (by kernel_rfl) (by kernel_rfl) (by kernel_rfl) (by kernel_rfl) (fun _ _ _ h => h) (Or.inl ⟨by rfl, ?hy3q12⟩) (by assumption) ?rest3q12
      case hy3q12 => (intro w hSw; rw [HSD.out] at hSw; (try dsimp only at hSw); obtain ⟨hs1, hs2, hs3⟩ := hSw; go_simp; (try with_reducible rfl))
      try simp only [Act.put, List.setIfInBounds_toArray, List.set_cons_zero, List.set_cons_succ]
      refine Held.take (i := 4) (oi := { dst := _, op := _, type := _, pos := _, after := _, guard := _ }) (v := ?v4q13) rfl (by kernel_rfl) (by kernel_rfl) (by kernel_rfl) (by kernel_rfl) (fun _ _ _ h => h) (Or.inl ⟨by rfl, ?hy4q13⟩) (by assumption) ?rest4q13
      case hy4q13 => (intro w hSw; rw [HSD.out] at hSw; (try dsimp only at hSw); obtain ⟨hs1, hs2, hs3⟩ := hSw; go_simp; (try with_reducible rfl))
      try simp only [Act.put, List.setIfInBounds_toArray, List.set_cons_zero, List.set_cons_succ]
      refine Held.two (i := 1) (j := 9) (o := { dst := _, op := _, type := _, pos := _, after := _, guard := _ }) (p := { dst := _, op := _, type := _, pos := _, after := _, guard := _ }) (by kernel_rfl) rfl rfl (fun K hK => ?_) (fun K hK => ?_)
      · go_simp
        refine (theirs_any nA kA nC kC NL CL w2.drew (HN.out.below HBD.out) (HC.out.below HBD.out) hcl hnl).mono ?_
        rintro e w3 ⟨hb3, nA', nC', kA', kC', rfl, hN3, hC3⟩
        have HB3 := Lib.hid (HBD.out.trans (hb3.mono HBD.out.size))
        have E4 := Lib.hid ((D4.out).below hb3)
        have E5 := Lib.hid ((D5.out).below hb3)
        have E6 := Lib.hid ((D6.out).below hb3)
        have HN3 := Lib.hid hN3
        have HC3 := Lib.hid hC3
        clear hb3 hN3 hC3
        refine hK.out _ _ (fun _ => (by rw [HSD.out]; exact ⟨fun i => E4.out.cell i, fun i => E5.out.cell i, fun i => E6.out.cell i⟩)) (fun hH2 => ?_)
        clear hK K
        replace hH2 := hH2 (by decide)
        refine Held.two (i := 5) (j := 9) (o := { dst := _, op := _, type := _, pos := _, after := _, guard := _ }) (p := { dst := _, op := _, type := _, pos := _, after := _, guard := _ }) (by kernel_rfl) rfl rfl (fun K hK => ?_) (fun K hK => ?_)
        · go_simp
          refine (run_u w3 nA' kA' nC' kC' z S HZR.out HN3.out (HA.out.below HB3.out) HC3.out hcl).mono ?_
          rintro e w4 ⟨hb4, eA, eC, sA, sC, tA, tC, rfl, o1, o2, o3⟩
          have HB4 := Lib.hid (HB3.out.trans (hb4.mono HB3.out.size))
          have F4 := Lib.hid ((E4.out).below hb4)
          have F5 := Lib.hid ((E5.out).below hb4)
          have F6 := Lib.hid ((E6.out).below hb4)
          have HO1 := Lib.hid (World.ownsRow.mono o1 HB3.out.size)
          have HO2 := Lib.hid (World.ownsRow.mono o2 HB3.out.size)
          have HO3 := Lib.hid (World.ownsRow.mono o3 HB3.out.size)
          clear o1 o2 o3
          clear hb4
          unfold resC
          refine hK.out _ _ (fun _ => (by rw [HSD.out]; exact ⟨fun i => F4.out.cell i, fun i => F5.out.cell i, fun i => F6.out.cell i⟩)) (fun hH3 => ?_)
          clear hK K
          replace hH3 := hH3 (by decide)
          refine Held.take (i := 6) (oi := { dst := _, op := _, type := _, pos := _, after := _, guard := _ }) (v := ?v6q1) rfl (by kernel_rfl) (by kernel_rfl) (by kernel_rfl) (by kernel_rfl) (fun _ _ _ h => h) (Or.inl ⟨by rfl, ?hy6q1⟩) (by assumption) ?rest6q1
          case hy6q1 => (intro w hSw; rw [HSD.out] at hSw; (try dsimp only at hSw); obtain ⟨hs1, hs2, hs3⟩ := hSw; go_simp; (try with_reducible rfl))
          try simp only [Act.put, List.setIfInBounds_toArray, List.set_cons_zero, List.set_cons_succ]
          refine Held.take (i := 7) (oi := { dst := _, op := _, type := _, pos := _, after := _, guard := _ }) (v := ?v7q2) rfl (by kernel_rfl) (by kernel_rfl) (by kernel_rfl) (by kernel_rfl) (fun _ _ _ h => h) (Or.inl ⟨by rfl, ?hy7q2⟩) (by assumption) ?rest7q2
          case hy7q2 => (intro w hSw; rw [HSD.out] at hSw; (try dsimp only at hSw); obtain ⟨hs1, hs2, hs3⟩ := hSw; go_simp; (try with_reducible rfl))
          try simp only [Act.put, List.setIfInBounds_toArray, List.set_cons_zero, List.set_cons_succ]
          refine Held.take (i := 8) (oi := { dst := _, op := _, type := _, pos := _, after := _, guard := _ }) (v := ?v8q3) rfl (by kernel_rfl) (by kernel_rfl) (by kernel_rfl) (by kernel_rfl) (fun _ _ _ h => h) (Or.inl ⟨by rfl, ?hy8q3⟩) (by assumption) ?rest8q3
          case hy8q3 => (intro w hSw; rw [HSD.out] at hSw; (try dsimp only at hSw); obtain ⟨hs1, hs2, hs3⟩ := hSw; go_simp; (try with_reducible rfl))
          try simp only [Act.put, List.setIfInBounds_toArray, List.set_cons_zero, List.set_cons_succ]
          refine Held.one (i := 9) (o := { dst := _, op := _, type := _, pos := _, after := _, guard := _ }) (by kernel_rfl) rfl (fun K hK => ?_)
          go_simp
          have HBA := Lib.hid (HB4.out.alloc HB4.out.size (.cells (resC (fun _ => 0) (.slice none 0 0) (.slice none 0 0) (.slice none 0 0) 0) 37))
          have HZ4 := Lib.hid (Blk.new w4 (resC (fun _ => 0) (.slice none 0 0) (.slice none 0 0) (.slice none 0 0) 0) 37)
          have G4 := Lib.hid (F4.out.alloc (.cells (resC (fun _ => 0) (.slice none 0 0) (.slice none 0 0) (.slice none 0 0) 0) 37))
          have G5 := Lib.hid (F5.out.alloc (.cells (resC (fun _ => 0) (.slice none 0 0) (.slice none 0 0) (.slice none 0 0) 0) 37))
          have G6 := Lib.hid (F6.out.alloc (.cells (resC (fun _ => 0) (.slice none 0 0) (.slice none 0 0) (.slice none 0 0) 0) 37))
          have HP1 := Lib.hid (HO1.out.alloc (.cells (resC (fun _ => 0) (.slice none 0 0) (.slice none 0 0) (.slice none 0 0) 0) 37))
          have HP2 := Lib.hid (HO2.out.alloc (.cells (resC (fun _ => 0) (.slice none 0 0) (.slice none 0 0) (.slice none 0 0) 0) 37))
          have HP3 := Lib.hid (HO3.out.alloc (.cells (resC (fun _ => 0) (.slice none 0 0) (.slice none 0 0) (.slice none 0 0) 0) 37))
          refine hK.out _ _ (fun _ => (by rw [HSD.out]; exact ⟨fun i => G4.out.cell i, fun i => G5.out.cell i, fun i => G6.out.cell i⟩)) (fun hH6 => ?_)
          clear hK K
          replace hH6 := hH6 (by decide)
          have zc : ∀ i, (w4.alloc (.cells (resC (fun _ => 0) (.slice none 0 0) (.slice none 0 0) (.slice none 0 0) 0) 37)).cell? ⟨w4.heap.size, i, none⟩ = _ := fun i => HZ4.out.cell i
          have zf : ∀ i, (w4.alloc (.cells (resC (fun _ => 0) (.slice none 0 0) (.slice none 0 0) (.slice none 0 0) 0) 37)).frozen? ⟨w4.heap.size, i, none⟩ = false := fun i => HZ4.out.free i
          unfold resC at zc
          refine Held.one (i := 10) (o := { dst := _, op := _, type := _, pos := _, after := _, guard := _ }) (by kernel_rfl) rfl (fun K hK => ?_)
          (try unfold resC)
          go_simp
          refine hK.out _ _ (fun _ => (by rw [HSD.out]; exact ⟨fun i => (F4.out.alloc _).cell i, fun i => (F5.out.alloc _).cell i, fun i => (F6.out.alloc _).cell i⟩)) (fun hH7 => ?_)
          clear hK K
          replace hH7 := hH7 (by decide)
          refine Held.one (i := 11) (o := { dst := _, op := _, type := _, pos := _, after := _, guard := _ }) (by kernel_rfl) rfl (fun K hK => ?_)
          go_simp
          refine hK.out _ _ (fun h => absurd rfl h) (fun _ => ?_)
          clear hK K
          refine Held.done (by kernel_rfl) ?_ _
          refine NoPanic.normal ?_
          go_wp2
          go_meet
          exact ⟨_, eA, eC, sA, sC, tA, tC, rfl, rfl, Blk.newAt rfl, HB4.out.alloc HB4.out.size _, HO1.out.alloc _, HO2.out.alloc _, HO3.out.alloc _, F4.out.alloc _, F5.out.alloc _, F6.out.alloc _⟩
        · go_simp
          have HBV := Lib.hid (HB3.out.alloc HB3.out.size (.cells (resC (fun _ => 0) (.slice none 0 0) (.slice none 0 0) (.slice none 0 0) 0) 37))
          have HZ := Lib.hid (Blk.new w3 (resC (fun _ => 0) (.slice none 0 0) (.slice none 0 0) (.slice none 0 0) 0) 37)
          obtain ⟨zb, hzb⟩ : ∃ b, b = w3.heap.size := ⟨_, rfl⟩
          have lz : w.heap.size ≤ zb := hzb ▸ HB3.out.size
          rw [← hzb] at HZ
          have V4 := Lib.hid ((E4.out).alloc (.cells (resC (fun _ => 0) (.slice none 0 0) (.slice none 0 0) (.slice none 0 0) 0) 37))
          have V5 := Lib.hid ((E5.out).alloc (.cells (resC (fun _ => 0) (.slice none 0 0) (.slice none 0 0) (.slice none 0 0) 0) 37))
          have V6 := Lib.hid ((E6.out).alloc (.cells (resC (fun _ => 0) (.slice none 0 0) (.slice none 0 0) (.slice none 0 0) 0) 37))
          rw [← hzb]
          clear hzb
          refine hK.out _ _ (fun _ => (by rw [HSD.out]; exact ⟨fun i => V4.out.cell i, fun i => V5.out.cell i, fun i => V6.out.cell i⟩)) (fun hH4 => ?_)
          clear hK K
          replace hH4 := hH4 (by decide)
          refine Held.one (i := 5) (o := { dst := _, op := _, type := _, pos := _, after := _, guard := _ }) (by kernel_rfl) rfl (fun K hK => ?_)
          go_simp
          refine (run_u (w3.alloc (.cells (resC (fun _ => 0) (.slice none 0 0) (.slice none 0 0) (.slice none 0 0) 0) 37)) nA' kA' nC' kC' z S HZR.out (HN3.out.allocS _) (HA.out.below HBV.out) (HC3.out.below ((Below.refl _ _).alloc (Nat.le_refl _) _)) hcl).mono ?_
          rintro e w4 ⟨hb4, eA, eC, sA, sC, tA, tC, rfl, o1, o2, o3⟩
          have HB4 := Lib.hid (HBV.out.trans (hb4.mono HBV.out.size))
          have F4 := Lib.hid ((V4.out).below hb4)
          have F5 := Lib.hid ((V5.out).below hb4)
          have F6 := Lib.hid ((V6.out).below hb4)
          have HO1 := Lib.hid (World.ownsRow.mono o1 HBV.out.size)
          have HO2 := Lib.hid (World.ownsRow.mono o2 HBV.out.size)
          have HO3 := Lib.hid (World.ownsRow.mono o3 HBV.out.size)
          clear o1 o2 o3
          have HZ4 := Lib.hid (HZ.out.below hb4)
          clear hb4
          unfold resC
          refine hK.out _ _ (fun _ => (by rw [HSD.out]; exact ⟨fun i => F4.out.cell i, fun i => F5.out.cell i, fun i => F6.out.cell i⟩)) (fun hH3 => ?_)
          clear hK K
          replace hH3 := hH3 (by decide)
          refine Held.take (i := 6) (oi := { dst := _, op := _, type := _, pos := _, after := _, guard := _ }) (v := ?v6q4) rfl (by kernel_rfl) (by kernel_rfl) (by kernel_rfl) (by kernel_rfl) (fun _ _ _ h => h) (Or.inl ⟨by rfl, ?hy6q4⟩) (by assumption) ?rest6q4
          case hy6q4 => (intro w hSw; rw [HSD.out] at hSw; (try dsimp only at hSw); obtain ⟨hs1, hs2, hs3⟩ := hSw; go_simp; (try with_reducible rfl))
          try simp only [Act.put, List.setIfInBounds_toArray, List.set_cons_zero, List.set_cons_succ]
          refine Held.take (i := 7) (oi := { dst := _, op := _, type := _, pos := _, after := _, guard := _ }) (v := ?v7q5) rfl (by kernel_rfl) (by kernel_rfl) (by kernel_rfl) (by kernel_rfl) (fun _ _ _ h => h) (Or.inl ⟨by rfl, ?hy7q5⟩) (by assumption) ?rest7q5
          case hy7q5 => (intro w hSw; rw [HSD.out] at hSw; (try dsimp only at hSw); obtain ⟨hs1, hs2, hs3⟩ := hSw; go_simp; (try with_reducible rfl))
          try simp only [Act.put, List.setIfInBounds_toArray, List.set_cons_zero, List.set_cons_succ]
          refine Held.take (i := 8) (oi := { dst := _, op := _, type := _, pos := _, after := _, guard := _ }) (v := ?v8q6) rfl (by kernel_rfl) (by kernel_rfl) (by kernel_rfl) (by kernel_rfl) (fun _ _ _ h => h) (Or.inl ⟨by rfl, ?hy8q6⟩) (by assumption) ?rest8q6
          case hy8q6 => (intro w hSw; rw [HSD.out] at hSw; (try dsimp only at hSw); obtain ⟨hs1, hs2, hs3⟩ := hSw; go_simp; (try with_reducible rfl))
          try simp only [Act.put, List.setIfInBounds_toArray, List.set_cons_zero, List.set_cons_succ]
          have zc : ∀ i, w4.cell? ⟨zb, i, none⟩ = _ := fun i => HZ4.out.cell i
          have zf : ∀ i, w4.frozen? ⟨zb, i, none⟩ = false := fun i => HZ4.out.free i
          unfold resC at zc
          refine Held.one (i := 10) (o := { dst := _, op := _, type := _, pos := _, after := _, guard := _ }) (by kernel_rfl) rfl (fun K hK => ?_)
          (try unfold resC)
          go_simp
          refine hK.out _ _ (fun _ => (by rw [HSD.out]; exact ⟨fun i => (blk12 F4.out HZ4.out (by decide) _ _ _ _ _ _ _ _ _ _ _ _).cell i, fun i => (blk12 F5.out HZ4.out (by decide) _ _ _ _ _ _ _ _ _ _ _ _).cell i, fun i => (blk12 F6.out HZ4.out (by decide) _ _ _ _ _ _ _ _ _ _ _ _).cell i⟩)) (fun hH7 => ?_)
          clear hK K
          replace hH7 := hH7 (by decide)
          refine Held.one (i := 11) (o := { dst := _, op := _, type := _, pos := _, after := _, guard := _ }) (by kernel_rfl) rfl (fun K hK => ?_)
          go_simp
          refine hK.out _ _ (fun h => absurd rfl h) (fun _ => ?_)
          clear hK K
          refine Held.done (by kernel_rfl) ?_ _
          refine NoPanic.normal ?_
          go_wp2
          go_meet
          exact ⟨_, eA, eC, sA, sC, tA, tC, rfl, rfl, HZ4.out.twelve rfl _ _ _ _ _ _ _ _ _ _ _ _, below12 HB4.out lz _ _ _ _ _ _ _ _ _ _ _ _, own12 HO1.out HZ4.out (by decide) _ _ _ _ _ _ _ _ _ _ _ _, own12 HO2.out HZ4.out (by decide) _ _ _ _ _ _ _ _ _ _ _ _, own12 HO3.out HZ4.out (by decide) _ _ _ _ _ _ _ _ _ _ _ _, (blk12 F4.out HZ4.out (by decide) _ _ _ _ _ _ _ _ _ _ _ _), (blk12 F5.out HZ4.out (by decide) _ _ _ _ _ _ _ _ _ _ _ _), (blk12 F6.out HZ4.out (by decide) _ _ _ _ _ _ _ _ _ _ _ _)⟩
      · go_simp
        have HBV := Lib.hid (HB2.out.alloc HB2.out.size (.cells (resC (fun _ => 0) (.slice none 0 0) (.slice none 0 0) (.slice none 0 0) 0) 37)).drew
        have HZ := Lib.hid (show Blk ((w2.alloc (.cells (resC (fun _ => 0) (.slice none 0 0) (.slice none 0 0) (.slice none 0 0) 0) 37)).drew) w2.heap.size (resC (fun _ => 0) (.slice none 0 0) (.slice none 0 0) (.slice none 0 0) 0) 37 from (Blk.new w2 _ _).drew)
        obtain ⟨zb, hzb⟩ : ∃ b, b = w2.heap.size := ⟨_, rfl⟩
        have lz : w.heap.size ≤ zb := hzb ▸ HB2.out.size
        rw [← hzb] at HZ
        have V4 := Lib.hid (H4.out.alloc (.cells (resC (fun _ => 0) (.slice none 0 0) (.slice none 0 0) (.slice none 0 0) 0) 37)).drew
        have V5 := Lib.hid (H5.out.alloc (.cells (resC (fun _ => 0) (.slice none 0 0) (.slice none 0 0) (.slice none 0 0) 0) 37)).drew
        have V6 := Lib.hid (H6.out.alloc (.cells (resC (fun _ => 0) (.slice none 0 0) (.slice none 0 0) (.slice none 0 0) 0) 37)).drew
        rw [← hzb]
        clear hzb
        refine hK.out _ _ (fun _ => (by rw [HSD.out]; exact ⟨fun i => V4.out.cell i, fun i => V5.out.cell i, fun i => V6.out.cell i⟩)) (fun hH4 => ?_)
        clear hK K
        replace hH4 := hH4 (by decide)
        refine Held.one (i := 1) (o := { dst := _, op := _, type := _, pos := _, after := _, guard := _ }) (by kernel_rfl) rfl (fun K hK => ?_)
        go_simp
        refine (theirs_any nA kA nC kC NL CL ((w2.alloc (.cells (resC (fun _ => 0) (.slice none 0 0) (.slice none 0 0) (.slice none 0 0) 0) 37)).drew) (HN.out.below HBV.out) (HC.out.below HBV.out) hcl hnl).mono ?_
        rintro e w3 ⟨hb3, nA', nC', kA', kC', rfl, hN3, hC3⟩
        have HB3 := Lib.hid (HBV.out.trans (hb3.mono HBV.out.size))
        have E4 := Lib.hid ((V4.out).below hb3)
        have E5 := Lib.hid ((V5.out).below hb3)
        have E6 := Lib.hid ((V6.out).below hb3)
        have HN3 := Lib.hid hN3
        have HC3 := Lib.hid hC3
        have HZ3 := Lib.hid (HZ.out.below hb3)
        clear hb3 hN3 hC3
        refine hK.out _ _ (fun _ => (by rw [HSD.out]; exact ⟨fun i => E4.out.cell i, fun i => E5.out.cell i, fun i => E6.out.cell i⟩)) (fun hH2 => ?_)
        clear hK K
        replace hH2 := hH2 (by decide)
        refine Held.one (i := 5) (o := { dst := _, op := _, type := _, pos := _, after := _, guard := _ }) (by kernel_rfl) rfl (fun K hK => ?_)
        go_simp
        refine (run_u w3 nA' kA' nC' kC' z S HZR.out HN3.out (HA.out.below HB3.out) HC3.out hcl).mono ?_
        rintro e w4 ⟨hb4, eA, eC, sA, sC, tA, tC, rfl, o1, o2, o3⟩
        have HB4 := Lib.hid (HB3.out.trans (hb4.mono HB3.out.size))
        have F4 := Lib.hid ((E4.out).below hb4)
        have F5 := Lib.hid ((E5.out).below hb4)
        have F6 := Lib.hid ((E6.out).below hb4)
        have HO1 := Lib.hid (World.ownsRow.mono o1 HB3.out.size)
        have HO2 := Lib.hid (World.ownsRow.mono o2 HB3.out.size)
        have HO3 := Lib.hid (World.ownsRow.mono o3 HB3.out.size)
        clear o1 o2 o3
        have HZ4 := Lib.hid (HZ3.out.below hb4)
        clear hb4
        unfold resC
        refine hK.out _ _ (fun _ => (by rw [HSD.out]; exact ⟨fun i => F4.out.cell i, fun i => F5.out.cell i, fun i => F6.out.cell i⟩)) (fun hH3 => ?_)
        clear hK K
        replace hH3 := hH3 (by decide)
        refine Held.take (i := 6) (oi := { dst := _, op := _, type := _, pos := _, after := _, guard := _ }) (v := ?v6q7) rfl (by kernel_rfl) (by kernel_rfl) (by kernel_rfl) (by kernel_rfl) (fun _ _ _ h => h) (Or.inl ⟨by rfl, ?hy6q7⟩) (by assumption) ?rest6q7
        case hy6q7 => (intro w hSw; rw [HSD.out] at hSw; (try dsimp only at hSw); obtain ⟨hs1, hs2, hs3⟩ := hSw; go_simp; (try with_reducible rfl))
        try simp only [Act.put, List.setIfInBounds_toArray, List.set_cons_zero, List.set_cons_succ]
        refine Held.take (i := 7) (oi := { dst := _, op := _, type := _, pos := _, after := _, guard := _ }) (v := ?v7q8) rfl (by kernel_rfl) (by kernel_rfl) (by kernel_rfl) (by kernel_rfl) (fun _ _ _ h => h) (Or.inl ⟨by rfl, ?hy7q8⟩) (by assumption) ?rest7q8
        case hy7q8 => (intro w hSw; rw [HSD.out] at hSw; (try dsimp only at hSw); obtain ⟨hs1, hs2, hs3⟩ := hSw; go_simp; (try with_reducible rfl))
        try simp only [Act.put, List.setIfInBounds_toArray, List.set_cons_zero, List.set_cons_succ]
        refine Held.take (i := 8) (oi := { dst := _, op := _, type := _, pos := _, after := _, guard := _ }) (v := ?v8q9) rfl (by kernel_rfl) (by kernel_rfl) (by kernel_rfl) (by kernel_rfl) (fun _ _ _ h => h) (Or.inl ⟨by rfl, ?hy8q9⟩) (by assumption) ?rest8q9
        case hy8q9 => (intro w hSw; rw [HSD.out] at hSw; (try dsimp only at hSw); obtain ⟨hs1, hs2, hs3⟩ := hSw; go_simp; (try with_reducible rfl))
        try simp only [Act.put, List.setIfInBounds_toArray, List.set_cons_zero, List.set_cons_succ]
        have zc : ∀ i, w4.cell? ⟨zb, i, none⟩ = _ := fun i => HZ4.out.cell i
        have zf : ∀ i, w4.frozen? ⟨zb, i, none⟩ = false := fun i => HZ4.out.free i
        unfold resC at zc
        refine Held.one (i := 10) (o := { dst := _, op := _, type := _, pos := _, after := _, guard := _ }) (by kernel_rfl) rfl (fun K hK => ?_)
        (try unfold resC)
        go_simp
        refine hK.out _ _ (fun _ => (by rw [HSD.out]; exact ⟨fun i => (blk12 F4.out HZ4.out (by decide) _ _ _ _ _ _ _ _ _ _ _ _).cell i, fun i => (blk12 F5.out HZ4.out (by decide) _ _ _ _ _ _ _ _ _ _ _ _).cell i, fun i => (blk12 F6.out HZ4.out (by decide) _ _ _ _ _ _ _ _ _ _ _ _).cell i⟩)) (fun hH7 => ?_)
        clear hK K
        replace hH7 := hH7 (by decide)
        refine Held.one (i := 11) (o := { dst := _, op := _, type := _, pos := _, after := _, guard := _ }) (by kernel_rfl) rfl (fun K hK => ?_)
        go_simp
        refine hK.out _ _ (fun h => absurd rfl h) (fun _ => ?_)
        clear hK K
        refine Held.done (by kernel_rfl) ?_ _
        refine NoPanic.normal ?_
        go_wp2
        go_meet
        exact ⟨_, eA, eC, sA, sC, tA, tC, rfl, rfl, HZ4.out.twelve rfl _ _ _ _ _ _ _ _ _ _ _ _, below12 HB4.out lz _ _ _ _ _ _ _ _ _ _ _ _, own12 HO1.out HZ4.out (by decide) _ _ _ _ _ _ _ _ _ _ _ _, own12 HO2.out HZ4.out (by decide) _ _ _ _ _ _ _ _ _ _ _ _, own12 HO3.out HZ4.out (by decide) _ _ _ _ _ _ _ _ _ _ _ _, (blk12 F4.out HZ4.out (by decide) _ _ _ _ _ _ _ _ _ _ _ _), (blk12 F5.out HZ4.out (by decide) _ _ _ _ _ _ _ _ _ _ _ _), (blk12 F6.out HZ4.out (by decide) _ _ _ _ _ _ _ _ _ _ _ _)⟩
    obtain ⟨rb, eA, eC, sA, sC, tA, tC, rfl, rfl, hrb, hbw, o1, o2, o3, h4, h5, h6⟩ := hcut
    obtain ⟨wP, hwP⟩ : ∃ x, x = wc := ⟨_, rfl⟩
    subst hwP
    have HR := Lib.hid hrb
    have HB := Lib.hid hbw
    have HO1 := Lib.hid (R.IsRow.of_own o1)
    have HO2 := Lib.hid (R.IsRow.of_own o2)
    have HO3 := Lib.hid (R.IsRow.of_own o3)
    have v4 : ∀ i, wP.cell? ⟨b4, i, none⟩ = _ := fun i => h4.cell i
    have v5 : ∀ i, wP.cell? ⟨b5, i, none⟩ = _ := fun i => h5.cell i
    have v6 : ∀ i, wP.cell? ⟨b6, i, none⟩ = _ := fun i => h6.cell i
    have HRU := Lib.hid (run_ru wP nA kA nC kC z S HZR.out (HN.out.below HB.out) (HA.out.below HB.out) (HC.out.below HB.out) hcl (evC_core HEV.out) HRR.out)
    clear hrb hbw o1 o2 o3 h4 h5 h6 HSD HZR q4 q5 q6 H4 H5 H6 D4 D5 D6 HBD HB2
    unfold regC at v5
    go_wp2_with fail
    refine HRU.out.mono ?_
    rintro e w5 ⟨hb5, xA, xC, yA, yC, zA, zC, rfl, o1, o2, o3⟩
    have HB5 := Lib.hid (HB.out.trans (hb5.mono HB.out.size))
    have HR5 := Lib.hid (HR.out.below hb5)
    have HA1 := Lib.hid (HO1.out.below hb5)
    have HA2 := Lib.hid (HO2.out.below hb5)
    have HA3 := Lib.hid (HO3.out.below hb5)
    have HQ1 := Lib.hid (R.IsRow.of_own o1)
    have HQ2 := Lib.hid (R.IsRow.of_own o2)
    have HQ3 := Lib.hid (R.IsRow.of_own o3)
    clear hb5 o1 o2 o3 v4 v5 v6 HR HB HO1 HO2 HO3 HRU
    unfold resC
    go_upto_region 5 with fail
    obtain ⟨W6, hW6⟩ : ∃ W, W = w5.alloc (.cells (resC S.reg (.slice xA S.ev.length xC) (.slice yA S.sent.length yC) (.slice zA S.tm.length zC) S.steps) 49) := ⟨_, rfl⟩
    obtain ⟨fb, hfb⟩ : ∃ b, b = w5.heap.size := ⟨_, rfl⟩
    have hb6 : Below w5.heap.size w5 W6 := hW6 ▸ (Below.refl _ _).alloc (Nat.le_refl _) _
    have HF6 := Lib.hid (show Blk W6.drew fb (resC S.reg (.slice xA S.ev.length xC) (.slice yA S.sent.length yC) (.slice zA S.tm.length zC) S.steps) 49 from by rw [hW6, hfb]; exact (Blk.new _ _ _).drew)
    have HR6 := Lib.hid (show Blk W6.drew rb (resC S.reg (.slice eA S.ev.length eC) (.slice sA S.sent.length sC) (.slice tA S.tm.length tC) S.steps) 37 from (HR5.out.below hb6).drew)
    have hb7 : Below w5.heap.size w5 W6.drew := hb6.drew
    have HB6 := Lib.hid (HB5.out.trans (hb7.mono HB5.out.size))
    have HC1 := Lib.hid (HA1.out.below hb7)
    have HC2 := Lib.hid (HA2.out.below hb7)
    have HC3 := Lib.hid (HA3.out.below hb7)
    have HD1 := Lib.hid (HQ1.out.below hb7)
    have HD2 := Lib.hid (HQ2.out.below hb7)
    have HD3 := Lib.hid (HQ3.out.below hb7)
    rw [show w5.alloc _ = W6 from hW6.symm, ← hfb]
    clear hW6 hfb hb6 hb7 HA1 HA2 HA3 HQ1 HQ2 HQ3 HB5 HR5
    have y1 : ∀ i, W6.drew.cell? ⟨rb, i, none⟩ = (resC S.reg (.slice eA S.ev.length eC) (.slice sA S.sent.length sC) (.slice tA S.tm.length tC) S.steps)[i]? := fun i => HR6.out.cell i
    have y2 : ∀ i, W6.drew.cell? ⟨fb, i, none⟩ = (resC S.reg (.slice xA S.ev.length xC) (.slice yA S.sent.length yC) (.slice zA S.tm.length zC) S.steps)[i]? := fun i => HF6.out.cell i
    obtain ⟨Sy, hSD⟩ : ∃ Sy : World → Prop, Sy = fun w' => (∀ i, w'.cell? ⟨rb, i, none⟩ = (resC S.reg (.slice eA S.ev.length eC) (.slice sA S.sent.length sC) (.slice tA S.tm.length tC) S.steps)[i]?) ∧ (∀ i, w'.cell? ⟨fb, i, none⟩ = (resC S.reg (.slice xA S.ev.length xC) (.slice yA S.sent.length yC) (.slice zA S.tm.length zC) S.steps)[i]?) := ⟨_, rfl⟩
    have HSD := Lib.hid hSD
    clear hSD
    have z0 : (z == z) = true := by simp
    refine Held.region Sy 9 (by kernel_rfl) (by rw [HSD.out]; exact ⟨y1, y2⟩) (fun hHeld => ?_)
    refine Held.take (i := 0) (oi := { dst := _, op := _, type := _, pos := _, after := _, guard := _ }) (v := ?v0q14) rfl (by kernel_rfl) (by kernel_rfl) (by kernel_rfl) (by kernel_rfl) (fun _ _ _ h => h) (Or.inl ⟨by rfl, ?hy0q14⟩) (by assumption) ?rest0q14
    case hy0q14 => (intro w hSw; rw [HSD.out] at hSw; (try dsimp only at hSw); obtain ⟨hs1, hs2⟩ := hSw; (try unfold resC at hs1 hs2); go_simp; (try with_reducible rfl))
    try simp only [Act.put, List.setIfInBounds_toArray, List.set_cons_zero, List.set_cons_succ]
    refine Held.take (i := 1) (oi := { dst := _, op := _, type := _, pos := _, after := _, guard := _ }) (v := ?v1q15) rfl (by kernel_rfl) (by kernel_rfl) (by kernel_rfl) (by kernel_rfl) (fun _ _ _ h => h) (Or.inl ⟨by rfl, ?hy1q15⟩) (by assumption) ?rest1q15
    case hy1q15 => (intro w hSw; rw [HSD.out] at hSw; (try dsimp only at hSw); obtain ⟨hs1, hs2⟩ := hSw; (try unfold resC at hs1 hs2); go_simp; (try with_reducible rfl))
    try simp only [Act.put, List.setIfInBounds_toArray, List.set_cons_zero, List.set_cons_succ]
    refine Held.take (i := 2) (oi := { dst := _, op := _, type := _, pos := _, after := _, guard := _ }) (v := ?v2q16) rfl (by kernel_rfl) (by kernel_rfl) (by kernel_rfl) (by kernel_rfl) (fun _ _ _ h => h) (Or.inl ⟨by rfl, ?hy2q16⟩) (by assumption) ?rest2q16
    case hy2q16 => (intro w hSw; rw [HSD.out] at hSw; (try dsimp only at hSw); obtain ⟨hs1, hs2⟩ := hSw; (try unfold resC at hs1 hs2); go_simp; (try with_reducible rfl))
    try simp only [Act.put, List.setIfInBounds_toArray, List.set_cons_zero, List.set_cons_succ]
    refine Held.take (i := 3) (oi := { dst := _, op := _, type := _, pos := _, after := _, guard := _ }) (v := ?v3q17) rfl (by kernel_rfl) (by kernel_rfl) (by kernel_rfl) (by kernel_rfl) (fun _ _ _ h => h) (Or.inl ⟨by rfl, ?hy3q17⟩) (by assumption) ?rest3q17
    case hy3q17 => (intro w hSw; rw [HSD.out] at hSw; (try dsimp only at hSw); obtain ⟨hs1, hs2⟩ := hSw; (try unfold resC at hs1 hs2); go_simp; (try with_reducible rfl))
    try simp only [Act.put, List.setIfInBounds_toArray, List.set_cons_zero, List.set_cons_succ]
    refine Held.take (i := 4) (oi := { dst := _, op := _, type := _, pos := _, after := _, guard := _ }) (v := ?v4q18) rfl (by kernel_rfl) (by kernel_rfl) (by kernel_rfl) (by kernel_rfl) (fun _ _ _ h => h) (Or.inl ⟨by rfl, ?hy4q18⟩) (by assumption) ?rest4q18
    case hy4q18 => (intro w hSw; rw [HSD.out] at hSw; (try dsimp only at hSw); obtain ⟨hs1, hs2⟩ := hSw; (try unfold resC at hs1 hs2); go_simp; (try with_reducible rfl))
    try simp only [Act.put, List.setIfInBounds_toArray, List.set_cons_zero, List.set_cons_succ]
    refine Held.take (i := 6) (oi := { dst := _, op := _, type := _, pos := _, after := _, guard := _ }) (v := ?v6q19) rfl (by kernel_rfl) (by kernel_rfl) (by kernel_rfl) (by kernel_rfl) (fun _ _ _ h => h) (Or.inl ⟨by rfl, ?hy6q19⟩) (by assumption) ?rest6q19
    case hy6q19 => (intro w hSw; rw [HSD.out] at hSw; (try dsimp only at hSw); obtain ⟨hs1, hs2⟩ := hSw; (try unfold resC at hs1 hs2); go_simp; (try with_reducible rfl))
    try simp only [Act.put, List.setIfInBounds_toArray, List.set_cons_zero, List.set_cons_succ]
    refine Held.one (i := 5) (o := { dst := _, op := _, type := _, pos := _, after := _, guard := _ }) (by kernel_rfl) rfl (fun K hK => ?_)
    go_simp
    refine (R.ours_any S eA sA tA eC sC tC W6.drew HC1.out HC2.out HC3.out n1 n2 n3).mono ?_
    rintro e w7 ⟨hb7, eB, eD, sB, sD, tB, tD, rfl, o1, o2, o3⟩
    have HB7 := Lib.hid (HB6.out.trans (hb7.mono HB6.out.size))
    have HG1 := Lib.hid (R.IsRow.of_own o1)
    have HG2 := Lib.hid (R.IsRow.of_own o2)
    have HG3 := Lib.hid (R.IsRow.of_own o3)
    have HE1 := Lib.hid (HD1.out.below hb7)
    have HE2 := Lib.hid (HD2.out.below hb7)
    have HE3 := Lib.hid (HD3.out.below hb7)
    have HF7 := Lib.hid (HF6.out.below hb7)
    have HR7 := Lib.hid (HR6.out.below hb7)
    clear hb7 o1 o2 o3
    refine hK.out _ _ (fun _ => (by rw [HSD.out]; exact ⟨fun i => HR7.out.cell i, fun i => HF7.out.cell i⟩)) (fun hH2 => ?_)
    clear hK K
    replace hH2 := hH2 (by decide)
    try simp only [Act.put, List.setIfInBounds_toArray, List.set_cons_zero, List.set_cons_succ]
    refine Held.one (i := 7) (o := { dst := _, op := _, type := _, pos := _, after := _, guard := _ }) (by kernel_rfl) rfl (fun K hK => ?_)
    go_simp
    refine (R.same_any S eB sB tB xA yA zA eD sD tD xC yC zC w7 HG1.out HG2.out HG3.out HE1.out HE2.out HE3.out n1 n2 n3).mono ?_
    rintro e w8 ⟨rfl, hb8⟩
    have HB8 := Lib.hid (HB7.out.trans (hb8.mono HB7.out.size))
    have HF8 := Lib.hid (HF7.out.below hb8)
    have HR8 := Lib.hid (HR7.out.below hb8)
    clear hb8
    refine hK.out _ _ (fun _ => (by rw [HSD.out]; exact ⟨fun i => HR8.out.cell i, fun i => HF8.out.cell i⟩)) (fun hH3 => ?_)
    clear hK K
    replace hH3 := hH3 (by decide)
    try simp only [Act.put, List.setIfInBounds_toArray, List.set_cons_zero, List.set_cons_succ]
    refine Held.one (i := 8) (o := { dst := _, op := _, type := _, pos := _, after := _, guard := _ }) (by kernel_rfl) rfl (fun K hK => ?_)
    go_simp
    refine hK.out _ _ (fun _ => hH3) (fun _ => ?_)
    clear hK K
    try simp only [Act.put, List.setIfInBounds_toArray, List.set_cons_zero, List.set_cons_succ]
    refine Held.one (i := 9) (o := { dst := _, op := _, type := _, pos := _, after := _, guard := _ }) (by kernel_rfl) rfl (fun K hK => ?_)
    go_simp
    refine hK.out _ _ (fun h => absurd rfl h) (fun _ => ?_)
    clear hK K
    refine Held.done (by kernel_rfl) ?_ _
    refine NoPanic.normal ?_
    go_wp2
    go_ret
    exact ⟨rfl, HB8.out⟩
end Go.Proofs.Ytmmbigfeojfedaa

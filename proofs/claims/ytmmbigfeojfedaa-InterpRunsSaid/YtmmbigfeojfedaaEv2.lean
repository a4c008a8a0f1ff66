/- The law InterpEvents, walked. -/
import Derived.Test.YtmmbigfeojfedaaEv1
import Derived.ChangeKeysEq
namespace Go.Proofs.Ytmmbigfeojfedaa
open Go.RowKit Go.Proofs.YtmmbigfeojfedaaW.PrintWords

theorem part26 (f : Nat → Int) (w : World) {i : Nat} (h : i < 8) : (part 2 (regC f) (i * Try.prog.cellsOf 2)).run Try.prog w = .ok (.int .i64 (f i)) w := by
  match i, h with
  | 0, _ | 1, _ | 2, _ | 3, _ | 4, _ | 5, _ | 6, _ | 7, _ => exact (show _ = _ by kernel_rfl)
theorem items26 (f : Nat → Int) (w : World) : ∀ is : List Nat, (∀ i ∈ is, i < 8) → (Op.eqItems 9999 2 (Try.prog.cellsOf 2) (regC f) (regC f) is).run Try.prog w = .ok true w
  | [], _ => rfl
  | i :: is, h => by
    simp only [Op.eqItems, Sem.run_bind, part26 f w (h i (List.mem_cons_self ..)), Result.andThen_ok]
    rw [run_equalIn_int w 9998 2 _ _ _ _ Try.underlying2]
    simp only [beq_self_eq_true, Result.andThen_ok, Bool.not_true, Bool.false_eq_true, if_false]
    exact items26 f w is (fun j hj => h j (List.mem_cons_of_mem _ hj))
theorem eq26 (f : Nat → Int) (w : World) : (Op.equalIn 10000 26 (.agg (regC f)) (.agg (regC f))).run Try.prog w = .ok true w := by
  obtain ⟨i, hi⟩ := Option.isSome_iff_exists.1 (show (Try.prog.info? 2).isSome = true by kernel_rfl)
  rw [run_equalIn_array w 9999 _ _ Try.underlying26 hi]
  exact items26 f w _ (fun i hi => by simpa using hi)
theorem own_len {w : World} {base n size : Nat} {e : TypeId} {v : Value} {xs : List Value} (h : w.ownsRow base e size v n xs) : n ≤ 9223372036854775807 := by
  rcases h.2 with ⟨_, h1⟩ | ⟨g, cap, cur, _, _, _, h1, h2, _⟩
  · omega
  · exact Nat.le_trans h1 h2
theorem encE_at : ∀ (l : List (Int × Int)) (j : Nat), j < l.length → (encE l)[j * 2]? = some (.int .i64 (l.getD j (0, 0)).1) ∧ (encE l)[j * 2 + 1]? = some (.int .i64 (l.getD j (0, 0)).2)
  | [], j, h => absurd h (Nat.not_lt_zero _)
  | i :: l, 0, _ => ⟨rfl, rfl⟩
  | i :: l, j + 1, h => by
    have := encE_at l j (by simpa using h)
    rw [show (j + 1) * 2 = j * 2 + 1 + 1 by omega]
    exact this
theorem encT_at : ∀ (l : List (ByteArray × Bool × Int × Int × Int)) (j : Nat), j < l.length → (encT l)[j * 5]? = some (.string (l.getD j (⟨#[]⟩, true, 0, 0, 0)).1) ∧ (encT l)[j * 5 + 1]? = some (.bool (l.getD j (⟨#[]⟩, true, 0, 0, 0)).2.1) ∧ (encT l)[j * 5 + 2]? = some (.int .i64 (l.getD j (⟨#[]⟩, true, 0, 0, 0)).2.2.1) ∧ (encT l)[j * 5 + 3]? = some (.int .i64 (l.getD j (⟨#[]⟩, true, 0, 0, 0)).2.2.2.1) ∧ (encT l)[j * 5 + 4]? = some (.int .i64 (l.getD j (⟨#[]⟩, true, 0, 0, 0)).2.2.2.2)
  | [], j, h => absurd h (Nat.not_lt_zero _)
  | i :: l, 0, _ => ⟨rfl, rfl, rfl, rfl, rfl⟩
  | i :: l, j + 1, h => by
    have := encT_at l j (by simpa using h)
    rw [show (j + 1) * 5 = j * 5 + 1 + 1 + 1 + 1 + 1 by omega]
    exact this
theorem regC_set (f : Nat → Int) {r : Nat} (h : r < 8) (x : Int) : (regC f).setIfInBounds r (.int .i64 x) = regC (fun j => if j = r then x else f j) := by
  match r, h with
  | 0, _ | 1, _ | 2, _ | 3, _ | 4, _ | 5, _ | 6, _ | 7, _ => rfl

set_option maxRecDepth 100000 in
set_option maxHeartbeats 4000000 in
theorem events_any (nA kA aA : Option Addr) (nC kC aC : Nat) (NL : List ByteArray) (CL : List (Int × Int)) (AL : List Int) (frm : ByteArray) (ser kd now : Int) (reg : Nat → Int) (w : World)
    (hN : ReadsOf Value.string (⟨#[]⟩ : ByteArray) w nA NL.length NL) (hC : IsCode w kA CL) (hA : ReadsOf (Value.int .i64) (0 : Int) w aA AL.length AL) (hev : EvC (evE NL CL frm ser kd aA aC AL now)) (hr : ∀ j, InR (reg j)) :
    Calls Try.prog 4 #[.agg #[.slice nA NL.length nC, .slice kA CL.length kC], .agg (regC reg), .agg #[.string frm, .int .u64 ser, .int .i64 kd, .slice aA AL.length aC], .int .i64 now] w (fun e w' => e = .returned (.bool true) ∧ Below w.heap.size w w') := by
  have HN := Lib.hid hN
  have HC := Lib.hid hC
  have HA := Lib.hid hA
  have HE := Lib.hid (ev_run hev hr)
  obtain ⟨W0, hW0⟩ : ∃ W, W = ((w.alloc (.cells #[.slice nA NL.length nC, .slice kA CL.length kC] 25)).alloc (.cells (regC reg) 26)).alloc (.cells #[.string frm, .int .u64 ser, .int .i64 kd, .slice aA AL.length aC] 30) := ⟨_, rfl⟩
  have h1 : Below w.heap.size w (w.alloc (.cells #[.slice nA NL.length nC, .slice kA CL.length kC] 25)) := (Below.refl _ _).alloc (Nat.le_refl _) _
  have h2 := h1.alloc h1.size (.cells (regC reg) 26)
  have HB0 := Lib.hid (show Below w.heap.size w W0 from hW0 ▸ h2.alloc h2.size _)
  have H40 := Lib.hid (show Blk W0 w.heap.size #[.slice nA NL.length nC, .slice kA CL.length kC] 25 from hW0 ▸ ((Blk.new _ _ _).alloc _).alloc _)
  have H50 := Lib.hid (show Blk W0 (w.heap.size + 1) (regC reg) 26 from hW0 ▸ (Blk.newAt (by simp)).alloc _)
  have H60 := Lib.hid (show Blk W0 (w.heap.size + 2) #[.string frm, .int .u64 ser, .int .i64 kd, .slice aA AL.length aC] 30 from hW0 ▸ Blk.newAt (by simp))
  have HW0 := Lib.hid hW0
  clear hN hC hA hev hr hW0 h1 h2
  go_enter Try.func4, Try.ntmps4
  go_upto_region 1 with fail
  rw [← HW0.out]
  clear HW0
  go_wp2_with fail
  refine (awake_any _).mono ?_
  rintro e w1 ⟨rfl, hb1⟩
  have HB1 := Lib.hid (HB0.out.trans (hb1.mono HB0.out.size))
  have H41 := Lib.hid (H40.out.below hb1)
  have H51 := Lib.hid (H50.out.below hb1)
  have H61 := Lib.hid (H60.out.below hb1)
  have u4 : ∀ i, w1.cell? ⟨w.heap.size, i, none⟩ = _ := fun i => H41.out.cell i
  have u6 : ∀ i, w1.cell? ⟨w.heap.size + 2, i, none⟩ = _ := fun i => H61.out.cell i
  clear hb1 HB0 H40 H50 H60
  go_wp2_with fail
  refine (fewL_any nA kA aA nC kC aC CL.length AL.length NL frm ser kd _ (HN.out.below HB1.out)).mono ?_
  rintro e w2 ⟨hb2, b, rfl, hfew⟩
  have HB2 := Lib.hid (HB1.out.trans (hb2.mono HB1.out.size))
  have H42 := Lib.hid (H41.out.below hb2)
  have H52 := Lib.hid (H51.out.below hb2)
  have H62 := Lib.hid (H61.out.below hb2)
  have HF := Lib.hid hfew
  clear hb2 HB1 H41 H51 H61 u4 u6 hfew
  cases b with
  | false =>
    go_wp2_with fail
    refine (awake_any _).mono ?_
    rintro e w3 ⟨rfl, hb3⟩
    have HB3 := Lib.hid (HB2.out.trans (hb3.mono HB2.out.size))
    clear hb3
    go_wp2_with fail
    go_ret
    exact ⟨rfl, HB3.out⟩
  | true =>
    obtain ⟨hcl, hnl⟩ := HF.out rfl
    clear HF
    go_upto_region 3 with fail
    obtain ⟨z, R, hzR⟩ : ∃ z R, runF (evE NL CL frm ser kd aA aC AL now) reg = (z, R) := ⟨_, _, rfl⟩
    have HE2 := HE.out
    rw [hzR] at HE2
    dsimp only at HE2
    have HEV := Lib.hid HE2
    have HZR := Lib.hid hzR
    clear HE HE2 hzR
    obtain ⟨b4, hb4⟩ : ∃ b, b = w.heap.size := ⟨_, rfl⟩
    obtain ⟨b5, hb5⟩ : ∃ b, b = w.heap.size + 1 := ⟨_, rfl⟩
    obtain ⟨b6, hb6⟩ : ∃ b, b = w.heap.size + 1 + 1 := ⟨_, rfl⟩
    rw [← hb6, ← hb5, ← hb4]
    have H4 := Lib.hid (hb4 ▸ H42.out)
    have H5 := Lib.hid (hb5 ▸ H52.out)
    have H6 := Lib.hid (hb6 ▸ H62.out)
    have l5 : w.heap.size ≤ b5 := by omega
    clear H42 H52 H62 hb4 hb5 hb6
    have D4 := Lib.hid H4.out.drew
    have D5 := Lib.hid H5.out.drew
    have D6 := Lib.hid H6.out.drew
    have HBD := Lib.hid HB2.out.drew
    have q4 : ∀ i, w2.drew.cell? ⟨b4, i, none⟩ = _ := fun i => H4.out.cell i
    have q5 : ∀ i, w2.drew.cell? ⟨b5, i, none⟩ = _ := fun i => H5.out.cell i
    have q6 : ∀ i, w2.drew.cell? ⟨b6, i, none⟩ = _ := fun i => H6.out.cell i
    obtain ⟨S, hSD⟩ : ∃ S : World → Prop, S = fun w' => (∀ i, w'.cell? ⟨b4, i, none⟩ = #[.slice nA NL.length nC, .slice kA CL.length kC][i]?) ∧ (∀ i, w'.cell? ⟨b5, i, none⟩ = (regC reg)[i]?) ∧ (∀ i, w'.cell? ⟨b6, i, none⟩ = #[.string frm, .int .u64 ser, .int .i64 kd, .slice aA AL.length aC][i]?) := ⟨_, rfl⟩
    have HSD := Lib.hid hSD
    clear hSD
    by_cases hz : z = 0
    · subst hz
      go_cut [9, 10] (fun v9 v10 wx => ∃ (rb : Nat) (eA : Option Addr) (eC : Nat) (sA : Option Addr) (sC : Nat) (tA : Option Addr) (tC : Nat), v9 = .pointer (some ⟨rb, 0, none⟩) ∧ v10 = .int .i64 0 ∧ Blk wx rb (resC R.reg (.slice eA R.ev.length eC) (.slice sA R.sent.length sC) (.slice tA R.tm.length tC) R.steps) 37 ∧ Below w.heap.size w wx ∧ wx.ownsRow w.heap.size 56 2 (.slice eA R.ev.length eC) R.ev.length (encE R.ev) ∧ wx.ownsRow w.heap.size 58 5 (.slice tA R.tm.length tC) R.tm.length (encT R.tm) ∧ Blk wx b5 (regC reg) 26)
      case first =>
        refine Held.region S 11 (by kernel_rfl) (by rw [HSD.out]; exact ⟨q4, q5, q6⟩) (fun hHeld => ?_)
        refine Held.take (i := 0) (oi := { dst := _, op := _, type := _, pos := _, after := _, guard := _ }) (v := ?v0q14) rfl (by kernel_rfl) (by kernel_rfl) (by kernel_rfl) (by kernel_rfl) (fun _ _ _ h => h) (Or.inl ⟨by rfl, ?hy0q14⟩) (by assumption) ?rest0q14
        case hy0q14 => (intro w hSw; rw [HSD.out] at hSw; (try dsimp only at hSw); obtain ⟨hs1, hs2, hs3⟩ := hSw; go_simp; (try with_reducible rfl))
        try simp only [Act.put, List.setIfInBounds_toArray, List.set_cons_zero, List.set_cons_succ]
        refine Held.take (i := 2) (oi := { dst := _, op := _, type := _, pos := _, after := _, guard := _ }) (v := ?v2q15) rfl (by kernel_rfl) (by kernel_rfl) (by kernel_rfl) (by kernel_rfl) (fun _ _ _ h => h) (Or.inl ⟨by rfl, ?hy2q15⟩) (by assumption) ?rest2q15
        case hy2q15 => (intro w hSw; rw [HSD.out] at hSw; (try dsimp only at hSw); obtain ⟨hs1, hs2, hs3⟩ := hSw; go_simp; (try with_reducible rfl))
        try simp only [Act.put, List.setIfInBounds_toArray, List.set_cons_zero, List.set_cons_succ]
        refine Held.take (i := 3) (oi := { dst := _, op := _, type := _, pos := _, after := _, guard := _ }) (v := ?v3q16) rfl (by kernel_rfl) (by kernel_rfl) (by kernel_rfl) (by kernel_rfl) (fun _ _ _ h => h) (Or.inl ⟨by rfl, ?hy3q16⟩) (by assumption) ?rest3q16
        case hy3q16 => (intro w hSw; rw [HSD.out] at hSw; (try dsimp only at hSw); obtain ⟨hs1, hs2, hs3⟩ := hSw; go_simp; (try with_reducible rfl))
        try simp only [Act.put, List.setIfInBounds_toArray, List.set_cons_zero, List.set_cons_succ]
        refine Held.take (i := 4) (oi := { dst := _, op := _, type := _, pos := _, after := _, guard := _ }) (v := ?v4q17) rfl (by kernel_rfl) (by kernel_rfl) (by kernel_rfl) (by kernel_rfl) (fun _ _ _ h => h) (Or.inl ⟨by rfl, ?hy4q17⟩) (by assumption) ?rest4q17
        case hy4q17 => (intro w hSw; rw [HSD.out] at hSw; (try dsimp only at hSw); obtain ⟨hs1, hs2, hs3⟩ := hSw; go_simp; (try with_reducible rfl))
        try simp only [Act.put, List.setIfInBounds_toArray, List.set_cons_zero, List.set_cons_succ]
        refine Held.two (i := 1) (j := 9) (o := { dst := _, op := _, type := _, pos := _, after := _, guard := _ }) (p := { dst := _, op := _, type := _, pos := _, after := _, guard := _ }) (by kernel_rfl) rfl rfl (fun K hK => ?_) (fun K hK => ?_)
        · go_simp
          refine (theirs_any nA kA nC kC NL CL w2.drew (HN.out.below HBD.out) (HC.out.below HBD.out) hcl hnl).mono ?_
          rintro e w3 ⟨hb3, nA', nC', kA', kC', rfl, hN3, hC3⟩
          have HB3 := Lib.hid (HBD.out.trans (hb3.mono HBD.out.size))
          have E4 := Lib.hid ((D4.out).below hb3)
          have E5 := Lib.hid ((D5.out).below hb3)
          have E6 := Lib.hid ((D6.out).below hb3)
          have HN3 := Lib.hid hN3
          have HC3 := Lib.hid hC3
          clear hb3 hN3 hC3
          refine hK.out _ _ (fun _ => (by rw [HSD.out]; exact ⟨fun i => E4.out.cell i, fun i => E5.out.cell i, fun i => E6.out.cell i⟩)) (fun hH2 => ?_)
          clear hK K
          replace hH2 := hH2 (by decide)
          refine Held.two (i := 5) (j := 9) (o := { dst := _, op := _, type := _, pos := _, after := _, guard := _ }) (p := { dst := _, op := _, type := _, pos := _, after := _, guard := _ }) (by kernel_rfl) rfl rfl (fun K hK => ?_) (fun K hK => ?_)
          · go_simp
            refine (run_evG w3 nA' kA' nC' kC' R HZR.out HN3.out (HA.out.below HB3.out) HC3.out hcl).mono ?_
            rintro e w4 ⟨R', rfl, eA, eC, sA, sC, tA, tC, rfl, hb4, o1, -, o3⟩
            have HB4 := Lib.hid (HB3.out.trans (hb4.mono HB3.out.size))
            have F4 := Lib.hid ((E4.out).below hb4)
            have F5 := Lib.hid ((E5.out).below hb4)
            have F6 := Lib.hid ((E6.out).below hb4)
            have HO1 := Lib.hid (World.ownsRow.mono o1 HB3.out.size)
            have HO3 := Lib.hid (World.ownsRow.mono o3 HB3.out.size)
            clear o1 o3
            clear hb4
            unfold resC
            refine hK.out _ _ (fun _ => (by rw [HSD.out]; exact ⟨fun i => F4.out.cell i, fun i => F5.out.cell i, fun i => F6.out.cell i⟩)) (fun hH3 => ?_)
            clear hK K
            replace hH3 := hH3 (by decide)
            refine Held.take (i := 6) (oi := { dst := _, op := _, type := _, pos := _, after := _, guard := _ }) (v := ?v6q18) rfl (by kernel_rfl) (by kernel_rfl) (by kernel_rfl) (by kernel_rfl) (fun _ _ _ h => h) (Or.inl ⟨by rfl, ?hy6q18⟩) (by assumption) ?rest6q18
            case hy6q18 => (intro w hSw; rw [HSD.out] at hSw; (try dsimp only at hSw); obtain ⟨hs1, hs2, hs3⟩ := hSw; go_simp; (try with_reducible rfl))
            try simp only [Act.put, List.setIfInBounds_toArray, List.set_cons_zero, List.set_cons_succ]
            refine Held.take (i := 7) (oi := { dst := _, op := _, type := _, pos := _, after := _, guard := _ }) (v := ?v7q19) rfl (by kernel_rfl) (by kernel_rfl) (by kernel_rfl) (by kernel_rfl) (fun _ _ _ h => h) (Or.inl ⟨by rfl, ?hy7q19⟩) (by assumption) ?rest7q19
            case hy7q19 => (intro w hSw; rw [HSD.out] at hSw; (try dsimp only at hSw); obtain ⟨hs1, hs2, hs3⟩ := hSw; go_simp; (try with_reducible rfl))
            try simp only [Act.put, List.setIfInBounds_toArray, List.set_cons_zero, List.set_cons_succ]
            refine Held.take (i := 8) (oi := { dst := _, op := _, type := _, pos := _, after := _, guard := _ }) (v := ?v8q20) rfl (by kernel_rfl) (by kernel_rfl) (by kernel_rfl) (by kernel_rfl) (fun _ _ _ h => h) (Or.inl ⟨by rfl, ?hy8q20⟩) (by assumption) ?rest8q20
            case hy8q20 => (intro w hSw; rw [HSD.out] at hSw; (try dsimp only at hSw); obtain ⟨hs1, hs2, hs3⟩ := hSw; go_simp; (try with_reducible rfl))
            try simp only [Act.put, List.setIfInBounds_toArray, List.set_cons_zero, List.set_cons_succ]
            refine Held.one (i := 9) (o := { dst := _, op := _, type := _, pos := _, after := _, guard := _ }) (by kernel_rfl) rfl (fun K hK => ?_)
            go_simp
            have HBA := Lib.hid (HB4.out.alloc HB4.out.size (.cells (resC (fun _ => 0) (.slice none 0 0) (.slice none 0 0) (.slice none 0 0) 0) 37))
            have HZ4 := Lib.hid (Blk.new w4 (resC (fun _ => 0) (.slice none 0 0) (.slice none 0 0) (.slice none 0 0) 0) 37)
            have G4 := Lib.hid (F4.out.alloc (.cells (resC (fun _ => 0) (.slice none 0 0) (.slice none 0 0) (.slice none 0 0) 0) 37))
            have G5 := Lib.hid (F5.out.alloc (.cells (resC (fun _ => 0) (.slice none 0 0) (.slice none 0 0) (.slice none 0 0) 0) 37))
            have G6 := Lib.hid (F6.out.alloc (.cells (resC (fun _ => 0) (.slice none 0 0) (.slice none 0 0) (.slice none 0 0) 0) 37))
            have HP1 := Lib.hid (HO1.out.alloc (.cells (resC (fun _ => 0) (.slice none 0 0) (.slice none 0 0) (.slice none 0 0) 0) 37))
            have HP3 := Lib.hid (HO3.out.alloc (.cells (resC (fun _ => 0) (.slice none 0 0) (.slice none 0 0) (.slice none 0 0) 0) 37))
            refine hK.out _ _ (fun _ => (by rw [HSD.out]; exact ⟨fun i => G4.out.cell i, fun i => G5.out.cell i, fun i => G6.out.cell i⟩)) (fun hH6 => ?_)
            clear hK K
            replace hH6 := hH6 (by decide)
            have zc : ∀ i, (w4.alloc (.cells (resC (fun _ => 0) (.slice none 0 0) (.slice none 0 0) (.slice none 0 0) 0) 37)).cell? ⟨w4.heap.size, i, none⟩ = _ := fun i => HZ4.out.cell i
            have zf : ∀ i, (w4.alloc (.cells (resC (fun _ => 0) (.slice none 0 0) (.slice none 0 0) (.slice none 0 0) 0) 37)).frozen? ⟨w4.heap.size, i, none⟩ = false := fun i => HZ4.out.free i
            unfold resC at zc
            refine Held.one (i := 10) (o := { dst := _, op := _, type := _, pos := _, after := _, guard := _ }) (by kernel_rfl) rfl (fun K hK => ?_)
            (try unfold resC)
            go_simp
            refine hK.out _ _ (fun _ => (by rw [HSD.out]; exact ⟨fun i => (F4.out.alloc _).cell i, fun i => (F5.out.alloc _).cell i, fun i => (F6.out.alloc _).cell i⟩)) (fun hH7 => ?_)
            clear hK K
            replace hH7 := hH7 (by decide)
            refine Held.one (i := 11) (o := { dst := _, op := _, type := _, pos := _, after := _, guard := _ }) (by kernel_rfl) rfl (fun K hK => ?_)
            go_simp
            refine hK.out _ _ (fun h => absurd rfl h) (fun _ => ?_)
            clear hK K
            refine Held.done (by kernel_rfl) ?_ _
            refine NoPanic.normal ?_
            go_wp2
            go_meet
            exact ⟨_, eA, eC, sA, sC, tA, tC, rfl, rfl, Blk.newAt rfl, HB4.out.alloc HB4.out.size _, HO1.out.alloc _, HO3.out.alloc _, F5.out.alloc _⟩
          · go_simp
            have HBV := Lib.hid (HB3.out.alloc HB3.out.size (.cells (resC (fun _ => 0) (.slice none 0 0) (.slice none 0 0) (.slice none 0 0) 0) 37))
            have HZ := Lib.hid (Blk.new w3 (resC (fun _ => 0) (.slice none 0 0) (.slice none 0 0) (.slice none 0 0) 0) 37)
            obtain ⟨zb, hzb⟩ : ∃ b, b = w3.heap.size := ⟨_, rfl⟩
            have lz : w.heap.size ≤ zb := hzb ▸ HB3.out.size
            rw [← hzb] at HZ
            have V4 := Lib.hid ((E4.out).alloc (.cells (resC (fun _ => 0) (.slice none 0 0) (.slice none 0 0) (.slice none 0 0) 0) 37))
            have V5 := Lib.hid ((E5.out).alloc (.cells (resC (fun _ => 0) (.slice none 0 0) (.slice none 0 0) (.slice none 0 0) 0) 37))
            have V6 := Lib.hid ((E6.out).alloc (.cells (resC (fun _ => 0) (.slice none 0 0) (.slice none 0 0) (.slice none 0 0) 0) 37))
            rw [← hzb]
            clear hzb
            refine hK.out _ _ (fun _ => (by rw [HSD.out]; exact ⟨fun i => V4.out.cell i, fun i => V5.out.cell i, fun i => V6.out.cell i⟩)) (fun hH4 => ?_)
            clear hK K
            replace hH4 := hH4 (by decide)
            refine Held.one (i := 5) (o := { dst := _, op := _, type := _, pos := _, after := _, guard := _ }) (by kernel_rfl) rfl (fun K hK => ?_)
            go_simp
            refine (run_evG (w3.alloc (.cells (resC (fun _ => 0) (.slice none 0 0) (.slice none 0 0) (.slice none 0 0) 0) 37)) nA' kA' nC' kC' R HZR.out (HN3.out.allocS _) (HA.out.below HBV.out) (HC3.out.below ((Below.refl _ _).alloc (Nat.le_refl _) _)) hcl).mono ?_
            rintro e w4 ⟨R', rfl, eA, eC, sA, sC, tA, tC, rfl, hb4, o1, -, o3⟩
            have HB4 := Lib.hid (HBV.out.trans (hb4.mono HBV.out.size))
            have F4 := Lib.hid ((V4.out).below hb4)
            have F5 := Lib.hid ((V5.out).below hb4)
            have F6 := Lib.hid ((V6.out).below hb4)
            have HO1 := Lib.hid (World.ownsRow.mono o1 HBV.out.size)
            have HO3 := Lib.hid (World.ownsRow.mono o3 HBV.out.size)
            clear o1 o3
            have HZ4 := Lib.hid (HZ.out.below hb4)
            clear hb4
            unfold resC
            refine hK.out _ _ (fun _ => (by rw [HSD.out]; exact ⟨fun i => F4.out.cell i, fun i => F5.out.cell i, fun i => F6.out.cell i⟩)) (fun hH3 => ?_)
            clear hK K
            replace hH3 := hH3 (by decide)
            refine Held.take (i := 6) (oi := { dst := _, op := _, type := _, pos := _, after := _, guard := _ }) (v := ?v6q21) rfl (by kernel_rfl) (by kernel_rfl) (by kernel_rfl) (by kernel_rfl) (fun _ _ _ h => h) (Or.inl ⟨by rfl, ?hy6q21⟩) (by assumption) ?rest6q21
            case hy6q21 => (intro w hSw; rw [HSD.out] at hSw; (try dsimp only at hSw); obtain ⟨hs1, hs2, hs3⟩ := hSw; go_simp; (try with_reducible rfl))
            try simp only [Act.put, List.setIfInBounds_toArray, List.set_cons_zero, List.set_cons_succ]
            refine Held.take (i := 7) (oi := { dst := _, op := _, type := _, pos := _, after := _, guard := _ }) (v := ?v7q22) rfl (by kernel_rfl) (by kernel_rfl) (by kernel_rfl) (by kernel_rfl) (fun _ _ _ h => h) (Or.inl ⟨by rfl, ?hy7q22⟩) (by assumption) ?rest7q22
            case hy7q22 => (intro w hSw; rw [HSD.out] at hSw; (try dsimp only at hSw); obtain ⟨hs1, hs2, hs3⟩ := hSw; go_simp; (try with_reducible rfl))
            try simp only [Act.put, List.setIfInBounds_toArray, List.set_cons_zero, List.set_cons_succ]
            refine Held.take (i := 8) (oi := { dst := _, op := _, type := _, pos := _, after := _, guard := _ }) (v := ?v8q23) rfl (by kernel_rfl) (by kernel_rfl) (by kernel_rfl) (by kernel_rfl) (fun _ _ _ h => h) (Or.inl ⟨by rfl, ?hy8q23⟩) (by assumption) ?rest8q23
            case hy8q23 => (intro w hSw; rw [HSD.out] at hSw; (try dsimp only at hSw); obtain ⟨hs1, hs2, hs3⟩ := hSw; go_simp; (try with_reducible rfl))
            try simp only [Act.put, List.setIfInBounds_toArray, List.set_cons_zero, List.set_cons_succ]
            have zc : ∀ i, w4.cell? ⟨zb, i, none⟩ = _ := fun i => HZ4.out.cell i
            have zf : ∀ i, w4.frozen? ⟨zb, i, none⟩ = false := fun i => HZ4.out.free i
            unfold resC at zc
            refine Held.one (i := 10) (o := { dst := _, op := _, type := _, pos := _, after := _, guard := _ }) (by kernel_rfl) rfl (fun K hK => ?_)
            (try unfold resC)
            go_simp
            refine hK.out _ _ (fun _ => (by rw [HSD.out]; exact ⟨fun i => (blk12 F4.out HZ4.out (by decide) _ _ _ _ _ _ _ _ _ _ _ _).cell i, fun i => (blk12 F5.out HZ4.out (by decide) _ _ _ _ _ _ _ _ _ _ _ _).cell i, fun i => (blk12 F6.out HZ4.out (by decide) _ _ _ _ _ _ _ _ _ _ _ _).cell i⟩)) (fun hH7 => ?_)
            clear hK K
            replace hH7 := hH7 (by decide)
            refine Held.one (i := 11) (o := { dst := _, op := _, type := _, pos := _, after := _, guard := _ }) (by kernel_rfl) rfl (fun K hK => ?_)
            go_simp
            refine hK.out _ _ (fun h => absurd rfl h) (fun _ => ?_)
            clear hK K
            refine Held.done (by kernel_rfl) ?_ _
            refine NoPanic.normal ?_
            go_wp2
            go_meet
            exact ⟨_, eA, eC, sA, sC, tA, tC, rfl, rfl, HZ4.out.twelve rfl _ _ _ _ _ _ _ _ _ _ _ _, below12 HB4.out lz _ _ _ _ _ _ _ _ _ _ _ _, own12 HO1.out HZ4.out (by decide) _ _ _ _ _ _ _ _ _ _ _ _, own12 HO3.out HZ4.out (by decide) _ _ _ _ _ _ _ _ _ _ _ _, (blk12 F5.out HZ4.out (by decide) _ _ _ _ _ _ _ _ _ _ _ _)⟩
        · go_simp
          have HBV := Lib.hid (HB2.out.alloc HB2.out.size (.cells (resC (fun _ => 0) (.slice none 0 0) (.slice none 0 0) (.slice none 0 0) 0) 37)).drew
          have HZ := Lib.hid (show Blk ((w2.alloc (.cells (resC (fun _ => 0) (.slice none 0 0) (.slice none 0 0) (.slice none 0 0) 0) 37)).drew) w2.heap.size (resC (fun _ => 0) (.slice none 0 0) (.slice none 0 0) (.slice none 0 0) 0) 37 from (Blk.new w2 _ _).drew)
          obtain ⟨zb, hzb⟩ : ∃ b, b = w2.heap.size := ⟨_, rfl⟩
          have lz : w.heap.size ≤ zb := hzb ▸ HB2.out.size
          rw [← hzb] at HZ
          have V4 := Lib.hid (H4.out.alloc (.cells (resC (fun _ => 0) (.slice none 0 0) (.slice none 0 0) (.slice none 0 0) 0) 37)).drew
          have V5 := Lib.hid (H5.out.alloc (.cells (resC (fun _ => 0) (.slice none 0 0) (.slice none 0 0) (.slice none 0 0) 0) 37)).drew
          have V6 := Lib.hid (H6.out.alloc (.cells (resC (fun _ => 0) (.slice none 0 0) (.slice none 0 0) (.slice none 0 0) 0) 37)).drew
          rw [← hzb]
          clear hzb
          refine hK.out _ _ (fun _ => (by rw [HSD.out]; exact ⟨fun i => V4.out.cell i, fun i => V5.out.cell i, fun i => V6.out.cell i⟩)) (fun hH4 => ?_)
          clear hK K
          replace hH4 := hH4 (by decide)
          refine Held.one (i := 1) (o := { dst := _, op := _, type := _, pos := _, after := _, guard := _ }) (by kernel_rfl) rfl (fun K hK => ?_)
          go_simp
          refine (theirs_any nA kA nC kC NL CL ((w2.alloc (.cells (resC (fun _ => 0) (.slice none 0 0) (.slice none 0 0) (.slice none 0 0) 0) 37)).drew) (HN.out.below HBV.out) (HC.out.below HBV.out) hcl hnl).mono ?_
          rintro e w3 ⟨hb3, nA', nC', kA', kC', rfl, hN3, hC3⟩
          have HB3 := Lib.hid (HBV.out.trans (hb3.mono HBV.out.size))
          have E4 := Lib.hid ((V4.out).below hb3)
          have E5 := Lib.hid ((V5.out).below hb3)
          have E6 := Lib.hid ((V6.out).below hb3)
          have HN3 := Lib.hid hN3
          have HC3 := Lib.hid hC3
          have HZ3 := Lib.hid (HZ.out.below hb3)
          clear hb3 hN3 hC3
          refine hK.out _ _ (fun _ => (by rw [HSD.out]; exact ⟨fun i => E4.out.cell i, fun i => E5.out.cell i, fun i => E6.out.cell i⟩)) (fun hH2 => ?_)
          clear hK K
          replace hH2 := hH2 (by decide)
          refine Held.one (i := 5) (o := { dst := _, op := _, type := _, pos := _, after := _, guard := _ }) (by kernel_rfl) rfl (fun K hK => ?_)
          go_simp
          refine (run_evG w3 nA' kA' nC' kC' R HZR.out HN3.out (HA.out.below HB3.out) HC3.out hcl).mono ?_
          rintro e w4 ⟨R', rfl, eA, eC, sA, sC, tA, tC, rfl, hb4, o1, -, o3⟩
          have HB4 := Lib.hid (HB3.out.trans (hb4.mono HB3.out.size))
          have F4 := Lib.hid ((E4.out).below hb4)
          have F5 := Lib.hid ((E5.out).below hb4)
          have F6 := Lib.hid ((E6.out).below hb4)
          have HO1 := Lib.hid (World.ownsRow.mono o1 HB3.out.size)
          have HO3 := Lib.hid (World.ownsRow.mono o3 HB3.out.size)
          clear o1 o3
          have HZ4 := Lib.hid (HZ3.out.below hb4)
          clear hb4
          unfold resC
          refine hK.out _ _ (fun _ => (by rw [HSD.out]; exact ⟨fun i => F4.out.cell i, fun i => F5.out.cell i, fun i => F6.out.cell i⟩)) (fun hH3 => ?_)
          clear hK K
          replace hH3 := hH3 (by decide)
          refine Held.take (i := 6) (oi := { dst := _, op := _, type := _, pos := _, after := _, guard := _ }) (v := ?v6q24) rfl (by kernel_rfl) (by kernel_rfl) (by kernel_rfl) (by kernel_rfl) (fun _ _ _ h => h) (Or.inl ⟨by rfl, ?hy6q24⟩) (by assumption) ?rest6q24
          case hy6q24 => (intro w hSw; rw [HSD.out] at hSw; (try dsimp only at hSw); obtain ⟨hs1, hs2, hs3⟩ := hSw; go_simp; (try with_reducible rfl))
          try simp only [Act.put, List.setIfInBounds_toArray, List.set_cons_zero, List.set_cons_succ]
          refine Held.take (i := 7) (oi := { dst := _, op := _, type := _, pos := _, after := _, guard := _ }) (v := ?v7q25) rfl (by kernel_rfl) (by kernel_rfl) (by kernel_rfl) (by kernel_rfl) (fun _ _ _ h => h) (Or.inl ⟨by rfl, ?hy7q25⟩) (by assumption) ?rest7q25
          case hy7q25 => (intro w hSw; rw [HSD.out] at hSw; (try dsimp only at hSw); obtain ⟨hs1, hs2, hs3⟩ := hSw; go_simp; (try with_reducible rfl))
          try simp only [Act.put, List.setIfInBounds_toArray, List.set_cons_zero, List.set_cons_succ]
          refine Held.take (i := 8) (oi := { dst := _, op := _, type := _, pos := _, after := _, guard := _ }) (v := ?v8q26) rfl (by kernel_rfl) (by kernel_rfl) (by kernel_rfl) (by kernel_rfl) (fun _ _ _ h => h) (Or.inl ⟨by rfl, ?hy8q26⟩) (by assumption) ?rest8q26
          case hy8q26 => (intro w hSw; rw [HSD.out] at hSw; (try dsimp only at hSw); obtain ⟨hs1, hs2, hs3⟩ := hSw; go_simp; (try with_reducible rfl))
          try simp only [Act.put, List.setIfInBounds_toArray, List.set_cons_zero, List.set_cons_succ]
          have zc : ∀ i, w4.cell? ⟨zb, i, none⟩ = _ := fun i => HZ4.out.cell i
          have zf : ∀ i, w4.frozen? ⟨zb, i, none⟩ = false := fun i => HZ4.out.free i
          unfold resC at zc
          refine Held.one (i := 10) (o := { dst := _, op := _, type := _, pos := _, after := _, guard := _ }) (by kernel_rfl) rfl (fun K hK => ?_)
          (try unfold resC)
          go_simp
          refine hK.out _ _ (fun _ => (by rw [HSD.out]; exact ⟨fun i => (blk12 F4.out HZ4.out (by decide) _ _ _ _ _ _ _ _ _ _ _ _).cell i, fun i => (blk12 F5.out HZ4.out (by decide) _ _ _ _ _ _ _ _ _ _ _ _).cell i, fun i => (blk12 F6.out HZ4.out (by decide) _ _ _ _ _ _ _ _ _ _ _ _).cell i⟩)) (fun hH7 => ?_)
          clear hK K
          replace hH7 := hH7 (by decide)
          refine Held.one (i := 11) (o := { dst := _, op := _, type := _, pos := _, after := _, guard := _ }) (by kernel_rfl) rfl (fun K hK => ?_)
          go_simp
          refine hK.out _ _ (fun h => absurd rfl h) (fun _ => ?_)
          clear hK K
          refine Held.done (by kernel_rfl) ?_ _
          refine NoPanic.normal ?_
          go_wp2
          go_meet
          exact ⟨_, eA, eC, sA, sC, tA, tC, rfl, rfl, HZ4.out.twelve rfl _ _ _ _ _ _ _ _ _ _ _ _, below12 HB4.out lz _ _ _ _ _ _ _ _ _ _ _ _, own12 HO1.out HZ4.out (by decide) _ _ _ _ _ _ _ _ _ _ _ _, own12 HO3.out HZ4.out (by decide) _ _ _ _ _ _ _ _ _ _ _ _, (blk12 F5.out HZ4.out (by decide) _ _ _ _ _ _ _ _ _ _ _ _)⟩
      obtain ⟨rb, eA, eC, sA, sC, tA, tC, rfl, rfl, hrb, hbx, ho1, ho3, hb5⟩ := hcut
      obtain ⟨hI, ⟨hs0, hs5⟩, _⟩ := HEV.out
      have HI := Lib.hid hI
      have hreg := hI.reg
      have hs4 := hI.sent
      have s0 : decide (R.steps < 0) = false := decide_eq_false (by omega)
      have s1 : decide ((500 : Int) < R.steps) = false := decide_eq_false (by omega)
      have s2 : decide ((4 : Int) < (R.sent.length : Int)) = false := decide_eq_false (by omega)
      rw [hreg] at hrb
      have HB7 := Lib.hid hbx
      have HR7 := Lib.hid hrb
      have HO1 := Lib.hid ho1
      have HO3 := Lib.hid ho3
      have HS7 := Lib.hid (show Blk wc b5 (regC (doEv reg (R.ev.take 0))) 26 from hb5)
      have hlE := own_len ho1
      have hlT := own_len ho3
      have v : ∀ i, wc.cell? ⟨rb, i, none⟩ = _ := fun i => hrb.cell i
      unfold resC at v
      clear hbx hrb ho1 ho3 hb5 HSD q4 q5 q6 hI hreg hs4 HEV HZR D4 D5 D6 HBD H4 H5 H6 HA HN HC HB2
      go_wp2_with fail
      go_loopw [82] (fun i wr => ∃ k : Nat, k ≤ R.ev.length ∧ i = .int .i64 k ∧ Below w.heap.size w wr ∧ Blk wr rb (resC (doEv reg R.ev) (.slice eA R.ev.length eC) (.slice sA R.sent.length sC) (.slice tA R.tm.length tC) R.steps) 37 ∧ wr.ownsRow w.heap.size 56 2 (.slice eA R.ev.length eC) R.ev.length (encE R.ev) ∧ wr.ownsRow w.heap.size 58 5 (.slice tA R.tm.length tC) R.tm.length (encT R.tm) ∧ Blk wr b5 (regC (doEv reg (R.ev.take k))) 26) (fun i _ => R.ev.length - (intOf i).toNat)
      case atStart => exact ⟨0, by omega, rfl, HB7.out, HR7.out, HO1.out, HO3.out, HS7.out⟩
      case round =>
        obtain ⟨k, hk, rfl, hbx, hrb, ho1, ho3, hb5⟩ := hrel
        clear v HB7 HR7 HO1 HO3 HS7
        have HB7 := Lib.hid hbx
        have HR7 := Lib.hid hrb
        have HO1 := Lib.hid ho1
        have HO3 := Lib.hid ho3
        have HS7 := Lib.hid hb5
        have v : ∀ i, wr.cell? ⟨rb, i, none⟩ = _ := fun i => hrb.cell i
        unfold resC at v
        by_cases hkl : k < R.ev.length
        · obtain ⟨g, rfl, _, lg, hc⟩ := own_cells ho1 (show 0 < R.ev.length by omega)
          obtain ⟨t0, t1⟩ := encE_at R.ev k hkl
          have e0 := (hc (k * 2) (by omega)).trans t0
          have e1 := (hc (k * 2 + 1) (by omega)).trans t1
          have he := HI.out.evr (R.ev.getD k (0, 0)) (by rw [List.getD_eq_getElem?_getD, List.getElem?_eq_getElem hkl]; exact List.getElem_mem hkl)
          obtain ⟨r, hr⟩ : ∃ r, r = (R.ev.getD k (0, 0)).1 := ⟨_, rfl⟩
          obtain ⟨x, hx⟩ : ∃ x, x = (R.ev.getD k (0, 0)).2 := ⟨_, rfl⟩
          rw [← hr] at e0 he
          rw [← hx] at e1
          have HTK := Lib.hid (show R.ev.take (k + 1) = R.ev.take k ++ [(r, x)] by
            rw [hr, hx, show R.ev.getD k (0, 0) = R.ev[k] by simp [List.getD, hkl]]
            exact (List.take_append_getElem hkl).symm)
          have d0 : decide (r < 0) = false := decide_eq_false (by omega)
          have d1 : decide ((7 : Int) < r) = false := decide_eq_false (by omega)
          have r0 : 0 ≤ r := he.1
          have r1 : r < 8 := he.2
          have HK1 := Lib.hid (show k + 1 ≤ R.ev.length from hkl)
          have k0 : (0 : Int) ≤ (k : Int) := by omega
          have k1 : (k : Int) < (R.ev.length : Int) := by omega
          have lb5 := hb5.lt
          have lr := hrb.lt
          clear hbx hrb ho1 ho3 hb5 hc t0 t1 hr hx
          go_upto_region 13 with fail
          have w1' : ∀ i, wr.drew.cell? ⟨rb, i, none⟩ = (resC (doEv reg R.ev) (.slice (some ⟨g, 0, none⟩) R.ev.length eC) (.slice sA R.sent.length sC) (.slice tA R.tm.length tC) R.steps)[i]? := v
          have w2' : wr.drew.cell? ⟨g, k * 2, none⟩ = some (.int .i64 r) := e0
          have w3' : wr.drew.cell? ⟨g, k * 2 + 1, none⟩ = some (.int .i64 x) := e1
          have x5 : ∀ i, wr.drew.cell? ⟨b5, i, none⟩ = _ := fun i => HS7.out.drew.cell i
          have y5 : ∀ i, wr.drew.frozen? ⟨b5, i, none⟩ = false := fun i => HS7.out.drew.free i
          obtain ⟨S, hSD⟩ : ∃ S : World → Prop, S = fun w' => (∀ i, w'.cell? ⟨rb, i, none⟩ = (resC (doEv reg R.ev) (.slice (some ⟨g, 0, none⟩) R.ev.length eC) (.slice sA R.sent.length sC) (.slice tA R.tm.length tC) R.steps)[i]?) ∧ w'.cell? ⟨g, k * 2, none⟩ = some (.int .i64 r) ∧ w'.cell? ⟨g, k * 2 + 1, none⟩ = some (.int .i64 x) := ⟨_, rfl⟩
          have HSD := Lib.hid hSD
          clear hSD
          refine Held.region S 13 (by kernel_rfl) (by rw [HSD.out]; exact ⟨w1', w2', w3'⟩) (fun hHeld => ?_)
          refine Held.take (i := 0) (oi := { dst := _, op := _, type := _, pos := _, after := _, guard := _ }) (v := ?v0q1) rfl (by kernel_rfl) (by kernel_rfl) (by kernel_rfl) (by kernel_rfl) (fun _ _ _ h => h) (Or.inl ⟨by rfl, ?hy0q1⟩) (by assumption) ?rest0q1
          case hy0q1 => (intro w hSw; rw [HSD.out] at hSw; (try dsimp only at hSw); obtain ⟨hs1, hs2, hs3⟩ := hSw; go_simp; (try with_reducible rfl))
          try simp only [Act.put, List.setIfInBounds_toArray, List.set_cons_zero, List.set_cons_succ]
          refine Held.take (i := 1) (oi := { dst := _, op := _, type := _, pos := _, after := _, guard := _ }) (v := ?v1q2) rfl (by kernel_rfl) (by kernel_rfl) (by kernel_rfl) (by kernel_rfl) (fun _ _ _ h => h) (Or.inl ⟨by rfl, ?hy1q2⟩) (by assumption) ?rest1q2
          case hy1q2 => (intro w hSw; rw [HSD.out] at hSw; (try dsimp only at hSw); obtain ⟨hs1, hs2, hs3⟩ := hSw; go_simp; (try with_reducible rfl))
          try simp only [Act.put, List.setIfInBounds_toArray, List.set_cons_zero, List.set_cons_succ]
          refine Held.take (i := 2) (oi := { dst := _, op := _, type := _, pos := _, after := _, guard := _ }) (v := ?v2q3) rfl (by kernel_rfl) (by kernel_rfl) (by kernel_rfl) (by kernel_rfl) (fun _ _ _ h => h) (Or.inl ⟨by rfl, ?hy2q3⟩) (by assumption) ?rest2q3
          case hy2q3 => (intro w hSw; rw [HSD.out] at hSw; (try dsimp only at hSw); obtain ⟨hs1, hs2, hs3⟩ := hSw; go_simp; (try with_reducible rfl))
          try simp only [Act.put, List.setIfInBounds_toArray, List.set_cons_zero, List.set_cons_succ]
          refine Held.take (i := 3) (oi := { dst := _, op := _, type := _, pos := _, after := _, guard := _ }) (v := ?v3q4) rfl (by kernel_rfl) (by kernel_rfl) (by kernel_rfl) (by kernel_rfl) (fun _ _ _ h => h) (Or.inl ⟨by rfl, ?hy3q4⟩) (by assumption) ?rest3q4
          case hy3q4 => (intro w hSw; rw [HSD.out] at hSw; (try dsimp only at hSw); obtain ⟨hs1, hs2, hs3⟩ := hSw; go_simp; (try with_reducible rfl))
          try simp only [Act.put, List.setIfInBounds_toArray, List.set_cons_zero, List.set_cons_succ]
          refine Held.take (i := 4) (oi := { dst := _, op := _, type := _, pos := _, after := _, guard := _ }) (v := ?v4q5) rfl (by kernel_rfl) (by kernel_rfl) (by kernel_rfl) (by kernel_rfl) (fun _ _ _ h => h) (Or.inl ⟨by rfl, ?hy4q5⟩) (by assumption) ?rest4q5
          case hy4q5 => (intro w hSw; rw [HSD.out] at hSw; (try dsimp only at hSw); obtain ⟨hs1, hs2, hs3⟩ := hSw; go_simp; (try with_reducible rfl))
          try simp only [Act.put, List.setIfInBounds_toArray, List.set_cons_zero, List.set_cons_succ]
          refine Held.take (i := 5) (oi := { dst := _, op := _, type := _, pos := _, after := _, guard := _ }) (v := ?v5q6) rfl (by kernel_rfl) (by kernel_rfl) (by kernel_rfl) (by kernel_rfl) (fun _ _ _ h => h) (Or.inl ⟨by rfl, ?hy5q6⟩) (by assumption) ?rest5q6
          case hy5q6 => (intro w hSw; rw [HSD.out] at hSw; (try dsimp only at hSw); obtain ⟨hs1, hs2, hs3⟩ := hSw; go_simp; (try with_reducible rfl))
          try simp only [Act.put, List.setIfInBounds_toArray, List.set_cons_zero, List.set_cons_succ]
          refine Held.take (i := 6) (oi := { dst := _, op := _, type := _, pos := _, after := _, guard := _ }) (v := ?v6q7) rfl (by kernel_rfl) (by kernel_rfl) (by kernel_rfl) (by kernel_rfl) (fun _ _ _ h => h) (Or.inl ⟨by rfl, ?hy6q7⟩) (by assumption) ?rest6q7
          case hy6q7 => (intro w hSw; rw [HSD.out] at hSw; (try dsimp only at hSw); obtain ⟨hs1, hs2, hs3⟩ := hSw; go_simp; (try with_reducible rfl))
          try simp only [Act.put, List.setIfInBounds_toArray, List.set_cons_zero, List.set_cons_succ]
          refine Held.take (i := 7) (oi := { dst := _, op := _, type := _, pos := _, after := _, guard := _ }) (v := ?v7q8) rfl (by kernel_rfl) (by kernel_rfl) (by kernel_rfl) (by kernel_rfl) (fun _ _ _ h => h) (Or.inl ⟨by rfl, ?hy7q8⟩) (by assumption) ?rest7q8
          case hy7q8 => (intro w hSw; rw [HSD.out] at hSw; (try dsimp only at hSw); obtain ⟨hs1, hs2, hs3⟩ := hSw; go_simp; (try with_reducible rfl))
          try simp only [Act.put, List.setIfInBounds_toArray, List.set_cons_zero, List.set_cons_succ]
          refine Held.take (i := 8) (oi := { dst := _, op := _, type := _, pos := _, after := _, guard := _ }) (v := ?v8q9) rfl (by kernel_rfl) (by kernel_rfl) (by kernel_rfl) (by kernel_rfl) (fun _ _ _ h => h) (Or.inl ⟨by rfl, ?hy8q9⟩) (by assumption) ?rest8q9
          case hy8q9 => (intro w hSw; rw [HSD.out] at hSw; (try dsimp only at hSw); obtain ⟨hs1, hs2, hs3⟩ := hSw; go_simp; (try with_reducible rfl))
          try simp only [Act.put, List.setIfInBounds_toArray, List.set_cons_zero, List.set_cons_succ]
          refine Held.take (i := 9) (oi := { dst := _, op := _, type := _, pos := _, after := _, guard := _ }) (v := ?v9q10) rfl (by kernel_rfl) (by kernel_rfl) (by kernel_rfl) (by kernel_rfl) (fun _ _ _ h => h) (Or.inl ⟨by rfl, ?hy9q10⟩) (by assumption) ?rest9q10
          case hy9q10 => (intro w hSw; rw [HSD.out] at hSw; (try dsimp only at hSw); obtain ⟨hs1, hs2, hs3⟩ := hSw; go_simp; (try with_reducible rfl))
          try simp only [Act.put, List.setIfInBounds_toArray, List.set_cons_zero, List.set_cons_succ]
          refine Held.take (i := 10) (oi := { dst := _, op := _, type := _, pos := _, after := _, guard := _ }) (v := ?v10q11) rfl (by kernel_rfl) (by kernel_rfl) (by kernel_rfl) (by kernel_rfl) (fun _ _ _ h => h) (Or.inl ⟨by rfl, ?hy10q11⟩) (by assumption) ?rest10q11
          case hy10q11 => (intro w hSw; rw [HSD.out] at hSw; (try dsimp only at hSw); obtain ⟨hs1, hs2, hs3⟩ := hSw; go_simp; (try with_reducible rfl))
          try simp only [Act.put, List.setIfInBounds_toArray, List.set_cons_zero, List.set_cons_succ]
          refine Held.take (i := 11) (oi := { dst := _, op := _, type := _, pos := _, after := _, guard := _ }) (v := ?v11q12) rfl (by kernel_rfl) (by kernel_rfl) (by kernel_rfl) (by kernel_rfl) (fun _ _ _ h => h) (Or.inl ⟨by rfl, ?hy11q12⟩) (by assumption) ?rest11q12
          case hy11q12 => (intro w hSw; rw [HSD.out] at hSw; (try dsimp only at hSw); obtain ⟨hs1, hs2, hs3⟩ := hSw; go_simp; (try with_reducible rfl))
          try simp only [Act.put, List.setIfInBounds_toArray, List.set_cons_zero, List.set_cons_succ]
          refine Held.take (i := 12) (oi := { dst := _, op := _, type := _, pos := _, after := _, guard := _ }) (v := ?v12q13) rfl (by kernel_rfl) (by kernel_rfl) (by kernel_rfl) (by kernel_rfl) (fun _ _ _ h => h) (Or.inl ⟨by rfl, ?hy12q13⟩) (by assumption) ?rest12q13
          case hy12q13 => (intro w hSw; rw [HSD.out] at hSw; (try dsimp only at hSw); obtain ⟨hs1, hs2, hs3⟩ := hSw; go_simp; (try with_reducible rfl))
          try simp only [Act.put, List.setIfInBounds_toArray, List.set_cons_zero, List.set_cons_succ]
          refine Held.one (i := 13) (o := { dst := _, op := _, type := _, pos := _, after := _, guard := _ }) (by kernel_rfl) rfl (fun K hK => ?_)
          go_simp
          refine hK.out _ _ (fun h => absurd rfl h) (fun _ => ?_)
          clear hK K
          refine Held.done (by kernel_rfl) ?_ _
          refine NoPanic.normal ?_
          have hsf := HS7.out.set r.toNat (.int .i64 x)
          rw [regC_set _ (by omega) x] at hsf
          have HSF := Lib.hid hsf
          clear hsf
          go_wp2
          go_roundw
          case rel => exact ⟨k + 1, HK1.out, by go_num, (HB7.out.setCell (p := ⟨b5, r.toNat, none⟩) l5 _).drew, (HR7.out.other (a := ⟨b5, r.toNat, none⟩) (blk_apart HR7.out HS7.out (by decide)) _).drew, own_set HO1.out HS7.out (by decide) _, own_set HO3.out HS7.out (by decide) _, by rw [HTK.out, doEv_snoc]; exact HSF.out⟩
          case measure => have := HK1.out; simp [intOf]; omega
        · obtain rfl : k = R.ev.length := by omega
          rw [List.take_length] at hb5
          have HS8 := Lib.hid hb5
          clear hbx hrb ho1 ho3 hb5 HS7 HO1
          obtain ⟨wm, hwm⟩ : ∃ z, z = wr := ⟨_, rfl⟩
          subst hwm
          go_wp2_with fail
          go_loopw [118] (fun i wr => ∃ j : Nat, j ≤ R.tm.length ∧ i = .int .i64 j ∧ Below w.heap.size w wr ∧ Blk wr rb (resC (doEv reg R.ev) (.slice eA R.ev.length eC) (.slice sA R.sent.length sC) (.slice tA R.tm.length tC) R.steps) 37 ∧ wr.ownsRow w.heap.size 58 5 (.slice tA R.tm.length tC) R.tm.length (encT R.tm) ∧ Blk wr b5 (regC (doEv reg R.ev)) 26) (fun i _ => R.tm.length - (intOf i).toNat)
          case atStart => exact ⟨0, by omega, rfl, HB7.out, HR7.out, HO3.out, HS8.out⟩
          case round =>
            obtain ⟨j, hj, rfl, hbx, hrb, ho3, hb5⟩ := hrel
            clear v HB7 HR7 HO3 HS8
            have HB7 := Lib.hid hbx
            have HR7 := Lib.hid hrb
            have HO3 := Lib.hid ho3
            have HS8 := Lib.hid hb5
            have v : ∀ i, wr.cell? ⟨rb, i, none⟩ = _ := fun i => hrb.cell i
            unfold resC at v
            by_cases hjl : j < R.tm.length
            · obtain ⟨g, rfl, _, lg, hc⟩ := own_cells ho3 (show 0 < R.tm.length by omega)
              obtain ⟨t0, t1, t2, t3, t4⟩ := encT_at R.tm j hjl
              have e0 := (hc (j * 5) (by omega)).trans t0
              have e1 := (hc (j * 5 + 1) (by omega)).trans t1
              have e2 := (hc (j * 5 + 2) (by omega)).trans t2
              have e3 := (hc (j * 5 + 3) (by omega)).trans t3
              have e4 := (hc (j * 5 + 4) (by omega)).trans t4
              have he := HI.out.tm (R.tm.getD j (⟨#[]⟩, true, 0, 0, 0)) (by rw [List.getD_eq_getElem?_getD, List.getElem?_eq_getElem hjl]; exact List.getElem_mem hjl)
              obtain ⟨T, hT⟩ : ∃ T, T = R.tm.getD j (⟨#[]⟩, true, 0, 0, 0) := ⟨_, rfl⟩
              rw [← hT] at e0 e1 e2 e3 e4 he
              obtain ⟨nm, bt, due, per, kk⟩ := T
              dsimp only at e0 e1 e2 e3 e4 he
              have he' : bt = true ∨ (now ≤ due ∧ 1 ≤ per) := he
              have HJ1 := Lib.hid (show j + 1 ≤ R.tm.length from hjl)
              have k0 : (0 : Int) ≤ (j : Int) := by omega
              have k1 : (j : Int) < (R.tm.length : Int) := by omega
              clear hbx hrb ho3 hb5 hc t0 t1 t2 t3 t4 hT he
              cases bt with
              | true =>
                clear he'
                go_wp2_with fail
                go_roundw
                case rel => exact ⟨j + 1, HJ1.out, by go_num, HB7.out.alloc HB7.out.size _, HR7.out.alloc _, HO3.out.alloc _, HS8.out.alloc _⟩
                case measure => have := HJ1.out; simp [intOf]; omega
              | false =>
                obtain ⟨hd1, hd2⟩ := he'.resolve_left (by decide)
                have d3 : decide (due < now) = false := decide_eq_false (by omega)
                have d4 : decide (per < 1) = false := decide_eq_false (by omega)
                clear he' hd1 hd2
                go_wp2_with fail
                go_roundw
                case rel => exact ⟨j + 1, HJ1.out, by go_num, HB7.out.alloc HB7.out.size _, HR7.out.alloc _, HO3.out.alloc _, HS8.out.alloc _⟩
                case measure => have := HJ1.out; simp [intOf]; omega
            · obtain rfl : j = R.tm.length := by omega
              have x5 : ∀ i, wr.cell? ⟨b5, i, none⟩ = _ := fun i => HS8.out.cell i
              have hq : ∀ w : World, (Op.equalIn 10000 26 (.agg (regC (doEv reg R.ev))) (.agg (regC (doEv reg R.ev)))).run Try.prog w = .ok true w := eq26 _
              clear hbx hrb ho3 hb5
              go_wp2_with fail
              go_ret
              exact ⟨rfl, HB7.out⟩
    · skip
      go_cut [9, 10] (fun v9 v10 wx => ∃ rb, v9 = .pointer (some ⟨rb, 0, none⟩) ∧ v10 = .int .i64 z ∧ Blk wx rb (resC (fun _ => 0) (.slice none 0 0) (.slice none 0 0) (.slice none 0 0) R.steps) 37 ∧ Below w.heap.size w wx)
      case first =>
        refine Held.region S 11 (by kernel_rfl) (by rw [HSD.out]; exact ⟨q4, q5, q6⟩) (fun hHeld => ?_)
        refine Held.take (i := 0) (oi := { dst := _, op := _, type := _, pos := _, after := _, guard := _ }) (v := ?v0q27) rfl (by kernel_rfl) (by kernel_rfl) (by kernel_rfl) (by kernel_rfl) (fun _ _ _ h => h) (Or.inl ⟨by rfl, ?hy0q27⟩) (by assumption) ?rest0q27
        case hy0q27 => (intro w hSw; rw [HSD.out] at hSw; (try dsimp only at hSw); obtain ⟨hs1, hs2, hs3⟩ := hSw; go_simp; (try with_reducible rfl))
        try simp only [Act.put, List.setIfInBounds_toArray, List.set_cons_zero, List.set_cons_succ]
        refine Held.take (i := 2) (oi := { dst := _, op := _, type := _, pos := _, after := _, guard := _ }) (v := ?v2q28) rfl (by kernel_rfl) (by kernel_rfl) (by kernel_rfl) (by kernel_rfl) (fun _ _ _ h => h) (Or.inl ⟨by rfl, ?hy2q28⟩) (by assumption) ?rest2q28
        case hy2q28 => (intro w hSw; rw [HSD.out] at hSw; (try dsimp only at hSw); obtain ⟨hs1, hs2, hs3⟩ := hSw; go_simp; (try with_reducible rfl))
        try simp only [Act.put, List.setIfInBounds_toArray, List.set_cons_zero, List.set_cons_succ]
        refine Held.take (i := 3) (oi := { dst := _, op := _, type := _, pos := _, after := _, guard := _ }) (v := ?v3q29) rfl (by kernel_rfl) (by kernel_rfl) (by kernel_rfl) (by kernel_rfl) (fun _ _ _ h => h) (Or.inl ⟨by rfl, ?hy3q29⟩) (by assumption) ?rest3q29
        case hy3q29 => (intro w hSw; rw [HSD.out] at hSw; (try dsimp only at hSw); obtain ⟨hs1, hs2, hs3⟩ := hSw; go_simp; (try with_reducible rfl))
        try simp only [Act.put, List.setIfInBounds_toArray, List.set_cons_zero, List.set_cons_succ]
        refine Held.take (i := 4) (oi := { dst := _, op := _, type := _, pos := _, after := _, guard := _ }) (v := ?v4q30) rfl (by kernel_rfl) (by kernel_rfl) (by kernel_rfl) (by kernel_rfl) (fun _ _ _ h => h) (Or.inl ⟨by rfl, ?hy4q30⟩) (by assumption) ?rest4q30
        case hy4q30 => (intro w hSw; rw [HSD.out] at hSw; (try dsimp only at hSw); obtain ⟨hs1, hs2, hs3⟩ := hSw; go_simp; (try with_reducible rfl))
        try simp only [Act.put, List.setIfInBounds_toArray, List.set_cons_zero, List.set_cons_succ]
        refine Held.two (i := 1) (j := 9) (o := { dst := _, op := _, type := _, pos := _, after := _, guard := _ }) (p := { dst := _, op := _, type := _, pos := _, after := _, guard := _ }) (by kernel_rfl) rfl rfl (fun K hK => ?_) (fun K hK => ?_)
        · go_simp
          refine (theirs_any nA kA nC kC NL CL w2.drew (HN.out.below HBD.out) (HC.out.below HBD.out) hcl hnl).mono ?_
          rintro e w3 ⟨hb3, nA', nC', kA', kC', rfl, hN3, hC3⟩
          have HB3 := Lib.hid (HBD.out.trans (hb3.mono HBD.out.size))
          have E4 := Lib.hid ((D4.out).below hb3)
          have E5 := Lib.hid ((D5.out).below hb3)
          have E6 := Lib.hid ((D6.out).below hb3)
          have HN3 := Lib.hid hN3
          have HC3 := Lib.hid hC3
          clear hb3 hN3 hC3
          refine hK.out _ _ (fun _ => (by rw [HSD.out]; exact ⟨fun i => E4.out.cell i, fun i => E5.out.cell i, fun i => E6.out.cell i⟩)) (fun hH2 => ?_)
          clear hK K
          replace hH2 := hH2 (by decide)
          refine Held.two (i := 5) (j := 9) (o := { dst := _, op := _, type := _, pos := _, after := _, guard := _ }) (p := { dst := _, op := _, type := _, pos := _, after := _, guard := _ }) (by kernel_rfl) rfl rfl (fun K hK => ?_) (fun K hK => ?_)
          · go_simp
            refine (run_evB w3 nA' kA' nC' kC' R z hz HZR.out HN3.out (HA.out.below HB3.out) HC3.out hcl).mono ?_
            rintro e w4 ⟨rfl, hb4⟩
            have HB4 := Lib.hid (HB3.out.trans (hb4.mono HB3.out.size))
            have F4 := Lib.hid ((E4.out).below hb4)
            have F5 := Lib.hid ((E5.out).below hb4)
            have F6 := Lib.hid ((E6.out).below hb4)
            clear hb4
            unfold resC
            refine hK.out _ _ (fun _ => (by rw [HSD.out]; exact ⟨fun i => F4.out.cell i, fun i => F5.out.cell i, fun i => F6.out.cell i⟩)) (fun hH3 => ?_)
            clear hK K
            replace hH3 := hH3 (by decide)
            refine Held.take (i := 6) (oi := { dst := _, op := _, type := _, pos := _, after := _, guard := _ }) (v := ?v6q31) rfl (by kernel_rfl) (by kernel_rfl) (by kernel_rfl) (by kernel_rfl) (fun _ _ _ h => h) (Or.inl ⟨by rfl, ?hy6q31⟩) (by assumption) ?rest6q31
            case hy6q31 => (intro w hSw; rw [HSD.out] at hSw; (try dsimp only at hSw); obtain ⟨hs1, hs2, hs3⟩ := hSw; go_simp; (try with_reducible rfl))
            try simp only [Act.put, List.setIfInBounds_toArray, List.set_cons_zero, List.set_cons_succ]
            refine Held.take (i := 7) (oi := { dst := _, op := _, type := _, pos := _, after := _, guard := _ }) (v := ?v7q32) rfl (by kernel_rfl) (by kernel_rfl) (by kernel_rfl) (by kernel_rfl) (fun _ _ _ h => h) (Or.inl ⟨by rfl, ?hy7q32⟩) (by assumption) ?rest7q32
            case hy7q32 => (intro w hSw; rw [HSD.out] at hSw; (try dsimp only at hSw); obtain ⟨hs1, hs2, hs3⟩ := hSw; go_simp; (try with_reducible rfl))
            try simp only [Act.put, List.setIfInBounds_toArray, List.set_cons_zero, List.set_cons_succ]
            refine Held.take (i := 8) (oi := { dst := _, op := _, type := _, pos := _, after := _, guard := _ }) (v := ?v8q33) rfl (by kernel_rfl) (by kernel_rfl) (by kernel_rfl) (by kernel_rfl) (fun _ _ _ h => h) (Or.inl ⟨by rfl, ?hy8q33⟩) (by assumption) ?rest8q33
            case hy8q33 => (intro w hSw; rw [HSD.out] at hSw; (try dsimp only at hSw); obtain ⟨hs1, hs2, hs3⟩ := hSw; go_simp; (try with_reducible rfl))
            try simp only [Act.put, List.setIfInBounds_toArray, List.set_cons_zero, List.set_cons_succ]
            refine Held.one (i := 9) (o := { dst := _, op := _, type := _, pos := _, after := _, guard := _ }) (by kernel_rfl) rfl (fun K hK => ?_)
            go_simp
            have HBA := Lib.hid (HB4.out.alloc HB4.out.size (.cells (resC (fun _ => 0) (.slice none 0 0) (.slice none 0 0) (.slice none 0 0) 0) 37))
            have HZ4 := Lib.hid (Blk.new w4 (resC (fun _ => 0) (.slice none 0 0) (.slice none 0 0) (.slice none 0 0) 0) 37)
            have G4 := Lib.hid (F4.out.alloc (.cells (resC (fun _ => 0) (.slice none 0 0) (.slice none 0 0) (.slice none 0 0) 0) 37))
            have G5 := Lib.hid (F5.out.alloc (.cells (resC (fun _ => 0) (.slice none 0 0) (.slice none 0 0) (.slice none 0 0) 0) 37))
            have G6 := Lib.hid (F6.out.alloc (.cells (resC (fun _ => 0) (.slice none 0 0) (.slice none 0 0) (.slice none 0 0) 0) 37))
            refine hK.out _ _ (fun _ => (by rw [HSD.out]; exact ⟨fun i => G4.out.cell i, fun i => G5.out.cell i, fun i => G6.out.cell i⟩)) (fun hH6 => ?_)
            clear hK K
            replace hH6 := hH6 (by decide)
            have zc : ∀ i, (w4.alloc (.cells (resC (fun _ => 0) (.slice none 0 0) (.slice none 0 0) (.slice none 0 0) 0) 37)).cell? ⟨w4.heap.size, i, none⟩ = _ := fun i => HZ4.out.cell i
            have zf : ∀ i, (w4.alloc (.cells (resC (fun _ => 0) (.slice none 0 0) (.slice none 0 0) (.slice none 0 0) 0) 37)).frozen? ⟨w4.heap.size, i, none⟩ = false := fun i => HZ4.out.free i
            unfold resC at zc
            refine Held.one (i := 10) (o := { dst := _, op := _, type := _, pos := _, after := _, guard := _ }) (by kernel_rfl) rfl (fun K hK => ?_)
            (try unfold resC)
            go_simp
            refine hK.out _ _ (fun _ => (by rw [HSD.out]; exact ⟨fun i => (F4.out.alloc _).cell i, fun i => (F5.out.alloc _).cell i, fun i => (F6.out.alloc _).cell i⟩)) (fun hH7 => ?_)
            clear hK K
            replace hH7 := hH7 (by decide)
            refine Held.one (i := 11) (o := { dst := _, op := _, type := _, pos := _, after := _, guard := _ }) (by kernel_rfl) rfl (fun K hK => ?_)
            go_simp
            refine hK.out _ _ (fun h => absurd rfl h) (fun _ => ?_)
            clear hK K
            refine Held.done (by kernel_rfl) ?_ _
            refine NoPanic.normal ?_
            go_wp2
            go_meet
            exact ⟨_, rfl, rfl, Blk.newAt rfl, HB4.out.alloc HB4.out.size _⟩
          · go_simp
            have HBV := Lib.hid (HB3.out.alloc HB3.out.size (.cells (resC (fun _ => 0) (.slice none 0 0) (.slice none 0 0) (.slice none 0 0) 0) 37))
            have HZ := Lib.hid (Blk.new w3 (resC (fun _ => 0) (.slice none 0 0) (.slice none 0 0) (.slice none 0 0) 0) 37)
            obtain ⟨zb, hzb⟩ : ∃ b, b = w3.heap.size := ⟨_, rfl⟩
            have lz : w.heap.size ≤ zb := hzb ▸ HB3.out.size
            rw [← hzb] at HZ
            have V4 := Lib.hid ((E4.out).alloc (.cells (resC (fun _ => 0) (.slice none 0 0) (.slice none 0 0) (.slice none 0 0) 0) 37))
            have V5 := Lib.hid ((E5.out).alloc (.cells (resC (fun _ => 0) (.slice none 0 0) (.slice none 0 0) (.slice none 0 0) 0) 37))
            have V6 := Lib.hid ((E6.out).alloc (.cells (resC (fun _ => 0) (.slice none 0 0) (.slice none 0 0) (.slice none 0 0) 0) 37))
            rw [← hzb]
            clear hzb
            refine hK.out _ _ (fun _ => (by rw [HSD.out]; exact ⟨fun i => V4.out.cell i, fun i => V5.out.cell i, fun i => V6.out.cell i⟩)) (fun hH4 => ?_)
            clear hK K
            replace hH4 := hH4 (by decide)
            refine Held.one (i := 5) (o := { dst := _, op := _, type := _, pos := _, after := _, guard := _ }) (by kernel_rfl) rfl (fun K hK => ?_)
            go_simp
            refine (run_evB (w3.alloc (.cells (resC (fun _ => 0) (.slice none 0 0) (.slice none 0 0) (.slice none 0 0) 0) 37)) nA' kA' nC' kC' R z hz HZR.out (HN3.out.allocS _) (HA.out.below HBV.out) (HC3.out.below ((Below.refl _ _).alloc (Nat.le_refl _) _)) hcl).mono ?_
            rintro e w4 ⟨rfl, hb4⟩
            have HB4 := Lib.hid (HBV.out.trans (hb4.mono HBV.out.size))
            have F4 := Lib.hid ((V4.out).below hb4)
            have F5 := Lib.hid ((V5.out).below hb4)
            have F6 := Lib.hid ((V6.out).below hb4)
            have HZ4 := Lib.hid (HZ.out.below hb4)
            clear hb4
            unfold resC
            refine hK.out _ _ (fun _ => (by rw [HSD.out]; exact ⟨fun i => F4.out.cell i, fun i => F5.out.cell i, fun i => F6.out.cell i⟩)) (fun hH3 => ?_)
            clear hK K
            replace hH3 := hH3 (by decide)
            refine Held.take (i := 6) (oi := { dst := _, op := _, type := _, pos := _, after := _, guard := _ }) (v := ?v6q34) rfl (by kernel_rfl) (by kernel_rfl) (by kernel_rfl) (by kernel_rfl) (fun _ _ _ h => h) (Or.inl ⟨by rfl, ?hy6q34⟩) (by assumption) ?rest6q34
            case hy6q34 => (intro w hSw; rw [HSD.out] at hSw; (try dsimp only at hSw); obtain ⟨hs1, hs2, hs3⟩ := hSw; go_simp; (try with_reducible rfl))
            try simp only [Act.put, List.setIfInBounds_toArray, List.set_cons_zero, List.set_cons_succ]
            refine Held.take (i := 7) (oi := { dst := _, op := _, type := _, pos := _, after := _, guard := _ }) (v := ?v7q35) rfl (by kernel_rfl) (by kernel_rfl) (by kernel_rfl) (by kernel_rfl) (fun _ _ _ h => h) (Or.inl ⟨by rfl, ?hy7q35⟩) (by assumption) ?rest7q35
            case hy7q35 => (intro w hSw; rw [HSD.out] at hSw; (try dsimp only at hSw); obtain ⟨hs1, hs2, hs3⟩ := hSw; go_simp; (try with_reducible rfl))
            try simp only [Act.put, List.setIfInBounds_toArray, List.set_cons_zero, List.set_cons_succ]
            refine Held.take (i := 8) (oi := { dst := _, op := _, type := _, pos := _, after := _, guard := _ }) (v := ?v8q36) rfl (by kernel_rfl) (by kernel_rfl) (by kernel_rfl) (by kernel_rfl) (fun _ _ _ h => h) (Or.inl ⟨by rfl, ?hy8q36⟩) (by assumption) ?rest8q36
            case hy8q36 => (intro w hSw; rw [HSD.out] at hSw; (try dsimp only at hSw); obtain ⟨hs1, hs2, hs3⟩ := hSw; go_simp; (try with_reducible rfl))
            try simp only [Act.put, List.setIfInBounds_toArray, List.set_cons_zero, List.set_cons_succ]
            have zc : ∀ i, w4.cell? ⟨zb, i, none⟩ = _ := fun i => HZ4.out.cell i
            have zf : ∀ i, w4.frozen? ⟨zb, i, none⟩ = false := fun i => HZ4.out.free i
            unfold resC at zc
            refine Held.one (i := 10) (o := { dst := _, op := _, type := _, pos := _, after := _, guard := _ }) (by kernel_rfl) rfl (fun K hK => ?_)
            (try unfold resC)
            go_simp
            refine hK.out _ _ (fun _ => (by rw [HSD.out]; exact ⟨fun i => (blk12 F4.out HZ4.out (by decide) _ _ _ _ _ _ _ _ _ _ _ _).cell i, fun i => (blk12 F5.out HZ4.out (by decide) _ _ _ _ _ _ _ _ _ _ _ _).cell i, fun i => (blk12 F6.out HZ4.out (by decide) _ _ _ _ _ _ _ _ _ _ _ _).cell i⟩)) (fun hH7 => ?_)
            clear hK K
            replace hH7 := hH7 (by decide)
            refine Held.one (i := 11) (o := { dst := _, op := _, type := _, pos := _, after := _, guard := _ }) (by kernel_rfl) rfl (fun K hK => ?_)
            go_simp
            refine hK.out _ _ (fun h => absurd rfl h) (fun _ => ?_)
            clear hK K
            refine Held.done (by kernel_rfl) ?_ _
            refine NoPanic.normal ?_
            go_wp2
            go_meet
            exact ⟨_, rfl, rfl, HZ4.out.twelve rfl _ _ _ _ _ _ _ _ _ _ _ _, below12 HB4.out lz _ _ _ _ _ _ _ _ _ _ _ _⟩
        · go_simp
          have HBV := Lib.hid (HB2.out.alloc HB2.out.size (.cells (resC (fun _ => 0) (.slice none 0 0) (.slice none 0 0) (.slice none 0 0) 0) 37)).drew
          have HZ := Lib.hid (show Blk ((w2.alloc (.cells (resC (fun _ => 0) (.slice none 0 0) (.slice none 0 0) (.slice none 0 0) 0) 37)).drew) w2.heap.size (resC (fun _ => 0) (.slice none 0 0) (.slice none 0 0) (.slice none 0 0) 0) 37 from (Blk.new w2 _ _).drew)
          obtain ⟨zb, hzb⟩ : ∃ b, b = w2.heap.size := ⟨_, rfl⟩
          have lz : w.heap.size ≤ zb := hzb ▸ HB2.out.size
          rw [← hzb] at HZ
          have V4 := Lib.hid (H4.out.alloc (.cells (resC (fun _ => 0) (.slice none 0 0) (.slice none 0 0) (.slice none 0 0) 0) 37)).drew
          have V5 := Lib.hid (H5.out.alloc (.cells (resC (fun _ => 0) (.slice none 0 0) (.slice none 0 0) (.slice none 0 0) 0) 37)).drew
          have V6 := Lib.hid (H6.out.alloc (.cells (resC (fun _ => 0) (.slice none 0 0) (.slice none 0 0) (.slice none 0 0) 0) 37)).drew
          rw [← hzb]
          clear hzb
          refine hK.out _ _ (fun _ => (by rw [HSD.out]; exact ⟨fun i => V4.out.cell i, fun i => V5.out.cell i, fun i => V6.out.cell i⟩)) (fun hH4 => ?_)
          clear hK K
          replace hH4 := hH4 (by decide)
          refine Held.one (i := 1) (o := { dst := _, op := _, type := _, pos := _, after := _, guard := _ }) (by kernel_rfl) rfl (fun K hK => ?_)
          go_simp
          refine (theirs_any nA kA nC kC NL CL ((w2.alloc (.cells (resC (fun _ => 0) (.slice none 0 0) (.slice none 0 0) (.slice none 0 0) 0) 37)).drew) (HN.out.below HBV.out) (HC.out.below HBV.out) hcl hnl).mono ?_
          rintro e w3 ⟨hb3, nA', nC', kA', kC', rfl, hN3, hC3⟩
          have HB3 := Lib.hid (HBV.out.trans (hb3.mono HBV.out.size))
          have E4 := Lib.hid ((V4.out).below hb3)
          have E5 := Lib.hid ((V5.out).below hb3)
          have E6 := Lib.hid ((V6.out).below hb3)
          have HN3 := Lib.hid hN3
          have HC3 := Lib.hid hC3
          have HZ3 := Lib.hid (HZ.out.below hb3)
          clear hb3 hN3 hC3
          refine hK.out _ _ (fun _ => (by rw [HSD.out]; exact ⟨fun i => E4.out.cell i, fun i => E5.out.cell i, fun i => E6.out.cell i⟩)) (fun hH2 => ?_)
          clear hK K
          replace hH2 := hH2 (by decide)
          refine Held.one (i := 5) (o := { dst := _, op := _, type := _, pos := _, after := _, guard := _ }) (by kernel_rfl) rfl (fun K hK => ?_)
          go_simp
          refine (run_evB w3 nA' kA' nC' kC' R z hz HZR.out HN3.out (HA.out.below HB3.out) HC3.out hcl).mono ?_
          rintro e w4 ⟨rfl, hb4⟩
          have HB4 := Lib.hid (HB3.out.trans (hb4.mono HB3.out.size))
          have F4 := Lib.hid ((E4.out).below hb4)
          have F5 := Lib.hid ((E5.out).below hb4)
          have F6 := Lib.hid ((E6.out).below hb4)
          have HZ4 := Lib.hid (HZ3.out.below hb4)
          clear hb4
          unfold resC
          refine hK.out _ _ (fun _ => (by rw [HSD.out]; exact ⟨fun i => F4.out.cell i, fun i => F5.out.cell i, fun i => F6.out.cell i⟩)) (fun hH3 => ?_)
          clear hK K
          replace hH3 := hH3 (by decide)
          refine Held.take (i := 6) (oi := { dst := _, op := _, type := _, pos := _, after := _, guard := _ }) (v := ?v6q37) rfl (by kernel_rfl) (by kernel_rfl) (by kernel_rfl) (by kernel_rfl) (fun _ _ _ h => h) (Or.inl ⟨by rfl, ?hy6q37⟩) (by assumption) ?rest6q37
          case hy6q37 => (intro w hSw; rw [HSD.out] at hSw; (try dsimp only at hSw); obtain ⟨hs1, hs2, hs3⟩ := hSw; go_simp; (try with_reducible rfl))
          try simp only [Act.put, List.setIfInBounds_toArray, List.set_cons_zero, List.set_cons_succ]
          refine Held.take (i := 7) (oi := { dst := _, op := _, type := _, pos := _, after := _, guard := _ }) (v := ?v7q38) rfl (by kernel_rfl) (by kernel_rfl) (by kernel_rfl) (by kernel_rfl) (fun _ _ _ h => h) (Or.inl ⟨by rfl, ?hy7q38⟩) (by assumption) ?rest7q38
          case hy7q38 => (intro w hSw; rw [HSD.out] at hSw; (try dsimp only at hSw); obtain ⟨hs1, hs2, hs3⟩ := hSw; go_simp; (try with_reducible rfl))
          try simp only [Act.put, List.setIfInBounds_toArray, List.set_cons_zero, List.set_cons_succ]
          refine Held.take (i := 8) (oi := { dst := _, op := _, type := _, pos := _, after := _, guard := _ }) (v := ?v8q39) rfl (by kernel_rfl) (by kernel_rfl) (by kernel_rfl) (by kernel_rfl) (fun _ _ _ h => h) (Or.inl ⟨by rfl, ?hy8q39⟩) (by assumption) ?rest8q39
          case hy8q39 => (intro w hSw; rw [HSD.out] at hSw; (try dsimp only at hSw); obtain ⟨hs1, hs2, hs3⟩ := hSw; go_simp; (try with_reducible rfl))
          try simp only [Act.put, List.setIfInBounds_toArray, List.set_cons_zero, List.set_cons_succ]
          have zc : ∀ i, w4.cell? ⟨zb, i, none⟩ = _ := fun i => HZ4.out.cell i
          have zf : ∀ i, w4.frozen? ⟨zb, i, none⟩ = false := fun i => HZ4.out.free i
          unfold resC at zc
          refine Held.one (i := 10) (o := { dst := _, op := _, type := _, pos := _, after := _, guard := _ }) (by kernel_rfl) rfl (fun K hK => ?_)
          (try unfold resC)
          go_simp
          refine hK.out _ _ (fun _ => (by rw [HSD.out]; exact ⟨fun i => (blk12 F4.out HZ4.out (by decide) _ _ _ _ _ _ _ _ _ _ _ _).cell i, fun i => (blk12 F5.out HZ4.out (by decide) _ _ _ _ _ _ _ _ _ _ _ _).cell i, fun i => (blk12 F6.out HZ4.out (by decide) _ _ _ _ _ _ _ _ _ _ _ _).cell i⟩)) (fun hH7 => ?_)
          clear hK K
          replace hH7 := hH7 (by decide)
          refine Held.one (i := 11) (o := { dst := _, op := _, type := _, pos := _, after := _, guard := _ }) (by kernel_rfl) rfl (fun K hK => ?_)
          go_simp
          refine hK.out _ _ (fun h => absurd rfl h) (fun _ => ?_)
          clear hK K
          refine Held.done (by kernel_rfl) ?_ _
          refine NoPanic.normal ?_
          go_wp2
          go_meet
          exact ⟨_, rfl, rfl, HZ4.out.twelve rfl _ _ _ _ _ _ _ _ _ _ _ _, below12 HB4.out lz _ _ _ _ _ _ _ _ _ _ _ _⟩
      obtain ⟨rb, rfl, rfl, hrb, hbx⟩ := hcut
      have HB7 := Lib.hid hbx
      have v : ∀ i, wc.cell? ⟨rb, i, none⟩ = _ := fun i => hrb.cell i
      unfold resC at v
      obtain ⟨_, ⟨hs0, hs5⟩, h11⟩ := HEV.out
      have H11 := Lib.hid h11
      have s0 : decide (R.steps < 0) = false := decide_eq_false (by omega)
      have s1 : decide ((500 : Int) < R.steps) = false := decide_eq_false (by omega)
      have z0 : (z != 0) = true := by simpa using hz
      have hq : ∀ w : World, (Op.equalIn 10000 26 (.agg #[.int .i64 0, .int .i64 0, .int .i64 0, .int .i64 0, .int .i64 0, .int .i64 0, .int .i64 0, .int .i64 0]) (.agg #[.int .i64 0, .int .i64 0, .int .i64 0, .int .i64 0, .int .i64 0, .int .i64 0, .int .i64 0, .int .i64 0])).run Try.prog w = .ok true w := fun w => eq26 (fun _ => 0) w
      clear hbx hrb h11 HSD q4 q5 q6
      by_cases hz11 : z = 11
      · have h500 : R.steps = 500 := H11.out hz11
        subst hz11
        rw [h500] at v
        go_wp2
        go_ret
        exact ⟨rfl, HB7.out⟩
      · have z11 : (z != 11) = true := by simpa using hz11
        cases g5 : (R.steps == 500)
        all_goals
          go_wp2
          go_ret
          exact ⟨rfl, HB7.out⟩
end Go.Proofs.Ytmmbigfeojfedaa

/- TakeS -/
import Derived.Test.YtlcdjgpblpodaaaGreatDoorMBP
namespace Go.Proofs.YtlcdjgpblpodaaaGreatDoor
open Go.RowKit Go.Maps Go.Proofs.YtlcdjgpblpodaaaGreatDoorW.PrintWords

/-- A run that tells one event and sends one letter. -/
def RunSent (ev : Int) (tk : ByteArray) (kd x st : Int) (W : World) (e : Ending) (w' : World) : Prop := Below W.heap.size W w' ∧ ∃ (EA : Option Addr) (ec : Nat) (SA : Option Addr) (sc : Nat) (TA : Option Addr) (tc : Nat), (∃ x0 x1 x2 x3 x4 x5 x6 x7 : Int, e = .returned (.tuple #[.agg #[.int .i64 x0, .int .i64 x1, .int .i64 x2, .int .i64 x3, .int .i64 x4, .int .i64 x5, .int .i64 x6, .int .i64 x7, .slice EA 1 ec, .slice SA 1 sc, .slice TA 0 tc, .int .i64 st], .int .i64 0])) ∧
  w'.ownsRow W.heap.size 146 2 (.slice EA 1 ec) 1 [.int .i64 0, .int .i64 ev] ∧ w'.ownsRow W.heap.size 244 3 (.slice SA 1 sc) 1 [.string tk, .int .i64 kd, .int .i64 x]
theorem own12 {w : World} {base n size e b t : Nat} {v : Value} {xs : List Value} {C : Array Value} (h : w.ownsRow base e size v n xs) (hb : Blk w b C t) (hne : e ≠ t) (v0 v1 v2 v3 v4 v5 v6 v7 v8 v9 v10 v11 : Value) :
    World.ownsRow ((((((((((((w.setCell ⟨b, 0, none⟩ v0).setCell ⟨b, 1, none⟩ v1).setCell ⟨b, 2, none⟩ v2).setCell ⟨b, 3, none⟩ v3).setCell ⟨b, 4, none⟩ v4).setCell ⟨b, 5, none⟩ v5).setCell ⟨b, 6, none⟩ v6).setCell ⟨b, 7, none⟩ v7).setCell ⟨b, 8, none⟩ v8).setCell ⟨b, 9, none⟩ v9).setCell ⟨b, 10, none⟩ v10).setCell ⟨b, 11, none⟩ v11) base e size v n xs := by
  have hc : Chg (fun j => j = b) w ((((((((((((w.setCell ⟨b, 0, none⟩ v0).setCell ⟨b, 1, none⟩ v1).setCell ⟨b, 2, none⟩ v2).setCell ⟨b, 3, none⟩ v3).setCell ⟨b, 4, none⟩ v4).setCell ⟨b, 5, none⟩ v5).setCell ⟨b, 6, none⟩ v6).setCell ⟨b, 7, none⟩ v7).setCell ⟨b, 8, none⟩ v8).setCell ⟨b, 9, none⟩ v9).setCell ⟨b, 10, none⟩ v10).setCell ⟨b, 11, none⟩ v11) :=
    ((((((((((((Chg.refl (fun j => j = b) w).put b 0 (.inl rfl) _).put b 1 (.inl rfl) _).put b 2 (.inl rfl) _).put b 3 (.inl rfl) _).put b 4 (.inl rfl) _).put b 5 (.inl rfl) _).put b 6 (.inl rfl) _).put b 7 (.inl rfl) _).put b 8 (.inl rfl) _).put b 9 (.inl rfl) _).put b 10 (.inl rfl) _).put b 11 (.inl rfl) _
  exact hc.owns h (fun k hk e' => own_block_ne h hb hne (e' ▸ hk))
set_option maxRecDepth 100000 in
set_option maxHeartbeats 2000000 in
theorem take_sent (NA KA : Option Addr) (nC kC : Nat) (NL : List ByteArray) (CL : List (Int × Int)) (X : Nat → Prop) (p : Nat) (a : Actr) (k : ByteArray) (l : Let) (r : List Let) (v x kd st : Int) (tk : ByteArray) (ss : List (ByteArray × Nat)) (s0 : Nat) (hss : (ss = [] ∧ s0 = 0) ∨ ss = [(tk, s0)]) (hkk : KeyOk k) (htk : KeyOk tk) (hs64 : U64 (s0 + 1)) (hout : a.outb = ⟨k, ss, []⟩) (hver : U64 (a.jour.version + 1)) (w : World) (h : ActAt true w X p a) (ha : ActOk k a) (hin : a.inbox = l :: r)
    (hN : ReadsOf Value.string (⟨#[]⟩ : ByteArray) w NA NL.length NL) (hC : Ip.IsCode w KA CL) (hcl : CL.length ≤ 1000) (hF : Ip.formedB NL CL = true)
    (hrun : ∀ (W : World) (A : Option Addr) (c : Nat), Below w.heap.size w W → ReadsOf (Value.int .i64) (0 : Int) W A l.args.length l.args → Calls Tryz.prog 108 #[.agg #[.slice NA NL.length nC, .slice KA CL.length kC], .agg (arrC (stateOf a.jour)), .agg #[.string l.frm, .int .u64 l.serial, .int .i64 l.kind, .slice A l.args.length c], .int .i64 0] W (RunSent v tk kd x st W)) :
    Calls Tryz.prog 48 #[.agg #[.slice NA NL.length nC, .slice KA CL.length kC], .pointer (some ⟨p, 0, none⟩), .int .i64 0] w fun e w' => ∃ (TA : Option Addr) (tc : Nat), e = .returned (.tuple #[.agg #[.bool true, .bool false, .int .i64 0, .int .i64 st, .slice TA 0 tc], .int .i64 0]) ∧ ActAt false w' (fun j => X j ∨ w.heap.size ≤ j) p { a with inbox := r, tries := 0, jour := addJ [(0, v)] a.jour, outb := ⟨k, [(tk, s0 + 1)], [(tk, ⟨k, s0 + 1, kd, [x]⟩)]⟩ } ∧ Chg X w w' := by
  obtain ⟨jb, ib, ob, PA, pc, XJ, XI, XO, XP, hP⟩ := h
  replace hP := hP.lt
  obtain ⟨pb, hpb⟩ : ∃ b, b = w.heap.size := ⟨_, rfl⟩
  obtain ⟨qb, hqb⟩ : ∃ b, b = w.heap.size + 1 := ⟨_, rfl⟩
  obtain ⟨W1, hW1⟩ : ∃ W, W = (w.alloc (.cells #[.slice NA NL.length nC, .slice KA CL.length kC] 54)).alloc (.cells #[.bool false, .bool false, .int .i64 0, .int .i64 0, .slice none 0 0] 35) := ⟨_, rfl⟩
  have hb1 : Below w.heap.size w W1 := hW1 ▸ ((Below.refl _ _).alloc (Nat.le_refl _) _).alloc (by simp) _
  have hp1 : Blk W1 pb #[.slice NA NL.length nC, .slice KA CL.length kC] 54 := hW1 ▸ (Blk.newAt hpb).alloc _
  have hq1 : Blk W1 qb #[.bool false, .bool false, .int .i64 0, .int .i64 0, .slice none 0 0] 35 := hW1 ▸ Blk.newAt (by rw [hqb]; simp)
  have HP1 := Lib.hid hp1
  have HQ1 := Lib.hid hq1
  have HB1 := Lib.hid hb1
  have HP := Lib.hid hP
  have HA := Lib.hid ha
  have HIN := Lib.hid hin
  have HN := Lib.hid hN
  have HC := Lib.hid hC
  have HF := Lib.hid hF
  have HRUN := Lib.hid hrun
  have HSS := Lib.hid hss
  have HKK := Lib.hid hkk
  have HTK := Lib.hid htk
  have HOUT := Lib.hid hout
  have HVER := Lib.hid hver
  have HW1 := Lib.hid hW1
  have HPB := Lib.hid hpb
  have HQB := Lib.hid hqb
  have hla := (ha.1.inbox l (by rw [hin]; simp)).args
  have HENC := Lib.hid (actenc _ p a ha.1 ha.2.1 W1 ⟨_, _, _, _, _, _, _, _, _, hP.below hb1⟩)
  clear hP ha hin hN hC hF hrun hss hkk htk hout hver hW1 hb1 hp1 hq1 hpb hqb
  go_enter Tryz.func48, Tryz.ntmps48
  go_upto_region 1 with fail
  rw [show w.heap.size + 1 = qb from HQB.out.symm, ← HW1.out, ← HPB.out]
  go_wp2_with fail
  refine HENC.out.mono ?_
  rintro e w2 ⟨V, vc, rfl, -, hb2⟩
  have HB2 := Lib.hid (HB1.out.trans (hb2.mono HB1.out.size))
  have HP2 := Lib.hid (HP1.out.below hb2)
  have HQ2 := Lib.hid (HQ1.out.below hb2)
  have c0 : w2.cell? ⟨pb, 0, none⟩ = some (.slice NA NL.length nC) := HP2.out.cell 0
  have c1 : w2.cell? ⟨pb, 1, none⟩ = some (.slice KA CL.length kC) := HP2.out.cell 1
  have HFM := Lib.hid (Ip.formed_any NA KA nC kC NL CL w2 (HN.out.below HB2.out) (HC.out.below HB2.out) hcl)
  rw [HF.out] at HFM
  clear hb2
  go_wp2_with fail
  refine HFM.out.mono ?_
  rintro e w3 ⟨rfl, hb3⟩
  have HB3 := Lib.hid (HB2.out.trans (hb3.mono HB2.out.size))
  have HP3 := Lib.hid (HP2.out.below hb3)
  have HQ3 := Lib.hid (HQ2.out.below hb3)
  have hA3 := HP.out.below HB3.out
  have d1 : w3.cell? ⟨p, 1, none⟩ = some (.pointer (some ⟨ib, 0, none⟩)) := hA3.blk.cell 1
  have HFI := Lib.hid (first_any XI ib l r hla w3 (HIN.out ▸ hA3.inr))
  have HA3 := Lib.hid hA3
  have hpl := hA3.blk.lt
  clear hb3 hA3 c0 c1
  go_wp2_with fail
  refine HFI.out.mono ?_
  rintro e w4 ⟨A4, c4, rfl, hA4, hb4⟩
  obtain ⟨lb, hlb⟩ : ∃ b, b = w4.heap.size := ⟨_, rfl⟩
  obtain ⟨W5, hW5⟩ : ∃ W, W = w4.alloc (.cells #[.string l.frm, .int .u64 l.serial, .int .i64 l.kind, .slice A4 l.args.length c4] 65) := ⟨_, rfl⟩
  have hb5 : Below w4.heap.size w4 W5 := hW5 ▸ (Below.refl _ _).alloc (Nat.le_refl _) _
  have hl5 : Blk W5 lb #[.string l.frm, .int .u64 l.serial, .int .i64 l.kind, .slice A4 l.args.length c4] 65 := hW5 ▸ Blk.newAt hlb
  have hs3 := HB3.out.size
  have hs4 := hb4.size
  have hb35 : Below w3.heap.size w3 W5.drew := (hb4.trans (hb5.mono hs4)).drew
  have HB5 := Lib.hid (HB3.out.trans (hb35.mono hs3))
  have HP5 := Lib.hid (HP3.out.below hb35)
  have HQ5 := Lib.hid (HQ3.out.below hb35)
  have HA5 := Lib.hid (HA3.out.below hb35)
  have HL5 := Lib.hid (show Blk W5.drew lb #[.string l.frm, .int .u64 l.serial, .int .i64 l.kind, .slice A4 l.args.length c4] 65 from hl5)
  have HR5 := Lib.hid (((hA4.below hb5).below (w' := W5.drew) ((Below.refl W5.heap.size W5).drew)).1)
  have KEY := Lib.hid (show ∀ w', Below W5.drew.heap.size W5.drew w' → w'.cell? ⟨pb, 0, none⟩ = some (.slice NA NL.length nC) ∧ w'.cell? ⟨pb, 1, none⟩ = some (.slice KA CL.length kC) ∧ w'.cell? ⟨p, 0, none⟩ = some (.pointer (some ⟨jb, 0, none⟩)) ∧ w'.cell? ⟨lb, 0, none⟩ = some (.string l.frm) ∧ w'.cell? ⟨lb, 1, none⟩ = some (.int .u64 l.serial) ∧ w'.cell? ⟨lb, 2, none⟩ = some (.int .i64 l.kind) ∧ w'.cell? ⟨lb, 3, none⟩ = some (.slice A4 l.args.length c4) from fun w' hb => ⟨(HP5.out.below hb).cell 0, (HP5.out.below hb).cell 1, (HA5.out.blk.below hb).cell 0, (HL5.out.below hb).cell 0, (HL5.out.below hb).cell 1, (HL5.out.below hb).cell 2, (HL5.out.below hb).cell 3⟩)
  obtain ⟨Z, hZ⟩ : ∃ Z, Z = Obj.cells #[.int .i64 0, .int .i64 0, .int .i64 0, .int .i64 0, .int .i64 0, .int .i64 0, .int .i64 0, .int .i64 0, .slice none 0 0, .slice none 0 0, .slice none 0 0, .int .i64 0] 239 := ⟨_, rfl⟩
  have hba : Below W5.drew.heap.size W5.drew (W5.drew.alloc Z) := (Below.refl _ _).alloc (Nat.le_refl _) _
  have HSTA := Lib.hid (state_any XJ jb a.jour HA.out.1.jour (W5.drew.alloc Z) (HA5.out.below hba).jour)
  have HBA := Lib.hid hba
  have HST := Lib.hid (state_any XJ jb a.jour HA.out.1.jour W5.drew HA5.out.jour)
  have HW5 := Lib.hid hW5
  have HLB := Lib.hid hlb
  have hll := hl5.lt
  clear hA4 hb4 hlb hW5 hb5 hl5 hb35 d1 hpl
  go_upto_region 9 with fail
  rw [← HW5.out, ← HLB.out]
  obtain ⟨Wd, hWd⟩ : ∃ V, V = W5.drew := ⟨_, rfl⟩
  rw [← hWd] at HB5 HP5 HQ5 HA5 HL5 HR5 KEY HBA HSTA
  go_cut [12, 13] from 52 to 62 (fun v12 v13 wx => Hid (∃ rb : Nat, ∃ x0 x1 x2 x3 x4 x5 x6 x7 : Int, ∃ (EA SA TA : Option Addr) (ec sc tc : Nat), v12 = .pointer (some ⟨rb, 0, none⟩) ∧ v13 = .int .i64 0 ∧ Blk wx rb #[.int .i64 x0, .int .i64 x1, .int .i64 x2, .int .i64 x3, .int .i64 x4, .int .i64 x5, .int .i64 x6, .int .i64 x7, .slice EA 1 ec, .slice SA 1 sc, .slice TA 0 tc, .int .i64 st] 239 ∧ Below Wd.heap.size Wd wx ∧ Wd.heap.size ≤ rb ∧ wx.ownsRow Wd.heap.size 146 2 (.slice EA 1 ec) 1 [.int .i64 0, .int .i64 v] ∧ wx.ownsRow Wd.heap.size 244 3 (.slice SA 1 sc) 1 [.string tk, .int .i64 kd, .int .i64 x]))
  case first =>
    have HB0 := Lib.hid (Below.refl Wd.heap.size Wd)
    obtain ⟨S, hSD⟩ : ∃ S : World → Prop, S = fun w' => w'.cell? ⟨pb, 0, none⟩ = some (.slice NA NL.length nC) ∧ w'.cell? ⟨pb, 1, none⟩ = some (.slice KA CL.length kC) ∧ w'.cell? ⟨p, 0, none⟩ = some (.pointer (some ⟨jb, 0, none⟩)) ∧ w'.cell? ⟨lb, 0, none⟩ = some (.string l.frm) ∧ w'.cell? ⟨lb, 1, none⟩ = some (.int .u64 l.serial) ∧ w'.cell? ⟨lb, 2, none⟩ = some (.int .i64 l.kind) ∧ w'.cell? ⟨lb, 3, none⟩ = some (.slice A4 l.args.length c4) := ⟨_, rfl⟩
    have HSD := Lib.hid hSD
    clear hSD
    refine Held.region S 14 (by kernel_rfl) (by rw [HSD.out, ← hWd]; exact KEY.out _ (Below.refl _ _)) (fun hHeld => ?_)
    rw [← hWd] at hHeld ⊢
    clear hWd
    have HZE := Lib.hid hZ
    clear hZ
    refine Held.take (i := 0) (oi := { dst := _, op := _, type := _, pos := _, after := _, guard := _ }) (v := ?v0) rfl (by kernel_rfl) (by kernel_rfl) (by kernel_rfl) (by kernel_rfl) (fun _ _ _ h => h) (Or.inl ⟨by rfl, ?hy0⟩) (by assumption) ?rest0
    case hy0 => (intro w hSw; rw [HSD.out] at hSw; (try dsimp only at hSw); go_simp; (try with_reducible rfl))
    try simp only [Act.put, List.setIfInBounds_toArray, List.set_cons_zero, List.set_cons_succ]
    refine Held.take (i := 1) (oi := { dst := _, op := _, type := _, pos := _, after := _, guard := _ }) (v := ?v1) rfl (by kernel_rfl) (by kernel_rfl) (by kernel_rfl) (by kernel_rfl) (fun _ _ _ h => h) (Or.inl ⟨by rfl, ?hy1⟩) (by assumption) ?rest1
    case hy1 => (intro w hSw; rw [HSD.out] at hSw; (try dsimp only at hSw); go_simp; (try with_reducible rfl))
    try simp only [Act.put, List.setIfInBounds_toArray, List.set_cons_zero, List.set_cons_succ]
    refine Held.take (i := 2) (oi := { dst := _, op := _, type := _, pos := _, after := _, guard := _ }) (v := ?v2) rfl (by kernel_rfl) (by kernel_rfl) (by kernel_rfl) (by kernel_rfl) (fun _ _ _ h => h) (Or.inl ⟨by rfl, ?hy2⟩) (by assumption) ?rest2
    case hy2 => (intro w hSw; rw [HSD.out] at hSw; (try dsimp only at hSw); go_simp; (try with_reducible rfl))
    try simp only [Act.put, List.setIfInBounds_toArray, List.set_cons_zero, List.set_cons_succ]
    refine Held.take (i := 3) (oi := { dst := _, op := _, type := _, pos := _, after := _, guard := _ }) (v := ?v3) rfl (by kernel_rfl) (by kernel_rfl) (by kernel_rfl) (by kernel_rfl) (fun _ _ _ h => h) (Or.inl ⟨by rfl, ?hy3⟩) (by assumption) ?rest3
    case hy3 => (intro w hSw; rw [HSD.out] at hSw; (try dsimp only at hSw); go_simp; (try with_reducible rfl))
    try simp only [Act.put, List.setIfInBounds_toArray, List.set_cons_zero, List.set_cons_succ]
    refine Held.take (i := 4) (oi := { dst := _, op := _, type := _, pos := _, after := _, guard := _ }) (v := ?v4) rfl (by kernel_rfl) (by kernel_rfl) (by kernel_rfl) (by kernel_rfl) (fun _ _ _ h => h) (Or.inl ⟨by rfl, ?hy4⟩) (by assumption) ?rest4
    case hy4 => (intro w hSw; rw [HSD.out] at hSw; (try dsimp only at hSw); go_simp; (try with_reducible rfl))
    try simp only [Act.put, List.setIfInBounds_toArray, List.set_cons_zero, List.set_cons_succ]
    refine Held.take (i := 6) (oi := { dst := _, op := _, type := _, pos := _, after := _, guard := _ }) (v := ?v6) rfl (by kernel_rfl) (by kernel_rfl) (by kernel_rfl) (by kernel_rfl) (fun _ _ _ h => h) (Or.inl ⟨by rfl, ?hy6⟩) (by assumption) ?rest6
    case hy6 => (intro w hSw; rw [HSD.out] at hSw; (try dsimp only at hSw); go_simp; (try with_reducible rfl))
    try simp only [Act.put, List.setIfInBounds_toArray, List.set_cons_zero, List.set_cons_succ]
    refine Held.take (i := 7) (oi := { dst := _, op := _, type := _, pos := _, after := _, guard := _ }) (v := ?v7) rfl (by kernel_rfl) (by kernel_rfl) (by kernel_rfl) (by kernel_rfl) (fun _ _ _ h => h) (Or.inl ⟨by rfl, ?hy7⟩) (by assumption) ?rest7
    case hy7 => (intro w hSw; rw [HSD.out] at hSw; (try dsimp only at hSw); go_simp; (try with_reducible rfl))
    try simp only [Act.put, List.setIfInBounds_toArray, List.set_cons_zero, List.set_cons_succ]
    refine Held.two (i := 5) (j := 12) (o := { dst := _, op := _, type := _, pos := _, after := _, guard := _ }) (o2 := { dst := _, op := _, type := _, pos := _, after := _, guard := _ }) (by kernel_rfl) rfl rfl (fun K hK => ?one) (fun K hK => ?two)
    case one =>
      go_simp
      refine (state_any XJ jb a.jour HA.out.1.jour (Wd) (HA5.out.below HB0.out).jour).mono ?_
      rintro e w6 ⟨rfl, hb6⟩
      have HB6 := Lib.hid (HB0.out.trans (hb6.mono HB0.out.size))
      clear hb6
      refine hK.out _ _ (fun _ => ?hS15) (fun hHeld1 => ?_)
      case hS15 => (rw [HSD.out]; exact KEY.out _ HB6.out)
      clear hK K
      replace hHeld1 := hHeld1 (by decide)
      try simp only [Act.put, List.setIfInBounds_toArray, List.set_cons_zero, List.set_cons_succ]
      refine Held.two (i := 8) (j := 12) (o := { dst := _, op := _, type := _, pos := _, after := _, guard := _ }) (o2 := { dst := _, op := _, type := _, pos := _, after := _, guard := _ }) (by kernel_rfl) rfl rfl (fun K hK => ?onea) (fun K hK => ?twoa)
      case onea =>
        go_simp
        refine (HRUN.out (w6) A4 c4 (HB5.out.trans (HB6.out.mono HB5.out.size)) (HR5.out.below HB6.out)).mono ?_
        rintro e w7 ⟨hb7, EA, ec, SA, sc, TA, tc, ⟨x0, x1, x2, x3, x4, x5, x6, x7, rfl⟩, hoE, hoS⟩
        have HB7 := Lib.hid (HB6.out.trans (hb7.mono HB6.out.size))
        have HRE := Lib.hid (own_weaken hoE HB6.out.size)
        have HRS := Lib.hid (own_weaken hoS HB6.out.size)
        clear hoE hoS
        clear hb7
        refine hK.out _ _ (fun _ => ?hS28) (fun hHeld2 => ?_)
        case hS28 => (rw [HSD.out]; exact KEY.out _ HB7.out)
        clear hK K
        replace hHeld2 := hHeld2 (by decide)
        try simp only [Act.put, List.setIfInBounds_toArray, List.set_cons_zero, List.set_cons_succ]
        refine Held.take (i := 9) (oi := { dst := _, op := _, type := _, pos := _, after := _, guard := _ }) (v := ?vp9) rfl (by kernel_rfl) (by kernel_rfl) (by kernel_rfl) (by kernel_rfl) (fun _ _ _ h => h) (Or.inl ⟨by rfl, ?hyp9⟩) (by assumption) ?restp9
        case hyp9 => (intro w hSw; rw [HSD.out] at hSw; (try dsimp only at hSw); go_simp; (try with_reducible rfl))
        try simp only [Act.put, List.setIfInBounds_toArray, List.set_cons_zero, List.set_cons_succ]
        refine Held.take (i := 10) (oi := { dst := _, op := _, type := _, pos := _, after := _, guard := _ }) (v := ?vp10) rfl (by kernel_rfl) (by kernel_rfl) (by kernel_rfl) (by kernel_rfl) (fun _ _ _ h => h) (Or.inl ⟨by rfl, ?hyp10⟩) (by assumption) ?restp10
        case hyp10 => (intro w hSw; rw [HSD.out] at hSw; (try dsimp only at hSw); go_simp; (try with_reducible rfl))
        try simp only [Act.put, List.setIfInBounds_toArray, List.set_cons_zero, List.set_cons_succ]
        refine Held.take (i := 11) (oi := { dst := _, op := _, type := _, pos := _, after := _, guard := _ }) (v := ?vp11) rfl (by kernel_rfl) (by kernel_rfl) (by kernel_rfl) (by kernel_rfl) (fun _ _ _ h => h) (Or.inl ⟨by rfl, ?hyp11⟩) (by assumption) ?restp11
        case hyp11 => (intro w hSw; rw [HSD.out] at hSw; (try dsimp only at hSw); go_simp; (try with_reducible rfl))
        try simp only [Act.put, List.setIfInBounds_toArray, List.set_cons_zero, List.set_cons_succ]
        refine Held.one (i := 12) (o := { dst := _, op := _, type := _, pos := _, after := _, guard := _ }) (by kernel_rfl) rfl (fun K hK => ?_)
        go_simp
        rw [← HZE.out]
        obtain ⟨w8, hw8⟩ : ∃ V, V = w7.alloc Z := ⟨_, rfl⟩
        rw [← hw8]
        have HB8 := Lib.hid (show Below Wd.heap.size Wd w8 from hw8 ▸ HB7.out.alloc HB7.out.size _)
        have HZ8 := Lib.hid (show Blk w8 w7.heap.size #[.int .i64 0, .int .i64 0, .int .i64 0, .int .i64 0, .int .i64 0, .int .i64 0, .int .i64 0, .int .i64 0, .slice none 0 0, .slice none 0 0, .slice none 0 0, .int .i64 0] 239 from by rw [hw8, HZE.out]; exact Blk.new _ _ _)
        have HRE8 := Lib.hid (own_below HRE.out (show Below w7.heap.size w7 w8 from hw8 ▸ (Below.refl _ _).alloc (Nat.le_refl _) _))
        have HRS8 := Lib.hid (own_below HRS.out (show Below w7.heap.size w7 w8 from hw8 ▸ (Below.refl _ _).alloc (Nat.le_refl _) _))
        clear hw8
        refine hK.out _ _ (fun _ => ?hSp12) (fun hHeldp3 => ?_)
        case hSp12 => (rw [HSD.out]; exact KEY.out _ HB8.out)
        clear hK K
        replace hHeldp3 := hHeldp3 (by decide)
        try simp only [Act.put, List.setIfInBounds_toArray, List.set_cons_zero, List.set_cons_succ]
        have uz : ∀ i, World.cell? (w8) ⟨w7.heap.size, i, none⟩ = _ := fun i => HZ8.out.cell i
        have fz : ∀ i, World.frozen? (w8) ⟨w7.heap.size, i, none⟩ = false := fun i => HZ8.out.free i
        have lz := HZ8.out.lt
        refine Held.one (i := 13) (o := { dst := _, op := _, type := _, pos := _, after := _, guard := _ }) (by kernel_rfl) rfl (fun K hK => ?_)
        go_simp
        refine hK.out _ _ (fun _ => ?hSp13) (fun hHeldp4 => ?_)
        case hSp13 => (rw [HSD.out]; exact KEY.out _ (Ip.below12 HB8.out HB7.out.size _ _ _ _ _ _ _ _ _ _ _ _))
        clear hK K
        replace hHeldp4 := hHeldp4 (by decide)
        try simp only [Act.put, List.setIfInBounds_toArray, List.set_cons_zero, List.set_cons_succ]
        refine Held.one (i := 14) (o := { dst := _, op := _, type := _, pos := _, after := _, guard := _ }) (by kernel_rfl) rfl (fun K hK => ?_)
        go_simp
        refine hK.out _ _ (fun h => absurd rfl h) (fun _ => ?_)
        clear hK K
        refine Held.done (by kernel_rfl) ?_ _
        refine NoPanic.normal ?_
        go_wp2_with fail
        go_meet
        exact Lib.hid ⟨w7.heap.size, x0, x1, x2, x3, x4, x5, x6, x7, EA, SA, TA, ec, sc, tc, rfl, rfl, (HZ8.out).twelve rfl _ _ _ _ _ _ _ _ _ _ _ _, Ip.below12 HB8.out HB7.out.size _ _ _ _ _ _ _ _ _ _ _ _, HB7.out.size, own12 HRE8.out HZ8.out (by decide) _ _ _ _ _ _ _ _ _ _ _ _, own12 HRS8.out HZ8.out (by decide) _ _ _ _ _ _ _ _ _ _ _ _⟩
      case twoa =>
        go_simp
        rw [← HZE.out]
        have hbz : Below w6.heap.size w6 (w6.alloc Z) := (Below.refl _ _).alloc (Nat.le_refl _) _
        have HBZ := Lib.hid (HB6.out.trans (hbz.mono HB6.out.size))
        clear hbz
        refine hK.out _ _ (fun _ => ?hSq512) (fun hHeldq5 => ?_)
        case hSq512 => (rw [HSD.out]; exact KEY.out _ HBZ.out)
        clear hK K
        replace hHeldq5 := hHeldq5 (by decide)
        try simp only [Act.put, List.setIfInBounds_toArray, List.set_cons_zero, List.set_cons_succ]
        refine Held.one (i := 8) (o := { dst := _, op := _, type := _, pos := _, after := _, guard := _ }) (by kernel_rfl) rfl (fun K hK => ?_)
        go_simp
        refine (HRUN.out (w6.alloc Z) A4 c4 (HB5.out.trans (HBZ.out.mono HB5.out.size)) (HR5.out.below HBZ.out)).mono ?_
        rintro e w7 ⟨hb7, EA, ec, SA, sc, TA, tc, ⟨x0, x1, x2, x3, x4, x5, x6, x7, rfl⟩, hoE, hoS⟩
        have HB7 := Lib.hid (HBZ.out.trans (hb7.mono HBZ.out.size))
        have HRE := Lib.hid (own_weaken hoE HBZ.out.size)
        have HRS := Lib.hid (own_weaken hoS HBZ.out.size)
        clear hoE hoS
        have HZ7 := Lib.hid ((show Blk (w6.alloc Z) w6.heap.size #[.int .i64 0, .int .i64 0, .int .i64 0, .int .i64 0, .int .i64 0, .int .i64 0, .int .i64 0, .int .i64 0, .slice none 0 0, .slice none 0 0, .slice none 0 0, .int .i64 0] 239 from HZE.out ▸ Blk.new _ _ _).below hb7)
        clear hb7
        refine hK.out _ _ (fun _ => ?hSq8) (fun hHeldq6 => ?_)
        case hSq8 => (rw [HSD.out]; exact KEY.out _ HB7.out)
        clear hK K
        replace hHeldq6 := hHeldq6 (by decide)
        try simp only [Act.put, List.setIfInBounds_toArray, List.set_cons_zero, List.set_cons_succ]
        refine Held.take (i := 9) (oi := { dst := _, op := _, type := _, pos := _, after := _, guard := _ }) (v := ?vq9) rfl (by kernel_rfl) (by kernel_rfl) (by kernel_rfl) (by kernel_rfl) (fun _ _ _ h => h) (Or.inl ⟨by rfl, ?hyq9⟩) (by assumption) ?restq9
        case hyq9 => (intro w hSw; rw [HSD.out] at hSw; (try dsimp only at hSw); go_simp; (try with_reducible rfl))
        try simp only [Act.put, List.setIfInBounds_toArray, List.set_cons_zero, List.set_cons_succ]
        refine Held.take (i := 10) (oi := { dst := _, op := _, type := _, pos := _, after := _, guard := _ }) (v := ?vq10) rfl (by kernel_rfl) (by kernel_rfl) (by kernel_rfl) (by kernel_rfl) (fun _ _ _ h => h) (Or.inl ⟨by rfl, ?hyq10⟩) (by assumption) ?restq10
        case hyq10 => (intro w hSw; rw [HSD.out] at hSw; (try dsimp only at hSw); go_simp; (try with_reducible rfl))
        try simp only [Act.put, List.setIfInBounds_toArray, List.set_cons_zero, List.set_cons_succ]
        refine Held.take (i := 11) (oi := { dst := _, op := _, type := _, pos := _, after := _, guard := _ }) (v := ?vq11) rfl (by kernel_rfl) (by kernel_rfl) (by kernel_rfl) (by kernel_rfl) (fun _ _ _ h => h) (Or.inl ⟨by rfl, ?hyq11⟩) (by assumption) ?restq11
        case hyq11 => (intro w hSw; rw [HSD.out] at hSw; (try dsimp only at hSw); go_simp; (try with_reducible rfl))
        try simp only [Act.put, List.setIfInBounds_toArray, List.set_cons_zero, List.set_cons_succ]
        have uz : ∀ i, World.cell? (w7) ⟨w6.heap.size, i, none⟩ = _ := fun i => HZ7.out.cell i
        have fz : ∀ i, World.frozen? (w7) ⟨w6.heap.size, i, none⟩ = false := fun i => HZ7.out.free i
        have lz := HZ7.out.lt
        refine Held.one (i := 13) (o := { dst := _, op := _, type := _, pos := _, after := _, guard := _ }) (by kernel_rfl) rfl (fun K hK => ?_)
        go_simp
        refine hK.out _ _ (fun _ => ?hSq13) (fun hHeldq7 => ?_)
        case hSq13 => (rw [HSD.out]; exact KEY.out _ (Ip.below12 HB7.out HB6.out.size _ _ _ _ _ _ _ _ _ _ _ _))
        clear hK K
        replace hHeldq7 := hHeldq7 (by decide)
        try simp only [Act.put, List.setIfInBounds_toArray, List.set_cons_zero, List.set_cons_succ]
        refine Held.one (i := 14) (o := { dst := _, op := _, type := _, pos := _, after := _, guard := _ }) (by kernel_rfl) rfl (fun K hK => ?_)
        go_simp
        refine hK.out _ _ (fun h => absurd rfl h) (fun _ => ?_)
        clear hK K
        refine Held.done (by kernel_rfl) ?_ _
        refine NoPanic.normal ?_
        go_wp2_with fail
        go_meet
        exact Lib.hid ⟨w6.heap.size, x0, x1, x2, x3, x4, x5, x6, x7, EA, SA, TA, ec, sc, tc, rfl, rfl, (HZ7.out).twelve rfl _ _ _ _ _ _ _ _ _ _ _ _, Ip.below12 HB7.out HB6.out.size _ _ _ _ _ _ _ _ _ _ _ _, HB6.out.size, own12 HRE.out HZ7.out (by decide) _ _ _ _ _ _ _ _ _ _ _ _, own12 HRS.out HZ7.out (by decide) _ _ _ _ _ _ _ _ _ _ _ _⟩
    case two =>
      go_simp
      rw [← HZE.out]
      refine hK.out _ _ (fun _ => ?hSr812) (fun hHeldr8 => ?_)
      case hSr812 => (rw [HSD.out]; exact KEY.out _ HBA.out)
      clear hK K
      replace hHeldr8 := hHeldr8 (by decide)
      try simp only [Act.put, List.setIfInBounds_toArray, List.set_cons_zero, List.set_cons_succ]
      refine Held.one (i := 5) (o := { dst := _, op := _, type := _, pos := _, after := _, guard := _ }) (by kernel_rfl) rfl (fun K hK => ?_)
      go_simp
      refine (state_any XJ jb a.jour HA.out.1.jour (Wd.alloc Z) (HA5.out.below HBA.out).jour).mono ?_
      rintro e w6 ⟨rfl, hb6⟩
      have HB6 := Lib.hid (HBA.out.trans (hb6.mono HBA.out.size))
      have HZ6 := Lib.hid ((show Blk (Wd.alloc Z) Wd.heap.size #[.int .i64 0, .int .i64 0, .int .i64 0, .int .i64 0, .int .i64 0, .int .i64 0, .int .i64 0, .int .i64 0, .slice none 0 0, .slice none 0 0, .slice none 0 0, .int .i64 0] 239 from HZE.out ▸ Blk.new _ _ _).below hb6)
      clear hb6
      refine hK.out _ _ (fun _ => ?hSr5) (fun hHeldr9 => ?_)
      case hSr5 => (rw [HSD.out]; exact KEY.out _ HB6.out)
      clear hK K
      replace hHeldr9 := hHeldr9 (by decide)
      try simp only [Act.put, List.setIfInBounds_toArray, List.set_cons_zero, List.set_cons_succ]
      refine Held.one (i := 8) (o := { dst := _, op := _, type := _, pos := _, after := _, guard := _ }) (by kernel_rfl) rfl (fun K hK => ?_)
      go_simp
      refine (HRUN.out (w6) A4 c4 (HB5.out.trans (HB6.out.mono HB5.out.size)) (HR5.out.below HB6.out)).mono ?_
      rintro e w7 ⟨hb7, EA, ec, SA, sc, TA, tc, ⟨x0, x1, x2, x3, x4, x5, x6, x7, rfl⟩, hoE, hoS⟩
      have HB7 := Lib.hid (HB6.out.trans (hb7.mono HB6.out.size))
      have HRE := Lib.hid (own_weaken hoE HB6.out.size)
      have HRS := Lib.hid (own_weaken hoS HB6.out.size)
      clear hoE hoS
      have HZ7 := Lib.hid (HZ6.out.below hb7)
      clear hb7
      refine hK.out _ _ (fun _ => ?hSr8) (fun hHeldr10 => ?_)
      case hSr8 => (rw [HSD.out]; exact KEY.out _ HB7.out)
      clear hK K
      replace hHeldr10 := hHeldr10 (by decide)
      try simp only [Act.put, List.setIfInBounds_toArray, List.set_cons_zero, List.set_cons_succ]
      refine Held.take (i := 9) (oi := { dst := _, op := _, type := _, pos := _, after := _, guard := _ }) (v := ?vr9) rfl (by kernel_rfl) (by kernel_rfl) (by kernel_rfl) (by kernel_rfl) (fun _ _ _ h => h) (Or.inl ⟨by rfl, ?hyr9⟩) (by assumption) ?restr9
      case hyr9 => (intro w hSw; rw [HSD.out] at hSw; (try dsimp only at hSw); go_simp; (try with_reducible rfl))
      try simp only [Act.put, List.setIfInBounds_toArray, List.set_cons_zero, List.set_cons_succ]
      refine Held.take (i := 10) (oi := { dst := _, op := _, type := _, pos := _, after := _, guard := _ }) (v := ?vr10) rfl (by kernel_rfl) (by kernel_rfl) (by kernel_rfl) (by kernel_rfl) (fun _ _ _ h => h) (Or.inl ⟨by rfl, ?hyr10⟩) (by assumption) ?restr10
      case hyr10 => (intro w hSw; rw [HSD.out] at hSw; (try dsimp only at hSw); go_simp; (try with_reducible rfl))
      try simp only [Act.put, List.setIfInBounds_toArray, List.set_cons_zero, List.set_cons_succ]
      refine Held.take (i := 11) (oi := { dst := _, op := _, type := _, pos := _, after := _, guard := _ }) (v := ?vr11) rfl (by kernel_rfl) (by kernel_rfl) (by kernel_rfl) (by kernel_rfl) (fun _ _ _ h => h) (Or.inl ⟨by rfl, ?hyr11⟩) (by assumption) ?restr11
      case hyr11 => (intro w hSw; rw [HSD.out] at hSw; (try dsimp only at hSw); go_simp; (try with_reducible rfl))
      try simp only [Act.put, List.setIfInBounds_toArray, List.set_cons_zero, List.set_cons_succ]
      have uz : ∀ i, World.cell? (w7) ⟨Wd.heap.size, i, none⟩ = _ := fun i => HZ7.out.cell i
      have fz : ∀ i, World.frozen? (w7) ⟨Wd.heap.size, i, none⟩ = false := fun i => HZ7.out.free i
      have lz := HZ7.out.lt
      refine Held.one (i := 13) (o := { dst := _, op := _, type := _, pos := _, after := _, guard := _ }) (by kernel_rfl) rfl (fun K hK => ?_)
      go_simp
      refine hK.out _ _ (fun _ => ?hSr13) (fun hHeldr11 => ?_)
      case hSr13 => (rw [HSD.out]; exact KEY.out _ (Ip.below12 HB7.out (Nat.le_refl _) _ _ _ _ _ _ _ _ _ _ _ _))
      clear hK K
      replace hHeldr11 := hHeldr11 (by decide)
      try simp only [Act.put, List.setIfInBounds_toArray, List.set_cons_zero, List.set_cons_succ]
      refine Held.one (i := 14) (o := { dst := _, op := _, type := _, pos := _, after := _, guard := _ }) (by kernel_rfl) rfl (fun K hK => ?_)
      go_simp
      refine hK.out _ _ (fun h => absurd rfl h) (fun _ => ?_)
      clear hK K
      refine Held.done (by kernel_rfl) ?_ _
      refine NoPanic.normal ?_
      go_wp2_with fail
      go_meet
      exact Lib.hid ⟨Wd.heap.size, x0, x1, x2, x3, x4, x5, x6, x7, EA, SA, TA, ec, sc, tc, rfl, rfl, (HZ7.out).twelve rfl _ _ _ _ _ _ _ _ _ _ _ _, Ip.below12 HB7.out (Nat.le_refl _) _ _ _ _ _ _ _ _ _ _ _ _, (Nat.le_refl _), own12 HRE.out HZ7.out (by decide) _ _ _ _ _ _ _ _ _ _ _ _, own12 HRS.out HZ7.out (by decide) _ _ _ _ _ _ _ _ _ _ _ _⟩
  case rest =>
    obtain ⟨rb, x0, x1, x2, x3, x4, x5, x6, x7, EA, SA, TA, ec, sc, tc, rfl, rfl, hrb, hbc, hrl, hoE, hoS⟩ := hcut
    have hrw : w.heap.size ≤ rb := by have := HB5.out.size; omega
    have hAc := HA5.out.below hbc
    have e2 : wc.cell? ⟨p, 2, none⟩ = some (.pointer (some ⟨ob, 0, none⟩)) := hAc.blk.cell 2
    have HOE := Lib.hid (HA.out.2.1 XO ob wc hAc.outb.rd)
    have HBC := Lib.hid (HB5.out.trans (hbc.mono HB5.out.size))
    have HAC := Lib.hid hAc
    have HRB := Lib.hid hrb
    have HQC := Lib.hid (HQ5.out.below hbc)
    have HRE := Lib.hid hoE
    have HRS := Lib.hid hoS
    clear hrb hbc hAc hZ hWd hoE hoS
    go_wp2_with fail
    refine HOE.out.mono ?_
    rintro e w7 ⟨V7, c7, rfl, hov, hb7⟩
    have hrv : ReadsOf (Value.int .u8) (0 : Int) w7 V7 (encOutb a.outb).length (encOutb a.outb) := by
      obtain ⟨A', c', he, hle, hr⟩ := own_reads_of_le (d := (0 : Int)) hov
      injection he with he1 he2 he3
      subst he1 he3
      exact hr
    have HOD := Lib.hid (HA.out.2.2.1 V7 c7 w7 hrv)
    have HB7 := Lib.hid hb7
    clear e2 hov hrv hb7
    go_wp2_with fail
    refine HOD.out.mono ?_
    rintro e w8 ⟨ob', rfl, hob, hb8⟩
    have hs7 := HB7.out.size
    have hbc8 := HB7.out.trans (hb8.mono hs7)
    have hA8 := HAC.out.below hbc8
    have hr8 := HRB.out.below hbc8
    have r9 : w8.cell? ⟨rb, 9, none⟩ = some (.slice SA 1 sc) := hr8.cell 9
    have hoS8 := own_below HRS.out hbc8
    obtain ⟨gs, rfl, hg1, hg2, hgc⟩ := own_cell hoS8 (by omega)
    have y0 : w8.cell? ⟨gs, 0, none⟩ = some (.string tk) := hgc 0 _ rfl
    have y1 : w8.cell? ⟨gs, 1, none⟩ = some (.int .i64 kd) := hgc 1 _ rfl
    have y2 : w8.cell? ⟨gs, 2, none⟩ = some (.int .i64 x) := hgc 2 _ rfl
    obtain ⟨sb, hsb⟩ : ∃ b, b = w8.heap.size := ⟨_, rfl⟩
    obtain ⟨ab, hab⟩ : ∃ b, b = w8.heap.size + 1 := ⟨_, rfl⟩
    obtain ⟨W9, hW9⟩ : ∃ W, W = w8.alloc (.cells #[.string tk, .int .i64 kd, .int .i64 x] 244) := ⟨_, rfl⟩
    obtain ⟨Ws, hWs⟩ : ∃ W, W = W9.alloc (.cells #[.int .i64 x] 2) := ⟨_, rfl⟩
    have hb9 : Below w8.heap.size w8 W9 := hW9 ▸ (Below.refl _ _).alloc (Nat.le_refl _) _
    have hs9 : W9.heap.size = w8.heap.size + 1 := by rw [hW9]; simp
    have hbs0 : Below W9.heap.size W9 Ws := hWs ▸ (Below.refl _ _).alloc (Nat.le_refl _) _
    have hbs : Below w8.heap.size w8 Ws := hb9.trans (hbs0.mono (by omega))
    have hss : Ws.heap.size = w8.heap.size + 2 := by rw [hWs]; simp [hs9]
    have hk9 : Blk W9 sb #[.string tk, .int .i64 kd, .int .i64 x] 244 := hW9 ▸ Blk.newAt hsb
    have hks : Blk Ws ab #[.int .i64 x] 2 := hWs ▸ Blk.newAt (by omega)
    have k0 : W9.cell? ⟨sb, 0, none⟩ = some (.string tk) := hk9.cell 0
    have k1 : W9.cell? ⟨sb, 1, none⟩ = some (.int .i64 kd) := hk9.cell 1
    have k2 : W9.cell? ⟨sb, 2, none⟩ = some (.int .i64 x) := hk9.cell 2
    have kl := hk9.lt
    have hsc := HBC.out.size
    have hs8 := hb8.size
    have hrd : ReadsOf (Value.int .i64) (0 : Int) Ws (some ⟨ab, 0, none⟩) ([x] : List Int).length [x] := ⟨rfl, by simp, fun _ => ⟨_, rfl, fun j hj => by
      have hj0 : j = 0 := by simpa using hj
      subst hj0
      exact hks.cell 0⟩⟩
    have hobs : OutbAt true Ws (fun j => w7.heap.size ≤ j ∧ j < w8.heap.size) ob' ⟨k, ss, []⟩ := (show OutbAt true w8 (fun j => w7.heap.size ≤ j ∧ j < w8.heap.size) ob' ⟨k, ss, []⟩ from HOUT.out ▸ outb_lt hob).chg (Chg.of_below hbs (fun _ => False)) (fun _ _ h => h)
    have HSEND := Lib.hid (show Calls Tryz.prog 111 #[.pointer (some ⟨ob', 0, none⟩), .string tk, .int .i64 kd, .slice (some ⟨ab, 0, none⟩) 1 1] Ws fun e w' => e = .returned (.tuple #[.int .u64 ((s0 + 1 : Nat) : Int), .int .i64 0]) ∧ OutbAt false w' (fun j => (w7.heap.size ≤ j ∧ j < w8.heap.size) ∨ Ws.heap.size ≤ j) ob' ⟨k, [(tk, s0 + 1)], [(tk, ⟨k, s0 + 1, kd, [x]⟩)]⟩ ∧ Chg (fun j => w7.heap.size ≤ j ∧ j < w8.heap.size) Ws w' from
      send_any _ ob' k tk ss s0 HSS.out HKK.out HTK.out hs64 kd [x] (by simp) (some ⟨ab, 0, none⟩) 1 Ws hrd (fun a ha => by injection ha with ha; rw [← ha]) (fun _ a ha e => by injection ha with ha; rw [← ha] at e; have := e.2; simp only at this; omega) hobs (fun j hj => by omega))
    have HA8 := Lib.hid (hA8.below hbs)
    have HR8 := Lib.hid (hr8.below hbs)
    have HQ8 := Lib.hid ((HQC.out.below hbc8).below hbs)
    have HRE8 := Lib.hid (own_below (own_below HRE.out hbc8) hbs)
    have HB8 := Lib.hid ((HBC.out.trans (hbc8.mono HBC.out.size)).trans (hbs.mono (by omega)))
    have HW9 := Lib.hid hW9
    have HWS := Lib.hid hWs
    have HSB := Lib.hid hsb
    have HAB := Lib.hid (show ab = w8.heap.size + 1 from hab)
    have hrbl := HRB.out.lt
    have hqbl := HQC.out.lt
    clear hob hb8 hbc8 hA8 hr8 hoS8 hgc hW9 hWs hb9 hbs0 hbs hk9 hks hrd hobs hsb hab hg1
    go_wp2_with fail
    refine wp_loop_rounds 2 ?_
    rw [rounds_succ]
    go_upto_region 16 with fail
    rw [← HW9.out, ← HSB.out]
    go_wp2_with fail
    rw [← HAB.out, ← HWS.out]
    refine HSEND.out.mono ?_
    rintro e w9 ⟨rfl, hob9, hc9⟩
    have hsw9 := hc9.size
    have hA9 := HA8.out.chg hc9 (fun j hj e => by have h1 := hj.2; have h2 := e.1; omega)
    have hr9 := HR8.out
    have hr9' := hc9.blk HR8.out (fun e => by have := e.1; omega)
    have HR9 := Lib.hid hr9'
    have HQ9 := Lib.hid (hc9.blk HQ8.out (fun e => by have := e.1; omega))
    have HRE9 := Lib.hid (hc9.owns HRE8.out (fun j hj e => by have h1 := own_lt HRE.out j hj; have := e.1; omega))
    have HOB := Lib.hid (outb_lt hob9)
    have HB9 := Lib.hid (show Below w.heap.size w w9 from HB8.out.trans (hc9.below (fun j hj => by have := hj.1; omega) HB8.out.size))
    have e1 : w9.cell? ⟨p, 1, none⟩ = some (.pointer (some ⟨ib, 0, none⟩)) := hA9.blk.cell 1
    have HPOP := Lib.hid (pop_any XI ib l r hla w9 (HIN.out ▸ hA9.inr))
    have HA9 := Lib.hid hA9
    clear hob9 hc9 hA9 hr9 hr9' y0 y1 y2 k0 k1 k2 r9
    go_wp2_with fail
    rw [rounds_succ]
    go_wp2_with fail
    refine HPOP.out.mono ?_
    rintro e w10 ⟨A9, c9, rfl, -, hi10, hc10⟩
    have hpi : p ≠ ib := fun e => by
      obtain ⟨A, c, q1, _⟩ := hi10
      exact (HA9.out.sub ib (.inr (.inl q1))).2.1 e.symm
    have hb10 := hc10.blk HA9.out.blk hpi
    have e2 : w10.cell? ⟨p, 2, none⟩ = some (.pointer (some ⟨ob, 0, none⟩)) := hb10.cell 2
    have e3 : w10.cell? ⟨p, 3, none⟩ = some (.int .i64 a.tries) := hb10.cell 3
    have f2 := hb10.free 2
    have f3 := hb10.free 3
    have l10 := hb10.lt
    obtain ⟨W11, hW11⟩ : ∃ W, W = (w10.setCell ⟨p, 2, none⟩ (.pointer (some ⟨ob', 0, none⟩))).setCell ⟨p, 3, none⟩ (.int .i64 0) := ⟨_, rfl⟩
    have HI10 := Lib.hid hi10
    have HC10 := Lib.hid hc10
    have HW11 := Lib.hid hW11
    clear hi10 hc10 hb10 hW11 hpi e1
    go_upto_region 22 with fail
    rw [← HW11.out]
    have hXw : ∀ j, XJ j ∨ XI j ∨ XO j ∨ XP j → j < w.heap.size := fun j hj => (HP.out.sub j hj).2.2
    have hpw := HP.out.blk.lt
    have hib : XI ib := by
      obtain ⟨A, c, q1, _⟩ := HI10.out
      exact q1
    have hiw := hXw ib (.inr (.inl hib))
    have hsw := HB9.out.size
    have hc11 : Chg (fun j => j = ib ∨ j = p) w9 W11.drew := ((HC10.out.mono (S' := fun j => j = ib ∨ j = p) (fun _ _ e => .inl e)).trans (HW11.out ▸ ((Chg.refl (fun j => j = p) w10).put p 2 (.inl rfl) (.pointer (some ⟨ob', 0, none⟩))).put p 3 (.inl rfl) (.int .i64 0)) (fun _ _ e => .inr e)).drew
    have hJ11 : JourAt W11.drew XJ jb a.jour := HA9.out.jour.chg hc11 (fun j hj e => by
      rcases e with e | e
      · exact HA9.out.dji j hj (e ▸ hib)
      · exact (HA9.out.sub j (.inl hj)).2.1 e)
    have hr11 : Blk W11.drew rb _ 239 := hc11.blk HR9.out (fun e => by omega)
    have hqw : w.heap.size + 1 = qb := HQB.out.symm
    have hq11 : Blk W11.drew qb _ 35 := hc11.blk HQ9.out (fun e => by omega)
    have hE11 := hc11.owns HRE9.out (fun j hj e => by have := own_base HRE.out j hj; have := HB5.out.size; omega)
    have hp11 : W11.drew.cell? ⟨p, 0, none⟩ = some (.pointer (some ⟨jb, 0, none⟩)) := by
      rw [HW11.out]
      have hb9 := HC10.out.blk HA9.out.blk (fun e => by have := (HA9.out.sub ib (.inr (.inl hib))).2.1; exact this e.symm)
      exact ((hb9.set 2 (.pointer (some ⟨ob', 0, none⟩))).set 3 (.int .i64 0)).cell 0
    have r8 : W11.drew.cell? ⟨rb, 8, none⟩ = some (.slice EA 1 ec) := hr11.cell 8
    have hev : EvAt W11.drew EA [(0, v)] := fun _ => by
      obtain ⟨ge, eg, _, _, hgc⟩ := own_cell hE11 (by omega)
      exact ⟨ge, 0, eg, fun j u hu => by rw [Nat.zero_add]; exact hgc j u hu⟩
    have HADD := Lib.hid (show Calls Tryz.prog 113 #[.pointer (some ⟨jb, 0, none⟩), .slice EA 1 ec] W11.drew fun e w' => e = .returned (.int .i64 0) ∧ JourAt w' (fun j => XJ j ∨ W11.drew.heap.size ≤ j) jb (addJ [(0, v)] a.jour) ∧ Chg XJ W11.drew w' from
      add_any XJ jb a.jour HA.out.1.jour EA ec [(0, v)] (fun e he => by rw [List.mem_singleton.1 he]; show 0 < 8; omega) (by simp) HVER.out W11.drew hev (fun h => by cases h) hJ11)
    have HR11 := Lib.hid hr11
    have HQ11 := Lib.hid hq11
    have HXW := Lib.hid hXw
    have HC11 := Lib.hid hc11
    clear hJ11 hr11 hq11 hXw hc11 hib e2 e3 f2 f3 hE11 hev
    go_region_held3 (fun w' => w'.cell? ⟨p, 0, none⟩ = some (.pointer (some ⟨jb, 0, none⟩)) ∧ w'.cell? ⟨rb, 8, none⟩ = some (.slice EA 1 ec)) (first | exact ⟨hp11, r8⟩ | exact ⟨hp12, r8'⟩)
      (first
        | (go_at_call 113
           refine HADD.out.mono ?_
           rintro e w12 ⟨rfl, hj12, hc12⟩
           have hr12 := hc12.blk HR11.out (fun e => by have := HXW.out rb (.inl e); omega)
           have hp12 : w12.cell? ⟨p, 0, none⟩ = some (.pointer (some ⟨jb, 0, none⟩)) := hc12.cell (a := ⟨p, 0, none⟩) (fun e => (HP.out.sub p (.inl e)).2.1 rfl) hp11
           have r8' : w12.cell? ⟨rb, 8, none⟩ = some (.slice EA 1 ec) := hr12.cell 8
           have HJ12 := Lib.hid hj12
           have HC12 := Lib.hid hc12
           have HR12 := Lib.hid hr12
           have HQ12 := Lib.hid (hc12.blk HQ11.out (fun e => by have := HXW.out qb (.inl e); omega))
           clear hj12 hc12 hr12))
    rename_i hHeld
    clear hHeld hp11 r8 hp12 r8'
    have r11 : w12.cell? ⟨rb, 11, none⟩ = some (.int .i64 st) := HR12.out.cell 11
    have r10 : w12.cell? ⟨rb, 10, none⟩ = some (.slice TA 0 tc) := HR12.out.cell 10
    have uq : ∀ i, w12.cell? ⟨qb, i, none⟩ = _ := fun i => HQ12.out.cell i
    have fq : ∀ i, w12.frozen? ⟨qb, i, none⟩ = false := fun i => HQ12.out.free i
    have lq := HQ12.out.lt
    go_wp2_with fail
    refine bodyPost_ret (results_ct rfl _ _ qb 35 _ (0, 0) _ rfl (HQ12.out.five rfl _ _ _ _ _) Tryz.underlying35 rfl (by kernel_rfl)) rfl ?_
    obtain ⟨hfin, hchg⟩ := take_fin HA9.out HOB.out (fun j hj => ⟨fun e => by
      rcases hj.1 with g | g
      · have := e.2; have := g.1; omega
      · have := e.2; omega, hj.2⟩) HI10.out HC10.out HW11.out HJ12.out (((Chg.refl XJ W11).drew).trans HC12.out (fun _ _ e => e))
    have hcq : Chg (fun j => j = qb) w12 (((((w12.setCell ⟨qb, 0, none⟩ (.bool true)).setCell ⟨qb, 1, none⟩ (.bool false)).setCell ⟨qb, 2, none⟩ (.int .i64 0)).setCell ⟨qb, 3, none⟩ (.int .i64 st)).setCell ⟨qb, 4, none⟩ (.slice TA 0 tc)) := (((((Chg.refl (fun j => j = qb) w12).put qb 0 (.inl rfl) _).put qb 1 (.inl rfl) _).put qb 2 (.inl rfl) _).put qb 3 (.inl rfl) _).put qb 4 (.inl rfl) _
    refine ⟨TA, tc, rfl, (hfin.chg hcq (fun j hj e => ?_)).mono (fun j hj => ?_), ((Chg.of_below HB9.out X).trans hchg (fun j _ e => e.1)).trans hcq (fun j hj e => by omega)⟩
    · rcases hj with g | g | g
      · have := g.2; omega
      · rcases g.1 with q | q
        · have := q.1; omega
        · omega
      · omega
    · rcases hj with g | g | g
      · exact .inl g.1
      · rcases g.1 with q | q
        · exact .inr (by have := q.1; omega)
        · exact .inr (by omega)
      · exact .inr (by omega)
end Go.Proofs.YtlcdjgpblpodaaaGreatDoor

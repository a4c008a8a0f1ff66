/- PoiT -/
import Derived.Test.YtlcdjgpblpodaaaGreatDoorMBN
namespace Go.Proofs.YtlcdjgpblpodaaaGreatDoor
open Go.RowKit Go.Maps Go.Proofs.YtlcdjgpblpodaaaGreatDoorW.PrintWords

/-- A run that fails. -/
def RunBad (er st : Int) (W : World) (e : Ending) (w' : World) : Prop := (∃ x0 x1 x2 x3 x4 x5 x6 x7 : Int, e = .returned (.tuple #[.agg #[.int .i64 x0, .int .i64 x1, .int .i64 x2, .int .i64 x3, .int .i64 x4, .int .i64 x5, .int .i64 x6, .int .i64 x7, .slice none 0 0, .slice none 0 0, .slice none 0 0, .int .i64 st], .int .i64 er])) ∧ Below W.heap.size W w'
set_option maxRecDepth 100000 in
set_option maxHeartbeats 2000000 in
theorem take_fail (NA KA : Option Addr) (nC kC : Nat) (NL : List ByteArray) (CL : List (Int × Int)) (X : Nat → Prop) (p jb ib ob pc : Nat) (PA : Option Addr) (XJ XI XO XP : Nat → Prop) (a : Actr) (k : ByteArray) (l : Let) (r : List Let) (er st : Int) (her : er ≠ 0) (w : World) (h : ActP true w X p a jb ib ob PA pc XJ XI XO XP) (ha : ActOk k a) (hin : a.inbox = l :: r)
    (hN : ReadsOf Value.string (⟨#[]⟩ : ByteArray) w NA NL.length NL) (hC : Ip.IsCode w KA CL) (hcl : CL.length ≤ 1000) (hF : Ip.formedB NL CL = true)
    (hrun : ∀ (W : World) (A : Option Addr) (c : Nat), Below w.heap.size w W → ReadsOf (Value.int .i64) (0 : Int) W A l.args.length l.args → Calls Tryz.prog 108 #[.agg #[.slice NA NL.length nC, .slice KA CL.length kC], .agg (arrC (stateOf a.jour)), .agg #[.string l.frm, .int .u64 l.serial, .int .i64 l.kind, .slice A l.args.length c], .int .i64 0] W (RunBad er st W))
    (dn po : Bool) (f2 s2 f : Int) (Q : World → World → Prop) (hfail : ∀ W : World, ActP true W (fun j => X j ∧ j < w.heap.size) p a jb ib ob PA pc XJ XI XO XP → Calls Tryz.prog 109 #[.pointer (some ⟨p, 0, none⟩), .agg #[.bool false, .bool false, .int .i64 er, .int .i64 st, .slice none 0 0]] W fun e w' => e = .returned (.tuple #[.agg #[.bool dn, .bool po, .int .i64 f2, .int .i64 s2, .slice none 0 0], .int .i64 f]) ∧ Q W w' ∧ Chg (fun j => X j ∧ j < w.heap.size) W w') :
    Calls Tryz.prog 48 #[.agg #[.slice NA NL.length nC, .slice KA CL.length kC], .pointer (some ⟨p, 0, none⟩), .int .i64 0] w fun e w' => e = .returned (.tuple #[.agg #[.bool dn, .bool po, .int .i64 f2, .int .i64 s2, .slice none 0 0], .int .i64 f]) ∧ ∃ W V, Below w.heap.size w W ∧ Q W V ∧ Chg (fun j => X j ∧ j < w.heap.size) W V ∧ Chg (fun j => w.heap.size ≤ j ∧ j < W.heap.size) V w' := by
  have hP := h.lt
  have HFAIL := Lib.hid hfail
  have t0 : (er == 0) = false := beq_eq_false_iff_ne.2 her
  clear hfail h
  obtain ⟨pb, hpb⟩ : ∃ b, b = w.heap.size := ⟨_, rfl⟩
  obtain ⟨qb, hqb⟩ : ∃ b, b = w.heap.size + 1 := ⟨_, rfl⟩
  obtain ⟨W1, hW1⟩ : ∃ W, W = (w.alloc (.cells #[.slice NA NL.length nC, .slice KA CL.length kC] 54)).alloc (.cells #[.bool false, .bool false, .int .i64 0, .int .i64 0, .slice none 0 0] 35) := ⟨_, rfl⟩
  have hb1 : Below w.heap.size w W1 := hW1 ▸ ((Below.refl _ _).alloc (Nat.le_refl _) _).alloc (by simp) _
  have hp1 : Blk W1 pb #[.slice NA NL.length nC, .slice KA CL.length kC] 54 := hW1 ▸ (Blk.newAt hpb).alloc _
  have hq1 : Blk W1 qb #[.bool false, .bool false, .int .i64 0, .int .i64 0, .slice none 0 0] 35 := hW1 ▸ Blk.newAt (by rw [hqb]; simp)
  have HP1 := Lib.hid hp1
  have HQ1 := Lib.hid hq1
  have HB1 := Lib.hid hb1
  have HP := Lib.hid hP
  have HA := Lib.hid ha
  have HIN := Lib.hid hin
  have HN := Lib.hid hN
  have HC := Lib.hid hC
  have HF := Lib.hid hF
  have HRUN := Lib.hid hrun
  have HW1 := Lib.hid hW1
  have HPB := Lib.hid hpb
  have HQB := Lib.hid hqb
  have hla := (ha.1.inbox l (by rw [hin]; simp)).args
  have HENC := Lib.hid (actenc _ p a ha.1 ha.2.1 W1 ⟨_, _, _, _, _, _, _, _, _, hP.below hb1⟩)
  clear hP ha hin hN hC hF hrun hW1 hb1 hp1 hq1 hpb hqb
  go_enter Tryz.func48, Tryz.ntmps48
  go_upto_region 1 with fail
  rw [show w.heap.size + 1 = qb from HQB.out.symm, ← HW1.out, ← HPB.out]
  go_wp2_with fail
  refine HENC.out.mono ?_
  rintro e w2 ⟨V, vc, rfl, -, hb2⟩
  have HB2 := Lib.hid (HB1.out.trans (hb2.mono HB1.out.size))
  have HP2 := Lib.hid (HP1.out.below hb2)
  have HQ2 := Lib.hid (HQ1.out.below hb2)
  have c0 : w2.cell? ⟨pb, 0, none⟩ = some (.slice NA NL.length nC) := HP2.out.cell 0
  have c1 : w2.cell? ⟨pb, 1, none⟩ = some (.slice KA CL.length kC) := HP2.out.cell 1
  have HFM := Lib.hid (Ip.formed_any NA KA nC kC NL CL w2 (HN.out.below HB2.out) (HC.out.below HB2.out) hcl)
  rw [HF.out] at HFM
  clear hb2
  go_wp2_with fail
  refine HFM.out.mono ?_
  rintro e w3 ⟨rfl, hb3⟩
  have HB3 := Lib.hid (HB2.out.trans (hb3.mono HB2.out.size))
  have HP3 := Lib.hid (HP2.out.below hb3)
  have HQ3 := Lib.hid (HQ2.out.below hb3)
  have hA3 := HP.out.below HB3.out
  have d1 : w3.cell? ⟨p, 1, none⟩ = some (.pointer (some ⟨ib, 0, none⟩)) := hA3.blk.cell 1
  have HFI := Lib.hid (first_any XI ib l r hla w3 (HIN.out ▸ hA3.inr))
  have HA3 := Lib.hid hA3
  have hpl := hA3.blk.lt
  clear hb3 hA3 c0 c1
  go_wp2_with fail
  refine HFI.out.mono ?_
  rintro e w4 ⟨A4, c4, rfl, hA4, hb4⟩
  obtain ⟨lb, hlb⟩ : ∃ b, b = w4.heap.size := ⟨_, rfl⟩
  obtain ⟨W5, hW5⟩ : ∃ W, W = w4.alloc (.cells #[.string l.frm, .int .u64 l.serial, .int .i64 l.kind, .slice A4 l.args.length c4] 65) := ⟨_, rfl⟩
  have hb5 : Below w4.heap.size w4 W5 := hW5 ▸ (Below.refl _ _).alloc (Nat.le_refl _) _
  have hl5 : Blk W5 lb #[.string l.frm, .int .u64 l.serial, .int .i64 l.kind, .slice A4 l.args.length c4] 65 := hW5 ▸ Blk.newAt hlb
  have hs3 := HB3.out.size
  have hs4 := hb4.size
  have hb35 : Below w3.heap.size w3 W5.drew := (hb4.trans (hb5.mono hs4)).drew
  have HB5 := Lib.hid (HB3.out.trans (hb35.mono hs3))
  have HP5 := Lib.hid (HP3.out.below hb35)
  have HQ5 := Lib.hid (HQ3.out.below hb35)
  have HA5 := Lib.hid (HA3.out.below hb35)
  have HL5 := Lib.hid (show Blk W5.drew lb #[.string l.frm, .int .u64 l.serial, .int .i64 l.kind, .slice A4 l.args.length c4] 65 from hl5)
  have HR5 := Lib.hid (((hA4.below hb5).below (w' := W5.drew) ((Below.refl W5.heap.size W5).drew)).1)
  have KEY := Lib.hid (show ∀ w', Below W5.drew.heap.size W5.drew w' → w'.cell? ⟨pb, 0, none⟩ = some (.slice NA NL.length nC) ∧ w'.cell? ⟨pb, 1, none⟩ = some (.slice KA CL.length kC) ∧ w'.cell? ⟨p, 0, none⟩ = some (.pointer (some ⟨jb, 0, none⟩)) ∧ w'.cell? ⟨lb, 0, none⟩ = some (.string l.frm) ∧ w'.cell? ⟨lb, 1, none⟩ = some (.int .u64 l.serial) ∧ w'.cell? ⟨lb, 2, none⟩ = some (.int .i64 l.kind) ∧ w'.cell? ⟨lb, 3, none⟩ = some (.slice A4 l.args.length c4) from fun w' hb => ⟨(HP5.out.below hb).cell 0, (HP5.out.below hb).cell 1, (HA5.out.blk.below hb).cell 0, (HL5.out.below hb).cell 0, (HL5.out.below hb).cell 1, (HL5.out.below hb).cell 2, (HL5.out.below hb).cell 3⟩)
  obtain ⟨Z, hZ⟩ : ∃ Z, Z = Obj.cells #[.int .i64 0, .int .i64 0, .int .i64 0, .int .i64 0, .int .i64 0, .int .i64 0, .int .i64 0, .int .i64 0, .slice none 0 0, .slice none 0 0, .slice none 0 0, .int .i64 0] 239 := ⟨_, rfl⟩
  have hba : Below W5.drew.heap.size W5.drew (W5.drew.alloc Z) := (Below.refl _ _).alloc (Nat.le_refl _) _
  have HSTA := Lib.hid (state_any XJ jb a.jour HA.out.1.jour (W5.drew.alloc Z) (HA5.out.below hba).jour)
  have HBA := Lib.hid hba
  have HST := Lib.hid (state_any XJ jb a.jour HA.out.1.jour W5.drew HA5.out.jour)
  have HW5 := Lib.hid hW5
  have HLB := Lib.hid hlb
  have hll := hl5.lt
  clear hA4 hb4 hlb hW5 hb5 hl5 hb35 d1 hpl
  go_upto_region 9 with fail
  rw [← HW5.out, ← HLB.out]
  obtain ⟨Wd, hWd⟩ : ∃ V, V = W5.drew := ⟨_, rfl⟩
  rw [← hWd] at HB5 HP5 HQ5 HA5 HL5 HR5 KEY HBA HSTA
  go_cut [12, 13] from 52 to 62 (fun v12 v13 wx => Hid (∃ rb : Nat, ∃ x0 x1 x2 x3 x4 x5 x6 x7 : Int, v12 = .pointer (some ⟨rb, 0, none⟩) ∧ v13 = .int .i64 er ∧ Blk wx rb #[.int .i64 x0, .int .i64 x1, .int .i64 x2, .int .i64 x3, .int .i64 x4, .int .i64 x5, .int .i64 x6, .int .i64 x7, .slice none 0 0, .slice none 0 0, .slice none 0 0, .int .i64 st] 239 ∧ Below Wd.heap.size Wd wx ∧ Wd.heap.size ≤ rb))
  case first =>
    have HB0 := Lib.hid (Below.refl Wd.heap.size Wd)
    obtain ⟨S, hSD⟩ : ∃ S : World → Prop, S = fun w' => w'.cell? ⟨pb, 0, none⟩ = some (.slice NA NL.length nC) ∧ w'.cell? ⟨pb, 1, none⟩ = some (.slice KA CL.length kC) ∧ w'.cell? ⟨p, 0, none⟩ = some (.pointer (some ⟨jb, 0, none⟩)) ∧ w'.cell? ⟨lb, 0, none⟩ = some (.string l.frm) ∧ w'.cell? ⟨lb, 1, none⟩ = some (.int .u64 l.serial) ∧ w'.cell? ⟨lb, 2, none⟩ = some (.int .i64 l.kind) ∧ w'.cell? ⟨lb, 3, none⟩ = some (.slice A4 l.args.length c4) := ⟨_, rfl⟩
    have HSD := Lib.hid hSD
    clear hSD
    refine Held.region S 14 (by kernel_rfl) (by rw [HSD.out, ← hWd]; exact KEY.out _ (Below.refl _ _)) (fun hHeld => ?_)
    rw [← hWd] at hHeld ⊢
    clear hWd
    have HZE := Lib.hid hZ
    clear hZ
    refine Held.take (i := 0) (oi := { dst := _, op := _, type := _, pos := _, after := _, guard := _ }) (v := ?v0) rfl (by kernel_rfl) (by kernel_rfl) (by kernel_rfl) (by kernel_rfl) (fun _ _ _ h => h) (Or.inl ⟨by rfl, ?hy0⟩) (by assumption) ?rest0
    case hy0 => (intro w hSw; rw [HSD.out] at hSw; (try dsimp only at hSw); go_simp; (try with_reducible rfl))
    try simp only [Act.put, List.setIfInBounds_toArray, List.set_cons_zero, List.set_cons_succ]
    refine Held.take (i := 1) (oi := { dst := _, op := _, type := _, pos := _, after := _, guard := _ }) (v := ?v1) rfl (by kernel_rfl) (by kernel_rfl) (by kernel_rfl) (by kernel_rfl) (fun _ _ _ h => h) (Or.inl ⟨by rfl, ?hy1⟩) (by assumption) ?rest1
    case hy1 => (intro w hSw; rw [HSD.out] at hSw; (try dsimp only at hSw); go_simp; (try with_reducible rfl))
    try simp only [Act.put, List.setIfInBounds_toArray, List.set_cons_zero, List.set_cons_succ]
    refine Held.take (i := 2) (oi := { dst := _, op := _, type := _, pos := _, after := _, guard := _ }) (v := ?v2) rfl (by kernel_rfl) (by kernel_rfl) (by kernel_rfl) (by kernel_rfl) (fun _ _ _ h => h) (Or.inl ⟨by rfl, ?hy2⟩) (by assumption) ?rest2
    case hy2 => (intro w hSw; rw [HSD.out] at hSw; (try dsimp only at hSw); go_simp; (try with_reducible rfl))
    try simp only [Act.put, List.setIfInBounds_toArray, List.set_cons_zero, List.set_cons_succ]
    refine Held.take (i := 3) (oi := { dst := _, op := _, type := _, pos := _, after := _, guard := _ }) (v := ?v3) rfl (by kernel_rfl) (by kernel_rfl) (by kernel_rfl) (by kernel_rfl) (fun _ _ _ h => h) (Or.inl ⟨by rfl, ?hy3⟩) (by assumption) ?rest3
    case hy3 => (intro w hSw; rw [HSD.out] at hSw; (try dsimp only at hSw); go_simp; (try with_reducible rfl))
    try simp only [Act.put, List.setIfInBounds_toArray, List.set_cons_zero, List.set_cons_succ]
    refine Held.take (i := 4) (oi := { dst := _, op := _, type := _, pos := _, after := _, guard := _ }) (v := ?v4) rfl (by kernel_rfl) (by kernel_rfl) (by kernel_rfl) (by kernel_rfl) (fun _ _ _ h => h) (Or.inl ⟨by rfl, ?hy4⟩) (by assumption) ?rest4
    case hy4 => (intro w hSw; rw [HSD.out] at hSw; (try dsimp only at hSw); go_simp; (try with_reducible rfl))
    try simp only [Act.put, List.setIfInBounds_toArray, List.set_cons_zero, List.set_cons_succ]
    refine Held.take (i := 6) (oi := { dst := _, op := _, type := _, pos := _, after := _, guard := _ }) (v := ?v6) rfl (by kernel_rfl) (by kernel_rfl) (by kernel_rfl) (by kernel_rfl) (fun _ _ _ h => h) (Or.inl ⟨by rfl, ?hy6⟩) (by assumption) ?rest6
    case hy6 => (intro w hSw; rw [HSD.out] at hSw; (try dsimp only at hSw); go_simp; (try with_reducible rfl))
    try simp only [Act.put, List.setIfInBounds_toArray, List.set_cons_zero, List.set_cons_succ]
    refine Held.take (i := 7) (oi := { dst := _, op := _, type := _, pos := _, after := _, guard := _ }) (v := ?v7) rfl (by kernel_rfl) (by kernel_rfl) (by kernel_rfl) (by kernel_rfl) (fun _ _ _ h => h) (Or.inl ⟨by rfl, ?hy7⟩) (by assumption) ?rest7
    case hy7 => (intro w hSw; rw [HSD.out] at hSw; (try dsimp only at hSw); go_simp; (try with_reducible rfl))
    try simp only [Act.put, List.setIfInBounds_toArray, List.set_cons_zero, List.set_cons_succ]
    refine Held.two (i := 5) (j := 12) (o := { dst := _, op := _, type := _, pos := _, after := _, guard := _ }) (o2 := { dst := _, op := _, type := _, pos := _, after := _, guard := _ }) (by kernel_rfl) rfl rfl (fun K hK => ?one) (fun K hK => ?two)
    case one =>
      go_simp
      refine (state_any XJ jb a.jour HA.out.1.jour (Wd) (HA5.out.below HB0.out).jour).mono ?_
      rintro e w6 ⟨rfl, hb6⟩
      have HB6 := Lib.hid (HB0.out.trans (hb6.mono HB0.out.size))
      clear hb6
      refine hK.out _ _ (fun _ => ?hS15) (fun hHeld1 => ?_)
      case hS15 => (rw [HSD.out]; exact KEY.out _ HB6.out)
      clear hK K
      replace hHeld1 := hHeld1 (by decide)
      try simp only [Act.put, List.setIfInBounds_toArray, List.set_cons_zero, List.set_cons_succ]
      refine Held.two (i := 8) (j := 12) (o := { dst := _, op := _, type := _, pos := _, after := _, guard := _ }) (o2 := { dst := _, op := _, type := _, pos := _, after := _, guard := _ }) (by kernel_rfl) rfl rfl (fun K hK => ?onea) (fun K hK => ?twoa)
      case onea =>
        go_simp
        refine (HRUN.out (w6) A4 c4 (HB5.out.trans (HB6.out.mono HB5.out.size)) (HR5.out.below HB6.out)).mono ?_
        rintro e w7 ⟨⟨x0, x1, x2, x3, x4, x5, x6, x7, rfl⟩, hb7⟩
        have HB7 := Lib.hid (HB6.out.trans (hb7.mono HB6.out.size))
        clear hb7
        refine hK.out _ _ (fun _ => ?hS28) (fun hHeld2 => ?_)
        case hS28 => (rw [HSD.out]; exact KEY.out _ HB7.out)
        clear hK K
        replace hHeld2 := hHeld2 (by decide)
        try simp only [Act.put, List.setIfInBounds_toArray, List.set_cons_zero, List.set_cons_succ]
        refine Held.take (i := 9) (oi := { dst := _, op := _, type := _, pos := _, after := _, guard := _ }) (v := ?vp9) rfl (by kernel_rfl) (by kernel_rfl) (by kernel_rfl) (by kernel_rfl) (fun _ _ _ h => h) (Or.inl ⟨by rfl, ?hyp9⟩) (by assumption) ?restp9
        case hyp9 => (intro w hSw; rw [HSD.out] at hSw; (try dsimp only at hSw); go_simp; (try with_reducible rfl))
        try simp only [Act.put, List.setIfInBounds_toArray, List.set_cons_zero, List.set_cons_succ]
        refine Held.take (i := 10) (oi := { dst := _, op := _, type := _, pos := _, after := _, guard := _ }) (v := ?vp10) rfl (by kernel_rfl) (by kernel_rfl) (by kernel_rfl) (by kernel_rfl) (fun _ _ _ h => h) (Or.inl ⟨by rfl, ?hyp10⟩) (by assumption) ?restp10
        case hyp10 => (intro w hSw; rw [HSD.out] at hSw; (try dsimp only at hSw); go_simp; (try with_reducible rfl))
        try simp only [Act.put, List.setIfInBounds_toArray, List.set_cons_zero, List.set_cons_succ]
        refine Held.take (i := 11) (oi := { dst := _, op := _, type := _, pos := _, after := _, guard := _ }) (v := ?vp11) rfl (by kernel_rfl) (by kernel_rfl) (by kernel_rfl) (by kernel_rfl) (fun _ _ _ h => h) (Or.inl ⟨by rfl, ?hyp11⟩) (by assumption) ?restp11
        case hyp11 => (intro w hSw; rw [HSD.out] at hSw; (try dsimp only at hSw); go_simp; (try with_reducible rfl))
        try simp only [Act.put, List.setIfInBounds_toArray, List.set_cons_zero, List.set_cons_succ]
        refine Held.one (i := 12) (o := { dst := _, op := _, type := _, pos := _, after := _, guard := _ }) (by kernel_rfl) rfl (fun K hK => ?_)
        go_simp
        rw [← HZE.out]
        obtain ⟨w8, hw8⟩ : ∃ V, V = w7.alloc Z := ⟨_, rfl⟩
        rw [← hw8]
        have HB8 := Lib.hid (show Below Wd.heap.size Wd w8 from hw8 ▸ HB7.out.alloc HB7.out.size _)
        have HZ8 := Lib.hid (show Blk w8 w7.heap.size #[.int .i64 0, .int .i64 0, .int .i64 0, .int .i64 0, .int .i64 0, .int .i64 0, .int .i64 0, .int .i64 0, .slice none 0 0, .slice none 0 0, .slice none 0 0, .int .i64 0] 239 from by rw [hw8, HZE.out]; exact Blk.new _ _ _)
        clear hw8
        refine hK.out _ _ (fun _ => ?hSp12) (fun hHeldp3 => ?_)
        case hSp12 => (rw [HSD.out]; exact KEY.out _ HB8.out)
        clear hK K
        replace hHeldp3 := hHeldp3 (by decide)
        try simp only [Act.put, List.setIfInBounds_toArray, List.set_cons_zero, List.set_cons_succ]
        have uz : ∀ i, World.cell? (w8) ⟨w7.heap.size, i, none⟩ = _ := fun i => HZ8.out.cell i
        have fz : ∀ i, World.frozen? (w8) ⟨w7.heap.size, i, none⟩ = false := fun i => HZ8.out.free i
        have lz := HZ8.out.lt
        refine Held.one (i := 13) (o := { dst := _, op := _, type := _, pos := _, after := _, guard := _ }) (by kernel_rfl) rfl (fun K hK => ?_)
        go_simp
        refine hK.out _ _ (fun _ => ?hSp13) (fun hHeldp4 => ?_)
        case hSp13 => (rw [HSD.out]; exact KEY.out _ (Ip.below12 HB8.out HB7.out.size _ _ _ _ _ _ _ _ _ _ _ _))
        clear hK K
        replace hHeldp4 := hHeldp4 (by decide)
        try simp only [Act.put, List.setIfInBounds_toArray, List.set_cons_zero, List.set_cons_succ]
        refine Held.one (i := 14) (o := { dst := _, op := _, type := _, pos := _, after := _, guard := _ }) (by kernel_rfl) rfl (fun K hK => ?_)
        go_simp
        refine hK.out _ _ (fun h => absurd rfl h) (fun _ => ?_)
        clear hK K
        refine Held.done (by kernel_rfl) ?_ _
        refine NoPanic.normal ?_
        go_wp2_with fail
        go_meet
        exact Lib.hid ⟨w7.heap.size, x0, x1, x2, x3, x4, x5, x6, x7, rfl, rfl, (HZ8.out).twelve rfl _ _ _ _ _ _ _ _ _ _ _ _, Ip.below12 HB8.out HB7.out.size _ _ _ _ _ _ _ _ _ _ _ _, HB7.out.size⟩
      case twoa =>
        go_simp
        rw [← HZE.out]
        have hbz : Below w6.heap.size w6 (w6.alloc Z) := (Below.refl _ _).alloc (Nat.le_refl _) _
        have HBZ := Lib.hid (HB6.out.trans (hbz.mono HB6.out.size))
        clear hbz
        refine hK.out _ _ (fun _ => ?hSq512) (fun hHeldq5 => ?_)
        case hSq512 => (rw [HSD.out]; exact KEY.out _ HBZ.out)
        clear hK K
        replace hHeldq5 := hHeldq5 (by decide)
        try simp only [Act.put, List.setIfInBounds_toArray, List.set_cons_zero, List.set_cons_succ]
        refine Held.one (i := 8) (o := { dst := _, op := _, type := _, pos := _, after := _, guard := _ }) (by kernel_rfl) rfl (fun K hK => ?_)
        go_simp
        refine (HRUN.out (w6.alloc Z) A4 c4 (HB5.out.trans (HBZ.out.mono HB5.out.size)) (HR5.out.below HBZ.out)).mono ?_
        rintro e w7 ⟨⟨x0, x1, x2, x3, x4, x5, x6, x7, rfl⟩, hb7⟩
        have HB7 := Lib.hid (HBZ.out.trans (hb7.mono HBZ.out.size))
        have HZ7 := Lib.hid ((show Blk (w6.alloc Z) w6.heap.size #[.int .i64 0, .int .i64 0, .int .i64 0, .int .i64 0, .int .i64 0, .int .i64 0, .int .i64 0, .int .i64 0, .slice none 0 0, .slice none 0 0, .slice none 0 0, .int .i64 0] 239 from HZE.out ▸ Blk.new _ _ _).below hb7)
        clear hb7
        refine hK.out _ _ (fun _ => ?hSq8) (fun hHeldq6 => ?_)
        case hSq8 => (rw [HSD.out]; exact KEY.out _ HB7.out)
        clear hK K
        replace hHeldq6 := hHeldq6 (by decide)
        try simp only [Act.put, List.setIfInBounds_toArray, List.set_cons_zero, List.set_cons_succ]
        refine Held.take (i := 9) (oi := { dst := _, op := _, type := _, pos := _, after := _, guard := _ }) (v := ?vq9) rfl (by kernel_rfl) (by kernel_rfl) (by kernel_rfl) (by kernel_rfl) (fun _ _ _ h => h) (Or.inl ⟨by rfl, ?hyq9⟩) (by assumption) ?restq9
        case hyq9 => (intro w hSw; rw [HSD.out] at hSw; (try dsimp only at hSw); go_simp; (try with_reducible rfl))
        try simp only [Act.put, List.setIfInBounds_toArray, List.set_cons_zero, List.set_cons_succ]
        refine Held.take (i := 10) (oi := { dst := _, op := _, type := _, pos := _, after := _, guard := _ }) (v := ?vq10) rfl (by kernel_rfl) (by kernel_rfl) (by kernel_rfl) (by kernel_rfl) (fun _ _ _ h => h) (Or.inl ⟨by rfl, ?hyq10⟩) (by assumption) ?restq10
        case hyq10 => (intro w hSw; rw [HSD.out] at hSw; (try dsimp only at hSw); go_simp; (try with_reducible rfl))
        try simp only [Act.put, List.setIfInBounds_toArray, List.set_cons_zero, List.set_cons_succ]
        refine Held.take (i := 11) (oi := { dst := _, op := _, type := _, pos := _, after := _, guard := _ }) (v := ?vq11) rfl (by kernel_rfl) (by kernel_rfl) (by kernel_rfl) (by kernel_rfl) (fun _ _ _ h => h) (Or.inl ⟨by rfl, ?hyq11⟩) (by assumption) ?restq11
        case hyq11 => (intro w hSw; rw [HSD.out] at hSw; (try dsimp only at hSw); go_simp; (try with_reducible rfl))
        try simp only [Act.put, List.setIfInBounds_toArray, List.set_cons_zero, List.set_cons_succ]
        have uz : ∀ i, World.cell? (w7) ⟨w6.heap.size, i, none⟩ = _ := fun i => HZ7.out.cell i
        have fz : ∀ i, World.frozen? (w7) ⟨w6.heap.size, i, none⟩ = false := fun i => HZ7.out.free i
        have lz := HZ7.out.lt
        refine Held.one (i := 13) (o := { dst := _, op := _, type := _, pos := _, after := _, guard := _ }) (by kernel_rfl) rfl (fun K hK => ?_)
        go_simp
        refine hK.out _ _ (fun _ => ?hSq13) (fun hHeldq7 => ?_)
        case hSq13 => (rw [HSD.out]; exact KEY.out _ (Ip.below12 HB7.out HB6.out.size _ _ _ _ _ _ _ _ _ _ _ _))
        clear hK K
        replace hHeldq7 := hHeldq7 (by decide)
        try simp only [Act.put, List.setIfInBounds_toArray, List.set_cons_zero, List.set_cons_succ]
        refine Held.one (i := 14) (o := { dst := _, op := _, type := _, pos := _, after := _, guard := _ }) (by kernel_rfl) rfl (fun K hK => ?_)
        go_simp
        refine hK.out _ _ (fun h => absurd rfl h) (fun _ => ?_)
        clear hK K
        refine Held.done (by kernel_rfl) ?_ _
        refine NoPanic.normal ?_
        go_wp2_with fail
        go_meet
        exact Lib.hid ⟨w6.heap.size, x0, x1, x2, x3, x4, x5, x6, x7, rfl, rfl, (HZ7.out).twelve rfl _ _ _ _ _ _ _ _ _ _ _ _, Ip.below12 HB7.out HB6.out.size _ _ _ _ _ _ _ _ _ _ _ _, HB6.out.size⟩
    case two =>
      go_simp
      rw [← HZE.out]
      refine hK.out _ _ (fun _ => ?hSr812) (fun hHeldr8 => ?_)
      case hSr812 => (rw [HSD.out]; exact KEY.out _ HBA.out)
      clear hK K
      replace hHeldr8 := hHeldr8 (by decide)
      try simp only [Act.put, List.setIfInBounds_toArray, List.set_cons_zero, List.set_cons_succ]
      refine Held.one (i := 5) (o := { dst := _, op := _, type := _, pos := _, after := _, guard := _ }) (by kernel_rfl) rfl (fun K hK => ?_)
      go_simp
      refine (state_any XJ jb a.jour HA.out.1.jour (Wd.alloc Z) (HA5.out.below HBA.out).jour).mono ?_
      rintro e w6 ⟨rfl, hb6⟩
      have HB6 := Lib.hid (HBA.out.trans (hb6.mono HBA.out.size))
      have HZ6 := Lib.hid ((show Blk (Wd.alloc Z) Wd.heap.size #[.int .i64 0, .int .i64 0, .int .i64 0, .int .i64 0, .int .i64 0, .int .i64 0, .int .i64 0, .int .i64 0, .slice none 0 0, .slice none 0 0, .slice none 0 0, .int .i64 0] 239 from HZE.out ▸ Blk.new _ _ _).below hb6)
      clear hb6
      refine hK.out _ _ (fun _ => ?hSr5) (fun hHeldr9 => ?_)
      case hSr5 => (rw [HSD.out]; exact KEY.out _ HB6.out)
      clear hK K
      replace hHeldr9 := hHeldr9 (by decide)
      try simp only [Act.put, List.setIfInBounds_toArray, List.set_cons_zero, List.set_cons_succ]
      refine Held.one (i := 8) (o := { dst := _, op := _, type := _, pos := _, after := _, guard := _ }) (by kernel_rfl) rfl (fun K hK => ?_)
      go_simp
      refine (HRUN.out (w6) A4 c4 (HB5.out.trans (HB6.out.mono HB5.out.size)) (HR5.out.below HB6.out)).mono ?_
      rintro e w7 ⟨⟨x0, x1, x2, x3, x4, x5, x6, x7, rfl⟩, hb7⟩
      have HB7 := Lib.hid (HB6.out.trans (hb7.mono HB6.out.size))
      have HZ7 := Lib.hid (HZ6.out.below hb7)
      clear hb7
      refine hK.out _ _ (fun _ => ?hSr8) (fun hHeldr10 => ?_)
      case hSr8 => (rw [HSD.out]; exact KEY.out _ HB7.out)
      clear hK K
      replace hHeldr10 := hHeldr10 (by decide)
      try simp only [Act.put, List.setIfInBounds_toArray, List.set_cons_zero, List.set_cons_succ]
      refine Held.take (i := 9) (oi := { dst := _, op := _, type := _, pos := _, after := _, guard := _ }) (v := ?vr9) rfl (by kernel_rfl) (by kernel_rfl) (by kernel_rfl) (by kernel_rfl) (fun _ _ _ h => h) (Or.inl ⟨by rfl, ?hyr9⟩) (by assumption) ?restr9
      case hyr9 => (intro w hSw; rw [HSD.out] at hSw; (try dsimp only at hSw); go_simp; (try with_reducible rfl))
      try simp only [Act.put, List.setIfInBounds_toArray, List.set_cons_zero, List.set_cons_succ]
      refine Held.take (i := 10) (oi := { dst := _, op := _, type := _, pos := _, after := _, guard := _ }) (v := ?vr10) rfl (by kernel_rfl) (by kernel_rfl) (by kernel_rfl) (by kernel_rfl) (fun _ _ _ h => h) (Or.inl ⟨by rfl, ?hyr10⟩) (by assumption) ?restr10
      case hyr10 => (intro w hSw; rw [HSD.out] at hSw; (try dsimp only at hSw); go_simp; (try with_reducible rfl))
      try simp only [Act.put, List.setIfInBounds_toArray, List.set_cons_zero, List.set_cons_succ]
      refine Held.take (i := 11) (oi := { dst := _, op := _, type := _, pos := _, after := _, guard := _ }) (v := ?vr11) rfl (by kernel_rfl) (by kernel_rfl) (by kernel_rfl) (by kernel_rfl) (fun _ _ _ h => h) (Or.inl ⟨by rfl, ?hyr11⟩) (by assumption) ?restr11
      case hyr11 => (intro w hSw; rw [HSD.out] at hSw; (try dsimp only at hSw); go_simp; (try with_reducible rfl))
      try simp only [Act.put, List.setIfInBounds_toArray, List.set_cons_zero, List.set_cons_succ]
      have uz : ∀ i, World.cell? (w7) ⟨Wd.heap.size, i, none⟩ = _ := fun i => HZ7.out.cell i
      have fz : ∀ i, World.frozen? (w7) ⟨Wd.heap.size, i, none⟩ = false := fun i => HZ7.out.free i
      have lz := HZ7.out.lt
      refine Held.one (i := 13) (o := { dst := _, op := _, type := _, pos := _, after := _, guard := _ }) (by kernel_rfl) rfl (fun K hK => ?_)
      go_simp
      refine hK.out _ _ (fun _ => ?hSr13) (fun hHeldr11 => ?_)
      case hSr13 => (rw [HSD.out]; exact KEY.out _ (Ip.below12 HB7.out (Nat.le_refl _) _ _ _ _ _ _ _ _ _ _ _ _))
      clear hK K
      replace hHeldr11 := hHeldr11 (by decide)
      try simp only [Act.put, List.setIfInBounds_toArray, List.set_cons_zero, List.set_cons_succ]
      refine Held.one (i := 14) (o := { dst := _, op := _, type := _, pos := _, after := _, guard := _ }) (by kernel_rfl) rfl (fun K hK => ?_)
      go_simp
      refine hK.out _ _ (fun h => absurd rfl h) (fun _ => ?_)
      clear hK K
      refine Held.done (by kernel_rfl) ?_ _
      refine NoPanic.normal ?_
      go_wp2_with fail
      go_meet
      exact Lib.hid ⟨Wd.heap.size, x0, x1, x2, x3, x4, x5, x6, x7, rfl, rfl, (HZ7.out).twelve rfl _ _ _ _ _ _ _ _ _ _ _ _, Ip.below12 HB7.out (Nat.le_refl _) _ _ _ _ _ _ _ _ _ _ _ _, (Nat.le_refl _)⟩
  case rest =>
    obtain ⟨rb, x0, x1, x2, x3, x4, x5, x6, x7, rfl, rfl, hrb, hbc, hrl⟩ := hcut
    have hAc := HA5.out.below hbc
    have HFL := Lib.hid (HFAIL.out wc hAc)
    have r4 : wc.cell? ⟨rb, 11, none⟩ = some (.int .i64 st) := hrb.cell 11
    have HBC := Lib.hid (HB5.out.trans (hbc.mono HB5.out.size))
    have HQC := Lib.hid (HQ5.out.below hbc)
    have HQL := Lib.hid (show w.heap.size ≤ qb by have := HQB.out; omega)
    clear hrb hbc hAc hZ hWd hrl
    go_wp2_with fail
    refine HFL.out.mono ?_
    rintro e w7 ⟨rfl, hq7, hc7⟩
    have hq := hc7.blk HQC.out (fun e => by have := HQL.out; omega)
    have uq : ∀ i, w7.cell? ⟨qb, i, none⟩ = _ := fun i => hq.cell i
    have fq : ∀ i, w7.frozen? ⟨qb, i, none⟩ = false := fun i => hq.free i
    have lq := hq.lt
    have HQ7 := Lib.hid hq
    have HQQ := Lib.hid hq7
    have HC7 := Lib.hid hc7
    clear hq hq7 hc7
    go_wp2_with fail
    refine bodyPost_ret (results_ct rfl _ _ qb 35 _ (0, 0) _ rfl (HQ7.out.five rfl _ _ _ _ _) Tryz.underlying35 rfl (by kernel_rfl)) rfl ?_
    exact ⟨rfl, wc, w7, HBC.out, HQQ.out, HC7.out, ((((((Chg.refl (fun j => j = qb) w7).put qb 0 (.inl rfl) _).put qb 1 (.inl rfl) _).put qb 2 (.inl rfl) _).put qb 3 (.inl rfl) _).put qb 4 (.inl rfl) _).mono (fun j _ e => ⟨by have := HQL.out; omega, by have := HQC.out.lt; omega⟩)⟩
end Go.Proofs.YtlcdjgpblpodaaaGreatDoor

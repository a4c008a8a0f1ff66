/- PickT -/
import Derived.Test.YtlcdjgpblpodaaaGreatDoorMBJ
namespace Go.Proofs.YtlcdjgpblpodaaaGreatDoor
open Go.RowKit Go.Maps Go.Proofs.YtlcdjgpblpodaaaGreatDoorW.PrintWords

/-- What a turn gives, with the actor that it leaves, whatever stack of labels it ends with. -/
def TurnGivet (dn po : Bool) (fl st : Int) (a' : Actr) (X : Nat → Prop) (p : Nat) (W : World) (e : Ending) (w' : World) : Prop :=
  ∃ (TA : Option Addr) (tc : Nat), e = .returned (.tuple #[.agg #[.bool dn, .bool po, .int .i64 fl, .int .i64 st, .slice TA 0 tc], .int .i64 0]) ∧ ActAt false w' (fun j => X j ∨ W.heap.size ≤ j) p a' ∧ Chg X W w'
set_option maxRecDepth 100000 in
set_option maxHeartbeats 4000000 in
theorem pick_okt (reg : Nat → Nat) (eb : Nat) (E : Engn) (k : ByteArray) (dn po : Bool) (fl st : Int) (a' : Actr) (w : World) (h : EngAt w reg eb E) (hk : KeyOk k) (hls : E.ls = [] ∨ E.ls = [k] ∨ ∃ j, E.ls = [j] ∧ j ≠ k ∧ E.room = 1)
    (ht : ∀ (W : World) (X : Nat → Prop) (p : Nat) (NA KA : Option Addr) (nC kC : Nat), ActAt true W X p (E.act k) → ReadsOf Value.string (⟨#[]⟩ : ByteArray) W NA E.NL.length E.NL → Ip.IsCode W KA E.CL → Calls Tryz.prog 48 #[.agg #[.slice NA E.NL.length nC, .slice KA E.CL.length kC], .pointer (some ⟨p, 0, none⟩), .int .i64 0] W (TurnGivet dn po fl st a' X p W))
    (hok : ActOk k a') (hq : 9 * (E.q + 1) ≤ E.cnt ∧ E.q ≤ 5000) (hz : E.z ≤ 800000) (hlen : (encChs [chOf a']).length ≤ 2000) :
    Calls Tryz.prog 10 #[.pointer (some ⟨eb, 0, none⟩), .string k] w fun e w' => ∃ (TA : Option Addr) (tc : Nat), e = .returned (.tuple #[.agg #[.bool dn, .bool po, .int .i64 fl, .int .i64 st, .slice TA 0 tc], .int .i64 0]) ∧ EngTo w reg eb (pickE E k a') w' := by
  obtain ⟨ob, hob⟩ : ∃ b, b = w.heap.size := ⟨_, rfl⟩
  obtain ⟨W1, hW1⟩ : ∃ W, W = w.alloc (.cells #[.bool false, .bool false, .int .i64 0, .int .i64 0, .slice none 0 0] 35) := ⟨_, rfl⟩
  have hb1 : Below w.heap.size w W1 := hW1 ▸ (Below.refl _ _).alloc (Nat.le_refl _) _
  have ho1 : Blk W1 ob #[.bool false, .bool false, .int .i64 0, .int .i64 0, .slice none 0 0] 35 := hW1 ▸ Blk.newAt hob
  have h1 := h.below hb1
  obtain ⟨bb, tt, ab, qb, wb, cb, nC, kC, NA, KA, hB⟩ := h1.open_
  have c9 : W1.cell? ⟨eb, 9, none⟩ = some (.bool false) := hB.blk.cell 9
  have hks := hk.2
  have hnew : ∀ j, w.heap.size ≤ j → reg j = 0 := fun j hj => h.new hj
  have HNEW := Lib.hid hnew
  have HK := Lib.hid hk
  have HT := Lib.hid ht
  have HOK := Lib.hid hok
  have HLEN := Lib.hid hlen
  have HLD := Lib.hid (load_any reg eb E k hk hls (by omega) W1 h1)
  have HO1 := Lib.hid ho1
  have HB1 := Lib.hid hb1
  have HW1 := Lib.hid hW1
  have HOB := Lib.hid hob
  have HE := Lib.hid h
  clear h hk ht hok hlen hls hB h1 ho1 hb1 hW1 hob hnew
  go_enter Tryz.func10, Tryz.ntmps10
  go_upto_region 1 with fail
  rw [← HW1.out, ← HOB.out]
  go_wp2_with fail
  refine (gone_any eb W1 c9).mono ?_
  rintro e w2 ⟨rfl, rfl⟩
  go_wp2_with fail
  refine (key_any k HK.out W1).mono ?_
  rintro e w2 ⟨rfl, rfl⟩
  clear c9
  go_wp2_with fail
  refine HLD.out.mono ?_
  rintro e w4 ⟨p0, reg1, rfl, hE4, hx4, hc4, ha4⟩
  have hok4 := hE4.1.act k HK.out
  have HCPD := Lib.hid (copied_any _ p0 (E.act k) hok4.1 hok4.2.1 hok4.2.2.1 w4 ha4)
  have HE4 := Lib.hid hE4
  have HX4 := Lib.hid hx4
  have HC4 := Lib.hid hc4
  have HO4 := Lib.hid (hc4.blk HO1.out (by rw [HNEW.out ob (by have := HOB.out; omega)]; decide))
  clear hok4 hE4 hx4 hc4 ha4
  go_wp2_with fail
  refine HCPD.out.mono ?_
  rintro e w5 ⟨q, rfl, ha5, hb5⟩
  have hs1 := HB1.out.size
  have hs4 := HC4.out.size
  have hs5 := hb5.size
  obtain ⟨Wd, hWd⟩ : ∃ V, V = w5.drew := ⟨_, rfl⟩
  have hb5d : Below w4.heap.size w4 Wd := hWd ▸ hb5.drew
  have hsd : w5.heap.size = Wd.heap.size := by rw [hWd]; rfl
  have hE5 := HE4.out.below hb5d
  obtain ⟨bb5, tt5, ab5, qb5, wb5, cb5, nC5, kC5, NA5, KA5, hB5⟩ := hE5.open_
  have haq : ActAt true Wd (fun j => w4.heap.size ≤ j ∧ j < Wd.heap.size) q (E.act k) := by
    have := ha5.lt
    rw [hWd]
    exact this.below (w' := w5.drew) ((Below.refl w5.heap.size w5).drew)
  obtain ⟨Z, hZ⟩ : ∃ Z, Z = Obj.cells #[.bool false, .bool false, .int .i64 0, .int .i64 0, .slice none 0 0] 35 := ⟨_, rfl⟩
  have KEY := Lib.hid (show ∀ w' : World, Chg (fun j => w4.heap.size ≤ j) Wd w' → w'.cell? ⟨eb, 5, none⟩ = some (.int .i64 0) ∧ w'.cell? ⟨eb, 6, none⟩ = some (.slice NA5 E.NL.length nC5) ∧ w'.cell? ⟨eb, 7, none⟩ = some (.slice KA5 E.CL.length kC5) from fun w' hc => by
    have hel := HE4.out.lt eb (by rw [HE4.out.eb_]; decide)
    have hb := hc.blk hB5.blk (show ¬ w4.heap.size ≤ eb by omega)
    exact ⟨hb.cell 5, hb.cell 6, hb.cell 7⟩)
  have hza : Below Wd.heap.size Wd (Wd.alloc Z) := (Below.refl _ _).alloc (Nat.le_refl _) _
  have HTA := Lib.hid (HT.out Wd _ q NA5 KA5 nC5 kC5 haq hB5.names hB5.code)
  have HTB := Lib.hid (HT.out (Wd.alloc Z) _ q NA5 KA5 nC5 kC5 (haq.below hza) (hB5.names.below hza) (hB5.code.below hza))
  have HB5 := Lib.hid hb5d
  have HO5 := Lib.hid (HO4.out.below hb5d)
  have HSD := Lib.hid hsd
  have hel : eb < Wd.heap.size := hB5.blk.lt
  clear hb5 hb5d haq hB5 hE5 ha5 hsd hza
  go_upto_region 7 with fail
  go_cut [8, 9] from 30 to 41 (fun v8 v9 wx => Hid (∃ (rb : Nat) (TA : Option Addr) (tc : Nat), v8 = .pointer (some ⟨rb, 0, none⟩) ∧ v9 = .int .i64 0 ∧ Blk wx rb #[.bool dn, .bool po, .int .i64 fl, .int .i64 st, .slice TA 0 tc] 35 ∧ ActAt false wx (fun j => (w4.heap.size ≤ j ∧ j < Wd.heap.size) ∨ Wd.heap.size ≤ j) q a' ∧ Chg (fun j => w4.heap.size ≤ j) Wd wx ∧ Wd.heap.size ≤ rb))
  case first =>
    obtain ⟨S, hSS⟩ : ∃ S : World → Prop, S = fun w' => w'.cell? ⟨eb, 5, none⟩ = some (.int .i64 0) ∧ w'.cell? ⟨eb, 6, none⟩ = some (.slice NA5 E.NL.length nC5) ∧ w'.cell? ⟨eb, 7, none⟩ = some (.slice KA5 E.CL.length kC5) := ⟨_, rfl⟩
    have HSS := Lib.hid hSS
    clear hSS
    refine Held.region S 15 (by kernel_rfl) (by rw [HSS.out, ← hWd]; exact KEY.out _ (Chg.refl _ _)) (fun hHeld => ?_)
    rw [← hWd] at hHeld ⊢
    clear hWd
    have HZE := Lib.hid hZ
    clear hZ
    refine Held.take (i := 0) (oi := { dst := _, op := _, type := _, pos := _, after := _, guard := _ }) (v := ?v0) rfl (by kernel_rfl) (by kernel_rfl) (by kernel_rfl) (by kernel_rfl) (fun _ _ _ h => h) (Or.inl ⟨by rfl, ?hy0⟩) (by assumption) ?rest0
    case hy0 => (intro w hSw; rw [HSS.out] at hSw; (try dsimp only at hSw); go_simp; (try with_reducible rfl))
    try simp only [Act.put, List.setIfInBounds_toArray, List.set_cons_zero, List.set_cons_succ]
    refine Held.take (i := 1) (oi := { dst := _, op := _, type := _, pos := _, after := _, guard := _ }) (v := ?v1) rfl (by kernel_rfl) (by kernel_rfl) (by kernel_rfl) (by kernel_rfl) (fun _ _ _ h => h) (Or.inl ⟨by rfl, ?hy1⟩) (by assumption) ?rest1
    case hy1 => (intro w hSw; rw [HSS.out] at hSw; (try dsimp only at hSw); go_simp; (try with_reducible rfl))
    try simp only [Act.put, List.setIfInBounds_toArray, List.set_cons_zero, List.set_cons_succ]
    refine Held.take (i := 2) (oi := { dst := _, op := _, type := _, pos := _, after := _, guard := _ }) (v := ?v2) rfl (by kernel_rfl) (by kernel_rfl) (by kernel_rfl) (by kernel_rfl) (fun _ _ _ h => h) (Or.inl ⟨by rfl, ?hy2⟩) (by assumption) ?rest2
    case hy2 => (intro w hSw; rw [HSS.out] at hSw; (try dsimp only at hSw); go_simp; (try with_reducible rfl))
    try simp only [Act.put, List.setIfInBounds_toArray, List.set_cons_zero, List.set_cons_succ]
    refine Held.take (i := 3) (oi := { dst := _, op := _, type := _, pos := _, after := _, guard := _ }) (v := ?v3) rfl (by kernel_rfl) (by kernel_rfl) (by kernel_rfl) (by kernel_rfl) (fun _ _ _ h => h) (Or.inl ⟨by rfl, ?hy3⟩) (by assumption) ?rest3
    case hy3 => (intro w hSw; rw [HSS.out] at hSw; (try dsimp only at hSw); go_simp; (try with_reducible rfl))
    try simp only [Act.put, List.setIfInBounds_toArray, List.set_cons_zero, List.set_cons_succ]
    refine Held.take (i := 4) (oi := { dst := _, op := _, type := _, pos := _, after := _, guard := _ }) (v := ?v4) rfl (by kernel_rfl) (by kernel_rfl) (by kernel_rfl) (by kernel_rfl) (fun _ _ _ h => h) (Or.inl ⟨by rfl, ?hy4⟩) (by assumption) ?rest4
    case hy4 => (intro w hSw; rw [HSS.out] at hSw; (try dsimp only at hSw); go_simp; (try with_reducible rfl))
    try simp only [Act.put, List.setIfInBounds_toArray, List.set_cons_zero, List.set_cons_succ]
    refine Held.take (i := 5) (oi := { dst := _, op := _, type := _, pos := _, after := _, guard := _ }) (v := ?v5) rfl (by kernel_rfl) (by kernel_rfl) (by kernel_rfl) (by kernel_rfl) (fun _ _ _ h => h) (Or.inl ⟨by rfl, ?hy5⟩) (by assumption) ?rest5
    case hy5 => (intro w hSw; rw [HSS.out] at hSw; (try dsimp only at hSw); go_simp; (try with_reducible rfl))
    try simp only [Act.put, List.setIfInBounds_toArray, List.set_cons_zero, List.set_cons_succ]
    refine Held.take (i := 6) (oi := { dst := _, op := _, type := _, pos := _, after := _, guard := _ }) (v := ?v6) rfl (by kernel_rfl) (by kernel_rfl) (by kernel_rfl) (by kernel_rfl) (fun _ _ _ h => h) (Or.inl ⟨by rfl, ?hy6⟩) (by assumption) ?rest6
    case hy6 => (intro w hSw; rw [HSS.out] at hSw; (try dsimp only at hSw); go_simp; (try with_reducible rfl))
    try simp only [Act.put, List.setIfInBounds_toArray, List.set_cons_zero, List.set_cons_succ]
    refine Held.take (i := 7) (oi := { dst := _, op := _, type := _, pos := _, after := _, guard := _ }) (v := ?v7) rfl (by kernel_rfl) (by kernel_rfl) (by kernel_rfl) (by kernel_rfl) (fun _ _ _ h => h) (Or.inl ⟨by rfl, ?hy7⟩) (by assumption) ?rest7
    case hy7 => (intro w hSw; rw [HSS.out] at hSw; (try dsimp only at hSw); go_simp; (try with_reducible rfl))
    try simp only [Act.put, List.setIfInBounds_toArray, List.set_cons_zero, List.set_cons_succ]
    refine Held.take (i := 8) (oi := { dst := _, op := _, type := _, pos := _, after := _, guard := _ }) (v := ?v8) rfl (by kernel_rfl) (by kernel_rfl) (by kernel_rfl) (by kernel_rfl) (fun _ _ _ h => h) (Or.inl ⟨by rfl, ?hy8⟩) (by assumption) ?rest8
    case hy8 => (intro w hSw; rw [HSS.out] at hSw; (try dsimp only at hSw); go_simp; (try with_reducible rfl))
    try simp only [Act.put, List.setIfInBounds_toArray, List.set_cons_zero, List.set_cons_succ]
    refine Held.two (i := 9) (j := 13) (o := { dst := _, op := _, type := _, pos := _, after := _, guard := _ }) (o2 := { dst := _, op := _, type := _, pos := _, after := _, guard := _ }) (by kernel_rfl) rfl rfl (fun K hK => ?one) (fun K hK => ?two)
    case one =>
      go_simp
      refine HTA.out.mono ?_
      rintro e w6 ⟨TA, tc, rfl, ha6, hc6⟩
      have HA6 := Lib.hid ha6
      have HC6 := Lib.hid (hc6.mono (S' := fun j => w4.heap.size ≤ j) (fun _ _ e => e.1))
      clear ha6 hc6
      refine hK.out _ _ (fun _ => ?hS19) (fun hHeld1 => ?_)
      case hS19 => (rw [HSS.out]; exact KEY.out _ HC6.out)
      clear hK K
      replace hHeld1 := hHeld1 (by decide)
      try simp only [Act.put, List.setIfInBounds_toArray, List.set_cons_zero, List.set_cons_succ]
      refine Held.take (i := 10) (oi := { dst := _, op := _, type := _, pos := _, after := _, guard := _ }) (v := ?vp10) rfl (by kernel_rfl) (by kernel_rfl) (by kernel_rfl) (by kernel_rfl) (fun _ _ _ h => h) (Or.inl ⟨by rfl, ?hyp10⟩) (by assumption) ?restp10
      case hyp10 => (intro w hSw; rw [HSS.out] at hSw; (try dsimp only at hSw); go_simp; (try with_reducible rfl))
      try simp only [Act.put, List.setIfInBounds_toArray, List.set_cons_zero, List.set_cons_succ]
      refine Held.take (i := 11) (oi := { dst := _, op := _, type := _, pos := _, after := _, guard := _ }) (v := ?vp11) rfl (by kernel_rfl) (by kernel_rfl) (by kernel_rfl) (by kernel_rfl) (fun _ _ _ h => h) (Or.inl ⟨by rfl, ?hyp11⟩) (by assumption) ?restp11
      case hyp11 => (intro w hSw; rw [HSS.out] at hSw; (try dsimp only at hSw); go_simp; (try with_reducible rfl))
      try simp only [Act.put, List.setIfInBounds_toArray, List.set_cons_zero, List.set_cons_succ]
      refine Held.take (i := 12) (oi := { dst := _, op := _, type := _, pos := _, after := _, guard := _ }) (v := ?vp12) rfl (by kernel_rfl) (by kernel_rfl) (by kernel_rfl) (by kernel_rfl) (fun _ _ _ h => h) (Or.inl ⟨by rfl, ?hyp12⟩) (by assumption) ?restp12
      case hyp12 => (intro w hSw; rw [HSS.out] at hSw; (try dsimp only at hSw); go_simp; (try with_reducible rfl))
      try simp only [Act.put, List.setIfInBounds_toArray, List.set_cons_zero, List.set_cons_succ]
      refine Held.one (i := 13) (o := { dst := _, op := _, type := _, pos := _, after := _, guard := _ }) (by kernel_rfl) rfl (fun K hK => ?_)
      go_simp
      rw [← HZE.out]
      obtain ⟨w8, hw8⟩ : ∃ V, V = w6.alloc Z := ⟨_, rfl⟩
      rw [← hw8]
      have hb8 : Below w6.heap.size w6 w8 := hw8 ▸ (Below.refl _ _).alloc (Nat.le_refl _) _
      have HZ8 := Lib.hid (show Blk w8 w6.heap.size #[.bool false, .bool false, .int .i64 0, .int .i64 0, .slice none 0 0] 35 from by rw [hw8, HZE.out]; exact Blk.new _ _ _)
      have HC8 := Lib.hid (HC6.out.then_below hb8)
      have HA8 := Lib.hid (HA6.out.lt.below hb8)
      have hs6 := HC6.out.size
      have hs48 := HB5.out.size
      clear hw8 hb8
      refine hK.out _ _ (fun _ => ?hSp13) (fun hHeldp2 => ?_)
      case hSp13 => (rw [HSS.out]; exact KEY.out _ HC8.out)
      clear hK K
      replace hHeldp2 := hHeldp2 (by decide)
      try simp only [Act.put, List.setIfInBounds_toArray, List.set_cons_zero, List.set_cons_succ]
      have uz : ∀ i, World.cell? w8 ⟨w6.heap.size, i, none⟩ = _ := fun i => HZ8.out.cell i
      have fz : ∀ i, World.frozen? w8 ⟨w6.heap.size, i, none⟩ = false := fun i => HZ8.out.free i
      have lz := HZ8.out.lt
      have hput : ∀ v0 v1 v2 v3 v4 : Value, Chg (fun j => j = w6.heap.size) w8 (((((w8.setCell ⟨w6.heap.size, 0, none⟩ v0).setCell ⟨w6.heap.size, 1, none⟩ v1).setCell ⟨w6.heap.size, 2, none⟩ v2).setCell ⟨w6.heap.size, 3, none⟩ v3).setCell ⟨w6.heap.size, 4, none⟩ v4) := fun _ _ _ _ _ => (((((Chg.refl (fun j => j = w6.heap.size) w8).put w6.heap.size 0 (.inl rfl) _).put w6.heap.size 1 (.inl rfl) _).put w6.heap.size 2 (.inl rfl) _).put w6.heap.size 3 (.inl rfl) _).put w6.heap.size 4 (.inl rfl) _
      have HPUT := Lib.hid hput
      clear hput
      refine Held.one (i := 14) (o := { dst := _, op := _, type := _, pos := _, after := _, guard := _ }) (by kernel_rfl) rfl (fun K hK => ?_)
      go_simp
      refine hK.out _ _ (fun _ => ?hSp14) (fun hHeldp3 => ?_)
      case hSp14 => (rw [HSS.out]; exact KEY.out _ (HC8.out.trans (HPUT.out _ _ _ _ _) (fun j _ e => by subst e; omega)))
      clear hK K
      replace hHeldp3 := hHeldp3 (by decide)
      try simp only [Act.put, List.setIfInBounds_toArray, List.set_cons_zero, List.set_cons_succ]
      refine Held.one (i := 15) (o := { dst := _, op := _, type := _, pos := _, after := _, guard := _ }) (by kernel_rfl) rfl (fun K hK => ?_)
      go_simp
      refine hK.out _ _ (fun h => absurd rfl h) (fun _ => ?_)
      clear hK K
      refine Held.done (by kernel_rfl) ?_ _
      refine NoPanic.normal ?_
      go_wp2_with fail
      go_meet
      exact Lib.hid ⟨w6.heap.size, TA, tc, rfl, rfl, HZ8.out.five rfl _ _ _ _ _, (HA8.out.chg (HPUT.out _ _ _ _ _) (fun j hj e => by have := hj.2; omega)).mono (fun _ hj => hj.1), HC8.out.trans (HPUT.out _ _ _ _ _) (fun j _ e => by subst e; omega), hs6⟩
    case two =>
      go_simp
      rw [← HZE.out]
      have hba : Below Wd.heap.size Wd (Wd.alloc Z) := (Below.refl _ _).alloc (Nat.le_refl _) _
      have HBA := Lib.hid hba
      have HZ5 := Lib.hid (show Blk (Wd.alloc Z) Wd.heap.size #[.bool false, .bool false, .int .i64 0, .int .i64 0, .slice none 0 0] 35 from HZE.out ▸ Blk.new _ _ _)
      clear hba
      refine hK.out _ _ (fun _ => ?hSr413) (fun hHeldr4 => ?_)
      case hSr413 => (rw [HSS.out]; exact KEY.out _ (Chg.of_below HBA.out _))
      clear hK K
      replace hHeldr4 := hHeldr4 (by decide)
      try simp only [Act.put, List.setIfInBounds_toArray, List.set_cons_zero, List.set_cons_succ]
      refine Held.one (i := 9) (o := { dst := _, op := _, type := _, pos := _, after := _, guard := _ }) (by kernel_rfl) rfl (fun K hK => ?_)
      go_simp
      refine HTB.out.mono ?_
      rintro e w6 ⟨TA, tc, rfl, ha6, hc6⟩
      have hsa : (Wd.alloc Z).heap.size = Wd.heap.size + 1 := by simp
      have HZ6 := Lib.hid (hc6.blk HZ5.out (fun e => by have := e.2; omega))
      have HC6 := Lib.hid ((Chg.of_below HBA.out (fun j => w4.heap.size ≤ j)).trans hc6 (fun _ _ e => e.1))
      have HA6 := Lib.hid (ha6.mono (X' := fun j => ((w4.heap.size ≤ j ∧ j < Wd.heap.size) ∨ Wd.heap.size ≤ j) ∧ j ≠ Wd.heap.size) (fun j hj => by rcases hj with e | e; exact ⟨.inl e, by have := e.2; omega⟩; exact ⟨.inr (by omega), by omega⟩))
      have hs48 := HB5.out.size
      clear ha6 hc6 hsa
      refine hK.out _ _ (fun _ => ?hSr9) (fun hHeldr5 => ?_)
      case hSr9 => (rw [HSS.out]; exact KEY.out _ HC6.out)
      clear hK K
      replace hHeldr5 := hHeldr5 (by decide)
      try simp only [Act.put, List.setIfInBounds_toArray, List.set_cons_zero, List.set_cons_succ]
      refine Held.take (i := 10) (oi := { dst := _, op := _, type := _, pos := _, after := _, guard := _ }) (v := ?vr10) rfl (by kernel_rfl) (by kernel_rfl) (by kernel_rfl) (by kernel_rfl) (fun _ _ _ h => h) (Or.inl ⟨by rfl, ?hyr10⟩) (by assumption) ?restr10
      case hyr10 => (intro w hSw; rw [HSS.out] at hSw; (try dsimp only at hSw); go_simp; (try with_reducible rfl))
      try simp only [Act.put, List.setIfInBounds_toArray, List.set_cons_zero, List.set_cons_succ]
      refine Held.take (i := 11) (oi := { dst := _, op := _, type := _, pos := _, after := _, guard := _ }) (v := ?vr11) rfl (by kernel_rfl) (by kernel_rfl) (by kernel_rfl) (by kernel_rfl) (fun _ _ _ h => h) (Or.inl ⟨by rfl, ?hyr11⟩) (by assumption) ?restr11
      case hyr11 => (intro w hSw; rw [HSS.out] at hSw; (try dsimp only at hSw); go_simp; (try with_reducible rfl))
      try simp only [Act.put, List.setIfInBounds_toArray, List.set_cons_zero, List.set_cons_succ]
      refine Held.take (i := 12) (oi := { dst := _, op := _, type := _, pos := _, after := _, guard := _ }) (v := ?vr12) rfl (by kernel_rfl) (by kernel_rfl) (by kernel_rfl) (by kernel_rfl) (fun _ _ _ h => h) (Or.inl ⟨by rfl, ?hyr12⟩) (by assumption) ?restr12
      case hyr12 => (intro w hSw; rw [HSS.out] at hSw; (try dsimp only at hSw); go_simp; (try with_reducible rfl))
      try simp only [Act.put, List.setIfInBounds_toArray, List.set_cons_zero, List.set_cons_succ]
      have uz : ∀ i, World.cell? w6 ⟨Wd.heap.size, i, none⟩ = _ := fun i => HZ6.out.cell i
      have fz : ∀ i, World.frozen? w6 ⟨Wd.heap.size, i, none⟩ = false := fun i => HZ6.out.free i
      have lz := HZ6.out.lt
      have hput : ∀ v0 v1 v2 v3 v4 : Value, Chg (fun j => j = Wd.heap.size) w6 (((((w6.setCell ⟨Wd.heap.size, 0, none⟩ v0).setCell ⟨Wd.heap.size, 1, none⟩ v1).setCell ⟨Wd.heap.size, 2, none⟩ v2).setCell ⟨Wd.heap.size, 3, none⟩ v3).setCell ⟨Wd.heap.size, 4, none⟩ v4) := fun _ _ _ _ _ => (((((Chg.refl (fun j => j = Wd.heap.size) w6).put Wd.heap.size 0 (.inl rfl) _).put Wd.heap.size 1 (.inl rfl) _).put Wd.heap.size 2 (.inl rfl) _).put Wd.heap.size 3 (.inl rfl) _).put Wd.heap.size 4 (.inl rfl) _
      have HPUT := Lib.hid hput
      clear hput
      refine Held.one (i := 14) (o := { dst := _, op := _, type := _, pos := _, after := _, guard := _ }) (by kernel_rfl) rfl (fun K hK => ?_)
      go_simp
      refine hK.out _ _ (fun _ => ?hSr14) (fun hHeldr6 => ?_)
      case hSr14 => (rw [HSS.out]; exact KEY.out _ (HC6.out.trans (HPUT.out _ _ _ _ _) (fun j _ e => by subst e; omega)))
      clear hK K
      replace hHeldr6 := hHeldr6 (by decide)
      try simp only [Act.put, List.setIfInBounds_toArray, List.set_cons_zero, List.set_cons_succ]
      refine Held.one (i := 15) (o := { dst := _, op := _, type := _, pos := _, after := _, guard := _ }) (by kernel_rfl) rfl (fun K hK => ?_)
      go_simp
      refine hK.out _ _ (fun h => absurd rfl h) (fun _ => ?_)
      clear hK K
      refine Held.done (by kernel_rfl) ?_ _
      refine NoPanic.normal ?_
      go_wp2_with fail
      go_meet
      exact Lib.hid ⟨Wd.heap.size, TA, tc, rfl, rfl, HZ6.out.five rfl _ _ _ _ _, (HA6.out.chg (HPUT.out _ _ _ _ _) (fun j hj e => hj.2 e)).mono (fun _ hj => hj.1), HC6.out.trans (HPUT.out _ _ _ _ _) (fun j _ e => by subst e; omega), (Nat.le_refl _)⟩
  case rest =>
    obtain ⟨rb, TA, tc, rfl, rfl, hrb, har, hcr, hrl⟩ := hcut
    have hs4d := HB5.out.size
    have hb4c : Below w4.heap.size w4 wc := HB5.out.trans (hcr.below (B := w4.heap.size) (fun _ hj => hj) hs4d)
    have hoc := hcr.blk HO5.out (fun e => by have h1 := HO4.out.lt; have h2 := HO1.out.lt; have h3 := HOB.out; omega)
    obtain ⟨ua, hua⟩ : ∃ u, u = wc.heap.size := ⟨_, rfl⟩
    obtain ⟨tb, htb⟩ : ∃ u, u = wc.heap.size + 1 := ⟨_, rfl⟩
    obtain ⟨W8, hW8⟩ : ∃ W, W = (wc.alloc (.cells #[.pointer (some ⟨q, 0, none⟩)] 38)).alloc (.cells #[.slice (some ⟨ua, 0, none⟩) 1 1, .pointer none, .pointer none, .slice none 0 0] 121) := ⟨_, rfl⟩
    have hb8 : Below wc.heap.size wc W8 := hW8 ▸ ((Below.refl _ _).alloc (Nat.le_refl _) _).alloc (by simp) _
    have hu8 : Blk W8 ua #[.pointer (some ⟨q, 0, none⟩)] 38 := hW8 ▸ (Blk.newAt hua).alloc _
    have ht8 : Blk W8 tb #[.slice (some ⟨ua, 0, none⟩) 1 1, .pointer none, .pointer none, .slice none 0 0] 121 := hW8 ▸ Blk.newAt (by rw [htb]; simp)
    have hsc := hb4c.size
    have hs8 := hb8.size
    have hrl4 : w4.heap.size ≤ rb := by omega
    have hr8 := hrb.below hb8
    have hE8 := HE4.out.below (hb4c.trans (hb8.mono hsc))
    have hown : a'.outb.owner = k := HOK.out.2.2.2.1
    have hact : ActAt false W8 (fun j => w4.heap.size ≤ j ∧ j < W8.heap.size) q a' := (har.below hb8).lt.mono (fun j hj => ⟨by rcases hj.1 with e | e; exact e.1; omega, hj.2⟩)
    have hcm := commit_eng reg1 eb { E with ls := [k], z := E.z + 1 } (fun j => w4.heap.size ≤ j ∧ j < W8.heap.size) ua 0 1 [(q, a')] none W8 hE8 (UnA.one hu8 hact) (HE4.out.new (by omega)) (fun j hj => ⟨HE4.out.new hj.1, hj.2⟩) ⟨Nat.le_refl 1, by show 1 ≤ 2; omega⟩
      (fun u hu => by rw [List.mem_singleton.1 hu]; simp only [hown]; exact ⟨HK.out, HOK.out⟩) (by simp) (fun b W e => by cases e) hq (by show E.z + 1 ≤ 900000; omega) HLEN.out
    have HCM := Lib.hid (show Calls Tryz.prog 46 #[.pointer (some ⟨eb, 0, none⟩), .agg #[.slice (some ⟨ua, 0, none⟩) 1 1, .pointer none, .pointer none, .slice none 0 0]] W8 fun e w' => e = .returned (.int .i64 0) ∧ ∃ reg', EngAt w' reg' eb (pickE E k a') ∧ (∀ j, j < W8.heap.size → reg' j = reg1 j ∨ ((w4.heap.size ≤ j ∧ j < W8.heap.size) ∧ reg' j = 1)) ∧ Chg (fun j => 2 ≤ reg1 j) W8 w' from hcm)
    have t0 : W8.cell? ⟨tb, 0, none⟩ = some (.slice (some ⟨ua, 0, none⟩) 1 1) := ht8.cell 0
    have t1 : W8.cell? ⟨tb, 1, none⟩ = some (.pointer none) := ht8.cell 1
    have t2 : W8.cell? ⟨tb, 2, none⟩ = some (.pointer none) := ht8.cell 2
    have t3 : W8.cell? ⟨tb, 3, none⟩ = some (.slice none 0 0) := ht8.cell 3
    have r4 : W8.cell? ⟨rb, 4, none⟩ = some (.slice TA 0 tc) := hr8.cell 4
    have HR8 := Lib.hid hr8
    have HO8 := Lib.hid (hoc.below hb8)
    have HB48 := Lib.hid (show Below w4.heap.size w4 W8 from hb4c.trans (hb8.mono hsc))
    have HW8 := Lib.hid hW8
    have HUA := Lib.hid hua
    have HTB := Lib.hid htb
    have hrb0 : ¬ 2 ≤ reg1 rb := by rw [HE4.out.new (by omega)]; decide
    have hob0 : ¬ 2 ≤ reg1 ob := by
      have h1 := HX4.out ob (by have := HO1.out.lt; exact this)
      rw [h1, HNEW.out ob (by have := HOB.out; omega)]; decide
    have HRB0 := Lib.hid hrb0
    have HOB0 := Lib.hid hob0
    clear hb4c hoc hua htb hW8 hb8 hu8 ht8 hr8 hE8 hact hcm hown har hcr hrb hrl hWd hZ hrb0 hob0
    go_upto_region 9 with fail
    rw [show wc.heap.size + 1 = tb from HTB.out.symm, ← HUA.out, ← HW8.out]
    go_wp2_with fail
    refine HCM.out.mono ?_
    rintro e w11 ⟨rfl, reg2, hE11, hx11, hc11⟩
    obtain ⟨bb11, tt11, ab11, qb11, wb11, cb11, nC11, kC11, NA11, KA11, hB11⟩ := hE11.open_
    have d8 : w11.cell? ⟨eb, 8, none⟩ = some (.pointer (some ⟨cb11, 0, none⟩)) := hB11.blk.cell 8
    have HR11 := Lib.hid (hc11.blk HR8.out HRB0.out)
    have HO11 := Lib.hid (hc11.blk HO8.out HOB0.out)
    have r0 : w11.cell? ⟨rb, 0, none⟩ = some (.bool dn) := HR11.out.cell 0
    have HE11 := Lib.hid hE11
    have HX11 := Lib.hid hx11
    have HC11 := Lib.hid hc11
    have HN := Lib.hid (fun i (hi : i ≤ 7) => count_any cb11 i hi 1 w11 hB11.cnt)
    have hs11 := hc11.size
    clear t0 t1 t2 t3 r4 hE11 hx11 hc11 hB11
    have HFIN := Lib.hid (show ∀ w12 : World, CntAt w12 cb11 → Chg (fun j => j = cb11) w11 w12 → Blk w12 rb #[.bool dn, .bool po, .int .i64 fl, .int .i64 st, .slice TA 0 tc] 35 ∧ Blk w12 ob #[.bool false, .bool false, .int .i64 0, .int .i64 0, .slice none 0 0] 35 ∧
        ∀ w13 : World, Chg (fun j => j = ob) w12 w13 → EngTo w reg eb (pickE E k a') w13 from fun w12 hn12 hc12 => by
      obtain ⟨⟨r3, h3, x3⟩, k3⟩ := HE11.out.counted d8 rfl hn12 hc12
      have hcb2 : reg2 cb11 = 10 := by
        obtain ⟨_, v, hv, hC, _⟩ := HE11.out
        have h8 : w11.cell? ⟨v.eb, 8, none⟩ = some (.pointer (some ⟨v.cb, 0, none⟩)) := hC.blk.cell 8
        rw [hv, d8] at h8
        injection h8 with h8
        injection h8 with h8
        injection h8 with h8
        injection h8 with h8
        rw [h8]; exact hC.lc
      have hne : ∀ j, j < W8.heap.size → reg1 j = 0 → j ≠ cb11 := fun j hj h0 e => by
        subst e
        rcases HX11.out j hj with g | ⟨_, g⟩ <;> rw [hcb2] at g
        · omega
        · omega
      have h0r : reg1 rb = 0 := HE4.out.new (by omega)
      have h0o : reg1 ob = 0 := by
        have h1 := HX4.out ob HO1.out.lt
        rw [h1, HNEW.out ob (by have := HOB.out; omega)]
      refine ⟨hc12.blk HR11.out (hne rb HR8.out.lt h0r), hc12.blk HO11.out (hne ob HO8.out.lt h0o), fun w13 hc13 => ?_⟩
      have hx : ∀ j, j < w.heap.size → reg2 j = reg j := fun j hj => by
        rcases HX11.out j (by omega) with e | ⟨e, _⟩
        · exact e.trans (HX4.out j (by omega))
        · omega
      have hb := HB48.out
      have hk := HC11.out
      have hob := HOB.out
      have hr3o : r3 ob = 0 := by
        rw [x3 ob HO11.out.lt]
        rcases HX11.out ob HO8.out.lt with g | ⟨⟨g, _⟩, _⟩
        · rw [g, h0o]
        · have := HO4.out.lt; omega
      refine ⟨⟨r3, h3.chg hc13 (fun j hj e => by subst e; exact hj hr3o), fun j hj => (x3 j (by omega)).trans (hx j hj)⟩, (((((Chg.of_below HB1.out (fun j => 2 ≤ reg j)).trans HC4.out (fun _ _ e => e)).then_below hb).trans hk (fun j hj e => ?_)).trans k3 (fun j hj e => ?_)).trans hc13 (fun j hj e => by omega)⟩
      · rw [HX4.out j (by omega)] at e; exact e
      · rw [hx j hj] at e; exact e)
    cases hdn : dn with
    | true =>
      rw [hdn] at r0
      have HDN := Lib.hid hdn
      clear hdn
      go_wp2_with fail
      refine (HN.out 1 (by omega)).mono ?_
      rintro e w12 ⟨⟨x, rfl⟩, hn12, hc12⟩
      obtain ⟨hr12, ho12, hfin⟩ := HFIN.out w12 hn12 hc12
      rw [HDN.out] at hr12
      have uz : ∀ i, w12.cell? ⟨rb, i, none⟩ = _ := fun i => hr12.cell i
      have uo : ∀ i, w12.cell? ⟨ob, i, none⟩ = _ := fun i => ho12.cell i
      have fo : ∀ i, w12.frozen? ⟨ob, i, none⟩ = false := fun i => ho12.free i
      have lo := ho12.lt
      have HFF := Lib.hid hfin
      have HO12 := Lib.hid ho12
      clear d8 hn12 hc12 hfin hr12 ho12 r0
      go_wp2_with fail
      refine bodyPost_ret (results_ct rfl _ _ ob 35 _ (0, 0) _ rfl (HO12.out.five rfl _ _ _ _ _) Tryz.underlying35 rfl (by kernel_rfl)) rfl ?_
      exact ⟨TA, tc, by rw [HDN.out]; rfl, HFF.out _ ((((((Chg.refl (fun j => j = ob) w12).put ob 0 (.inl rfl) _).put ob 1 (.inl rfl) _).put ob 2 (.inl rfl) _).put ob 3 (.inl rfl) _).put ob 4 (.inl rfl) _)⟩
    | false =>
      rw [hdn] at r0
      have HDN := Lib.hid hdn
      clear hdn
      go_wp2_with fail
      refine (HN.out 2 (by omega)).mono ?_
      rintro e w12 ⟨⟨x, rfl⟩, hn12, hc12⟩
      obtain ⟨hr12, ho12, hfin⟩ := HFIN.out w12 hn12 hc12
      rw [HDN.out] at hr12
      have uz : ∀ i, w12.cell? ⟨rb, i, none⟩ = _ := fun i => hr12.cell i
      have uo : ∀ i, w12.cell? ⟨ob, i, none⟩ = _ := fun i => ho12.cell i
      have fo : ∀ i, w12.frozen? ⟨ob, i, none⟩ = false := fun i => ho12.free i
      have lo := ho12.lt
      have HFF := Lib.hid hfin
      have HO12 := Lib.hid ho12
      clear d8 hn12 hc12 hfin hr12 ho12 r0
      go_wp2_with fail
      refine bodyPost_ret (results_ct rfl _ _ ob 35 _ (0, 0) _ rfl (HO12.out.five rfl _ _ _ _ _) Tryz.underlying35 rfl (by kernel_rfl)) rfl ?_
      exact ⟨TA, tc, by rw [HDN.out]; rfl, HFF.out _ ((((((Chg.refl (fun j => j = ob) w12).put ob 0 (.inl rfl) _).put ob 1 (.inl rfl) _).put ob 2 (.inl rfl) _).put ob 3 (.inl rfl) _).put ob 4 (.inl rfl) _)⟩
end Go.Proofs.YtlcdjgpblpodaaaGreatDoor

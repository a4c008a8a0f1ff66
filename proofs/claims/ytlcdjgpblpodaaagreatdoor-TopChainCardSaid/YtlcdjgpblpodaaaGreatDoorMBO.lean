/- Send -/
import Derived.Test.YtlcdjgpblpodaaaGreatDoorMBN
import Derived.Test.YtlcdjgpblpodaaaGreatDoorMBM
namespace Go.Proofs.YtlcdjgpblpodaaaGreatDoor
open Go.RowKit Go.Maps Go.Proofs.YtlcdjgpblpodaaaGreatDoorW.PrintWords

/-- A map has no more entries than it has keys. -/
theorem ser_tight {w : World} {mb n : Nat} {ss : List (ByteArray × Nat)} (h : w.ownsMap Tryz.prog 9 rawR mb n (serD ss)) : w.ownsMap Tryz.prog 9 rawR mb ss.length (serD ss) := by
  obtain ⟨es, clock, hb, F, hs, he⟩ := h
  refine ⟨es, clock, hb, F, ?_, he⟩
  have h1 := congrArg Maps.size he
  rw [size_serD] at h1
  simp only [Maps.size, length_sorted, List.length_map, Array.length_toList] at h1
  omega
set_option maxRecDepth 100000 in
set_option maxHeartbeats 4000000 in
theorem send_any (X : Nat → Prop) (ob : Nat) (ow tk : ByteArray) (ss : List (ByteArray × Nat)) (s0 : Nat) (hss : (ss = [] ∧ s0 = 0) ∨ ss = [(tk, s0)]) (how : KeyOk ow) (hto : KeyOk tk) (hs64 : U64 (s0 + 1)) (kind : Int) (args : List Int) (h4 : args.length ≤ 4) (A : Option Addr) (ca : Nat) (w : World)
    (hA : ReadsOf (Value.int .i64) (0 : Int) w A args.length args) (hsp : ∀ a, A = some a → a.spot = none) (hXA : args ≠ [] → ∀ a, A = some a → ¬ X a.block) (h : OutbAt true w X ob ⟨ow, ss, []⟩) (hX : ∀ k, X k → k < w.heap.size) :
    Calls Tryz.prog 111 #[.pointer (some ⟨ob, 0, none⟩), .string tk, .int .i64 kind, .slice A args.length ca] w fun e w' => e = .returned (.tuple #[.int .u64 ((s0 + 1 : Nat) : Int), .int .i64 0]) ∧ OutbAt false w' (fun k => X k ∨ w.heap.size ≤ k) ob ⟨ow, [(tk, s0 + 1)], [(tk, ⟨ow, s0 + 1, kind, args⟩)]⟩ ∧ Chg X w w' := by
  obtain ⟨i0, z0, hi, hz0, hz1, hz2, hz3⟩ := info_big info139
  have HN := Lib.hid (none_any X ob ⟨ow, ss, []⟩ how w h)
  obtain ⟨A', c', mb, n, h1, h2, h3, h4', h5, h6, h7, h8⟩ := h
  obtain ⟨rfl, rfl⟩ := h8 rfl rfl
  have h6' : w.ownsMap Tryz.prog 9 rawR mb ss.length (serD ss) := ser_tight h6
  have hks := hto.2
  have hsl : ss.length ≤ 1 := by rcases hss with ⟨rfl, _⟩ | rfl <;> simp
  have hmo : mb ≠ ob := fun e => by
    obtain ⟨es, ck, hbm, _⟩ := h6
    have h3' := h3
    unfold Blk at h3'
    rw [← e, hbm] at h3'
    cases h3'
  obtain ⟨f, known, hMap, hf1, hf2⟩ : ∃ (f : Lit → Option Value) (known : Bool), MapAt w 9 mb ss.length f ∧ (f (litS tk)).getD (.int .u64 0) = .int .u64 s0 ∧ (f (litS tk)).isSome = known := by
    rcases hss with ⟨rfl, rfl⟩ | rfl
    · exact ⟨_, false, ser_map0 h6', rfl, rfl⟩
    · exact ⟨_, true, ser_map1 (by omega) h6', by rw [putF_same]; rfl, by rw [putF_same]; rfl⟩
  have hput : (serD ss).put (litS tk) (.held (.int .u64 ((s0 : Int) + 1))) = serD [(tk, s0 + 1)] := by
    rcases hss with ⟨rfl, rfl⟩ | rfl
    · exact serD_put0 _ _
    · exact serD_put1 _ _ _
  have c1 : w.cell? ⟨ob, 1, none⟩ = some (.slice none 0 0) := h3.cell 1
  have c2 : w.cell? ⟨ob, 2, none⟩ = some (.map (some mb)) := h3.cell 2
  have t4 : decide ((4 : Int) < (args.length : Int)) = false := decide_eq_false (by omega)
  have t4' : decide (4 < args.length) = false := decide_eq_false (by omega)
  have hlen : ∀ ty, (Builtin.len_ #[257] ty #[.map (some mb)]).run Tryz.prog w = .ok (.int .i64 ss.length) w := fun ty => by rw [h6'.len Tryz.underlying257 ty, size_serD]
  have t6 : decide ((64 : Int) ≤ (ss.length : Int)) = false := decide_eq_false (by omega)
  have t6' : decide (64 ≤ ss.length) = false := decide_eq_false (by omega)
  have u1 : IntKind.u64.wrap ((s0 : Int) + 1) = (s0 : Int) + 1 := by rw [IntKind.wrap_u64]; unfold U64 at hs64; omega
  have HN' := HN
  have HKT := Lib.hid hto
  have HA := Lib.hid hA
  have HSP := Lib.hid hsp
  have HXA := Lib.hid hXA
  have HX := Lib.hid hX
  have HM := Lib.hid hMap
  have HMB := Lib.hid h6'
  have HPUT := Lib.hid hput
  have HBK := Lib.hid (show Blk w ob #[.string ow, .slice none 0 0, .map (some mb)] 259 from h3)
  have HXO := Lib.hid (show X ob ∧ X mb ∧ mb ≠ ob from ⟨h1, h2, hmo⟩)
  have HF1 := Lib.hid hf1
  have HF2 := Lib.hid hf2
  have lob := h3.lt
  have hmbl : mb < w.heap.size := h6.lt
  clear hss how hto hA hsp hXA hX hMap h6' hput h1 h2 h3 h4' h5 h6 h7 h8 hmo HN' hf1 hf2
  go_enter Tryz.func111, Tryz.ntmps111
  go_wp2_with fail
  refine HN.out.mono ?_
  rintro e w1 ⟨rfl, rfl⟩
  go_wp2_with fail
  refine (key_any tk HKT.out w).mono ?_
  rintro e w1 ⟨rfl, rfl⟩
  go_upto_region 4 with (at_lookup; refine wpList_map_ok (by rfl) (.tmp 29) (.tmp 30) 257 (by rfl) HM.out string_law Tryz.underlying257 (fun w => Tryz.zeroValue32 w) (by rfl) (by rfl) (keyStr tk (by omega)) (r := .int .u64 s0) (ok := known) HF1.out HF2.out ?_)
  go_cut [51] from 34 to 50 (fun v51 wx => v51 = .bool false ∧ wx = w)
  case first =>
    cases known
    all_goals
      go_wp2
      go_meet
      try exact ⟨rfl, rfl⟩
  case rest =>
    obtain ⟨rfl, rfl⟩ := hcut
    clear hlen t6 t6'
    go_wp2_with (first
      | (at_lookup; refine wpList_map_look (by rfl) (.tmp 55) (.tmp 56) 257 (by rfl) HM.out string_law Tryz.underlying257 (fun w => Tryz.zeroValue32 w) (by rfl) (by rfl) (keyStr tk (by omega)) (r := .int .u64 s0) HF1.out ?_)
      | (at_mapUpdate; refine wpList_own_put (by rfl) (.tmp 55) (.tmp 56) (.tmp 58) 257 (by rfl) HMB.out string_law Tryz.underlying257 (by omega) (by rfl) (by rfl) (by rfl) (keyStr tk (by omega)) ?_))
    intro w5 hm5 hc5
    rw [HPUT.out] at hm5
    have hbk5 := hc5.blk HBK.out HXO.out.2.2.symm
    have d2 : w5.cell? ⟨ob, 2, none⟩ = some (.map (some mb)) := hbk5.cell 2
    have hlk := (ser_map1 (by omega) hm5).look string_law Tryz.underlying257 (fun w => Tryz.zeroValue32 w) (keyStr tk (by omega))
    rw [putF_same] at hlk
    have hlk' : (Instr.lookup 257 (.map (some mb)) (.string tk) false).run Tryz.prog w5 = .ok (.int .u64 ((s0 : Int) + 1)) w5 := hlk
    obtain ⟨Wd, hWd⟩ : ∃ V, V = w5.drew := ⟨_, rfl⟩
    have hbd : Below w5.heap.size w5 Wd := hWd ▸ (Below.refl w5.heap.size w5).drew
    have hcd : Chg (fun j => j = mb) wc Wd := hc5.then_below hbd
    have HBKD := Lib.hid (hbk5.below hbd)
    have HMD := Lib.hid (ownsMap_chg hm5 (Chg.of_below hbd (fun _ => False)) (fun h => h))
    have HCD := Lib.hid hcd
    have hAD : ReadsOf (Value.int .i64) (0 : Int) Wd A args.length args := by
      cases hq : args with
      | nil => have h := HA.out; rw [hq] at h; exact ReadsOf.empty h
      | cons y r => rw [← hq]; exact hcd.reads HA.out (fun a ha e => HXA.out (by rw [hq]; simp) a ha (e ▸ HXO.out.2.1))
    have HCL := Lib.hid (clone91 A ca args Wd hAD HSP.out (by omega))
    have KEY := Lib.hid (show ∀ w' : World, Below Wd.heap.size Wd w' → w'.cell? ⟨ob, 1, none⟩ = some (.slice none 0 0) ∧ w'.cell? ⟨ob, 0, none⟩ = some (.string ow) from fun w' hb => ⟨(HBKD.out.below hb).cell 1, (HBKD.out.below hb).cell 0⟩)
    have hlod := HBKD.out.lt
    have hsd := hcd.size
    clear hm5 hc5 hbk5 hlk hbd hcd hAD c1 c2
    go_upto_region 8 with fail
    clear hlk' d2
    obtain ⟨S, hSD⟩ : ∃ S : World → Prop, S = fun w' => w'.cell? ⟨ob, 1, none⟩ = some (.slice none 0 0) ∧ w'.cell? ⟨ob, 0, none⟩ = some (.string ow) := ⟨_, rfl⟩
    have HSD := Lib.hid hSD
    clear hSD
    refine HeldB.region S 20 (by kernel_rfl) (by rw [HSD.out, ← hWd]; exact KEY.out _ (Below.refl _ _)) (fun _ => ?_)
    rw [← hWd]
    clear hWd
    refine HeldB.takeP (i := 0) (oi := { dst := _, op := _, type := _, pos := _, after := _, guard := _ }) (v := ?v0) (by decide) rfl (by kernel_rfl) (by kernel_rfl) (by kernel_rfl) (fun _ _ _ h => h) (Or.inl ⟨by rfl, ?hy0⟩) (fun _ => by rw [HSD.out]; exact KEY.out _ (Below.refl _ _)) ?rest0
    case hy0 => (intro w hSw; clear hSw; go_simp; (try with_reducible rfl))
    try simp only [Act.put, List.setIfInBounds_toArray, List.set_cons_zero, List.set_cons_succ]
    refine HeldB.takeP (i := 1) (oi := { dst := _, op := _, type := _, pos := _, after := _, guard := _ }) (v := ?v1) (by decide) rfl (by kernel_rfl) (by kernel_rfl) (by kernel_rfl) (fun _ _ _ h => h) (Or.inl ⟨by rfl, ?hy1⟩) (fun _ => by rw [HSD.out]; exact KEY.out _ (Below.refl _ _)) ?rest1
    case hy1 => (intro w hSw; clear hSw; go_simp; (try with_reducible rfl))
    try simp only [Act.put, List.setIfInBounds_toArray, List.set_cons_zero, List.set_cons_succ]
    refine HeldB.takeP (i := 2) (oi := { dst := _, op := _, type := _, pos := _, after := _, guard := _ }) (v := ?v2) (by decide) rfl (by kernel_rfl) (by kernel_rfl) (by kernel_rfl) (fun _ _ _ h => h) (Or.inl ⟨by rfl, ?hy2⟩) (fun _ => by rw [HSD.out]; exact KEY.out _ (Below.refl _ _)) ?rest2
    case hy2 => (intro w hSw; clear hSw; go_simp; (try with_reducible rfl))
    try simp only [Act.put, List.setIfInBounds_toArray, List.set_cons_zero, List.set_cons_succ]
    refine HeldB.takeP (i := 3) (oi := { dst := _, op := _, type := _, pos := _, after := _, guard := _ }) (v := ?v3) (by decide) rfl (by kernel_rfl) (by kernel_rfl) (by kernel_rfl) (fun _ _ _ h => h) (Or.inl ⟨by rfl, ?hy3⟩) (fun _ => by rw [HSD.out]; exact KEY.out _ (Below.refl _ _)) ?rest3
    case hy3 => (intro w hSw; clear hSw; go_simp; (try with_reducible rfl))
    try simp only [Act.put, List.setIfInBounds_toArray, List.set_cons_zero, List.set_cons_succ]
    refine HeldB.take (i := 4) (oi := { dst := _, op := _, type := _, pos := _, after := _, guard := _ }) (v := ?v4) rfl (by kernel_rfl) (by kernel_rfl) (by kernel_rfl) (by kernel_rfl) (by kernel_rfl) (fun _ _ _ h => h) (Or.inl ⟨by rfl, ?hy4⟩) (by rw [HSD.out]; exact KEY.out _ (Below.refl _ _)) ?rest4
    case hy4 => (intro w hSw; rw [HSD.out] at hSw; (try dsimp only at hSw); go_simp; (try with_reducible rfl))
    try simp only [Act.put, List.setIfInBounds_toArray, List.set_cons_zero, List.set_cons_succ]
    refine HeldB.takeP (i := 5) (oi := { dst := _, op := _, type := _, pos := _, after := _, guard := _ }) (v := ?v5) (by decide) rfl (by kernel_rfl) (by kernel_rfl) (by kernel_rfl) (fun _ _ _ h => h) (Or.inl ⟨by rfl, ?hy5⟩) (fun _ => by rw [HSD.out]; exact KEY.out _ (Below.refl _ _)) ?rest5
    case hy5 => (intro w hSw; clear hSw; go_simp; (try with_reducible rfl))
    try simp only [Act.put, List.setIfInBounds_toArray, List.set_cons_zero, List.set_cons_succ]
    refine HeldB.takeP (i := 6) (oi := { dst := _, op := _, type := _, pos := _, after := _, guard := _ }) (v := ?v6) (by decide) rfl (by kernel_rfl) (by kernel_rfl) (by kernel_rfl) (fun _ _ _ h => h) (Or.inl ⟨by rfl, ?hy6⟩) (fun _ => by rw [HSD.out]; exact KEY.out _ (Below.refl _ _)) ?rest6
    case hy6 => (intro w hSw; clear hSw; go_simp; (try with_reducible rfl))
    try simp only [Act.put, List.setIfInBounds_toArray, List.set_cons_zero, List.set_cons_succ]
    refine HeldB.takeP (i := 7) (oi := { dst := _, op := _, type := _, pos := _, after := _, guard := _ }) (v := ?v7) (by decide) rfl (by kernel_rfl) (by kernel_rfl) (by kernel_rfl) (fun _ _ _ h => h) (Or.inl ⟨by rfl, ?hy7⟩) (fun _ => by rw [HSD.out]; exact KEY.out _ (Below.refl _ _)) ?rest7
    case hy7 => (intro w hSw; clear hSw; go_simp; (try with_reducible rfl))
    try simp only [Act.put, List.setIfInBounds_toArray, List.set_cons_zero, List.set_cons_succ]
    refine HeldB.takeP (i := 8) (oi := { dst := _, op := _, type := _, pos := _, after := _, guard := _ }) (v := ?v8) (by decide) rfl (by kernel_rfl) (by kernel_rfl) (by kernel_rfl) (fun _ _ _ h => h) (Or.inl ⟨by rfl, ?hy8⟩) (fun _ => by rw [HSD.out]; exact KEY.out _ (Below.refl _ _)) ?rest8
    case hy8 => (intro w hSw; clear hSw; go_simp; (try with_reducible rfl))
    try simp only [Act.put, List.setIfInBounds_toArray, List.set_cons_zero, List.set_cons_succ]
    refine HeldB.take (i := 9) (oi := { dst := _, op := _, type := _, pos := _, after := _, guard := _ }) (v := ?v9) rfl (by kernel_rfl) (by kernel_rfl) (by kernel_rfl) (by kernel_rfl) (by kernel_rfl) (fun _ _ _ h => h) (Or.inl ⟨by rfl, ?hy9⟩) (by rw [HSD.out]; exact KEY.out _ (Below.refl _ _)) ?rest9
    case hy9 => (intro w hSw; rw [HSD.out] at hSw; (try dsimp only at hSw); go_simp; (try with_reducible rfl))
    try simp only [Act.put, List.setIfInBounds_toArray, List.set_cons_zero, List.set_cons_succ]
    refine HeldB.takeP (i := 10) (oi := { dst := _, op := _, type := _, pos := _, after := _, guard := _ }) (v := ?v10) (by decide) rfl (by kernel_rfl) (by kernel_rfl) (by kernel_rfl) (fun _ _ _ h => h) (Or.inl ⟨by rfl, ?hy10⟩) (fun _ => by rw [HSD.out]; exact KEY.out _ (Below.refl _ _)) ?rest10
    case hy10 => (intro w hSw; clear hSw; go_simp; (try with_reducible rfl))
    try simp only [Act.put, List.setIfInBounds_toArray, List.set_cons_zero, List.set_cons_succ]
    refine HeldB.takeP (i := 11) (oi := { dst := _, op := _, type := _, pos := _, after := _, guard := _ }) (v := ?v11) (by decide) rfl (by kernel_rfl) (by kernel_rfl) (by kernel_rfl) (fun _ _ _ h => h) (Or.inl ⟨by rfl, ?hy11⟩) (fun _ => by rw [HSD.out]; exact KEY.out _ (Below.refl _ _)) ?rest11
    case hy11 => (intro w hSw; clear hSw; go_simp; (try with_reducible rfl))
    try simp only [Act.put, List.setIfInBounds_toArray, List.set_cons_zero, List.set_cons_succ]
    refine HeldB.takeP (i := 12) (oi := { dst := _, op := _, type := _, pos := _, after := _, guard := _ }) (v := ?v12) (by decide) rfl (by kernel_rfl) (by kernel_rfl) (by kernel_rfl) (fun _ _ _ h => h) (Or.inl ⟨by rfl, ?hy12⟩) (fun _ => by rw [HSD.out]; exact KEY.out _ (Below.refl _ _)) ?rest12
    case hy12 => (intro w hSw; clear hSw; go_simp; (try with_reducible rfl))
    try simp only [Act.put, List.setIfInBounds_toArray, List.set_cons_zero, List.set_cons_succ]
    refine HeldB.one (i := 13) (o := { dst := _, op := _, type := _, pos := _, after := _, guard := _ }) (by kernel_rfl) rfl (fun K hK => ?_)
    go_simp
    refine HCL.out.mono ?_
    rintro e w10 ⟨AC, cc, rfl, hoc, hb10⟩
    have HOC := Lib.hid hoc
    have HB10 := Lib.hid hb10
    clear hoc hb10
    refine hK.out _ _ (fun _ => by rw [HSD.out]; exact KEY.out _ HB10.out) (fun _ => ?_)
    clear hK K
    try simp only [Act.put, List.setIfInBounds_toArray, List.set_cons_zero, List.set_cons_succ]
    refine HeldB.takeP (i := 14) (oi := { dst := _, op := _, type := _, pos := _, after := _, guard := _ }) (v := ?v14) (by decide) rfl (by kernel_rfl) (by kernel_rfl) (by kernel_rfl) (fun _ _ _ h => h) (Or.inl ⟨by rfl, ?hy14⟩) (fun _ => by rw [HSD.out]; exact KEY.out _ HB10.out) ?rest14
    case hy14 => (intro w hSw; clear hSw; go_simp; (try with_reducible rfl))
    try simp only [Act.put, List.setIfInBounds_toArray, List.set_cons_zero, List.set_cons_succ]
    refine HeldB.takeP (i := 15) (oi := { dst := _, op := _, type := _, pos := _, after := _, guard := _ }) (v := ?v15) (by decide) rfl (by kernel_rfl) (by kernel_rfl) (by kernel_rfl) (fun _ _ _ h => h) (Or.inl ⟨by rfl, ?hy15⟩) (fun _ => by rw [HSD.out]; exact KEY.out _ HB10.out) ?rest15
    case hy15 => (intro w hSw; clear hSw; go_simp; (try with_reducible rfl))
    try simp only [Act.put, List.setIfInBounds_toArray, List.set_cons_zero, List.set_cons_succ]
    refine HeldB.one (i := 16) (o := { dst := _, op := _, type := _, pos := _, after := _, guard := _ }) (by kernel_rfl) rfl (fun K hK => ?_)
    go_simp
    obtain ⟨Wa, hWa⟩ : ∃ V, V = w10.alloc (.cells #[.string tk, .string ow, .int .u64 ((s0 : Int) + 1), .int .i64 kind, .slice AC args.length cc] 139) := ⟨_, rfl⟩
    rw [← hWa]
    have hba : Below w10.heap.size w10 Wa := hWa ▸ (Below.refl _ _).alloc (Nat.le_refl _) _
    have HBA := Lib.hid (HB10.out.trans (hba.mono HB10.out.size))
    have HOA := Lib.hid (own_below HOC.out hba)
    have HZ := Lib.hid (show Blk Wa w10.heap.size #[.string tk, .string ow, .int .u64 ((s0 : Int) + 1), .int .i64 kind, .slice AC args.length cc] 139 from hWa ▸ Blk.new _ _ _)
    have hsa : Wa.heap.size = w10.heap.size + 1 := by rw [hWa]; simp
    have hs10 := HB10.out.size
    clear hWa hba
    refine hK.out _ _ (fun _ => by rw [HSD.out]; exact KEY.out _ HBA.out) (fun _ => ?_)
    clear hK K
    try simp only [Act.put, List.setIfInBounds_toArray, List.set_cons_zero, List.set_cons_succ]
    have HNW := Lib.hid (show ∀ j u, (outCs tk ow (s0 + 1) kind AC args.length cc)[j]? = some u → Wa.cell? ((⟨w10.heap.size, 0, none⟩ : Addr).add j) = some u from World.news_of_block HZ.out)
    refine HeldB.one (i := 17) (o := { dst := _, op := _, type := _, pos := _, after := _, guard := _ }) (by kernel_rfl) rfl (fun K hK => ?_)
    refine step_append_lies _ (by rfl) (.tmp 69) (.tmp 81) 256 (by rfl) Wd.heap.size 139 i0 z0 5 72 Tryz.underlying256 hi hz0 hz1 hz2 hz3 (by decide) _ 0 [] (by rfl) (own_nil _ _ _ _) ⟨w10.heap.size, 0, none⟩ 1 1 (outCs tk ow (s0 + 1) kind AC args.length cc) (by rfl) rfl HNW.out (outCs_one _ _ _ _ _ _ _) (by decide) (by unfold maxLen; omega) (by omega) (by omega) Wa.heap.size (by omega) ?_
    intro g cap w18 ho18 hg18 hat18 hlt18
    have hg18' : Wa.grownBy w18 none := hg18
    have hat18' : g = Wa.heap.size := by have h : (Value.slice none 0 0).ownBlock = some g ∨ g = Wa.heap.size := hat18; exact h.elim (fun e => by cases e) id
    have hga : Chg (fun _ => False) Wa w18 := (Chg.refl (fun _ => False) Wa).grown hg18' (fun k hk => by cases hk)
    have hc18 : Chg (fun _ => False) Wd w18 := (Chg.of_below HBA.out _).trans hga (fun _ _ h => h)
    have HC18 := Lib.hid hc18
    have HOC18 := Lib.hid (hga.owns HOA.out (fun _ _ h => h))
    have HO18 := Lib.hid (show w18.ownsRow Wd.heap.size 139 5 (.slice (some ⟨g, 0, none⟩) 1 cap) 1 (outCs tk ow (s0 + 1) kind AC args.length cc) from ho18)
    have hbk18 := hc18.blk HBKD.out (fun h => h)
    have u1 : w18.cell? ⟨ob, 1, none⟩ = some (.slice none 0 0) := hbk18.cell 1
    have f1 : w18.frozen? ⟨ob, 1, none⟩ = false := hbk18.free 1
    have lo18 := hbk18.lt
    have HS18 := Lib.hid (show w18.cell? ⟨ob, 1, none⟩ = some (.slice none 0 0) ∧ w18.cell? ⟨ob, 0, none⟩ = some (.string ow) from ⟨u1, hbk18.cell 0⟩)
    have HG18 := Lib.hid (show Wd.heap.size < g from by rw [hat18', hsa]; omega)
    clear ho18 hg18 hat18 hlt18 hg18' hat18' hc18 hga hbk18 hsa hs10
    refine hK.out _ _ (fun _ => by rw [HSD.out]; exact HS18.out) (fun _ => ?_)
    clear hK K
    try simp only [Act.put, List.setIfInBounds_toArray, List.set_cons_zero, List.set_cons_succ]
    refine HeldB.takeP (i := 18) (oi := { dst := _, op := _, type := _, pos := _, after := _, guard := _ }) (v := ?v18) (by decide) rfl (by kernel_rfl) (by kernel_rfl) (by kernel_rfl) (fun _ _ _ h => h) (Or.inl ⟨by rfl, ?hy18⟩) (fun _ => by rw [HSD.out]; exact HS18.out) ?rest18
    case hy18 => (intro w hSw; clear hSw; go_simp; (try with_reducible rfl))
    try simp only [Act.put, List.setIfInBounds_toArray, List.set_cons_zero, List.set_cons_succ]
    refine HeldB.takeP (i := 19) (oi := { dst := _, op := _, type := _, pos := _, after := _, guard := _ }) (v := ?v19) (by decide) rfl (by kernel_rfl) (by kernel_rfl) (by kernel_rfl) (fun _ _ _ h => h) (Or.inl ⟨by rfl, ?hy19⟩) (fun _ => by rw [HSD.out]; exact HS18.out) ?rest19
    case hy19 => (intro w hSw; clear hSw; go_simp; (try with_reducible rfl))
    try simp only [Act.put, List.setIfInBounds_toArray, List.set_cons_zero, List.set_cons_succ]
    refine HeldB.one (i := 20) (o := { dst := _, op := _, type := _, pos := _, after := _, guard := _ }) (by kernel_rfl) rfl (fun K hK => ?_)
    go_simp
    refine hK.out _ _ (fun h => absurd h (by decide)) (fun _ => ?_)
    clear hK K
    refine HeldB.done (by kernel_rfl) ?_ _
    refine NoPanic.normal ?_
    have hc18 := HC18.out
    obtain ⟨wf, hwf⟩ : ∃ V, V = w18.setCell ⟨ob, 1, none⟩ (.slice (some ⟨g, 0, none⟩) 1 cap) := ⟨_, rfl⟩
    rw [← hwf]
    have hcw : Chg (fun j => j = ob) Wd wf := hwf ▸ (hc18.mono (S' := fun j => j = ob) (fun _ _ e => e.elim)).put ob 1 (.inl rfl) _
    have hbw : Blk wf ob #[.string ow, .slice (some ⟨g, 0, none⟩) 1 cap, .map (some mb)] 259 := by rw [hwf]; simpa using (hc18.blk HBKD.out (fun h => h)).set 1 (.slice (some ⟨g, 0, none⟩) 1 cap)
    have hgd := HG18.out
    have hown : wf.ownsRow Wd.heap.size 139 5 (.slice (some ⟨g, 0, none⟩) 1 cap) 1 (outCs tk ow (s0 + 1) kind AC args.length cc) := by rw [hwf]; exact own_setCell HO18.out (p := ⟨ob, 1, none⟩) (by simp [Value.ownBlock]; omega) _
    have hoc : wf.ownsRow Wd.heap.size 2 1 (.slice AC args.length cc) args.length (encs (Value.int .i64) args) := by
      rw [hwf]
      exact (((Chg.refl (fun j => j = ob) w18).put ob 1 (.inl rfl) _).owns HOC18.out (fun k hk e => by have := own_base HOC18.out k hk; omega))
    have HMF := Lib.hid (ownsMap_chg HMD.out hcw HXO.out.2.2)
    have HBW := Lib.hid hbw
    have HOWN := Lib.hid hown
    have HOC' := Lib.hid hoc
    have HCW := Lib.hid hcw
    clear hc18 hwf hcw hbw hown hoc
    go_wp2_with fail
    go_ret2
    obtain ⟨g', eg, _, hgl, hgc⟩ := own_cell HOWN.out (by omega)
    have eg' : g = g' := by simpa using eg
    subst eg'
    refine ⟨rfl, ⟨some ⟨g, 0, none⟩, cap, mb, ss.length + 1, .inl HXO.out.1, .inl HXO.out.2.1, HBW.out, fun _ => ⟨g, 0, rfl, ⟨.inr (by omega), by omega, by omega⟩, fun i e he => ?_⟩, own_le HOWN.out, HMF.out, by omega, nofun⟩, ?_⟩
    · have hi0 : i = 0 := by
        rcases Nat.eq_zero_or_pos i with q | q
        · exact q
        · rw [List.getElem?_eq_none (by simp; omega)] at he; cases he
      subst hi0
      obtain rfl : (tk, (⟨ow, s0 + 1, kind, args⟩ : Let)) = e := by simpa using he
      exact ⟨hgc 0 _ rfl, AC, cc, hgc 1 _ rfl, hgc 2 _ rfl, hgc 3 _ rfl, hgc 4 _ rfl, (ArgsAt.of_own HOC'.out).mono (fun j hj => ⟨.inr (by omega), by omega, by omega⟩)⟩
    · exact (HCD.out.mono (S' := X) (fun j _ e => e ▸ HXO.out.2.1)).trans HCW.out (fun j _ e => e ▸ HXO.out.1)
end Go.Proofs.YtlcdjgpblpodaaaGreatDoor

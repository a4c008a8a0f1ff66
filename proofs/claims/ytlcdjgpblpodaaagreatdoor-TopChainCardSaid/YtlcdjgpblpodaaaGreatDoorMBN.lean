/- OutD -/
import Derived.Test.YtlcdjgpblpodaaaGreatDoorMBM
namespace Go.Proofs.YtlcdjgpblpodaaaGreatDoor
open Go.RowKit Go.Maps Go.Proofs.YtlcdjgpblpodaaaGreatDoorW.PrintWords

/-- The cells of a letter on its way out. -/
def outCs (k ow : ByteArray) (s : Nat) (kd : Int) (A : Option Addr) (n c : Nat) : List Value := [.string k, .string ow, .int .u64 s, .int .i64 kd, .slice A n c]
theorem outCs_one (k ow : ByteArray) (s : Nat) (kd : Int) (A : Option Addr) (n c : Nat) : ∀ u ∈ outCs k ow s kd A n c, u.oneCell' = true := by simp [outCs, Value.oneCell']
theorem info139 : (Tryz.prog.info? 139).map (fun i => (i.zero.map (·.cells.size), i.size, i.bytes)) = some (some 5, 5, 72) := by kernel_rfl
/-- A new outbox, block by block. -/
theorem newout0 (s : ByteArray) (hs : KeyOk s) (w : World) : Calls Tryz.prog 156 #[.string s] w fun e w' => ∃ ob mb, e = .returned (.tuple #[.pointer (some ⟨ob, 0, none⟩), .int .i64 0]) ∧ w.heap.size ≤ mb ∧ mb < ob ∧ Blk w' ob #[.string s, .slice none 0 0, .map (some mb)] 259 ∧ w'.ownsMap Tryz.prog 9 rawR mb 0 (serD []) ∧ Below w.heap.size w w' := by
  have hmm := @run_makeMap Tryz.prog
  go_enter Tryz.func156, Tryz.ntmps156
  go_wp2_with fail
  refine (key_any s hs w).mono ?_
  rintro e w1 ⟨rfl, rfl⟩
  go_wp2_with fail
  go_ret2
  have hbl : Below w.heap.size w ((w.alloc (.map #[] 0)).alloc (.cells #[.string s, .slice none 0 0, .map (some w.heap.size)] 259)) := ((Below.refl _ _).alloc (Nat.le_refl _) _).alloc (by simp) _
  exact ⟨w.heap.size + 1, w.heap.size, rfl, Nat.le_refl _, by omega, Blk.newAt (by simp), (World.ownsMap_made w _ _ _).alloc _, hbl⟩
set_option maxRecDepth 100000 in
set_option maxHeartbeats 2000000 in
theorem outdec1 (A : Option Addr) (c0 : Nat) (ow k : ByteArray) (s : Nat) (L : List (ByteArray × Let)) (ho : Outb.Ok ⟨ow, [(k, s)], L⟩) (hL : L = [] ∨ ∃ l : Let, l.frm = ow ∧ l.serial = s ∧ L = [(k, l)]) (w : World) (hr : ReadsOf (Value.int .u8) (0 : Int) w A (encOutb ⟨ow, [(k, s)], L⟩).length (encOutb ⟨ow, [(k, s)], L⟩)) :
    Calls Tryz.prog 87 #[.slice A (encOutb ⟨ow, [(k, s)], L⟩).length c0] w fun e w' => ∃ ob, e = .returned (.tuple #[.pointer (some ⟨ob, 0, none⟩), .int .i64 0]) ∧ OutbAt true w' (fun k => w.heap.size ≤ k) ob ⟨ow, [(k, s)], L⟩ ∧ Below w.heap.size w w' := by
  have how : KeyOk ow := ho.owner
  obtain ⟨hk, hs1, hs64⟩ := ho.serials (k, s) (by simp)
  simp only at hk hs1 hs64
  have hlk : ∀ e ∈ L, e.2.Ok := fun e he => (ho.list e he).2
  have hlen := encOutb_length _ ho
  have hlc := ho.counts.2
  simp only [List.length_singleton] at hlen hlc
  have HN := Lib.hid (RP.new A c0 _ w hr (by omega) (encOutb_bytes _ ho))
  have HE : encOutb ⟨ow, [(k, s)], L⟩ = encText ow ++ (encNum 1 ++ (encText k ++ (encNum s ++ (encNum L.length ++ (encOuts L ++ []))))) := by simp [encOutb, encSerials]
  obtain ⟨N, hN⟩ : ∃ N, N = (encOutb ⟨ow, [(k, s)], L⟩).length := ⟨_, rfl⟩
  rw [← hN] at HN ⊢
  rw [HE] at HN
  have hos := how.2
  have hks := hk.2
  have hmm := @run_makeMap Tryz.prog
  have HOW := Lib.hid how
  have HKK := Lib.hid hk
  have HLK := Lib.hid hlk
  have HLS := Lib.hid hL
  have u1 : IntKind.u64.wrap (1 : Int) = 1 := by rw [IntKind.wrap_u64]; rfl
  have t0 : ((s : Int) == 0) = false := by rw [beq_eq_false_iff_ne]; omega
  clear hr hN hlen HE ho how hk hlk hL
  go_enter Tryz.func87, Tryz.ntmps87
  go_wp2_with fail
  refine HN.out.mono ?_
  rintro e w1 ⟨rb, rfl, hrb, hp, hb⟩
  have HB0 := Lib.hid hb
  have hrlt := hp.rlt
  have hs1' := hb.size
  obtain ⟨X, hX⟩ : ∃ X : Nat → Prop, X = fun k => w.heap.size ≤ k ∧ k < rb := ⟨_, rfl⟩
  rw [← hX] at hp
  have HP := Lib.hid hp
  clear hp hb hX HN
  go_wp2_with fail
  refine (RP.text ow (by omega) HP.out).mono ?_
  rintro e w2 ⟨rfl, h2, _⟩
  have HP2 := Lib.hid h2
  clear h2
  go_wp2_with fail
  refine (newout0 ow HOW.out w2).mono ?_
  rintro e w3 ⟨ob, mb, rfl, hmb1, hmb2, hbk, hmp, hb⟩
  have HP3 := Lib.hid (HP2.out.below hb)
  have hrlt2 := HP2.out.chg.size
  have hs23 := hb.size
  have HBK3 := Lib.hid hbk
  have HMB3 := Lib.hid hmp
  have HLO := Lib.hid (show w2.heap.size ≤ ob ∧ w2.heap.size ≤ mb ∧ ob ≠ mb from ⟨by omega, hmb1, by omega⟩)
  clear hb hbk hmp hmb1 hmb2
  go_wp2_with fail
  refine (RP.num 1 (by omega) HP3.out).mono ?_
  rintro e w4 ⟨rfl, h2, hc⟩
  have hlo := HLO.out
  have HP4 := Lib.hid h2
  have HBK4 := Lib.hid (hc.blk HBK3.out (fun e => by omega))
  have HMB4 := Lib.hid (ownsMap_chg HMB3.out hc (fun e => by omega))
  clear h2 hc
  go_wp2_with fail
  refine wp_loop_rounds 2 ?_
  rw [rounds_succ]
  go_wp2_with fail
  refine (RP.text k (by omega) HP4.out).mono ?_
  rintro e w5 ⟨rfl, h2, hc⟩
  have HP5 := Lib.hid h2
  have HBK5 := Lib.hid (hc.blk HBK4.out (fun e => by omega))
  have HMB5 := Lib.hid (ownsMap_chg HMB4.out hc (fun e => by omega))
  clear h2 hc
  go_wp2_with fail
  refine (RP.num s hs64 HP5.out).mono ?_
  rintro e w6 ⟨rfl, h2, hc⟩
  have HP6 := Lib.hid h2
  have HBK6 := Lib.hid (hc.blk HBK5.out (fun e => by omega))
  have HMB6 := Lib.hid (ownsMap_chg HMB5.out hc (fun e => by omega))
  clear h2 hc
  go_wp2_with fail
  refine (RP.bad HP6.out).mono ?_
  rintro e w7 ⟨rfl, rfl⟩
  go_wp2_with fail
  refine (key_any k HKK.out w6).mono ?_
  rintro e w7 ⟨rfl, rfl⟩
  have c2 : w6.cell? ⟨ob, 2, none⟩ = some (.map (some mb)) := HBK6.out.cell 2
  have hke : k.toList.isEmpty = false := str_ne (mt size_zero.1 (by have := HKK.out.1; omega))
  have hkl : Op.bytesLess k.toList [] = false := by
    cases hq : k.toList with
    | nil => rw [hq] at hke; cases hke
    | cons a r => rfl
  go_wp2_with (at_mapUpdate; refine wpList_own_put (by rfl) (.tmp 60) (.tmp 61) (.tmp 62) 257 (by rfl) HMB6.out string_law Tryz.underlying257 (by omega) (by rfl) (by rfl) (by rfl) (keyStr k (by omega)) ?_)
  intro w7 hm7 hc7
  rw [serD_put0] at hm7
  have HMB7 := Lib.hid hm7
  have HBK7 := Lib.hid (hc7.blk HBK6.out (fun e => by omega))
  have hs17 := HP6.out.chg.size
  have HP7 := Lib.hid (HP6.out.step (hc7.mono (fun j _ e => by omega)))
  clear hm7 hc7 c2 hke hkl t0
  go_wp2_with fail
  rw [rounds_succ]
  go_wp2_with fail
  refine (RP.num L.length (by omega) HP7.out).mono ?_
  rintro e w8 ⟨rfl, h2, hc⟩
  have HP8 := Lib.hid h2
  have HBK8 := Lib.hid (hc.blk HBK7.out (fun e => by omega))
  have HMB8 := Lib.hid (ownsMap_chg HMB7.out hc (fun e => by omega))
  clear h2 hc
  have hs18 := HP8.out.chg.size
  rcases HLS.out with rfl | ⟨l, hfr, hse, rfl⟩
  · have hp8 := HP8.out
    rw [show encOuts [] ++ [] = [] from rfl] at hp8
    obtain ⟨W9, hW9⟩ : ∃ W, W = w8.alloc (.map #[] 0) := ⟨_, rfl⟩
    have hb9 : Below w8.heap.size w8 W9 := hW9 ▸ (Below.refl _ _).alloc (Nat.le_refl _) _
    have HP9 := Lib.hid (hp8.below hb9)
    have HBK9 := Lib.hid (HBK8.out.below hb9)
    have HMB9 := Lib.hid (ownsMap_chg HMB8.out (Chg.of_below hb9 (fun _ => False)) (fun h => h))
    have c1 : W9.cell? ⟨ob, 1, none⟩ = some (.slice none 0 0) := HBK9.out.cell 1
    have HW9 := Lib.hid hW9
    clear hp8 hW9 hb9
    go_wp2_with fail
    refine wp_loop_rounds 1 ?_
    rw [rounds_succ]
    rw [← HW9.out]
    go_wp2_with fail
    refine wp_loop_rounds 1 ?_
    rw [rounds_succ]
    go_wp2_with fail
    refine (RP.end_ HP9.out).mono ?_
    rintro e w10 ⟨rfl, rfl⟩
    go_wp2_with fail
    go_ret2
    refine ⟨ob, rfl, ⟨none, 0, mb, 1, by show w.heap.size ≤ ob; omega, by show w.heap.size ≤ mb; omega, HBK9.out, fun h => absurd rfl h, Nat.le_refl _, HMB9.out, by omega, fun _ _ => ⟨rfl, rfl⟩⟩, HB0.out.trans (HP9.out.chg.below (fun k hk => by have : k = rb := hk; omega) hs1')⟩
  · have hl := HLK.out (k, l) (by simp)
    simp only at hl
    have hp8 := HP8.out
    rw [show encOuts [(k, l)] ++ [] = encText k ++ (encBytes (encLet l) ++ []) by simp [encOuts]] at hp8
    obtain ⟨mw, hmw⟩ : ∃ z, z = w8.heap.size := ⟨_, rfl⟩
    obtain ⟨W9, hW9⟩ : ∃ W, W = w8.alloc (.map #[] 0) := ⟨_, rfl⟩
    have hb9 : Below w8.heap.size w8 W9 := hW9 ▸ (Below.refl _ _).alloc (Nat.le_refl _) _
    have HP9 := Lib.hid (hp8.below hb9)
    have HBK9 := Lib.hid (HBK8.out.below hb9)
    have HMB9 := Lib.hid (ownsMap_chg HMB8.out (Chg.of_below hb9 (fun _ => False)) (fun h => h))
    have HMW9 := Lib.hid (show MapAt W9 9 mw 0 (fun _ => none) from by rw [hW9, hmw]; exact MapAt.new w8 9)
    have HW9 := Lib.hid hW9
    have HMWE := Lib.hid hmw
    have hlen := (encLet_length l hl).2
    have HOL := Lib.hid hl
    have hs9 := hb9.size
    have hmr : ¬ mw = rb := by omega
    have hml : mw < W9.heap.size := HMW9.out.lt
    have HFS := Lib.hid (show l.frm = ow ∧ l.serial = s from ⟨hfr, hse⟩)
    clear hp8 hW9 hb9 hmw hl hfr hse
    go_wp2_with fail
    refine wp_loop_rounds 2 ?_
    rw [rounds_succ]
    rw [← HW9.out, ← HMWE.out]
    go_wp2_with fail
    refine (RP.text k (by omega) HP9.out).mono ?_
    rintro e w10 ⟨rfl, h2, hc⟩
    have HP10 := Lib.hid h2
    have HBK10 := Lib.hid (hc.blk HBK9.out (fun e => by omega))
    have HMB10 := Lib.hid (ownsMap_chg HMB9.out hc (fun e => by omega))
    have HMW10 := Lib.hid (HMW9.out.chg hc hmr)
    have hs10 := hc.size
    clear h2 hc
    go_wp2_with fail
    refine (RP.bytes (encLet l) (by omega) HP10.out).mono ?_
    rintro e w11 ⟨rfl, h2, hc⟩
    have HP11 := Lib.hid h2
    have HBK11 := Lib.hid (hc.blk HBK10.out (fun e => by omega))
    have HMB11 := Lib.hid (ownsMap_chg HMB10.out hc (fun e => by omega))
    have HMW11 := Lib.hid (HMW10.out.chg hc hmr)
    have hs11 := hc.size
    have hcv := conv_bytes (encLet l) w11
    clear h2 hc
    go_wp2_with fail
    clear hcv
    obtain ⟨W12, hW12⟩ : ∃ W, W = Lib.bytesWorld w11 5 (strOfNums (encLet l)) := ⟨_, rfl⟩
    have R12 := Lib.hid (show ReadsOf (Value.int .u8) (0 : Int) W12 _ _ _ from hW12 ▸ bytesWorld_reads w11 (encLet l) (encLet_bytes l HOL.out) (by omega))
    have hb12 : Below w11.heap.size w11 W12 := hW12 ▸ bytesWorld_below w11 _
    rw [← hW12]
    clear hW12
    refine (letdec _ _ l HOL.out W12 R12.out).mono ?_
    rintro e w13 ⟨AA, ca, rfl, hA, hb13⟩
    obtain ⟨lb, hlb⟩ : ∃ z, z = w13.heap.size := ⟨_, rfl⟩
    obtain ⟨W14, hW14⟩ : ∃ W, W = w13.alloc (.cells #[.string l.frm, .int .u64 l.serial, .int .i64 l.kind, .slice AA l.args.length ca] 65) := ⟨_, rfl⟩
    have hb14 : Below w13.heap.size w13 W14 := hW14 ▸ (Below.refl _ _).alloc (Nat.le_refl _) _
    have hs12 := hb12.size
    have hs13 := hb13.size
    have hb1114 : Below w11.heap.size w11 W14 := (hb12.trans (hb13.mono hs12)).trans (hb14.mono (by omega))
    have hbd := hb1114.drew
    have HL14 := Lib.hid (show Blk W14.drew lb #[.string l.frm, .int .u64 l.serial, .int .i64 l.kind, .slice AA l.args.length ca] 65 from (show Blk W14 lb _ 65 from hW14 ▸ Blk.newAt hlb))
    have HA14 := Lib.hid (show ArgsAt W14.drew (fun j => W12.heap.size ≤ j) AA ca l.args from (hA.below hb14).below ((Below.refl W14.heap.size W14).drew))
    have HP14 := Lib.hid (HP11.out.below hbd)
    have HBK14 := Lib.hid (HBK11.out.below hbd)
    have HMB14 := Lib.hid (ownsMap_chg HMB11.out (Chg.of_below hbd (fun _ => False)) (fun h => h))
    have HMW14 := Lib.hid (HMW11.out.below hbd)
    have HW14 := Lib.hid hW14
    have HLB := Lib.hid hlb
    clear hA hb12 hb13 hb14 hW14 hlb hb1114 hbd
    go_upto_region 23 with fail
    rw [← HW14.out, ← HLB.out]
    have g0 : W14.drew.cell? ⟨ob, 0, none⟩ = some (.string ow) := HBK14.out.cell 0
    have g2 : W14.drew.cell? ⟨ob, 2, none⟩ = some (.map (some mb)) := HBK14.out.cell 2
    have l0 : W14.drew.cell? ⟨lb, 0, none⟩ = some (.string ow) := (HL14.out.cell 0).trans (by show some (Value.string l.frm) = _; rw [HFS.out.1])
    have hlk := (ser_map1 (by omega) HMB14.out).look string_law Tryz.underlying257 (fun w => Tryz.zeroValue32 w) (keyStr k (by omega))
    rw [putF_same] at hlk
    have lo1 := HBK14.out.lt
    have ll1 := HL14.out.lt
    have s0 : ((s : Int) == 0) = false := by rw [beq_eq_false_iff_ne]; omega
    go_region_held3 (fun w' => w' = W14.drew) (first | rfl)
      (first
        | (go_at_call 79
           refine (RP.bad HP14.out).mono ?_
           rintro e w15 ⟨rfl, rfl⟩))
    rename_i hHeld
    clear hHeld hlk g0 g2 l0 lo1 ll1 s0
    have hs14 := (HP14.out.chg).size
    go_wp2_with (first
      | (at_lookup; refine wpList_map_look (by rfl) (.tmp 105) (.tmp 106) 257 (by rfl) HMW14.out string_law Tryz.underlying257 (fun w => Tryz.zeroValue32 w) (by rfl) (by rfl) (keyStr k (by omega)) (r := .int .u64 0) (by rfl) ?_)
      | (at_mapUpdate; refine wpList_map_put (by rfl) (.tmp 105) (.tmp 106) (.tmp 108) 257 (by rfl) HMW14.out string_law Tryz.underlying257 (by omega) (by rfl) (by rfl) (by rfl) (keyStr k (by omega)) ?_))
    intro w16 hm16 hc16
    have hmo : mw ≠ ob ∧ mw ≠ mb ∧ mw ≠ lb := by
      have e1 := HMWE.out
      have e2 := HBK8.out.lt
      have e3 := HMB8.out.lt
      have e4 := HLB.out
      exact ⟨by omega, by omega, by omega⟩
    obtain ⟨Wd, hWd⟩ : ∃ V, V = w16.drew := ⟨_, rfl⟩
    have hbd : Below w16.heap.size w16 Wd := hWd ▸ (Below.refl w16.heap.size w16).drew
    have hcd : Chg (fun j => j = mw) W14.drew Wd := hc16.then_below hbd
    have HBKD := Lib.hid (hcd.blk HBK14.out (fun e => hmo.1 e.symm))
    have hld := hcd.blk HL14.out (fun e => hmo.2.2 e.symm)
    rw [HFS.out.1, HFS.out.2] at hld
    have HLD := Lib.hid hld
    have HMBD := Lib.hid (ownsMap_chg HMB14.out hcd (fun e => hmo.2.1 e.symm))
    have HMWD := Lib.hid (hm16.below hbd)
    have HPD := Lib.hid (HP14.out.step (hcd.mono (fun j _ e => by have := HMWE.out; omega)))
    have HAD := Lib.hid (HA14.out.chg hcd (fun j hj e => by omega))
    have hsd := hcd.size
    have KEY := Lib.hid (show ∀ w' : World, Below Wd.heap.size Wd w' → w'.cell? ⟨ob, 1, none⟩ = some (.slice none 0 0) ∧ w'.cell? ⟨lb, 0, none⟩ = some (.string ow) ∧ w'.cell? ⟨lb, 1, none⟩ = some (.int .u64 s) ∧ w'.cell? ⟨lb, 2, none⟩ = some (.int .i64 l.kind) ∧ w'.cell? ⟨lb, 3, none⟩ = some (.slice AA l.args.length ca) from fun w' hb =>
      ⟨(HBKD.out.below hb).cell 1, (HLD.out.below hb).cell 0, (HLD.out.below hb).cell 1, (HLD.out.below hb).cell 2, (HLD.out.below hb).cell 3⟩)
    obtain ⟨i0, z0, hi, hz0, hz1, hz2, hz3⟩ := info_big info139
    have hlod := HBKD.out.lt
    have hlld := HLD.out.lt
    have hmbd := HMBD.out.lt
    have hmwd := HMWD.out.lt
    have HMO := Lib.hid hmo
    clear hm16 hc16 hbd hcd hld hmo
    go_upto_region 26 with fail
    obtain ⟨S, hSD⟩ : ∃ S : World → Prop, S = fun w' => w'.cell? ⟨ob, 1, none⟩ = some (.slice none 0 0) ∧ w'.cell? ⟨lb, 0, none⟩ = some (.string ow) ∧ w'.cell? ⟨lb, 1, none⟩ = some (.int .u64 s) ∧ w'.cell? ⟨lb, 2, none⟩ = some (.int .i64 l.kind) ∧ w'.cell? ⟨lb, 3, none⟩ = some (.slice AA l.args.length ca) := ⟨_, rfl⟩
    have HSD := Lib.hid hSD
    clear hSD
    refine HeldB.region S 12 (by kernel_rfl) (by rw [HSD.out, ← hWd]; exact KEY.out _ (Below.refl _ _)) (fun _ => ?_)
    rw [← hWd]
    clear hWd
    refine HeldB.takeP (i := 0) (oi := { dst := _, op := _, type := _, pos := _, after := _, guard := _ }) (v := ?v0) (by decide) rfl (by kernel_rfl) (by kernel_rfl) (by kernel_rfl) (fun _ _ _ h => h) (Or.inl ⟨by rfl, ?hy0⟩) (fun _ => by rw [HSD.out]; exact KEY.out _ (Below.refl _ _)) ?rest0
    case hy0 => (intro w hSw; clear hSw; go_simp; (try with_reducible rfl))
    try simp only [Act.put, List.setIfInBounds_toArray, List.set_cons_zero, List.set_cons_succ]
    refine HeldB.takeP (i := 1) (oi := { dst := _, op := _, type := _, pos := _, after := _, guard := _ }) (v := ?v1) (by decide) rfl (by kernel_rfl) (by kernel_rfl) (by kernel_rfl) (fun _ _ _ h => h) (Or.inl ⟨by rfl, ?hy1⟩) (fun _ => by rw [HSD.out]; exact KEY.out _ (Below.refl _ _)) ?rest1
    case hy1 => (intro w hSw; clear hSw; go_simp; (try with_reducible rfl))
    try simp only [Act.put, List.setIfInBounds_toArray, List.set_cons_zero, List.set_cons_succ]
    refine HeldB.takeP (i := 2) (oi := { dst := _, op := _, type := _, pos := _, after := _, guard := _ }) (v := ?v2) (by decide) rfl (by kernel_rfl) (by kernel_rfl) (by kernel_rfl) (fun _ _ _ h => h) (Or.inl ⟨by rfl, ?hy2⟩) (fun _ => by rw [HSD.out]; exact KEY.out _ (Below.refl _ _)) ?rest2
    case hy2 => (intro w hSw; clear hSw; go_simp; (try with_reducible rfl))
    try simp only [Act.put, List.setIfInBounds_toArray, List.set_cons_zero, List.set_cons_succ]
    refine HeldB.takeP (i := 3) (oi := { dst := _, op := _, type := _, pos := _, after := _, guard := _ }) (v := ?v3) (by decide) rfl (by kernel_rfl) (by kernel_rfl) (by kernel_rfl) (fun _ _ _ h => h) (Or.inl ⟨by rfl, ?hy3⟩) (fun _ => by rw [HSD.out]; exact KEY.out _ (Below.refl _ _)) ?rest3
    case hy3 => (intro w hSw; clear hSw; go_simp; (try with_reducible rfl))
    try simp only [Act.put, List.setIfInBounds_toArray, List.set_cons_zero, List.set_cons_succ]
    refine HeldB.take (i := 4) (oi := { dst := _, op := _, type := _, pos := _, after := _, guard := _ }) (v := ?v4) rfl (by kernel_rfl) (by kernel_rfl) (by kernel_rfl) (by kernel_rfl) (by kernel_rfl) (fun _ _ _ h => h) (Or.inl ⟨by rfl, ?hy4⟩) (by rw [HSD.out]; exact KEY.out _ (Below.refl _ _)) ?rest4
    case hy4 => (intro w hSw; rw [HSD.out] at hSw; (try dsimp only at hSw); go_simp; (try with_reducible rfl))
    try simp only [Act.put, List.setIfInBounds_toArray, List.set_cons_zero, List.set_cons_succ]
    refine HeldB.takeP (i := 5) (oi := { dst := _, op := _, type := _, pos := _, after := _, guard := _ }) (v := ?v5) (by decide) rfl (by kernel_rfl) (by kernel_rfl) (by kernel_rfl) (fun _ _ _ h => h) (Or.inl ⟨by rfl, ?hy5⟩) (fun _ => by rw [HSD.out]; exact KEY.out _ (Below.refl _ _)) ?rest5
    case hy5 => (intro w hSw; clear hSw; go_simp; (try with_reducible rfl))
    try simp only [Act.put, List.setIfInBounds_toArray, List.set_cons_zero, List.set_cons_succ]
    refine HeldB.take (i := 6) (oi := { dst := _, op := _, type := _, pos := _, after := _, guard := _ }) (v := ?v6) rfl (by kernel_rfl) (by kernel_rfl) (by kernel_rfl) (by kernel_rfl) (by kernel_rfl) (fun _ _ _ h => h) (Or.inl ⟨by rfl, ?hy6⟩) (by rw [HSD.out]; exact KEY.out _ (Below.refl _ _)) ?rest6
    case hy6 => (intro w hSw; rw [HSD.out] at hSw; (try dsimp only at hSw); go_simp; (try with_reducible rfl))
    try simp only [Act.put, List.setIfInBounds_toArray, List.set_cons_zero, List.set_cons_succ]
    refine HeldB.takeP (i := 7) (oi := { dst := _, op := _, type := _, pos := _, after := _, guard := _ }) (v := ?v7) (by decide) rfl (by kernel_rfl) (by kernel_rfl) (by kernel_rfl) (fun _ _ _ h => h) (Or.inl ⟨by rfl, ?hy7⟩) (fun _ => by rw [HSD.out]; exact KEY.out _ (Below.refl _ _)) ?rest7
    case hy7 => (intro w hSw; clear hSw; go_simp; (try with_reducible rfl))
    try simp only [Act.put, List.setIfInBounds_toArray, List.set_cons_zero, List.set_cons_succ]
    refine HeldB.one (i := 8) (o := { dst := _, op := _, type := _, pos := _, after := _, guard := _ }) (by kernel_rfl) rfl (fun K hK => ?_)
    go_simp
    obtain ⟨Wa, hWa⟩ : ∃ V, V = Wd.alloc (.cells #[.string k, .string ow, .int .u64 s, .int .i64 l.kind, .slice AA l.args.length ca] 139) := ⟨_, rfl⟩
    rw [← hWa]
    have HBA := Lib.hid (show Below Wd.heap.size Wd Wa from hWa ▸ (Below.refl _ _).alloc (Nat.le_refl _) _)
    have HZ := Lib.hid (show Blk Wa Wd.heap.size #[.string k, .string ow, .int .u64 s, .int .i64 l.kind, .slice AA l.args.length ca] 139 from hWa ▸ Blk.new _ _ _)
    have hsa : Wa.heap.size = Wd.heap.size + 1 := by rw [hWa]; simp
    clear hWa
    refine hK.out _ _ (fun _ => by rw [HSD.out]; exact KEY.out _ HBA.out) (fun _ => ?_)
    clear hK K
    try simp only [Act.put, List.setIfInBounds_toArray, List.set_cons_zero, List.set_cons_succ]
    have HNW := Lib.hid (show ∀ j u, (outCs k ow s l.kind AA l.args.length ca)[j]? = some u → Wa.cell? ((⟨Wd.heap.size, 0, none⟩ : Addr).add j) = some u from World.news_of_block HZ.out)
    refine HeldB.one (i := 9) (o := { dst := _, op := _, type := _, pos := _, after := _, guard := _ }) (by kernel_rfl) rfl (fun K hK => ?_)
    refine step_append_lies _ (by rfl) (.tmp 113) (.tmp 117) 256 (by rfl) Wd.heap.size 139 i0 z0 5 72 Tryz.underlying256 hi hz0 hz1 hz2 hz3 (by decide) _ 0 [] (by rfl) (own_nil _ _ _ _) ⟨Wd.heap.size, 0, none⟩ 1 1 (outCs k ow s l.kind AA l.args.length ca) (by rfl) rfl HNW.out (outCs_one _ _ _ _ _ _ _) (by decide) (by unfold maxLen; omega) (by omega) (by omega) Wa.heap.size (by omega) ?_
    intro g cap w18 ho18 hg18 hat18 hlt18
    have hg18' : Wa.grownBy w18 none := hg18
    have hat18' : g = Wa.heap.size := by have h : (Value.slice none 0 0).ownBlock = some g ∨ g = Wa.heap.size := hat18; exact h.elim (fun e => by cases e) id
    have hc18 : Chg (fun _ => False) Wd w18 := (Chg.of_below HBA.out _).trans ((Chg.refl (fun _ => False) Wa).grown hg18' (fun k hk => by cases hk)) (fun _ _ h => h)
    have HC18 := Lib.hid hc18
    have HO18 := Lib.hid (show w18.ownsRow Wd.heap.size 139 5 (.slice (some ⟨g, 0, none⟩) 1 cap) 1 (outCs k ow s l.kind AA l.args.length ca) from ho18)
    have hbk18 := hc18.blk HBKD.out (fun h => h)
    have hl18 := hc18.blk HLD.out (fun h => h)
    have u1 : w18.cell? ⟨ob, 1, none⟩ = some (.slice none 0 0) := hbk18.cell 1
    have f1 : w18.frozen? ⟨ob, 1, none⟩ = false := hbk18.free 1
    have lo18 := hbk18.lt
    have HS18 := Lib.hid (show w18.cell? ⟨ob, 1, none⟩ = some (.slice none 0 0) ∧ w18.cell? ⟨lb, 0, none⟩ = some (.string ow) ∧ w18.cell? ⟨lb, 1, none⟩ = some (.int .u64 s) ∧ w18.cell? ⟨lb, 2, none⟩ = some (.int .i64 l.kind) ∧ w18.cell? ⟨lb, 3, none⟩ = some (.slice AA l.args.length ca) from ⟨u1, hl18.cell 0, hl18.cell 1, hl18.cell 2, hl18.cell 3⟩)
    have HG18 := Lib.hid (show Wd.heap.size < g from by rw [hat18', hsa]; omega)
    clear ho18 hg18 hat18 hlt18 hg18' hat18' hc18 hbk18 hl18 hsa
    refine hK.out _ _ (fun _ => by rw [HSD.out]; exact HS18.out) (fun _ => ?_)
    clear hK K
    try simp only [Act.put, List.setIfInBounds_toArray, List.set_cons_zero, List.set_cons_succ]
    refine HeldB.takeP (i := 10) (oi := { dst := _, op := _, type := _, pos := _, after := _, guard := _ }) (v := ?v10) (by decide) rfl (by kernel_rfl) (by kernel_rfl) (by kernel_rfl) (fun _ _ _ h => h) (Or.inl ⟨by rfl, ?hy10⟩) (fun _ => by rw [HSD.out]; exact HS18.out) ?rest10
    case hy10 => (intro w hSw; clear hSw; go_simp; (try with_reducible rfl))
    try simp only [Act.put, List.setIfInBounds_toArray, List.set_cons_zero, List.set_cons_succ]
    refine HeldB.takeP (i := 11) (oi := { dst := _, op := _, type := _, pos := _, after := _, guard := _ }) (v := ?v11) (by decide) rfl (by kernel_rfl) (by kernel_rfl) (by kernel_rfl) (fun _ _ _ h => h) (Or.inl ⟨by rfl, ?hy11⟩) (fun _ => by rw [HSD.out]; exact HS18.out) ?rest11
    case hy11 => (intro w hSw; clear hSw; go_simp; (try with_reducible rfl))
    try simp only [Act.put, List.setIfInBounds_toArray, List.set_cons_zero, List.set_cons_succ]
    refine HeldB.one (i := 12) (o := { dst := _, op := _, type := _, pos := _, after := _, guard := _ }) (by kernel_rfl) rfl (fun K hK => ?_)
    go_simp
    refine hK.out _ _ (fun h => absurd h (by decide)) (fun _ => ?_)
    clear hK K
    refine HeldB.done (by kernel_rfl) ?_ _
    refine NoPanic.normal ?_
    have hg := HG18.out
    have hc18 := HC18.out
    have ho18 := HO18.out
    obtain ⟨wc, hwc⟩ : ∃ V, V = w18.setCell ⟨ob, 1, none⟩ (.slice (some ⟨g, 0, none⟩) 1 cap) := ⟨_, rfl⟩
    rw [← hwc]
    have hcw : Chg (fun j => j = ob) Wd wc := hwc ▸ (hc18.mono (S' := fun j => j = ob) (fun _ _ e => e.elim)).put ob 1 (.inl rfl) _
    have hbw : Blk wc ob #[.string ow, .slice (some ⟨g, 0, none⟩) 1 cap, .map (some mb)] 259 := by rw [hwc]; simpa using (hc18.blk HBKD.out (fun h => h)).set 1 (.slice (some ⟨g, 0, none⟩) 1 cap)
    have how : wc.ownsRow Wd.heap.size 139 5 (.slice (some ⟨g, 0, none⟩) 1 cap) 1 (outCs k ow s l.kind AA l.args.length ca) := by rw [hwc]; exact own_setCell ho18 (p := ⟨ob, 1, none⟩) (by simp [Value.ownBlock]; omega) _
    have hcap : 1 ≤ cap := own_le how
    obtain ⟨g', eg, _, hgl, hgc⟩ := own_cell how (by omega)
    have eg' : g = g' := by simpa using eg
    subst eg'
    have y0 : wc.cell? ⟨g, 0, none⟩ = some (.string k) := hgc 0 _ rfl
    have y1 : wc.cell? ⟨g, 1, none⟩ = some (.string ow) := hgc 1 _ rfl
    have y2 : wc.cell? ⟨g, 2, none⟩ = some (.int .u64 s) := hgc 2 _ rfl
    have y3 : wc.cell? ⟨g, 3, none⟩ = some (.int .i64 l.kind) := hgc 3 _ rfl
    have y4 : wc.cell? ⟨g, 4, none⟩ = some (.slice AA l.args.length ca) := hgc 4 _ rfl
    have c1 : wc.cell? ⟨ob, 1, none⟩ = some (.slice (some ⟨g, 0, none⟩) 1 cap) := hbw.cell 1
    have HPC := Lib.hid (HPD.out.step (hcw.mono (fun j _ e => by have := HLO.out; omega)))
    have HMBC := Lib.hid (ownsMap_chg HMBD.out hcw (fun e => HLO.out.2.2 e.symm))
    have HMWC := Lib.hid (HMWD.out.chg hcw (fun e => HMO.out.1 e))
    have HAC := Lib.hid (HAD.out.chg hcw (fun j hj e => by have := HBK14.out.lt; have := HBK11.out.lt; omega))
    have HGC := Lib.hid hgc
    have HBW := Lib.hid hbw
    have hlow := hbw.lt
    have hsc := hcw.size
    clear hwc hcw hbw how eg hgc hc18 ho18
    go_wp2_with fail
    rw [rounds_succ]
    go_wp2_with fail
    refine wp_loop_rounds 2 ?_
    rw [rounds_succ]
    obtain ⟨xb, hxb⟩ : ∃ z, z = wc.heap.size := ⟨_, rfl⟩
    obtain ⟨W20, hW20⟩ : ∃ W, W = wc.alloc (.cells #[.string k, .string ow, .int .u64 s, .int .i64 l.kind, .slice AA l.args.length ca] 139) := ⟨_, rfl⟩
    go_upto_region 31 with fail
    rw [← hW20, ← hxb]
    have hb20 : Below wc.heap.size wc W20 := hW20 ▸ (Below.refl _ _).alloc (Nat.le_refl _) _
    have hx20 : Blk W20 xb #[.string k, .string ow, .int .u64 s, .int .i64 l.kind, .slice AA l.args.length ca] 139 := hW20 ▸ Blk.newAt hxb
    have hbd : Below wc.heap.size wc W20.drew := hb20.drew
    have HX20 := Lib.hid (show Blk W20.drew xb #[.string k, .string ow, .int .u64 s, .int .i64 l.kind, .slice AA l.args.length ca] 139 from hx20)
    have HB20 := Lib.hid (HBW.out.below hbd)
    have HPX := Lib.hid (HPC.out.below hbd)
    have HMB20 := Lib.hid (ownsMap_chg HMBC.out (Chg.of_below hbd (fun _ => False)) (fun h => h))
    have HMW20 := Lib.hid (HMWC.out.below hbd)
    have HBD20 := Lib.hid hbd
    have hl1 := (ser_map1 (by omega) HMB20.out).look string_law Tryz.underlying257 (fun w => Tryz.zeroValue32 w) (keyStr k (by omega))
    have hl2 := HMW20.out.look string_law Tryz.underlying257 (fun w => Tryz.zeroValue32 w) (keyStr k (by omega))
    rw [putF_same] at hl1 hl2
    have x0 : W20.drew.cell? ⟨xb, 0, none⟩ = some (.string k) := HX20.out.cell 0
    have x2 : W20.drew.cell? ⟨xb, 2, none⟩ = some (.int .u64 s) := HX20.out.cell 2
    have b2 : W20.drew.cell? ⟨ob, 2, none⟩ = some (.map (some mb)) := HB20.out.cell 2
    have s1 : decide ((s : Int) < 1) = false := decide_eq_false (by omega)
    have s2 : IntKind.u64.wrap (IntKind.u64.wrap ((s : Int) - 1) + 1) = (s : Int) := by rw [IntKind.wrap_u64, IntKind.wrap_u64]; unfold U64 at hs64; omega
    have lx := HX20.out.lt
    have lob := HB20.out.lt
    clear hb20 hx20 hbd hW20 hxb y0 y1 y2 y3 y4 c1
    go_region_held3 (fun w' => w' = W20.drew) (first | rfl) (first | fail)
    all_goals
      rename_i hHeld
      clear hHeld hl1 b2 s1 s2 x2
      go_wp2_with (at_mapUpdate; refine wpList_map_put (by rfl) (.tmp 162) (.tmp 164) (.tmp 166) 257 (by rfl) HMW20.out string_law Tryz.underlying257 (by omega) (by rfl) (by rfl) (by rfl) (keyStr k (by omega)) ?_)
      intro w21 hm21 hc21
      have HB21 := Lib.hid (hc21.blk HB20.out (fun e => HMO.out.1 e.symm))
      have HMB21 := Lib.hid (ownsMap_chg HMB20.out hc21 (fun e => HMO.out.2.1 e.symm))
      have HP21 := Lib.hid (HPX.out.step (hc21.mono (fun j _ e => by have := HMWE.out; omega)))
      have hcc : Chg (fun j => j = mw) wc w21 := (Chg.of_below HBD20.out _).trans hc21 (fun _ _ e => e)
      have HA21 := Lib.hid (HAC.out.chg hcc (fun j hj e => by have := HMWE.out; omega))
      have HG21 := Lib.hid (show ∀ (j : Nat) (u : Value), (outCs k ow s l.kind AA l.args.length ca)[j]? = some u → w21.cell? ⟨g, j, none⟩ = some u from fun j u hu => hcc.cell (a := ⟨g, j, none⟩) (show ¬ g = mw by have := hmwd; omega) (HGC.out j u hu))
      clear hm21 hc21 hcc hl2 x0
      go_wp2_with fail
      rw [rounds_succ]
      go_wp2_with fail
      refine (RP.end_ HP21.out).mono ?_
      rintro e w22 ⟨rfl, rfl⟩
      go_wp2_with fail
      go_ret2
      refine ⟨ob, rfl, ⟨some ⟨g, 0, none⟩, cap, mb, 1, by show w.heap.size ≤ ob; omega, by show w.heap.size ≤ mb; omega, HB21.out, fun _ => ⟨g, 0, rfl, ⟨by show w.heap.size ≤ g; omega, by show g ≠ ob; omega, by show g ≠ mb; omega⟩, fun i e he => ?_⟩, ?_, HMB21.out, by omega, fun _ e => by cases e⟩, HB0.out.trans (HP21.out.chg.below (fun k hk => by have : k = rb := hk; omega) hs1')⟩
      · have hi0 : i = 0 := by
          rcases Nat.eq_zero_or_pos i with q | q
          · exact q
          · rw [List.getElem?_eq_none (by simp; omega)] at he; cases he
        subst hi0
        obtain rfl : (k, l) = e := by simpa using he
        have q1 := HFS.out.1
        have q2 := HFS.out.2
        refine ⟨HG21.out 0 _ rfl, AA, ca, ?_, ?_, HG21.out 3 _ rfl, HG21.out 4 _ rfl, HA21.out.mono (fun j hj => ⟨by show w.heap.size ≤ j; omega, by show j ≠ ob; have := HBK11.out.lt; omega, by show j ≠ mb; have := HMB11.out.lt; omega⟩)⟩
        · rw [q1]; exact HG21.out 1 _ rfl
        · rw [q2]; exact HG21.out 2 _ rfl
      · exact hcap
theorem OutDec.ok (o : Outb) (h : o.Ok) : OutDec o := fun A c w hr => by
  obtain ⟨ow, ss, L⟩ := o
  rcases h.shape with ⟨h1, h2⟩ | ⟨k, s, h1, h2⟩
  · simp only at h1 h2
    subst h1 h2
    exact outdec0 A c ow h.owner w hr
  · simp only at h1 h2
    subst h1
    refine outdec1 A c ow k s L h ?_ w hr
    rcases h2 with h2 | ⟨l, q1, q2, h2⟩
    · exact .inl h2
    · exact .inr ⟨l, q1, q2, h2⟩
end Go.Proofs.YtlcdjgpblpodaaaGreatDoor

/- IpOut3, IpStep5, IpStep6, IpRun0 -/
import Derived.Test.YtlcdjgpblpodaaaGreatDoorMBA
import Derived.Test.YtlcdjgpblpodaaaGreatDoorMAE
import Derived.Test.YtlcdjgpblpodaaaGreatDoorMBF
import Derived.Test.YtlcdjgpblpodaaaGreatDoorMBG
import Derived.Test.YtlcdjgpblpodaaaGreatDoorMBB
namespace Go.Proofs.YtlcdjgpblpodaaaGreatDoor.Ip
open Go.RowKit Go.Proofs.YtlcdjgpblpodaaaGreatDoorW.PrintWords

def badT (now delay period : Int) : Bool := decide (delay < 0) || decide (wrap64 (now + delay) < 0) || decide (period < 1)
def remindF (n : ByteArray) (now kind delay period : Int) (s : St) : St :=
  if (refuseF (badT now delay period) s).failed = 0 then { refuseF (badT now delay period) s with tm := s.tm ++ [(n, false, wrap64 (now + delay), period, kind)] } else refuseF (badT now delay period) s

set_option maxRecDepth 100000 in
set_option maxHeartbeats 4000000 in
theorem out_remind (c : Env) (w0 wb w : World) (mb : Nat) (s : St) (k : Nat) (h : M c w0 wb mb s w) (hs : s.stack.length ≤ 16) (htm : s.tm.length ≤ 1000) (hk : k < c.NL.length) (hE : EnvOk c w0) :
    Calls Tryz.prog 232 #[mp mb, .agg #[.int .i64 19, .int .i64 (k : Int)]] w fun e w' => e = .returned (.tuple #[]) ∧ M c w0 wb mb (remindF (c.NL.getD k ⟨#[]⟩) c.now c.kind (twoX s) (twoY s) (twoF s)) w' := by
  have HT := Lib.hid (two_any c w0 (w.alloc (.cells #[.int .i64 19, .int .i64 (k : Int)] 51)) (w.alloc (.cells #[.int .i64 19, .int .i64 (k : Int)] 51)) mb s (h.alloc _).here hs)
  have HST := Lib.hid (h.alloc (.cells #[.int .i64 19, .int .i64 (k : Int)] 51)).stay
  have htm2 : (twoF s).tm.length ≤ 1000 := by unfold twoF; rw [popF_tm, popF_tm]; exact htm
  obtain ⟨x, hx⟩ : ∃ x, x = twoX s := ⟨_, rfl⟩
  obtain ⟨y, hy⟩ : ∃ y, y = twoY s := ⟨_, rfl⟩
  obtain ⟨s1, hs1⟩ : ∃ s1, s1 = twoF s := ⟨_, rfl⟩
  rw [← hx, ← hy, ← hs1] at HT
  rw [← hx, ← hy, ← hs1]
  rw [← hs1] at htm2
  have HE := Lib.hid hE
  have k0 : (0 : Int) ≤ (k : Int) := by omega
  have k1 : (k : Int) < (c.NL.length : Int) := by omega
  obtain ⟨D, hD⟩ : ∃ D, D = c.NL.getD k ⟨#[]⟩ := ⟨_, rfl⟩
  rw [← hD]
  have HD := Lib.hid hD
  clear hE hD
  obtain ⟨R, hR⟩ : ∃ r, r = remindF D c.now c.kind x y s1 := ⟨_, rfl⟩
  rw [← hR]
  clear h hx hy hs1 htm
  go_enter Tryz.func232, Tryz.ntmps232
  go_wp2_with fail
  refine HT.out.mono ?_
  rintro e w1 ⟨rfl, h1⟩
  obtain ⟨bk, hbkn⟩ : ∃ bk, bk = w.heap.size := ⟨_, rfl⟩
  have hbk := h1.stay.blk (Blk.new w _ 51) (by decide)
  rw [← hbkn] at hbk
  rw [← hbkn]
  have HBK := Lib.hid hbk
  have H1 := Lib.hid (h1.rebase HST.out)
  have q0 := hbk.cell 0
  have q1 := hbk.cell 1
  simp at q0 q1
  obtain ⟨sv, ev, sn, tv, hb, hr, hm⟩ := H1.out
  have c6 := hb.cell 6
  simp [cellsOf] at c6
  clear h1 hbk HT HST hb hr hbkn
  obtain ⟨B, hB⟩ : ∃ B, B = badT c.now x y := ⟨_, rfl⟩
  have hR2 : R = if (refuseF B s1).failed = 0 then { refuseF B s1 with tm := s1.tm ++ [(D, false, wrap64 (c.now + x), y, c.kind)] } else refuseF B s1 := by rw [hR, hB]; rfl
  clear hR
  obtain ⟨due, hdue⟩ : ∃ d, d = wrap64 (c.now + x) := ⟨_, rfl⟩
  rw [← hdue] at hR2
  have HDU := Lib.hid hdue
  go_upto_region 13 with fail
  rw [← hdue]
  have hbadT : B = (decide (x < 0) || decide (due < 0) || decide (y < 1)) := by rw [hB, hdue]; rfl
  have HBB := Lib.hid hbadT
  obtain ⟨r, hrr⟩ : ∃ r, r = refuseF B s1 := ⟨_, rfl⟩
  have hrtm : r.tm = s1.tm := by rw [hrr, refuseF_tm]
  rw [← hrr] at hR2
  have HR2 := Lib.hid hR2
  clear hdue hB hbadT hR2 c6
  go_cut [90] (fun v wx => v = .bool (decide (r.failed = 0)) ∧ M c w0 wb mb r wx ∧ Blk wx bk #[.int .i64 19, .int .i64 (k : Int)] 51)
  case first =>
    have HRf := Lib.hid (refuse_any c w0 w1 w1 mb s1 B H1.out.here)
    rw [← hrr] at HRf
    clear hrr hrtm
    have key : ∀ b : Bool, (!decide (¬ r.failed = 0)) = decide (r.failed = 0) := fun _ => by simp
    by_cases hx0 : x < 0
    · have d0 : decide (x < 0) = true := decide_eq_true hx0
      have hB1 : B = true := by rw [HBB.out, d0]; rfl
      rw [hB1] at HRf
      clear HBB hB1
      go_wp2_with fail
      refine HRf.out.mono ?_
      rintro e w2 ⟨rfl, h2⟩
      go_wp2_with fail
      go_meet
      exact ⟨by simp, h2.rebase H1.out.stay, h2.stay.blk HBK.out (by decide)⟩
    · have d0 : decide (x < 0) = false := decide_eq_false hx0
      by_cases hd0 : due < 0
      · have d1 : decide (due < 0) = true := decide_eq_true hd0
        have hB1 : B = true := by rw [HBB.out, d0, d1]; rfl
        rw [hB1] at HRf
        clear HBB hB1
        go_wp2_with fail
        refine HRf.out.mono ?_
        rintro e w2 ⟨rfl, h2⟩
        go_wp2_with fail
        go_meet
        exact ⟨by simp, h2.rebase H1.out.stay, h2.stay.blk HBK.out (by decide)⟩
      · have d1 : decide (due < 0) = false := decide_eq_false hd0
        by_cases hy0 : y < 1
        · have d2 : decide (y < 1) = true := decide_eq_true hy0
          have hB1 : B = true := by rw [HBB.out, d0, d1, d2]; rfl
          rw [hB1] at HRf
          clear HBB hB1
          go_wp2_with fail
          refine HRf.out.mono ?_
          rintro e w2 ⟨rfl, h2⟩
          go_wp2_with fail
          go_meet
          exact ⟨by simp, h2.rebase H1.out.stay, h2.stay.blk HBK.out (by decide)⟩
        · have d2 : decide (y < 1) = false := decide_eq_false hy0
          have hB1 : B = false := by rw [HBB.out, d0, d1, d2]; rfl
          rw [hB1] at HRf
          clear HBB hB1
          go_wp2_with fail
          refine HRf.out.mono ?_
          rintro e w2 ⟨rfl, h2⟩
          go_wp2_with fail
          go_meet
          exact ⟨by simp, h2.rebase H1.out.stay, h2.stay.blk HBK.out (by decide)⟩
  obtain ⟨rfl, h2, hbk2⟩ := hcut
  clear H1 HBK q0 q1 hrr
  by_cases hf : r.failed = 0
  · have hR3 := HR2.out
    rw [if_pos hf, ← hrtm] at hR3
    have hl2 : r.tm.length ≤ 1000 := by rw [hrtm]; exact htm2
    have HRR := Lib.hid hR3
    have t2 : decide (r.failed = 0) = true := decide_eq_true hf
    rw [t2]
    have q0 := hbk2.cell 0
    have q1 := hbk2.cell 1
    simp at q0 q1
    have hkl := hbk2.lt
    obtain ⟨sv2, ev2, sn2, tv2, hb, hr, hm2⟩ := h2
    obtain ⟨T, tc, rfl⟩ := own_slice hr.tm
    have c0 := hb.cell 0
    have c4 := hb.cell 4
    have c19 := hb.cell 19
    simp [cellsOf] at c0 c4 c19
    obtain ⟨nb, no, hnA, hnc⟩ := (HE.out.below hr.below).name hk
    rw [← HD.out] at hnc
    rw [hnA] at c0
    have hml := hb.lt
    have hnl := World.block_lt_of_cell? wc _ hnc
    simp at hnl
    have HBK2 := Lib.hid hbk2
    have HN := Lib.hid (show ∀ w3, Below w0.heap.size w0 w3 → w3.cell? ⟨nb, no + k, none⟩ = some (.string D) from fun w3 hB => by
      obtain ⟨nb', no', hA', hc'⟩ := (HE.out.below hB).name hk
      rw [hnA] at hA'
      cases hA'
      rw [HD.out]
      exact hc')
    have HB := Lib.hid hb
    have HR := Lib.hid hr
    clear hb hr hbk2 hR3 HR2 hrtm htm2 t2
    obtain ⟨S, hSD⟩ : ∃ S : World → Prop, S = fun w' => w'.cell? ⟨mb, 19, none⟩ = some (.slice T r.tm.length tc) ∧ w'.cell? ⟨mb, 0, none⟩ = some (.slice (some ⟨nb, no, none⟩) c.NL.length c.nC) ∧ w'.cell? ⟨nb, no + k, none⟩ = some (.string D) ∧ w'.cell? ⟨bk, 1, none⟩ = some (.int .i64 k) ∧ w'.cell? ⟨mb, 4, none⟩ = some (.int .i64 c.kind) := ⟨_, rfl⟩
    have HSD := Lib.hid hSD
    clear hSD
    go_wp2
    refine Held.region S 28 (by kernel_rfl) (by rw [HSD.out]; exact ⟨c19, c0, hnc, q1, c4⟩) (fun hHeld => ?_)
    refine Held.take (i := 0) (oi := { dst := _, op := _, type := _, pos := _, after := _, guard := _ }) (v := ?v0) rfl (by kernel_rfl) (by kernel_rfl) (by kernel_rfl) (by kernel_rfl) (fun _ _ _ h => h) (Or.inl ⟨by rfl, ?hy0⟩) (by assumption) ?rest0
    case hy0 => (intro w hSw; rw [HSD.out] at hSw; (try dsimp only at hSw); go_simp; (try with_reducible rfl))
    try simp only [Act.put, List.setIfInBounds_toArray, List.set_cons_zero, List.set_cons_succ]
    refine Held.take (i := 1) (oi := { dst := _, op := _, type := _, pos := _, after := _, guard := _ }) (v := ?v1) rfl (by kernel_rfl) (by kernel_rfl) (by kernel_rfl) (by kernel_rfl) (fun _ _ _ h => h) (Or.inl ⟨by rfl, ?hy1⟩) (by assumption) ?rest1
    case hy1 => (intro w hSw; rw [HSD.out] at hSw; (try dsimp only at hSw); go_simp; (try with_reducible rfl))
    try simp only [Act.put, List.setIfInBounds_toArray, List.set_cons_zero, List.set_cons_succ]
    refine Held.take (i := 2) (oi := { dst := _, op := _, type := _, pos := _, after := _, guard := _ }) (v := ?v2) rfl (by kernel_rfl) (by kernel_rfl) (by kernel_rfl) (by kernel_rfl) (fun _ _ _ h => h) (Or.inl ⟨by rfl, ?hy2⟩) (by assumption) ?rest2
    case hy2 => (intro w hSw; rw [HSD.out] at hSw; (try dsimp only at hSw); go_simp; (try with_reducible rfl))
    try simp only [Act.put, List.setIfInBounds_toArray, List.set_cons_zero, List.set_cons_succ]
    refine Held.take (i := 3) (oi := { dst := _, op := _, type := _, pos := _, after := _, guard := _ }) (v := ?v3) rfl (by kernel_rfl) (by kernel_rfl) (by kernel_rfl) (by kernel_rfl) (fun _ _ _ h => h) (Or.inl ⟨by rfl, ?hy3⟩) (by assumption) ?rest3
    case hy3 => (intro w hSw; rw [HSD.out] at hSw; (try dsimp only at hSw); go_simp; (try with_reducible rfl))
    try simp only [Act.put, List.setIfInBounds_toArray, List.set_cons_zero, List.set_cons_succ]
    refine Held.take (i := 4) (oi := { dst := _, op := _, type := _, pos := _, after := _, guard := _ }) (v := ?v4) rfl (by kernel_rfl) (by kernel_rfl) (by kernel_rfl) (by kernel_rfl) (fun _ _ _ h => h) (Or.inl ⟨by rfl, ?hy4⟩) (by assumption) ?rest4
    case hy4 => (intro w hSw; rw [HSD.out] at hSw; (try dsimp only at hSw); go_simp; (try with_reducible rfl))
    try simp only [Act.put, List.setIfInBounds_toArray, List.set_cons_zero, List.set_cons_succ]
    refine Held.take (i := 5) (oi := { dst := _, op := _, type := _, pos := _, after := _, guard := _ }) (v := ?v5) rfl (by kernel_rfl) (by kernel_rfl) (by kernel_rfl) (by kernel_rfl) (fun _ _ _ h => h) (Or.inl ⟨by rfl, ?hy5⟩) (by assumption) ?rest5
    case hy5 => (intro w hSw; rw [HSD.out] at hSw; (try dsimp only at hSw); go_simp; (try with_reducible rfl))
    try simp only [Act.put, List.setIfInBounds_toArray, List.set_cons_zero, List.set_cons_succ]
    refine Held.take (i := 6) (oi := { dst := _, op := _, type := _, pos := _, after := _, guard := _ }) (v := ?v6) rfl (by kernel_rfl) (by kernel_rfl) (by kernel_rfl) (by kernel_rfl) (fun _ _ _ h => h) (Or.inl ⟨by rfl, ?hy6⟩) (by assumption) ?rest6
    case hy6 => (intro w hSw; rw [HSD.out] at hSw; (try dsimp only at hSw); go_simp; (try with_reducible rfl))
    try simp only [Act.put, List.setIfInBounds_toArray, List.set_cons_zero, List.set_cons_succ]
    refine Held.take (i := 7) (oi := { dst := _, op := _, type := _, pos := _, after := _, guard := _ }) (v := ?v7) rfl (by kernel_rfl) (by kernel_rfl) (by kernel_rfl) (by kernel_rfl) (fun _ _ _ h => h) (Or.inl ⟨by rfl, ?hy7⟩) (by assumption) ?rest7
    case hy7 => (intro w hSw; rw [HSD.out] at hSw; (try dsimp only at hSw); go_simp; (try with_reducible rfl))
    try simp only [Act.put, List.setIfInBounds_toArray, List.set_cons_zero, List.set_cons_succ]
    refine Held.take (i := 8) (oi := { dst := _, op := _, type := _, pos := _, after := _, guard := _ }) (v := ?v8) rfl (by kernel_rfl) (by kernel_rfl) (by kernel_rfl) (by kernel_rfl) (fun _ _ _ h => h) (Or.inl ⟨by rfl, ?hy8⟩) (by assumption) ?rest8
    case hy8 => (intro w hSw; rw [HSD.out] at hSw; (try dsimp only at hSw); go_simp; (try with_reducible rfl))
    try simp only [Act.put, List.setIfInBounds_toArray, List.set_cons_zero, List.set_cons_succ]
    refine Held.take (i := 9) (oi := { dst := _, op := _, type := _, pos := _, after := _, guard := _ }) (v := ?v9) rfl (by kernel_rfl) (by kernel_rfl) (by kernel_rfl) (by kernel_rfl) (fun _ _ _ h => h) (Or.inl ⟨by rfl, ?hy9⟩) (by assumption) ?rest9
    case hy9 => (intro w hSw; rw [HSD.out] at hSw; (try dsimp only at hSw); go_simp; (try with_reducible rfl))
    try simp only [Act.put, List.setIfInBounds_toArray, List.set_cons_zero, List.set_cons_succ]
    refine Held.take (i := 10) (oi := { dst := _, op := _, type := _, pos := _, after := _, guard := _ }) (v := ?v10) rfl (by kernel_rfl) (by kernel_rfl) (by kernel_rfl) (by kernel_rfl) (fun _ _ _ h => h) (Or.inl ⟨by rfl, ?hy10⟩) (by assumption) ?rest10
    case hy10 => (intro w hSw; rw [HSD.out] at hSw; (try dsimp only at hSw); go_simp; (try with_reducible rfl))
    try simp only [Act.put, List.setIfInBounds_toArray, List.set_cons_zero, List.set_cons_succ]
    refine Held.take (i := 11) (oi := { dst := _, op := _, type := _, pos := _, after := _, guard := _ }) (v := ?v11) rfl (by kernel_rfl) (by kernel_rfl) (by kernel_rfl) (by kernel_rfl) (fun _ _ _ h => h) (Or.inl ⟨by rfl, ?hy11⟩) (by assumption) ?rest11
    case hy11 => (intro w hSw; rw [HSD.out] at hSw; (try dsimp only at hSw); go_simp; (try with_reducible rfl))
    try simp only [Act.put, List.setIfInBounds_toArray, List.set_cons_zero, List.set_cons_succ]
    refine Held.take (i := 12) (oi := { dst := _, op := _, type := _, pos := _, after := _, guard := _ }) (v := ?v12) rfl (by kernel_rfl) (by kernel_rfl) (by kernel_rfl) (by kernel_rfl) (fun _ _ _ h => h) (Or.inl ⟨by rfl, ?hy12⟩) (by assumption) ?rest12
    case hy12 => (intro w hSw; rw [HSD.out] at hSw; (try dsimp only at hSw); go_simp; (try with_reducible rfl))
    try simp only [Act.put, List.setIfInBounds_toArray, List.set_cons_zero, List.set_cons_succ]
    refine Held.take (i := 13) (oi := { dst := _, op := _, type := _, pos := _, after := _, guard := _ }) (v := ?v13) rfl (by kernel_rfl) (by kernel_rfl) (by kernel_rfl) (by kernel_rfl) (fun _ _ _ h => h) (Or.inl ⟨by rfl, ?hy13⟩) (by assumption) ?rest13
    case hy13 => (intro w hSw; rw [HSD.out] at hSw; (try dsimp only at hSw); go_simp; (try with_reducible rfl))
    try simp only [Act.put, List.setIfInBounds_toArray, List.set_cons_zero, List.set_cons_succ]
    refine Held.take (i := 14) (oi := { dst := _, op := _, type := _, pos := _, after := _, guard := _ }) (v := ?v14) rfl (by kernel_rfl) (by kernel_rfl) (by kernel_rfl) (by kernel_rfl) (fun _ _ _ h => h) (Or.inl ⟨by rfl, ?hy14⟩) (by assumption) ?rest14
    case hy14 => (intro w hSw; rw [HSD.out] at hSw; (try dsimp only at hSw); go_simp; (try with_reducible rfl))
    try simp only [Act.put, List.setIfInBounds_toArray, List.set_cons_zero, List.set_cons_succ]
    refine Held.take (i := 15) (oi := { dst := _, op := _, type := _, pos := _, after := _, guard := _ }) (v := ?v15) rfl (by kernel_rfl) (by kernel_rfl) (by kernel_rfl) (by kernel_rfl) (fun _ _ _ h => h) (Or.inl ⟨by rfl, ?hy15⟩) (by assumption) ?rest15
    case hy15 => (intro w hSw; rw [HSD.out] at hSw; (try dsimp only at hSw); go_simp; (try with_reducible rfl))
    try simp only [Act.put, List.setIfInBounds_toArray, List.set_cons_zero, List.set_cons_succ]
    refine Held.take (i := 16) (oi := { dst := _, op := _, type := _, pos := _, after := _, guard := _ }) (v := ?v16) rfl (by kernel_rfl) (by kernel_rfl) (by kernel_rfl) (by kernel_rfl) (fun _ _ _ h => h) (Or.inl ⟨by rfl, ?hy16⟩) (by assumption) ?rest16
    case hy16 => (intro w hSw; rw [HSD.out] at hSw; (try dsimp only at hSw); go_simp; (try with_reducible rfl))
    try simp only [Act.put, List.setIfInBounds_toArray, List.set_cons_zero, List.set_cons_succ]
    refine Held.take (i := 17) (oi := { dst := _, op := _, type := _, pos := _, after := _, guard := _ }) (v := ?v17) rfl (by kernel_rfl) (by kernel_rfl) (by kernel_rfl) (by kernel_rfl) (fun _ _ _ h => h) (Or.inl ⟨by rfl, ?hy17⟩) (by assumption) ?rest17
    case hy17 => (intro w hSw; rw [HSD.out] at hSw; (try dsimp only at hSw); go_simp; (try with_reducible rfl))
    try simp only [Act.put, List.setIfInBounds_toArray, List.set_cons_zero, List.set_cons_succ]
    refine Held.take (i := 18) (oi := { dst := _, op := _, type := _, pos := _, after := _, guard := _ }) (v := ?v18) rfl (by kernel_rfl) (by kernel_rfl) (by kernel_rfl) (by kernel_rfl) (fun _ _ _ h => h) (Or.inl ⟨by rfl, ?hy18⟩) (by assumption) ?rest18
    case hy18 => (intro w hSw; rw [HSD.out] at hSw; (try dsimp only at hSw); go_simp; (try with_reducible rfl))
    try simp only [Act.put, List.setIfInBounds_toArray, List.set_cons_zero, List.set_cons_succ]
    refine Held.take (i := 19) (oi := { dst := _, op := _, type := _, pos := _, after := _, guard := _ }) (v := ?v19) rfl (by kernel_rfl) (by kernel_rfl) (by kernel_rfl) (by kernel_rfl) (fun _ _ _ h => h) (Or.inl ⟨by rfl, ?hy19⟩) (by assumption) ?rest19
    case hy19 => (intro w hSw; rw [HSD.out] at hSw; (try dsimp only at hSw); go_simp; (try with_reducible rfl))
    try simp only [Act.put, List.setIfInBounds_toArray, List.set_cons_zero, List.set_cons_succ]
    refine Held.take (i := 20) (oi := { dst := _, op := _, type := _, pos := _, after := _, guard := _ }) (v := ?v20) rfl (by kernel_rfl) (by kernel_rfl) (by kernel_rfl) (by kernel_rfl) (fun _ _ _ h => h) (Or.inl ⟨by rfl, ?hy20⟩) (by assumption) ?rest20
    case hy20 => (intro w hSw; rw [HSD.out] at hSw; (try dsimp only at hSw); go_simp; (try with_reducible rfl))
    try simp only [Act.put, List.setIfInBounds_toArray, List.set_cons_zero, List.set_cons_succ]
    refine Held.take (i := 21) (oi := { dst := _, op := _, type := _, pos := _, after := _, guard := _ }) (v := ?v21) rfl (by kernel_rfl) (by kernel_rfl) (by kernel_rfl) (by kernel_rfl) (fun _ _ _ h => h) (Or.inl ⟨by rfl, ?hy21⟩) (by assumption) ?rest21
    case hy21 => (intro w hSw; rw [HSD.out] at hSw; (try dsimp only at hSw); go_simp; (try with_reducible rfl))
    try simp only [Act.put, List.setIfInBounds_toArray, List.set_cons_zero, List.set_cons_succ]
    refine Held.take (i := 22) (oi := { dst := _, op := _, type := _, pos := _, after := _, guard := _ }) (v := ?v22) rfl (by kernel_rfl) (by kernel_rfl) (by kernel_rfl) (by kernel_rfl) (fun _ _ _ h => h) (Or.inl ⟨by rfl, ?hy22⟩) (by assumption) ?rest22
    case hy22 => (intro w hSw; rw [HSD.out] at hSw; (try dsimp only at hSw); go_simp; (try with_reducible rfl))
    try simp only [Act.put, List.setIfInBounds_toArray, List.set_cons_zero, List.set_cons_succ]
    refine Held.one (i := 23) (o := { dst := _, op := _, type := _, pos := _, after := _, guard := _ }) (by kernel_rfl) rfl (fun K hK => ?_)
    go_simp
    refine hK.out _ _ (fun _ => ?hS23) (fun hHeld2 => ?_)
    case hS23 => (rw [HSD.out]; go_keep)
    clear hK K
    replace hHeld2 := hHeld2 (by decide)
    try simp only [Act.put, List.setIfInBounds_toArray, List.set_cons_zero, List.set_cons_succ]
    refine Held.one (i := 24) (o := { dst := _, op := _, type := _, pos := _, after := _, guard := _ }) (by kernel_rfl) rfl (fun K hK => ?_)
    refine step_append_cells (w0 := w0) w0.heap.size (by rfl) (.tmp 96) (.tmp 114) 33 125 _ 5 48 (by rfl) Tryz.underlying33 info58 rfl (by omega) (by omega) _ r.tm.length (encT r.tm) [.string D, .bool false, .int .i64 due, .int .i64 y, .int .i64 c.kind] (by rfl) (by rfl) rfl (by simp [Value.oneCell']) (HR.out.drewN _).tm (HR.out.drewN _).below (HR.out.drewN _).below.size (by omega) ?_
    intro v1 w3 ho hbl hg hat
    obtain ⟨V, vn, rfl⟩ := own_slice ho
    have HS := Lib.hid (M.remind D false due y c.kind (HB.out.drewN _) (HR.out.drewN _) hm2 ho hg hbl)
    have f19 := HS.out.1.free 19
    have e19 := HS.out.1.cell 19
    have e0 := HS.out.1.cell 0
    have e4 := HS.out.1.cell 4
    simp [cellsOf] at e19 e0 e4
    rw [hnA] at e0
    have hnc3 := HN.out w3 hbl
    have hq3 := blk_grown (HBK2.out.drewN _) (HR.out.drewN _).tm (by decide) hg
    have q3 := hq3.cell 1
    simp at q3
    clear ho hbl hg hat hq3 hHeld2
    refine hK.out _ _ (fun _ => ?hS24) (fun hHeld3 => ?_)
    case hS24 => (rw [HSD.out]; exact ⟨e19, e0, hnc3, q3, e4⟩)
    clear hK K
    replace hHeld3 := hHeld3 (by decide)
    try simp only [Act.put, List.setIfInBounds_toArray, List.set_cons_zero, List.set_cons_succ]
    refine Held.one (i := 25) (o := { dst := _, op := _, type := _, pos := _, after := _, guard := _ }) (by kernel_rfl) rfl (fun K hK => ?_)
    go_simp
    refine hK.out _ _ (fun _ => hHeld3) (fun _ => ?_)
    clear hK K
    try simp only [Act.put, List.setIfInBounds_toArray, List.set_cons_zero, List.set_cons_succ]
    refine Held.one (i := 26) (o := { dst := _, op := _, type := _, pos := _, after := _, guard := _ }) (by kernel_rfl) rfl (fun K hK => ?_)
    go_simp
    refine hK.out _ _ (fun _ => hHeld3) (fun _ => ?_)
    clear hK K
    try simp only [Act.put, List.setIfInBounds_toArray, List.set_cons_zero, List.set_cons_succ]
    refine Held.one (i := 27) (o := { dst := _, op := _, type := _, pos := _, after := _, guard := _ }) (by kernel_rfl) rfl (fun K hK => ?_)
    go_simp
    refine hK.out _ _ (fun _ => hHeld3) (fun _ => ?_)
    clear hK K
    try simp only [Act.put, List.setIfInBounds_toArray, List.set_cons_zero, List.set_cons_succ]
    refine Held.one (i := 28) (o := { dst := _, op := _, type := _, pos := _, after := _, guard := _ }) (by kernel_rfl) rfl (fun K hK => ?_)
    go_simp
    refine hK.out _ _ (fun h => absurd rfl h) (fun _ => ?_)
    clear hK K
    refine Held.done (by kernel_rfl) ?_ _
    refine NoPanic.normal ?_
    go_wp2
    go_end0
    rw [HRR.out]
    exact ⟨rfl, HS.out.2⟩
  · have hR3 := HR2.out
    rw [if_neg hf] at hR3
    have t2 : decide (r.failed = 0) = false := decide_eq_false hf
    rw [t2]
    have H2 := Lib.hid h2
    have HRR := Lib.hid hR3
    clear hR3 HR2 hrtm h2 t2
    go_wp2
    go_end0
    rw [HRR.out]
    exact ⟨rfl, H2.out⟩
end Go.Proofs.YtlcdjgpblpodaaaGreatDoor.Ip
namespace Go.Proofs.YtlcdjgpblpodaaaGreatDoor.Ip
open Go.RowKit Go.Proofs.YtlcdjgpblpodaaaGreatDoorW.PrintWords

set_option maxRecDepth 100000 in
set_option maxHeartbeats 1000000 in
theorem step_19 (c : Env) (w0 wb w : World) (mb : Nat) (s : St) (k : Nat) (hk : k < c.NL.length) (hE : EnvOk c w0) (htm : s.tm.length ≤ 1000) (h : M c w0 wb mb s w) (hs : s.stack.length ≤ 16) :
    Calls Tryz.prog 171 #[mp mb, ins 19 (k : Int)] w fun e w' => e = .returned (.tuple #[]) ∧ M c w0 wb mb (remindF (c.NL.getD k ⟨#[]⟩) c.now c.kind (twoX s) (twoY s) (twoF s)) w' := by
  obtain ⟨w1, bk, hw1, hbkn, h1, hbk⟩ := h.boxed 19 (k : Int)
  have q0 := hbk.cell 0
  have q1 := hbk.cell 1
  simp at q0 q1
  have HM := Lib.hid h1
  have HBK := Lib.hid hbk
  clear h h1 hbk
  go_enter Tryz.func171, Tryz.ntmps171
  go_upto_region 1 with fail
  rw [show w.alloc (.cells #[.int .i64 19, .int .i64 (k : Int)] 51) = w1 from hw1.symm, ← hbkn]
  clear hw1 hbkn
  go_wp2_with fail
  refine (out_remind c w0 wb w1 mb s k HM.out hs htm hk hE).mono ?_
  rintro e w2 ⟨rfl, h2⟩
  go_wp2
  go_end0
  exact ⟨rfl, h2⟩
end Go.Proofs.YtlcdjgpblpodaaaGreatDoor.Ip
namespace Go.Proofs.YtlcdjgpblpodaaaGreatDoor.Ip
open Go.RowKit Go.Proofs.YtlcdjgpblpodaaaGreatDoorW.PrintWords

/-- What the integer of an operation is, where the program is formed. -/
def argOk (nl cl : Nat) (op : Nat) (a : Int) : Prop := op < 24 ∧ (kindOf op = 1 ∨ (0 ≤ a ∧ a < belowV nl cl (kindOf op)))

def stepF (c : Env) (op : Nat) (a : Int) (s : St) : St :=
  match op with
  | 0 => { s with done := true }
  | 1 => pushF [a] s
  | 2 => pushF [s.reg a.toNat] s
  | 3 => if (popF s).failed = 0 then tellF a.toNat (popV s) (popF s) else popF s
  | 4 => pushF [c.AL.getD a.toNat 0] s
  | 5 => pushF [c.kind] s
  | 6 | 7 | 8 | 9 | 10 => pushF [reckonV op (twoX s) (twoY s)] (twoF s)
  | 11 => pushF [truth (popV s == 0)] (popF s)
  | 12 => pushF [popV s, popV s] (popF s)
  | 13 => popF s
  | 14 => pushF [twoY s, twoX s] (twoF s)
  | 15 => { s with at_ := a }
  | 16 => if popV s = 0 ∧ (popF s).failed = 0 then { popF s with at_ := a } else popF s
  | 17 => sendF (c.NL.getD a.toNat ⟨#[]⟩) (twoX s) (twoY s) (twoF s)
  | 18 => sendF c.frm (twoX s) (twoY s) (twoF s)
  | 19 => remindF (c.NL.getD a.toNat ⟨#[]⟩) c.now c.kind (twoX s) (twoY s) (twoF s)
  | 20 => { s with tm := s.tm ++ [(c.NL.getD a.toNat ⟨#[]⟩, true, 0, 0, 0)] }
  | 21 => refuseF true s
  | 22 => pushF [c.now] s
  | 23 => pushF [wrap64 c.serial] s
  | _ => s

/-- What the bounds are on a state. -/
structure Small (s : St) : Prop where
  stack : s.stack.length ≤ 16
  ev : s.ev.length ≤ 1000
  sent : s.sent.length ≤ 1000
  tm : s.tm.length ≤ 1000

theorem step_any (c : Env) (w0 wb w : World) (mb : Nat) (s : St) (op : Nat) (a : Int) (h : M c w0 wb mb s w) (hs : Small s) (hE : EnvOk c w0) (ha : argOk c.NL.length c.CL.length op a) :
    Calls Tryz.prog 171 #[mp mb, ins (op : Int) a] w fun e w' => e = .returned (.tuple #[]) ∧ M c w0 wb mb (stepF c op a s) w' := by
  obtain ⟨hop, hk⟩ := ha
  have toN : ∀ {a : Int}, 0 ≤ a → a = (a.toNat : Int) := fun h => by omega
  match op, hop with
  | 0, _ => exact step_0 c w0 wb w mb s a h
  | 1, _ => exact step_1 c w0 wb w mb s a h hs.stack
  | 2, _ =>
    simp [kindOf, belowV] at hk
    have e := toN hk.1
    have := step_2 c w0 wb w mb s a.toNat (by omega) h hs.stack
    rw [← e] at this
    exact this
  | 3, _ =>
    simp [kindOf, belowV] at hk
    have e := toN hk.1
    have := step_3 c w0 wb w mb s a.toNat (by omega) hs.ev h hs.stack
    rw [← e] at this
    exact this
  | 4, _ =>
    simp [kindOf, belowV] at hk
    have e := toN hk.1
    have := step_4 c w0 wb w mb s a.toNat hE h hs.stack
    rw [← e] at this
    exact this
  | 5, _ => exact step_5 c w0 wb w mb s a h hs.stack
  | 6, _ => exact step_6 c w0 wb w mb s a h hs.stack
  | 7, _ => exact step_7 c w0 wb w mb s a h hs.stack
  | 8, _ => exact step_8 c w0 wb w mb s a h hs.stack
  | 9, _ => exact step_9 c w0 wb w mb s a h hs.stack
  | 10, _ => exact step_10 c w0 wb w mb s a h hs.stack
  | 11, _ => exact step_11 c w0 wb w mb s a h hs.stack
  | 12, _ => exact step_12 c w0 wb w mb s a h hs.stack
  | 13, _ => exact step_13 c w0 wb w mb s a h hs.stack
  | 14, _ => exact step_14 c w0 wb w mb s a h hs.stack
  | 15, _ => exact step_15 c w0 wb w mb s a h
  | 16, _ => exact step_16 c w0 wb w mb s a h hs.stack
  | 17, _ =>
    simp [kindOf, belowV] at hk
    have e := toN hk.1
    have := step_17 c w0 wb w mb s a.toNat (by omega) hE hs.sent h hs.stack
    rw [← e] at this
    exact this
  | 18, _ => exact step_18 c w0 wb w mb s a hs.sent h hs.stack
  | 19, _ =>
    simp [kindOf, belowV] at hk
    have e := toN hk.1
    have := step_19 c w0 wb w mb s a.toNat (by omega) hE hs.tm h hs.stack
    rw [← e] at this
    exact this
  | 20, _ =>
    simp [kindOf, belowV] at hk
    have e := toN hk.1
    have := step_20 c w0 wb w mb s a.toNat (by omega) hE hs.tm h
    rw [← e] at this
    exact this
  | 21, _ => exact step_21 c w0 wb w mb s a h
  | 22, _ => exact step_22 c w0 wb w mb s a h hs.stack
  | 23, _ => exact step_23 c w0 wb w mb s a h hs.stack
  | n + 24, h => exact absurd h (by omega)
end Go.Proofs.YtlcdjgpblpodaaaGreatDoor.Ip
namespace Go.Proofs.YtlcdjgpblpodaaaGreatDoor.Ip
open Go.RowKit Go.Proofs.YtlcdjgpblpodaaaGreatDoorW.PrintWords

def st0 (reg : Nat → Int) : St := { at_ := 0, stack := [], reg := reg, ev := [], sent := [], tm := [], steps := 0, failed := 0, done := false }
/-- The loop: the error, and the state at the end. -/
def loopF (c : Env) : Nat → St → Int × St
  | 0, s => (11, s)
  | f + 1, s =>
    if s.done = true then (0, s) else
    if s.at_ < c.CL.length then
      if s.steps = 500 then (11, s) else
      let s1 := stepF c (c.CL.getD s.at_.toNat (0, 0)).1.toNat (c.CL.getD s.at_.toNat (0, 0)).2 { s with steps := s.steps + 1, at_ := s.at_ + 1 }
      if s1.failed = 0 then loopF c f s1 else (s1.failed, s1)
    else (0, s)
def okIn (c : Env) : Bool := formedB c.NL c.CL && (letterB c.frm c.AL.length && decide (0 ≤ c.now))
def runF (c : Env) (reg : Nat → Int) : Int × St := if okIn c = true then loopF c 501 (st0 reg) else (1, st0 reg)

/-- What a step leaves as it was, and how far it goes. -/
structure Near (s s' : St) : Prop where
  stack : s'.stack.length ≤ 16
  ev : s'.ev.length ≤ s.ev.length + 1
  sent : s'.sent.length ≤ s.sent.length + 1
  tm : s'.tm.length ≤ s.tm.length + 1
  steps : s'.steps = s.steps
  at_ : s'.at_ = s.at_ ∨ 0 ≤ s'.at_

theorem pushF_near (xs : List Int) (s : St) (h : s.stack.length ≤ 16) : Near s (pushF xs s) := by
  unfold pushF
  split
  · split
    · exact ⟨h, by simp, by simp, by simp, rfl, .inl rfl⟩
    · exact ⟨by simp only [List.length_append]; omega, by simp, by simp, by simp, rfl, .inl rfl⟩
  · exact ⟨h, by omega, by omega, by omega, rfl, .inl rfl⟩
theorem popF_near (s : St) (h : s.stack.length ≤ 16) : (popF s).stack.length ≤ 16 ∧ (popF s).ev = s.ev ∧ (popF s).sent = s.sent ∧ (popF s).tm = s.tm ∧ (popF s).steps = s.steps ∧ (popF s).at_ = s.at_ := by
  refine ⟨Nat.le_trans (popF_len s) h, popF_ev s, popF_sent s, popF_tm s, ?_, ?_⟩
  · unfold popF; split; · split <;> rfl
    · rfl
  · unfold popF; split; · split <;> rfl
    · rfl
theorem twoF_near (s : St) (h : s.stack.length ≤ 16) : (twoF s).stack.length ≤ 16 ∧ (twoF s).ev = s.ev ∧ (twoF s).sent = s.sent ∧ (twoF s).tm = s.tm ∧ (twoF s).steps = s.steps ∧ (twoF s).at_ = s.at_ := by
  obtain ⟨a1, a2, a3, a4, a5, a6⟩ := popF_near s h
  obtain ⟨b1, b2, b3, b4, b5, b6⟩ := popF_near (popF s) a1
  exact ⟨b1, b2.trans a2, b3.trans a3, b4.trans a4, b5.trans a5, b6.trans a6⟩
theorem Near.of_same {s s1 s' : St} (h : Near s1 s') (e : s1.ev = s.ev ∧ s1.sent = s.sent ∧ s1.tm = s.tm ∧ s1.steps = s.steps ∧ s1.at_ = s.at_) : Near s s' :=
  ⟨h.stack, e.1 ▸ h.ev, e.2.1 ▸ h.sent, e.2.2.1 ▸ h.tm, e.2.2.2.1 ▸ h.steps, e.2.2.2.2 ▸ h.at_⟩
theorem refuseF_near (b : Bool) (s : St) (h : s.stack.length ≤ 16) : Near s (refuseF b s) := by
  unfold refuseF
  split
  · exact ⟨h, by simp, by simp, by simp, rfl, .inl rfl⟩
  · exact ⟨h, by omega, by omega, by omega, rfl, .inl rfl⟩
theorem sendF_near (d : ByteArray) (x y : Int) (s : St) (h : s.stack.length ≤ 16) : Near s (sendF d x y s) := by
  have hr := refuseF_near (decide ((4 : Int) ≤ s.sent.length)) s h
  unfold sendF
  split
  · exact ⟨h, by omega, by omega, by omega, rfl, .inl rfl⟩
  · split
    · exact ⟨hr.stack, hr.ev, by simp, hr.tm, hr.steps, hr.at_⟩
    · exact hr
theorem remindF_near (n : ByteArray) (now kd x y : Int) (s : St) (h : s.stack.length ≤ 16) : Near s (remindF n now kd x y s) := by
  have hr := refuseF_near (badT now x y) s h
  unfold remindF
  split
  · exact ⟨hr.stack, hr.ev, hr.sent, by simp, hr.steps, hr.at_⟩
  · exact hr
theorem stepF_near (c : Env) (op : Nat) (a : Int) (s : St) (h : s.stack.length ≤ 16) (ha : argOk c.NL.length c.CL.length op a) : Near s (stepF c op a s) := by
  obtain ⟨hop, hk⟩ := ha
  obtain ⟨a1, a2, a3, a4, a5, a6⟩ := popF_near s h
  obtain ⟨b1, b2, b3, b4, b5, b6⟩ := twoF_near s h
  match op, hop with
  | 0, _ => exact ⟨h, by simp [stepF], by simp [stepF], by simp [stepF], rfl, .inl rfl⟩
  | 1, _ | 2, _ | 4, _ | 5, _ | 22, _ | 23, _ => exact pushF_near _ s h
  | 3, _ =>
    show Near s (if _ then _ else _)
    split
    · exact ⟨a1, by simp [tellF, setReg, a2], by simp [tellF, setReg, a3], by simp [tellF, setReg, a4], a5, .inl a6⟩
    · exact ⟨a1, by rw [a2]; omega, by rw [a3]; omega, by rw [a4]; omega, a5, .inl a6⟩
  | 6, _ | 7, _ | 8, _ | 9, _ | 10, _ | 14, _ => exact (pushF_near _ _ b1).of_same ⟨b2, b3, b4, b5, b6⟩
  | 11, _ | 12, _ => exact (pushF_near _ _ a1).of_same ⟨a2, a3, a4, a5, a6⟩
  | 13, _ => exact ⟨a1, (by show (popF s).ev.length ≤ _; rw [a2]; omega), (by show (popF s).sent.length ≤ _; rw [a3]; omega), (by show (popF s).tm.length ≤ _; rw [a4]; omega), a5, .inl a6⟩
  | 15, _ =>
    simp [kindOf, belowV] at hk
    exact ⟨h, by simp [stepF], by simp [stepF], by simp [stepF], rfl, .inr hk.1⟩
  | 16, _ =>
    simp [kindOf, belowV] at hk
    show Near s (if _ then _ else _)
    split
    · exact ⟨a1, by simp [a2], by simp [a3], by simp [a4], a5, .inr hk.1⟩
    · exact ⟨a1, by rw [a2]; omega, by rw [a3]; omega, by rw [a4]; omega, a5, .inl a6⟩
  | 17, _ | 18, _ => exact (sendF_near _ _ _ _ b1).of_same ⟨b2, b3, b4, b5, b6⟩
  | 19, _ => exact (remindF_near _ _ _ _ _ _ b1).of_same ⟨b2, b3, b4, b5, b6⟩
  | 20, _ => exact ⟨h, by simp [stepF], by simp [stepF], by simp [stepF], rfl, .inl rfl⟩
  | 21, _ => exact refuseF_near _ s h
  | n + 24, h => exact absurd h (by omega)
end Go.Proofs.YtlcdjgpblpodaaaGreatDoor.Ip

/- The reference's reminders; its step in plain Lean. -/
import Derived.Test.YtmmbigfeojfedaaQA
import Derived.Test.YtmmbigfeojfedaaHeld
import Derived.Test.YtmmbigfeojfedaaOut3
import Derived.Test.YtmmbigfeojfedaaStep6
import Derived.Test.YtmmbigfeojfedaaForm2
import Derived.Deep.RegionHeld3
namespace Go.Proofs.Ytmmbigfeojfedaa.R
open Go.RowKit Go.Proofs.YtmmbigfeojfedaaW.PrintWords

set_option maxRecDepth 100000 in
set_option maxHeartbeats 4000000 in
theorem out_20 (c : Env) (w0 wb w : World) (mb : Nat) (s : St) (k : Nat) (x y : Int) (hk : k < c.NL.length) (hE : EnvOk c w0) (h : M c w0 wb mb s w) (htm : s.tm.length ≤ 1000) :
    Calls Try.prog 42 #[mp mb, .agg #[.int .i64 20, .int .i64 (k : Int)], .int .i64 x, .int .i64 y] w fun e w' => e = .returned (.tuple #[.bool true, .int .i64 0]) ∧ M c w0 wb mb { s with tm := s.tm ++ [(c.NL.getD k ⟨#[]⟩, true, 0, 0, 0)] } w' := by
  obtain ⟨w1, bk, hw1, hbkn, h1, hbk⟩ := h.boxed 20 (k : Int)
  have HM := Lib.hid h1
  obtain ⟨sv, ev, sn, tv, hb, hr, hm⟩ := HM.out
  obtain ⟨A, n, rfl⟩ := own_slice hr.tm
  obtain ⟨nb, no, hnA, hnc⟩ := (hE.below HM.out.below).name hk
  obtain ⟨D, hD⟩ : ∃ D, D = c.NL.getD k ⟨#[]⟩ := ⟨_, rfl⟩
  rw [← hD] at hnc
  rw [← hD]
  have k0 : (0 : Int) ≤ (k : Int) := by omega
  have k1 : (k : Int) < (c.NL.length : Int) := by omega
  have e0 : w1.cell? ⟨mb, 0, none⟩ = some (.slice (some ⟨nb, no, none⟩) c.NL.length c.nC) := hnA ▸ hb.cell 0
  have e19 : w1.cell? ⟨mb, 19, none⟩ = some (.slice A s.tm.length n) := hb.cell 19
  have q0 : w1.cell? ⟨bk, 0, none⟩ = some (.int .i64 20) := hbk.cell 0
  have q1 : w1.cell? ⟨bk, 1, none⟩ = some (.int .i64 (k : Int)) := hbk.cell 1
  have HN := Lib.hid (show ∀ w3, Below w0.heap.size w0 w3 → w3.cell? ⟨nb, no + k, none⟩ = some (.string D) from fun w3 hB => by
    obtain ⟨nb', no', hA', hc'⟩ := (hE.below hB).name hk
    rw [hnA] at hA'
    cases hA'
    rw [hD]
    exact hc')
  have HNA := Lib.hid hnA
  have lu := hb.lt
  have lk := hbk.lt
  have ln := World.block_lt_of_cell? w1 _ hnc
  simp at ln
  have HB := Lib.hid hb
  have HR := Lib.hid hr
  have HK := Lib.hid hbk
  have HL := Lib.hid (show (s.tm.length + 1) * 48 ≤ 140737488355328 by omega)
  clear hb hr h h1 hbk hD hE hk hnA
  go_enter Try.func42, Try.ntmps42
  go_upto_region 1 with fail
  rw [show w.alloc (.cells #[.int .i64 20, .int .i64 (k : Int)] 76) = w1 from hw1.symm, ← hbkn]
  clear hw1 hbkn
  go_upto_region 18 with fail
  obtain ⟨S, hSD⟩ : ∃ S : World → Prop, S = fun w' => w'.cell? ⟨mb, 19, none⟩ = some (.slice A s.tm.length n) ∧ w'.cell? ⟨mb, 0, none⟩ = some (.slice (some ⟨nb, no, none⟩) c.NL.length c.nC) ∧ w'.cell? ⟨nb, no + k, none⟩ = some (.string D) ∧ w'.cell? ⟨bk, 1, none⟩ = some (.int .i64 (k : Int)) := ⟨_, rfl⟩
  have HSD := Lib.hid hSD
  clear hSD
  refine Held.region S 21 (by kernel_rfl) (by rw [HSD.out]; exact ⟨e19, e0, hnc, q1⟩) (fun hHeld => ?_)
  refine Held.take (i := 0) (oi := { dst := _, op := _, type := _, pos := _, after := _, guard := _ }) (v := ?v0) rfl (by kernel_rfl) (by kernel_rfl) (by kernel_rfl) (by kernel_rfl) (fun _ _ _ h => h) (Or.inl ⟨by rfl, ?hy0⟩) (by assumption) ?rest0
  case hy0 => (intro w hSw; rw [HSD.out] at hSw; (try dsimp only at hSw); obtain ⟨hs1, hs2, hs3, hs4⟩ := hSw; go_simp; (try with_reducible rfl))
  try simp only [Act.put, List.setIfInBounds_toArray, List.set_cons_zero, List.set_cons_succ]
  refine Held.take (i := 1) (oi := { dst := _, op := _, type := _, pos := _, after := _, guard := _ }) (v := ?v1) rfl (by kernel_rfl) (by kernel_rfl) (by kernel_rfl) (by kernel_rfl) (fun _ _ _ h => h) (Or.inl ⟨by rfl, ?hy1⟩) (by assumption) ?rest1
  case hy1 => (intro w hSw; rw [HSD.out] at hSw; (try dsimp only at hSw); obtain ⟨hs1, hs2, hs3, hs4⟩ := hSw; go_simp; (try with_reducible rfl))
  try simp only [Act.put, List.setIfInBounds_toArray, List.set_cons_zero, List.set_cons_succ]
  refine Held.take (i := 2) (oi := { dst := _, op := _, type := _, pos := _, after := _, guard := _ }) (v := ?v2) rfl (by kernel_rfl) (by kernel_rfl) (by kernel_rfl) (by kernel_rfl) (fun _ _ _ h => h) (Or.inl ⟨by rfl, ?hy2⟩) (by assumption) ?rest2
  case hy2 => (intro w hSw; rw [HSD.out] at hSw; (try dsimp only at hSw); obtain ⟨hs1, hs2, hs3, hs4⟩ := hSw; go_simp; (try with_reducible rfl))
  try simp only [Act.put, List.setIfInBounds_toArray, List.set_cons_zero, List.set_cons_succ]
  refine Held.take (i := 3) (oi := { dst := _, op := _, type := _, pos := _, after := _, guard := _ }) (v := ?v3) rfl (by kernel_rfl) (by kernel_rfl) (by kernel_rfl) (by kernel_rfl) (fun _ _ _ h => h) (Or.inl ⟨by rfl, ?hy3⟩) (by assumption) ?rest3
  case hy3 => (intro w hSw; rw [HSD.out] at hSw; (try dsimp only at hSw); obtain ⟨hs1, hs2, hs3, hs4⟩ := hSw; go_simp; (try with_reducible rfl))
  try simp only [Act.put, List.setIfInBounds_toArray, List.set_cons_zero, List.set_cons_succ]
  refine Held.take (i := 4) (oi := { dst := _, op := _, type := _, pos := _, after := _, guard := _ }) (v := ?v4) rfl (by kernel_rfl) (by kernel_rfl) (by kernel_rfl) (by kernel_rfl) (fun _ _ _ h => h) (Or.inl ⟨by rfl, ?hy4⟩) (by assumption) ?rest4
  case hy4 => (intro w hSw; rw [HSD.out] at hSw; (try dsimp only at hSw); obtain ⟨hs1, hs2, hs3, hs4⟩ := hSw; go_simp; (try with_reducible rfl))
  try simp only [Act.put, List.setIfInBounds_toArray, List.set_cons_zero, List.set_cons_succ]
  refine Held.take (i := 5) (oi := { dst := _, op := _, type := _, pos := _, after := _, guard := _ }) (v := ?v5) rfl (by kernel_rfl) (by kernel_rfl) (by kernel_rfl) (by kernel_rfl) (fun _ _ _ h => h) (Or.inl ⟨by rfl, ?hy5⟩) (by assumption) ?rest5
  case hy5 => (intro w hSw; rw [HSD.out] at hSw; (try dsimp only at hSw); obtain ⟨hs1, hs2, hs3, hs4⟩ := hSw; go_simp; (try with_reducible rfl))
  try simp only [Act.put, List.setIfInBounds_toArray, List.set_cons_zero, List.set_cons_succ]
  refine Held.take (i := 6) (oi := { dst := _, op := _, type := _, pos := _, after := _, guard := _ }) (v := ?v6) rfl (by kernel_rfl) (by kernel_rfl) (by kernel_rfl) (by kernel_rfl) (fun _ _ _ h => h) (Or.inl ⟨by rfl, ?hy6⟩) (by assumption) ?rest6
  case hy6 => (intro w hSw; rw [HSD.out] at hSw; (try dsimp only at hSw); obtain ⟨hs1, hs2, hs3, hs4⟩ := hSw; go_simp; (try with_reducible rfl))
  try simp only [Act.put, List.setIfInBounds_toArray, List.set_cons_zero, List.set_cons_succ]
  refine Held.take (i := 7) (oi := { dst := _, op := _, type := _, pos := _, after := _, guard := _ }) (v := ?v7) rfl (by kernel_rfl) (by kernel_rfl) (by kernel_rfl) (by kernel_rfl) (fun _ _ _ h => h) (Or.inl ⟨by rfl, ?hy7⟩) (by assumption) ?rest7
  case hy7 => (intro w hSw; rw [HSD.out] at hSw; (try dsimp only at hSw); obtain ⟨hs1, hs2, hs3, hs4⟩ := hSw; go_simp; (try with_reducible rfl))
  try simp only [Act.put, List.setIfInBounds_toArray, List.set_cons_zero, List.set_cons_succ]
  refine Held.take (i := 8) (oi := { dst := _, op := _, type := _, pos := _, after := _, guard := _ }) (v := ?v8) rfl (by kernel_rfl) (by kernel_rfl) (by kernel_rfl) (by kernel_rfl) (fun _ _ _ h => h) (Or.inl ⟨by rfl, ?hy8⟩) (by assumption) ?rest8
  case hy8 => (intro w hSw; rw [HSD.out] at hSw; (try dsimp only at hSw); obtain ⟨hs1, hs2, hs3, hs4⟩ := hSw; go_simp; (try with_reducible rfl))
  try simp only [Act.put, List.setIfInBounds_toArray, List.set_cons_zero, List.set_cons_succ]
  refine Held.take (i := 9) (oi := { dst := _, op := _, type := _, pos := _, after := _, guard := _ }) (v := ?v9) rfl (by kernel_rfl) (by kernel_rfl) (by kernel_rfl) (by kernel_rfl) (fun _ _ _ h => h) (Or.inl ⟨by rfl, ?hy9⟩) (by assumption) ?rest9
  case hy9 => (intro w hSw; rw [HSD.out] at hSw; (try dsimp only at hSw); obtain ⟨hs1, hs2, hs3, hs4⟩ := hSw; go_simp; (try with_reducible rfl))
  try simp only [Act.put, List.setIfInBounds_toArray, List.set_cons_zero, List.set_cons_succ]
  refine Held.take (i := 10) (oi := { dst := _, op := _, type := _, pos := _, after := _, guard := _ }) (v := ?v10) rfl (by kernel_rfl) (by kernel_rfl) (by kernel_rfl) (by kernel_rfl) (fun _ _ _ h => h) (Or.inl ⟨by rfl, ?hy10⟩) (by assumption) ?rest10
  case hy10 => (intro w hSw; rw [HSD.out] at hSw; (try dsimp only at hSw); obtain ⟨hs1, hs2, hs3, hs4⟩ := hSw; go_simp; (try with_reducible rfl))
  try simp only [Act.put, List.setIfInBounds_toArray, List.set_cons_zero, List.set_cons_succ]
  refine Held.take (i := 11) (oi := { dst := _, op := _, type := _, pos := _, after := _, guard := _ }) (v := ?v11) rfl (by kernel_rfl) (by kernel_rfl) (by kernel_rfl) (by kernel_rfl) (fun _ _ _ h => h) (Or.inl ⟨by rfl, ?hy11⟩) (by assumption) ?rest11
  case hy11 => (intro w hSw; rw [HSD.out] at hSw; (try dsimp only at hSw); obtain ⟨hs1, hs2, hs3, hs4⟩ := hSw; go_simp; (try with_reducible rfl))
  try simp only [Act.put, List.setIfInBounds_toArray, List.set_cons_zero, List.set_cons_succ]
  refine Held.take (i := 12) (oi := { dst := _, op := _, type := _, pos := _, after := _, guard := _ }) (v := ?v12) rfl (by kernel_rfl) (by kernel_rfl) (by kernel_rfl) (by kernel_rfl) (fun _ _ _ h => h) (Or.inl ⟨by rfl, ?hy12⟩) (by assumption) ?rest12
  case hy12 => (intro w hSw; rw [HSD.out] at hSw; (try dsimp only at hSw); obtain ⟨hs1, hs2, hs3, hs4⟩ := hSw; go_simp; (try with_reducible rfl))
  try simp only [Act.put, List.setIfInBounds_toArray, List.set_cons_zero, List.set_cons_succ]
  refine Held.take (i := 13) (oi := { dst := _, op := _, type := _, pos := _, after := _, guard := _ }) (v := ?v13) rfl (by kernel_rfl) (by kernel_rfl) (by kernel_rfl) (by kernel_rfl) (fun _ _ _ h => h) (Or.inl ⟨by rfl, ?hy13⟩) (by assumption) ?rest13
  case hy13 => (intro w hSw; rw [HSD.out] at hSw; (try dsimp only at hSw); obtain ⟨hs1, hs2, hs3, hs4⟩ := hSw; go_simp; (try with_reducible rfl))
  try simp only [Act.put, List.setIfInBounds_toArray, List.set_cons_zero, List.set_cons_succ]
  refine Held.take (i := 14) (oi := { dst := _, op := _, type := _, pos := _, after := _, guard := _ }) (v := ?v14) rfl (by kernel_rfl) (by kernel_rfl) (by kernel_rfl) (by kernel_rfl) (fun _ _ _ h => h) (Or.inl ⟨by rfl, ?hy14⟩) (by assumption) ?rest14
  case hy14 => (intro w hSw; rw [HSD.out] at hSw; (try dsimp only at hSw); obtain ⟨hs1, hs2, hs3, hs4⟩ := hSw; go_simp; (try with_reducible rfl))
  try simp only [Act.put, List.setIfInBounds_toArray, List.set_cons_zero, List.set_cons_succ]
  refine Held.take (i := 15) (oi := { dst := _, op := _, type := _, pos := _, after := _, guard := _ }) (v := ?v15) rfl (by kernel_rfl) (by kernel_rfl) (by kernel_rfl) (by kernel_rfl) (fun _ _ _ h => h) (Or.inl ⟨by rfl, ?hy15⟩) (by assumption) ?rest15
  case hy15 => (intro w hSw; rw [HSD.out] at hSw; (try dsimp only at hSw); obtain ⟨hs1, hs2, hs3, hs4⟩ := hSw; go_simp; (try with_reducible rfl))
  try simp only [Act.put, List.setIfInBounds_toArray, List.set_cons_zero, List.set_cons_succ]
  refine Held.one (i := 16) (o := { dst := _, op := _, type := _, pos := _, after := _, guard := _ }) (by kernel_rfl) rfl (fun K hK => ?_)
  go_simp
  refine hK.out _ _ (fun _ => ?hS16) (fun hHeld2 => ?_)
  case hS16 => (rw [HSD.out]; go_keep)
  clear hK K
  replace hHeld2 := hHeld2 (by decide)
  try simp only [Act.put, List.setIfInBounds_toArray, List.set_cons_zero, List.set_cons_succ]
  refine Held.one (i := 17) (o := { dst := _, op := _, type := _, pos := _, after := _, guard := _ }) (by kernel_rfl) rfl (fun K hK => ?_)
  refine step_append_cells (w0 := w0) w0.heap.size (by rfl) (.tmp 114) (.tmp 125) 47 105 _ 5 48 (by rfl) Try.underlying47 info105 rfl (by omega) (by omega) _ s.tm.length (encT s.tm) [.string D, .bool true, .int .i64 0, .int .i64 0, .int .i64 0] (by rfl) (by rfl) rfl (by simp [Value.oneCell']) (HR.out.drewN 1).tm (HR.out.drewN 1).below (HR.out.drewN 1).below.size HL.out ?_
  intro v1 w3 ho hbl hg hat
  obtain ⟨V, vn, rfl⟩ := own_slice ho
  have HS := Lib.hid (M.remind D true 0 0 0 (HB.out.drewN 1) (HR.out.drewN 1) hm ho hg hbl)
  have u3 : ∀ i, w3.cell? ⟨mb, i, none⟩ = _ := fun i => HS.out.1.cell i
  have f3 : ∀ i, w3.frozen? ⟨mb, i, none⟩ = false := fun i => HS.out.1.free i
  have l3 := HS.out.1.lt
  have g0 : w3.cell? ⟨mb, 0, none⟩ = some (.slice (some ⟨nb, no, none⟩) c.NL.length c.nC) := HNA.out ▸ HS.out.1.cell 0
  have g19 : w3.cell? ⟨mb, 19, none⟩ = some (.slice A s.tm.length n) := HS.out.1.cell 19
  have hnc3 := HN.out w3 hbl
  have q3 : w3.cell? ⟨bk, 1, none⟩ = some (.int .i64 (k : Int)) := (blk_grown (HK.out.drewN 1) (HR.out.drewN 1).tm (by decide) hg).cell 1
  clear ho hbl hg hat hHeld2 u3
  refine hK.out _ _ (fun _ => ?hS17) (fun hHeld3 => ?_)
  case hS17 => (rw [HSD.out]; exact ⟨g19, g0, hnc3, q3⟩)
  clear hK K
  replace hHeld3 := hHeld3 (by decide)
  try simp only [Act.put, List.setIfInBounds_toArray, List.set_cons_zero, List.set_cons_succ]
  refine Held.one (i := 18) (o := { dst := _, op := _, type := _, pos := _, after := _, guard := _ }) (by kernel_rfl) rfl (fun K hK => ?_)
  go_simp
  refine hK.out _ _ (fun _ => hHeld3) (fun _ => ?_)
  clear hK K
  try simp only [Act.put, List.setIfInBounds_toArray, List.set_cons_zero, List.set_cons_succ]
  refine Held.one (i := 19) (o := { dst := _, op := _, type := _, pos := _, after := _, guard := _ }) (by kernel_rfl) rfl (fun K hK => ?_)
  go_simp
  refine hK.out _ _ (fun _ => hHeld3) (fun _ => ?_)
  clear hK K
  try simp only [Act.put, List.setIfInBounds_toArray, List.set_cons_zero, List.set_cons_succ]
  refine Held.one (i := 20) (o := { dst := _, op := _, type := _, pos := _, after := _, guard := _ }) (by kernel_rfl) rfl (fun K hK => ?_)
  go_simp
  refine hK.out _ _ (fun _ => hHeld3) (fun _ => ?_)
  clear hK K
  try simp only [Act.put, List.setIfInBounds_toArray, List.set_cons_zero, List.set_cons_succ]
  refine Held.one (i := 21) (o := { dst := _, op := _, type := _, pos := _, after := _, guard := _ }) (by kernel_rfl) rfl (fun K hK => ?_)
  go_simp
  refine hK.out _ _ (fun h => absurd rfl h) (fun _ => ?_)
  clear hK K
  refine Held.done (by kernel_rfl) ?_ _
  refine NoPanic.normal ?_
  go_wp2
  refine bodyPost_ret (results_tmp2 rfl _ _ _) rfl ?_
  exact ⟨rfl, HS.out.2⟩
end Go.Proofs.Ytmmbigfeojfedaa.R
namespace Go.Proofs.Ytmmbigfeojfedaa.R
open Go.RowKit Go.Proofs.YtmmbigfeojfedaaW.PrintWords

/-- What a step that sets a reminder answers. -/
def remG (n : ByteArray) (now kd x y : Int) (s : St) : Bool × Int × St :=
  if badT now x y = true then (false, 12, s) else (true, 0, { s with tm := s.tm ++ [(n, false, wrap64 (now + x), y, kd)] })

set_option maxRecDepth 100000 in
set_option maxHeartbeats 4000000 in
theorem out_19 (c : Env) (w0 wb w : World) (mb : Nat) (s : St) (k : Nat) (x y : Int) (hk : k < c.NL.length) (hE : EnvOk c w0) (h : M c w0 wb mb s w) (htm : s.tm.length ≤ 1000) (hn0 : 0 ≤ c.now) (hn1 : c.now ≤ 9223372036854775807) (hx1 : x ≤ 9223372036854775807) :
    Calls Try.prog 42 #[mp mb, .agg #[.int .i64 19, .int .i64 (k : Int)], .int .i64 x, .int .i64 y] w fun e w' => e = .returned (.tuple #[.bool (remG (c.NL.getD k ⟨#[]⟩) c.now c.kind x y s).1, .int .i64 (remG (c.NL.getD k ⟨#[]⟩) c.now c.kind x y s).2.1]) ∧ M c w0 wb mb (remG (c.NL.getD k ⟨#[]⟩) c.now c.kind x y s).2.2 w' := by
  obtain ⟨w1, bk, hw1, hbkn, h1, hbk⟩ := h.boxed 19 (k : Int)
  have HM := Lib.hid h1
  obtain ⟨sv, ev, sn, tv, hb, hr, hm⟩ := HM.out
  obtain ⟨A, n, rfl⟩ := own_slice hr.tm
  obtain ⟨nb, no, hnA, hnc⟩ := (hE.below HM.out.below).name hk
  obtain ⟨D, hD⟩ : ∃ D, D = c.NL.getD k ⟨#[]⟩ := ⟨_, rfl⟩
  rw [← hD] at hnc
  rw [← hD]
  have k0 : (0 : Int) ≤ (k : Int) := by omega
  have k1 : (k : Int) < (c.NL.length : Int) := by omega
  have e0 : w1.cell? ⟨mb, 0, none⟩ = some (.slice (some ⟨nb, no, none⟩) c.NL.length c.nC) := hnA ▸ hb.cell 0
  have e4 : w1.cell? ⟨mb, 4, none⟩ = some (.int .i64 c.kind) := hb.cell 4
  have e6 : w1.cell? ⟨mb, 6, none⟩ = some (.int .i64 c.now) := hb.cell 6
  have e19 : w1.cell? ⟨mb, 19, none⟩ = some (.slice A s.tm.length n) := hb.cell 19
  have q0 : w1.cell? ⟨bk, 0, none⟩ = some (.int .i64 19) := hbk.cell 0
  have q1 : w1.cell? ⟨bk, 1, none⟩ = some (.int .i64 (k : Int)) := hbk.cell 1
  have HN := Lib.hid (show ∀ w3, Below w0.heap.size w0 w3 → w3.cell? ⟨nb, no + k, none⟩ = some (.string D) from fun w3 hB => by
    obtain ⟨nb', no', hA', hc'⟩ := (hE.below hB).name hk
    rw [hnA] at hA'
    cases hA'
    rw [hD]
    exact hc')
  have HNA := Lib.hid hnA
  have lu := hb.lt
  have lk := hbk.lt
  have ln := World.block_lt_of_cell? w1 _ hnc
  simp at ln
  have HB := Lib.hid hb
  have HR := Lib.hid hr
  have HK := Lib.hid hbk
  have HL := Lib.hid (show (s.tm.length + 1) * 48 ≤ 140737488355328 by omega)
  obtain ⟨R, hRR⟩ : ∃ R, R = remG D c.now c.kind x y s := ⟨_, rfl⟩
  rw [← hRR]
  obtain ⟨due, hdue⟩ : ∃ d, d = wrap64 (c.now + x) := ⟨_, rfl⟩
  have HR1 := Lib.hid (show badT c.now x y = true → R = (false, 12, s) from fun h => by rw [hRR, remG, if_pos h])
  have HR2 := Lib.hid (show ¬ badT c.now x y = true → R = (true, 0, { s with tm := s.tm ++ [(D, false, due, y, c.kind)] }) from fun h => by rw [hRR, remG, if_neg h, hdue])
  have HDU := Lib.hid hdue
  clear hb hr h h1 hbk hD hE hk hnA hRR hdue
  go_enter Try.func42, Try.ntmps42
  go_upto_region 1 with fail
  rw [show w.alloc (.cells #[.int .i64 19, .int .i64 (k : Int)] 76) = w1 from hw1.symm, ← hbkn]
  clear hw1 hbkn
  by_cases hx0 : x < 0
  · have d0 : decide (x < 0) = true := decide_eq_true hx0
    have HE2 := Lib.hid (HR1.out (by simp [badT, hx0]))
    go_wp2
    refine bodyPost_ret (results_tmp2 rfl _ _ _) rfl ?_
    rw [HE2.out]
    exact ⟨rfl, HM.out⟩
  have d0 : decide (x < 0) = false := decide_eq_false hx0
  obtain ⟨u, hu⟩ : ∃ u, u = c.now + x := ⟨_, rfl⟩
  have u0 : 0 ≤ u := by omega
  have u1 : u ≤ 18446744073709551615 := by omega
  go_upto_region 14 with fail
  rw [← hu]
  have HU := Lib.hid hu
  clear e6 hn0 hn1 hx1 hu
  by_cases hu2 : 9223372036854775808 ≤ u
  · have d1 : decide (9223372036854775808 ≤ u) = true := decide_eq_true hu2
    have HE2 := Lib.hid (HR1.out (by simp only [badT, d0, Bool.false_or, Bool.or_eq_true, decide_eq_true_eq]; left; rw [← HU.out]; unfold wrap64; omega))
    go_wp2
    refine bodyPost_ret (results_tmp2 rfl _ _ _) rfl ?_
    rw [HE2.out]
    exact ⟨rfl, HM.out⟩
  have d1 : decide (9223372036854775808 ≤ u) = false := decide_eq_false hu2
  by_cases hy1 : y < 1
  · have d2 : decide (y < 1) = true := decide_eq_true hy1
    have HE2 := Lib.hid (HR1.out (by simp [badT, d2]))
    go_wp2
    refine bodyPost_ret (results_tmp2 rfl _ _ _) rfl ?_
    rw [HE2.out]
    exact ⟨rfl, HM.out⟩
  have d2 : decide (y < 1) = false := decide_eq_false hy1
  obtain rfl : due = u := by rw [HDU.out, ← HU.out]; unfold wrap64; omega
  have HE2 := Lib.hid (HR2.out (by simp only [badT, d0, d2, ← HDU.out, Bool.false_or, Bool.or_false, decide_eq_true_eq]; omega))
  have u2 : due ≤ 9223372036854775807 := by omega
  have kw : IntKind.i64.wrap due = due := by rw [IntKind.wrap_i64]; omega
  clear hu2 u1
  go_upto_region 16 with fail
  clear d0 d1 d2 hy1 hx0
  obtain ⟨S, hSD⟩ : ∃ S : World → Prop, S = fun w' => w'.cell? ⟨mb, 19, none⟩ = some (.slice A s.tm.length n) ∧ w'.cell? ⟨mb, 0, none⟩ = some (.slice (some ⟨nb, no, none⟩) c.NL.length c.nC) ∧ w'.cell? ⟨nb, no + k, none⟩ = some (.string D) ∧ w'.cell? ⟨bk, 1, none⟩ = some (.int .i64 (k : Int)) ∧ w'.cell? ⟨mb, 4, none⟩ = some (.int .i64 c.kind) := ⟨_, rfl⟩
  have HSD := Lib.hid hSD
  clear hSD
  refine Held.region S 29 (by kernel_rfl) (by rw [HSD.out]; exact ⟨e19, e0, hnc, q1, e4⟩) (fun hHeld => ?_)
  refine Held.take (i := 0) (oi := { dst := _, op := _, type := _, pos := _, after := _, guard := _ }) (v := ?v0) rfl (by kernel_rfl) (by kernel_rfl) (by kernel_rfl) (by kernel_rfl) (fun _ _ _ h => h) (Or.inl ⟨by rfl, ?hy0⟩) (by assumption) ?rest0
  case hy0 => (intro w hSw; rw [HSD.out] at hSw; (try dsimp only at hSw); obtain ⟨hs1, hs2, hs3, hs4, hs5⟩ := hSw; go_simp; (try with_reducible rfl))
  try simp only [Act.put, List.setIfInBounds_toArray, List.set_cons_zero, List.set_cons_succ]
  refine Held.take (i := 1) (oi := { dst := _, op := _, type := _, pos := _, after := _, guard := _ }) (v := ?v1) rfl (by kernel_rfl) (by kernel_rfl) (by kernel_rfl) (by kernel_rfl) (fun _ _ _ h => h) (Or.inl ⟨by rfl, ?hy1⟩) (by assumption) ?rest1
  case hy1 => (intro w hSw; rw [HSD.out] at hSw; (try dsimp only at hSw); obtain ⟨hs1, hs2, hs3, hs4, hs5⟩ := hSw; go_simp; (try with_reducible rfl))
  try simp only [Act.put, List.setIfInBounds_toArray, List.set_cons_zero, List.set_cons_succ]
  refine Held.take (i := 2) (oi := { dst := _, op := _, type := _, pos := _, after := _, guard := _ }) (v := ?v2) rfl (by kernel_rfl) (by kernel_rfl) (by kernel_rfl) (by kernel_rfl) (fun _ _ _ h => h) (Or.inl ⟨by rfl, ?hy2⟩) (by assumption) ?rest2
  case hy2 => (intro w hSw; rw [HSD.out] at hSw; (try dsimp only at hSw); obtain ⟨hs1, hs2, hs3, hs4, hs5⟩ := hSw; go_simp; (try with_reducible rfl))
  try simp only [Act.put, List.setIfInBounds_toArray, List.set_cons_zero, List.set_cons_succ]
  refine Held.take (i := 3) (oi := { dst := _, op := _, type := _, pos := _, after := _, guard := _ }) (v := ?v3) rfl (by kernel_rfl) (by kernel_rfl) (by kernel_rfl) (by kernel_rfl) (fun _ _ _ h => h) (Or.inl ⟨by rfl, ?hy3⟩) (by assumption) ?rest3
  case hy3 => (intro w hSw; rw [HSD.out] at hSw; (try dsimp only at hSw); obtain ⟨hs1, hs2, hs3, hs4, hs5⟩ := hSw; go_simp; (try with_reducible rfl))
  try simp only [Act.put, List.setIfInBounds_toArray, List.set_cons_zero, List.set_cons_succ]
  refine Held.take (i := 4) (oi := { dst := _, op := _, type := _, pos := _, after := _, guard := _ }) (v := ?v4) rfl (by kernel_rfl) (by kernel_rfl) (by kernel_rfl) (by kernel_rfl) (fun _ _ _ h => h) (Or.inl ⟨by rfl, ?hy4⟩) (by assumption) ?rest4
  case hy4 => (intro w hSw; rw [HSD.out] at hSw; (try dsimp only at hSw); obtain ⟨hs1, hs2, hs3, hs4, hs5⟩ := hSw; go_simp; (try with_reducible rfl))
  try simp only [Act.put, List.setIfInBounds_toArray, List.set_cons_zero, List.set_cons_succ]
  refine Held.take (i := 5) (oi := { dst := _, op := _, type := _, pos := _, after := _, guard := _ }) (v := ?v5) rfl (by kernel_rfl) (by kernel_rfl) (by kernel_rfl) (by kernel_rfl) (fun _ _ _ h => h) (Or.inl ⟨by rfl, ?hy5⟩) (by assumption) ?rest5
  case hy5 => (intro w hSw; rw [HSD.out] at hSw; (try dsimp only at hSw); obtain ⟨hs1, hs2, hs3, hs4, hs5⟩ := hSw; go_simp; (try with_reducible rfl))
  try simp only [Act.put, List.setIfInBounds_toArray, List.set_cons_zero, List.set_cons_succ]
  refine Held.take (i := 6) (oi := { dst := _, op := _, type := _, pos := _, after := _, guard := _ }) (v := ?v6) rfl (by kernel_rfl) (by kernel_rfl) (by kernel_rfl) (by kernel_rfl) (fun _ _ _ h => h) (Or.inl ⟨by rfl, ?hy6⟩) (by assumption) ?rest6
  case hy6 => (intro w hSw; rw [HSD.out] at hSw; (try dsimp only at hSw); obtain ⟨hs1, hs2, hs3, hs4, hs5⟩ := hSw; go_simp; (try with_reducible rfl))
  try simp only [Act.put, List.setIfInBounds_toArray, List.set_cons_zero, List.set_cons_succ]
  refine Held.take (i := 7) (oi := { dst := _, op := _, type := _, pos := _, after := _, guard := _ }) (v := ?v7) rfl (by kernel_rfl) (by kernel_rfl) (by kernel_rfl) (by kernel_rfl) (fun _ _ _ h => h) (Or.inl ⟨by rfl, ?hy7⟩) (by assumption) ?rest7
  case hy7 => (intro w hSw; rw [HSD.out] at hSw; (try dsimp only at hSw); obtain ⟨hs1, hs2, hs3, hs4, hs5⟩ := hSw; go_simp; (try with_reducible rfl))
  try simp only [Act.put, List.setIfInBounds_toArray, List.set_cons_zero, List.set_cons_succ]
  refine Held.take (i := 8) (oi := { dst := _, op := _, type := _, pos := _, after := _, guard := _ }) (v := ?v8) rfl (by kernel_rfl) (by kernel_rfl) (by kernel_rfl) (by kernel_rfl) (fun _ _ _ h => h) (Or.inl ⟨by rfl, ?hy8⟩) (by assumption) ?rest8
  case hy8 => (intro w hSw; rw [HSD.out] at hSw; (try dsimp only at hSw); obtain ⟨hs1, hs2, hs3, hs4, hs5⟩ := hSw; go_simp; (try with_reducible rfl))
  try simp only [Act.put, List.setIfInBounds_toArray, List.set_cons_zero, List.set_cons_succ]
  refine Held.take (i := 9) (oi := { dst := _, op := _, type := _, pos := _, after := _, guard := _ }) (v := ?v9) rfl (by kernel_rfl) (by kernel_rfl) (by kernel_rfl) (by kernel_rfl) (fun _ _ _ h => h) (Or.inl ⟨by rfl, ?hy9⟩) (by assumption) ?rest9
  case hy9 => (intro w hSw; rw [HSD.out] at hSw; (try dsimp only at hSw); obtain ⟨hs1, hs2, hs3, hs4, hs5⟩ := hSw; go_simp; (try with_reducible rfl))
  try simp only [Act.put, List.setIfInBounds_toArray, List.set_cons_zero, List.set_cons_succ]
  refine Held.take (i := 10) (oi := { dst := _, op := _, type := _, pos := _, after := _, guard := _ }) (v := ?v10) rfl (by kernel_rfl) (by kernel_rfl) (by kernel_rfl) (by kernel_rfl) (fun _ _ _ h => h) (Or.inl ⟨by rfl, ?hy10⟩) (by assumption) ?rest10
  case hy10 => (intro w hSw; rw [HSD.out] at hSw; (try dsimp only at hSw); obtain ⟨hs1, hs2, hs3, hs4, hs5⟩ := hSw; go_simp; (try with_reducible rfl))
  try simp only [Act.put, List.setIfInBounds_toArray, List.set_cons_zero, List.set_cons_succ]
  refine Held.take (i := 11) (oi := { dst := _, op := _, type := _, pos := _, after := _, guard := _ }) (v := ?v11) rfl (by kernel_rfl) (by kernel_rfl) (by kernel_rfl) (by kernel_rfl) (fun _ _ _ h => h) (Or.inl ⟨by rfl, ?hy11⟩) (by assumption) ?rest11
  case hy11 => (intro w hSw; rw [HSD.out] at hSw; (try dsimp only at hSw); obtain ⟨hs1, hs2, hs3, hs4, hs5⟩ := hSw; go_simp; (try with_reducible rfl))
  try simp only [Act.put, List.setIfInBounds_toArray, List.set_cons_zero, List.set_cons_succ]
  refine Held.take (i := 12) (oi := { dst := _, op := _, type := _, pos := _, after := _, guard := _ }) (v := ?v12) rfl (by kernel_rfl) (by kernel_rfl) (by kernel_rfl) (by kernel_rfl) (fun _ _ _ h => h) (Or.inl ⟨by rfl, ?hy12⟩) (by assumption) ?rest12
  case hy12 => (intro w hSw; rw [HSD.out] at hSw; (try dsimp only at hSw); obtain ⟨hs1, hs2, hs3, hs4, hs5⟩ := hSw; go_simp; (try with_reducible rfl))
  try simp only [Act.put, List.setIfInBounds_toArray, List.set_cons_zero, List.set_cons_succ]
  refine Held.take (i := 13) (oi := { dst := _, op := _, type := _, pos := _, after := _, guard := _ }) (v := ?v13) rfl (by kernel_rfl) (by kernel_rfl) (by kernel_rfl) (by kernel_rfl) (fun _ _ _ h => h) (Or.inl ⟨by rfl, ?hy13⟩) (by assumption) ?rest13
  case hy13 => (intro w hSw; rw [HSD.out] at hSw; (try dsimp only at hSw); obtain ⟨hs1, hs2, hs3, hs4, hs5⟩ := hSw; go_simp; (try with_reducible rfl))
  try simp only [Act.put, List.setIfInBounds_toArray, List.set_cons_zero, List.set_cons_succ]
  refine Held.take (i := 14) (oi := { dst := _, op := _, type := _, pos := _, after := _, guard := _ }) (v := ?v14) rfl (by kernel_rfl) (by kernel_rfl) (by kernel_rfl) (by kernel_rfl) (fun _ _ _ h => h) (Or.inl ⟨by rfl, ?hy14⟩) (by assumption) ?rest14
  case hy14 => (intro w hSw; rw [HSD.out] at hSw; (try dsimp only at hSw); obtain ⟨hs1, hs2, hs3, hs4, hs5⟩ := hSw; go_simp; (try with_reducible rfl))
  try simp only [Act.put, List.setIfInBounds_toArray, List.set_cons_zero, List.set_cons_succ]
  refine Held.take (i := 15) (oi := { dst := _, op := _, type := _, pos := _, after := _, guard := _ }) (v := ?v15) rfl (by kernel_rfl) (by kernel_rfl) (by kernel_rfl) (by kernel_rfl) (fun _ _ _ h => h) (Or.inl ⟨by rfl, ?hy15⟩) (by assumption) ?rest15
  case hy15 => (intro w hSw; rw [HSD.out] at hSw; (try dsimp only at hSw); obtain ⟨hs1, hs2, hs3, hs4, hs5⟩ := hSw; go_simp; (try with_reducible rfl))
  try simp only [Act.put, List.setIfInBounds_toArray, List.set_cons_zero, List.set_cons_succ]
  refine Held.take (i := 16) (oi := { dst := _, op := _, type := _, pos := _, after := _, guard := _ }) (v := ?v16) rfl (by kernel_rfl) (by kernel_rfl) (by kernel_rfl) (by kernel_rfl) (fun _ _ _ h => h) (Or.inl ⟨by rfl, ?hy16⟩) (by assumption) ?rest16
  case hy16 => (intro w hSw; rw [HSD.out] at hSw; (try dsimp only at hSw); obtain ⟨hs1, hs2, hs3, hs4, hs5⟩ := hSw; go_simp; (try with_reducible rfl))
  try simp only [Act.put, List.setIfInBounds_toArray, List.set_cons_zero, List.set_cons_succ]
  refine Held.take (i := 17) (oi := { dst := _, op := _, type := _, pos := _, after := _, guard := _ }) (v := ?v17) rfl (by kernel_rfl) (by kernel_rfl) (by kernel_rfl) (by kernel_rfl) (fun _ _ _ h => h) (Or.inl ⟨by rfl, ?hy17⟩) (by assumption) ?rest17
  case hy17 => (intro w hSw; rw [HSD.out] at hSw; (try dsimp only at hSw); obtain ⟨hs1, hs2, hs3, hs4, hs5⟩ := hSw; go_simp; (try with_reducible rfl))
  try simp only [Act.put, List.setIfInBounds_toArray, List.set_cons_zero, List.set_cons_succ]
  refine Held.take (i := 18) (oi := { dst := _, op := _, type := _, pos := _, after := _, guard := _ }) (v := ?v18) rfl (by kernel_rfl) (by kernel_rfl) (by kernel_rfl) (by kernel_rfl) (fun _ _ _ h => h) (Or.inl ⟨by rfl, ?hy18⟩) (by assumption) ?rest18
  case hy18 => (intro w hSw; rw [HSD.out] at hSw; (try dsimp only at hSw); obtain ⟨hs1, hs2, hs3, hs4, hs5⟩ := hSw; go_simp; (try with_reducible rfl))
  try simp only [Act.put, List.setIfInBounds_toArray, List.set_cons_zero, List.set_cons_succ]
  refine Held.take (i := 19) (oi := { dst := _, op := _, type := _, pos := _, after := _, guard := _ }) (v := ?v19) rfl (by kernel_rfl) (by kernel_rfl) (by kernel_rfl) (by kernel_rfl) (fun _ _ _ h => h) (Or.inl ⟨by rfl, ?hy19⟩) (by assumption) ?rest19
  case hy19 => (intro w hSw; rw [HSD.out] at hSw; (try dsimp only at hSw); obtain ⟨hs1, hs2, hs3, hs4, hs5⟩ := hSw; go_simp; (try with_reducible rfl))
  try simp only [Act.put, List.setIfInBounds_toArray, List.set_cons_zero, List.set_cons_succ]
  refine Held.take (i := 20) (oi := { dst := _, op := _, type := _, pos := _, after := _, guard := _ }) (v := ?v20) rfl (by kernel_rfl) (by kernel_rfl) (by kernel_rfl) (by kernel_rfl) (fun _ _ _ h => h) (Or.inl ⟨by rfl, ?hy20⟩) (by assumption) ?rest20
  case hy20 => (intro w hSw; rw [HSD.out] at hSw; (try dsimp only at hSw); obtain ⟨hs1, hs2, hs3, hs4, hs5⟩ := hSw; go_simp; (try with_reducible rfl))
  try simp only [Act.put, List.setIfInBounds_toArray, List.set_cons_zero, List.set_cons_succ]
  refine Held.take (i := 21) (oi := { dst := _, op := _, type := _, pos := _, after := _, guard := _ }) (v := ?v21) rfl (by kernel_rfl) (by kernel_rfl) (by kernel_rfl) (by kernel_rfl) (fun _ _ _ h => h) (Or.inl ⟨by rfl, ?hy21⟩) (by assumption) ?rest21
  case hy21 => (intro w hSw; rw [HSD.out] at hSw; (try dsimp only at hSw); obtain ⟨hs1, hs2, hs3, hs4, hs5⟩ := hSw; go_simp; (try with_reducible rfl))
  try simp only [Act.put, List.setIfInBounds_toArray, List.set_cons_zero, List.set_cons_succ]
  refine Held.take (i := 22) (oi := { dst := _, op := _, type := _, pos := _, after := _, guard := _ }) (v := ?v22) rfl (by kernel_rfl) (by kernel_rfl) (by kernel_rfl) (by kernel_rfl) (fun _ _ _ h => h) (Or.inl ⟨by rfl, ?hy22⟩) (by assumption) ?rest22
  case hy22 => (intro w hSw; rw [HSD.out] at hSw; (try dsimp only at hSw); obtain ⟨hs1, hs2, hs3, hs4, hs5⟩ := hSw; go_simp; (try with_reducible rfl))
  try simp only [Act.put, List.setIfInBounds_toArray, List.set_cons_zero, List.set_cons_succ]
  refine Held.take (i := 23) (oi := { dst := _, op := _, type := _, pos := _, after := _, guard := _ }) (v := ?v23) rfl (by kernel_rfl) (by kernel_rfl) (by kernel_rfl) (by kernel_rfl) (fun _ _ _ h => h) (Or.inl ⟨by rfl, ?hy23⟩) (by assumption) ?rest23
  case hy23 => (intro w hSw; rw [HSD.out] at hSw; (try dsimp only at hSw); obtain ⟨hs1, hs2, hs3, hs4, hs5⟩ := hSw; go_simp; (try with_reducible rfl))
  try simp only [Act.put, List.setIfInBounds_toArray, List.set_cons_zero, List.set_cons_succ]
  refine Held.one (i := 24) (o := { dst := _, op := _, type := _, pos := _, after := _, guard := _ }) (by kernel_rfl) rfl (fun K hK => ?_)
  go_simp
  refine hK.out _ _ (fun _ => ?hS16) (fun hHeld2 => ?_)
  case hS16 => (rw [HSD.out]; go_keep)
  clear hK K
  replace hHeld2 := hHeld2 (by decide)
  try simp only [Act.put, List.setIfInBounds_toArray, List.set_cons_zero, List.set_cons_succ]
  refine Held.one (i := 25) (o := { dst := _, op := _, type := _, pos := _, after := _, guard := _ }) (by kernel_rfl) rfl (fun K hK => ?_)
  refine step_append_cells (w0 := w0) w0.heap.size (by rfl) (.tmp 83) (.tmp 102) 47 105 _ 5 48 (by rfl) Try.underlying47 info105 rfl (by omega) (by omega) _ s.tm.length (encT s.tm) [.string D, .bool false, .int .i64 due, .int .i64 y, .int .i64 c.kind] (by rfl) (by rfl) rfl (by simp [Value.oneCell']) (HR.out.drewN 1).tm (HR.out.drewN 1).below (HR.out.drewN 1).below.size HL.out ?_
  intro v1 w3 ho hbl hg hat
  obtain ⟨V, vn, rfl⟩ := own_slice ho
  have HS := Lib.hid (M.remind D false due y c.kind (HB.out.drewN 1) (HR.out.drewN 1) hm ho hg hbl)
  have u3 : ∀ i, w3.cell? ⟨mb, i, none⟩ = _ := fun i => HS.out.1.cell i
  have f3 : ∀ i, w3.frozen? ⟨mb, i, none⟩ = false := fun i => HS.out.1.free i
  have l3 := HS.out.1.lt
  have g0 : w3.cell? ⟨mb, 0, none⟩ = some (.slice (some ⟨nb, no, none⟩) c.NL.length c.nC) := HNA.out ▸ HS.out.1.cell 0
  have g4 : w3.cell? ⟨mb, 4, none⟩ = some (.int .i64 c.kind) := HS.out.1.cell 4
  have g19 : w3.cell? ⟨mb, 19, none⟩ = some (.slice A s.tm.length n) := HS.out.1.cell 19
  have hnc3 := HN.out w3 hbl
  have q3 : w3.cell? ⟨bk, 1, none⟩ = some (.int .i64 (k : Int)) := (blk_grown (HK.out.drewN 1) (HR.out.drewN 1).tm (by decide) hg).cell 1
  clear ho hbl hg hat hHeld2 u3
  refine hK.out _ _ (fun _ => ?hS17) (fun hHeld3 => ?_)
  case hS17 => (rw [HSD.out]; exact ⟨g19, g0, hnc3, q3, g4⟩)
  clear hK K
  replace hHeld3 := hHeld3 (by decide)
  try simp only [Act.put, List.setIfInBounds_toArray, List.set_cons_zero, List.set_cons_succ]
  refine Held.one (i := 26) (o := { dst := _, op := _, type := _, pos := _, after := _, guard := _ }) (by kernel_rfl) rfl (fun K hK => ?_)
  go_simp
  refine hK.out _ _ (fun _ => hHeld3) (fun _ => ?_)
  clear hK K
  try simp only [Act.put, List.setIfInBounds_toArray, List.set_cons_zero, List.set_cons_succ]
  refine Held.one (i := 27) (o := { dst := _, op := _, type := _, pos := _, after := _, guard := _ }) (by kernel_rfl) rfl (fun K hK => ?_)
  go_simp
  refine hK.out _ _ (fun _ => hHeld3) (fun _ => ?_)
  clear hK K
  try simp only [Act.put, List.setIfInBounds_toArray, List.set_cons_zero, List.set_cons_succ]
  refine Held.one (i := 28) (o := { dst := _, op := _, type := _, pos := _, after := _, guard := _ }) (by kernel_rfl) rfl (fun K hK => ?_)
  go_simp
  refine hK.out _ _ (fun _ => hHeld3) (fun _ => ?_)
  clear hK K
  try simp only [Act.put, List.setIfInBounds_toArray, List.set_cons_zero, List.set_cons_succ]
  refine Held.one (i := 29) (o := { dst := _, op := _, type := _, pos := _, after := _, guard := _ }) (by kernel_rfl) rfl (fun K hK => ?_)
  go_simp
  refine hK.out _ _ (fun h => absurd rfl h) (fun _ => ?_)
  clear hK K
  refine Held.done (by kernel_rfl) ?_ _
  refine NoPanic.normal ?_
  go_wp2
  refine bodyPost_ret (results_tmp2 rfl _ _ _) rfl ?_
  rw [HE2.out]
  exact ⟨rfl, HS.out.2⟩
end Go.Proofs.Ytmmbigfeojfedaa.R
namespace Go.Proofs.Ytmmbigfeojfedaa.R
open Go.RowKit Go.Proofs.YtmmbigfeojfedaaW.PrintWords

theorem no10 : ¬ (10 : Int) = 0 := by decide
theorem no12 : ¬ (12 : Int) = 0 := by decide
/-- What an operation does behind its takes: whether it goes on, the error, the state. -/
def gF (c : Env) (op : Nat) (a x y : Int) (s : St) : Bool × Int × St :=
  match op with
  | 0 => (false, 0, s)
  | 3 => (true, 0, tellF a.toNat x s)
  | 12 => (true, 0, { s with stack := s.stack ++ [x] ++ [x] })
  | 13 => (true, 0, s)
  | 14 => (true, 0, { s with stack := s.stack ++ [y] ++ [x] })
  | 15 => (true, 0, { s with at_ := a })
  | 16 => (true, 0, if x = 0 then { s with at_ := a } else s)
  | 17 => sendG (c.NL.getD a.toNat ⟨#[]⟩) x y s
  | 18 => sendG c.frm x y s
  | 19 => remG (c.NL.getD a.toNat ⟨#[]⟩) c.now c.kind x y s
  | 20 => (true, 0, { s with tm := s.tm ++ [(c.NL.getD a.toNat ⟨#[]⟩, true, 0, 0, 0)] })
  | 21 => (false, 12, s)
  | op => (true, 0, { s with stack := s.stack ++ [valF c op a x y s] })

def takN (op : Nat) : Nat := [0, 0, 0, 1, 0, 0, 2, 2, 2, 2, 2, 1, 1, 1, 2, 0, 1, 2, 2, 2, 0, 0, 0, 0].getD op 0
def givN (op : Nat) : Nat := [0, 1, 1, 0, 1, 1, 1, 1, 1, 1, 1, 1, 2, 0, 2, 0, 0, 0, 0, 0, 0, 0, 1, 1].getD op 0
/-- What the takes leave. -/
def tookF (n : Nat) (s : St) : St := { s with stack := s.stack.take (s.stack.length - n) }
def xOf (n : Nat) (s : St) : Int := if n = 0 then 0 else s.stack.getD (s.stack.length - n) 0
def yOf (n : Nat) (s : St) : Int := if n = 2 then s.stack.getD (s.stack.length - 1) 0 else 0
/-- A step of the reference's. -/
def oneG (c : Env) (op : Nat) (a : Int) (s : St) : Bool × Int × St :=
  if s.stack.length < takN op ∨ 16 < s.stack.length - takN op + givN op then (false, 10, s) else gF c op a (xOf (takN op) s) (yOf (takN op) s) (tookF (takN op) s)

theorem pushF_ok {xs : List Int} {s : St} (hf : s.failed = 0) (h : s.stack.length + xs.length ≤ 16) : pushF xs s = { s with stack := s.stack ++ xs } := by
  rw [pushF, if_pos hf, if_neg (by omega)]
theorem pushF_bad {xs : List Int} {s : St} (hf : s.failed = 0) (h : 16 < s.stack.length + xs.length) : (pushF xs s).failed = 10 := by
  rw [pushF, if_pos hf, if_pos (by omega)]
theorem pushF_still {xs : List Int} {s : St} (hf : s.failed = 10) : (pushF xs s).failed = 10 := by
  rw [pushF, if_neg (by rw [hf]; decide)]; exact hf
theorem popF_ok {s : St} (hf : s.failed = 0) (h : 1 ≤ s.stack.length) : popF s = tookF 1 s := by
  rw [popF, if_pos hf, if_neg (by omega)]; rfl
theorem popF_bad {s : St} (hf : s.failed = 0) (h : s.stack.length = 0) : (popF s).failed = 10 := by
  rw [popF, if_pos hf, if_pos h]
theorem popF_still {s : St} (hf : s.failed = 10) : (popF s).failed = 10 := by
  rw [popF, if_neg (by rw [hf]; decide)]; exact hf
theorem popV_ok {s : St} (hf : s.failed = 0) : popV s = s.stack.getD (s.stack.length - 1) 0 := by rw [popV, if_pos hf]
theorem took_len (n : Nat) (s : St) : (tookF n s).stack.length = s.stack.length - n := by simp [tookF]
theorem twoF_ok {s : St} (hf : s.failed = 0) (h : 2 ≤ s.stack.length) : twoF s = tookF 2 s ∧ twoX s = xOf 2 s ∧ twoY s = yOf 2 s := by
  have e1 := popF_ok hf (by omega)
  have e2 : popF (tookF 1 s) = tookF 1 (tookF 1 s) := popF_ok hf (by rw [took_len]; omega)
  have e3 : tookF 1 (tookF 1 s) = tookF 2 s := by
    simp only [tookF, List.length_take, List.take_take]
    congr 2
    omega
  refine ⟨by rw [twoF, e1, e2, e3], ?_, ?_⟩
  · rw [twoX, e1, popV_ok (show (tookF 1 s).failed = 0 from hf), took_len, xOf, if_neg (by decide)]
    show (List.take (s.stack.length - 1) s.stack).getD (s.stack.length - 1 - 1) 0 = _
    rw [List.getD_eq_getElem?_getD, List.getElem?_take, if_pos (by omega), ← List.getD_eq_getElem?_getD]
    congr 1
  · rw [twoY, popV_ok hf, yOf, if_pos rfl]
theorem twoF_bad {s : St} (hf : s.failed = 0) (h : s.stack.length < 2) : (twoF s).failed = 10 := by
  rw [twoF]
  by_cases h0 : s.stack.length = 0
  · exact popF_still (popF_bad hf h0)
  · rw [popF_ok hf (by omega)]
    exact popF_bad hf (by rw [took_len]; omega)
theorem sendF_still {d : ByteArray} {k x : Int} {s : St} (hf : s.failed = 10) : (sendF d k x s).failed = 10 := by
  have e : refuseF (decide ((4 : Int) ≤ s.sent.length)) s = s := by rw [refuseF, if_neg (fun h => by rw [hf] at h; exact absurd h.2 (by decide))]
  rw [sendF, e]
  split
  · exact hf
  · rw [if_neg (by rw [hf]; decide)]; exact hf
theorem remindF_still {n : ByteArray} {a b d p : Int} {s : St} (hf : s.failed = 10) : (remindF n a b d p s).failed = 10 := by
  have e : refuseF (badT a d p) s = s := by rw [refuseF, if_neg (fun h => by rw [hf] at h; exact absurd h.2 (by decide))]
  rw [remindF, e, if_neg (by rw [hf]; decide)]; exact hf
theorem refuse_yes {s : St} (hf : s.failed = 0) : refuseF true s = { s with failed := 12 } := if_pos ⟨rfl, hf⟩
theorem refuse_no (s : St) : refuseF false s = s := if_neg (fun h => absurd h.1 (by decide))
theorem sendF_eq {d : ByteArray} {k x : Int} {s : St} (hf : s.failed = 0) : (sendF d k x s).failed = (sendG d k x s).2.1 ∧ ((sendG d k x s).2.1 = 0 → (sendG d k x s).1 = true ∧ sendF d k x s = (sendG d k x s).2.2) := by
  unfold sendF sendG
  by_cases h0 : d = ⟨#[]⟩
  · rw [if_pos h0, if_pos h0]; exact ⟨hf, fun _ => ⟨rfl, rfl⟩⟩
  · rw [if_neg h0, if_neg h0]
    by_cases h4 : (4 : Int) ≤ s.sent.length
    · rw [if_pos h4, decide_eq_true h4, refuse_yes hf, if_neg (show ¬ ({ s with failed := 12 } : St).failed = 0 from no12)]
      exact ⟨rfl, fun h => absurd h no12⟩
    · rw [if_neg h4, decide_eq_false h4, refuse_no, if_pos hf]
      exact ⟨hf, fun _ => ⟨rfl, rfl⟩⟩
theorem remindF_eq {n : ByteArray} {a b d p : Int} {s : St} (hf : s.failed = 0) : (remindF n a b d p s).failed = (remG n a b d p s).2.1 ∧ ((remG n a b d p s).2.1 = 0 → (remG n a b d p s).1 = true ∧ remindF n a b d p s = (remG n a b d p s).2.2) := by
  unfold remindF remG
  by_cases h4 : badT a d p = true
  · rw [if_pos h4, h4, refuse_yes hf, if_neg (show ¬ ({ s with failed := 12 } : St).failed = 0 from no12)]
    exact ⟨rfl, fun h => absurd h no12⟩
  · rw [if_neg h4, show badT a d p = false by simpa using h4, refuse_no, if_pos hf]
    exact ⟨hf, fun _ => ⟨rfl, rfl⟩⟩

/-- What a result says of a state. -/
def Agrees (G : Bool × Int × St) (s : St) : Prop := s.failed = G.2.1 ∧ (G.2.1 = 0 → s = { G.2.2 with done := !G.1 })
theorem st_done {s : St} {b : Bool} (h : s.done = b) : s = { s with done := b } := by cases s; subst h; rfl
theorem agrees_of {G : Bool × Int × St} {s : St} (h : s.failed = G.2.1 ∧ (G.2.1 = 0 → G.1 = true ∧ s = G.2.2)) (hd : G.2.1 = 0 → s.done = false) : Agrees G s :=
  ⟨h.1, fun h0 => by
    obtain ⟨h1, h2⟩ := h.2 h0
    rw [h1, ← h2]
    exact st_done (hd h0)⟩
theorem agrees_on {s s' : St} (e : s = s') (hf : s.failed = 0) (hd : s.done = false) : Agrees (true, 0, s') s := ⟨hf, fun _ => e ▸ st_done hd⟩
theorem sendF_done (d : ByteArray) (k x : Int) (s : St) : (sendF d k x s).done = s.done := by
  unfold sendF refuseF
  repeat' split
  all_goals rfl
theorem remindF_done (n : ByteArray) (a b d p : Int) (s : St) : (remindF n a b d p s).done = s.done := by
  unfold remindF refuseF
  repeat' split
  all_goals rfl

theorem oneG_short {c : Env} {op : Nat} {a : Int} {s : St} (h : s.stack.length < takN op ∨ 16 < s.stack.length - takN op + givN op) : oneG c op a s = (false, 10, s) := if_pos h
theorem oneG_long {c : Env} {op : Nat} {a : Int} {s : St} (h : ¬ (s.stack.length < takN op ∨ 16 < s.stack.length - takN op + givN op)) : oneG c op a s = gF c op a (xOf (takN op) s) (yOf (takN op) s) (tookF (takN op) s) := if_neg h
theorem took0 (s : St) : tookF 0 s = s := by simp [tookF]
theorem agrees_short {c : Env} {op : Nat} {a : Int} {s s' : St} (h : s.stack.length < takN op ∨ 16 < s.stack.length - takN op + givN op) (k : s'.failed = 10) : Agrees (oneG c op a s) s' := by
  rw [oneG_short h]
  exact ⟨k, fun h => absurd h no10⟩
theorem agrees_long {c : Env} {op : Nat} {a : Int} {s s' : St} (h : ¬ (s.stack.length < takN op ∨ 16 < s.stack.length - takN op + givN op)) (k : Agrees (gF c op a (xOf (takN op) s) (yOf (takN op) s) (tookF (takN op) s)) s') : Agrees (oneG c op a s) s' := by
  rw [oneG_long h]
  exact k
theorem agrees_step (c : Env) (op : Nat) (a : Int) (s : St) (hf : s.failed = 0) (hd : s.done = false) (hs : s.stack.length ≤ 16) (hop : op < 24) : Agrees (oneG c op a s) (stepF c op a s) := by
  match op, hop with
  | 0, _ =>
    refine agrees_long (by show ¬ (_ < (0 : Nat) ∨ 16 < _ - (0 : Nat) + (0 : Nat)); omega) ?_
    exact ⟨hf, fun _ => by rw [show takN 0 = 0 from rfl, took0]; rfl⟩
  | 1, _ | 2, _ | 4, _ | 5, _ | 22, _ | 23, _ =>
    by_cases h : s.stack.length ≤ 15
    · refine agrees_long (by show ¬ (_ < (0 : Nat) ∨ 16 < _ - (0 : Nat) + (1 : Nat)); omega) ?_
      rw [show takN _ = 0 from rfl, took0]
      exact agrees_on (pushF_ok hf (by show _ + 1 ≤ 16; omega)) ((congrArg St.failed (pushF_ok hf (by show _ + 1 ≤ 16; omega))).trans hf) ((congrArg St.done (pushF_ok hf (by show _ + 1 ≤ 16; omega))).trans hd)
    · refine agrees_short (by show _ < (0 : Nat) ∨ 16 < _ - (0 : Nat) + (1 : Nat); omega) ?_
      exact pushF_bad hf (by show 16 < _ + 1; omega)
  | 3, _ =>
    show Agrees _ (if (popF s).failed = 0 then tellF a.toNat (popV s) (popF s) else popF s)
    by_cases h : s.stack.length = 0
    · refine agrees_short (by show _ < (1 : Nat) ∨ 16 < _ - (1 : Nat) + (0 : Nat); omega) ?_
      rw [if_neg (by rw [popF_bad hf h]; exact no10)]
      exact popF_bad hf h
    · refine agrees_long (by show ¬ (_ < (1 : Nat) ∨ 16 < _ - (1 : Nat) + (0 : Nat)); omega) ?_
      rw [popF_ok hf (by omega), if_pos (show (tookF 1 s).failed = 0 from hf), popV_ok hf]
      exact agrees_on rfl hf hd
  | 6, _ | 7, _ | 8, _ | 9, _ | 10, _ =>
    show Agrees _ (pushF [reckonV _ (twoX s) (twoY s)] (twoF s))
    by_cases h : s.stack.length < 2
    · refine agrees_short (by show _ < (2 : Nat) ∨ 16 < _ - (2 : Nat) + (1 : Nat); omega) ?_
      exact pushF_still (twoF_bad hf h)
    · obtain ⟨e1, e2, e3⟩ := twoF_ok hf (by omega)
      refine agrees_long (by show ¬ (_ < (2 : Nat) ∨ 16 < _ - (2 : Nat) + (1 : Nat)); omega) ?_
      rw [e1, e2, e3, pushF_ok (show (tookF 2 s).failed = 0 from hf) (by rw [took_len]; show _ + 1 ≤ 16; omega)]
      exact agrees_on rfl hf hd
  | 11, _ =>
    show Agrees _ (pushF [truth (popV s == 0)] (popF s))
    by_cases h : s.stack.length = 0
    · refine agrees_short (by show _ < (1 : Nat) ∨ 16 < _ - (1 : Nat) + (1 : Nat); omega) ?_
      exact pushF_still (popF_bad hf h)
    · refine agrees_long (by show ¬ (_ < (1 : Nat) ∨ 16 < _ - (1 : Nat) + (1 : Nat)); omega) ?_
      rw [popF_ok hf (by omega), popV_ok hf, pushF_ok (show (tookF 1 s).failed = 0 from hf) (by rw [took_len]; show _ + 1 ≤ 16; omega)]
      exact agrees_on rfl hf hd
  | 12, _ =>
    show Agrees _ (pushF [popV s, popV s] (popF s))
    by_cases h : s.stack.length = 0
    · refine agrees_short (by show _ < (1 : Nat) ∨ 16 < _ - (1 : Nat) + (2 : Nat); omega) ?_
      exact pushF_still (popF_bad hf h)
    · rw [popF_ok hf (by omega), popV_ok hf]
      by_cases h2 : s.stack.length ≤ 15
      · refine agrees_long (by show ¬ (_ < (1 : Nat) ∨ 16 < _ - (1 : Nat) + (2 : Nat)); omega) ?_
        rw [pushF_ok (show (tookF 1 s).failed = 0 from hf) (by rw [took_len]; show _ + 2 ≤ 16; omega)]
        exact agrees_on (by simp [xOf, show takN 12 = 1 from rfl]) hf hd
      · refine agrees_short (by show _ < (1 : Nat) ∨ 16 < _ - (1 : Nat) + (2 : Nat); omega) ?_
        exact pushF_bad hf (by rw [took_len]; show 16 < _ + 2; omega)
  | 13, _ =>
    show Agrees _ (popF s)
    by_cases h : s.stack.length = 0
    · refine agrees_short (by show _ < (1 : Nat) ∨ 16 < _ - (1 : Nat) + (0 : Nat); omega) ?_
      exact popF_bad hf h
    · refine agrees_long (by show ¬ (_ < (1 : Nat) ∨ 16 < _ - (1 : Nat) + (0 : Nat)); omega) ?_
      rw [popF_ok hf (by omega)]
      exact agrees_on rfl hf hd
  | 14, _ =>
    show Agrees _ (pushF [twoY s, twoX s] (twoF s))
    by_cases h : s.stack.length < 2
    · refine agrees_short (by show _ < (2 : Nat) ∨ 16 < _ - (2 : Nat) + (2 : Nat); omega) ?_
      exact pushF_still (twoF_bad hf h)
    · obtain ⟨e1, e2, e3⟩ := twoF_ok hf (by omega)
      refine agrees_long (by show ¬ (_ < (2 : Nat) ∨ 16 < _ - (2 : Nat) + (2 : Nat)); omega) ?_
      rw [e1, e2, e3, pushF_ok (show (tookF 2 s).failed = 0 from hf) (by rw [took_len]; show _ + 2 ≤ 16; omega)]
      exact agrees_on (by simp [show takN 14 = 2 from rfl]) hf hd
  | 15, _ =>
    refine agrees_long (by show ¬ (_ < (0 : Nat) ∨ 16 < _ - (0 : Nat) + (0 : Nat)); omega) ?_
    rw [show takN _ = 0 from rfl, took0]
    exact agrees_on rfl hf hd
  | 16, _ =>
    show Agrees _ (if popV s = 0 ∧ (popF s).failed = 0 then { popF s with at_ := a } else popF s)
    by_cases h : s.stack.length = 0
    · refine agrees_short (by show _ < (1 : Nat) ∨ 16 < _ - (1 : Nat) + (0 : Nat); omega) ?_
      rw [if_neg (fun h' => by rw [popF_bad hf h] at h'; exact no10 h'.2)]
      exact popF_bad hf h
    · refine agrees_long (by show ¬ (_ < (1 : Nat) ∨ 16 < _ - (1 : Nat) + (0 : Nat)); omega) ?_
      rw [popF_ok hf (by omega), popV_ok hf]
      show Agrees (true, 0, if s.stack.getD (s.stack.length - 1) 0 = 0 then _ else _) _
      by_cases hx : s.stack.getD (s.stack.length - 1) 0 = 0
      · rw [if_pos hx, if_pos ⟨hx, hf⟩]
        exact agrees_on rfl hf hd
      · rw [if_neg hx, if_neg (fun h => hx h.1)]
        exact agrees_on rfl hf hd
  | 17, _ | 18, _ =>
    show Agrees _ (sendF _ (twoX s) (twoY s) (twoF s))
    by_cases h : s.stack.length < 2
    · refine agrees_short (by show _ < (2 : Nat) ∨ 16 < _ - (2 : Nat) + (0 : Nat); omega) ?_
      exact sendF_still (twoF_bad hf h)
    · obtain ⟨e1, e2, e3⟩ := twoF_ok hf (by omega)
      refine agrees_long (by show ¬ (_ < (2 : Nat) ∨ 16 < _ - (2 : Nat) + (0 : Nat)); omega) ?_
      rw [e1, e2, e3]
      exact agrees_of (sendF_eq (s := tookF 2 s) hf) (fun _ => by rw [sendF_done]; exact hd)
  | 19, _ =>
    show Agrees _ (remindF _ _ _ (twoX s) (twoY s) (twoF s))
    by_cases h : s.stack.length < 2
    · refine agrees_short (by show _ < (2 : Nat) ∨ 16 < _ - (2 : Nat) + (0 : Nat); omega) ?_
      exact remindF_still (twoF_bad hf h)
    · obtain ⟨e1, e2, e3⟩ := twoF_ok hf (by omega)
      refine agrees_long (by show ¬ (_ < (2 : Nat) ∨ 16 < _ - (2 : Nat) + (0 : Nat)); omega) ?_
      rw [e1, e2, e3]
      exact agrees_of (remindF_eq (s := tookF 2 s) hf) (fun _ => by rw [remindF_done]; exact hd)
  | 20, _ =>
    refine agrees_long (by show ¬ (_ < (0 : Nat) ∨ 16 < _ - (0 : Nat) + (0 : Nat)); omega) ?_
    rw [show takN _ = 0 from rfl, took0]
    exact agrees_on rfl hf hd
  | 21, _ =>
    refine agrees_long (by show ¬ (_ < (0 : Nat) ∨ 16 < _ - (0 : Nat) + (0 : Nat)); omega) ?_
    exact ⟨by show (refuseF true s).failed = 12; rw [refuse_yes hf], fun h => absurd h no12⟩
  | n + 24, h => exact absurd h (by omega)
end Go.Proofs.Ytmmbigfeojfedaa.R
namespace Go.Proofs.Ytmmbigfeojfedaa.R
open Go.RowKit Go.Proofs.YtmmbigfeojfedaaW.PrintWords

theorem M.atK {c : Env} {w0 wb w : World} {mb : Nat} {s : St} (h : M c w0 wb mb s w) (k : Int) : M c w0 wb mb { s with at_ := k } (w.setCell ⟨mb, 7, none⟩ (.int .i64 k)) := by
  obtain ⟨sv, ev, sn, tv, hb, hr, hm⟩ := h
  exact ⟨sv, ev, sn, tv, by simpa [cellsOf] using hb.set 7 (.int .i64 k), hr.put hb hm _ _, hm⟩
theorem blk_apart {w : World} {b1 b2 t1 t2 : Nat} {C1 C2 : Array Value} (h1 : Blk w b1 C1 t1) (h2 : Blk w b2 C2 t2) (ht : t1 ≠ t2) : b1 ≠ b2 := fun e => by
  unfold Blk at h1 h2
  rw [e, h2] at h1
  injection h1 with h1
  injection h1 with _ h3 _
  exact ht h3.symm
theorem at_sets {c : Env} {w0 wb w : World} {mb ib : Nat} {s : St} {C : Array Value} (h : M c w0 wb mb s w) (hi : Blk w ib C 76) (k : Int) :
    M c w0 wb mb { s with at_ := k } (w.setCell ⟨mb, 7, none⟩ (.int .i64 k)) ∧ Blk (w.setCell ⟨mb, 7, none⟩ (.int .i64 k)) ib C 76 := by
  refine ⟨h.atK k, hi.other (a := ⟨mb, 7, none⟩) ?_ _⟩
  obtain ⟨sv, ev, sn, tv, hb, hr, hm⟩ := h
  exact blk_apart hi hb (by decide)
theorem pops (c : Env) (w0 wb w : World) (mb ib : Nat) (C : Array Value) (s : St) (h : M c w0 wb mb s w) (hi : Blk w ib C 76) (hl : 1 ≤ s.stack.length) (hs : s.stack.length ≤ 16) :
    Calls Try.prog 40 #[mp mb] w fun e w' => e = .returned (.int .i64 (s.stack.getD (s.stack.length - 1) 0)) ∧ M c w0 wb mb (tookF 1 s) w' ∧ Blk w' ib C 76 := by
  refine (pop_any c w0 w w mb s (s.stack.length - 1) h.here (by omega) (by omega)).mono ?_
  rintro e w' ⟨rfl, h'⟩
  exact ⟨rfl, h'.rebase h.stay, h'.stay.blk hi (by decide)⟩
theorem took11 (s : St) : tookF 1 (tookF 1 s) = tookF 2 s := by
  simp only [tookF, List.length_take, List.take_take]
  congr 2
  omega
theorem x_two {s : St} (h : 2 ≤ s.stack.length) : (tookF 1 s).stack.getD ((tookF 1 s).stack.length - 1) 0 = xOf 2 s := by
  rw [took_len, xOf, if_neg (by decide)]
  show (List.take (s.stack.length - 1) s.stack).getD (s.stack.length - 1 - 1) 0 = _
  rw [List.getD_eq_getElem?_getD, List.getElem?_take, if_pos (by omega), ← List.getD_eq_getElem?_getD]
  congr 1
theorem pops2 (c : Env) (w0 wb w : World) (mb ib : Nat) (C : Array Value) (s : St) (h : M c w0 wb mb (tookF 1 s) w) (hi : Blk w ib C 76) (hl : 2 ≤ s.stack.length) (hs : s.stack.length ≤ 16) :
    Calls Try.prog 40 #[mp mb] w fun e w' => e = .returned (.int .i64 (xOf 2 s)) ∧ M c w0 wb mb (tookF 2 s) w' ∧ Blk w' ib C 76 := by
  refine (pops c w0 wb w mb ib C (tookF 1 s) h hi (by rw [took_len]; omega) (by rw [took_len]; omega)).mono ?_
  rintro e w' ⟨rfl, h', hi'⟩
  rw [took11] at h'
  exact ⟨by rw [x_two hl], h', hi'⟩
theorem pushb (c : Env) (w0 wb w : World) (mb ib : Nat) (C : Array Value) (s : St) (x : Int) (h : M c w0 wb mb s w) (hi : Blk w ib C 76) (hs : s.stack.length ≤ 16) :
    Calls Try.prog 41 #[mp mb, .int .i64 x] w fun e w' => e = .returned (.tuple #[]) ∧ M c w0 wb mb { s with stack := s.stack ++ [x] } w' ∧ Blk w' ib C 76 := by
  refine (push_any c w0 w w mb s x h.here hs).mono ?_
  rintro e w' ⟨rfl, h'⟩
  exact ⟨rfl, h'.rebase h.stay, h'.stay.blk hi (by decide)⟩
theorem M.tell {c : Env} {w0 wb w w1 : World} {mb : Nat} {s : St} {sv ev sn tv v1 : Value} (r x : Int) (hb : Blk w mb (cellsOf c s sv ev sn tv) 79) (hr : Rws w0 wb w s.stack s.ev s.sent s.tm sv ev sn tv) (hm : w0.heap.size ≤ mb)
    (ho : w1.ownsRow w0.heap.size 86 2 v1 (s.ev.length + 1) (encE s.ev ++ [.int .i64 r, .int .i64 x])) (hg : w.grownBy w1 ev.ownBlock) (hB : Below w0.heap.size w0 w1) :
    Blk w1 mb (cellsOf c s sv ev sn tv) 79 ∧ M c w0 wb mb { s with ev := s.ev ++ [(r, x)] } (w1.setCell ⟨mb, 17, none⟩ v1) := by
  have hb1 := blk_grown hb hr.ev (by decide) hg
  have hr1 := hr.grow_ev (ev1 := s.ev ++ [(r, x)]) (by rw [encE_snoc, List.length_append]; exact ho) hg hB
  exact ⟨hb1, sv, v1, sn, tv, by simpa [cellsOf] using hb1.set 17 v1, hr1.put hb1 hm _ _, hm⟩
theorem cells_set {c : Env} {s : St} {sv ev sn tv : Value} {k : Nat} (x : Int) (hk : k < 8) : (cellsOf c s sv ev sn tv).setIfInBounds (9 + k) (.int .i64 x) = cellsOf c (setReg s k x) sv ev sn tv := by
  match k, hk with
  | 0, _ | 1, _ | 2, _ | 3, _ | 4, _ | 5, _ | 6, _ | 7, _ => rfl
end Go.Proofs.Ytmmbigfeojfedaa.R

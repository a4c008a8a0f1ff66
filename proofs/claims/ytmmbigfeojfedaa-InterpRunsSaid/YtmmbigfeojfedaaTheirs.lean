/- Theirs: the same program, in new memory. -/
import Derived.Test.YtmmbigfeojfedaaSends
namespace Go.Proofs.Ytmmbigfeojfedaa
open Go.RowKit Go.Proofs.YtmmbigfeojfedaaW.PrintWords

theorem info9 : (Try.prog.info? 9).map (fun i => (i.zero, i.size, i.bytes)) = some (some (.string ⟨#[]⟩), 1, 16) := by kernel_rfl
theorem own_set {w : World} {base n size e b t i : Nat} {v : Value} {xs : List Value} {C : Array Value} (h : w.ownsRow base e size v n xs) (hb : Blk w b C t) (hne : e ≠ t) (u : Value) : (w.setCell ⟨b, i, none⟩ u).ownsRow base e size v n xs :=
  own_move h fun k hk => Below.heap_setCell _ ⟨b, i, none⟩ u k fun e' => by
    obtain ⟨cells, hc⟩ := own_typed h k hk
    subst e'
    unfold Blk at hb
    rw [hb] at hc
    injection hc with hc
    injection hc with _ h2 _
    exact hne h2.symm

set_option maxRecDepth 100000 in
set_option maxHeartbeats 4000000 in
theorem theirs_any (nA kA : Option Addr) (nC kC : Nat) (NL : List ByteArray) (CL : List (Int × Int)) (w : World) (hN : ReadsOf Value.string (⟨#[]⟩ : ByteArray) w nA NL.length NL) (hC : IsCode w kA CL) (hcl : CL.length ≤ 1000) (hnl : NL.length ≤ 51) :
    Calls Try.prog 13 #[.agg #[.slice nA NL.length nC, .slice kA CL.length kC]] w fun e w' => Below w.heap.size w w' ∧ ∃ nA' nC' kA' kC', e = .returned (.agg #[.slice nA' NL.length nC', .slice kA' CL.length kC']) ∧ ReadsOf Value.string (⟨#[]⟩ : ByteArray) w' nA' NL.length NL ∧ IsCode w' kA' CL := by
  have HN := Lib.hid hN
  have HC := Lib.hid hC
  clear hN hC
  obtain ⟨W1, hW1⟩ : ∃ W, W = (w.alloc (.cells #[.slice nA NL.length nC, .slice kA CL.length kC] 25)).alloc (.cells #[.slice none 0 0, .slice none 0 0] 43) := ⟨_, rfl⟩
  have h1 : Below w.heap.size w (w.alloc (.cells #[.slice nA NL.length nC, .slice kA CL.length kC] 25)) := (Below.refl _ _).alloc (Nat.le_refl _) _
  have HB1 := Lib.hid (show Below w.heap.size w W1 from hW1 ▸ h1.alloc h1.size _)
  have HP1 := Lib.hid (show Blk W1 w.heap.size #[.slice nA NL.length nC, .slice kA CL.length kC] 25 from hW1 ▸ (Blk.new _ _ _).alloc _)
  have HR1 := Lib.hid (show Blk W1 (w.heap.size + 1) #[.slice none 0 0, .slice none 0 0] 43 from hW1 ▸ Blk.newAt (by simp))
  have HW1 := Lib.hid hW1
  clear hW1 h1
  go_enter Try.func13, Try.ntmps13
  go_upto_region 1 with fail
  rw [← HW1.out]
  have u1 : ∀ i, W1.cell? ⟨w.heap.size, i, none⟩ = _ := fun i => HP1.out.cell i
  have lw : w.heap.size ≤ W1.heap.size := HB1.out.size
  have lu := HP1.out.lt
  have O0 : (W1.alloc (.cells #[] 9)).ownsRow w.heap.size 9 1 (.slice (some ⟨W1.heap.size, 0, none⟩) 0 0) ([] : List ByteArray).length (encs Value.string []) := World.ownsRow_lit W1 #[] 0 lw (Nat.zero_le _) rfl
  have R0 : ReadsOf Value.string (⟨#[]⟩ : ByteArray) (W1.alloc (.cells #[] 9)) nA NL.length NL := (HN.out.below HB1.out).allocS _
  have B0 : Below w.heap.size w (W1.alloc (.cells #[] 9)) := HB1.out.alloc lw _
  have L0 : w.heap.size ≤ (W1.alloc (.cells #[] 9)).heap.size := B0.size
  have N0 : (([] : List ByteArray).length + NL.length) * 16 ≤ 140737488355328 := by simp only [List.length_nil, Nat.zero_add]; omega
  have BP : Blk (W1.alloc (.cells #[] 9)) w.heap.size #[.slice nA NL.length nC, .slice kA CL.length kC] 25 := HP1.out.alloc _
  have BR : Blk (W1.alloc (.cells #[] 9)) (w.heap.size + 1) #[.slice none 0 0, .slice none 0 0] 43 := HR1.out.alloc _
  have HO0 := Lib.hid O0
  have HR0 := Lib.hid R0
  have HB0 := Lib.hid B0
  have HL0 := Lib.hid L0
  have HN0 := Lib.hid N0
  have HBP := Lib.hid BP
  have HBR := Lib.hid BR
  clear O0 R0 B0 L0 N0 BP BR
  go_wp2_with (at_builtin; refine print_append_row_of (w0 := w) Value.string ⟨#[]⟩ w.heap.size rfl (.tmp 5) (.tmp 7) 22 9 (.string ⟨#[]⟩) 16 rfl Try.underlying22 info9 rfl (by omega) (fun _ => rfl) _ [] NL nA NL.length nC rfl rfl HO0.out HR0.out HB0.out HL0.out HN0.out ?_; intro v1 w1 ho hbl hg hat; obtain ⟨V, vn, rfl⟩ := own_slice ho; have HO1 := Lib.hid (show w1.ownsRow w.heap.size 9 1 (.slice V NL.length vn) NL.length (encs Value.string NL) from ho); have HB2 := Lib.hid hbl; have HP2 := Lib.hid (blk_grown HBP.out HO0.out (by decide) hg); have HR2 := Lib.hid (blk_grown HBR.out HO0.out (by decide) hg); have u2 : ∀ i, w1.cell? ⟨w.heap.size, i, none⟩ = _ := fun i => HP2.out.cell i; have lu2 := HP2.out.lt; clear ho hbl hg hat u1 lu)
  obtain ⟨pb, hpb⟩ : ∃ b, b = w1.heap.size := ⟨_, rfl⟩
  have lp := HB2.out.size
  have HP3 := Lib.hid (show Pg w pb (.slice V NL.length vn) (CL.take 0) (w1.alloc (.cells #[.slice V NL.length vn, .slice none 0 0] 43)) from ⟨none, 0, Blk.newAt hpb, World.ownsRow_nil _ _ _ _, HB2.out.alloc lp _, by omega⟩)
  have HQ3 := Lib.hid (HP2.out.alloc (.cells #[.slice V NL.length vn, .slice none 0 0] 43))
  have HR3 := Lib.hid (HR2.out.alloc (.cells #[.slice V NL.length vn, .slice none 0 0] 43))
  have HO3 := Lib.hid (HO1.out.alloc (.cells #[.slice V NL.length vn, .slice none 0 0] 43))
  have hne : w.heap.size + 1 ≠ pb := fun e => by
    have h3 := HR2.out.lt
    omega
  have HNE := Lib.hid hne
  rw [← hpb]
  clear hpb lp hne
  go_loopw [13] (fun i wr => ∃ k : Nat, k ≤ CL.length ∧ i = .int .i64 k ∧ Pg w pb (.slice V NL.length vn) (CL.take k) wr ∧ Blk wr w.heap.size #[.slice nA NL.length nC, .slice kA CL.length kC] 25 ∧ Blk wr (w.heap.size + 1) #[.slice none 0 0, .slice none 0 0] 43 ∧ wr.ownsRow w.heap.size 9 1 (.slice V NL.length vn) NL.length (encs Value.string NL)) (fun i _ => CL.length - (intOf i).toNat)
  case atStart => exact ⟨0, by omega, rfl, HP3.out, HQ3.out, HR3.out, HO3.out⟩
  case round =>
    obtain ⟨k, hk, rfl, ⟨A, c, hb, ho, hbl, hlo⟩, hq, hr, hn⟩ := hrel
    obtain ⟨TL, hTL⟩ : ∃ TL, TL = CL.take k := ⟨_, rfl⟩
    rw [← hTL] at hb ho
    have hlk : TL.length = k := by rw [hTL]; simp; omega
    have HTL := Lib.hid hTL
    clear hTL
    have HB := Lib.hid hb
    have HO := Lib.hid ho.drew
    have HBL := Lib.hid hbl
    have HBLD := Lib.hid hbl.drew
    have HQ := Lib.hid hq
    have HRR := Lib.hid hr
    have HNN := Lib.hid hn
    have HLK := Lib.hid hlk
    have u : ∀ i, wr.cell? ⟨pb, i, none⟩ = _ := fun i => hb.cell i
    have v : ∀ i, wr.cell? ⟨w.heap.size, i, none⟩ = _ := fun i => hq.cell i
    clear hb ho hbl hq hr hn hlk HP3 HQ3 HR3 HO3 HB2 HP2 HR2 HO1 HB0 HL0 HN0 HBP HBR HO0 HR0 u2 lu2 HB1 HP1 HR1 HW1
    by_cases hkl : k < CL.length
    · obtain ⟨b, off, rfl, q⟩ := (HC.out.below HBL.out) (by omega)
      obtain ⟨p0, p1⟩ := q k hkl
      obtain ⟨op, hop⟩ : ∃ op, op = (CL.getD k (0, 0)).1 := ⟨_, rfl⟩
      obtain ⟨arg, harg⟩ : ∃ arg, arg = (CL.getD k (0, 0)).2 := ⟨_, rfl⟩
      rw [← hop] at p0
      rw [← harg] at p1
      have HTK := Lib.hid (show CL.take (k + 1) = TL ++ [(op, arg)] by
        rw [HTL.out, hop, harg, show CL.getD k (0, 0) = CL[k] by simp [List.getD, hkl]]
        exact (List.take_append_getElem hkl).symm)
      have k0 : (0 : Int) ≤ (k : Int) := by omega
      have k1 : (k : Int) < (CL.length : Int) := by omega
      have N1 : (TL.length + 1) * 16 ≤ 140737488355328 := by rw [HLK.out]; omega
      have HN1 := Lib.hid N1
      have HOP := Lib.hid hop
      have HARG := Lib.hid harg
      clear q hop harg N1
      go_upto_region 5 with fail
      have q1 : wr.drew.cell? ⟨pb, 1, none⟩ = some (.slice A TL.length c) := u 1
      have q2 : wr.drew.cell? ⟨w.heap.size, 1, none⟩ = some (.slice (some ⟨b, off, none⟩) CL.length kC) := v 1
      have q3 : wr.drew.cell? ⟨b, off + k * 2, none⟩ = some (.int .i64 op) := p0
      have q4 : wr.drew.cell? ⟨b, off + k * 2 + 1, none⟩ = some (.int .i64 arg) := p1
      have l1 := HB.out.lt
      have l2 := HQ.out.lt
      have l3 := World.block_lt_of_cell? wr _ p0
      simp at l3
      obtain ⟨S, hSD⟩ : ∃ S : World → Prop, S = fun w' => w'.cell? ⟨pb, 1, none⟩ = some (.slice A TL.length c) ∧ w'.cell? ⟨w.heap.size, 1, none⟩ = some (.slice (some ⟨b, off, none⟩) CL.length kC) ∧ w'.cell? ⟨b, off + k * 2, none⟩ = some (.int .i64 op) ∧ w'.cell? ⟨b, off + k * 2 + 1, none⟩ = some (.int .i64 arg) := ⟨_, rfl⟩
      have HSD := Lib.hid hSD
      clear hSD
      refine Held.region S 10 (by kernel_rfl) (by rw [HSD.out]; exact ⟨q1, q2, q3, q4⟩) (fun hHeld => ?_)
      refine Held.take (i := 0) (oi := { dst := _, op := _, type := _, pos := _, after := _, guard := _ }) (v := ?v0) rfl (by kernel_rfl) (by kernel_rfl) (by kernel_rfl) (by kernel_rfl) (fun _ _ _ h => h) (Or.inl ⟨by rfl, ?hy0⟩) (by assumption) ?rest0
      case hy0 => (intro w hSw; rw [HSD.out] at hSw; (try dsimp only at hSw); go_simp; (try with_reducible rfl))
      try simp only [Act.put, List.setIfInBounds_toArray, List.set_cons_zero, List.set_cons_succ]
      refine Held.take (i := 1) (oi := { dst := _, op := _, type := _, pos := _, after := _, guard := _ }) (v := ?v1) rfl (by kernel_rfl) (by kernel_rfl) (by kernel_rfl) (by kernel_rfl) (fun _ _ _ h => h) (Or.inl ⟨by rfl, ?hy1⟩) (by assumption) ?rest1
      case hy1 => (intro w hSw; rw [HSD.out] at hSw; (try dsimp only at hSw); go_simp; (try with_reducible rfl))
      try simp only [Act.put, List.setIfInBounds_toArray, List.set_cons_zero, List.set_cons_succ]
      refine Held.take (i := 2) (oi := { dst := _, op := _, type := _, pos := _, after := _, guard := _ }) (v := ?v2) rfl (by kernel_rfl) (by kernel_rfl) (by kernel_rfl) (by kernel_rfl) (fun _ _ _ h => h) (Or.inl ⟨by rfl, ?hy2⟩) (by assumption) ?rest2
      case hy2 => (intro w hSw; rw [HSD.out] at hSw; (try dsimp only at hSw); go_simp; (try with_reducible rfl))
      try simp only [Act.put, List.setIfInBounds_toArray, List.set_cons_zero, List.set_cons_succ]
      refine Held.take (i := 3) (oi := { dst := _, op := _, type := _, pos := _, after := _, guard := _ }) (v := ?v3) rfl (by kernel_rfl) (by kernel_rfl) (by kernel_rfl) (by kernel_rfl) (fun _ _ _ h => h) (Or.inl ⟨by rfl, ?hy3⟩) (by assumption) ?rest3
      case hy3 => (intro w hSw; rw [HSD.out] at hSw; (try dsimp only at hSw); go_simp; (try with_reducible rfl))
      try simp only [Act.put, List.setIfInBounds_toArray, List.set_cons_zero, List.set_cons_succ]
      refine Held.take (i := 4) (oi := { dst := _, op := _, type := _, pos := _, after := _, guard := _ }) (v := ?v4) rfl (by kernel_rfl) (by kernel_rfl) (by kernel_rfl) (by kernel_rfl) (fun _ _ _ h => h) (Or.inl ⟨by rfl, ?hy4⟩) (by assumption) ?rest4
      case hy4 => (intro w hSw; rw [HSD.out] at hSw; (try dsimp only at hSw); go_simp; (try with_reducible rfl))
      try simp only [Act.put, List.setIfInBounds_toArray, List.set_cons_zero, List.set_cons_succ]
      refine Held.take (i := 5) (oi := { dst := _, op := _, type := _, pos := _, after := _, guard := _ }) (v := ?v5) rfl (by kernel_rfl) (by kernel_rfl) (by kernel_rfl) (by kernel_rfl) (fun _ _ _ h => h) (Or.inl ⟨by rfl, ?hy5⟩) (by assumption) ?rest5
      case hy5 => (intro w hSw; rw [HSD.out] at hSw; (try dsimp only at hSw); go_simp; (try with_reducible rfl))
      try simp only [Act.put, List.setIfInBounds_toArray, List.set_cons_zero, List.set_cons_succ]
      refine Held.take (i := 6) (oi := { dst := _, op := _, type := _, pos := _, after := _, guard := _ }) (v := ?v6) rfl (by kernel_rfl) (by kernel_rfl) (by kernel_rfl) (by kernel_rfl) (fun _ _ _ h => h) (Or.inl ⟨by rfl, ?hy6⟩) (by assumption) ?rest6
      case hy6 => (intro w hSw; rw [HSD.out] at hSw; (try dsimp only at hSw); go_simp; (try with_reducible rfl))
      try simp only [Act.put, List.setIfInBounds_toArray, List.set_cons_zero, List.set_cons_succ]
      refine Held.one (i := 7) (o := { dst := _, op := _, type := _, pos := _, after := _, guard := _ }) (by kernel_rfl) rfl (fun K hK => ?_)
      go_simp
      refine hK.out _ _ (fun _ => ?hS7) (fun hHeld2 => ?_)
      case hS7 => (rw [HSD.out]; go_keep)
      clear hK K
      replace hHeld2 := hHeld2 (by decide)
      try simp only [Act.put, List.setIfInBounds_toArray, List.set_cons_zero, List.set_cons_succ]
      refine Held.one (i := 8) (o := { dst := _, op := _, type := _, pos := _, after := _, guard := _ }) (by kernel_rfl) rfl (fun K hK => ?_)
      refine step_append_cells (w0 := w) w.heap.size (by rfl) (.tmp 17) (.tmp 23) 41 60 _ 2 16 (by rfl) Try.underlying41 info60 rfl (by omega) (by omega) _ TL.length (flatC TL) [.int .i64 op, .int .i64 arg] (by rfl) (by rfl) rfl (by simp [Value.oneCell']) HO.out HBLD.out HBLD.out.size HN1.out ?_
      intro v1 w3 ho1 hbl1 hg hat
      obtain ⟨U, un, rfl⟩ := own_slice ho1
      have HS := Lib.hid (Pg.app (i := (op, arg)) HB.out.drew HO.out hlo ho1 hbl1 hg)
      have HQ4 := Lib.hid (blk_grown HQ.out.drew HO.out (by decide) hg)
      have HR4 := Lib.hid (blk_grown HRR.out.drew HO.out (by decide) hg)
      have HN4 := Lib.hid (own_grown (World.ownsRow.drew HNN.out) HO.out (by decide) hg)
      have u3 : ∀ i, w3.cell? ⟨pb, i, none⟩ = _ := fun i => HS.out.1.cell i
      have f3 : ∀ i, w3.frozen? ⟨pb, i, none⟩ = false := fun i => HS.out.1.free i
      have l4 := HS.out.1.lt
      obtain ⟨b', off', hb', q'⟩ := (HC.out.below hbl1) (by omega)
      obtain ⟨rfl, rfl⟩ : b' = b ∧ off' = off := by injection hb' with hb'; injection hb' with hb1 hb2 _; exact ⟨hb1.symm, hb2.symm⟩
      obtain ⟨p0', p1'⟩ := q' k hkl
      rw [← HOP.out] at p0'
      rw [← HARG.out] at p1'
      have r1 : w3.cell? ⟨pb, 1, none⟩ = some (.slice A TL.length c) := u3 1
      have r2 : w3.cell? ⟨w.heap.size, 1, none⟩ = some (.slice (some ⟨b', off', none⟩) CL.length kC) := HQ4.out.cell 1
      clear ho1 hbl1 hg hat hHeld2 q'
      refine hK.out _ _ (fun _ => ?hS8) (fun hHeld3 => ?_)
      case hS8 => (rw [HSD.out]; exact ⟨r1, r2, p0', p1'⟩)
      clear hK K
      replace hHeld3 := hHeld3 (by decide)
      try simp only [Act.put, List.setIfInBounds_toArray, List.set_cons_zero, List.set_cons_succ]
      refine Held.one (i := 9) (o := { dst := _, op := _, type := _, pos := _, after := _, guard := _ }) (by kernel_rfl) rfl (fun K hK => ?_)
      go_simp
      refine hK.out _ _ (fun _ => hHeld3) (fun _ => ?_)
      clear hK K
      try simp only [Act.put, List.setIfInBounds_toArray, List.set_cons_zero, List.set_cons_succ]
      refine Held.one (i := 10) (o := { dst := _, op := _, type := _, pos := _, after := _, guard := _ }) (by kernel_rfl) rfl (fun K hK => ?_)
      go_simp
      refine hK.out _ _ (fun h => absurd rfl h) (fun _ => ?_)
      clear hK K
      refine Held.done (by kernel_rfl) ?_ _
      refine NoPanic.normal ?_
      go_wp2
      go_roundw
      case rel => exact ⟨k + 1, by omega, by go_num, by rw [HTK.out]; exact HS.out.2, HQ4.out.other (by have := HS.out.1; exact blk_apart HQ4.out HS.out.1 (by decide)) _, HR4.out.other HNE.out _, own_set HN4.out HS.out.1 (by decide) _⟩
      case measure => simp [intOf]; omega
    · obtain rfl : k = CL.length := by omega
      have hTC : TL = CL := by rw [HTL.out]; simp
      subst hTC
      have u' : ∀ i, wr.cell? ⟨pb, i, none⟩ = _ := u
      have r2 : ∀ i, wr.cell? ⟨w.heap.size + 1, i, none⟩ = _ := fun i => HRR.out.cell i
      have r3 : ∀ i, wr.frozen? ⟨w.heap.size + 1, i, none⟩ = false := fun i => HRR.out.free i
      have l1 := HRR.out.lt
      go_wp2_with fail
      have HF0 := HRR.out.set 0 (.slice V NL.length vn)
      have HF : Blk ((wr.setCell ⟨w.heap.size + 1, 0, none⟩ (.slice V NL.length vn)).setCell ⟨w.heap.size + 1, 1, none⟩ (.slice A TL.length c)) (w.heap.size + 1) #[.slice V NL.length vn, .slice A TL.length c] 43 := HF0.set 1 _
      have HOW : wr.ownsRow w.heap.size 60 2 (.slice A TL.length c) TL.length (flatC TL) := HO.out
      refine bodyPost_ret (results_single rfl (.cell (w.heap.size + 1) 43 #[.slice V NL.length vn, .slice A TL.length c] (0, 0) _ rfl HF Try.underlying43 rfl (by kernel_rfl) .nil)) rfl ?_
      have le1 : w.heap.size ≤ w.heap.size + 1 := by omega
      exact ⟨(HBL.out.setCell (p := ⟨w.heap.size + 1, 0, none⟩) le1 _).setCell (p := ⟨w.heap.size + 1, 1, none⟩) le1 _, V, vn, A, ⟨c, rfl⟩, own_reads_of' (own_set (own_set HNN.out HRR.out (by decide) _) HF0 (by decide) _), isCode_own (own_set (own_set HOW HRR.out (by decide) _) HF0 (by decide) _) rfl⟩
end Go.Proofs.Ytmmbigfeojfedaa

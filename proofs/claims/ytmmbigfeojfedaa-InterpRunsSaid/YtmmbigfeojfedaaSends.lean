/- The law InterpSends, walked. -/
import Derived.Test.YtmmbigfeojfedaaSnd0
import Derived.Deep.RegionHeld3
import Derived.Deep.RegionWith
import Derived.Deep.Onto
namespace Go.Proofs.Ytmmbigfeojfedaa
open Go.RowKit Go.Proofs.YtmmbigfeojfedaaW.PrintWords

section
variable {P : Program} {ops : Array Oper} {rest : List Oper} {o : Oper} {a : Act} {Q : Exit → Act → World → Prop}
/-- append(v, x1, .., xm), each of several cells: the goal's world is the alloc of the variadic's box. -/
theorem append_many {w0 W : World} (base m : Nat) (hgd : o.guard = none) (s x : Operand) (t e : TypeId) (z : Value) (size bytes : Nat)
    (ho : o.op = .call { callee := .builtin .append, args := #[s, x], argTypes := #[t, t] })
    (ht : P.underlying t = some (.slice e)) (hinfo : (P.info? e).map (fun i => (i.zero, i.size, i.bytes)) = some (some z, size, bytes)) (hz : z.cells.size = size) (hs0 : 0 < size)
    (v : Value) (n : Nat) (xs ys : List Value) (hs : a.eval s = v) (hx : a.eval x = .slice (some ⟨W.heap.size, 0, none⟩) m m) (hys : ys.length = m * size) (h1 : ∀ u ∈ ys, u.oneCell' = true)
    (HO : W.ownsRow base e size v n xs) (HB : Below base w0 W) (hbase : base ≤ W.heap.size) (hm : n + m ≤ maxLen) (hl : (n + m) * bytes ≤ 140737488355328)
    (h : ∀ v1 w1, w1.ownsRow base e size v1 (n + m) (xs ++ ys) → Below base w0 w1 → W.grownBy w1 v.ownBlock → wpList P ops Q rest (a.put o.dst v1) w1) :
    wpList P ops Q (o :: rest) a (W.alloc (.cells ys.toArray e)) := by
  obtain ⟨i0, hi, hzz⟩ := Option.map_eq_some_iff.1 hinfo
  simp only [Prod.mk.injEq] at hzz
  obtain ⟨hz0, hz1, hz2⟩ := hzz
  refine wpList_append_own_at (W.alloc (.cells ys.toArray e)) hgd s x t ho base e i0 z size bytes ht hi hz0 hz1 hz2 hz hs0 v n xs hs (HO.alloc _) ⟨W.heap.size, 0, none⟩ m m ys hx (by rw [hys])
    (by simpa using World.news_of_block (cs := ys.toArray) (t := e) (fr := (0, 0)) (heap_alloc_new W (.cells ys.toArray e))) h1 hm hl (by simp; omega) ?_
  intro v1 w1 hown hg _ hat
  exact h v1 w1 hown ((HB.alloc hbase _).grown hg (by simp; omega) (own_base HO)) (World.grownBy.trans (World.grownBy_alloc W _ _) hg)
end
theorem blk12 {w : World} {b d t t' : Nat} {C D : Array Value} (h : Blk w d D t') (hb : Blk w b C t) (hne : t' ≠ t) (v0 v1 v2 v3 v4 v5 v6 v7 v8 v9 v10 v11 : Value) :
    Blk ((((((((((((w.setCell ⟨b, 0, none⟩ v0).setCell ⟨b, 1, none⟩ v1).setCell ⟨b, 2, none⟩ v2).setCell ⟨b, 3, none⟩ v3).setCell ⟨b, 4, none⟩ v4).setCell ⟨b, 5, none⟩ v5).setCell ⟨b, 6, none⟩ v6).setCell ⟨b, 7, none⟩ v7).setCell ⟨b, 8, none⟩ v8).setCell ⟨b, 9, none⟩ v9).setCell ⟨b, 10, none⟩ v10).setCell ⟨b, 11, none⟩ v11) d D t' := by
  have hn := blk_apart h hb hne
  exact ((((((((((((h.other (a := ⟨b, 0, none⟩) hn v0).other (a := ⟨b, 1, none⟩) hn v1).other (a := ⟨b, 2, none⟩) hn v2).other (a := ⟨b, 3, none⟩) hn v3).other (a := ⟨b, 4, none⟩) hn v4).other (a := ⟨b, 5, none⟩) hn v5).other (a := ⟨b, 6, none⟩) hn v6).other (a := ⟨b, 7, none⟩) hn v7).other (a := ⟨b, 8, none⟩) hn v8).other (a := ⟨b, 9, none⟩) hn v9).other (a := ⟨b, 10, none⟩) hn v10).other (a := ⟨b, 11, none⟩) hn v11)
theorem encS_at : ∀ (l : List (ByteArray × Int × Int)) (j : Nat), j < l.length → (encS l)[j * 3]? = some (.string (l.getD j (⟨#[]⟩, 0, 0)).1) ∧ (encS l)[j * 3 + 1]? = some (.int .i64 (l.getD j (⟨#[]⟩, 0, 0)).2.1) ∧ (encS l)[j * 3 + 2]? = some (.int .i64 (l.getD j (⟨#[]⟩, 0, 0)).2.2)
  | [], j, h => absurd h (Nat.not_lt_zero _)
  | i :: l, 0, _ => ⟨rfl, rfl, rfl⟩
  | i :: l, j + 1, h => by
    have := encS_at l j (by simpa using h)
    rw [show (j + 1) * 3 = j * 3 + 1 + 1 + 1 by omega]
    exact this
theorem sdS_at (rep : Bool) (kd a0 a1 a2 a3 : Int) {k j : Nat} (h : j < k) : (sdS rep kd a0 a1 a2 a3 k).getD j (⟨#[]⟩, 0, 0) = (sdTo rep j, wrap64 (kd + (j : Nat)), [a0, a1, a2, a3].getD (j % 4) 0) := by
  simp [sdS, List.getD, h]
theorem sdS_len (rep : Bool) (kd a0 a1 a2 a3 : Int) (k : Nat) : (sdS rep kd a0 a1 a2 a3 k).length = k := by simp [sdS]
theorem flatC_append : ∀ (l m : List (Int × Int)), flatC (l ++ m) = flatC l ++ flatC m
  | [], _ => rfl
  | i :: l, m => by simp [flatC, flatC_append l m]
theorem Pg.apps {w0 w w1 : World} {pb c : Nat} {nv v1 : Value} {A : Option Addr} {CL L : List (Int × Int)} (hb : Blk w pb #[nv, .slice A CL.length c] 43) (h0 : w.ownsRow w0.heap.size 60 2 (.slice A CL.length c) CL.length (flatC CL)) (hlo : w0.heap.size ≤ pb)
    (ho : w1.ownsRow w0.heap.size 60 2 v1 (CL.length + L.length) (flatC CL ++ flatC L)) (hbl : Below w0.heap.size w0 w1) (hg : w.grownBy w1 (Value.slice A CL.length c).ownBlock) : Blk w1 pb #[nv, .slice A CL.length c] 43 ∧ Pg w0 pb nv (CL ++ L) (w1.setCell ⟨pb, 1, none⟩ v1) := by
  have hb1 := blk_grown hb h0 (by decide) hg
  refine ⟨hb1, ?_⟩
  obtain ⟨V, vn, rfl⟩ := own_slice ho
  have hl : (CL ++ L).length = CL.length + L.length := by simp
  refine ⟨V, vn, ?_, ?_, hbl.setCell (p := ⟨pb, 1, none⟩) hlo _, hlo⟩
  · rw [hl]
    exact hb1.set 1 _
  · rw [hl, flatC_append]
    refine own_move ho fun k hk => Below.heap_setCell _ ⟨pb, 1, none⟩ _ k fun e => ?_
    obtain ⟨cells, hc⟩ := own_typed ho k hk
    subst e
    unfold Blk at hb1
    rw [hb1] at hc
    injection hc with hc
    injection hc with _ h2 _
    exact absurd h2 (by decide)

set_option maxRecDepth 100000 in
set_option maxHeartbeats 4000000 in
theorem sends_any (x : Int) (hx : (Lit.int .u8 x).wf = true) (kd a0 a1 a2 a3 : Int) (rep : Bool) (w : World) :
    Calls Try.prog 8 #[.int .u8 x, .int .i64 kd, .agg #[.int .i64 a0, .int .i64 a1, .int .i64 a2, .int .i64 a3], .bool rep] w (fun e w' => e = .returned (.bool true) ∧ Below w.heap.size w w') := by
  simp [Lit.wf] at hx
  have hx0 : 0 ≤ x := (show IntKind.u8.min = 0 from rfl) ▸ hx.1
  have hx1 : x ≤ 255 := (show IntKind.u8.max = 255 by decide) ▸ hx.2
  obtain ⟨n, hn⟩ : ∃ n : Nat, x.tmod 7 = (n : Int) := ⟨(x.tmod 7).toNat, by have := Int.tmod_nonneg 7 hx0; omega⟩
  have hn7 : n < 7 := by have := Int.tmod_lt_of_pos x (show (0 : Int) < 7 by decide); omega
  clear hx hx0 hx1
  have hb0 : Below w.heap.size w (w.alloc (.cells #[.int .i64 a0, .int .i64 a1, .int .i64 a2, .int .i64 a3] 64)) := (Below.refl _ _).alloc (Nat.le_refl _) _
  have HA0 := Lib.hid (Blk.new w #[.int .i64 a0, .int .i64 a1, .int .i64 a2, .int .i64 a3] 64)
  have HB0 := Lib.hid hb0
  clear hb0
  go_enter Try.func8, Try.ntmps8
  go_wp2_with fail
  refine (awake_any _).mono ?_
  rintro e w1 ⟨rfl, hb1⟩
  have HB1 := Lib.hid (HB0.out.trans (hb1.mono HB0.out.size))
  have HA1 := Lib.hid (HA0.out.below hb1)
  clear hb1 HA0 HB0
  go_wp2_with fail
  obtain ⟨nb, hnb⟩ : ∃ b, b = w1.heap.size := ⟨_, rfl⟩
  obtain ⟨pb, hpb⟩ : ∃ b, b = w1.heap.size + 1 := ⟨_, rfl⟩
  obtain ⟨ab, hab⟩ : ∃ b, b = w.heap.size := ⟨_, rfl⟩
  have HP0 := Lib.hid (show Pg w pb (.slice (some ⟨nb, 0, none⟩) 1 1) (sdL rep kd 0) ((w1.alloc (.cells #[.string ⟨#[98]⟩] 9)).alloc (.cells #[.slice (some ⟨nb, 0, none⟩) 1 1, .slice none 0 0] 43)) from
    ⟨none, 0, Blk.newAt (by simp [hpb]), World.ownsRow_nil _ _ _ _, (HB1.out.alloc HB1.out.size _).alloc (by have := HB1.out.size; simp; omega) _, by have := HB1.out.size; omega⟩)
  have HN0 := Lib.hid (show Blk ((w1.alloc (.cells #[.string ⟨#[98]⟩] 9)).alloc (.cells #[.slice (some ⟨nb, 0, none⟩) 1 1, .slice none 0 0] 43)) nb #[.string ⟨#[98]⟩] 9 from (Blk.newAt hnb).alloc _)
  have HA2 := Lib.hid (show Blk ((w1.alloc (.cells #[.string ⟨#[98]⟩] 9)).alloc (.cells #[.slice (some ⟨nb, 0, none⟩) 1 1, .slice none 0 0] 43)) ab #[.int .i64 a0, .int .i64 a1, .int .i64 a2, .int .i64 a3] 64 from hab ▸ ((HA1.out.alloc _).alloc _))
  rw [← hpb, ← hnb]
  rw [← hab]
  clear hpb hnb hab
  go_loopw [23] (fun i wr => ∃ k : Nat, k ≤ n ∧ i = .int .i64 k ∧ Pg w pb (.slice (some ⟨nb, 0, none⟩) 1 1) (sdL rep kd k) wr ∧ Blk wr nb #[.string ⟨#[98]⟩] 9 ∧ Blk wr ab #[.int .i64 a0, .int .i64 a1, .int .i64 a2, .int .i64 a3] 64) (fun i _ => n - (intOf i).toNat)
  case atStart => exact ⟨0, by omega, rfl, HP0.out, HN0.out, HA2.out⟩
  case round =>
    obtain ⟨k, hk, rfl, ⟨A, c, hb, ho, hbl, hlo⟩, hnn, haa⟩ := hrel
    have HB := Lib.hid hb
    have HO := Lib.hid ho
    have HBL := Lib.hid hbl
    have HL := Lib.hid (sdL_len rep kd k)
    have HN := Lib.hid hnn
    have HA := Lib.hid haa
    have u : ∀ i, wr.cell? ⟨pb, i, none⟩ = _ := fun i => hb.cell i
    have lu := hb.lt
    have hlen := ho.1
    clear hb ho hbl hnn haa HP0 HN0 HA2 HA1 HB1 hlen
    by_cases hkn : k < n
    · have t2 : ((k : Int) % 2 == 1) = (k % 2 == 1) := by rw [Bool.eq_iff_iff]; simp; omega
      go_upto_region 8 with fail
      go_cut [31] (fun v wx => v = .bool (rep && k % 2 == 1) ∧ wx = wr)
      case first =>
        cases rep
        · go_wp2
          go_meet
          exact ⟨rfl, rfl⟩
        · go_wp2
          go_meet
          exact ⟨rfl, rfl⟩
      obtain ⟨rfl, rfl⟩ := hcut
      obtain ⟨wq, hwq⟩ : ∃ z, z = wc := ⟨_, rfl⟩
      subst hwq
      go_upto_if 31 with fail
      go_cut [11] (fun v wx => v = .int .i64 (sdOp rep k) ∧ wx = wq)
      case first =>
        cases hp : (rep && k % 2 == 1)
        all_goals
          go_wp2
          go_meet
          simp [sdOp, hp]
      obtain ⟨rfl, rfl⟩ := hcut
      obtain ⟨wr, hwr⟩ : ∃ z, z = wc := ⟨_, rfl⟩
      subst hwr
      clear t2
      go_wp2_with (at_builtin; refine append_many (w0 := w) w.heap.size 3 rfl (.tmp 33) (.tmp 43) 41 60 _ 2 16 rfl Try.underlying41 info60 rfl (by omega) _ (sdL rep kd k).length (flatC (sdL rep kd k)) [.int .i64 1, .int .i64 (wrap64 (kd + (k : Int))), .int .i64 4, .int .i64 ((k : Int) % 4), .int .i64 (sdOp rep k), .int .i64 0] rfl rfl rfl (by simp [Value.oneCell']) HO.out HBL.out HBL.out.size (by have := HL.out; simp only [maxLen]; omega) (by have := HL.out; omega) ?_; intro v1 w3 ho1 hbl1 hg; obtain ⟨V, vn, rfl⟩ := own_slice ho1; have HS := Lib.hid (Pg.apps (L := sdI rep kd k) HB.out HO.out hlo ho1 hbl1 hg); have HN3 := Lib.hid (blk_grown HN.out HO.out (by decide) hg); have HA3 := Lib.hid (blk_grown HA.out HO.out (by decide) hg); have u3 : ∀ i, w3.cell? ⟨pb, i, none⟩ = _ := fun i => HS.out.1.cell i; have f3 : ∀ i, w3.frozen? ⟨pb, i, none⟩ = false := fun i => HS.out.1.free i; have l3 := HS.out.1.lt; clear ho1 hbl1 hg u lu)
      refine ⟨⟨k + 1, by omega, by simp, HS.out.2, HN3.out.other ?_ _, HA3.out.other ?_ _⟩, ?_⟩
      · exact blk_apart HN3.out HS.out.1 (by decide)
      · exact blk_apart HA3.out HS.out.1 (by decide)
      simp [intOf]
      omega
    · obtain rfl : k = n := by omega
      obtain ⟨w5, hw5⟩ : ∃ z, z = wr := ⟨_, rfl⟩
      subst hw5
      go_upto_region 12 with fail
      have p0 : w5.cell? ⟨pb, 0, none⟩ = some (.slice (some ⟨nb, 0, none⟩) 1 1) := u 0
      have p1 : w5.cell? ⟨pb, 1, none⟩ = some (.slice A (sdL rep kd k).length c) := u 1
      clear u hk hkn
      by_cases h4 : 4 < k
      · have d4 : decide ((4 : Int) < (k : Int)) = true := decide_eq_true (by omega)
        have HC := fun (W : World) hN hA hC => sd_runB nb ab A c rep kd a0 a1 a2 a3 W k 9 64 hn7 h4 hN hA hC
        go_cut [12, 13] (fun v12 v13 wx => ∃ rb, v12 = .pointer (some ⟨rb, 0, none⟩) ∧ v13 = .int .i64 12 ∧ Blk wx rb (resC (fun _ => 0) (.slice none 0 0) (.slice none 0 0) (.slice none 0 0) 15) 37 ∧ Below w.heap.size w wx)
        case first =>
          go_region_with (go_at_call 12; first | ((with_reducible refine (HC w5.drew HN.out.drew HA.out.drew (isCode_own HO.out.drew rfl)).mono ?_); have BX : Below w5.heap.size w5 w5.drew := (Below.refl _ _).drew; rintro e w6 ⟨rfl, hb6⟩; have hb7 := BX.trans (hb6.mono BX.size); have HB6 := Lib.hid (HBL.out.trans (hb7.mono HBL.out.size)); have HA6 := Lib.hid (HA.out.below hb7); clear hb6 hb7 BX; unfold resC) | ((with_reducible refine (HC ((w5.alloc (.cells (resC (fun _ => 0) (.slice none 0 0) (.slice none 0 0) (.slice none 0 0) 0) 37)).drew) (HN.out.alloc _).drew (HA.out.alloc _).drew (isCode_own (HO.out.alloc _).drew rfl)).mono ?_); have BX : Below w5.heap.size w5 ((w5.alloc (.cells (resC (fun _ => 0) (.slice none 0 0) (.slice none 0 0) (.slice none 0 0) 0) 37)).drew) := ((Below.refl _ _).alloc (Nat.le_refl _) _).drew; rintro e w6 ⟨rfl, hb6⟩; have hb7 := BX.trans (hb6.mono BX.size); have HB6 := Lib.hid (HBL.out.trans (hb7.mono HBL.out.size)); have HA6 := Lib.hid (HA.out.below hb7); have HZ := Lib.hid (Blk.below (Blk.drew (Blk.new w5 (resC (fun _ => 0) (.slice none 0 0) (.slice none 0 0) (.slice none 0 0) 0) 37)) hb6); have z : ∀ i, w6.cell? ⟨w5.heap.size, i, none⟩ = _ := fun i => HZ.out.cell i; have zf : ∀ i, w6.frozen? ⟨w5.heap.size, i, none⟩ = false := fun i => HZ.out.free i; have zl := HZ.out.lt; unfold resC at z; clear hb6 hb7 BX; unfold resC))
          · go_wp2
            go_meet
            exact ⟨_, rfl, rfl, Blk.newAt rfl, HB6.out.alloc HB6.out.size _⟩
          · go_wp2
            go_meet
            exact ⟨_, rfl, rfl, HZ.out.twelve rfl _ _ _ _ _ _ _ _ _ _ _ _, below12 HB6.out HBL.out.size _ _ _ _ _ _ _ _ _ _ _ _⟩
          · go_wp2
            go_meet
            exact ⟨_, rfl, rfl, HZ.out.twelve rfl _ _ _ _ _ _ _ _ _ _ _ _, below12 HB6.out HBL.out.size _ _ _ _ _ _ _ _ _ _ _ _⟩
        obtain ⟨rb, rfl, rfl, hrb, hbx⟩ := hcut
        have HB7 := Lib.hid hbx
        have v : ∀ i, wc.cell? ⟨rb, i, none⟩ = _ := fun i => hrb.cell i
        unfold resC at v
        clear hbx HC
        go_wp2
        go_ret
        exact ⟨rfl, HB7.out⟩
      · have d4 : decide ((4 : Int) < (k : Int)) = false := decide_eq_false (by omega)
        have HC := fun (W : World) hN hA hC => sd_runG nb ab A c rep kd a0 a1 a2 a3 W k 9 64 h4 hN hA hC
        go_cut [12, 13] (fun v12 v13 wx => ∃ (rb : Nat) (R : St) (eA : Option Addr) (eC : Nat) (sA : Option Addr) (sC : Nat) (tA : Option Addr) (tC : Nat), v12 = .pointer (some ⟨rb, 0, none⟩) ∧ v13 = .int .i64 0 ∧ Blk wx rb (resC R.reg (.slice eA R.ev.length eC) (.slice sA R.sent.length sC) (.slice tA R.tm.length tC) R.steps) 37 ∧ Below w.heap.size w wx ∧ R.sent = sdS rep kd a0 a1 a2 a3 k ∧ wx.ownsRow w5.heap.size 66 3 (.slice sA R.sent.length sC) R.sent.length (encS R.sent) ∧ Blk wx ab #[.int .i64 a0, .int .i64 a1, .int .i64 a2, .int .i64 a3] 64)
        case first =>
          go_region_with (go_at_call 12; first | ((with_reducible refine (HC w5.drew HN.out.drew HA.out.drew (isCode_own HO.out.drew rfl)).mono ?_); have BX : Below w5.heap.size w5 w5.drew := (Below.refl _ _).drew; rintro e w6 ⟨R, e1, eA, eC, sA, sC, tA, tC, rfl, hb6, -, o2, -⟩; have hb7 := BX.trans (hb6.mono BX.size); have HB6 := Lib.hid (HBL.out.trans (hb7.mono HBL.out.size)); have HA6 := Lib.hid (HA.out.below hb7); have HO2 := Lib.hid (World.ownsRow.mono o2 BX.size); have HE1 := Lib.hid e1; clear e1 o2; clear hb6 hb7 BX; unfold resC) | ((with_reducible refine (HC ((w5.alloc (.cells (resC (fun _ => 0) (.slice none 0 0) (.slice none 0 0) (.slice none 0 0) 0) 37)).drew) (HN.out.alloc _).drew (HA.out.alloc _).drew (isCode_own (HO.out.alloc _).drew rfl)).mono ?_); have BX : Below w5.heap.size w5 ((w5.alloc (.cells (resC (fun _ => 0) (.slice none 0 0) (.slice none 0 0) (.slice none 0 0) 0) 37)).drew) := ((Below.refl _ _).alloc (Nat.le_refl _) _).drew; rintro e w6 ⟨R, e1, eA, eC, sA, sC, tA, tC, rfl, hb6, -, o2, -⟩; have hb7 := BX.trans (hb6.mono BX.size); have HB6 := Lib.hid (HBL.out.trans (hb7.mono HBL.out.size)); have HA6 := Lib.hid (HA.out.below hb7); have HO2 := Lib.hid (World.ownsRow.mono o2 BX.size); have HE1 := Lib.hid e1; clear e1 o2; have HZ := Lib.hid (Blk.below (Blk.drew (Blk.new w5 (resC (fun _ => 0) (.slice none 0 0) (.slice none 0 0) (.slice none 0 0) 0) 37)) hb6); have z : ∀ i, w6.cell? ⟨w5.heap.size, i, none⟩ = _ := fun i => HZ.out.cell i; have zf : ∀ i, w6.frozen? ⟨w5.heap.size, i, none⟩ = false := fun i => HZ.out.free i; have zl := HZ.out.lt; unfold resC at z; clear hb6 hb7 BX; unfold resC))
          · go_wp2
            go_meet
            exact ⟨_, R, eA, eC, sA, sC, tA, tC, rfl, rfl, Blk.newAt rfl, HB6.out.alloc HB6.out.size _, HE1.out, HO2.out.alloc _, HA6.out.alloc _⟩
          · go_wp2
            go_meet
            exact ⟨_, R, eA, eC, sA, sC, tA, tC, rfl, rfl, HZ.out.twelve rfl _ _ _ _ _ _ _ _ _ _ _ _, below12 HB6.out HBL.out.size _ _ _ _ _ _ _ _ _ _ _ _, HE1.out, own12 HO2.out HZ.out (by decide) _ _ _ _ _ _ _ _ _ _ _ _, blk12 HA6.out HZ.out (by decide) _ _ _ _ _ _ _ _ _ _ _ _⟩
          · go_wp2
            go_meet
            exact ⟨_, R, eA, eC, sA, sC, tA, tC, rfl, rfl, HZ.out.twelve rfl _ _ _ _ _ _ _ _ _ _ _ _, below12 HB6.out HBL.out.size _ _ _ _ _ _ _ _ _ _ _ _, HE1.out, own12 HO2.out HZ.out (by decide) _ _ _ _ _ _ _ _ _ _ _ _, blk12 HA6.out HZ.out (by decide) _ _ _ _ _ _ _ _ _ _ _ _⟩
        obtain ⟨rb, R, eA, eC, sA, sC, tA, tC, rfl, rfl, hrb, hbx, hRs, ho2, hax⟩ := hcut
        have HB7 := Lib.hid hbx
        have HO2 := Lib.hid ho2
        have HA7 := Lib.hid hax
        have v : ∀ i, wc.cell? ⟨rb, i, none⟩ = _ := fun i => hrb.cell i
        unfold resC at v
        clear hbx ho2 hax HC
        have hlen : R.sent.length = k := by rw [hRs]; simp [sdS]
        rw [hlen] at v HO2
        rw [hRs] at HO2
        clear hRs hlen
        have hv : ∀ i, wc.cell? ⟨ab, i, none⟩ = _ := fun i => HA7.out.cell i
        clear HA7 hrb
        go_wp2_with fail
        go_loopw [85] (fun i wr => ∃ j m : Nat, j ≤ k ∧ i = .int .i64 j ∧ wr = wc.drewN m) (fun i _ => k - (intOf i).toNat)
        case atStart => exact ⟨0, 0, by omega, rfl, rfl⟩
        case round =>
          obtain ⟨j, m, hj, rfl, rfl⟩ := hrel
          by_cases hjk : j < k
          · obtain ⟨g, rfl, _, lg, hc⟩ := own_cells HO2.out (show 0 < k by omega)
            have v' : ∀ i, (wc.drewN m).cell? ⟨rb, i, none⟩ = _ := v
            match rep, j, hjk, HO2 with
            | false, 0, hjk, HO3 =>
              obtain ⟨t0, t1, t2⟩ := encS_at (sdS false kd a0 a1 a2 a3 k) 0 (by rw [sdS_len]; exact hjk)
              rw [sdS_at false kd a0 a1 a2 a3 hjk] at t0 t1 t2
              have c0 : wc.cell? ⟨g, 0, none⟩ = some (.string ⟨#[98]⟩) := (hc 0 (by omega)).trans t0
              have c1 : wc.cell? ⟨g, 1, none⟩ = some (.int .i64 (wrap64 (kd + 0))) := (hc 1 (by omega)).trans t1
              have c2 : wc.cell? ⟨g, 2, none⟩ = some (.int .i64 a0) := (hc 2 (by omega)).trans t2
              have kl : ((0 : Nat) : Int) < (k : Int) := by omega
              clear t0 t1 t2 hc HO3
              go_wp2_with fail
              go_quiet (fail)
              go_wp2
              refine ⟨⟨1, _, by omega, rfl, rfl⟩, ?_⟩
              simp [intOf]
              omega
            | false, 1, hjk, HO3 =>
              obtain ⟨t0, t1, t2⟩ := encS_at (sdS false kd a0 a1 a2 a3 k) 1 (by rw [sdS_len]; exact hjk)
              rw [sdS_at false kd a0 a1 a2 a3 hjk] at t0 t1 t2
              have c0 : wc.cell? ⟨g, 3, none⟩ = some (.string ⟨#[98]⟩) := (hc 3 (by omega)).trans t0
              have c1 : wc.cell? ⟨g, 4, none⟩ = some (.int .i64 (wrap64 (kd + 1))) := (hc 4 (by omega)).trans t1
              have c2 : wc.cell? ⟨g, 5, none⟩ = some (.int .i64 a1) := (hc 5 (by omega)).trans t2
              have kl : ((1 : Nat) : Int) < (k : Int) := by omega
              clear t0 t1 t2 hc HO3
              go_wp2_with fail
              go_quiet (fail)
              go_wp2
              refine ⟨⟨2, _, by omega, rfl, rfl⟩, ?_⟩
              simp [intOf]
              omega
            | false, 2, hjk, HO3 =>
              obtain ⟨t0, t1, t2⟩ := encS_at (sdS false kd a0 a1 a2 a3 k) 2 (by rw [sdS_len]; exact hjk)
              rw [sdS_at false kd a0 a1 a2 a3 hjk] at t0 t1 t2
              have c0 : wc.cell? ⟨g, 6, none⟩ = some (.string ⟨#[98]⟩) := (hc 6 (by omega)).trans t0
              have c1 : wc.cell? ⟨g, 7, none⟩ = some (.int .i64 (wrap64 (kd + 2))) := (hc 7 (by omega)).trans t1
              have c2 : wc.cell? ⟨g, 8, none⟩ = some (.int .i64 a2) := (hc 8 (by omega)).trans t2
              have kl : ((2 : Nat) : Int) < (k : Int) := by omega
              clear t0 t1 t2 hc HO3
              go_wp2_with fail
              go_quiet (fail)
              go_wp2
              refine ⟨⟨3, _, by omega, rfl, rfl⟩, ?_⟩
              simp [intOf]
              omega
            | false, 3, hjk, HO3 =>
              obtain ⟨t0, t1, t2⟩ := encS_at (sdS false kd a0 a1 a2 a3 k) 3 (by rw [sdS_len]; exact hjk)
              rw [sdS_at false kd a0 a1 a2 a3 hjk] at t0 t1 t2
              have c0 : wc.cell? ⟨g, 9, none⟩ = some (.string ⟨#[98]⟩) := (hc 9 (by omega)).trans t0
              have c1 : wc.cell? ⟨g, 10, none⟩ = some (.int .i64 (wrap64 (kd + 3))) := (hc 10 (by omega)).trans t1
              have c2 : wc.cell? ⟨g, 11, none⟩ = some (.int .i64 a3) := (hc 11 (by omega)).trans t2
              have kl : ((3 : Nat) : Int) < (k : Int) := by omega
              clear t0 t1 t2 hc HO3
              go_wp2_with fail
              go_quiet (fail)
              go_wp2
              refine ⟨⟨4, _, by omega, rfl, rfl⟩, ?_⟩
              simp [intOf]
              omega
            | true, 0, hjk, HO3 =>
              obtain ⟨t0, t1, t2⟩ := encS_at (sdS true kd a0 a1 a2 a3 k) 0 (by rw [sdS_len]; exact hjk)
              rw [sdS_at true kd a0 a1 a2 a3 hjk] at t0 t1 t2
              have c0 : wc.cell? ⟨g, 0, none⟩ = some (.string ⟨#[98]⟩) := (hc 0 (by omega)).trans t0
              have c1 : wc.cell? ⟨g, 1, none⟩ = some (.int .i64 (wrap64 (kd + 0))) := (hc 1 (by omega)).trans t1
              have c2 : wc.cell? ⟨g, 2, none⟩ = some (.int .i64 a0) := (hc 2 (by omega)).trans t2
              have kl : ((0 : Nat) : Int) < (k : Int) := by omega
              clear t0 t1 t2 hc HO3
              go_wp2_with fail
              go_quiet (fail)
              go_wp2
              refine ⟨⟨1, _, by omega, rfl, rfl⟩, ?_⟩
              simp [intOf]
              omega
            | true, 1, hjk, HO3 =>
              obtain ⟨t0, t1, t2⟩ := encS_at (sdS true kd a0 a1 a2 a3 k) 1 (by rw [sdS_len]; exact hjk)
              rw [sdS_at true kd a0 a1 a2 a3 hjk] at t0 t1 t2
              have c0 : wc.cell? ⟨g, 3, none⟩ = some (.string ⟨#[109, 101]⟩) := (hc 3 (by omega)).trans t0
              have c1 : wc.cell? ⟨g, 4, none⟩ = some (.int .i64 (wrap64 (kd + 1))) := (hc 4 (by omega)).trans t1
              have c2 : wc.cell? ⟨g, 5, none⟩ = some (.int .i64 a1) := (hc 5 (by omega)).trans t2
              have kl : ((1 : Nat) : Int) < (k : Int) := by omega
              clear t0 t1 t2 hc HO3
              go_wp2_with fail
              go_quiet (fail)
              go_wp2
              refine ⟨⟨2, _, by omega, rfl, rfl⟩, ?_⟩
              simp [intOf]
              omega
            | true, 2, hjk, HO3 =>
              obtain ⟨t0, t1, t2⟩ := encS_at (sdS true kd a0 a1 a2 a3 k) 2 (by rw [sdS_len]; exact hjk)
              rw [sdS_at true kd a0 a1 a2 a3 hjk] at t0 t1 t2
              have c0 : wc.cell? ⟨g, 6, none⟩ = some (.string ⟨#[98]⟩) := (hc 6 (by omega)).trans t0
              have c1 : wc.cell? ⟨g, 7, none⟩ = some (.int .i64 (wrap64 (kd + 2))) := (hc 7 (by omega)).trans t1
              have c2 : wc.cell? ⟨g, 8, none⟩ = some (.int .i64 a2) := (hc 8 (by omega)).trans t2
              have kl : ((2 : Nat) : Int) < (k : Int) := by omega
              clear t0 t1 t2 hc HO3
              go_wp2_with fail
              go_quiet (fail)
              go_wp2
              refine ⟨⟨3, _, by omega, rfl, rfl⟩, ?_⟩
              simp [intOf]
              omega
            | true, 3, hjk, HO3 =>
              obtain ⟨t0, t1, t2⟩ := encS_at (sdS true kd a0 a1 a2 a3 k) 3 (by rw [sdS_len]; exact hjk)
              rw [sdS_at true kd a0 a1 a2 a3 hjk] at t0 t1 t2
              have c0 : wc.cell? ⟨g, 9, none⟩ = some (.string ⟨#[109, 101]⟩) := (hc 9 (by omega)).trans t0
              have c1 : wc.cell? ⟨g, 10, none⟩ = some (.int .i64 (wrap64 (kd + 3))) := (hc 10 (by omega)).trans t1
              have c2 : wc.cell? ⟨g, 11, none⟩ = some (.int .i64 a3) := (hc 11 (by omega)).trans t2
              have kl : ((3 : Nat) : Int) < (k : Int) := by omega
              clear t0 t1 t2 hc HO3
              go_wp2_with fail
              go_quiet (fail)
              go_wp2
              refine ⟨⟨4, _, by omega, rfl, rfl⟩, ?_⟩
              simp [intOf]
              omega
            | _, j + 4, hjk, _ => exact absurd hjk (by omega)
          · obtain rfl : j = k := by omega
            go_wp2_with fail
            go_ret
            exact ⟨rfl, below_drewN HB7.out _⟩
end Go.Proofs.Ytmmbigfeojfedaa

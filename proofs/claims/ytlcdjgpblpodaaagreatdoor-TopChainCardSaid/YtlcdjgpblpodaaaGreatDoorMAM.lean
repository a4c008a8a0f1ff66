/- Jour4, Jour5, Map1 -/
import Derived.Test.YtlcdjgpblpodaaaGreatDoorMAL
import Derived.RegionTactic
import Derived.Shelf.GgClosure.Gives
import Derived.Maps.OwnSet
import Derived.Maps.OwnOps
namespace Go.Proofs.YtlcdjgpblpodaaaGreatDoor
open Go.RowKit Go.Proofs.YtlcdjgpblpodaaaGreatDoorW.PrintWords

theorem evC_length : ∀ es : List (Nat × Int), (evC es).length = es.length * 2
  | [] => rfl
  | e :: r => by simp [evC, evC_length r]; omega
theorem evC_one : ∀ es : List (Nat × Int), ∀ u ∈ evC es, u.oneCell' = true
  | [], u, h => by simp [evC] at h
  | e :: r, u, h => by
    simp only [evC, List.mem_cons] at h
    rcases h with rfl | rfl | h
    · rfl
    · rfl
    · exact evC_one r u h
theorem evC_drop : ∀ (es : List (Nat × Int)) (n : Nat), evC (es.drop n) = (evC es).drop (n * 2)
  | es, 0 => by simp
  | [], n + 1 => by simp [evC]
  | e :: r, n + 1 => by
    rw [List.drop_succ_cons, evC_drop r n, evC, show (n + 1) * 2 = n * 2 + 1 + 1 by omega, List.drop_succ_cons, List.drop_succ_cons]
/-- A slice of events that is read. -/
def EvAt (w : World) (A : Option Addr) (es : List (Nat × Int)) : Prop := es ≠ [] → ∃ b off, A = some ⟨b, off, none⟩ ∧ ∀ j u, (evC es)[j]? = some u → w.cell? ⟨b, off + j, none⟩ = some u
theorem clone235 (A : Option Addr) (c : Nat) (es : List (Nat × Int)) (w : World) (hr : EvAt w A es) (hs : ∀ a, A = some a → a.spot = none) (hl : es.length ≤ 1048576) :
    Calls Tryz.prog 235 #[.slice A es.length c] w fun e w' => ∃ A' c', e = .returned (.slice A' es.length c') ∧ w'.ownsRow w.heap.size 146 2 (.slice A' es.length c') es.length (evC es) ∧ Below w.heap.size w w' := by
  cases A with
  | none =>
    obtain rfl : es = [] := by
      cases es with
      | nil => rfl
      | cons x r =>
        obtain ⟨b, off, ha, _⟩ := hr (by simp)
        cases ha
    exact (AnyE.slices_Clone_nil Tryz.cl235 0 c w).mono fun e w' q => ⟨none, 0, q.1, own_nil _ _ _ _, q.2 ▸ Below.refl _ _⟩
  | some a =>
    obtain ⟨b, off, sp⟩ := a
    obtain rfl : sp = none := hs _ rfl
    obtain ⟨i0, z0, hi, hz0, hz1, hz2, hz3⟩ := info_big info146
    refine (AnyE.slices_Clone Tryz.cl235 i0 z0 2 16 hi hz0 hz1 hz2 hz3 (by decide) (size_run hi hz1) b off es.length c (evC es) w (evC_length es) (by unfold maxLen; omega) (by omega) ?_ (evC_one es)).mono ?_
    · intro j u hu
      obtain ⟨b', off', ha, h⟩ := hr (by rintro rfl; simp [evC] at hu)
      obtain ⟨rfl, rfl⟩ : b = b' ∧ off = off' := by simpa using ha
      exact h j u hu
    · rintro e w' ⟨v, rfl, h1, _, h3⟩
      obtain ⟨A', c', rfl⟩ := own_slice h1
      exact ⟨A', c', rfl, h1, h3⟩
theorem cut_ev_hi (A : Option Addr) (n c m : Nat) (hm : m ≤ c) : ∀ W : World, (Instr.slice 142 (.slice A n c) none (some (.int .i64 (m : Int))) none).run Tryz.prog W = .ok (.slice A m c) W := by
  intro W
  obtain ⟨i0, z0, hi, hz0, hz1, hz2, hz3⟩ := info_big info146
  have hel : Tryz.prog.elem 142 = 146 := by simp [Program.elem, Tryz.underlying142]
  have hu : Tryz.prog.underlying 142 = some (.slice (Tryz.prog.elem 142)) := by rw [hel]; exact Tryz.underlying142
  have ha : (A.map fun x => x.add 0) = A := by cases A <;> simp [Addr.add]
  rw [run_slice_h W 142 A n c hu .i64 (m : Int) (Int.natCast_nonneg _) (by omega), hel]
  simp [sizeOf, typeInfo, hi, hz1, sliced, Result.andThen, ha]
theorem cut_ev_lo (A : Option Addr) (n c m : Nat) (hm : m ≤ n) (hc : n ≤ c) (hs : ∀ a, A = some a → a.spot = none) :
    ∃ A' : Option Addr, (∀ W : World, (Instr.slice 142 (.slice A n c) (some (.int .i64 (m : Int))) none none).run Tryz.prog W = .ok (.slice A' (n - m) (c - m)) W) ∧ (∀ a, A' = some a → a.spot = none) ∧ (m < n → ∀ b off, A = some ⟨b, off, none⟩ → A' = some ⟨b, off + m * 2, none⟩) := by
  obtain ⟨i0, z0, hi, hz0, hz1, hz2, hz3⟩ := info_big info146
  refine ⟨if c = m then A else A.map (·.add (m * 2)), fun W => ?_, fun a ha => ?_, fun h b off hA => ?_⟩
  · have hel : Tryz.prog.elem 142 = 146 := by simp [Program.elem, Tryz.underlying142]
    have hu : Tryz.prog.underlying 142 = some (.slice (Tryz.prog.elem 142)) := by rw [hel]; exact Tryz.underlying142
    rw [run_slice_l W 142 A n c hu .i64 (m : Int) (Int.natCast_nonneg _) (by omega), hel]
    simp [sizeOf, typeInfo, hi, hz1, sliced, Result.andThen]
  · split at ha
    · exact hs a ha
    · cases A with
      | none => cases ha
      | some b =>
        have := hs b rfl
        simp at ha
        subst ha
        obtain ⟨bb, oo, sp⟩ := b
        simp at this
        subst this
        rw [Go.WideShapes.add_plain]
  · rw [if_neg (by omega), hA]
    simp [Go.WideShapes.add_plain]
/-- A journal's first n events done to its base. -/
def foldJ (n : Nat) (j : Jour) : Jour := { j with base := setTo j.base (j.events.take n), events := j.events.drop n }
set_option maxRecDepth 100000 in
set_option maxHeartbeats 1000000 in
theorem fold_any (X : Nat → Prop) (jb : Nat) (j : Jour) (v2 : j.base.length = 8) (v3 : j.events.length ≤ 1000) (hev8 : ∀ e ∈ j.events, e.1 < 8) (n : Nat) (hn : n ≤ j.events.length) (w : World) (h : JourAt w X jb j) :
    Calls Tryz.prog 178 #[.pointer (some ⟨jb, 0, none⟩), .int .i64 n] w fun e w' => e = .returned (.tuple #[]) ∧ JourAt w' (fun k => X k ∨ w.heap.size ≤ k) jb (foldJ n j) ∧ Chg (fun k => k = jb) w w' := by
  obtain ⟨E, c, h1, h2, h3, h4⟩ := h
  have c8 : w.cell? ⟨jb, 8, none⟩ = some (.slice E j.events.length c) := (h2.cell 8).trans (jcells_ev _ _ _ v2)
  have hle := own_le h3
  have hsp := own_spot h3
  have hcut := cut_ev_hi E j.events.length c n (by omega)
  obtain ⟨E', hcut2, hsp', hE'⟩ := cut_ev_lo E j.events.length c n hn hle hsp
  have HCUT2 := Lib.hid hcut2
  have HSP := Lib.hid hsp'
  have HEE := Lib.hid hE'
  have HV := Lib.hid hev8
  have HX := Lib.hid h1
  have HX4 := Lib.hid h4
  have HJ := Lib.hid h2
  have HO := Lib.hid h3
  have HNO := Lib.hid (show ∀ k, (Value.slice E j.events.length c).ownBlock = some k → ¬ k = jb from fun k hk e => own_block_ne h3 h2 (by decide) (e ▸ hk))
  clear h1 h2 h3 h4 hcut2 hsp hsp' hE' hev8
  go_enter Tryz.func178, Tryz.ntmps178
  go_wp2_with fail
  go_loopw [13] (fun s wr => ∃ k : Nat, s = .int .i64 k ∧ k ≤ n ∧ Blk wr jb (jcells (setTo j.base (j.events.take k)) (.slice E j.events.length c) (.int .u64 j.version)) 144 ∧ Chg (fun k => k = jb) w wr) (fun s _ => n - (intOf s).toNat)
  case atStart => exact ⟨0, rfl, by omega, HJ.out, Chg.refl _ _⟩
  case round =>
    obtain ⟨k, rfl, hk, hs, hc⟩ := hrel
    by_cases hkl : k < n
    · obtain ⟨ev, hev⟩ : ∃ ev, j.events[k]? = some ev := ⟨_, List.getElem?_eq_getElem (by omega)⟩
      have v8 := HV.out ev (List.mem_of_getElem? hev)
      obtain ⟨g1, g2⟩ := evC_get j.events k ev hev
      obtain ⟨gb, hgE, _, _, hcell⟩ := own_cell (hc.owns HO.out HNO.out) (by omega)
      have q0 := hcell _ _ g1
      have q1 := hcell _ _ g2
      subst hgE
      have htk : setTo j.base (j.events.take (k + 1)) = (setTo j.base (j.events.take k)).set ev.1 ev.2 := by
        rw [List.take_add_one, hev]
        exact setTo_snoc _ _ _
      have hl8 : (setTo j.base (j.events.take k)).length = 8 := by rw [setTo_len, v2]
      obtain ⟨Bs, hBs⟩ : ∃ B, B = setTo j.base (j.events.take k) := ⟨_, rfl⟩
      rw [← hBs] at hs htk hl8
      obtain ⟨rg, hrg⟩ : ∃ rg, rg = ev.1 := ⟨_, rfl⟩
      obtain ⟨vl, hvl⟩ : ∃ vl, vl = ev.2 := ⟨_, rfl⟩
      rw [← hrg] at v8 q0 htk
      rw [← hvl] at q1 htk
      have c1 : wr.cell? ⟨jb, rg, none⟩ = some (.int .i64 (Bs.getD rg 0)) := (hs.cell rg).trans (jcells_base _ _ _ _ (by omega))
      have f1 := hs.free rg
      have HTK := Lib.hid htk
      have HS := Lib.hid hs
      have HC := Lib.hid hc
      have HL8 := Lib.hid hl8
      have k0 : (0 : Int) ≤ (k : Int) := by omega
      have k1 : (k : Int) < (n : Int) := by omega
      have r0 : (0 : Int) ≤ (rg : Int) := by omega
      have r1 : (rg : Int) < 8 := by omega
      have hgl := World.block_lt_of_cell? wr _ q0
      have hsl := hs.lt
      simp only at hgl
      clear hs hc hcell g1 g2 hev hrg hvl htk hBs hl8 c8
      go_wp2_with fail
      go_region
      all_goals
        go_wp2_with fail
        go_roundw
        case rel =>
          refine ⟨k + 1, by go_num, by omega, ?_, (HC.out.trans (((Chg.refl (fun k => k = jb) wr).put jb rg (.inl rfl) (.int .i64 vl)).alloc (.cells #[.int .i64 rg, .int .i64 vl] 146)) (fun _ _ h => h)).drew⟩
          rw [HTK.out, ← jcells_set _ _ _ _ _ (by have := HL8.out; omega)]
          exact ((HS.out.set rg (.int .i64 vl)).alloc _).drew
        case measure => simp [intOf]; omega
    · obtain rfl : k = n := by omega
      have hl8 : (setTo j.base (j.events.take k)).length = 8 := by rw [setTo_len, v2]
      have c8' : wr.cell? ⟨jb, 8, none⟩ = some (.slice E j.events.length c) := (hs.cell 8).trans (jcells_ev _ _ _ hl8)
      have f8 := hs.free 8
      have ho := hc.owns HO.out HNO.out
      have hev : EvAt wr E' (j.events.drop k) := fun hne => by
        have hlt : k < j.events.length := by
          rcases Nat.lt_or_ge k j.events.length with h | h
          · exact h
          · exact absurd (List.drop_of_length_le h) hne
        obtain ⟨gb, hgE, _, _, hcell⟩ := own_cell ho (by omega)
        refine ⟨gb, 0 + k * 2, HEE.out hlt gb 0 hgE, fun i u hu => ?_⟩
        rw [evC_drop, List.getElem?_drop] at hu
        have := hcell _ _ hu
        rwa [show 0 + k * 2 + i = k * 2 + i by omega]
      have HCL := Lib.hid (clone235 E' (c - k) (j.events.drop k) wr hev HSP.out (by simp; omega))
      obtain ⟨D, hD⟩ : ∃ D, D = j.events.drop k := ⟨_, rfl⟩
      have hDl : D.length = j.events.length - k := by rw [hD]; simp
      have HDl := Lib.hid hDl
      rw [← hD, hDl] at HCL
      have hcut2 := HCUT2.out
      have HF := Lib.hid (show foldJ k j = { j with base := setTo j.base (j.events.take k), events := D } by rw [hD]; rfl)
      have HS := Lib.hid hs
      have HC := Lib.hid hc
      have HL8 := Lib.hid hl8
      have hjl := hs.lt
      clear hs hc ho hev hD hDl hl8 c8
      go_wp2_with fail
      refine HCL.out.mono ?_
      rintro e w2 ⟨A2, c2, rfl, h2, h3⟩
      have hs2 := HS.out.below h3
      have c82 : w2.cell? ⟨jb, 8, none⟩ = some (.slice E j.events.length c) := (hs2.cell 8).trans (jcells_ev _ _ _ HL8.out)
      have f82 := hs2.free 8
      have HS2 := Lib.hid hs2
      have HO2 := Lib.hid h2
      have HB2 := Lib.hid h3
      clear hs2 h2 h3
      go_wp2_with fail
      go_end0
      rw [HF.out]
      refine ⟨rfl, ⟨A2, c2, .inl HX.out, ?_, ?_, fun k hk => .inr ?_⟩, ?_⟩
      · have := HS2.out.set 8 (.slice A2 (j.events.length - k) c2)
        rw [jcells_setev _ _ _ _ HL8.out] at this
        rw [HDl.out]
        exact this
      · rw [HDl.out]
        exact own_set (own_weaken HO2.out (Nat.zero_le _)) HS2.out (i := 8) (by decide) _
      · rw [HDl.out] at hk
        exact Nat.le_trans HC.out.size (own_base HO2.out k hk)
      · exact (HC.out.then_below HB2.out).put jb 8 (.inl rfl) _
end Go.Proofs.YtlcdjgpblpodaaaGreatDoor
namespace Go.Proofs.YtlcdjgpblpodaaaGreatDoor
open Go.RowKit Go.Proofs.YtlcdjgpblpodaaaGreatDoorW.PrintWords

/-- An append of whatever is read, to a row of one's own. -/
theorem append_any {P : Program} {w : World} {base t ty e size bytes : Nat} {i : TypeInfo} {z : Value} (ht : P.underlying t = some (.slice e)) (hi : P.info? e = some i) (hz : i.zero = some z) (hsize : i.size = size) (hby : i.bytes = bytes) (hzs : z.cells.size = size) (hsz : 0 < size)
    {v : Value} {n : Nat} {xs : List Value} (hown : w.ownsRow base e size v n xs) {A : Option Addr} {m c : Nat} {news : List Value} (hl : news.length = m * size) (hcells : ∀ j u, news[j]? = some u → ∃ ad, A = some ad ∧ w.cell? (ad.add j) = some u) (h1 : ∀ u ∈ news, u.oneCell' = true)
    (hA : A = none → c = 0) (hn : n + m ≤ 1048576) (hb : bytes ≤ 1024) (hbase : base ≤ w.heap.size) :
    ∃ v' w', (Builtin.append_ #[t, t] ty #[v, .slice A m c]).run P w = .ok v' w' ∧ w'.ownsRow base e size v' (n + m) (xs ++ news) ∧ w.grownBy w' v.ownBlock ∧ (v'.ownBlock = v.ownBlock ∨ v'.ownBlock = some w.heap.size) := by
  cases A with
  | none =>
    have hnn : news = [] := by
      cases news with
      | nil => rfl
      | cons u r =>
        obtain ⟨ad, h, _⟩ := hcells 0 u rfl
        cases h
    subst hnn
    have hm : m = 0 := by
      rcases Nat.eq_zero_or_pos m with h | h
      · exact h
      · have := Nat.mul_pos h hsz
        simp at hl
        omega
    subst hm
    obtain rfl := hA rfl
    refine ⟨v, w, ?_, by simpa using hown, World.grownBy.refl w _, .inl rfl⟩
    rcases hown.2 with ⟨rfl, rfl⟩ | ⟨g, cap, cur, rfl, _, _, hnc, _⟩
    · simp [Builtin.append_, run_underlying ht, sizeOf, typeInfo, hi, Builtin.lenOf, Builtin.firstCells]
    · simp [Builtin.append_, run_underlying ht, sizeOf, typeInfo, hi, Builtin.lenOf, Builtin.firstCells, hnc, storeCells]
  | some ad =>
    have hm : (n + m) * bytes ≤ 1048576 * 1024 := Nat.mul_le_mul hn hb
    obtain ⟨v', w', hrun, h2, h3, _, h5⟩ := run_append_own_at (P := P) w base t ty e i z size bytes ht hi hz hsize hby hzs hsz v n xs hown ad m c news hl (fun j u hu => by
      obtain ⟨a, ha, hc⟩ := hcells j u hu
      injection ha with ha
      subst ha
      exact hc) h1 (by unfold maxLen; omega) (by omega) hbase
    exact ⟨v', w', hrun, h2, h3, h5⟩
theorem wpList_append_any {P : Program} {w : World} {ops : Array Oper} {rest : List Oper} {o : Oper} {a : Go.Act} {Q : Exit → Go.Act → World → Prop} (hgd : o.guard = none) (s x : Operand) (t : TypeId)
    (ho : o.op = .call { callee := .builtin .append, args := #[s, x], argTypes := #[t, t] }) {base e size bytes : Nat} {i : TypeInfo} {z : Value} (ht : P.underlying t = some (.slice e)) (hi : P.info? e = some i) (hz : i.zero = some z) (hsize : i.size = size) (hby : i.bytes = bytes) (hzs : z.cells.size = size) (hsz : 0 < size)
    {v : Value} {n : Nat} {xs : List Value} (hs : a.eval s = v) (hown : w.ownsRow base e size v n xs) {A : Option Addr} {m c : Nat} {news : List Value} (hx : a.eval x = .slice A m c) (hl : news.length = m * size) (hcells : ∀ j u, news[j]? = some u → ∃ ad, A = some ad ∧ w.cell? (ad.add j) = some u) (h1 : ∀ u ∈ news, u.oneCell' = true)
    (hA : A = none → c = 0) (hn : n + m ≤ 1048576) (hb : bytes ≤ 1024) (hbase : base ≤ w.heap.size)
    (h : ∀ v' w', w'.ownsRow base e size v' (n + m) (xs ++ news) → w.grownBy w' v.ownBlock → (v'.ownBlock = v.ownBlock ∨ v'.ownBlock = some w.heap.size) → wpList P ops Q rest (a.put o.dst v') w') : wpList P ops Q (o :: rest) a w := by
  refine wpList_plain hgd fun K hK => ?_
  obtain ⟨v', w', hr, h2, h3, h4⟩ := append_any (ty := o.type) ht hi hz hsize hby hzs hsz hown hl hcells h1 hA hn hb hbase
  unfold Oper.wp execOp
  simp only [ho, resolve, invoke, builtin, Sem.run_bind, Sem.run_pure, Result.andThen_ok, List.map_toArray, List.map_cons, List.map_nil, hs, hx, hr]
  exact hK _ _ (h v' w' h2 h3 h4)
theorem bad177 (e : Nat × Int) (h : e.1 < 8) (W : World) : Calls Tryz.prog 177 #[.agg #[.int .i64 e.1, .int .i64 e.2]] W fun x w' => x = .returned (.bool false) ∧ w' = W.alloc (.cells #[.int .i64 e.1, .int .i64 e.2] 146) := by
  obtain ⟨r, v⟩ := e
  have t0 : decide ((r : Int) < 0) = false := by simp
  have t1 : decide ((8 : Int) ≤ (r : Int)) = false := by simp at h ⊢; omega
  have t2 : (0 : Int) ≤ (r : Int) := by omega
  clear h
  go_enter Tryz.func177, Tryz.ntmps177
  go_wp2
  go_ret
  exact ⟨rfl, rfl⟩
theorem bad177' (e : Nat × Int) (h : 8 ≤ e.1) (W : World) : Calls Tryz.prog 177 #[.agg #[.int .i64 e.1, .int .i64 e.2]] W fun x w' => x = .returned (.bool true) ∧ w' = W.alloc (.cells #[.int .i64 e.1, .int .i64 e.2] 146) := by
  obtain ⟨r, v⟩ := e
  have t0 : decide ((r : Int) < 0) = false := by simp
  have t1 : decide ((8 : Int) ≤ (r : Int)) = true := by simp at h ⊢; omega
  have t2 : (0 : Int) ≤ (r : Int) := by omega
  clear h
  go_enter Tryz.func177, Tryz.ntmps177
  go_wp2
  go_ret
  exact ⟨rfl, rfl⟩
theorem contains_nil (w : World) : Calls Tryz.prog 176 #[.slice none 0 0, .func (.func 177) #[] #[]] w fun x w' => x = .returned (.bool false) ∧ w = w' := by
  have h : Calls Tryz.prog 234 #[.slice none 0 0, .func (.func 177) #[] #[]] w fun x w' => x = .returned (.int .i64 (-1)) ∧ w = w' := by
    go_enter Tryz.func234, Tryz.ntmps234
    go_wp2
    go_loop [8] (fun s => s = .int .i64 0) (fun _ => 0)
    case atStart => rfl
    case round =>
      subst hrel
      go_wp2
      go_ret
      exact ⟨rfl, rfl⟩
  have H := Lib.hid h
  clear h
  go_enter Tryz.func176, Tryz.ntmps176
  go_wp2_with fail
  refine H.out.mono ?_
  rintro e w1 ⟨rfl, rfl⟩
  go_wp2_with fail
  go_ret
  exact ⟨rfl, rfl⟩
def addJ (es : List (Nat × Int)) (j : Jour) : Jour := foldJ (j.events.length + es.length - 16) { j with events := j.events ++ es, version := j.version + es.length }
/-- The library's search among events that are all right. -/
theorem contains_ev (A : Option Addr) (c : Nat) (es : List (Nat × Int)) (h8 : ∀ e ∈ es, e.1 < 8) (hl : es.length ≤ 1000) (w : World) (hr : EvAt w A es) (hA : es = [] → A = none ∧ c = 0) :
    Calls Tryz.prog 176 #[.slice A es.length c, .func (.func 177) #[] #[]] w fun x w' => x = .returned (.bool false) ∧ Below w.heap.size w w' := by
  cases es with
  | nil =>
    obtain ⟨rfl, rfl⟩ := hA rfl
    exact (contains_nil w).mono fun _ _ q => ⟨q.1, q.2 ▸ Below.refl _ _⟩
  | cons e0 r =>
    obtain ⟨b, off, rfl, hc⟩ := hr (by simp)
    have hb : b < w.heap.size := by
      have := World.block_lt_of_cell? w _ (hc 0 _ rfl)
      simpa using this
    have := AnyQ.slices_ContainsFunc Tryz.cf176 2 (fun w => Tryz.isAgg146 w) (fun w => Tryz.sizeOf146 w) (fun e : Nat × Int => [.int .i64 e.1, .int .i64 e.2]) (fun _ => rfl) (fun e => decide (8 ≤ e.1)) 177 #[] (enters_of Tryz.func177 (by kernel_rfl) rfl) b off (e0 :: r).length c (e0 :: r) w
      (fun W x hW => ?_) (Nat.le_refl _) (by omega) hb (fun j hj i v hv => ?_)
    · refine this.mono fun x w' q => ⟨?_, q.2⟩
      rw [q.1, List.take_of_length_le (Nat.le_refl _)]
      congr 2
      rw [List.any_eq_false]
      intro e he
      have := h8 e he
      simp
      omega
    · by_cases hx : x.1 < 8
      · refine (bad177 x hx W).mono fun _ _ q => ⟨?_, q.2 ▸ hW.alloc hW.size _⟩
        rw [q.1]
        show _ = Ending.returned (.bool (decide (8 ≤ x.1)))
        rw [decide_eq_false (by omega)]
      · refine (bad177' x (by omega) W).mono fun _ _ q => ⟨?_, q.2 ▸ hW.alloc hW.size _⟩
        rw [q.1]
        show _ = Ending.returned (.bool (decide (8 ≤ x.1)))
        rw [decide_eq_true (by omega)]
    · obtain ⟨g1, g2⟩ := evC_get (e0 :: r) j _ (List.getElem?_eq_getElem hj)
      rw [getElem!_pos (e0 :: r) j hj] at hv
      match i, hv with
      | 0, hv => simp at hv; subst hv; exact hc _ _ g1
      | 1, hv => simp at hv; subst hv; exact hc _ _ g2
      | i + 2, hv => simp at hv
set_option maxRecDepth 100000 in
set_option maxHeartbeats 1000000 in
theorem add_any (X : Nat → Prop) (jb : Nat) (j : Jour) (hj : j.Ok) (A : Option Addr) (c0 : Nat) (es : List (Nat × Int)) (h8 : ∀ e ∈ es, e.1 < 8) (hl : es.length ≤ 500) (hv : U64 (j.version + es.length)) (w : World) (hr : EvAt w A es) (hA : es = [] → A = none ∧ c0 = 0) (h : JourAt w X jb j) :
    Calls Tryz.prog 113 #[.pointer (some ⟨jb, 0, none⟩), .slice A es.length c0] w fun e w' => e = .returned (.int .i64 0) ∧ JourAt w' (fun k => X k ∨ w.heap.size ≤ k) jb (addJ es j) ∧ Chg X w w' := by
  have v2 := hj.base
  have v3 := hj.few
  have v1 := hj.version
  unfold U64 at v1 hv
  have HCT := Lib.hid (contains_ev A c0 es h8 (by omega) w hr hA)
  obtain ⟨E, c, h1, h2, h3, h4⟩ := id h
  obtain ⟨i0, z0, hi, hz0, hz1, hz2, hz3⟩ := info_big info146
  have HJ := Lib.hid h2
  have HO := Lib.hid h3
  have HX := Lib.hid h1
  have HX4 := Lib.hid h4
  have HR := Lib.hid hr
  have HA := Lib.hid hA
  have H8 := Lib.hid h8
  have HV := Lib.hid hj.event
  clear h1 h2 h3 h4 h hj hr hA h8
  go_enter Tryz.func113, Tryz.ntmps113
  go_wp2_with fail
  refine HCT.out.mono ?_
  rintro e w1 ⟨rfl, hb1⟩
  have hj1 := HJ.out.below hb1
  have c8 : w1.cell? ⟨jb, 8, none⟩ = some (.slice E j.events.length c) := (hj1.cell 8).trans (jcells_ev _ _ _ v2)
  have HB1 := Lib.hid hb1
  have HJ1 := Lib.hid hj1
  have HO1 := Lib.hid (own_below HO.out hb1)
  have HNE := Lib.hid (own_block_ne HO1.out hj1 (by decide))
  have hjl := hj1.lt
  have HCELL := Lib.hid (show ∀ i u, (evC es)[i]? = some u → ∃ ad, A = some ad ∧ w1.cell? (ad.add i) = some u from fun i u hu => by
    obtain ⟨b, off, hb, hc⟩ := HR.out (by rintro rfl; simp [evC] at hu)
    refine ⟨_, hb, ?_⟩
    rw [Go.WideShapes.add_plain]
    have h0 := hc i u hu
    have := World.block_lt_of_cell? w _ h0
    exact (hb1.cell (p := ⟨b, off + i, none⟩) this).trans h0)
  have HNIL := Lib.hid (show A = none → c0 = 0 from fun hn => (HA.out (by
    cases es with
    | nil => rfl
    | cons e r =>
      obtain ⟨b, off, hb, _⟩ := HR.out (by simp)
      rw [hn] at hb
      cases hb)).2)
  clear hb1 hj1
  go_wp2_with (at_builtin; refine wpList_append_any rfl _ _ 142 rfl (base := 0) Tryz.underlying142 hi hz0 hz1 hz2 hz3 (by decide) rfl HO1.out rfl (evC_length es) HCELL.out (evC_one es) HNIL.out (by omega) (by decide) (Nat.zero_le _) ?_; intro v2' w2 ho2 hg2 hat2; obtain ⟨E2, cc2, rfl⟩ := own_slice ho2; have hg2' : w1.grownBy w2 (Value.slice E j.events.length c).ownBlock := hg2; have HAT := Lib.hid (show (Value.slice E2 (j.events.length + es.length) cc2).ownBlock = (Value.slice E j.events.length c).ownBlock ∨ (Value.slice E2 (j.events.length + es.length) cc2).ownBlock = some w1.heap.size from hat2); have hj2 : Blk w2 jb (jcells j.base (.slice E j.events.length c) (.int .u64 j.version)) 144 := (hg2'.block jb hjl (fun e => HNE.out e.symm)).trans HJ1.out; have c8' : w2.cell? ⟨jb, 8, none⟩ = some (.slice E j.events.length c) := (hj2.cell 8).trans (jcells_ev _ _ _ v2); have c9' : w2.cell? ⟨jb, 9, none⟩ = some (.int .u64 j.version) := (hj2.cell 9).trans (jcells_v _ _ _ v2); have f8 := hj2.free 8; have f9 := hj2.free 9; have HJ2 := Lib.hid hj2; have HO2 := Lib.hid ho2; have HG2 := Lib.hid hg2'; have hjl2 := hj2.lt; clear ho2 hg2 hg2' hat2 hj2 c8)
  rw [show max ((j.events.length : Int) + (es.length : Int) - 16) 0 = ((j.events.length + es.length - 16 : Nat) : Int) by omega]
  obtain ⟨W3, hW3⟩ : ∃ W, W = (w2.setCell ⟨jb, 8, none⟩ (.slice E2 (j.events.length + es.length) cc2)).setCell ⟨jb, 9, none⟩ (.int .u64 (j.version + es.length)) := ⟨_, rfl⟩
  rw [← hW3]
  have hc3 : Chg X w W3 := hW3 ▸ ((((Chg.of_below HB1.out X).grown HG2.out (fun k hk => .inl (HX4.out k hk))).put jb 8 (.inl HX.out) _).put jb 9 (.inl HX.out) _)
  have hs8 := HJ2.out.set 8 (.slice E2 (j.events.length + es.length) cc2)
  rw [jcells_setev _ _ _ _ v2] at hs8
  have hs9 := hs8.set 9 (.int .u64 (j.version + es.length))
  rw [jcells_setv _ _ _ _ v2] at hs9
  have ho3 : W3.ownsRow 0 146 2 (.slice E2 (j.events.length + es.length) cc2) (j.events.length + es.length) (evC j.events ++ evC es) := hW3 ▸ own_set (own_set HO2.out HJ2.out (i := 8) (by decide) _) hs8 (i := 9) (by decide) _
  have h3 : JourAt W3 (fun k => X k ∨ w.heap.size ≤ k) jb { j with events := j.events ++ es, version := j.version + es.length } := by
    refine ⟨E2, cc2, .inl HX.out, ?_, ?_, fun k hk => ?_⟩
    · rw [List.length_append, hW3]
      have := hs9
      rw [show ((j.version : Int) + (es.length : Int)) = ((j.version + es.length : Nat) : Int) by omega] at this ⊢
      exact this
    · rw [List.length_append, evC_append]
      exact ho3
    · simp only [List.length_append] at hk
      rcases HAT.out with e | e
      · exact .inl (HX4.out k (e ▸ hk))
      · rw [e] at hk
        injection hk with hk
        exact .inr (by have := HB1.out.size; omega)
  have HC3 := Lib.hid hc3
  have HF := Lib.hid (fold_any _ jb { j with events := j.events ++ es, version := j.version + es.length } v2 (by simp; omega) (fun e he => by
    rcases List.mem_append.1 he with he | he
    · exact (HV.out e he).1
    · exact H8.out e he) (j.events.length + es.length - 16) (by simp) W3 h3)
  clear hc3 hs8 hs9 ho3 h3 hW3 c8' c9' f8 f9
  refine HF.out.mono ?_
  rintro e w4 ⟨rfl, h5, h6⟩
  have H5 := Lib.hid h5
  have H6 := Lib.hid h6
  clear h5 h6
  go_wp2_with fail
  go_ret
  exact ⟨rfl, H5.out.mono (fun k hk => hk.elim id (fun h => .inr (Nat.le_trans HC3.out.size h))), HC3.out.trans H6.out (fun i _ hi => by rw [hi]; exact HX.out)⟩
end Go.Proofs.YtlcdjgpblpodaaaGreatDoor
namespace Go.Proofs.YtlcdjgpblpodaaaGreatDoor
open Go.RowKit Go.Maps Go.Proofs.YtlcdjgpblpodaaaGreatDoorW.PrintWords

/-- An element read as it stands. -/
def rawR (v : Value) : Option (DataW Value × List MemPlace) := some (.held v, [])
theorem string_law : Keyed Tryz.prog 9 := string_keyed Tryz.underlying9
theorem u64_law : Keyed Tryz.prog 32 := int_keyed Tryz.underlying32
/-- Block b is a map of at most n entries, keys of type K, that holds f. -/
def MapAt (w : World) (K b n : Nat) (f : Lit → Option Value) : Prop := ∃ D : DataW Value, w.ownsMap Tryz.prog K rawR b n D ∧ ∀ l, (∃ v, keyOf Tryz.prog K v = some l) → Maps.has D l = (f l).isSome ∧ ∀ z, D.atKey l (.held z) = .held ((f l).getD z)
theorem MapAt.lt {w : World} {K b n : Nat} {f : Lit → Option Value} (h : MapAt w K b n f) : b < w.heap.size := by
  obtain ⟨D, h, _⟩ := h
  exact h.lt
theorem MapAt.chg {S : Nat → Prop} {w w' : World} {K b n : Nat} {f : Lit → Option Value} (h : MapAt w K b n f) (hc : Chg S w w') (hn : ¬ S b) : MapAt w' K b n f := by
  obtain ⟨D, ⟨es, clock, hb, h2⟩, h3⟩ := h
  exact ⟨D, ⟨es, clock, hc.at_ hn hb, h2⟩, h3⟩
theorem MapAt.below {w w' : World} {K b n : Nat} {f : Lit → Option Value} (h : MapAt w K b n f) (hb : Below w.heap.size w w') : MapAt w' K b n f := h.chg (Chg.of_below hb (fun _ => False)) (fun h => h)
theorem MapAt.new (w : World) (K : Nat) : MapAt (w.alloc (.map #[] 0)) K w.heap.size 0 (fun _ => none) := ⟨.map [], World.ownsMap_made _ _ _ _, fun _ _ => ⟨rfl, fun _ => rfl⟩⟩
section
variable {w : World} {K b n : Nat} {f : Lit → Option Value}
theorem MapAt.look {t e : Nat} (h : MapAt w K b n f) (law : Keyed Tryz.prog K) (ht : Tryz.prog.underlying t = some (.map K e)) {z : Value} (hz : ∀ w, (zeroValue e).run Tryz.prog w = .ok z w) {key : Value} {l : Lit} (hk : keyOf Tryz.prog K key = some l) :
    (Instr.lookup t (.map (some b)) key false).run Tryz.prog w = .ok ((f l).getD z) w := by
  obtain ⟨D, h1, h2⟩ := h
  obtain ⟨v, ps, hrun, hv⟩ := h1.lookup law ht (hz w) (zd := .held z) (zp := []) rfl hk
  rw [(h2 l ⟨key, hk⟩).2 z] at hv
  simp [rawR] at hv
  rw [hrun, hv.1]
theorem MapAt.look_ok {t e : Nat} (h : MapAt w K b n f) (law : Keyed Tryz.prog K) (ht : Tryz.prog.underlying t = some (.map K e)) {z : Value} (hz : ∀ w, (zeroValue e).run Tryz.prog w = .ok z w) {key : Value} {l : Lit} (hk : keyOf Tryz.prog K key = some l) :
    (Instr.lookup t (.map (some b)) key true).run Tryz.prog w = .ok (.tuple #[(f l).getD z, .bool (f l).isSome]) w := by
  obtain ⟨D, h1, h2⟩ := h
  obtain ⟨v, ps, hrun, hv⟩ := h1.look_ok law ht (hz w) (zd := .held z) (zp := []) rfl hk
  rw [(h2 l ⟨key, hk⟩).2 z] at hv
  simp [rawR] at hv
  rw [hrun, hv.1, (h2 l ⟨key, hk⟩).1]
open Classical in
/-- f with v at l. -/
noncomputable def putF (f : Lit → Option Value) (l : Lit) (v : Value) : Lit → Option Value := fun x => if x = l then some v else f x
open Classical in
/-- f without l. -/
noncomputable def delF (f : Lit → Option Value) (l : Lit) : Lit → Option Value := fun x => if x = l then none else f x
theorem putF_same (f : Lit → Option Value) (l : Lit) (v : Value) : putF f l v l = some v := if_pos rfl
theorem putF_other (f : Lit → Option Value) {l x : Lit} (v : Value) (h : x ≠ l) : putF f l v x = f x := if_neg h
theorem delF_same (f : Lit → Option Value) (l : Lit) : delF f l l = none := if_pos rfl
theorem delF_other (f : Lit → Option Value) {l x : Lit} (h : x ≠ l) : delF f l x = f x := if_neg h
theorem MapAt.put {t e : Nat} (h : MapAt w K b n f) (law : Keyed Tryz.prog K) (ht : Tryz.prog.underlying t = some (.map K e)) (hn : n < 1000000) {key v : Value} {l : Lit} (hk : keyOf Tryz.prog K key = some l) :
    ∃ w', (Instr.mapUpdate t (.map (some b)) key v).run Tryz.prog w = .ok () w' ∧ MapAt w' K b (n + 1) (putF f l v) ∧ Chg (fun k => k = b) w w' := by
  obtain ⟨D, h1, h2⟩ := h
  obtain ⟨w', hrun, h3, h4⟩ := h1.store law ht (by unfold maxLen; omega) (val := v) hk (d := .held v) (ps := []) rfl
  refine ⟨w', hrun, ⟨D.put l (.held v), h3, fun l' hl' => ?_⟩, ?_⟩
  · by_cases he : l' = l
    · subst he
      rw [putF_same]
      exact ⟨by rw [has_put_same h1.isMap (law.key hk)]; rfl, fun z => by rw [atKey_put_same h1.isMap (law.key hk)]; rfl⟩
    · rw [has_put_other he, putF_other f v he]
      exact ⟨(h2 l' hl').1, fun z => by rw [atKey_put_other he]; exact (h2 l' hl').2 z⟩
  · have hg := h4.grown
    exact ⟨hg.os, hg.tape, hg.output, hg.size, fun k hk' hn => hg.block k hk' (fun e => hn (Option.some.inj e))⟩
theorem MapAt.del {t e : Nat} (h : MapAt w K b n f) (law : Keyed Tryz.prog K) (ht : Tryz.prog.underlying t = some (.map K e)) {key : Value} {l : Lit} (hk : keyOf Tryz.prog K key = some l) (ty : Nat) :
    ∃ w', (Builtin.delete_ #[t, K] ty #[.map (some b), key]).run Tryz.prog w = .ok (.tuple #[]) w' ∧ MapAt w' K b n (delF f l) ∧ Chg (fun k => k = b) w w' := by
  obtain ⟨D, h1, h2⟩ := h
  obtain ⟨w', hrun, h3, h4⟩ := h1.drop law ht hk ty
  refine ⟨w', hrun, ⟨D.del l, h3, fun l' hl' => ?_⟩, ?_⟩
  · by_cases he : l' = l
    · subst he
      rw [delF_same]
      exact ⟨by rw [has_del_same]; rfl, fun z => by rw [atKey_del_same]; rfl⟩
    · rw [has_del_other he, delF_other f he]
      exact ⟨(h2 l' hl').1, fun z => by rw [atKey_del_other he]; exact (h2 l' hl').2 z⟩
  · have hg := h4.grown
    exact ⟨hg.os, hg.tape, hg.output, hg.size, fun k hk' hn => hg.block k hk' (fun e => hn (Option.some.inj e))⟩
end
section
variable {w : World} {K b n : Nat} {f : Lit → Option Value} {ops : Array Oper} {rest : List Oper} {o : Oper} {a : Go.Act} {Q : Exit → Go.Act → World → Prop}
theorem wpList_map_put (hg : o.guard = none) (m x v : Operand) (t : Nat) (hop : o.op = Op.mapUpdate t m x v) (h : MapAt w K b n f) (law : Keyed Tryz.prog K) {e : Nat} (ht : Tryz.prog.underlying t = some (.map K e)) (hn : n < 1000000)
    (hm : a.eval m = .map (some b)) {key val : Value} {l : Lit} (hx : a.eval x = key) (hv : a.eval v = val) (hk : keyOf Tryz.prog K key = some l)
    (hK : ∀ w', MapAt w' K b (n + 1) (putF f l val) → Chg (fun k => k = b) w w' → wpList Tryz.prog ops Q rest (a.put o.dst undef) w') : wpList Tryz.prog ops Q (o :: rest) a w := by
  refine wpList_plain hg fun K' hK' => ?_
  obtain ⟨w', hrun, r1, r2⟩ := h.put law ht hn (v := val) hk
  unfold Oper.wp
  simp [execOp, hop, hm, hx, hv, hrun, Result.andThen]
  exact hK' _ _ (hK w' r1 r2)
theorem wpList_map_look (hg : o.guard = none) (m x : Operand) (t : Nat) (hop : o.op = Op.lookup t m x false) (h : MapAt w K b n f) (law : Keyed Tryz.prog K) {e : Nat} (ht : Tryz.prog.underlying t = some (.map K e)) {z : Value} (hz : ∀ w, (zeroValue e).run Tryz.prog w = .ok z w)
    (hm : a.eval m = .map (some b)) {key : Value} {l : Lit} (hx : a.eval x = key) (hk : keyOf Tryz.prog K key = some l) {r : Value} (hr : (f l).getD z = r)
    (hK : wpList Tryz.prog ops Q rest (a.put o.dst r) w) : wpList Tryz.prog ops Q (o :: rest) a w := by
  refine wpList_plain hg fun K' hK' => ?_
  unfold Oper.wp
  simp [execOp, hop, hm, hx, h.look law ht hz hk, Result.andThen, hr]
  exact hK' _ _ hK
theorem wpList_map_ok (hg : o.guard = none) (m x : Operand) (t : Nat) (hop : o.op = Op.lookup t m x true) (h : MapAt w K b n f) (law : Keyed Tryz.prog K) {e : Nat} (ht : Tryz.prog.underlying t = some (.map K e)) {z : Value} (hz : ∀ w, (zeroValue e).run Tryz.prog w = .ok z w)
    (hm : a.eval m = .map (some b)) {key : Value} {l : Lit} (hx : a.eval x = key) (hk : keyOf Tryz.prog K key = some l) {r : Value} {ok : Bool} (hr : (f l).getD z = r) (hok : (f l).isSome = ok)
    (hK : wpList Tryz.prog ops Q rest (a.put o.dst (.tuple #[r, .bool ok])) w) : wpList Tryz.prog ops Q (o :: rest) a w := by
  refine wpList_plain hg fun K' hK' => ?_
  unfold Oper.wp
  simp [execOp, hop, hm, hx, h.look_ok law ht hz hk, Result.andThen, hr, hok]
  exact hK' _ _ hK
end
end Go.Proofs.YtlcdjgpblpodaaaGreatDoor

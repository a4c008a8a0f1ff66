/- Eng3, Eng4, Eng5 -/
import Derived.Test.YtlcdjgpblpodaaaGreatDoorMBB
namespace Go.Proofs.YtlcdjgpblpodaaaGreatDoor
open Go.RowKit Go.Maps Go.Proofs.YtlcdjgpblpodaaaGreatDoorW.PrintWords

/-- The engine: how many actors there may be in memory, which are, all actors, who offered what; how many units it wrote, how many entries its map may have; how many blocks the log has; the program. -/
structure Engn where
  room : Nat
  ls : List ByteArray
  act : ByteArray → Actr
  win : Win
  q : Nat
  z : Nat
  cnt : Nat
  NL : List ByteArray
  CL : List (Int × Int)
  db : Nat
structure EngOk (E : Engn) : Prop where
  act : ∀ k, KeyOk k → ActOk k (E.act k)
  keys : ∀ k ∈ E.ls, KeyOk k
  few : E.ls.length ≤ 1
  room : 1 ≤ E.room ∧ E.room ≤ 10000
  win : E.win.Ok
structure EngL (w : World) (reg : Nat → Nat) (v : EngV) (E : Engn) : Prop where
  ls : v.ls = E.ls
  room : v.room = E.room
  win : v.win = E.win
  cnt : v.cnt = E.cnt
  NL : v.NL = E.NL
  CL : v.CL = E.CL
  db : v.db = E.db
  N : 2 + v.cnt ≤ v.N ∧ v.N ≤ 65536
  bud : v.used ≤ 9 * E.q ∧ v.nu ≤ E.q ∧ v.m ≤ 9 * E.q ∧ v.n ≤ 4 * E.q ∧ v.nc ≤ 4 * E.q ∧ v.pend ≤ E.q ∧ v.na ≤ E.z
  tabs : ∀ k, KeyOk k → v.T (akey k) = if freshA (E.act k) then none else some (encAct (E.act k))
  acts : ∀ k, KeyOk k → (k ∈ E.ls → ∃ p, v.g (litS k) = some (.pointer (some ⟨p, 0, none⟩)) ∧ ActAt false w (fun j => reg j = 1) p (E.act k)) ∧ (k ∉ E.ls → v.g (litS k) = none)
def EngAt (w : World) (reg : Nat → Nat) (eb : Nat) (E : Engn) : Prop := EngOk E ∧ ∃ v, v.eb = eb ∧ EngC w reg v ∧ EngL w reg v E
/-- What a call leaves: the engine E, with labels that go on from those that were. -/
def EngTo (w : World) (reg : Nat → Nat) (eb : Nat) (E : Engn) (w' : World) : Prop := (∃ reg', EngAt w' reg' eb E ∧ ∀ k, k < w.heap.size → reg' k = reg k) ∧ Chg (fun k => 2 ≤ reg k) w w'

section
variable {w w' w1 w2 : World} {reg reg' : Nat → Nat} {v : EngV} {E E1 : Engn} {S : Nat → Prop} {eb : Nat}
theorem EngL.chg (h : EngL w reg v E) (hc : Chg S w w') (hS : ∀ k, reg k = 1 → ¬ S k) : EngL w' reg v E :=
  ⟨h.ls, h.room, h.win, h.cnt, h.NL, h.CL, h.db, h.N, h.bud, h.tabs, fun k hk => ⟨fun hm => by
    obtain ⟨p, e, ha⟩ := (h.acts k hk).1 hm
    exact ⟨p, e, ha.chg hc hS⟩, (h.acts k hk).2⟩⟩
theorem EngL.relab (h : EngL w reg v E) (h1 : ∀ k, reg k = 1 → reg' k = 1) : EngL w reg' v E :=
  ⟨h.ls, h.room, h.win, h.cnt, h.NL, h.CL, h.db, h.N, h.bud, h.tabs, fun k hk => ⟨fun hm => by
    obtain ⟨p, e, ha⟩ := (h.acts k hk).1 hm
    exact ⟨p, e, ha.mono h1⟩, (h.acts k hk).2⟩⟩
theorem EngAt.chg (h : EngAt w reg eb E) (hc : Chg S w w') (hS : ∀ k, reg k ≠ 0 → ¬ S k) : EngAt w' reg eb E := by
  obtain ⟨ho, v, rfl, hC, hL⟩ := h
  exact ⟨ho, v, rfl, hC.chg hc hS, hL.chg hc (fun k hk => hS k (by omega))⟩
theorem EngAt.below (h : EngAt w reg eb E) (hb : Below w.heap.size w w') : EngAt w' reg eb E := h.chg (Chg.of_below hb (fun _ => False)) (fun _ _ h => h)
theorem EngAt.lt (h : EngAt w reg eb E) : ∀ k, reg k ≠ 0 → k < w.heap.size := by
  obtain ⟨ho, v, rfl, hC, hL⟩ := h
  exact hC.lt
theorem EngAt.eb_ (h : EngAt w reg eb E) : reg eb = 5 := by
  obtain ⟨ho, v, rfl, hC, hL⟩ := h
  exact hC.le
/-- One call behind another. -/
theorem EngTo.trans (h : EngTo w reg eb E w1) (k : ∀ reg1, EngAt w1 reg1 eb E → EngTo w1 reg1 eb E1 w2) : EngTo w reg eb E1 w2 := by
  obtain ⟨⟨r1, h1, h2⟩, hc⟩ := h
  obtain ⟨⟨r2, k1, k2⟩, kc⟩ := k r1 h1
  exact ⟨⟨r2, k1, fun j hj => (k2 j (Nat.lt_of_lt_of_le hj hc.size)).trans (h2 j hj)⟩, hc.trans kc (fun j hj hr => by rw [h2 j hj] at hr; exact hr)⟩
theorem EngTo.refl (h : EngAt w reg eb E) : EngTo w reg eb E w := ⟨⟨reg, h, fun _ _ => rfl⟩, Chg.refl _ _⟩
theorem EngTo.below (h : EngTo w reg eb E w1) (hb : Below w1.heap.size w1 w2) : EngTo w reg eb E w2 :=
  h.trans fun r1 h1 => ⟨⟨r1, h1.below hb, fun _ _ => rfl⟩, Chg.of_below hb _⟩
/-- What is new memory does not turn any more. -/
theorem EngC.frozen (h : EngC w reg v) (hb : Below w.heap.size w w') : EngC w' (grow reg w.heap.size w'.heap.size 1) v :=
  (h.below hb).relab (fun k hk => grow_old (h.lt k hk)) (fun k h0 hk => by
    by_cases a : k < w.heap.size
    · exact absurd ((grow_old a).trans h0) hk
    · by_cases b : k < w'.heap.size
      · exact ⟨by rw [grow_new a b]; decide, b⟩
      · exact absurd (grow_far a b) hk)
theorem ActAt.frozen {fr : Bool} {p : Nat} {a : Actr} (h : ActAt fr w' (fun k => w.heap.size ≤ k) p a) : ActAt false w' (fun k => grow reg w.heap.size w'.heap.size 1 k = 1) p a :=
  h.rd.lt.mono (fun k hk => grow_new (by have := hk.1; omega) hk.2)
end
end Go.Proofs.YtlcdjgpblpodaaaGreatDoor
namespace Go.Proofs.YtlcdjgpblpodaaaGreatDoor
open Go.RowKit Go.Maps Go.Proofs.YtlcdjgpblpodaaaGreatDoorW.PrintWords

theorem loop_eq (bs : ByteArray) : ∀ (n i : Nat) (r : List UInt8), bs.size - i = n → ByteArray.toList.loop bs i r = r.reverse ++ bs.data.toList.drop i
  | 0, i, r, h => by
    rw [ByteArray.toList.loop, if_neg (by omega), List.drop_of_length_le, List.append_nil]
    show bs.data.toList.length ≤ i
    have : bs.data.toList.length = bs.size := Array.length_toList
    omega
  | n + 1, i, r, h => by
    have hi : i < bs.size := by omega
    have hl : bs.data.toList.length = bs.size := Array.length_toList
    rw [ByteArray.toList.loop, if_pos hi, loop_eq bs n (i + 1) _ (by omega), List.reverse_cons, List.append_assoc]
    congr 1
    rw [List.drop_eq_getElem_cons (by omega : i < bs.data.toList.length), List.singleton_append]
    congr 1
    show bs.data[i]! = _
    have : i < bs.data.size := hi
    rw [getElem!_pos bs.data i this, Array.getElem_toList]
theorem toList_eq (k : ByteArray) : k.toList = k.data.toList := by
  unfold ByteArray.toList
  rw [loop_eq k _ 0 [] rfl]; rfl
theorem any_other {j k : ByteArray} (h : j ≠ k) : ([j].any fun y => k.toList == y.toList) = false := by
  rw [List.any_cons, List.any_nil, Bool.or_false, beq_eq_false_iff_ne, toList_eq, toList_eq]
  intro e
  cases j with | mk a => cases k with | mk b =>
  have : b = a := Array.toList_inj.1 e
  exact h (by rw [this])
theorem keys_one {k : ByteArray} (h : KeyOk k) : ∀ k' ∈ [k], KeyOk k' := fun k' hk' => by rw [List.mem_singleton.1 hk']; exact h
theorem load_fin {w w2 w3 : World} {reg reg2 : Nat → Nat} {v : EngV} {E : Engn} {k : ByteArray} {na' p : Nat} {g' : Lit → Option Value} (hL : EngL w reg v E) (ho : EngOk E) (hk : KeyOk k) (hC : EngC w2 reg2 { v with ls := [k], na := na', g := g' }) (hna : na' ≤ E.z)
    (hg : ∀ k', KeyOk k' → k' ≠ k → g' (litS k') = none) (hm : MapAt w3 9 v.ab (na' + 1) (putF g' (litS k) (.pointer (some ⟨p, 0, none⟩)))) (hc : Chg (fun j => j = v.ab) w2 w3) (hp : ActAt false w2 (fun j => reg2 j = 1) p (E.act k)) :
    EngAt w3 reg2 v.eb { E with ls := [k], z := E.z + 1 } ∧ ActAt false w3 (fun j => reg2 j = 1) p (E.act k) := by
  have ha : reg2 v.ab = 9 := hC.la
  have hp3 := hp.chg hc (fun j hj e => by subst e; omega)
  obtain ⟨b1, b2, b3, b4, b5, b6, b7⟩ := hL.bud
  refine ⟨⟨⟨ho.act, fun k' hk' => ?_, by simp, ho.room, ho.win⟩, { v with ls := [k], na := na' + 1, g := putF g' (litS k) (.pointer (some ⟨p, 0, none⟩)) }, rfl, hC.mapped hm hc, ⟨rfl, hL.room, hL.win, hL.cnt, hL.NL, hL.CL, hL.db, hL.N, ⟨b1, b2, b3, b4, b5, b6, by show na' + 1 ≤ E.z + 1; omega⟩, hL.tabs, fun k' hk' => ⟨fun hm' => ?_, fun hm' => ?_⟩⟩⟩, hp3⟩
  · obtain rfl : k' = k := by simpa using hk'
    exact hk
  · obtain rfl : k' = k := by simpa using hm'
    exact ⟨p, putF_same _ _ _, hp3⟩
  · have hne : k' ≠ k := fun e => hm' (by simp [e])
    exact (putF_other _ _ (fun e => hne (litS_inj e))).trans (hg k' hk' hne)

set_option maxRecDepth 100000 in
set_option maxHeartbeats 1000000 in
theorem load_any (reg : Nat → Nat) (eb : Nat) (E : Engn) (k : ByteArray) (hk : KeyOk k) (hls : E.ls = [] ∨ E.ls = [k] ∨ ∃ j, E.ls = [j] ∧ j ≠ k ∧ E.room = 1) (hz : E.z ≤ 900000) (w : World) (h : EngAt w reg eb E) :
    Calls Tryz.prog 42 #[.pointer (some ⟨eb, 0, none⟩), .string k] w fun e w' => ∃ p reg', e = .returned (.pointer (some ⟨p, 0, none⟩)) ∧ EngAt w' reg' eb { E with ls := [k], z := E.z + 1 } ∧ (∀ j, j < w.heap.size → reg' j = reg j) ∧ Chg (fun j => 2 ≤ reg j) w w' ∧ ActAt false w' (fun j => reg' j = 1) p (E.act k) := by
  obtain ⟨ho, v, rfl, hC, hL⟩ := h
  have hks := hk.2
  have c1 : w.cell? ⟨v.eb, 1, none⟩ = some (.pointer (some ⟨v.tt, 0, none⟩)) := hC.blk.cell 1
  have hrm := ho.room
  rw [← hL.room] at hrm
  have htab := hC.tab
  rw [hL.ls] at htab
  have HC := Lib.hid hC
  have HL := Lib.hid hL
  have HO := Lib.hid ho
  have HK := Lib.hid hk
  rcases hls with e | e | ⟨j, e, hj, hr1⟩
  · rw [e] at htab
    have HT := Lib.hid (touch_first (fun j => reg j = 4) v.tt v.room k (by omega) (by omega) w htab)
    have hg0 : ∀ k', KeyOk k' → v.g (litS k') = none := fun k' hk' => (hL.acts k' hk').2 (by rw [e]; simp)
    have HG0 := Lib.hid hg0
    have HTB := Lib.hid (hL.tabs k hk)
    have hbud := hL.bud.2.2.2.2.2.2
    clear hC hL ho hk htab hg0 hrm e
    go_enter Tryz.func42, Tryz.ntmps42
    go_wp2_with fail
    refine HT.out.mono ?_
    rintro e w1 ⟨rfl, ht, hc1⟩
    have HC1 := Lib.hid (HC.out.touch ht hc1)
    have d2 : w1.cell? ⟨v.eb, 2, none⟩ = some (.map (some v.ab)) := HC1.out.blk.cell 2
    have HM1 := Lib.hid (show MapAt w1 9 v.ab v.na v.g from HC1.out.map)
    have HG := Lib.hid (HG0.out k HK.out)
    have HCH := Lib.hid hc1
    clear ht hc1 c1
    go_wp2_with (at_lookup; refine wpList_map_ok (by rfl) (.tmp 33) (.tmp 34) 79 (by rfl) HM1.out string_law Tryz.underlying79 (fun w => Tryz.zeroValue38 w) (by rfl) (by rfl) (keyStr k (by omega)) (r := .pointer none) (ok := false) (by rw [HG.out]; rfl) (by rw [HG.out]; rfl) ?_)
    go_wp2_with fail
    refine (kept_any _ v.eb v.bb v.mb v.n v.T k HK.out (E.act k) (HO.out.act k HK.out) HTB.out w1 (HC1.out.blk.cell 0) HC1.out.book.maps.c6 HC1.out.book.maps.tbl).mono ?_
    rintro e w2 ⟨p, rfl, hp, hb2⟩
    have HC2 := Lib.hid (HC1.out.frozen hb2)
    have HP2 := Lib.hid (hp.frozen (reg := grow reg w.heap.size w1.heap.size 4))
    have d3 : w2.cell? ⟨v.eb, 2, none⟩ = some (.map (some v.ab)) := HC2.out.blk.cell 2
    have HM2 := Lib.hid (show MapAt w2 9 v.ab v.na v.g from HC2.out.map)
    have HB2 := Lib.hid hb2
    clear hp hb2 d2
    go_wp2_with (at_mapUpdate; refine wpList_map_put (by rfl) (.tmp 46) (.tmp 47) (.tmp 48) 79 (by rfl) HM2.out string_law Tryz.underlying79 (by omega) (by rfl) (by rfl) (by rfl) (keyStr k (by omega)) ?_)
    intro w3 hm3 hc3
    have HM3 := Lib.hid hm3
    have HC3 := Lib.hid hc3
    clear hm3 hc3 d3
    go_wp2_with fail
    go_ret
    have hs1 := HCH.out.size
    obtain ⟨f1, f2⟩ := load_fin HL.out HO.out HK.out (na' := v.na) (g' := v.g) HC2.out hbud (fun k' hk' _ => HG0.out k' hk') HM3.out HC3.out HP2.out
    refine ⟨p, _, rfl, f1, fun j hj => (grow_old (by omega)).trans (grow_old hj), ?_, f2⟩
    exact ((HCH.out.mono (fun j _ hj => by omega)).then_below HB2.out).trans HC3.out (fun j _ e => by subst e; rw [HC.out.la]; decide)
  · rw [e] at htab
    have HT := Lib.hid (touch_same (fun j => reg j = 4) v.tt v.room k (by omega) (by omega) w htab)
    obtain ⟨p, hgp, hap⟩ := (hL.acts k hk).1 (by rw [e]; simp)
    have HG := Lib.hid hgp
    have HAP := Lib.hid hap
    have HE := Lib.hid e
    clear hC hL ho hk htab hrm e hgp hap
    go_enter Tryz.func42, Tryz.ntmps42
    go_wp2_with fail
    refine HT.out.mono ?_
    rintro e w1 ⟨rfl, ht, hc1⟩
    have HC1 := Lib.hid (HC.out.touch ht hc1)
    have d2 : w1.cell? ⟨v.eb, 2, none⟩ = some (.map (some v.ab)) := HC1.out.blk.cell 2
    have HM1 := Lib.hid (show MapAt w1 9 v.ab v.na v.g from HC1.out.map)
    have HCH := Lib.hid hc1
    clear ht hc1 c1
    go_wp2_with (at_lookup; refine wpList_map_ok (by rfl) (.tmp 33) (.tmp 34) 79 (by rfl) HM1.out string_law Tryz.underlying79 (fun w => Tryz.zeroValue38 w) (by rfl) (by rfl) (keyStr k (by omega)) (r := .pointer (some ⟨p, 0, none⟩)) (ok := true) (by rw [HG.out]; rfl) (by rw [HG.out]; rfl) ?_)
    go_wp2_with fail
    go_ret
    have hs1 := HCH.out.size
    have h1 : ∀ j, reg j = 1 → grow reg w.heap.size w1.heap.size 4 j = 1 := fun j hj => (grow_old (HC.out.lt j (by omega))).trans hj
    have hL1 := (HL.out.chg HCH.out (fun j hj => by omega)).relab h1
    have hap1 := (HAP.out.chg HCH.out (fun j hj => by omega)).mono h1
    obtain ⟨b1, b2, b3, b4, b5, b6, b7⟩ := hL1.bud
    refine ⟨p, _, rfl, ⟨⟨HO.out.act, keys_one HK.out, by simp, HO.out.room, HO.out.win⟩, { v with ls := [k] }, rfl, HC1.out, ⟨rfl, hL1.room, hL1.win, hL1.cnt, hL1.NL, hL1.CL, hL1.db, hL1.N, ⟨b1, b2, b3, b4, b5, b6, by show v.na ≤ E.z + 1; omega⟩, hL1.tabs, fun k' hk' => ?_⟩⟩, fun j hj => grow_old hj, HCH.out.mono (fun j _ hj => by omega), hap1⟩
    have := hL1.acts k' hk'
    rw [HE.out] at this
    exact this
  · rw [e] at htab
    have hvr : v.room = 1 := hL.room.trans hr1
    rw [hvr] at htab
    have HT := Lib.hid (touch_evict (fun j => reg j = 4) v.tt j k (any_other hj) w htab)
    have hg0 : ∀ k', KeyOk k' → k' ≠ j → v.g (litS k') = none := fun k' hk' hn => (hL.acts k' hk').2 (by rw [e]; simpa using hn)
    have HG0 := Lib.hid hg0
    have HTB := Lib.hid (hL.tabs k hk)
    have hjk := ho.keys j (by rw [e]; simp)
    have hjs := hjk.2
    have hbud := hL.bud.2.2.2.2.2.2
    have HJ := Lib.hid hj
    have HVR := Lib.hid hvr
    clear hC hL ho hk htab hg0 hrm e hr1 hjk hj hvr
    go_enter Tryz.func42, Tryz.ntmps42
    go_wp2_with fail
    refine HT.out.mono ?_
    rintro e w1 ⟨rfl, ht, hc1⟩
    have HC1 := Lib.hid (HC.out.touch (HVR.out ▸ ht) hc1)
    have d2 : w1.cell? ⟨v.eb, 2, none⟩ = some (.map (some v.ab)) := HC1.out.blk.cell 2
    have HM1 := Lib.hid (show MapAt w1 9 v.ab v.na v.g from HC1.out.map)
    have HCH := Lib.hid hc1
    clear ht hc1 c1
    obtain ⟨w2, hrun, hm2, hc2⟩ := HM1.out.del string_law Tryz.underlying79 (key := .string j) (keyStr j (by omega)) 0
    have HC2 := Lib.hid (HC1.out.mapped hm2 hc2)
    have d8 : w2.cell? ⟨v.eb, 8, none⟩ = some (.pointer (some ⟨v.cb, 0, none⟩)) := HC2.out.blk.cell 8
    have HN := Lib.hid (count_any v.cb 5 (by omega) 1 w2 HC2.out.cnt)
    have HCH2 := Lib.hid hc2
    clear hm2 hc2
    go_wp2_with fail
    clear hrun d2
    refine HN.out.mono ?_
    rintro e w3 ⟨⟨x, rfl⟩, hn3, hc3⟩
    have HC3 := Lib.hid (HC2.out.counted hn3 hc3)
    have d3 : w3.cell? ⟨v.eb, 2, none⟩ = some (.map (some v.ab)) := HC3.out.blk.cell 2
    have HM3 := Lib.hid (show MapAt w3 9 v.ab v.na (delF v.g (litS j)) from HC3.out.map)
    have HCH3 := Lib.hid hc3
    have HG := Lib.hid (show delF v.g (litS j) (litS k) = none from (delF_other _ (fun e => HJ.out (litS_inj e).symm)).trans (HG0.out k HK.out (fun e => HJ.out e.symm)))
    clear hn3 hc3 d8
    go_wp2_with (at_lookup; refine wpList_map_ok (by rfl) (.tmp 33) (.tmp 34) 79 (by rfl) HM3.out string_law Tryz.underlying79 (fun w => Tryz.zeroValue38 w) (by rfl) (by rfl) (keyStr k (by omega)) (r := .pointer none) (ok := false) (by rw [HG.out]; rfl) (by rw [HG.out]; rfl) ?_)
    go_wp2_with fail
    refine (kept_any _ v.eb v.bb v.mb v.n v.T k HK.out (E.act k) (HO.out.act k HK.out) HTB.out w3 (HC3.out.blk.cell 0) HC3.out.book.maps.c6 HC3.out.book.maps.tbl).mono ?_
    rintro e w4 ⟨p, rfl, hp, hb4⟩
    have HC4 := Lib.hid (HC3.out.frozen hb4)
    have HP4 := Lib.hid (hp.frozen (reg := grow reg w.heap.size w1.heap.size 4))
    have d4 : w4.cell? ⟨v.eb, 2, none⟩ = some (.map (some v.ab)) := HC4.out.blk.cell 2
    have HM4 := Lib.hid (show MapAt w4 9 v.ab v.na (delF v.g (litS j)) from HC4.out.map)
    have HB4 := Lib.hid hb4
    clear hp hb4 d3
    go_wp2_with (at_mapUpdate; refine wpList_map_put (by rfl) (.tmp 46) (.tmp 47) (.tmp 48) 79 (by rfl) HM4.out string_law Tryz.underlying79 (by omega) (by rfl) (by rfl) (by rfl) (keyStr k (by omega)) ?_)
    intro w5 hm5 hc5
    have HM5 := Lib.hid hm5
    have HC5 := Lib.hid hc5
    clear hm5 hc5 d4
    go_wp2_with fail
    go_ret
    have hs1 := HCH.out.size
    have hs2 := HCH2.out.size
    have hs3 := HCH3.out.size
    obtain ⟨f1, f2⟩ := load_fin HL.out HO.out HK.out (na' := v.na) (g' := delF v.g (litS j)) HC4.out hbud (fun k' hk' hne => by
      by_cases he : k' = j
      · rw [he]; exact delF_same _ _
      · exact (delF_other _ (fun e => he (litS_inj e))).trans (HG0.out k' hk' he)) HM5.out HC5.out HP4.out
    refine ⟨p, _, rfl, f1, fun i hi => (grow_old (by omega)).trans (grow_old hi), ?_, f2⟩
    have ha : ∀ i, i = v.ab → 2 ≤ reg i := fun i e => by subst e; rw [HC.out.la]; decide
    have hc : ∀ i, i = v.cb → 2 ≤ reg i := fun i e => by subst e; rw [HC.out.lc]; decide
    exact ((((HCH.out.mono (fun i _ hi => by omega)).trans HCH2.out (fun i _ e => ha i e)).trans HCH3.out (fun i _ e => hc i e)).then_below HB4.out).trans HC5.out (fun i _ e => ha i e)
end Go.Proofs.YtlcdjgpblpodaaaGreatDoor
namespace Go.Proofs.YtlcdjgpblpodaaaGreatDoor
open Go.RowKit Go.Maps Go.Proofs.YtlcdjgpblpodaaaGreatDoorW.PrintWords

/-- A row's cells, as changes. -/
def ChsC (w : World) (X : Nat → Prop) (vs : List Value) (cs : List Chn) : Prop :=
  ∀ i c, cs[i]? = some c → ∃ V vc, vs[i * 3]? = some (.string c.key) ∧ vs[i * 3 + 1]? = some (.slice V c.val.length vc) ∧ vs[i * 3 + 2]? = some (.bool c.gone) ∧ ReadsOf (Value.int .u8) (0 : Int) w V c.val.length c.val ∧ (∀ a, V = some a → X a.block ∧ a.spot = none)
def chC (c : Chn) (V : Option Addr) (vc : Nat) : List Value := [.string c.key, .slice V c.val.length vc, .bool c.gone]
theorem ChsC.chg {S X : Nat → Prop} {w w' : World} {vs : List Value} {cs : List Chn} (h : ChsC w X vs cs) (hc : Chg S w w') (hX : ∀ k, X k → ¬ S k) : ChsC w' X vs cs := fun i l hl => by
  obtain ⟨A, c, h0, h1, h2, h3, h4⟩ := h i l hl
  exact ⟨A, c, h0, h1, h2, hc.reads h3 (fun a ha => hX _ (h4 a ha).1), h4⟩
theorem ChsC.mono {X X' : Nat → Prop} {w : World} {vs : List Value} {cs : List Chn} (h : ChsC w X vs cs) (hX : ∀ k, X k → X' k) : ChsC w X' vs cs := fun i l hl => by
  obtain ⟨A, c, h0, h1, h2, h3, h4⟩ := h i l hl
  exact ⟨A, c, h0, h1, h2, h3, fun a ha => ⟨hX _ (h4 a ha).1, (h4 a ha).2⟩⟩
theorem ChsC.nil (w : World) (X : Nat → Prop) : ChsC w X [] [] := fun i l hl => by simp at hl
theorem ChsC.snoc {X : Nat → Prop} {w : World} {vs : List Value} {cs : List Chn} {c : Chn} {V : Option Addr} {vc : Nat} (h : ChsC w X vs cs) (hlen : vs.length = cs.length * 3) (hr : ReadsOf (Value.int .u8) (0 : Int) w V c.val.length c.val) (hV : ∀ a, V = some a → X a.block ∧ a.spot = none) : ChsC w X (vs ++ chC c V vc) (cs ++ [c]) := fun i c' hl => by
  by_cases hi : i < cs.length
  · rw [List.getElem?_append_left hi] at hl
    obtain ⟨A', c', h0, h1, h2, h3, h4⟩ := h i c' hl
    exact ⟨A', c', by rw [List.getElem?_append_left (by omega)]; exact h0, by rw [List.getElem?_append_left (by omega)]; exact h1, by rw [List.getElem?_append_left (by omega)]; exact h2, h3, h4⟩
  · rw [List.getElem?_append_right (by omega)] at hl
    obtain rfl : i = cs.length := by
      rcases Nat.lt_or_ge 0 (i - cs.length) with h' | h'
      · rw [List.getElem?_eq_none (by simp; omega)] at hl; cases hl
      · omega
    simp at hl
    subst hl
    refine ⟨V, vc, ?_, ?_, ?_, hr, hV⟩ <;> (rw [List.getElem?_append_right (by omega), hlen]; simp [chC])
theorem ChsAt.of_own {X : Nat → Prop} {w : World} {base n c : Nat} {A : Option Addr} {vs : List Value} {cs : List Chn} (ho : w.ownsRow base 136 3 (.slice A n c) n vs) (h : ChsC w X vs cs) (hn : cs.length = n) (hX : ∀ k, (Value.slice A n c).ownBlock = some k → X k) : ChsAt w X A cs := fun hne => by
  rcases ho.2 with ⟨h1, h2⟩ | ⟨g, cap, cur, h1, h2, h3, h4, h5, h6, h7⟩
  · exact absurd (List.eq_nil_of_length_eq_zero (by omega)) hne
  · injection h1 with h1 _ _
    refine ⟨g, 0, h1, hX g (by rw [h1]; rfl), fun i l hl => ?_⟩
    obtain ⟨A', c', e0, e1, e2, e3, e4⟩ := h i l hl
    have hcell : ∀ j u, vs[j]? = some u → w.cell? ⟨g, j, none⟩ = some u := fun j u hu => by
      have := ho.cells (g := g) (by rw [h1]; rfl) j u hu
      rwa [show (⟨g, 0, none⟩ : Addr).add j = ⟨g, j, none⟩ by rw [Go.WideShapes.add_plain, Nat.zero_add]] at this
    exact ⟨A', c', by rw [Nat.zero_add]; exact hcell _ _ e0, by rw [Nat.zero_add]; exact hcell _ _ e1, by rw [Nat.zero_add]; exact hcell _ _ e2, e3, e4⟩
theorem info136 : (Tryz.prog.info? 136).map (fun i => (i.zero.map (·.cells.size), i.size, i.bytes)) = some (some 3, 3, 48) := by kernel_rfl
theorem chC_one (c : Chn) (V : Option Addr) (vc : Nat) : ∀ u ∈ chC c V vc, u.oneCell' = true := by simp [chC, Value.oneCell']

/-- A unit under way: its box, the row of its changes. -/
structure Unt (w0 w : World) (ub nu uc : Nat) (UA : Option Addr) (wo : Value) (cs : List Chn) (A : Option Addr) (c : Nat) (vs : List Value) : Prop where
  blk : Blk w ub #[.slice UA nu uc, .pointer none, wo, .slice A cs.length c] 121
  row : w.ownsRow w0.heap.size 136 3 (.slice A cs.length c) cs.length vs
  chs : ChsC w (fun j => w0.heap.size ≤ j ∧ j < w.heap.size ∧ j ≠ ub ∧ (Value.slice A cs.length c).ownBlock ≠ some j) vs cs
  below : Below w0.heap.size w0 w
  lo : w0.heap.size ≤ ub
theorem Unt.on {w0 w w' : World} {ub nu uc : Nat} {UA : Option Addr} {wo : Value} {cs : List Chn} {A : Option Addr} {c : Nat} {vs : List Value} (h : Unt w0 w ub nu uc UA wo cs A c vs) (hb : Below w.heap.size w w') : Unt w0 w' ub nu uc UA wo cs A c vs :=
  ⟨h.blk.below hb, own_below h.row hb, (h.chs.chg (Chg.of_below hb (fun _ => False)) (fun _ _ h => h)).mono (fun _ hj => ⟨hj.1, Nat.lt_of_lt_of_le hj.2.1 hb.size, hj.2.2⟩), h.below.trans (hb.mono h.below.size), h.lo⟩
/-- A change is appended, and stored back. -/
theorem Unt.push {w0 w w1 w2 : World} {ub nu uc : Nat} {UA : Option Addr} {wo : Value} {cs : List Chn} {A V : Option Addr} {c vc g cap : Nat} {vs : List Value} {x : Chn} {box : Obj} (h : Unt w0 w ub nu uc UA wo cs A c vs)
    (hb : Below w.heap.size w w1) (hr : ReadsOf (Value.int .u8) (0 : Int) w1 V x.val.length x.val) (hV : ∀ a, V = some a → w.heap.size ≤ a.block ∧ a.block < w1.heap.size ∧ a.spot = none)
    (hg : (w1.alloc box).grownBy w2 (Value.slice A cs.length c).ownBlock) (hat : (Value.slice A cs.length c).ownBlock = some g ∨ g = w1.heap.size + 1)
    (ho : w2.ownsRow w0.heap.size 136 3 (.slice (some ⟨g, 0, none⟩) (cs.length + 1) cap) (cs.length + 1) (vs ++ chC x V vc)) :
    Unt w0 (w2.setCell ⟨ub, 3, none⟩ (.slice (some ⟨g, 0, none⟩) (cs.length + 1) cap)) ub nu uc UA wo (cs ++ [x]) (some ⟨g, 0, none⟩) cap (vs ++ chC x V vc) := by
  have h1 := h.on hb
  have hne := own_block_ne h1.row h1.blk (by decide)
  have hs := hb.size
  have hlt := h.blk.lt
  have hc2 : Chg (fun k => (Value.slice A cs.length c).ownBlock = some k) w1 w2 := ((Chg.refl _ w1).alloc box).grown hg (fun k hk => .inl hk)
  have hb2 : Blk w2 ub #[.slice UA nu uc, .pointer none, wo, .slice A cs.length c] 121 := hc2.blk h1.blk hne
  have hc3 : Chg (fun k => k = ub) w2 (w2.setCell ⟨ub, 3, none⟩ (.slice (some ⟨g, 0, none⟩) (cs.length + 1) cap)) := (Chg.refl (fun k => k = ub) w2).put ub 3 (.inl rfl) _
  have hgu : g ≠ ub := by
    rcases hat with e | e
    · exact fun e' => hne (e' ▸ e)
    · omega
  have hsz := h.below.size
  have hch := h1.chs.snoc (c := x) (vc := vc) h.row.1 hr (fun a ha => ⟨⟨by have := (hV a ha).1; omega, (hV a ha).2.1, fun e => by have := (hV a ha).1; omega, fun e => by have := own_lt h.row _ e; have := (hV a ha).1; omega⟩, (hV a ha).2.2⟩)
  have hs2 := hc2.size
  have hs3 := hc3.size
  refine ⟨?_, ?_, ?_, ((h1.below.alloc h1.below.size box).grown hg (by simp; omega) ?_).setCell (p := ⟨ub, 3, none⟩) h.lo _, h.lo⟩
  · rw [List.length_append]; simpa using hb2.set 3 _
  · rw [List.length_append]; exact own_setCell ho (by simp [Value.ownBlock]; exact fun e => hgu e.symm) _
  · rw [List.length_append]
    refine ((hch.chg hc2 (fun k hk => hk.2.2.2)).chg hc3 (fun k hk => hk.2.2.1)).mono (fun k hk => ⟨hk.1, by omega, hk.2.2.1, fun e => ?_⟩)
    have e2 : g = k := by injection e
    rcases hat with h' | h'
    · exact hk.2.2.2 (e2 ▸ h')
    · omega
  · intro k hk
    exact own_base h1.row k hk

/-- act, where a's owner is a. -/
def upd (act : ByteArray → Actr) (a : Actr) : ByteArray → Actr := fun k => if k = a.outb.owner then a else act k
theorem upd_same (act : ByteArray → Actr) (a : Actr) : upd act a a.outb.owner = a := if_pos rfl
theorem upd_other (act : ByteArray → Actr) (a : Actr) {k : ByteArray} (h : k ≠ a.outb.owner) : upd act a k = act k := if_neg h
/-- The change that an actor is. -/
def chOf (a : Actr) : Chn := ⟨akey a.outb.owner, encAct a, freshA a⟩
def TabsOk (T : ByteArray → Option (List Int)) (act : ByteArray → Actr) : Prop := ∀ k, KeyOk k → T (akey k) = if freshA (act k) then none else some (encAct (act k))
theorem TabsOk.upd {T : ByteArray → Option (List Int)} {act : ByteArray → Actr} (h : TabsOk T act) (a : Actr) : TabsOk (setT T (chOf a).key (if (chOf a).gone then none else some (chOf a).val)) (upd act a) := fun k hk => by
  by_cases e : k = a.outb.owner
  · rw [e, upd_same]; exact setT_same _ _ _
  · rw [upd_other _ _ e]; exact (setT_other _ _ (fun e' => e (akey_inj e'))).trans (h k hk)
end Go.Proofs.YtlcdjgpblpodaaaGreatDoor

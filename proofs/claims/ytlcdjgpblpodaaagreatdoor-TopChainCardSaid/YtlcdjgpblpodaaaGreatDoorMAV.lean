/- Log1, Log2 -/
import Derived.Test.YtlcdjgpblpodaaaGreatDoorMAU
namespace Go.Proofs.YtlcdjgpblpodaaaGreatDoor
open Go.RowKit Go.Maps Go.Proofs.YtlcdjgpblpodaaaGreatDoorW.PrintWords

/-- A log of count blocks from block from on, of which used are written, in nu units. -/
structure LogP (w : World) (X : Nat → Prop) (lb db from_ count used nu : Nat) (ep : Int) (U : Option Addr) (uc : Nat) (us : List Value) : Prop where
  pin : X lb
  blk : Blk w lb #[.pointer (some ⟨db, 0, none⟩), .int .i64 from_, .int .i64 count, .int .u64 ep, .slice U nu uc, .int .i64 used, .bool false] 293
  row : w.ownsRow 0 88 1 (.slice U nu uc) nu us
  rin : ∀ k, (Value.slice U nu uc).ownBlock = some k → X k
def LogAt (w : World) (X : Nat → Prop) (lb db from_ count used nu : Nat) : Prop := ∃ ep U uc us, LogP w X lb db from_ count used nu ep U uc us
section
variable {w w' : World} {S X X' : Nat → Prop} {lb db from_ count used nu : Nat}
theorem LogAt.chg (h : LogAt w X lb db from_ count used nu) (hc : Chg S w w') (hX : ∀ k, X k → ¬ S k) : LogAt w' X lb db from_ count used nu := by
  obtain ⟨ep, U, uc, us, h1, h2, h3, h4⟩ := h
  exact ⟨ep, U, uc, us, h1, hc.blk h2 (hX _ h1), hc.owns h3 (fun k hk => hX _ (h4 k hk)), h4⟩
theorem LogAt.below (h : LogAt w X lb db from_ count used nu) (hb : Below w.heap.size w w') : LogAt w' X lb db from_ count used nu := h.chg (Chg.of_below hb (fun _ => False)) (fun _ _ h => h)
theorem LogAt.mono (h : LogAt w X lb db from_ count used nu) (hX : ∀ k, X k → X' k) : LogAt w X' lb db from_ count used nu := by
  obtain ⟨ep, U, uc, us, h1, h2, h3, h4⟩ := h
  exact ⟨ep, U, uc, us, hX _ h1, h2, h3, fun k hk => hX _ (h4 k hk)⟩
theorem LogAt.lt (h : LogAt w X lb db from_ count used nu) : LogAt w (fun k => X k ∧ k < w.heap.size) lb db from_ count used nu := by
  obtain ⟨ep, U, uc, us, h1, h2, h3, h4⟩ := h
  exact ⟨ep, U, uc, us, ⟨h1, h2.lt⟩, h2, h3, fun k hk => ⟨h4 k hk, own_lt h3 k hk⟩⟩
end
set_option maxRecDepth 100000 in
theorem area_any {fresh : Bool} (X : Nat → Prop) (db n m from_ count : Nat) (h1 : 1 ≤ count) (h2 : from_ + count ≤ n) (hn : n ≤ 65536) (w : World) (h : DiskAt fresh w X db n m) :
    Calls Tryz.prog 133 #[.pointer (some ⟨db, 0, none⟩), .int .i64 from_, .int .i64 count] w fun e w' => e = .returned (.bool true) ∧ w = w' := by
  have HB := Lib.hid (blocks_any X db n m w h)
  have g0 : decide ((1 : Int) ≤ (count : Int)) = true := decide_eq_true (by omega)
  have g1 : decide (from_ ≤ n) = true := decide_eq_true (by omega)
  have g2 : IntKind.i64.wrap ((n : Int) - (from_ : Int)) = ((n - from_ : Nat) : Int) := by rw [IntKind.wrap_i64]; omega
  have g3 : decide (count ≤ n - from_) = true := decide_eq_true (by omega)
  have g4 : decide ((0 : Int) ≤ (from_ : Int)) = true := decide_eq_true (by omega)
  clear h
  go_enter Tryz.func133, Tryz.ntmps133
  go_wp2_with fail
  refine HB.out.mono ?_
  rintro e w1 ⟨rfl, rfl⟩
  go_wp2_with fail
  refine HB.out.mono ?_
  rintro e w1 ⟨rfl, rfl⟩
  go_wp2_with fail
  go_ret
  exact ⟨rfl, rfl⟩
theorem room_any (X : Nat → Prop) (lb db from_ count used nu : Nat) (hu : used ≤ count) (hc : count ≤ 65536) (w : World) (h : LogAt w X lb db from_ count used nu) :
    Calls Tryz.prog 181 #[.pointer (some ⟨lb, 0, none⟩)] w fun e w' => e = .returned (.int .i64 ((count - used : Nat) : Int)) ∧ Below w.heap.size w w' := by
  obtain ⟨ep, U, uc, us, h⟩ := h
  have c2 : w.drew.cell? ⟨lb, 2, none⟩ = some (.int .i64 count) := h.blk.cell 2
  have c5 : w.drew.cell? ⟨lb, 5, none⟩ = some (.int .i64 used) := h.blk.cell 5
  have g2 : IntKind.i64.wrap ((count : Int) - (used : Int)) = ((count - used : Nat) : Int) := by rw [IntKind.wrap_i64]; omega
  clear h
  go_enter Tryz.func181, Tryz.ntmps181
  go_upto_region 3 with fail
  go_region_held3 (fun w' => w'.cell? ⟨lb, 2, none⟩ = some (.int .i64 count) ∧ w'.cell? ⟨lb, 5, none⟩ = some (.int .i64 used)) (first | exact ⟨c2, c5⟩) (first | fail)
  obtain ⟨W1, hW1⟩ : ∃ V, V = w.drew := ⟨_, rfl⟩
  have HB := Lib.hid (show Below w.heap.size w W1 from hW1 ▸ (Below.refl _ _).drew)
  rw [← hW1]
  clear hW1
  go_wp2_with fail
  go_ret
  exact ⟨rfl, HB.out⟩
theorem units_none (X : Nat → Prop) (lb db from_ count used : Nat) (w : World) (h : LogAt w X lb db from_ count used 0) :
    Calls Tryz.prog 73 #[.pointer (some ⟨lb, 0, none⟩)] w fun e w' => e = .returned (.slice none 0 0) ∧ w = w' := by
  obtain ⟨ep, U, uc, us, h⟩ := h
  have c4 : w.cell? ⟨lb, 4, none⟩ = some (.slice U 0 uc) := h.blk.cell 4
  clear h
  go_enter Tryz.func73, Tryz.ntmps73
  go_wp2_with fail
  refine wp_loop_rounds 1 ?_
  rw [rounds_succ]
  go_wp2_with fail
  go_ret
  exact ⟨rfl, rfl⟩
set_option maxRecDepth 100000 in
theorem logopen (X : Nat → Prop) (db n from_ count : Nat) (ep : Int) (h1 : 1 ≤ count) (h2 : from_ + count ≤ n) (hn : n ≤ 65536) (w : World) (h : DiskAt true w X db n 0) :
    Calls Tryz.prog 70 #[.pointer (some ⟨db, 0, none⟩), .int .i64 from_, .int .i64 count, .int .u64 ep] w fun e w' => ∃ lb, e = .returned (.tuple #[.pointer (some ⟨lb, 0, none⟩), .int .i64 0]) ∧ LogAt w' (fun k => w.heap.size ≤ k) lb db from_ count 0 0 ∧ Below w.heap.size w w' := by
  have HA := Lib.hid (area_any X db n 0 from_ count h1 h2 hn w h)
  obtain ⟨W1, hW1⟩ : ∃ V, V = w.alloc (.cells #[.pointer (some ⟨db, 0, none⟩), .int .i64 from_, .int .i64 count, .int .u64 ep, .slice none 0 0, .int .i64 0, .bool false] 293) := ⟨_, rfl⟩
  have hb1 : Below w.heap.size w W1 := hW1 ▸ (Below.refl _ _).alloc (Nat.le_refl _) _
  have hl1 : LogAt W1 (fun k => w.heap.size ≤ k) w.heap.size db from_ count 0 0 := ⟨ep, none, 0, [], Nat.le_refl _, hW1 ▸ Blk.new _ _ _, own_nil _ _ _ _, fun _ h => by cases h⟩
  have HR := Lib.hid (read_zero X db n 0 from_ (by omega) W1 (h.below hb1))
  have HW1 := Lib.hid hW1
  have HB1 := Lib.hid hb1
  have HL1 := Lib.hid hl1
  have g0 : decide ((0 : Int) < (count : Int)) = true := decide_eq_true (by omega)
  have g0' : decide (0 < count) = true := decide_eq_true (by omega)
  have g1 : IntKind.i64.wrap (from_ : Int) = (from_ : Int) := by rw [IntKind.wrap_i64]; omega
  clear h hW1 hb1 hl1
  go_enter Tryz.func70, Tryz.ntmps70
  go_wp2_with fail
  refine HA.out.mono ?_
  rintro e w1 ⟨rfl, rfl⟩
  go_wp2_with fail
  refine wp_loop_rounds 1 ?_
  rw [rounds_succ, ← HW1.out]
  go_wp2_with fail
  refine HR.out.mono ?_
  rintro e w2 ⟨rfl, hr, hb⟩
  have HB2 := Lib.hid hb
  have HZ := Lib.hid (open_zero 76 0 (by omega) W1.heap.size w2 hr)
  clear hr hb
  go_wp2_with fail
  refine HZ.out.mono ?_
  rintro e w3 ⟨rfl, hb3⟩
  have HB3 := Lib.hid hb3
  clear hb3
  go_wp2_with fail
  go_ret2
  have s1 := HB1.out.size
  have s2 := HB2.out.size
  exact ⟨w.heap.size, rfl, (HL1.out.below HB2.out).below HB3.out, (HB1.out.trans (HB2.out.mono s1)).trans (HB3.out.mono (by omega))⟩
end Go.Proofs.YtlcdjgpblpodaaaGreatDoor
namespace Go.Proofs.YtlcdjgpblpodaaaGreatDoor
open Go.RowKit Go.Maps Go.Proofs.YtlcdjgpblpodaaaGreatDoorW.PrintWords

theorem take_news {w : World} {b off n q : Nat} {ys : List Int} (h : ReadsOf (Value.int .u8) (0 : Int) w (some ⟨b, off, none⟩) n ys) (hq : q ≤ n) : ∀ j u, (encs (Value.int .u8) (ys.take q))[j]? = some u → w.cell? ((⟨b, off, none⟩ : Addr).add j) = some u := fun j u hu => by
  have hl := h.1
  have hj : j < q := by
    have := (List.getElem?_eq_some_iff.1 hu).1
    simp [encs] at this
    omega
  obtain ⟨a, e, hc⟩ := h.2.2 (by omega)
  injection e with e
  subst e
  rw [hc j (by omega)]
  simpa [encs, List.getD, hj, show j < ys.length by omega] using hu
def sliceLen : Value → Nat
  | .slice _ n _ => n
  | _ => 0
/-- What n bytes take. -/
def pieces (n : Nat) : Nat := (n + 232) / 233
set_option maxRecDepth 100000 in
set_option maxHeartbeats 2000000 in
theorem logappend (X XD : Nat → Prop) (hdis : ∀ k, X k → ¬ XD k) (lb db n m from_ count used nu : Nat) (hfc : from_ + count ≤ n) (hn : n ≤ 65536) (A : Option Addr) (c : Nat) (xs : List Int) (h1 : 1 ≤ xs.length) (h2 : xs.length ≤ 60000) (hroom : used + pieces xs.length ≤ count)
    (hm : m ≤ 50000) (hnu : nu ≤ 50000) (w : World) (hL : LogAt w X lb db from_ count used nu) (hD : DiskAt false w XD db n m) (hr : ReadsOf (Value.int .u8) (0 : Int) w A xs.length xs) (hcap : xs.length ≤ c) (hA : ∀ a, A = some a → ¬ X a.block ∧ ¬ XD a.block) (hs : ∀ a, A = some a → a.spot = none) (hlt : ∀ k, X k ∨ XD k → k < w.heap.size) :
    Calls Tryz.prog 120 #[.pointer (some ⟨lb, 0, none⟩), .slice A xs.length c] w fun e w' => e = .returned (.int .i64 0) ∧ ∃ X' XD', LogAt w' X' lb db from_ count (used + pieces xs.length) (nu + 1) ∧ DiskAt false w' XD' db n (m + pieces xs.length) ∧ (∀ k, X' k → ¬ XD' k) ∧ (∀ k, X' k → X k ∨ w.heap.size ≤ k) ∧ (∀ k, XD' k → XD k ∨ w.heap.size ≤ k) ∧ Chg (fun k => X k ∨ XD k) w w' := by
  obtain ⟨i5, hi5, hz5, hs5, hb5⟩ := info_parts info5
  obtain ⟨i88, hi88, hz88, hs88, hb88⟩ := info_parts info88
  have HRM := Lib.hid (room_any X lb db from_ count used nu (by omega) (by omega) w hL)
  obtain ⟨ep, U, uc, us, hL⟩ := hL
  have HL := Lib.hid hL
  have HD := Lib.hid hD
  have HR := Lib.hid hr
  have c5 : w.cell? ⟨lb, 5, none⟩ = some (.int .i64 used) := hL.blk.cell 5
  have c6 : w.cell? ⟨lb, 6, none⟩ = some (.bool false) := hL.blk.cell 6
  have g0 : ((xs.length : Int) == 0) = false := by rw [beq_eq_false_iff_ne]; omega
  have g1 : decide ((60000 : Int) < (xs.length : Int)) = false := decide_eq_false (by omega)
  obtain ⟨rm, hrm⟩ : ∃ rm, rm = count - used := ⟨_, rfl⟩
  rw [← hrm] at HRM
  have hp0 : pieces xs.length = (xs.length + 232) / 233 := rfl
  have g4 : decide ((rm : Int) < ((xs.length : Int) + 233 - 1) / 233) = false := decide_eq_false (by omega)
  obtain ⟨pc, hpc⟩ : ∃ pc, pc = pieces xs.length := ⟨_, rfl⟩
  have HPC := Lib.hid hpc
  have hpc2 : 233 * pc < xs.length + 233 ∧ xs.length ≤ 233 * pc := by omega
  have HA := Lib.hid hA
  have HSP := Lib.hid hs
  have HLT := Lib.hid hlt
  have HDIS := Lib.hid hdis
  rw [← hpc] at hroom ⊢
  clear hL hD hr hA hs hlt hdis hrm hp0 hpc
  go_enter Tryz.func120, Tryz.ntmps120
  go_wp2_with fail
  refine HRM.out.mono ?_
  rintro e w1 ⟨rfl, hb1⟩
  have hl1 : LogP w1 X lb db from_ count used nu ep U uc us := ⟨HL.out.pin, HL.out.blk.below hb1, own_below HL.out.row hb1, HL.out.rin⟩
  have HL1 := Lib.hid hl1
  have HD1 := Lib.hid (HD.out.below hb1)
  have HR1 := Lib.hid (HR.out.below hb1)
  have HB1 := Lib.hid hb1
  have d5 : w1.cell? ⟨lb, 5, none⟩ = some (.int .i64 used) := hl1.blk.cell 5
  clear hb1 hl1 c5 c6
  go_wp2_with fail
  go_loopw [5, 6] (fun sa sr wr => ∃ (k at_ L c' : Nat) (A' : Option Addr) (ys : List Int) (XK : Nat → Prop), sa = .int .i64 at_ ∧ sr = .slice A' L c' ∧ at_ = used + k ∧ L = xs.length - 233 * k ∧ k ≤ pc ∧ L ≤ c' ∧ ReadsOf (Value.int .u8) (0 : Int) wr A' L ys ∧ (∀ a, A' = some a → ¬ X a.block ∧ ¬ XD a.block ∧ (0 < L → a.block < w.heap.size ∧ a.spot = none)) ∧ LogP wr X lb db from_ count used nu ep U uc us ∧ DiskAt false wr XK db n (m + k) ∧ (∀ j, XK j → (XD j ∨ w.heap.size ≤ j) ∧ j < wr.heap.size) ∧ Chg XD w wr) (fun _ sr _ => sliceLen sr)
  case atStart => exact ⟨0, used, xs.length, c, A, xs, fun j => XD j ∧ j < w1.heap.size, rfl, rfl, rfl, rfl, Nat.zero_le _, hcap, HR1.out, fun a ha => ⟨(HA.out a ha).1, (HA.out a ha).2, fun h0 => ⟨by
    obtain ⟨a', e, h⟩ := reads_lt HR.out h0
    rw [ha] at e
    injection e with e
    rw [e]
    exact h, HSP.out a ha⟩⟩, HL1.out, HD1.out.lt, fun j hj => ⟨.inl hj.1, hj.2⟩, Chg.of_below HB1.out XD⟩
  case round =>
    obtain ⟨k, at_, L, c', A', ys, XK, rfl, rfl, hat, hL, hk, hLc, hrd, hA', hl, hd, hXK, hch⟩ := hrel
    by_cases h0 : 0 < L
    · obtain ⟨ad, rfl, _⟩ := id (hrd.2.2 h0)
      obtain ⟨b, off, sp⟩ := ad
      obtain ⟨q1, q2, q4⟩ := hA' _ rfl
      obtain ⟨q5, q3⟩ := q4 h0
      obtain rfl : sp = none := q3
      simp only at q1 q2 q5
      obtain ⟨q, hq⟩ : ∃ q, q = min L 233 := ⟨_, rfl⟩
      have hqL : q ≤ L := by omega
      have hq1 : 1 ≤ q := by omega
      have hq2 : q ≤ 233 := by omega
      have hyl : ys.length = L := hrd.1
      have t0 : min (L : Int) 233 = (q : Int) := by omega
      obtain ⟨lst, hlst⟩ : ∃ lst, lst = ((q : Int) == (L : Int)) := ⟨_, rfl⟩
      have t1 : ((q : Int) == (L : Int)) = lst := hlst.symm
      have t2 : decide ((0 : Int) < (L : Int)) = true := decide_eq_true (by omega)
      have t2' : decide (0 < L) = true := decide_eq_true h0
      have hhi := cut_hi (P := Tryz.prog) 88 5 .i64 Tryz.underlying88 hi5 hs5 (some ⟨b, off, none⟩) L c' q (by omega)
      obtain ⟨A3, hlo, hrd3, hxs3⟩ := cut_lo (P := Tryz.prog) (enc := Value.int .u8) (d := (0 : Int)) 88 5 .i64 Tryz.underlying88 hi5 hs5 (some ⟨b, off, none⟩) L c' q hqL hLc
      have e3 : wr.drew.cell? ⟨lb, 3, none⟩ = some (.int .u64 ep) := hl.blk.cell 3
      obtain ⟨iw, hiw⟩ : ∃ iw, iw = from_ + at_ := ⟨_, rfl⟩
      have t3 : IntKind.i64.wrap ((from_ : Int) + (at_ : Int)) = (iw : Int) := by rw [IntKind.wrap_i64]; omega
      have t4 : IntKind.i64.wrap ((at_ : Int) + 1) = ((at_ + 1 : Nat) : Int) := by rw [IntKind.wrap_i64]; omega
      have hiw2 : iw < n := by omega
      have hmk : m + k ≤ 100000 := by omega
      have HRD := Lib.hid hrd
      have HLR := Lib.hid hl
      have HDR := Lib.hid hd
      have HXK := Lib.hid hXK
      have HCH := Lib.hid hch
      have HR3x := Lib.hid hrd3
      have HX3 := Lib.hid hxs3
      have HAT := Lib.hid hat
      have HQ := Lib.hid hq
      have HLL := Lib.hid hL
      have HIW := Lib.hid hiw
      clear hrd hl hd hXK hch hA' hrd3 hxs3 hlst hq hat hL hiw
      go_upto_region 16 with fail
      go_region_held3 (fun _ => True) (trivial)
        (first
          | (go_at_call 142
             refine (header_any lb lst ep wr.drew e3).mono ?_
             rintro e w2 ⟨bs9, rfl, hl9, ho9, hb9⟩
             have HO9 := Lib.hid ho9
             have HB9 := Lib.hid (show Below wr.heap.size wr w2 from ((Below.refl _ _).drew).trans hb9)
             have HNW := Lib.hid (take_news (HRD.out.below HB9.out) hqL)
             clear ho9 hb9)
          | (refine step_append_lies _ (by rfl) (.tmp 56) (.tmp 59) 88 (by rfl) 0 5 i5 (.int .u8 0) 1 1 Tryz.underlying88 hi5 hz5 hs5 hb5 rfl (by decide) _ 9 (encs (Value.int .u8) bs9) (by rfl) (own_weaken HO9.out (Nat.zero_le _)) ⟨b, off, none⟩ q c' (encs (Value.int .u8) (ys.take q)) (by rfl) (by simp [encs]; omega) HNW.out (fun u hu => by obtain ⟨x, _, rfl⟩ := List.mem_map.1 hu; rfl) (by omega) (by unfold maxLen; omega) (by omega) (Nat.zero_le _) w2.heap.size rfl ?_
             intro gg cap w3 ho3 hg3 hat3 hlt3
             have HB3 := Lib.hid (show Below wr.heap.size wr w3 from (HB9.out.grown hg3 HB9.out.size (fun k hk => own_base HO9.out k hk)))
             have hr3 : ReadsOf (Value.int .u8) (0 : Int) w3 (some ⟨gg, 0, none⟩) (bs9 ++ ys.take q).length (bs9 ++ ys.take q) := by
               have e : encs (Value.int .u8) bs9 ++ encs (Value.int .u8) (ys.take q) = encs (Value.int .u8) (bs9 ++ ys.take q) := by simp [encs]
               rw [e] at ho3
               obtain ⟨A', c', he, hle, hr⟩ := own_reads_of_le (d := (0 : Int)) ho3
               injection he with he1 he2 he3
               subst he1 he3
               rw [show (bs9 ++ ys.take q).length = 9 + q by simp; omega]
               exact hr
             have HSE := Lib.hid (seal_any 76 (IntKind.u32.wrap (at_ : Int)) (some ⟨gg, 0, none⟩) cap (bs9 ++ ys.take q) (by simp; omega) w3 hr3)
             rw [show (bs9 ++ ys.take q).length = 9 + q by simp; omega] at HSE
             clear ho3 hg3 hat3 hlt3 hr3)
          | (go_at_call 182
             refine HSE.out.mono ?_
             rintro e w4 ⟨bs, rfl, hl4, _, ho4, hb4⟩
             have HO4 := Lib.hid ho4
             have HB4 := Lib.hid (HB3.out.trans (hb4.mono HB3.out.size))
             clear ho4 hb4))
      have hl4' : LogP w4 X lb db from_ count used nu ep U uc us := ⟨HLR.out.pin, HLR.out.blk.below HB4.out, own_below HLR.out.row HB4.out, HLR.out.rin⟩
      have HL4 := Lib.hid hl4'
      have hd4 := HDR.out.below HB4.out
      have hs4 := HB4.out.size
      have hsw := HCH.out.size
      have hr4 : ReadsOf (Value.int .u8) (0 : Int) w4.drew (some ⟨w3.heap.size, 0, none⟩) 256 bs := by
        obtain ⟨A', c', he, hle, hr⟩ := own_reads_of_le (d := (0 : Int)) HO4.out
        injection he with he1 he2 he3
        subst he1 he3
        exact hr.below ((Below.refl _ _).drew)
      have z0 : w4.drew.cell? ⟨lb, 0, none⟩ = some (.pointer (some ⟨db, 0, none⟩)) := hl4'.blk.cell 0
      have z1 : w4.drew.cell? ⟨lb, 1, none⟩ = some (.int .i64 from_) := hl4'.blk.cell 1
      have HWR := Lib.hid (write_any XK db n (m + k) iw hiw2 hmk (some ⟨w3.heap.size, 0, none⟩) 256 bs hl4 w4.drew (hd4.below ((Below.refl _ _).drew)) (by rw [hl4]; exact hr4) (fun a ha => by injection ha with ha; rw [← ha]))
      have hnX : ∀ j, X j → ¬ XK j := fun j hj hj' => by
        rcases (HXK.out j hj').1 with h | h
        · exact HDIS.out j hj h
        · have := HLT.out j (.inl hj); omega
      have HNX := Lib.hid hnX
      clear hl4' hd4 hr4 hnX
      go_upto_region 17 with fail
      go_region_held3 (fun w' => w'.cell? ⟨lb, 0, none⟩ = some (.pointer (some ⟨db, 0, none⟩)) ∧ w'.cell? ⟨lb, 1, none⟩ = some (.int .i64 from_)) (first | exact ⟨z0, z1⟩ | exact ⟨y0, y1⟩)
        (first | (go_at_call 183
                  refine HWR.out.mono ?_
                  rintro e w5 ⟨rfl, hd5, hc5⟩
                  have hl5 : LogP w5 X lb db from_ count used nu ep U uc us := ⟨HL4.out.pin, hc5.blk HL4.out.blk (HNX.out _ HL4.out.pin), hc5.owns HL4.out.row (fun j hj => HNX.out _ (HL4.out.rin j hj)), HL4.out.rin⟩
                  have y0 : w5.cell? ⟨lb, 0, none⟩ = some (.pointer (some ⟨db, 0, none⟩)) := hl5.blk.cell 0
                  have y1 : w5.cell? ⟨lb, 1, none⟩ = some (.int .i64 from_) := hl5.blk.cell 1
                  have HL5 := Lib.hid hl5
                  have HD5 := Lib.hid hd5
                  have HC5 := Lib.hid hc5
                  clear hl5 hd5 hc5))
      have hs5 : w4.heap.size ≤ w5.heap.size := HC5.out.size
      have hcb : Chg XK w4 w5 := ((Chg.refl XK w4).drew).trans HC5.out (fun _ _ h => h)
      have hrA : ReadsOf (Value.int .u8) (0 : Int) w5 A3 (L - q) (ys.drop q) := by
        have h4 : ReadsOf (Value.int .u8) (0 : Int) w4 (some ⟨b, off, none⟩) L ys := HRD.out.below HB4.out
        refine HR3x.out w5 ys (hcb.reads h4 (fun a ha => ?_))
        injection ha with ha
        rw [← ha]
        intro hj
        rcases (HXK.out b hj).1 with h | h
        · exact q2 h
        · omega
      have HRA := Lib.hid hrA
      have HCB := Lib.hid hcb
      rename_i hHeld
      clear hrA hcb hHeld z0 z1 y0 y1
      go_wp2_with fail
      go_roundw
      case rel =>
        have hq := HQ.out
        have hat := HAT.out
        have hL := HLL.out
        have hb3 := HX3.out (fun j => j = b) (fun a ha => by injection ha with ha; rw [← ha])
        refine ⟨k + 1, at_ + 1, L - q, c' - q, A3, ys.drop q, fun j => (XK j ∨ w4.drew.heap.size ≤ j) ∧ j < w5.heap.size, rfl, rfl, by omega, by omega, by omega, by omega, HRA.out, fun a ha => ?_, HL5.out, HD5.out.lt, fun j hj => ⟨?_, hj.2⟩, ?_⟩
        · have e := hb3 a ha
          refine ⟨by rw [e]; exact q1, by rw [e]; exact q2, fun hp => ⟨by omega, ?_⟩⟩
          obtain ⟨a', e', hc⟩ := HRA.out.2.2 hp
          rw [ha] at e'
          injection e' with e'
          subst e'
          have := World.cell?_spot (hc 0 hp)
          obtain ⟨b', off', sp'⟩ := a
          simpa [Addr.add] using this
        · rcases hj.1 with h | h
          · exact (HXK.out j h).1
          · exact .inr (by have : w4.heap.size ≤ j := h; omega)
        · refine (HCH.out.then_below HB4.out).trans HCB.out (fun j hj hx => ?_)
          rcases (HXK.out j hx).1 with h | h
          · exact h
          · omega
      case measure => simp [sliceLen]; omega
    · obtain rfl : L = 0 := by omega
      have hkp : k = pc := by omega
      subst hkp
      have HLR := Lib.hid hl
      have HDR := Lib.hid hd.lt
      have HXK := Lib.hid hXK
      have HCH := Lib.hid hch
      have HAT := Lib.hid hat
      have f5 := hl.blk.free 5
      have v5 : wr.cell? ⟨lb, 5, none⟩ = some (.int .i64 used) := hl.blk.cell 5
      have hsw := hch.size
      have hll := hl.blk.lt
      obtain ⟨W6, hW6⟩ : ∃ V, V = wr.setCell ⟨lb, 5, none⟩ (.int .i64 at_) := ⟨_, rfl⟩
      have hne : ∀ j, X j → ¬ XK j := fun j hj hj' => by
        rcases (hXK j hj').1 with h | h
        · exact HDIS.out j hj h
        · have := HLT.out j (.inl hj); omega
      have hc6 : Chg (fun j => j = lb) wr W6 := hW6 ▸ (Chg.refl (fun j => j = lb) wr).put lb 5 (.inl rfl) _
      have hb6 : Blk W6 lb #[.pointer (some ⟨db, 0, none⟩), .int .i64 from_, .int .i64 count, .int .u64 ep, .slice U nu uc, .int .i64 at_, .bool false] 293 := hW6 ▸ hl.blk.set 5 _
      have ho6 : W6.ownsRow 0 88 1 (.slice U nu uc) nu us := hW6 ▸ own_setCell hl.row (fun e => own_block_ne hl.row hl.blk (by decide) e.symm) _
      have hd6 : DiskAt false W6 XK db n (m + k) := hd.chg hc6 (fun j hj e => hne lb hl.pin (e ▸ hj))
      have hr6 : ReadsOf (Value.int .u8) (0 : Int) W6 A xs.length xs := hc6.reads (hch.reads HR.out (fun a ha => (HA.out a ha).2)) (fun a ha e => (HA.out a ha).1 (e ▸ hl.pin))
      have HB6 := Lib.hid hb6
      have HO6 := Lib.hid ho6
      have HD6 := Lib.hid hd6
      have HC6 := Lib.hid hc6
      have HNE := Lib.hid hne
      have HCL := Lib.hid (clone76 A c xs W6.drew (hr6.below ((Below.refl _ _).drew)) HSP.out (by omega))
      have u4 : W6.drew.cell? ⟨lb, 4, none⟩ = some (.slice U nu uc) := hb6.cell 4
      have HW6 := Lib.hid hW6
      clear hrd hl hd hXK hch hA' hat hL hne hc6 hb6 ho6 hd6 hr6 hW6
      go_upto_region 22 with fail
      rw [← HW6.out]
      obtain ⟨S, hSD⟩ : ∃ S : World → Prop, S = fun w' => w'.cell? ⟨lb, 4, none⟩ = some (.slice U nu uc) := ⟨_, rfl⟩
      have HSD := Lib.hid hSD
      clear hSD
      refine Held.region S 11 (by kernel_rfl) (by rw [HSD.out]; exact u4) (fun hHeld => ?_)
      refine Held.take (i := 0) (oi := { dst := _, op := _, type := _, pos := _, after := _, guard := _ }) (v := ?vc0) rfl (by kernel_rfl) (by kernel_rfl) (by kernel_rfl) (by kernel_rfl) (fun _ _ _ h => h) (Or.inl ⟨by rfl, ?hyc0⟩) (by assumption) ?restc0
      case hyc0 => (intro w hSw; rw [HSD.out] at hSw; (try dsimp only at hSw); go_simp; (try with_reducible rfl))
      try simp only [Act.put, List.setIfInBounds_toArray, List.set_cons_zero, List.set_cons_succ]
      refine Held.take (i := 1) (oi := { dst := _, op := _, type := _, pos := _, after := _, guard := _ }) (v := ?vc1) rfl (by kernel_rfl) (by kernel_rfl) (by kernel_rfl) (by kernel_rfl) (fun _ _ _ h => h) (Or.inl ⟨by rfl, ?hyc1⟩) (by assumption) ?restc1
      case hyc1 => (intro w hSw; rw [HSD.out] at hSw; (try dsimp only at hSw); go_simp; (try with_reducible rfl))
      try simp only [Act.put, List.setIfInBounds_toArray, List.set_cons_zero, List.set_cons_succ]
      refine Held.take (i := 2) (oi := { dst := _, op := _, type := _, pos := _, after := _, guard := _ }) (v := ?vc2) rfl (by kernel_rfl) (by kernel_rfl) (by kernel_rfl) (by kernel_rfl) (fun _ _ _ h => h) (Or.inl ⟨by rfl, ?hyc2⟩) (by assumption) ?restc2
      case hyc2 => (intro w hSw; rw [HSD.out] at hSw; (try dsimp only at hSw); go_simp; (try with_reducible rfl))
      try simp only [Act.put, List.setIfInBounds_toArray, List.set_cons_zero, List.set_cons_succ]
      refine Held.take (i := 3) (oi := { dst := _, op := _, type := _, pos := _, after := _, guard := _ }) (v := ?vc3) rfl (by kernel_rfl) (by kernel_rfl) (by kernel_rfl) (by kernel_rfl) (fun _ _ _ h => h) (Or.inl ⟨by rfl, ?hyc3⟩) (by assumption) ?restc3
      case hyc3 => (intro w hSw; rw [HSD.out] at hSw; (try dsimp only at hSw); go_simp; (try with_reducible rfl))
      try simp only [Act.put, List.setIfInBounds_toArray, List.set_cons_zero, List.set_cons_succ]
      refine Held.take (i := 4) (oi := { dst := _, op := _, type := _, pos := _, after := _, guard := _ }) (v := ?vc4) rfl (by kernel_rfl) (by kernel_rfl) (by kernel_rfl) (by kernel_rfl) (fun _ _ _ h => h) (Or.inl ⟨by rfl, ?hyc4⟩) (by assumption) ?restc4
      case hyc4 => (intro w hSw; rw [HSD.out] at hSw; (try dsimp only at hSw); go_simp; (try with_reducible rfl))
      try simp only [Act.put, List.setIfInBounds_toArray, List.set_cons_zero, List.set_cons_succ]
      refine Held.take (i := 5) (oi := { dst := _, op := _, type := _, pos := _, after := _, guard := _ }) (v := ?vc5) rfl (by kernel_rfl) (by kernel_rfl) (by kernel_rfl) (by kernel_rfl) (fun _ _ _ h => h) (Or.inl ⟨by rfl, ?hyc5⟩) (by assumption) ?restc5
      case hyc5 => (intro w hSw; rw [HSD.out] at hSw; (try dsimp only at hSw); go_simp; (try with_reducible rfl))
      try simp only [Act.put, List.setIfInBounds_toArray, List.set_cons_zero, List.set_cons_succ]
      refine Held.one (i := 6) (o := { dst := _, op := _, type := _, pos := _, after := _, guard := _ }) (by kernel_rfl) rfl (fun K hK => ?_)
      go_simp
      refine HCL.out.mono ?_
      rintro e w7 ⟨A9, c9, rfl, ho9, hb9⟩
      have HB7 := Lib.hid (show Below W6.heap.size W6 w7 from ((Below.refl _ _).drew).trans hb9)
      have z4 : w7.cell? ⟨lb, 4, none⟩ = some (.slice U nu uc) := (HB6.out.below HB7.out).cell 4
      clear ho9 hb9
      refine hK.out _ _ (fun _ => ?hSc6) (fun hHeldc1 => ?_)
      case hSc6 => (rw [HSD.out]; exact z4)
      clear hK K
      replace hHeldc1 := hHeldc1 (by decide)
      try simp only [Act.put, List.setIfInBounds_toArray, List.set_cons_zero, List.set_cons_succ]
      refine Held.one (i := 7) (o := { dst := _, op := _, type := _, pos := _, after := _, guard := _ }) (by kernel_rfl) rfl (fun K hK => ?_)
      go_simp
      obtain ⟨w8, hw8⟩ : ∃ V, V = w7.alloc (.cells #[.slice A9 xs.length c9] 88) := ⟨_, rfl⟩
      have HB8 := Lib.hid (show Below W6.heap.size W6 w8 from hw8 ▸ HB7.out.alloc HB7.out.size _)
      have HNB := Lib.hid (show Blk w8 w7.heap.size #[.slice A9 xs.length c9] 88 from hw8 ▸ Blk.new _ _ _)
      obtain ⟨bx, hbx⟩ : ∃ b, b = w7.heap.size := ⟨_, rfl⟩
      rw [← hbx] at HNB
      simp only [← hw8, ← hbx] at hK ⊢
      have z5 : w8.cell? ⟨lb, 4, none⟩ = some (.slice U nu uc) := (HB6.out.below HB8.out).cell 4
      clear hw8 hbx
      refine hK.out _ _ (fun _ => ?hSc7) (fun hHeldc2 => ?_)
      case hSc7 => (rw [HSD.out]; exact z5)
      clear hK K
      replace hHeldc2 := hHeldc2 (by decide)
      try simp only [Act.put, List.setIfInBounds_toArray, List.set_cons_zero, List.set_cons_succ]
      refine Held.one (i := 8) (o := { dst := _, op := _, type := _, pos := _, after := _, guard := _ }) (by kernel_rfl) rfl (fun K hK => ?_)
      have HNW := Lib.hid (show ∀ j u, ([.slice A9 xs.length c9] : List Value)[j]? = some u → w8.cell? ((⟨bx, 0, none⟩ : Addr).add j) = some u from World.news_of_block HNB.out)
      refine step_append_lies _ (by rfl) (.tmp 91) (.tmp 94) 103 (by rfl) 0 88 i88 (.slice none 0 0) 1 24 Tryz.underlying103 hi88 hz88 hs88 hb88 rfl (by decide) _ nu us (by rfl) (own_below HO6.out HB8.out) ⟨bx, 0, none⟩ 1 1 [.slice A9 xs.length c9] (by rfl) rfl HNW.out (by simp [Value.oneCell']) (by decide) (by unfold maxLen; omega) (by omega) (Nat.zero_le _) w8.heap.size rfl ?_
      intro gg cap w9 ho9 hg9 hat9 hlt9
      have hcg : Chg (fun j => (Value.slice U nu uc).ownBlock = some j) w8 w9 := (Chg.refl _ w8).grown hg9 (fun k hk => .inl hk)
      have hb9 := hcg.blk (HB6.out.below HB8.out) (own_block_ne HO6.out HB6.out (by decide))
      have HG9 := Lib.hid (hat9.imp id (fun h => by have := HB8.out.size; omega) : (Value.slice U nu uc).ownBlock = some gg ∨ W6.heap.size ≤ gg)
      have HB9 := Lib.hid hb9
      have HO9 := Lib.hid ho9
      have HC9 := Lib.hid hcg
      have z6 : w9.cell? ⟨lb, 4, none⟩ = some (.slice U nu uc) := hb9.cell 4
      have f6 := hb9.free 4
      clear ho9 hg9 hat9 hlt9 hb9 hcg
      refine hK.out _ _ (fun _ => ?hSc8) (fun hHeldc3 => ?_)
      case hSc8 => (rw [HSD.out]; exact z6)
      clear hK K
      replace hHeldc3 := hHeldc3 (by decide)
      try simp only [Act.put, List.setIfInBounds_toArray, List.set_cons_zero, List.set_cons_succ]
      refine Held.one (i := 9) (o := { dst := _, op := _, type := _, pos := _, after := _, guard := _ }) (by kernel_rfl) rfl (fun K hK => ?_)
      go_simp
      refine hK.out _ _ (fun _ => hHeldc3) (fun _ => ?_)
      clear hK K
      try simp only [Act.put, List.setIfInBounds_toArray, List.set_cons_zero, List.set_cons_succ]
      refine Held.one (i := 10) (o := { dst := _, op := _, type := _, pos := _, after := _, guard := _ }) (by kernel_rfl) rfl (fun K hK => ?_)
      go_simp
      refine hK.out _ _ (fun _ => hHeldc3) (fun _ => ?_)
      clear hK K
      try simp only [Act.put, List.setIfInBounds_toArray, List.set_cons_zero, List.set_cons_succ]
      refine Held.one (i := 11) (o := { dst := _, op := _, type := _, pos := _, after := _, guard := _ }) (by kernel_rfl) rfl (fun K hK => ?_)
      go_simp
      refine hK.out _ _ (fun h => absurd rfl h) (fun _ => ?_)
      clear hK K
      refine Held.done (by kernel_rfl) ?_ _
      refine NoPanic.normal ?_
      go_wp2_with fail
      go_ret
      obtain rfl := HAT.out
      have hwW : wr.heap.size ≤ W6.heap.size := HC6.out.size
      have hWw : W6.heap.size = wr.heap.size := by rw [HW6.out]; simp [World.setCell]
      have hgl : gg ≠ lb := fun e => own_block_ne HO9.out HB9.out (by decide) (e ▸ rfl)
      have hnk : ∀ j, XK j → ¬ (Value.slice U nu uc).ownBlock = some j := fun j hj e => HNE.out j (HLR.out.rin j e) hj
      refine ⟨rfl, fun j => X j ∨ W6.heap.size ≤ j, XK, ⟨ep, some ⟨gg, 0, none⟩, cap, _, .inl HLR.out.pin, HB9.out.set 4 _, own_setCell HO9.out (fun e => hgl (by injection e with e; exact e.symm)) _, fun j hj => ?_⟩, ?_, fun j hj hj' => ?_, fun j hj => ?_, fun j hj => (HXK.out j hj).1, ?_⟩
      · have e : gg = j := by injection hj
        subst e
        exact HG9.out.imp (HLR.out.rin gg) id
      · have hd8 := HD6.out.below HB8.out
        exact (hd8.chg HC9.out hnk).chg ((Chg.refl (fun j => j = lb) w9).put lb 4 (.inl rfl) _) (fun j hj e => HNE.out lb HLR.out.pin (e ▸ hj))
      · rcases hj with h | h
        · exact HNE.out j h hj'
        · have := (HXK.out j hj').2; omega
      · exact hj.imp id (fun h => by omega)
      · have c1 : Chg (fun j => X j ∨ XD j) w W6 := (HCH.out.mono (fun _ _ h => .inr h)).trans HC6.out (fun j _ e => .inl (by rw [show j = lb from e]; exact HLR.out.pin))
        have c2 : Chg (fun j => X j ∨ XD j) w w9 := (c1.then_below HB8.out).trans HC9.out (fun j _ e => .inl (HLR.out.rin j e))
        exact c2.put lb 4 (.inl (.inl HLR.out.pin)) _
end Go.Proofs.YtlcdjgpblpodaaaGreatDoor

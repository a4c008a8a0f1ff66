/- Poi4 -/
import Derived.Test.YtlcdjgpblpodaaaGreatDoorMBM
namespace Go.Proofs.YtlcdjgpblpodaaaGreatDoor
open Go.RowKit Go.Maps Go.Proofs.YtlcdjgpblpodaaaGreatDoorW.PrintWords

set_option maxRecDepth 100000 in
set_option maxHeartbeats 1000000 in
theorem letsall (A : Option Addr) (c : Nat) (ls : List Let) (hl : ∀ l ∈ ls, l.args.length ≤ 4) (h8 : ls.length ≤ 8) (X : Nat → Prop) (w : World) (hL : LetsAt w X A ls) :
    Calls Tryz.prog 172 #[.slice A ls.length c] w fun e w' => ∃ A' c' cs, e = .returned (.slice A' ls.length c') ∧ w'.ownsRow w.heap.size 65 4 (.slice A' ls.length c') ls.length cs ∧ LetsC w' (fun k => w.heap.size ≤ k ∧ (Value.slice A' ls.length c').ownBlock ≠ some k) cs ls ∧ Below w.heap.size w w' := by
  obtain ⟨i0, z0, hi, hz0, hz1, hz2, hz3⟩ := info_big info65
  have HL := Lib.hid hL.lt
  have HOK := Lib.hid hl
  clear hL hl
  go_enter Tryz.func172, Tryz.ntmps172
  go_wp2_with fail
  go_loopw [3, 8] (fun s3 s8 wr => ∃ (j : Nat) (A' : Option Addr) (c' : Nat) (cs : List Value), s3 = .slice A' j c' ∧ s8 = .int .i64 j ∧ j ≤ ls.length ∧ wr.ownsRow w.heap.size 65 4 (.slice A' j c') j cs ∧ LetsC wr (fun k => w.heap.size ≤ k ∧ k < wr.heap.size ∧ (Value.slice A' j c').ownBlock ≠ some k) cs (ls.take j) ∧ Below w.heap.size w wr) (fun _ s8 _ => ls.length - (intOf s8).toNat)
  case atStart => exact ⟨0, none, 0, [], rfl, rfl, Nat.zero_le _, own_nil _ _ _ _, LetsC.nil _ _, Below.refl _ _⟩
  case round =>
    obtain ⟨j, A', c', cs, rfl, rfl, hj, ho, hc, hb⟩ := hrel
    have k0 : (0 : Int) ≤ (j : Int) := by omega
    by_cases hjl : j < ls.length
    · obtain ⟨l, hlj⟩ : ∃ l, ls[j]? = some l := ⟨_, List.getElem?_eq_getElem hjl⟩
      have htk : ls.take (j + 1) = ls.take j ++ [l] := by rw [List.take_add_one, hlj]; rfl
      have hargs := HOK.out l (List.mem_of_getElem? hlj)
      obtain ⟨b, off, rfl, hXb, hcell⟩ := HL.out (by intro h; simp [h] at hjl)
      obtain ⟨AA, ca, q0, q1, q2, q3, q4⟩ := hcell j l hlj
      have hbo := hb
      have g0 := (Chg.of_below hbo (fun _ => False)).cell (a := ⟨b, off + j * 4, none⟩) (fun h => h) q0
      have g1 := (Chg.of_below hbo (fun _ => False)).cell (a := ⟨b, off + j * 4 + 1, none⟩) (fun h => h) q1
      have g2 := (Chg.of_below hbo (fun _ => False)).cell (a := ⟨b, off + j * 4 + 2, none⟩) (fun h => h) q2
      have g3 := (Chg.of_below hbo (fun _ => False)).cell (a := ⟨b, off + j * 4 + 3, none⟩) (fun h => h) q3
      have hbl := World.block_lt_of_cell? wr _ g0
      simp only at hbl
      have k1 : (j : Int) < (ls.length : Int) := by omega
      have HA := Lib.hid (q4.chg (Chg.of_below hbo (fun _ => False)) (fun _ _ h => h))
      have HO := Lib.hid ho
      have HC := Lib.hid hc
      have HB := Lib.hid hb
      have HTK := Lib.hid htk
      have HJ := Lib.hid (show (ls.take j).length = j by simp; omega)
      have hsw := hb.size
      obtain ⟨W2, hW2⟩ : ∃ W, W = wr.alloc (.cells #[.string l.frm, .int .u64 l.serial, .int .i64 l.kind, .slice AA l.args.length ca] 65) := ⟨_, rfl⟩
      have HBX := Lib.hid (show Blk W2 wr.heap.size #[.string l.frm, .int .u64 l.serial, .int .i64 l.kind, .slice AA l.args.length ca] 65 from hW2 ▸ Blk.new _ _ _)
      have HB2 := Lib.hid (show Below wr.heap.size wr W2 from hW2 ▸ (Below.refl _ _).alloc (Nat.le_refl _) _)
      have HW2 := Lib.hid hW2
      have HCP := Lib.hid (copy_any l hargs AA ca _ W2 (HA.out.below HB2.out))
      have d0 : W2.cell? ⟨wr.heap.size, 0, none⟩ = some (.string l.frm) := HBX.out.cell 0
      have d1 : W2.cell? ⟨wr.heap.size, 1, none⟩ = some (.int .u64 l.serial) := HBX.out.cell 1
      have d2 : W2.cell? ⟨wr.heap.size, 2, none⟩ = some (.int .i64 l.kind) := HBX.out.cell 2
      have d3 : W2.cell? ⟨wr.heap.size, 3, none⟩ = some (.slice AA l.args.length ca) := HBX.out.cell 3
      have d4 := HBX.out.lt
      clear hb hbo ho hc htk hlj hW2 hXb hcell q0 q1 q2 q3 q4
      go_upto_region 5 with fail
      rw [← HW2.out]
      go_wp2_with fail
      refine HCP.out.mono ?_
      rintro e w4 ⟨Aa, cb, rfl, hA, hb4⟩
      have hs2 := HB2.out.size
      have hs4 := hb4.size
      have hlt := own_lt HO.out
      have hb24 := HB2.out.trans (hb4.mono hs2)
      have HO4 := Lib.hid (own_below HO.out hb24)
      have hC4 : LetsC w4 (fun k => w.heap.size ≤ k ∧ k < w4.heap.size ∧ (Value.slice A' j c').ownBlock ≠ some k) (cs ++ letC l Aa cb) (ls.take j ++ [l]) :=
        ((HC.out.chg (Chg.of_below hb24 (fun _ => False)) (fun _ _ h => h)).mono (fun k hk => ⟨hk.1, Nat.lt_of_lt_of_le hk.2.1 hb24.size, hk.2.2⟩)).snoc (by rw [HJ.out]; exact HO.out.1) (hA.lt.mono (fun k hk => ⟨by omega, hk.2, fun e => by have := hlt k e; omega⟩))
      have HC4 := Lib.hid hC4
      have HB4 := Lib.hid (HB.out.trans (hb24.mono hsw))
      have HNW := Lib.hid (show ∀ j u, (letC l Aa cb)[j]? = some u → (w4.alloc (.cells #[.string l.frm, .int .u64 l.serial, .int .i64 l.kind, .slice Aa l.args.length cb] 65)).cell? ((⟨w4.heap.size, 0, none⟩ : Addr).add j) = some u from World.news_of_block (Blk.new _ _ _))
      clear hA hb4 hlt hC4 hb24 d0 d1 d2 d3 d4 g0 g1 g2 g3
      go_wp2_with (at_builtin; refine wpList_append_lies _ rfl _ _ 44 rfl w.heap.size 65 i0 z0 4 56 Tryz.underlying44 hi hz0 hz1 hz2 hz3 (by decide) _ j cs rfl (HO4.out.alloc _) ⟨w4.heap.size, 0, none⟩ 1 1 (letC l Aa cb) rfl rfl HNW.out (letC_one _ _ _) (by decide) (by unfold maxLen; omega) (by omega) (by simp; omega) (w4.heap.size + 1) (by simp) ?_; intro g cap w6 ho6 hg6 hat6 hlt6)
      have hg6' : (w4.alloc (.cells #[.string l.frm, .int .u64 l.serial, .int .i64 l.kind, .slice Aa l.args.length cb] 65)).grownBy w6 (Value.slice A' j c').ownBlock := hg6
      have hat6' : (Value.slice A' j c').ownBlock = some g ∨ g = w4.heap.size + 1 := hat6
      have hc6 : Chg (fun k => (Value.slice A' j c').ownBlock = some k) w4 w6 := ((Chg.refl _ w4).alloc _).grown hg6' (fun k hk => .inl hk)
      have hC6 := (HC4.out.chg hc6 (fun k hk => hk.2.2)).mono (X' := fun k => w.heap.size ≤ k ∧ k < w6.heap.size ∧ (Value.slice (some ⟨g, 0, none⟩) (j + 1) cap).ownBlock ≠ some k) (fun k hk => ⟨hk.1, Nat.lt_of_lt_of_le hk.2.1 hc6.size, fun e => by
        have e2 : g = k := by injection e
        rcases hat6' with h | h
        · exact hk.2.2 (e2 ▸ h)
        · omega⟩)
      have hB6 : Below w.heap.size w w6 := HB4.out.trans (hc6.below (fun k hk => own_base HO4.out k hk) HB4.out.size)
      have HO6 := Lib.hid ho6
      have HC6 := Lib.hid hC6
      have HB6 := Lib.hid hB6
      clear hg6 hg6' hat6 hat6' hc6 hC6 hB6 ho6 hlt6
      go_wp2_with fail
      go_roundw
      case rel => exact ⟨j + 1, some ⟨g, 0, none⟩, cap, cs ++ letC l Aa cb, rfl, by go_num, by omega, HO6.out, by rw [HTK.out]; exact HC6.out, HB6.out⟩
      case measure => simp [intOf]; omega
    · obtain rfl : j = ls.length := by omega
      rw [List.take_of_length_le (Nat.le_refl _)] at hc
      have HB := Lib.hid hb
      have HO := Lib.hid ho
      have HC := Lib.hid hc
      clear hb ho hc
      go_wp2_with fail
      go_ret
      exact ⟨A', c', cs, rfl, HO.out, HC.out.mono (fun k hk => ⟨hk.1, hk.2.2⟩), HB.out⟩
/-- The poison list, with a letter more. -/
theorem poi_mid {w1 Wd wa w7 : World} {A9 A6 : Option Addr} {c9 c6 g cap : Nat} {cs : List Value} {l : Let} {ps : List Let} (hA9 : ArgsAt Wd (fun k => w1.heap.size ≤ k) A9 c9 l.args) (how : wa.ownsRow Wd.heap.size 65 4 (.slice A6 ps.length c6) ps.length cs)
    (hlc : LetsC wa (fun k => Wd.heap.size ≤ k ∧ (Value.slice A6 ps.length c6).ownBlock ≠ some k) cs ps) (hba : Below Wd.heap.size Wd wa) (hs : w1.heap.size ≤ Wd.heap.size)
    (ho : w7.ownsRow Wd.heap.size 65 4 (.slice (some ⟨g, 0, none⟩) (ps.length + 1) cap) (ps.length + 1) (cs ++ letC l A9 c9)) (hg : wa.grownBy w7 (Value.slice A6 ps.length c6).ownBlock) :
    Chg (fun k => Wd.heap.size ≤ k) Wd w7 ∧ w7.ownsRow Wd.heap.size 65 4 (.slice (some ⟨g, 0, none⟩) (ps.length + 1) cap) (ps.length + 1) (cs ++ letC l A9 c9) ∧ LetsC w7 (fun k => w1.heap.size ≤ k ∧ k < w7.heap.size) (cs ++ letC l A9 c9) (ps ++ [l]) := by
  have hsa := hba.size
  have hc7 : Chg (fun k => (Value.slice A6 ps.length c6).ownBlock = some k) wa w7 := (Chg.refl _ wa).grown hg (fun k hk => .inl hk)
  have hA : ArgsAt wa (fun k => (w1.heap.size ≤ k ∧ k < wa.heap.size) ∧ (Value.slice A6 ps.length c6).ownBlock ≠ some k) A9 c9 l.args := (hA9.lt.below hba).mono (fun k hk => ⟨⟨hk.1, by have := hk.2; omega⟩, fun e => by have := own_base how k e; have := hk.2; omega⟩)
  have hlc' : LetsC wa (fun k => (w1.heap.size ≤ k ∧ k < wa.heap.size) ∧ (Value.slice A6 ps.length c6).ownBlock ≠ some k) cs ps := fun i x hx => by
    obtain ⟨A', c', h0, h1, h2, h3, h4⟩ := hlc i x hx
    exact ⟨A', c', h0, h1, h2, h3, h4.lt.mono (fun k hk => ⟨⟨by have := hk.1.1; omega, hk.2⟩, hk.1.2⟩)⟩
  refine ⟨(Chg.of_below hba _).trans hc7 (fun k _ hk => own_base how k hk), ho, ((hlc'.snoc how.1 hA).chg hc7 (fun k hk => hk.2)).mono (fun k hk => ⟨hk.1.1, Nat.lt_of_lt_of_le hk.1.2 hc7.size⟩)⟩
theorem poi_fin {w1 w2 w7 w8 : World} {X : Nat → Prop} {p jb ib ob pc g cap : Nat} {a : Actr} {PA : Option Addr} {XJ XI XO XP : Nat → Prop} {l : Let} {r : List Let} {cs : List Value} (h : ActP true w1 X p a jb ib ob PA pc XJ XI XO XP) (hi : InbRd w2 XI ib r) (hc2 : Chg (fun k => k = ib) w1 w2)
    (hc7 : Chg (fun k => w2.heap.size ≤ k) w2 w7) (ho : w7.ownsRow w2.heap.size 65 4 (.slice (some ⟨g, 0, none⟩) (a.poison.length + 1) cap) (a.poison.length + 1) cs) (hl : LetsC w7 (fun k => w1.heap.size ≤ k ∧ k < w7.heap.size) cs (a.poison ++ [l]))
    (h8 : w8 = (w7.setCell ⟨p, 4, none⟩ (.slice (some ⟨g, 0, none⟩) (a.poison.length + 1) cap)).setCell ⟨p, 3, none⟩ (.int .i64 0)) :
    ActAt false w8 (fun k => X k ∨ w1.heap.size ≤ k) p { a with inbox := r, tries := 0, poison := a.poison ++ [l] } ∧ Chg X w1 w8 := by
  have hib : XI ib := by
    obtain ⟨A, c, q1, _⟩ := hi
    exact q1
  have hpi : p ≠ ib := fun e => (h.sub ib (.inr (.inl hib))).2.1 e.symm
  have hpl := h.blk.lt
  have s2 := hc2.size
  have s7 := hc7.size
  have hb7 := hc7.blk (hc2.blk h.blk hpi) (by omega)
  have hc78 : Chg (fun k => k = p) w7 w8 := h8 ▸ (((Chg.refl (fun k => k = p) w7).put p 4 (.inl rfl) _).put p 3 (.inl rfl) _)
  have s8 := hc78.size
  have hb8 : Blk w8 p #[.pointer (some ⟨jb, 0, none⟩), .pointer (some ⟨ib, 0, none⟩), .pointer (some ⟨ob, 0, none⟩), .int .i64 ((0 : Nat) : Int), .slice (some ⟨g, 0, none⟩) (a.poison ++ [l]).length cap] 46 := by
    rw [h8, List.length_append]; simpa using (hb7.set 4 (.slice (some ⟨g, 0, none⟩) (a.poison.length + 1) cap)).set 3 (.int .i64 0)
  have hc28 : Chg (fun k => k = p ∨ w2.heap.size ≤ k) w2 w8 := (hc7.mono (fun _ _ e => .inr e)).trans hc78 (fun _ _ e => .inl e)
  have hX : Chg X w1 w8 := (hc2.mono (fun k _ e => by subst e; exact (h.sub _ (.inr (.inl hib))).1)).trans hc28 (fun k hk e => by
    rcases e with e | e
    · subst e; exact h.pin
    · omega)
  have ne : ∀ k, XJ k ∨ XI k ∨ XO k ∨ XP k → ¬ (k = p ∨ w2.heap.size ≤ k) := fun k hk e => by
    obtain ⟨_, a2, a3⟩ := h.sub k hk
    rcases e with e | e
    · exact a2 e
    · omega
  refine ⟨⟨jb, ib, ob, some ⟨g, 0, none⟩, cap, XJ, XI, XO, (fun k => w1.heap.size ≤ k ∧ k < w7.heap.size), .inl h.pin, hb8, (h.jour.chg hc2 (fun k hk e => h.dji k hk (e ▸ hib))).chg hc28 (fun k hk => ne k (.inl hk)), hi.chg hc28 (fun k hk => ne k (.inr (.inl hk))), nofun,
    (h.outb.rd.chg hc2 (fun k hk e => h.dio ib hib (e ▸ hk))).chg hc28 (fun k hk => ne k (.inr (.inr (.inl hk)))), (LetsAt.of_own ho hl (by simp) (fun k hk => ⟨Nat.le_trans s2 (own_base ho k hk), own_lt ho k hk⟩)).chg hc78 (fun k hk e => by subst e; have := hk.1; omega), fun k hk => ?_, h.dji, h.djo, fun k e hk => ?_, h.dio, fun k e hk => ?_, fun k e hk => ?_⟩, hX⟩
  · rcases hk with hk | hk | hk | hk
    · obtain ⟨a1, a2, a3⟩ := h.sub k (.inl hk); exact ⟨.inl a1, a2, by omega⟩
    · obtain ⟨a1, a2, a3⟩ := h.sub k (.inr (.inl hk)); exact ⟨.inl a1, a2, by omega⟩
    · obtain ⟨a1, a2, a3⟩ := h.sub k (.inr (.inr (.inl hk))); exact ⟨.inl a1, a2, by omega⟩
    · exact ⟨.inr hk.1, by have := hk.1; omega, by have := hk.2; omega⟩
  · have := (h.sub k (.inl e)).2.2; have := hk.1; omega
  · have := (h.sub k (.inr (.inl e))).2.2; have := hk.1; omega
  · have := (h.sub k (.inr (.inr (.inl e)))).2.2; have := hk.1; omega
set_option maxRecDepth 100000 in
set_option maxHeartbeats 4000000 in
theorem fail_poison (X : Nat → Prop) (p jb ib ob pc : Nat) (a : Actr) (PA : Option Addr) (XJ XI XO XP : Nat → Prop) (l : Let) (r : List Let) (fl st : Int) (w : World) (h : ActP true w X p a jb ib ob PA pc XJ XI XO XP) (hin : a.inbox = l :: r) (hl : l.args.length ≤ 4) (hps : ∀ x ∈ a.poison, x.args.length ≤ 4) (h8 : a.poison.length < 8) (ht : a.tries = 2) (hX : ∀ k, X k → k < w.heap.size) :
    Calls Tryz.prog 109 #[.pointer (some ⟨p, 0, none⟩), .agg (outC false false fl st)] w fun e w' => e = .returned (.tuple #[.agg (outC false true fl st), .int .i64 0]) ∧ ActAt false w' (fun k => X k ∨ w.heap.size ≤ k) p { a with inbox := r, tries := 0, poison := a.poison ++ [l] } ∧ Chg X w w' := by
  obtain ⟨i0, z0, hi, hz0, hz1, hz2, hz3⟩ := info_big info65
  have HXL := Lib.hid hX
  clear hX
  unfold outC
  obtain ⟨xb, hxb⟩ : ∃ b, b = w.heap.size := ⟨_, rfl⟩
  obtain ⟨rb, hrb⟩ : ∃ b, b = w.heap.size + 1 := ⟨_, rfl⟩
  obtain ⟨W2, hW2⟩ : ∃ W, W = (w.alloc (.cells #[.bool false, .bool false, .int .i64 fl, .int .i64 st, .slice none 0 0] 35)).alloc (.cells #[.bool false, .bool false, .int .i64 0, .int .i64 0, .slice none 0 0] 35) := ⟨_, rfl⟩
  have hb2 : Below w.heap.size w W2 := hW2 ▸ ((Below.refl _ _).alloc (Nat.le_refl _) _).alloc (by simp) _
  have hx2 : Blk W2 xb #[.bool false, .bool false, .int .i64 fl, .int .i64 st, .slice none 0 0] 35 := hW2 ▸ (Blk.newAt hxb).alloc _
  have hr2 : Blk W2 rb #[.bool false, .bool false, .int .i64 0, .int .i64 0, .slice none 0 0] 35 := hW2 ▸ Blk.newAt (by rw [hrb]; simp)
  have h2 := h.lt.below hb2
  have hpw := h.blk.lt
  have c3 : W2.cell? ⟨p, 3, none⟩ = some (.int .i64 2) := (h2.blk.cell 3).trans (by rw [ht]; rfl)
  have c4 : W2.cell? ⟨p, 4, none⟩ = some (.slice PA a.poison.length pc) := h2.blk.cell 4
  have c1 : W2.cell? ⟨p, 1, none⟩ = some (.pointer (some ⟨ib, 0, none⟩)) := h2.blk.cell 1
  have t8 : decide ((8 : Int) ≤ (a.poison.length : Int)) = false := decide_eq_false (by omega)
  have t8' : decide (8 ≤ a.poison.length) = false := decide_eq_false (by omega)
  have hpl := h2.blk.lt
  have HPOP := Lib.hid (pop_any XI ib l r hl W2 (hin ▸ h2.inr))
  have H2 := Lib.hid h2
  have HB2 := Lib.hid hb2
  have HX2 := Lib.hid hx2
  have HR2 := Lib.hid hr2
  have HW2 := Lib.hid hW2
  have HXB := Lib.hid hxb
  have HRB := Lib.hid hrb
  have HT := Lib.hid ht
  have HIN := Lib.hid hin
  have hs2 : W2.heap.size = w.heap.size + 2 := by rw [hW2]; simp
  clear hW2 h h2 hb2 hx2 hr2 hxb hrb ht hin
  go_enter Tryz.func109, Tryz.ntmps109
  go_upto_region 1 with fail
  rw [show w.heap.size + 1 = rb from HRB.out.symm, ← HXB.out, ← HW2.out]
  go_wp2_with fail
  refine HPOP.out.mono ?_
  rintro e w9 ⟨A9, c9, rfl, hA9, hi9, hc9⟩
  have hib : XI ib := by
    obtain ⟨A, c, q1, _⟩ := hi9
    exact q1
  have hpi : p ≠ ib := fun e => (H2.out.sub ib (.inr (.inl hib))).2.1 e.symm
  have hiw : ib < w.heap.size := (H2.out.sub ib (.inr (.inl hib))).1.2
  obtain ⟨lb, hlb⟩ : ∃ b, b = w9.heap.size := ⟨_, rfl⟩
  obtain ⟨W5, hW5⟩ : ∃ W, W = w9.alloc (.cells #[.string l.frm, .int .u64 l.serial, .int .i64 l.kind, .slice A9 l.args.length c9] 65) := ⟨_, rfl⟩
  have hb5 : Below w9.heap.size w9 W5 := hW5 ▸ (Below.refl _ _).alloc (Nat.le_refl _) _
  obtain ⟨Wd, hWd⟩ : ∃ V, V = W5.drew := ⟨_, rfl⟩
  have hb5d : Below w9.heap.size w9 Wd := hWd ▸ hb5.drew
  have hl5 : Blk Wd lb #[.string l.frm, .int .u64 l.serial, .int .i64 l.kind, .slice A9 l.args.length c9] 65 := hWd ▸ (show Blk W5 lb _ 65 from hW5 ▸ Blk.newAt hlb)
  have hs9 := hc9.size
  have hs5 := hb5d.size
  have hc2d : Chg (fun k => k = ib) W2 Wd := hc9.then_below hb5d
  have HPW := Lib.hid (hc2d.blk H2.out.blk hpi)
  have HLB := Lib.hid hl5
  have HPO := Lib.hid (H2.out.poi.chg hc2d (fun k hk e => H2.out.dip ib hib (e ▸ hk)))
  have HA9 := Lib.hid (hA9.below hb5d)
  have HI9 := Lib.hid (hi9.chg (Chg.of_below hb5d (fun _ => False)) (fun _ _ h => h))
  have HC2D := Lib.hid hc2d
  have HXD := Lib.hid (hc2d.blk HX2.out (fun e => by have := HXB.out; omega))
  have HRD := Lib.hid (hc2d.blk HR2.out (fun e => by have := HRB.out; omega))
  have HSW := Lib.hid (show W2.heap.size ≤ Wd.heap.size by omega)
  have KEY := Lib.hid (show ∀ w' : World, Below Wd.heap.size Wd w' → w'.cell? ⟨p, 4, none⟩ = some (.slice PA a.poison.length pc) ∧ w'.cell? ⟨lb, 0, none⟩ = some (.string l.frm) ∧ w'.cell? ⟨lb, 1, none⟩ = some (.int .u64 l.serial) ∧ w'.cell? ⟨lb, 2, none⟩ = some (.int .i64 l.kind) ∧ w'.cell? ⟨lb, 3, none⟩ = some (.slice A9 l.args.length c9) from fun w' hb =>
    ⟨(HPW.out.below hb).cell 4, (HLB.out.below hb).cell 0, (HLB.out.below hb).cell 1, (HLB.out.below hb).cell 2, (HLB.out.below hb).cell 3⟩)
  have HW5 := Lib.hid hW5
  have HLBE := Lib.hid hlb
  clear hA9 hi9 hc9 hlb hW5 hb5 hb5d hl5 hc2d c1 c3 c4 hib hiw
  go_upto_region 7 with fail
  rw [← HW5.out, ← HLBE.out]
  go_cut [] from 37 to 50 (fun wx => Hid (∃ g cap w7 cs, Chg (fun k => Wd.heap.size ≤ k) Wd w7 ∧ w7.ownsRow Wd.heap.size 65 4 (.slice (some ⟨g, 0, none⟩) (a.poison.length + 1) cap) (a.poison.length + 1) cs ∧ LetsC w7 (fun k => W2.heap.size ≤ k ∧ k < w7.heap.size) cs (a.poison ++ [l]) ∧ wx = (w7.setCell ⟨p, 4, none⟩ (.slice (some ⟨g, 0, none⟩) (a.poison.length + 1) cap)).setCell ⟨p, 3, none⟩ (.int .i64 0)))
  case first =>
    obtain ⟨S, hSD⟩ : ∃ S : World → Prop, S = fun w' => w'.cell? ⟨p, 4, none⟩ = some (.slice PA a.poison.length pc) ∧ w'.cell? ⟨lb, 0, none⟩ = some (.string l.frm) ∧ w'.cell? ⟨lb, 1, none⟩ = some (.int .u64 l.serial) ∧ w'.cell? ⟨lb, 2, none⟩ = some (.int .i64 l.kind) ∧ w'.cell? ⟨lb, 3, none⟩ = some (.slice A9 l.args.length c9) := ⟨_, rfl⟩
    have HSD := Lib.hid hSD
    clear hSD
    refine HeldB.region S 12 (by kernel_rfl) (by rw [HSD.out, ← hWd]; exact KEY.out _ (Below.refl _ _)) (fun _ => ?_)
    rw [← hWd]
    clear hWd
    refine HeldB.takeP (i := 0) (oi := { dst := _, op := _, type := _, pos := _, after := _, guard := _ }) (v := ?v0) (by decide) rfl (by kernel_rfl) (by kernel_rfl) (by kernel_rfl) (fun _ _ _ h => h) (Or.inl ⟨by rfl, ?hy0⟩) (fun _ => by rw [HSD.out]; exact KEY.out _ (Below.refl _ _)) ?rest0
    case hy0 => (intro w hSw; clear hSw; go_simp; (try with_reducible rfl))
    try simp only [Act.put, List.setIfInBounds_toArray, List.set_cons_zero, List.set_cons_succ]
    refine HeldB.takeP (i := 1) (oi := { dst := _, op := _, type := _, pos := _, after := _, guard := _ }) (v := ?v1) (by decide) rfl (by kernel_rfl) (by kernel_rfl) (by kernel_rfl) (fun _ _ _ h => h) (Or.inl ⟨by rfl, ?hy1⟩) (fun _ => by rw [HSD.out]; exact KEY.out _ (Below.refl _ _)) ?rest1
    case hy1 => (intro w hSw; clear hSw; go_simp; (try with_reducible rfl))
    try simp only [Act.put, List.setIfInBounds_toArray, List.set_cons_zero, List.set_cons_succ]
    refine HeldB.takeP (i := 2) (oi := { dst := _, op := _, type := _, pos := _, after := _, guard := _ }) (v := ?v2) (by decide) rfl (by kernel_rfl) (by kernel_rfl) (by kernel_rfl) (fun _ _ _ h => h) (Or.inl ⟨by rfl, ?hy2⟩) (fun _ => by rw [HSD.out]; exact KEY.out _ (Below.refl _ _)) ?rest2
    case hy2 => (intro w hSw; clear hSw; go_simp; (try with_reducible rfl))
    try simp only [Act.put, List.setIfInBounds_toArray, List.set_cons_zero, List.set_cons_succ]
    refine HeldB.takeP (i := 3) (oi := { dst := _, op := _, type := _, pos := _, after := _, guard := _ }) (v := ?v3) (by decide) rfl (by kernel_rfl) (by kernel_rfl) (by kernel_rfl) (fun _ _ _ h => h) (Or.inl ⟨by rfl, ?hy3⟩) (fun _ => by rw [HSD.out]; exact KEY.out _ (Below.refl _ _)) ?rest3
    case hy3 => (intro w hSw; clear hSw; go_simp; (try with_reducible rfl))
    try simp only [Act.put, List.setIfInBounds_toArray, List.set_cons_zero, List.set_cons_succ]
    refine HeldB.takeP (i := 4) (oi := { dst := _, op := _, type := _, pos := _, after := _, guard := _ }) (v := ?v4) (by decide) rfl (by kernel_rfl) (by kernel_rfl) (by kernel_rfl) (fun _ _ _ h => h) (Or.inl ⟨by rfl, ?hy4⟩) (fun _ => by rw [HSD.out]; exact KEY.out _ (Below.refl _ _)) ?rest4
    case hy4 => (intro w hSw; clear hSw; go_simp; (try with_reducible rfl))
    try simp only [Act.put, List.setIfInBounds_toArray, List.set_cons_zero, List.set_cons_succ]
    refine HeldB.take (i := 5) (oi := { dst := _, op := _, type := _, pos := _, after := _, guard := _ }) (v := ?v5) rfl (by kernel_rfl) (by kernel_rfl) (by kernel_rfl) (by kernel_rfl) (by kernel_rfl) (fun _ _ _ h => h) (Or.inl ⟨by rfl, ?hy5⟩) (by rw [HSD.out]; exact KEY.out _ (Below.refl _ _)) ?rest5
    case hy5 => (intro w hSw; rw [HSD.out] at hSw; (try dsimp only at hSw); go_simp; (try with_reducible rfl))
    try simp only [Act.put, List.setIfInBounds_toArray, List.set_cons_zero, List.set_cons_succ]
    refine HeldB.take (i := 7) (oi := { dst := _, op := _, type := _, pos := _, after := _, guard := _ }) (v := ?v7) rfl (by kernel_rfl) (by kernel_rfl) (by kernel_rfl) (by kernel_rfl) (by kernel_rfl) (fun _ _ _ h => h) (Or.inl ⟨by rfl, ?hy7⟩) (by rw [HSD.out]; exact KEY.out _ (Below.refl _ _)) ?rest7
    case hy7 => (intro w hSw; rw [HSD.out] at hSw; (try dsimp only at hSw); go_simp; (try with_reducible rfl))
    try simp only [Act.put, List.setIfInBounds_toArray, List.set_cons_zero, List.set_cons_succ]
    refine HeldB.two (i := 6) (j := 8) (o := { dst := _, op := _, type := _, pos := _, after := _, guard := _ }) (o2 := { dst := _, op := _, type := _, pos := _, after := _, guard := _ }) (by kernel_rfl) rfl rfl (fun K hK => ?one) (fun K hK => ?two)
    case one =>
      go_simp
      refine (letsall PA pc a.poison hps (by omega) XP (Wd) (HPO.out.below (Below.refl _ _))).mono ?_
      rintro e w6 ⟨A6, c6, cs, rfl, ho6, hl6, hb6⟩
      have HB6 := Lib.hid hb6
      have HO6 := Lib.hid ho6
      have HL6 := Lib.hid hl6
      clear ho6 hl6 hb6
      refine hK.out _ _ (fun _ => by rw [HSD.out]; exact KEY.out _ HB6.out) (fun _ => ?_)
      clear hK K
      try simp only [Act.put, List.setIfInBounds_toArray, List.set_cons_zero, List.set_cons_succ]
      refine HeldB.one (i := 8) (o := { dst := _, op := _, type := _, pos := _, after := _, guard := _ }) (by kernel_rfl) rfl (fun K hK => ?_)
      go_simp
      obtain ⟨Wa, hWa⟩ : ∃ V, V = w6.alloc (.cells #[.string l.frm, .int .u64 l.serial, .int .i64 l.kind, .slice A9 l.args.length c9] 65) := ⟨_, rfl⟩
      rw [← hWa]
      have hba : Below w6.heap.size w6 Wa := hWa ▸ (Below.refl _ _).alloc (Nat.le_refl _) _
      have HZ := Lib.hid (show Blk Wa w6.heap.size #[.string l.frm, .int .u64 l.serial, .int .i64 l.kind, .slice A9 l.args.length c9] 65 from hWa ▸ Blk.new _ _ _)
      have HBA := Lib.hid (HB6.out.trans (hba.mono HB6.out.size))
      have HOW := Lib.hid (own_below HO6.out hba)
      have HLC := Lib.hid ((HL6.out.chg (Chg.of_below hba (fun _ => False)) (fun _ _ h => h)))
      clear hWa hba
      refine hK.out _ _ (fun _ => by rw [HSD.out]; exact KEY.out _ HBA.out) (fun _ => ?_)
      clear hK K
      try simp only [Act.put, List.setIfInBounds_toArray, List.set_cons_zero, List.set_cons_succ]
      have HNW := Lib.hid (show ∀ j u, (letC l A9 c9)[j]? = some u → (Wa).cell? ((⟨w6.heap.size, 0, none⟩ : Addr).add j) = some u from World.news_of_block HZ.out)
      have hsa : Wd.heap.size ≤ (Wa).heap.size := HBA.out.size
      refine HeldB.one (i := 9) (o := { dst := _, op := _, type := _, pos := _, after := _, guard := _ }) (by kernel_rfl) rfl (fun K hK => ?_)
      refine step_append_lies _ (by rfl) (.tmp 43) (.tmp 45) 44 (by rfl) Wd.heap.size 65 i0 z0 4 56 Tryz.underlying44 hi hz0 hz1 hz2 hz3 (by decide) _ a.poison.length cs (by rfl) HOW.out ⟨w6.heap.size, 0, none⟩ 1 1 (letC l A9 c9) (by rfl) rfl HNW.out (letC_one _ _ _) (by decide) (by unfold maxLen; omega) (by omega) (by omega) (Wa).heap.size (by omega) ?_
      intro g cap w7 ho7 hg7 hat7 hlt7
      have HM := Lib.hid (poi_mid HA9.out HOW.out HLC.out HBA.out HSW.out ho7 hg7)
      have hc7 := HM.out.1
      have hp7 := hc7.blk HPW.out (by have := HPW.out.lt; omega)
      have hl7 := hc7.blk HLB.out (by have := HLB.out.lt; omega)
      have u4 : w7.cell? ⟨p, 4, none⟩ = some (.slice PA a.poison.length pc) := hp7.cell 4
      have f4 : w7.frozen? ⟨p, 4, none⟩ = false := hp7.free 4
      have u3 : w7.cell? ⟨p, 3, none⟩ = some (.int .i64 a.tries) := hp7.cell 3
      have f3 : w7.frozen? ⟨p, 3, none⟩ = false := hp7.free 3
      have lp := hp7.lt
      have HS7 := Lib.hid (show w7.cell? ⟨p, 4, none⟩ = some (.slice PA a.poison.length pc) ∧ w7.cell? ⟨lb, 0, none⟩ = some (.string l.frm) ∧ w7.cell? ⟨lb, 1, none⟩ = some (.int .u64 l.serial) ∧ w7.cell? ⟨lb, 2, none⟩ = some (.int .i64 l.kind) ∧ w7.cell? ⟨lb, 3, none⟩ = some (.slice A9 l.args.length c9) from ⟨u4, hl7.cell 0, hl7.cell 1, hl7.cell 2, hl7.cell 3⟩)
      clear ho7 hg7 hat7 hlt7 hc7 hp7 hl7 hsa
      refine hK.out _ _ (fun _ => by rw [HSD.out]; exact HS7.out) (fun _ => ?_)
      clear hK K
      try simp only [Act.put, List.setIfInBounds_toArray, List.set_cons_zero, List.set_cons_succ]
      refine HeldB.takeP (i := 10) (oi := { dst := _, op := _, type := _, pos := _, after := _, guard := _ }) (v := ?v10) (by decide) rfl (by kernel_rfl) (by kernel_rfl) (by kernel_rfl) (fun _ _ _ h => h) (Or.inl ⟨by rfl, ?hy10⟩) (fun _ => by rw [HSD.out]; exact HS7.out) ?rest10
      case hy10 => (intro w hSw; clear hSw; go_simp; (try with_reducible rfl))
      try simp only [Act.put, List.setIfInBounds_toArray, List.set_cons_zero, List.set_cons_succ]
      refine HeldB.takeP (i := 11) (oi := { dst := _, op := _, type := _, pos := _, after := _, guard := _ }) (v := ?v11) (by decide) rfl (by kernel_rfl) (by kernel_rfl) (by kernel_rfl) (fun _ _ _ h => h) (Or.inl ⟨by rfl, ?hy11⟩) (fun _ => by rw [HSD.out]; exact HS7.out) ?rest11
      case hy11 => (intro w hSw; clear hSw; go_simp; (try with_reducible rfl))
      try simp only [Act.put, List.setIfInBounds_toArray, List.set_cons_zero, List.set_cons_succ]
      refine HeldB.one (i := 12) (o := { dst := _, op := _, type := _, pos := _, after := _, guard := _ }) (by kernel_rfl) rfl (fun K hK => ?_)
      go_simp
      refine hK.out _ _ (fun h => absurd h (by decide)) (fun _ => ?_)
      clear hK K
      try simp only [Act.put, List.setIfInBounds_toArray, List.set_cons_zero, List.set_cons_succ]
      refine HeldB.takeP (i := 13) (oi := { dst := _, op := _, type := _, pos := _, after := _, guard := _ }) (v := ?v13) (by decide) rfl (by kernel_rfl) (by kernel_rfl) (by kernel_rfl) (fun _ _ _ h => h) (Or.inl ⟨by rfl, ?hy13⟩) (fun h => absurd h (by decide)) ?rest13
      case hy13 => (intro w hSw; clear hSw; go_simp; (try with_reducible rfl))
      try simp only [Act.put, List.setIfInBounds_toArray, List.set_cons_zero, List.set_cons_succ]
      refine HeldB.takeP (i := 14) (oi := { dst := _, op := _, type := _, pos := _, after := _, guard := _ }) (v := ?v14) (by decide) rfl (by kernel_rfl) (by kernel_rfl) (by kernel_rfl) (fun _ _ _ h => h) (Or.inl ⟨by rfl, ?hy14⟩) (fun h => absurd h (by decide)) ?rest14
      case hy14 => (intro w hSw; clear hSw; go_simp; (try with_reducible rfl))
      try simp only [Act.put, List.setIfInBounds_toArray, List.set_cons_zero, List.set_cons_succ]
      refine HeldB.one (i := 15) (o := { dst := _, op := _, type := _, pos := _, after := _, guard := _ }) (by kernel_rfl) rfl (fun K hK => ?_)
      go_simp
      refine hK.out _ _ (fun h => absurd h (by decide)) (fun _ => ?_)
      clear hK K
      refine HeldB.done (by kernel_rfl) ?_ _
      refine NoPanic.normal ?_
      go_wp2_with fail
      go_meet
      exact Lib.hid ⟨g, cap, w7, _, HM.out.1, HM.out.2.1, HM.out.2.2, rfl⟩
    case two =>
      go_simp
      obtain ⟨Wa, hWa⟩ : ∃ V, V = Wd.alloc (.cells #[.string l.frm, .int .u64 l.serial, .int .i64 l.kind, .slice A9 l.args.length c9] 65) := ⟨_, rfl⟩
      rw [← hWa]
      have HBW := Lib.hid (show Below Wd.heap.size Wd Wa from hWa ▸ (Below.refl _ _).alloc (Nat.le_refl _) _)
      have HZ0 := Lib.hid (show Blk Wa Wd.heap.size #[.string l.frm, .int .u64 l.serial, .int .i64 l.kind, .slice A9 l.args.length c9] 65 from hWa ▸ Blk.new _ _ _)
      clear hWa
      refine hK.out _ _ (fun _ => by rw [HSD.out]; exact KEY.out _ HBW.out) (fun _ => ?_)
      clear hK K
      try simp only [Act.put, List.setIfInBounds_toArray, List.set_cons_zero, List.set_cons_succ]
      refine HeldB.one (i := 6) (o := { dst := _, op := _, type := _, pos := _, after := _, guard := _ }) (by kernel_rfl) rfl (fun K hK => ?_)
      go_simp
      refine (letsall PA pc a.poison hps (by omega) XP (Wa) (HPO.out.below HBW.out)).mono ?_
      rintro e w6 ⟨A6, c6, cs, rfl, ho6, hl6, hb6⟩
      have HB6 := Lib.hid hb6
      have HBA := Lib.hid (HBW.out.trans (hb6.mono HBW.out.size))
      have HOW := Lib.hid (own_weaken ho6 HBW.out.size)
      have HLC := Lib.hid (hl6.mono (X' := fun k => Wd.heap.size ≤ k ∧ (Value.slice A6 a.poison.length c6).ownBlock ≠ some k) (fun k hk => ⟨Nat.le_trans HBW.out.size hk.1, hk.2⟩))
      have HZ := Lib.hid (HZ0.out.below hb6)
      clear ho6 hl6 hb6
      refine hK.out _ _ (fun _ => by rw [HSD.out]; exact KEY.out _ HBA.out) (fun _ => ?_)
      clear hK K
      try simp only [Act.put, List.setIfInBounds_toArray, List.set_cons_zero, List.set_cons_succ]
      have HNW := Lib.hid (show ∀ j u, (letC l A9 c9)[j]? = some u → (w6).cell? ((⟨Wd.heap.size, 0, none⟩ : Addr).add j) = some u from World.news_of_block HZ.out)
      have hsa : Wd.heap.size ≤ (w6).heap.size := HBA.out.size
      refine HeldB.one (i := 9) (o := { dst := _, op := _, type := _, pos := _, after := _, guard := _ }) (by kernel_rfl) rfl (fun K hK => ?_)
      refine step_append_lies _ (by rfl) (.tmp 43) (.tmp 45) 44 (by rfl) Wd.heap.size 65 i0 z0 4 56 Tryz.underlying44 hi hz0 hz1 hz2 hz3 (by decide) _ a.poison.length cs (by rfl) HOW.out ⟨Wd.heap.size, 0, none⟩ 1 1 (letC l A9 c9) (by rfl) rfl HNW.out (letC_one _ _ _) (by decide) (by unfold maxLen; omega) (by omega) (by omega) (w6).heap.size (by omega) ?_
      intro g cap w7 ho7 hg7 hat7 hlt7
      have HM := Lib.hid (poi_mid HA9.out HOW.out HLC.out HBA.out HSW.out ho7 hg7)
      have hc7 := HM.out.1
      have hp7 := hc7.blk HPW.out (by have := HPW.out.lt; omega)
      have hl7 := hc7.blk HLB.out (by have := HLB.out.lt; omega)
      have u4 : w7.cell? ⟨p, 4, none⟩ = some (.slice PA a.poison.length pc) := hp7.cell 4
      have f4 : w7.frozen? ⟨p, 4, none⟩ = false := hp7.free 4
      have u3 : w7.cell? ⟨p, 3, none⟩ = some (.int .i64 a.tries) := hp7.cell 3
      have f3 : w7.frozen? ⟨p, 3, none⟩ = false := hp7.free 3
      have lp := hp7.lt
      have HS7 := Lib.hid (show w7.cell? ⟨p, 4, none⟩ = some (.slice PA a.poison.length pc) ∧ w7.cell? ⟨lb, 0, none⟩ = some (.string l.frm) ∧ w7.cell? ⟨lb, 1, none⟩ = some (.int .u64 l.serial) ∧ w7.cell? ⟨lb, 2, none⟩ = some (.int .i64 l.kind) ∧ w7.cell? ⟨lb, 3, none⟩ = some (.slice A9 l.args.length c9) from ⟨u4, hl7.cell 0, hl7.cell 1, hl7.cell 2, hl7.cell 3⟩)
      clear ho7 hg7 hat7 hlt7 hc7 hp7 hl7 hsa
      refine hK.out _ _ (fun _ => by rw [HSD.out]; exact HS7.out) (fun _ => ?_)
      clear hK K
      try simp only [Act.put, List.setIfInBounds_toArray, List.set_cons_zero, List.set_cons_succ]
      refine HeldB.takeP (i := 10) (oi := { dst := _, op := _, type := _, pos := _, after := _, guard := _ }) (v := ?vr10) (by decide) rfl (by kernel_rfl) (by kernel_rfl) (by kernel_rfl) (fun _ _ _ h => h) (Or.inl ⟨by rfl, ?hyr10⟩) (fun _ => by rw [HSD.out]; exact HS7.out) ?restr10
      case hyr10 => (intro w hSw; clear hSw; go_simp; (try with_reducible rfl))
      try simp only [Act.put, List.setIfInBounds_toArray, List.set_cons_zero, List.set_cons_succ]
      refine HeldB.takeP (i := 11) (oi := { dst := _, op := _, type := _, pos := _, after := _, guard := _ }) (v := ?vr11) (by decide) rfl (by kernel_rfl) (by kernel_rfl) (by kernel_rfl) (fun _ _ _ h => h) (Or.inl ⟨by rfl, ?hyr11⟩) (fun _ => by rw [HSD.out]; exact HS7.out) ?restr11
      case hyr11 => (intro w hSw; clear hSw; go_simp; (try with_reducible rfl))
      try simp only [Act.put, List.setIfInBounds_toArray, List.set_cons_zero, List.set_cons_succ]
      refine HeldB.one (i := 12) (o := { dst := _, op := _, type := _, pos := _, after := _, guard := _ }) (by kernel_rfl) rfl (fun K hK => ?_)
      go_simp
      refine hK.out _ _ (fun h => absurd h (by decide)) (fun _ => ?_)
      clear hK K
      try simp only [Act.put, List.setIfInBounds_toArray, List.set_cons_zero, List.set_cons_succ]
      refine HeldB.takeP (i := 13) (oi := { dst := _, op := _, type := _, pos := _, after := _, guard := _ }) (v := ?vr13) (by decide) rfl (by kernel_rfl) (by kernel_rfl) (by kernel_rfl) (fun _ _ _ h => h) (Or.inl ⟨by rfl, ?hyr13⟩) (fun h => absurd h (by decide)) ?restr13
      case hyr13 => (intro w hSw; clear hSw; go_simp; (try with_reducible rfl))
      try simp only [Act.put, List.setIfInBounds_toArray, List.set_cons_zero, List.set_cons_succ]
      refine HeldB.takeP (i := 14) (oi := { dst := _, op := _, type := _, pos := _, after := _, guard := _ }) (v := ?vr14) (by decide) rfl (by kernel_rfl) (by kernel_rfl) (by kernel_rfl) (fun _ _ _ h => h) (Or.inl ⟨by rfl, ?hyr14⟩) (fun h => absurd h (by decide)) ?restr14
      case hyr14 => (intro w hSw; clear hSw; go_simp; (try with_reducible rfl))
      try simp only [Act.put, List.setIfInBounds_toArray, List.set_cons_zero, List.set_cons_succ]
      refine HeldB.one (i := 15) (o := { dst := _, op := _, type := _, pos := _, after := _, guard := _ }) (by kernel_rfl) rfl (fun K hK => ?_)
      go_simp
      refine hK.out _ _ (fun h => absurd h (by decide)) (fun _ => ?_)
      clear hK K
      refine HeldB.done (by kernel_rfl) ?_ _
      refine NoPanic.normal ?_
      go_wp2_with fail
      go_meet
      exact Lib.hid ⟨g, cap, w7, _, HM.out.1, HM.out.2.1, HM.out.2.2, rfl⟩
  case rest =>
    obtain ⟨g, cap, w7, cs, hc7, ho7, hl7, hwc⟩ := hcut
    obtain ⟨hA8, hc8⟩ := poi_fin H2.out (HI9.out) HC2D.out hc7 ho7 hl7 hwc
    have hcd : Chg (fun k => k = p ∨ Wd.heap.size ≤ k) Wd wc := hwc ▸ (((hc7.mono (S' := fun k => k = p ∨ Wd.heap.size ≤ k) (fun _ _ e => .inr e)).put p 4 (.inl (.inl rfl)) _).put p 3 (.inl (.inl rfl)) _)
    have HXC := Lib.hid (hcd.blk HXD.out (fun e => by have := HXB.out; have := HXD.out.lt; omega))
    have HRC := Lib.hid (hcd.blk HRD.out (fun e => by have := HRB.out; have := HRD.out.lt; omega))
    have hxc := HXC.out
    have ux : ∀ i, wc.cell? ⟨xb, i, none⟩ = _ := fun i => HXC.out.cell i
    have fx : ∀ i, wc.frozen? ⟨xb, i, none⟩ = false := fun i => HXC.out.free i
    have lx := HXC.out.lt
    have HA8 := Lib.hid hA8
    have HC8 := Lib.hid hc8
    clear hwc hc7 ho7 hl7 hA8 hc8 hcd hxc
    go_upto_region 9 with fail
    obtain ⟨W9, hW9⟩ : ∃ W, W = wc.setCell ⟨xb, 1, none⟩ (.bool true) := ⟨_, rfl⟩
    rw [← hW9]
    have hx9 : Blk W9 xb #[.bool false, .bool true, .int .i64 fl, .int .i64 st, .slice none 0 0] 35 := by rw [hW9]; simpa using HXC.out.set 1 (.bool true)
    have hr9 : Blk W9 rb #[.bool false, .bool false, .int .i64 0, .int .i64 0, .slice none 0 0] 35 := by rw [hW9]; exact HRC.out.other (a := ⟨xb, 1, none⟩) (show rb ≠ xb by have := HXB.out; have := HRB.out; omega) _
    have uy : ∀ i, W9.cell? ⟨xb, i, none⟩ = _ := fun i => hx9.cell i
    have ur : ∀ i, W9.cell? ⟨rb, i, none⟩ = _ := fun i => hr9.cell i
    have fr : ∀ i, W9.frozen? ⟨rb, i, none⟩ = false := fun i => hr9.free i
    have lr := hr9.lt
    have HR9 := Lib.hid hr9
    have HC9 := Lib.hid (show Chg (fun k => k = xb) wc W9 from hW9 ▸ (Chg.refl (fun k => k = xb) wc).put xb 1 (.inl rfl) _)
    clear hW9 hx9 hr9 ux fx lx
    go_wp2_with fail
    refine bodyPost_ret (results_ct rfl _ _ rb 35 _ (0, 0) _ rfl (HR9.out.five rfl _ _ _ _ _) Tryz.underlying35 rfl (by kernel_rfl)) rfl ?_
    have hput : ∀ v0 v1 v2 v3 v4 : Value, Chg (fun j => j = rb) W9 (((((W9.setCell ⟨rb, 0, none⟩ v0).setCell ⟨rb, 1, none⟩ v1).setCell ⟨rb, 2, none⟩ v2).setCell ⟨rb, 3, none⟩ v3).setCell ⟨rb, 4, none⟩ v4) := fun _ _ _ _ _ => (((((Chg.refl (fun j => j = rb) W9).put rb 0 (.inl rfl) _).put rb 1 (.inl rfl) _).put rb 2 (.inl rfl) _).put rb 3 (.inl rfl) _).put rb 4 (.inl rfl) _
    have hall : ∀ v0 v1 v2 v3 v4 : Value, Chg (fun j => j = xb ∨ j = rb) wc (((((W9.setCell ⟨rb, 0, none⟩ v0).setCell ⟨rb, 1, none⟩ v1).setCell ⟨rb, 2, none⟩ v2).setCell ⟨rb, 3, none⟩ v3).setCell ⟨rb, 4, none⟩ v4) := fun _ _ _ _ _ => (HC9.out.mono (fun _ _ e => .inl e)).trans (hput _ _ _ _ _) (fun _ _ e => .inr e)
    have exb := HXB.out
    have erb := HRB.out
    refine ⟨rfl, (HA8.out.chg (hall _ _ _ _ _) (fun k hk e => ?_)).mono (fun k hk => ?_), ((Chg.of_below HB2.out X).trans HC8.out (fun k _ e => e.1)).trans (hall _ _ _ _ _) (fun k hk e => by omega)⟩
    · rcases hk with g | g
      · have := g.2; omega
      · omega
    · rcases hk with g | g
      · exact .inl g.1
      · exact .inr (by omega)
set_option maxRecDepth 100000 in
set_option maxHeartbeats 2000000 in
theorem fail_full (X : Nat → Prop) (p jb ib ob pc : Nat) (a : Actr) (PA : Option Addr) (XJ XI XO XP : Nat → Prop) (fl st : Int) (w : World) (h : ActP true w X p a jb ib ob PA pc XJ XI XO XP) (h8 : a.poison.length = 8) (ht : a.tries = 2) :
    Calls Tryz.prog 109 #[.pointer (some ⟨p, 0, none⟩), .agg (outC false false fl st)] w fun e w' => e = .returned (.tuple #[.agg (outC false false 0 0), .int .i64 8]) ∧ Below w.heap.size w w' := by
  unfold outC
  obtain ⟨rb, hrb⟩ : ∃ b, b = w.heap.size + 1 := ⟨_, rfl⟩
  obtain ⟨W2, hW2⟩ : ∃ W, W = (w.alloc (.cells #[.bool false, .bool false, .int .i64 fl, .int .i64 st, .slice none 0 0] 35)).alloc (.cells #[.bool false, .bool false, .int .i64 0, .int .i64 0, .slice none 0 0] 35) := ⟨_, rfl⟩
  have hb2 : Below w.heap.size w W2 := hW2 ▸ ((Below.refl _ _).alloc (Nat.le_refl _) _).alloc (by simp) _
  have hr2 : Blk W2 rb #[.bool false, .bool false, .int .i64 0, .int .i64 0, .slice none 0 0] 35 := hW2 ▸ Blk.newAt (by rw [hrb]; simp)
  have h2 := h.below hb2
  have c3 : W2.cell? ⟨p, 3, none⟩ = some (.int .i64 2) := (h2.blk.cell 3).trans (by rw [ht]; rfl)
  have c4 : W2.cell? ⟨p, 4, none⟩ = some (.slice PA 8 pc) := (h2.blk.cell 4).trans (by rw [h8]; rfl)
  have ur : ∀ i, W2.cell? ⟨rb, i, none⟩ = _ := fun i => hr2.cell i
  have fr : ∀ i, W2.frozen? ⟨rb, i, none⟩ = false := fun i => hr2.free i
  have lr := hr2.lt
  have hpl := h2.blk.lt
  have HB2 := Lib.hid hb2
  have HR2 := Lib.hid hr2
  have HW2 := Lib.hid hW2
  have HRB := Lib.hid hrb
  clear hW2 h h2 hb2 hr2 hrb ht h8
  go_enter Tryz.func109, Tryz.ntmps109
  go_upto_region 1 with fail
  rw [show w.heap.size + 1 = rb from HRB.out.symm, ← HW2.out]
  go_wp2_with fail
  refine bodyPost_ret (results_ct rfl _ _ rb 35 _ (0, 0) _ rfl (HR2.out.five rfl _ _ _ _ _) Tryz.underlying35 rfl (by kernel_rfl)) rfl ?_
  have erb := HRB.out
  exact ⟨rfl, HB2.out.trans (((((Chg.refl (fun j => j = rb) W2).put rb 0 (.inl rfl) _).put rb 1 (.inl rfl) _).put rb 2 (.inl rfl) _).put rb 3 (.inl rfl) _ |>.put rb 4 (.inl rfl) _ |>.below (fun k hk => by have : k = rb := hk; omega) HB2.out.size)⟩
end Go.Proofs.YtlcdjgpblpodaaaGreatDoor

/- Act1, Act2 -/
import Derived.Test.YtlcdjgpblpodaaaGreatDoorMAM
import Derived.Lib.ConvBytes
namespace Go.Proofs.YtlcdjgpblpodaaaGreatDoor
open Go.RowKit Go.Maps Go.Proofs.YtlcdjgpblpodaaaGreatDoorW.PrintWords

theorem jour_lt {X : Nat → Prop} {w : World} {jb : Nat} {j : Jour} (h : JourAt w X jb j) : JourAt w (fun k => X k ∧ k < w.heap.size) jb j := by
  obtain ⟨E, c, h1, h2, h3, h4⟩ := h
  exact ⟨E, c, ⟨h1, h2.lt⟩, h2, h3, fun k hk => ⟨h4 k hk, own_lt h3 k hk⟩⟩
theorem letsc_lt {X : Nat → Prop} {w : World} {cs : List Value} {ls : List Let} (h : LetsC w X cs ls) : LetsC w (fun k => X k ∧ k < w.heap.size) cs ls := fun i l hl => by
  obtain ⟨A, c, h1, h2, h3, h4, h5⟩ := h i l hl
  exact ⟨A, c, h1, h2, h3, h4, h5.lt⟩
theorem inbat_lt {X : Nat → Prop} {w : World} {ib : Nat} {ls : List Let} (h : InbAt w X ib ls) : InbAt w (fun k => X k ∧ k < w.heap.size) ib ls := by
  obtain ⟨A, c, cs, h1, h2, h3, h4, h5⟩ := h
  exact ⟨A, c, cs, ⟨h1, h2.lt⟩, h2, h3, (letsc_lt h4).mono (fun k hk => ⟨⟨hk.1.1, hk.2⟩, hk.1.2⟩), fun k hk => ⟨h5 k hk, own_lt h3 k hk⟩⟩
theorem outsat_lt {X : Nat → Prop} {w : World} {A : Option Addr} {os : List (ByteArray × Let)} (h : OutsAt w X A os) : OutsAt w (fun k => X k ∧ k < w.heap.size) A os := fun hn => by
  obtain ⟨b, off, h1, h2, h3⟩ := h hn
  have h0 : ∃ e, os[0]? = some e := by cases os with | nil => exact absurd rfl hn | cons e r => exact ⟨e, rfl⟩
  obtain ⟨e, he⟩ := h0
  exact ⟨b, off, h1, ⟨h2, by simpa using World.block_lt_of_cell? w _ (h3 0 e he).1⟩, fun i e he => ⟨(h3 i e he).1, (h3 i e he).2.lt⟩⟩
theorem outb_lt {fr : Bool} {X : Nat → Prop} {w : World} {ob : Nat} {o : Outb} (h : OutbAt fr w X ob o) : OutbAt fr w (fun k => X k ∧ k < w.heap.size) ob o := by
  obtain ⟨A, c, mb, n, h1, h2, h3, h4, h5, h6, h7, h8⟩ := h
  exact ⟨A, c, mb, n, ⟨h1, h3.lt⟩, ⟨h2, h6.lt⟩, h3, (outsat_lt h4).mono (fun k hk => ⟨⟨hk.1.1, hk.2⟩, hk.1.2⟩), h5, h6, h7, h8⟩

/-- An actor's parts, each in blocks of its own; fr: it may be written. -/
structure ActP (fr : Bool) (w : World) (X : Nat → Prop) (p : Nat) (a : Actr) (jb ib ob : Nat) (PA : Option Addr) (pc : Nat) (XJ XI XO XP : Nat → Prop) : Prop where
  pin : X p
  blk : Blk w p #[.pointer (some ⟨jb, 0, none⟩), .pointer (some ⟨ib, 0, none⟩), .pointer (some ⟨ob, 0, none⟩), .int .i64 a.tries, .slice PA a.poison.length pc] 46
  jour : JourAt w XJ jb a.jour
  inr : InbRd w XI ib a.inbox
  inw : fr = true → InbAt w XI ib a.inbox
  outb : OutbAt fr w XO ob a.outb
  poi : LetsAt w XP PA a.poison
  sub : ∀ k, XJ k ∨ XI k ∨ XO k ∨ XP k → X k ∧ k ≠ p ∧ k < w.heap.size
  dji : ∀ k, XJ k → ¬ XI k
  djo : ∀ k, XJ k → ¬ XO k
  djp : ∀ k, XJ k → ¬ XP k
  dio : ∀ k, XI k → ¬ XO k
  dip : ∀ k, XI k → ¬ XP k
  dop : ∀ k, XO k → ¬ XP k
def ActAt (fr : Bool) (w : World) (X : Nat → Prop) (p : Nat) (a : Actr) : Prop := ∃ jb ib ob PA pc XJ XI XO XP, ActP fr w X p a jb ib ob PA pc XJ XI XO XP
section
variable {fr : Bool} {w w' : World} {S X X' : Nat → Prop} {p jb ib ob pc : Nat} {a : Actr} {PA : Option Addr} {XJ XI XO XP : Nat → Prop}
theorem ActP.chg (h : ActP fr w X p a jb ib ob PA pc XJ XI XO XP) (hc : Chg S w w') (hX : ∀ k, X k → ¬ S k) : ActP fr w' X p a jb ib ob PA pc XJ XI XO XP :=
  ⟨h.pin, hc.blk h.blk (hX _ h.pin), h.jour.chg hc (fun k hk => hX _ (h.sub k (.inl hk)).1), h.inr.chg hc (fun k hk => hX _ (h.sub k (.inr (.inl hk))).1), fun e => (h.inw e).chg hc (fun k hk => hX _ (h.sub k (.inr (.inl hk))).1),
    h.outb.chg hc (fun k hk => hX _ (h.sub k (.inr (.inr (.inl hk)))).1), h.poi.chg hc (fun k hk => hX _ (h.sub k (.inr (.inr (.inr hk)))).1), fun k hk => ⟨(h.sub k hk).1, (h.sub k hk).2.1, Nat.lt_of_lt_of_le (h.sub k hk).2.2 hc.size⟩, h.dji, h.djo, h.djp, h.dio, h.dip, h.dop⟩
theorem ActP.below (h : ActP fr w X p a jb ib ob PA pc XJ XI XO XP) (hb : Below w.heap.size w w') : ActP fr w' X p a jb ib ob PA pc XJ XI XO XP := h.chg (Chg.of_below hb (fun _ => False)) (fun _ _ h => h)
theorem ActP.mono (h : ActP fr w X p a jb ib ob PA pc XJ XI XO XP) (hX : ∀ k, X k → X' k) : ActP fr w X' p a jb ib ob PA pc XJ XI XO XP :=
  ⟨hX _ h.pin, h.blk, h.jour, h.inr, h.inw, h.outb, h.poi, fun k hk => ⟨hX _ (h.sub k hk).1, (h.sub k hk).2⟩, h.dji, h.djo, h.djp, h.dio, h.dip, h.dop⟩
theorem ActP.rd (h : ActP fr w X p a jb ib ob PA pc XJ XI XO XP) : ActP false w X p a jb ib ob PA pc XJ XI XO XP := ⟨h.pin, h.blk, h.jour, h.inr, nofun, h.outb.rd, h.poi, h.sub, h.dji, h.djo, h.djp, h.dio, h.dip, h.dop⟩
theorem ActP.plt (h : ActP fr w X p a jb ib ob PA pc XJ XI XO XP) : p < w.heap.size := h.blk.lt
end
theorem ActAt.chg {fr : Bool} {w w' : World} {S X : Nat → Prop} {p : Nat} {a : Actr} (h : ActAt fr w X p a) (hc : Chg S w w') (hX : ∀ k, X k → ¬ S k) : ActAt fr w' X p a := by
  obtain ⟨jb, ib, ob, PA, pc, XJ, XI, XO, XP, h⟩ := h
  exact ⟨jb, ib, ob, PA, pc, XJ, XI, XO, XP, h.chg hc hX⟩
theorem ActAt.below {fr : Bool} {w w' : World} {X : Nat → Prop} {p : Nat} {a : Actr} (h : ActAt fr w X p a) (hb : Below w.heap.size w w') : ActAt fr w' X p a := h.chg (Chg.of_below hb (fun _ => False)) (fun _ _ h => h)
theorem ActAt.mono {fr : Bool} {w : World} {X X' : Nat → Prop} {p : Nat} {a : Actr} (h : ActAt fr w X p a) (hX : ∀ k, X k → X' k) : ActAt fr w X' p a := by
  obtain ⟨jb, ib, ob, PA, pc, XJ, XI, XO, XP, h⟩ := h
  exact ⟨jb, ib, ob, PA, pc, XJ, XI, XO, XP, h.mono hX⟩
theorem ActAt.rd {fr : Bool} {w : World} {X : Nat → Prop} {p : Nat} {a : Actr} (h : ActAt fr w X p a) : ActAt false w X p a := by
  obtain ⟨jb, ib, ob, PA, pc, XJ, XI, XO, XP, h⟩ := h
  exact ⟨jb, ib, ob, PA, pc, XJ, XI, XO, XP, h.rd⟩
theorem ActAt.lt {fr : Bool} {w : World} {X : Nat → Prop} {p : Nat} {a : Actr} (h : ActAt fr w X p a) : ActAt fr w (fun k => X k ∧ k < w.heap.size) p a := by
  obtain ⟨jb, ib, ob, PA, pc, XJ, XI, XO, XP, h⟩ := h
  exact ⟨jb, ib, ob, PA, pc, XJ, XI, XO, XP, ⟨⟨h.pin, h.plt⟩, h.blk, h.jour, h.inr, h.inw, h.outb, h.poi, fun k hk => ⟨⟨(h.sub k hk).1, (h.sub k hk).2.2⟩, (h.sub k hk).2⟩, h.dji, h.djo, h.djp, h.dio, h.dip, h.dop⟩⟩

theorem actkey {fr : Bool} (X : Nat → Prop) (p : Nat) (a : Actr) (w : World) (h : ActAt fr w X p a) : Calls Tryz.prog 34 #[.pointer (some ⟨p, 0, none⟩)] w fun e w' => e = .returned (.string a.outb.owner) ∧ w = w' := by
  obtain ⟨jb, ib, ob, PA, pc, XJ, XI, XO, XP, h⟩ := h
  have HO := Lib.hid (owner_any XO ob a.outb w h.outb)
  have c2 : w.cell? ⟨p, 2, none⟩ = some (.pointer (some ⟨ob, 0, none⟩)) := h.blk.cell 2
  clear h
  go_enter Tryz.func34, Tryz.ntmps34
  go_wp2_with fail
  refine HO.out.mono ?_
  rintro e w1 ⟨rfl, rfl⟩
  go_wp2_with fail
  go_ret
  exact ⟨rfl, rfl⟩
def actr0 (k : ByteArray) : Actr := { jour := jour0, inbox := [], outb := outb0 k, tries := 0, poison := [] }
theorem newact (s : ByteArray) (hs : KeyOk s) (w : World) : Calls Tryz.prog 164 #[.string s] w fun e w' => ∃ p, e = .returned (.tuple #[.pointer (some ⟨p, 0, none⟩), .int .i64 0]) ∧ ActAt true w' (fun k => w.heap.size ≤ k) p (actr0 s) ∧ Below w.heap.size w w' := by
  go_enter Tryz.func164, Tryz.ntmps164
  go_wp2_with fail
  refine (newout s hs w).mono ?_
  rintro e w1 ⟨ob, rfl, ho, hb⟩
  go_wp2_with fail
  refine (newjour w1).mono ?_
  rintro e w2 ⟨rfl, hj, hb2⟩
  go_wp2_with fail
  refine (newinbox w2).mono ?_
  rintro e w3 ⟨rfl, rfl⟩
  go_wp2_with fail
  go_ret2
  have s1 := hb.size
  have s2 := hb2.size
  have hib := InbAt.new w2
  obtain ⟨W3, hW3⟩ : ∃ W, W = w2.alloc (.cells #[.slice none 0 0] 131) := ⟨_, rfl⟩
  have hb3 : Below w2.heap.size w2 W3 := hW3 ▸ (Below.refl _ _).alloc (Nat.le_refl _) _
  rw [← hW3] at hib ⊢
  have s3 : W3.heap.size = w2.heap.size + 1 := by rw [hW3]; simp
  have hb4 : ∀ o, Below W3.heap.size W3 (W3.alloc o) := fun o => (Below.refl _ _).alloc (Nat.le_refl _) o
  have hbl : Below w.heap.size w w2 := hb.trans (hb2.mono s1)
  refine ⟨w2.heap.size + 1, rfl, ⟨w1.heap.size, w2.heap.size, ob, none, 0, fun k => w1.heap.size ≤ k ∧ k < w2.heap.size, fun k => w2.heap.size ≤ k ∧ k < W3.heap.size, fun k => w.heap.size ≤ k ∧ k < w1.heap.size, fun _ => False, ?_⟩, ?_⟩
  · refine ⟨by omega, Blk.newAt s3.symm, ((jour_lt hj).chg (Chg.of_below hb3 (fun _ => False)) (fun _ _ h => h)).chg (Chg.of_below (hb4 _) (fun _ => False)) (fun _ _ h => h), ?_, fun _ => ?_, ?_, LetsAt.nil _ _ _, fun k hk => ?_, fun k hk hk' => ?_, fun k hk hk' => ?_, fun k hk hk' => ?_, fun k hk hk' => ?_, fun k hk hk' => ?_, fun k hk hk' => ?_⟩
    · exact (inbat_lt hib).rd.chg (Chg.of_below (hb4 _) (fun _ => False)) (fun _ _ h => h)
    · exact (inbat_lt hib).chg (Chg.of_below (hb4 _) (fun _ => False)) (fun _ _ h => h)
    · exact (((outb_lt ho).chg (Chg.of_below hb2 (fun _ => False)) (fun _ _ h => h)).chg (Chg.of_below hb3 (fun _ => False)) (fun _ _ h => h)).chg (Chg.of_below (hb4 _) (fun _ => False)) (fun _ _ h => h)
    · have : W3.heap.size < (W3.alloc (.cells #[.pointer (some ⟨w1.heap.size, 0, none⟩), .pointer (some ⟨w2.heap.size, 0, none⟩), .pointer (some ⟨ob, 0, none⟩), .int .i64 0, .slice none 0 0] 46)).heap.size := by simp
      have hk' : w.heap.size ≤ k ∧ k < W3.heap.size := by
        rcases hk with ⟨h1, h2⟩ | ⟨h1, h2⟩ | ⟨h1, h2⟩ | h
        · omega
        · omega
        · omega
        · exact h.elim
      exact ⟨hk'.1, by omega, by omega⟩
    all_goals omega
  · exact (hbl.trans (hb3.mono (by omega))).trans ((hb4 _).mono (by omega))
end Go.Proofs.YtlcdjgpblpodaaaGreatDoor
namespace Go.Proofs.YtlcdjgpblpodaaaGreatDoor
open Go.RowKit Go.Maps Go.Proofs.YtlcdjgpblpodaaaGreatDoorW.PrintWords

def freshA (a : Actr) : Bool := decide (a.jour.version = 0) && (decide (a.inbox.length = 0) && ((a.outb.serials.isEmpty && a.outb.list.isEmpty) && (decide (a.tries = 0) && decide (a.poison.length = 0))))
set_option maxRecDepth 100000 in
theorem fresh_act {fr : Bool} (X : Nat → Prop) (p : Nat) (a : Actr) (ha : a.Ok) (w : World) (h : ActAt fr w X p a) : Calls Tryz.prog 102 #[.pointer (some ⟨p, 0, none⟩)] w fun e w' => e = .returned (.bool (freshA a)) ∧ w = w' := by
  obtain ⟨jb, ib, ob, PA, pc, XJ, XI, XO, XP, h⟩ := h
  have HV := Lib.hid (version_any XJ jb a.jour ha.jour.base w h.jour)
  have HL := Lib.hid (len_any XI ib a.inbox w h.inr)
  have HF := Lib.hid (fresh_any XO ob a.outb ha.outb.owner w h.outb)
  have c0 : w.cell? ⟨p, 0, none⟩ = some (.pointer (some ⟨jb, 0, none⟩)) := h.blk.cell 0
  have c1 : w.cell? ⟨p, 1, none⟩ = some (.pointer (some ⟨ib, 0, none⟩)) := h.blk.cell 1
  have c2 : w.cell? ⟨p, 2, none⟩ = some (.pointer (some ⟨ob, 0, none⟩)) := h.blk.cell 2
  have c3 : w.cell? ⟨p, 3, none⟩ = some (.int .i64 a.tries) := h.blk.cell 3
  have c4 : w.cell? ⟨p, 4, none⟩ = some (.slice PA a.poison.length pc) := h.blk.cell 4
  clear h ha
  by_cases q0 : a.jour.version = 0
  · have t0 : ((a.jour.version : Int) == 0) = true := by simp; omega
    by_cases q1 : a.inbox.length = 0
    · have t1 : ((a.inbox.length : Int) == 0) = true := by simp; exact List.eq_nil_of_length_eq_zero q1
      cases q2 : (a.outb.serials.isEmpty && a.outb.list.isEmpty) with
      | true =>
        rw [q2] at HF
        by_cases q3 : a.tries = 0
        · have t3 : ((a.tries : Int) == 0) = true := by simp; omega
          obtain ⟨z, hz⟩ : ∃ z, z = ((a.poison.length : Int) == 0) := ⟨_, rfl⟩
          have t4 : ((a.poison.length : Int) == 0) = z := hz.symm
          have HE := Lib.hid (show freshA a = z by
            simp only [freshA, q0, q1, q2, q3, decide_true, Bool.true_and, hz]
            rw [Bool.eq_iff_iff]
            simp only [decide_eq_true_eq, beq_iff_eq]
            omega)
          clear hz
          clear q0 q1 q2 q3
          go_enter Tryz.func102, Tryz.ntmps102
          go_wp2_with fail
          refine HV.out.mono ?_
          rintro e w1 ⟨rfl, rfl⟩
          go_wp2_with fail
          refine HL.out.mono ?_
          rintro e w1 ⟨rfl, rfl⟩
          go_wp2_with fail
          refine HF.out.mono ?_
          rintro e w1 ⟨rfl, rfl⟩
          go_wp2_with fail
          go_ret
          exact ⟨by rw [HE.out]; rfl, rfl⟩
        · have t3 : ((a.tries : Int) == 0) = false := by simp; omega
          have HE := Lib.hid (show freshA a = false by simp only [freshA, q0, q1, q2, q3, decide_true, decide_false, Bool.true_and, Bool.false_and])
          clear q0 q1 q2 q3
          go_enter Tryz.func102, Tryz.ntmps102
          go_wp2_with fail
          refine HV.out.mono ?_
          rintro e w1 ⟨rfl, rfl⟩
          go_wp2_with fail
          refine HL.out.mono ?_
          rintro e w1 ⟨rfl, rfl⟩
          go_wp2_with fail
          refine HF.out.mono ?_
          rintro e w1 ⟨rfl, rfl⟩
          go_wp2_with fail
          go_ret
          exact ⟨by rw [HE.out]; rfl, rfl⟩
      | false =>
        rw [q2] at HF
        have HE := Lib.hid (show freshA a = false by simp only [freshA, q0, q1, q2, decide_true, Bool.true_and, Bool.false_and])
        clear q0 q1 q2
        go_enter Tryz.func102, Tryz.ntmps102
        go_wp2_with fail
        refine HV.out.mono ?_
        rintro e w1 ⟨rfl, rfl⟩
        go_wp2_with fail
        refine HL.out.mono ?_
        rintro e w1 ⟨rfl, rfl⟩
        go_wp2_with fail
        refine HF.out.mono ?_
        rintro e w1 ⟨rfl, rfl⟩
        go_wp2_with fail
        go_ret
        exact ⟨by rw [HE.out]; rfl, rfl⟩
    · have t1 : ((a.inbox.length : Int) == 0) = false := by
        rw [beq_eq_false_iff_ne]; omega
      have HE := Lib.hid (show freshA a = false by simp only [freshA, q0, q1, decide_true, decide_false, Bool.true_and, Bool.false_and])
      clear q0 q1
      go_enter Tryz.func102, Tryz.ntmps102
      go_wp2_with fail
      refine HV.out.mono ?_
      rintro e w1 ⟨rfl, rfl⟩
      go_wp2_with fail
      refine HL.out.mono ?_
      rintro e w1 ⟨rfl, rfl⟩
      go_wp2_with fail
      go_ret
      exact ⟨by rw [HE.out]; rfl, rfl⟩
  · have t0 : ((a.jour.version : Int) == 0) = false := by
      rw [beq_eq_false_iff_ne]; omega
    have HE := Lib.hid (show freshA a = false by simp only [freshA, q0, decide_false, Bool.false_and])
    clear q0
    go_enter Tryz.func102, Tryz.ntmps102
    go_wp2_with fail
    refine HV.out.mono ?_
    rintro e w1 ⟨rfl, rfl⟩
    go_wp2_with fail
    go_ret
    exact ⟨by rw [HE.out]; rfl, rfl⟩

/-- Behind the tests: each letter of the poison is formed. -/
theorem sound_act {fr : Bool} (X : Nat → Prop) (p : Nat) (a : Actr) (ha : a.Ok) (w : World) (h : ActAt fr w X p a) : Calls Tryz.prog 89 #[.pointer (some ⟨p, 0, none⟩)] w fun e w' => e = .returned (.bool true) ∧ Below w.heap.size w w' := by
  have HK := Lib.hid (actkey X p a w h)
  obtain ⟨jb, ib, ob, PA, pc, XJ, XI, XO, XP, h⟩ := h
  have HL := Lib.hid (len_any XI ib a.inbox w h.inr)
  have c0 : w.cell? ⟨p, 0, none⟩ = some (.pointer (some ⟨jb, 0, none⟩)) := h.blk.cell 0
  have c1 : w.cell? ⟨p, 1, none⟩ = some (.pointer (some ⟨ib, 0, none⟩)) := h.blk.cell 1
  have c3 : w.cell? ⟨p, 3, none⟩ = some (.int .i64 a.tries) := h.blk.cell 3
  have c4 : w.cell? ⟨p, 4, none⟩ = some (.slice PA a.poison.length pc) := h.blk.cell 4
  have hown := ha.outb.owner.1
  have t0 := str_ne (mt size_zero.1 (show ¬ a.outb.owner.size = 0 by omega))
  have htr := ha.tries
  have t1 : decide ((a.tries : Int) < 0) = false := decide_eq_false (by omega)
  have t2 : decide ((3 : Int) ≤ (a.tries : Int)) = false := decide_eq_false (by omega)
  have hfew := ha.few
  have t4 : decide ((8 : Int) < (a.poison.length : Int)) = false := decide_eq_false (by omega)
  have HP := Lib.hid h.poi
  have HOK := Lib.hid ha.poison
  have htd := ha.tried
  clear h ha
  have k0 : (0 : Int) ≤ (a.poison.length : Int) := by omega
  have HNE := Lib.hid (show a.tries ≠ 0 → ((a.inbox.length : Int) == 0) = false from fun h => by
    rcases htd with h' | h'
    · exact absurd h' h
    · rw [beq_eq_false_iff_ne]; have := mt List.eq_nil_of_length_eq_zero h'; omega)
  clear htd
  cases ht : decide (0 < a.tries) with
  | false =>
    have t3 : decide (0 < a.tries) = false := ht
    clear ht
    go_enter Tryz.func89, Tryz.ntmps89
    go_wp2_with fail
    refine HK.out.mono ?_
    rintro e w1 ⟨rfl, rfl⟩
    go_wp2_with fail
    go_loopw [68] (fun s wr => ∃ k : Nat, s = .int .i64 k ∧ k ≤ a.poison.length ∧ Below w.heap.size w wr) (fun s _ => a.poison.length - (intOf s).toNat)
    case atStart => exact ⟨0, rfl, Nat.zero_le _, Below.refl _ _⟩
    case round =>
      obtain ⟨k, rfl, hk, hp⟩ := hrel
      by_cases hkl : k < a.poison.length
      · obtain ⟨l, hlk⟩ : ∃ l, a.poison[k]? = some l := ⟨_, List.getElem?_eq_getElem hkl⟩
        have hok := HOK.out l (List.mem_of_getElem? hlk)
        have hps := hp.size
        obtain ⟨b, off, rfl, hXb, hcell⟩ := HP.out (by intro h; simp [h] at hkl)
        obtain ⟨A, c, q0, q1, q2, q3, g4⟩ := hcell k l hlk
        have hc := Chg.of_below hp (fun _ => False)
        have g0 := hc.cell (a := ⟨b, off + k * 4, none⟩) (fun h => h) q0
        have g1 := hc.cell (a := ⟨b, off + k * 4 + 1, none⟩) (fun h => h) q1
        have g2 := hc.cell (a := ⟨b, off + k * 4 + 2, none⟩) (fun h => h) q2
        have g3 := hc.cell (a := ⟨b, off + k * 4 + 3, none⟩) (fun h => h) q3
        have hbl := World.block_lt_of_cell? wr _ g0
        simp only at hbl
        have l1 := hok.frm
        have l2 := hok.args
        obtain ⟨W2, hW2⟩ : ∃ W, W = (wr.alloc (.cells #[.string l.frm, .int .u64 l.serial, .int .i64 l.kind, .slice A l.args.length c] 65)).alloc (.cells #[.string l.frm, .int .u64 l.serial, .int .i64 l.kind, .slice A l.args.length c] 65) := ⟨_, rfl⟩
        have HB2 := Lib.hid (show Below w.heap.size w W2 from hp.trans ((hW2 ▸ ((Below.refl wr.heap.size wr).alloc (Nat.le_refl _) _).alloc (by simp) _ : Below wr.heap.size wr W2).mono hps))
        have HW2 := Lib.hid hW2
        have k0 : (0 : Int) ≤ (k : Int) := by omega
        have k1 : (k : Int) < (a.poison.length : Int) := by omega
        clear hp hXb hcell q0 q1 q2 q3 g4 hok hlk hW2 hc
        go_wp2_with fail
        refine (formed_letter _ _ _ _ _ _ l1 l2 _).mono ?_
        rintro e w3 ⟨rfl, rfl⟩
        rw [← HW2.out]
        go_wp2_with fail
        go_roundw
        case rel => exact ⟨k + 1, by go_num, by omega, HB2.out⟩
        case measure => simp [intOf]; omega
      · obtain rfl : k = a.poison.length := by omega
        go_wp2_with fail
        go_ret
        exact ⟨rfl, hp⟩
  | true =>
    have t3 : decide (0 < a.tries) = true := ht
    have t5 := HNE.out (by have := of_decide_eq_true ht; omega)
    clear ht
    go_enter Tryz.func89, Tryz.ntmps89
    go_wp2_with fail
    refine HK.out.mono ?_
    rintro e w1 ⟨rfl, rfl⟩
    go_wp2_with fail
    refine HL.out.mono ?_
    rintro e w1 ⟨rfl, rfl⟩
    go_wp2_with fail
    go_loopw [68] (fun s wr => ∃ k : Nat, s = .int .i64 k ∧ k ≤ a.poison.length ∧ Below w.heap.size w wr) (fun s _ => a.poison.length - (intOf s).toNat)
    case atStart => exact ⟨0, rfl, Nat.zero_le _, Below.refl _ _⟩
    case round =>
      obtain ⟨k, rfl, hk, hp⟩ := hrel
      by_cases hkl : k < a.poison.length
      · obtain ⟨l, hlk⟩ : ∃ l, a.poison[k]? = some l := ⟨_, List.getElem?_eq_getElem hkl⟩
        have hok := HOK.out l (List.mem_of_getElem? hlk)
        have hps := hp.size
        obtain ⟨b, off, rfl, hXb, hcell⟩ := HP.out (by intro h; simp [h] at hkl)
        obtain ⟨A, c, q0, q1, q2, q3, g4⟩ := hcell k l hlk
        have hc := Chg.of_below hp (fun _ => False)
        have g0 := hc.cell (a := ⟨b, off + k * 4, none⟩) (fun h => h) q0
        have g1 := hc.cell (a := ⟨b, off + k * 4 + 1, none⟩) (fun h => h) q1
        have g2 := hc.cell (a := ⟨b, off + k * 4 + 2, none⟩) (fun h => h) q2
        have g3 := hc.cell (a := ⟨b, off + k * 4 + 3, none⟩) (fun h => h) q3
        have hbl := World.block_lt_of_cell? wr _ g0
        simp only at hbl
        have l1 := hok.frm
        have l2 := hok.args
        obtain ⟨W2, hW2⟩ : ∃ W, W = (wr.alloc (.cells #[.string l.frm, .int .u64 l.serial, .int .i64 l.kind, .slice A l.args.length c] 65)).alloc (.cells #[.string l.frm, .int .u64 l.serial, .int .i64 l.kind, .slice A l.args.length c] 65) := ⟨_, rfl⟩
        have HB2 := Lib.hid (show Below w.heap.size w W2 from hp.trans ((hW2 ▸ ((Below.refl wr.heap.size wr).alloc (Nat.le_refl _) _).alloc (by simp) _ : Below wr.heap.size wr W2).mono hps))
        have HW2 := Lib.hid hW2
        have k0 : (0 : Int) ≤ (k : Int) := by omega
        have k1 : (k : Int) < (a.poison.length : Int) := by omega
        clear hp hXb hcell q0 q1 q2 q3 g4 hok hlk hW2 hc
        go_wp2_with fail
        refine (formed_letter _ _ _ _ _ _ l1 l2 _).mono ?_
        rintro e w3 ⟨rfl, rfl⟩
        rw [← HW2.out]
        go_wp2_with fail
        go_roundw
        case rel => exact ⟨k + 1, by go_num, by omega, HB2.out⟩
        case measure => simp [intOf]; omega
      · obtain rfl : k = a.poison.length := by omega
        go_wp2_with fail
        go_ret
        exact ⟨rfl, hp⟩
end Go.Proofs.YtlcdjgpblpodaaaGreatDoor

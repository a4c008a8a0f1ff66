/- Eng8, Eng9, IpStep0 -/
import Derived.Test.YtlcdjgpblpodaaaGreatDoorMBE
import Derived.Test.YtlcdjgpblpodaaaGreatDoorMAZ
import Derived.StillTailTactics
namespace Go.Proofs.YtlcdjgpblpodaaaGreatDoor
open Go.RowKit Go.Maps Go.Proofs.YtlcdjgpblpodaaaGreatDoorW.PrintWords

/-- The engine's block, opened. -/
structure EngB (w : World) (reg : Nat → Nat) (eb : Nat) (E : Engn) (bb tt ab qb wb cb nC kC : Nat) (NA KA : Option Addr) : Prop where
  blk : Blk w eb #[.pointer (some ⟨bb, 0, none⟩), .pointer (some ⟨tt, 0, none⟩), .map (some ab), .pointer (some ⟨qb, 0, none⟩), .pointer (some ⟨wb, 0, none⟩), .int .i64 0, .slice NA E.NL.length nC, .slice KA E.CL.length kC, .pointer (some ⟨cb, 0, none⟩), .bool false] 87
  cnt : CntAt w cb
  cbl : reg cb = 10
  win : WinAt 5 w (fun k => reg k = 1) wb E.win
  names : ReadsOf Value.string (⟨#[]⟩ : ByteArray) w NA E.NL.length E.NL
  code : Ip.IsCode w KA E.CL
  nin : ∀ a, NA = some a → reg a.block = 1
  kin : ∀ a, KA = some a → reg a.block = 1
theorem EngAt.open_ {w : World} {reg : Nat → Nat} {eb : Nat} {E : Engn} (h : EngAt w reg eb E) : ∃ bb tt ab qb wb cb nC kC NA KA, EngB w reg eb E bb tt ab qb wb cb nC kC NA KA := by
  obtain ⟨ho, v, rfl, hC, hL⟩ := h
  exact ⟨v.bb, v.tt, v.ab, v.qb, v.wb, v.cb, v.nC, v.kC, v.NA, v.KA, by rw [← hL.NL, ← hL.CL]; exact hC.blk, hC.cnt, hC.lc, by rw [← hL.win]; exact hC.win, by rw [← hL.NL]; exact hC.names, by rw [← hL.CL]; exact hC.code, hC.nin, hC.kin⟩
theorem EngAt.counted {w w' : World} {reg : Nat → Nat} {eb : Nat} {E : Engn} (h : EngAt w reg eb E) {cb : Nat} {f : Option Addr} (h8 : w.cell? ⟨eb, 8, none⟩ = some (.pointer f)) (hf : f = some ⟨cb, 0, none⟩) (hn : CntAt w' cb) (hc : Chg (fun k => k = cb) w w') : EngTo w reg eb E w' := by
  obtain ⟨ho, v, rfl, hC, hL⟩ := h
  have e : v.cb = cb := by
    have h1 : w.cell? ⟨v.eb, 8, none⟩ = some (.pointer (some ⟨v.cb, 0, none⟩)) := hC.blk.cell 8
    rw [h1, hf] at h8
    injection h8 with h8
    injection h8 with h8
    injection h8 with h8
    injection h8
  subst e
  exact ⟨⟨reg, ⟨ho, v, rfl, hC.counted hn hc, hL.chg hc (fun k hk e => by subst e; rw [hC.lc] at hk; exact absurd hk (by decide))⟩, fun _ _ => rfl⟩, hc.mono (fun k _ e => by subst e; rw [hC.lc]; decide)⟩

theorem ActP.setInbox {w w' : World} {X : Nat → Prop} {p jb ib ob pc : Nat} {a : Actr} {PA : Option Addr} {XJ XI XO XP : Nat → Prop} {ls : List Let} (h : ActP true w X p a jb ib ob PA pc XJ XI XO XP) (hi : InbAt w' (fun k => XI k ∨ w.heap.size ≤ k) ib ls) (hc : Chg XI w w') :
    ActP true w' (fun k => X k ∨ w.heap.size ≤ k) p { a with inbox := ls } jb ib ob PA pc XJ (fun k => (XI k ∨ w.heap.size ≤ k) ∧ k < w'.heap.size) XO XP := by
  have hs := hc.size
  have hp := h.blk.lt
  have hi' := inbat_lt hi
  refine ⟨.inl h.pin, hc.blk h.blk (fun e => (h.sub p (.inr (.inl e))).2.1 rfl), h.jour.chg hc h.dji, hi'.rd, fun _ => hi', h.outb.chg hc (fun k hk e => h.dio k e hk), h.poi.chg hc (fun k hk e => h.dip k e hk), fun k hk => ?_, fun k hk e => ?_, h.djo, h.djp, fun k e hk => ?_, fun k e hk => ?_, h.dop⟩
  · rcases hk with hk | hk | hk | hk
    · obtain ⟨a1, a2, a3⟩ := h.sub k (.inl hk)
      exact ⟨.inl a1, a2, by omega⟩
    · rcases hk.1 with e | e
      · obtain ⟨a1, a2, a3⟩ := h.sub k (.inr (.inl e))
        exact ⟨.inl a1, a2, by omega⟩
      · exact ⟨.inr e, by omega, hk.2⟩
    · obtain ⟨a1, a2, a3⟩ := h.sub k (.inr (.inr (.inl hk)))
      exact ⟨.inl a1, a2, by omega⟩
    · obtain ⟨a1, a2, a3⟩ := h.sub k (.inr (.inr (.inr hk)))
      exact ⟨.inl a1, a2, by omega⟩
  · rcases e.1 with e | e
    · exact h.dji k hk e
    · have := (h.sub k (.inl hk)).2.2; omega
  · rcases e.1 with e | e
    · exact h.dio k e hk
    · have := (h.sub k (.inr (.inr (.inl hk)))).2.2; omega
  · rcases e.1 with e | e
    · exact h.dip k e hk
    · have := (h.sub k (.inr (.inr (.inr hk)))).2.2; omega
theorem addW_ok (W : Win) (c s : Nat) (h : W.Ok) (hc : U64 c) (hs : U64 s) (hseen : seenW W s = false) (hW : ∀ e ∈ W.rows, e.1 = c) : (addW W c s).Ok ∧ ∀ e ∈ (addW W c s).rows, e.1 = c := by
  obtain ⟨rows⟩ := W
  match rows with
  | [] =>
    refine ⟨⟨fun e he => ?_, by simp [addW]⟩, fun e he => ?_⟩
    · obtain rfl : e = (c, [s]) := by simpa [addW] using he
      exact ⟨hc, by simp, by simp, by simp, fun x hx => by rw [List.mem_singleton.1 hx]; exact hs⟩
    · obtain rfl : e = (c, [s]) := by simpa [addW] using he
      rfl
  | (c', xs) :: r =>
    obtain ⟨h1, h2, h3, h4, h5⟩ := h.rows (c', xs) (by simp)
    have hn : s ∉ xs := fun hm => by
      have : seenW ⟨(c', xs) :: r⟩ s = true := by
        simp only [seenW, ints, List.any_map, List.any_eq_true]
        exact ⟨s, hm, by simp⟩
      rw [this] at hseen; cases hseen
    refine ⟨⟨fun e he => ?_, by simp [addW]⟩, fun e he => ?_⟩
    · obtain rfl : e = (c, (xs ++ [s]).drop (xs.length + 1 - 4)) := by simpa [addW] using he
      have hl : ((xs ++ [s]).drop (xs.length + 1 - 4)).length = xs.length + 1 - (xs.length + 1 - 4) := by rw [List.length_drop, List.length_append]; rfl
      refine ⟨hc, by simp only; rw [hl]; simp only at h3; omega, by simp only; rw [hl]; simp only at h3; omega, ?_, fun x hx => ?_⟩
      · refine List.Sublist.nodup (List.drop_sublist _ _) (List.nodup_append.2 ⟨h4, by simp, fun a ha b hb e => ?_⟩)
        obtain rfl : b = s := by simpa using hb
        exact hn (e ▸ ha)
      · rcases List.mem_append.1 (List.mem_of_mem_drop hx) with hx | hx
        · exact h5 x hx
        · obtain rfl : x = s := by simpa using hx
          exact hs
    · obtain rfl : e = (c, (xs ++ [s]).drop (xs.length + 1 - 4)) := by simpa [addW] using he
      rfl
end Go.Proofs.YtlcdjgpblpodaaaGreatDoor
namespace Go.Proofs.YtlcdjgpblpodaaaGreatDoor
open Go.RowKit Go.Maps Go.Proofs.YtlcdjgpblpodaaaGreatDoorW.PrintWords

/-- The letter of an offer; the actor that has it; the engine behind the offer. -/
def offL (s : Nat) (kind : Int) (args : List Int) : Let := ⟨⟨#[]⟩, s, kind, args⟩
def gotL (a : Actr) (l : Let) : Actr := { a with inbox := a.inbox ++ [l] }
def offE (E : Engn) (c s : Nat) (k : ByteArray) (l : Let) : Engn := { E with ls := [k], act := upd E.act (gotL (E.act k) l), win := addW E.win c s, q := E.q + 1, z := E.z + 3 }
theorem gotL_ok {k : ByteArray} {a : Actr} {l : Let} (h : ActOk k a) (hl : l.Ok) (h8 : a.inbox.length < 8) : ActOk k (gotL a l) := by
  obtain ⟨h1, h2, h3, h4, _⟩ := h
  refine ⟨⟨h1.jour, fun x hx => ?_, by show (a.inbox ++ [l]).length ≤ 8; simp; omega, h1.outb, h1.tries, .inr (by show a.inbox ++ [l] ≠ []; simp), h1.poison, h1.few⟩, h2, h3, h4, fun hf => ?_⟩
  · rcases List.mem_append.1 hx with hx | hx
    · exact h1.inbox x hx
    · rw [List.mem_singleton.1 hx]; exact hl
  · have : freshA (gotL a l) = false := by simp [freshA, gotL]
    rw [this] at hf; cases hf

theorem EngAt.new {w : World} {reg : Nat → Nat} {eb : Nat} {E : Engn} (h : EngAt w reg eb E) {j : Nat} (hj : w.heap.size ≤ j) : reg j = 0 := by
  by_cases e : reg j = 0
  · exact e
  · have := h.lt j e; omega
/-- A row of one actor. -/
theorem UnA.one {w : World} {X : Nat → Prop} {ua q t : Nat} {a : Actr} (hb : Blk w ua #[.pointer (some ⟨q, 0, none⟩)] t) (ha : ActAt false w X q a) : UnA w X ua 0 [(q, a)] :=
  ⟨fun i u hi => by
    match i with
    | 0 => obtain rfl : (q, a) = u := by simpa using hi
           exact hb.cell 0
    | i + 1 => simp at hi, fun u hu => by rw [List.mem_singleton.1 hu]; exact ha⟩
set_option maxRecDepth 100000 in
set_option maxHeartbeats 4000000 in
theorem offer_any (reg : Nat → Nat) (eb : Nat) (E : Engn) (c s : Nat) (k : ByteArray) (kind : Int) (args : List Int) (A : Option Addr) (ca : Nat) (XA : Nat → Prop) (w : World) (h : EngAt w reg eb E) (hA : ArgsAt w XA A ca args) (hc : U64 c) (hs : U64 s) (hk : KeyOk k) (hl : (offL s kind args).Ok)
    (hls : E.ls = [] ∨ E.ls = [k] ∨ ∃ j, E.ls = [j] ∧ j ≠ k ∧ E.room = 1) (hseen : seenW E.win s = false) (hW : ∀ e ∈ E.win.rows, e.1 = c) (hq : 9 * (E.q + 1) ≤ E.cnt ∧ E.q ≤ 5000) (hz : E.z ≤ 800000) (hlen : (E.act k).inbox.length < 8 → (encChs [chOf (gotL (E.act k) (offL s kind args)), winCh (addW E.win c s)]).length ≤ 2000) :
    Calls Tryz.prog 9 #[.pointer (some ⟨eb, 0, none⟩), .int .u64 c, .int .u64 s, .string k, .int .i64 kind, .slice A args.length ca] w fun e w' =>
      ((E.act k).inbox.length < 8 → e = .returned (.tuple #[.bool true, .int .i64 0]) ∧ EngTo w reg eb (offE E c s k (offL s kind args)) w') ∧
      (¬ (E.act k).inbox.length < 8 → e = .returned (.tuple #[.bool false, .int .i64 7]) ∧ EngTo w reg eb { E with ls := [k], z := E.z + 1 } w') := by
  obtain ⟨bb, tt, ab, qb, wb, cb, nC, kC, NA, KA, hB⟩ := h.open_
  have c9 : w.cell? ⟨eb, 9, none⟩ = some (.bool false) := hB.blk.cell 9
  have hks := hk.2
  have hargs := hl.args
  have hcp := copy_any (offL s kind args) hargs A ca XA w hA
  obtain ⟨l, hll⟩ : ∃ l, l = offL s kind args := ⟨_, rfl⟩
  rw [← hll] at hl hlen ⊢
  have hfr := hl.frm
  have HCP := Lib.hid (show Calls Tryz.prog 36 #[.agg #[.string ⟨#[]⟩, .int .u64 s, .int .i64 kind, .slice A args.length ca]] w fun e w' => ∃ A' c', e = .returned (.agg #[.string l.frm, .int .u64 l.serial, .int .i64 l.kind, .slice A' l.args.length c']) ∧ ArgsAt w' (fun k => w.heap.size ≤ k) A' c' l.args ∧ Below w.heap.size w w' from hll ▸ hcp)
  have hla := hl.args
  have hnew : ∀ j, w.heap.size ≤ j → reg j = 0 := fun j hj => by
    by_cases e : reg j = 0
    · exact e
    · have := h.lt j e; omega
  have hel := hB.blk.lt
  have HNEW := Lib.hid hnew
  have HK := Lib.hid hk
  have HL := Lib.hid hl
  have HE := Lib.hid h
  have HB := Lib.hid hB
  have HSEEN := Lib.hid hseen
  have HW := Lib.hid hW
  have HLEN := Lib.hid hlen
  have HC := Lib.hid hc
  have HS := Lib.hid hs
  have HLS := Lib.hid hls
  clear h hA hc hs hk hl hls hseen hW hlen hB hcp hll hargs hnew
  go_enter Tryz.func9, Tryz.ntmps9
  go_wp2_with fail
  refine (gone_any eb w c9).mono ?_
  rintro e w1 ⟨rfl, rfl⟩
  go_wp2_with fail
  refine HCP.out.mono ?_
  rintro e w1 ⟨A1, c1, rfl, hA1, hb1⟩
  obtain ⟨bx, hbx⟩ : ∃ b, b = w1.heap.size := ⟨_, rfl⟩
  obtain ⟨W2, hW2⟩ : ∃ W, W = w1.alloc (.cells #[.string l.frm, .int .u64 l.serial, .int .i64 l.kind, .slice A1 l.args.length c1] 65) := ⟨_, rfl⟩
  obtain ⟨W3, hW3⟩ : ∃ W, W = W2.alloc (.cells #[.string l.frm, .int .u64 l.serial, .int .i64 l.kind, .slice A1 l.args.length c1] 65) := ⟨_, rfl⟩
  have hb2 : Below w1.heap.size w1 W2 := hW2 ▸ (Below.refl _ _).alloc (Nat.le_refl _) _
  have hb3 : Below W2.heap.size W2 W3 := hW3 ▸ (Below.refl _ _).alloc (Nat.le_refl _) _
  have hbk : Blk W2 bx #[.string l.frm, .int .u64 l.serial, .int .i64 l.kind, .slice A1 l.args.length c1] 65 := hW2 ▸ Blk.newAt hbx
  have x0 : W2.cell? ⟨bx, 0, none⟩ = some (.string l.frm) := hbk.cell 0
  have x1 : W2.cell? ⟨bx, 1, none⟩ = some (.int .u64 l.serial) := hbk.cell 1
  have x2 : W2.cell? ⟨bx, 2, none⟩ = some (.int .i64 l.kind) := hbk.cell 2
  have x3 : W2.cell? ⟨bx, 3, none⟩ = some (.slice A1 l.args.length c1) := hbk.cell 3
  have hs1 := hb1.size
  have hs2 := hb2.size
  have hs3 := hb3.size
  have hb03 : Below w.heap.size w W3 := (hb1.trans (hb2.mono hs1)).trans (hb3.mono (by omega))
  have HB3 := Lib.hid hb03
  have HX3 := Lib.hid (hbk.below hb3)
  have HA3 := Lib.hid ((hA1.below hb2).below hb3)
  have d4 : W3.cell? ⟨eb, 4, none⟩ = some (.pointer (some ⟨wb, 0, none⟩)) := (HB.out.blk.below hb03).cell 4
  have HE3 := Lib.hid (HE.out.below hb03)
  have HSN := Lib.hid (seen_any (fun j => reg j = 1) wb E.win c s HC.out HW.out W3 (HB.out.win.chg (Chg.of_below hb03 (fun _ => False)) (fun _ _ h => h)))
  have HLD := Lib.hid (load_any reg eb E k HK.out HLS.out (by omega) W3 HE3.out)
  have HW2 := Lib.hid hW2
  have HW3 := Lib.hid hW3
  have HBX := Lib.hid hbx
  have hbxl := hbk.lt
  rw [HSEEN.out] at HSN
  clear c9 hb1 hA1 hbx hW2 hW3 hb2 hb3 hbk hb03
  go_upto_region 5 with fail
  rw [← HW2.out, ← HBX.out]
  go_wp2_with fail
  refine (key_any k HK.out W2).mono ?_
  rintro e w3 ⟨rfl, rfl⟩
  go_wp2_with fail
  refine (formed_letter l.frm l.serial l.kind A1 l.args.length c1 hfr hla W2).mono ?_
  rintro e w3 ⟨rfl, hw3⟩
  rw [← HW3.out] at hw3
  subst hw3
  clear x0 x1 x2 x3
  go_wp2_with fail
  refine HSN.out.mono ?_
  rintro e w3 ⟨rfl, rfl⟩
  go_wp2_with fail
  refine HLD.out.mono ?_
  rintro e w4 ⟨p0, reg1, rfl, hE4, hx4, hc4, ha4⟩
  have hok := hE4.1.act k HK.out
  have HCPD := Lib.hid (copied_any _ p0 (E.act k) hok.1 hok.2.1 hok.2.2.1 w4 ha4)
  have HOKA := Lib.hid hok
  have HE4 := Lib.hid hE4
  have HX4 := Lib.hid hx4
  have HC4 := Lib.hid hc4
  clear hok hE4 hx4 hc4 ha4 d4
  go_wp2_with fail
  refine HCPD.out.mono ?_
  rintro e w5 ⟨q, rfl, ha5, hb5⟩
  obtain ⟨jb, ib, ob, PA, pc, XJ, XI, XO, XP, hP⟩ := ha5
  have hPd := hP.below (w' := w5.drew) ((Below.refl w5.heap.size w5).drew)
  have hs4 := HC4.out.size
  have hs5 := hb5.size
  have hbx4 : ¬ 2 ≤ reg bx := by rw [HNEW.out bx (by have := HBX.out; omega)]; decide
  have hx5 : Blk w5.drew bx #[.string l.frm, .int .u64 l.serial, .int .i64 l.kind, .slice A1 l.args.length c1] 65 := (HC4.out.blk HX3.out hbx4).below hb5.drew
  have hA5 : ArgsAt w5.drew (fun j => w.heap.size ≤ j) A1 c1 l.args := (((HA3.out.chg HC4.out (fun j hj e => by rw [HNEW.out j hj] at e; exact absurd e (by decide))).below hb5).below (w' := w5.drew) ((Below.refl w5.heap.size w5).drew))
  have q1 : w5.drew.cell? ⟨q, 1, none⟩ = some (.pointer (some ⟨ib, 0, none⟩)) := hPd.blk.cell 1
  have y0 : w5.drew.cell? ⟨bx, 0, none⟩ = some (.string l.frm) := hx5.cell 0
  have y1 : w5.drew.cell? ⟨bx, 1, none⟩ = some (.int .u64 l.serial) := hx5.cell 1
  have y2 : w5.drew.cell? ⟨bx, 2, none⟩ = some (.int .i64 l.kind) := hx5.cell 2
  have y3 : w5.drew.cell? ⟨bx, 3, none⟩ = some (.slice A1 l.args.length c1) := hx5.cell 3
  have HPD := Lib.hid hPd
  have HX5 := Lib.hid hx5
  have HA5 := Lib.hid hA5
  have HB5 := Lib.hid hb5
  have hql := hPd.blk.lt
  have hbl5 := hx5.lt
  clear hP hPd hx5 hA5 hb5 hbx4
  go_upto_region 10 with fail
  by_cases h8 : (E.act k).inbox.length < 8
  · have HP := Lib.hid (push_ok XI (fun j => w.heap.size ≤ j) ib (E.act k).inbox l hfr hla h8 A1 c1 w5.drew (HPD.out.inw rfl) (fun j hj => (HPD.out.sub j (.inr (.inl hj))).2.2) HA5.out)
    go_region_held3 (fun w' => w'.cell? ⟨q, 1, none⟩ = some (.pointer (some ⟨ib, 0, none⟩)) ∧ w'.cell? ⟨bx, 0, none⟩ = some (.string l.frm) ∧ w'.cell? ⟨bx, 1, none⟩ = some (.int .u64 l.serial) ∧ w'.cell? ⟨bx, 2, none⟩ = some (.int .i64 l.kind) ∧ w'.cell? ⟨bx, 3, none⟩ = some (.slice A1 l.args.length c1)) (first | exact ⟨q1, y0, y1, y2, y3⟩ | exact ⟨q1', y0', y1', y2', y3'⟩)
      (first
        | (go_at_call 43
           refine HP.out.mono ?_
           rintro e w6 ⟨rfl, hi6, hc6⟩
           have hxi : ∀ j, XI j → w4.heap.size ≤ j := fun j hj => (HPD.out.sub j (.inr (.inl hj))).1
           have hx6 := hc6.blk HX5.out (fun e => by have h1 := hxi bx e; have h2 := HX3.out.lt; omega)
           have hp6 := HPD.out.setInbox hi6 hc6
           have q1' : w6.cell? ⟨q, 1, none⟩ = some (.pointer (some ⟨ib, 0, none⟩)) := hp6.blk.cell 1
           have y0' : w6.cell? ⟨bx, 0, none⟩ = some (.string l.frm) := hx6.cell 0
           have y1' : w6.cell? ⟨bx, 1, none⟩ = some (.int .u64 l.serial) := hx6.cell 1
           have y2' : w6.cell? ⟨bx, 2, none⟩ = some (.int .i64 l.kind) := hx6.cell 2
           have y3' : w6.cell? ⟨bx, 3, none⟩ = some (.slice A1 l.args.length c1) := hx6.cell 3
           have HP6 := Lib.hid hp6
           have HB6 := Lib.hid (show Below w4.heap.size w4 w6 from (HB5.out.drew).trans (hc6.below hxi HB5.out.size))
           clear hi6 hc6 hxi hx6 hp6))
    rename_i hHeld
    clear hHeld q1 y0 y1 y2 y3 q1' y0' y1' y2' y3'
    have HE6 := Lib.hid (HE4.out.below HB6.out)
    obtain ⟨bb6, tt6, ab6, qb6, wb6, cb6, nC6, kC6, NA6, KA6, hB6⟩ := HE6.out.open_
    have d4 : w6.cell? ⟨eb, 4, none⟩ = some (.pointer (some ⟨wb6, 0, none⟩)) := hB6.blk.cell 4
    have HWE := Lib.hid (winenc (fun j => reg1 j = 1) wb6 E.win HE6.out.1.win w6 hB6.win)
    have hs6 := HB6.out.size
    clear hB6
    go_wp2_with fail
    refine HWE.out.mono ?_
    rintro e w7 ⟨V, vc, rfl, hov, hb7⟩
    have hrv : ReadsOf (Value.int .u8) (0 : Int) w7 V (encWin E.win).length (encWin E.win) := by
      obtain ⟨A', c', he, hle, hr⟩ := own_reads_of_le (d := (0 : Int)) hov
      injection he with he1 he2 he3
      subst he1 he3
      exact hr
    have HWD := Lib.hid (windec V vc E.win HE6.out.1.win w7 hrv)
    have HB7 := Lib.hid hb7
    clear d4 hov hrv hb7
    go_wp2_with fail
    refine HWD.out.mono ?_
    rintro e w8 ⟨nb, rfl, hw8, hb8⟩
    have hw8' := hw8.lt (fun e he => (HE6.out.1.win.rows e he).2.1)
    have HAD := Lib.hid (addwin (fun j => w7.heap.size ≤ j ∧ j < w8.heap.size) nb E.win c s HC.out (fun e he => ⟨HW.out e he, (HE6.out.1.win.rows e he).2.2.1⟩) HSEEN.out (by omega) w8 hw8' (fun j hj => hj.2))
    have HB8 := Lib.hid hb8
    clear hw8 hw8' hb8
    go_wp2_with fail
    refine HAD.out.mono ?_
    rintro e w9 ⟨rfl, hw9, hc9⟩
    have hs7 := HB7.out.size
    have hs8 := HB8.out.size
    have hs9 := hc9.size
    have hb9 : Below w6.heap.size w6 w9 := (HB7.out.trans (HB8.out.mono hs7)).trans (hc9.below (B := w6.heap.size) (fun j hj => by omega) (by omega))
    obtain ⟨ua, hua⟩ : ∃ u, u = w9.heap.size := ⟨_, rfl⟩
    obtain ⟨W10, hW10⟩ : ∃ W, W = w9.alloc (.cells #[.pointer (some ⟨q, 0, none⟩)] 38) := ⟨_, rfl⟩
    have hb10 : Below w9.heap.size w9 W10 := hW10 ▸ (Below.refl _ _).alloc (Nat.le_refl _) _
    have hs10 := hb10.size
    have hb610 : Below w6.heap.size w6 W10 := hb9.trans (hb10.mono hs9 |>.mono (by omega))
    have HE10 := Lib.hid (HE6.out.below hb610)
    have hact : ActAt true w6 (fun j => w4.heap.size ≤ j ∨ w5.drew.heap.size ≤ j) q (gotL (E.act k) l) := ⟨_, _, _, _, _, _, _, _, _, HP6.out⟩
    have hact10 : ActAt false W10 (fun j => w4.heap.size ≤ j ∧ j < W10.heap.size) q (gotL (E.act k) l) := (hact.rd.below hb610).lt.mono (fun j hj => ⟨by have h1 := hj.1; have h2 : w5.drew.heap.size = w5.heap.size := rfl; omega, hj.2⟩)
    have hgo := gotL_ok HOKA.out HL.out h8
    have hown : (gotL (E.act k) l).outb.owner = k := HOKA.out.2.2.2.1
    have hwin : WinAt 5 W10 (fun j => w4.heap.size ≤ j ∧ j < W10.heap.size) nb (addW E.win c s) := (((show WinAt 5 w9 (fun j => (w7.heap.size ≤ j ∧ j < w8.heap.size) ∨ w8.heap.size ≤ j) nb (addW E.win c s) from hw9).chg (Chg.of_below hb10 (fun _ => False)) (fun _ _ h => h)).lt (fun e he => ((addW_ok E.win c s HE6.out.1.win HC.out HS.out HSEEN.out HW.out).1.rows e he).2.1)).mono (fun j hj => ⟨by have h1 := hj.1; omega, hj.2⟩) (Nat.le_refl _)
    have hcm := commit_eng reg1 eb { E with ls := [k], z := E.z + 1 } (fun j => w4.heap.size ≤ j ∧ j < W10.heap.size) ua 0 1 [(q, gotL (E.act k) l)] (some (nb, addW E.win c s)) W10 HE10.out (UnA.one (hW10 ▸ Blk.newAt hua) hact10) (HE4.out.new (by omega)) (fun j hj => ⟨HE4.out.new hj.1, hj.2⟩) ⟨Nat.le_refl 1, by show 1 ≤ 2; omega⟩
      (fun u hu => by rw [List.mem_singleton.1 hu]; simp only [hown]; exact ⟨HK.out, hgo⟩) (by simp) (fun b W e => by injection e with e; injection e with e1 e2; subst e1 e2; exact ⟨(addW_ok E.win c s HE6.out.1.win HC.out HS.out HSEEN.out HW.out).1, hwin⟩) hq (by show E.z + 1 ≤ 900000; omega) (HLEN.out h8)
    have HCM := Lib.hid (show Calls Tryz.prog 46 #[.pointer (some ⟨eb, 0, none⟩), .agg #[.slice (some ⟨ua, 0, none⟩) 1 1, .pointer none, .pointer (some ⟨nb, 0, none⟩), .slice none 0 0]] W10 fun e w' => e = .returned (.int .i64 0) ∧ ∃ reg', EngAt w' reg' eb (offE E c s k l) ∧ (∀ j, j < W10.heap.size → reg' j = reg1 j ∨ ((w4.heap.size ≤ j ∧ j < W10.heap.size) ∧ reg' j = 1)) ∧ Chg (fun j => 2 ≤ reg1 j) W10 w' from hcm)
    have HW10 := Lib.hid hW10
    have HUA := Lib.hid hua
    have HB410 := Lib.hid (show Below w4.heap.size w4 W10 from HB6.out.trans (hb610.mono (by omega)))
    clear hact hact10 hgo hown hwin hcm hW10 hua hb9 hb10 hb610 hw9 hc9 HWD HAD HWE HCPD HLD HSN
    go_upto_region 14 with fail
    go_wp2_with fail
    rw [← HUA.out, ← HW10.out]
    refine HCM.out.mono ?_
    rintro e w11 ⟨rfl, reg2, hE11, hx11, hc11⟩
    obtain ⟨bb11, tt11, ab11, qb11, wb11, cb11, nC11, kC11, NA11, KA11, hB11⟩ := hE11.open_
    have d8 : w11.cell? ⟨eb, 8, none⟩ = some (.pointer (some ⟨cb11, 0, none⟩)) := hB11.blk.cell 8
    have HN := Lib.hid (count_any cb11 0 (by omega) 1 w11 hB11.cnt)
    have HE11 := Lib.hid hE11
    have HX11 := Lib.hid hx11
    have HC11 := Lib.hid hc11
    clear hE11 hx11 hc11 hB11
    go_wp2_with fail
    refine HN.out.mono ?_
    rintro e w12 ⟨⟨x, rfl⟩, hn12, hc12⟩
    have HTO := Lib.hid (HE11.out.counted d8 rfl hn12 hc12)
    clear d8 hn12 hc12
    go_wp2_with fail
    refine (end_ok eb w12).mono ?_
    rintro e w13 ⟨rfl, rfl⟩
    go_wp2_with fail
    go_ret2
    refine ⟨fun _ => ⟨rfl, ?_⟩, fun hn => absurd h8 hn⟩
    obtain ⟨⟨r3, h3, x3⟩, k3⟩ := HTO.out
    have hs11 := HC11.out.size
    have hx : ∀ j, j < w.heap.size → reg2 j = reg j := fun j hj => by
      rcases HX11.out j (by omega) with e | ⟨e, _⟩
      · exact e.trans (HX4.out j (by omega))
      · omega
    have hb := HB410.out
    have hk := HC11.out
    refine ⟨⟨r3, h3, fun j hj => (x3 j (by omega)).trans (hx j hj)⟩, ((((Chg.of_below HB3.out (fun j => 2 ≤ reg j)).trans HC4.out (fun _ _ e => e)).then_below hb).trans hk (fun j hj e => ?_)).trans k3 (fun j hj e => ?_)⟩
    · rw [HX4.out j (by omega)] at e; exact e
    · rw [hx j hj] at e; exact e
  · have HP := Lib.hid (push_full XI ib (E.act k).inbox l hfr hla (by omega) A1 c1 w5.drew HPD.out.inr)
    go_region_held3 (fun w' => w'.cell? ⟨q, 1, none⟩ = some (.pointer (some ⟨ib, 0, none⟩)) ∧ w'.cell? ⟨bx, 0, none⟩ = some (.string l.frm) ∧ w'.cell? ⟨bx, 1, none⟩ = some (.int .u64 l.serial) ∧ w'.cell? ⟨bx, 2, none⟩ = some (.int .i64 l.kind) ∧ w'.cell? ⟨bx, 3, none⟩ = some (.slice A1 l.args.length c1)) (first | exact ⟨q1, y0, y1, y2, y3⟩ | exact ⟨q1', y0', y1', y2', y3'⟩)
      (first
        | (go_at_call 43
           refine HP.out.mono ?_
           rintro e w6 ⟨rfl, hb6⟩
           have hx6 := HX5.out.below hb6
           have q1' : w6.cell? ⟨q, 1, none⟩ = some (.pointer (some ⟨ib, 0, none⟩)) := (HPD.out.blk.below hb6).cell 1
           have y0' : w6.cell? ⟨bx, 0, none⟩ = some (.string l.frm) := hx6.cell 0
           have y1' : w6.cell? ⟨bx, 1, none⟩ = some (.int .u64 l.serial) := hx6.cell 1
           have y2' : w6.cell? ⟨bx, 2, none⟩ = some (.int .i64 l.kind) := hx6.cell 2
           have y3' : w6.cell? ⟨bx, 3, none⟩ = some (.slice A1 l.args.length c1) := hx6.cell 3
           have HB6 := Lib.hid (show Below w4.heap.size w4 w6 from (HB5.out.drew).trans (hb6.mono HB5.out.size))
           clear hb6 hx6))
    rename_i hHeld
    clear hHeld q1 y0 y1 y2 y3 q1' y0' y1' y2' y3'
    have HE6 := Lib.hid (HE4.out.below HB6.out)
    obtain ⟨bb6, tt6, ab6, qb6, wb6, cb6, nC6, kC6, NA6, KA6, hB6⟩ := HE6.out.open_
    have d8 : w6.cell? ⟨eb, 8, none⟩ = some (.pointer (some ⟨cb6, 0, none⟩)) := hB6.blk.cell 8
    have HN := Lib.hid (end_bad eb cb6 7 (by omega) w6 d8 hB6.cnt)
    clear hB6
    go_wp2_with fail
    refine HN.out.mono ?_
    rintro e w7 ⟨rfl, hn7, hc7⟩
    have HTO := Lib.hid (HE6.out.counted d8 rfl hn7 hc7)
    clear d8 hn7 hc7
    go_wp2_with fail
    go_ret2
    refine ⟨fun hn => absurd hn h8, fun _ => ⟨rfl, ?_⟩⟩
    obtain ⟨⟨r3, h3, x3⟩, k3⟩ := HTO.out
    have hs6 := HB6.out.size
    refine ⟨⟨r3, h3, fun j hj => (x3 j (by omega)).trans (HX4.out j (by omega))⟩, (((Chg.of_below HB3.out (fun j => 2 ≤ reg j)).trans HC4.out (fun _ _ e => e)).then_below HB6.out).trans k3 (fun j hj e => ?_)⟩
    rw [HX4.out j (by omega)] at e; exact e
end Go.Proofs.YtlcdjgpblpodaaaGreatDoor
namespace Go.Proofs.YtlcdjgpblpodaaaGreatDoor.Ip
open Go.RowKit Go.Proofs.YtlcdjgpblpodaaaGreatDoorW.PrintWords

theorem rd1 (w : World) (x : Int) : ReadsOf (Value.int .i64) (0 : Int) (w.alloc (.cells #[.int .i64 x] 2)) (some ⟨w.heap.size, 0, none⟩) [x].length [x] :=
  ⟨rfl, by simp, fun _ => ⟨_, rfl, fun j hj => by
    have : j = 0 := by simp at hj; exact hj
    subst this
    rw [Go.WideShapes.add_plain, (Blk.new w #[.int .i64 x] 2).cell]
    rfl⟩⟩
theorem rd2 (w : World) (x y : Int) : ReadsOf (Value.int .i64) (0 : Int) (w.alloc (.cells #[.int .i64 x, .int .i64 y] 2)) (some ⟨w.heap.size, 0, none⟩) [x, y].length [x, y] :=
  ⟨rfl, by simp, fun _ => ⟨_, rfl, fun j hj => by
    rw [Go.WideShapes.add_plain, (Blk.new w #[.int .i64 x, .int .i64 y] 2).cell]
    match j, hj with
    | 0, _ | 1, _ => rfl⟩⟩

theorem push1 {c : Env} {w0 wb w : World} {mb : Nat} {s : St} (x : Int) (h : M c w0 wb mb s w) (hs : s.stack.length ≤ 16) :
    Calls Tryz.prog 226 #[mp mb, .slice (some ⟨w.heap.size, 0, none⟩) 1 1] (w.alloc (.cells #[.int .i64 x] 2)) fun e w' => e = .returned (.tuple #[]) ∧ M c w0 wb mb (pushF [x] s) w' :=
  push_any c w0 wb _ mb s _ 1 [x] (h.alloc _) (by simp) hs (rd1 w x)
theorem push2 {c : Env} {w0 wb w : World} {mb : Nat} {s : St} (x y : Int) (h : M c w0 wb mb s w) (hs : s.stack.length ≤ 16) :
    Calls Tryz.prog 226 #[mp mb, .slice (some ⟨w.heap.size, 0, none⟩) 2 2] (w.alloc (.cells #[.int .i64 x, .int .i64 y] 2)) fun e w' => e = .returned (.tuple #[]) ∧ M c w0 wb mb (pushF [x, y] s) w' :=
  push_any c w0 wb _ mb s _ 2 [x, y] (h.alloc _) (by simp) hs (rd2 w x y)

theorem push1d {c : Env} {w0 wb w : World} {mb : Nat} {s : St} (x : Int) (h : M c w0 wb mb s w) (hs : s.stack.length ≤ 16) :
    Calls Tryz.prog 226 #[mp mb, .slice (some ⟨w.heap.size, 0, none⟩) 1 1] (w.alloc (.cells #[.int .i64 x] 2)).drew fun e w' => e = .returned (.tuple #[]) ∧ M c w0 wb mb (pushF [x] s) w' :=
  push_any c w0 wb _ mb s _ 1 [x] (h.alloc _).drew (by simp) hs (rd1 w x)

/-- An instruction. -/
abbrev ins (op a : Int) : Value := .agg #[.int .i64 op, .int .i64 a]
abbrev boxed (w : World) (op a : Int) : World := w.alloc (.cells #[.int .i64 op, .int .i64 a] 51)

theorem cells_reg {c : Env} {s : St} {sv ev sn tv : Value} {k : Nat} (hk : k < 8) : (cellsOf c s sv ev sn tv)[9 + k]? = some (.int .i64 (s.reg k)) := by
  match k, hk with
  | 0, _ | 1, _ | 2, _ | 3, _ | 4, _ | 5, _ | 6, _ | 7, _ => rfl
def setReg (s : St) (k : Nat) (x : Int) : St := { s with reg := fun j => if j = k then x else s.reg j }
theorem cells_set {c : Env} {s : St} {sv ev sn tv : Value} {k : Nat} (x : Int) (hk : k < 8) : (cellsOf c s sv ev sn tv).setIfInBounds (9 + k) (.int .i64 x) = cellsOf c (setReg s k x) sv ev sn tv := by
  match k, hk with
  | 0, _ | 1, _ | 2, _ | 3, _ | 4, _ | 5, _ | 6, _ | 7, _ => rfl

set_option maxRecDepth 100000 in
set_option maxHeartbeats 2000000 in
theorem step_0 (c : Env) (w0 wb w : World) (mb : Nat) (s : St) (a : Int) (h : M c w0 wb mb s w) :
    Calls Tryz.prog 171 #[mp mb, ins 0 a] w fun e w' => e = .returned (.tuple #[]) ∧ M c w0 wb mb { s with done := true } w' := by
  obtain ⟨sv, ev, sn, tv, hb, hr, hm⟩ := h.alloc (.cells #[.int .i64 0, .int .i64 a] 51)
  have c22 := hb.cell 22
  have f22 := hb.free 22
  simp [cellsOf] at c22
  have HF := Lib.hid (show M c w0 wb mb { s with done := true } ((boxed w 0 a).setCell ⟨mb, 22, none⟩ (.bool true)) from ⟨sv, ev, sn, tv, by simpa [cellsOf] using hb.set 22 (.bool true), hr.put hb hm _ _, hm⟩)
  clear hb hr h
  go_enter Tryz.func171, Tryz.ntmps171
  go_wp2
  go_end0
  exact ⟨rfl, HF.out⟩

/-- Behind the box: the world by a name of its own. -/
theorem M.boxed {c : Env} {w0 wb w : World} {mb : Nat} {s : St} (h : M c w0 wb mb s w) (op a : Int) : ∃ w1 bk, w1 = boxed w op a ∧ bk = w.heap.size ∧ M c w0 wb mb s w1 ∧ Blk w1 bk #[.int .i64 op, .int .i64 a] 51 :=
  ⟨_, _, rfl, rfl, h.alloc _, Blk.new _ _ _⟩

set_option maxRecDepth 100000 in
set_option maxHeartbeats 1000000 in
theorem step_1 (c : Env) (w0 wb w : World) (mb : Nat) (s : St) (a : Int) (h : M c w0 wb mb s w) (hs : s.stack.length ≤ 16) :
    Calls Tryz.prog 171 #[mp mb, ins 1 a] w fun e w' => e = .returned (.tuple #[]) ∧ M c w0 wb mb (pushF [a] s) w' := by
  obtain ⟨w1, bk, hw1, hbkn, h1, hbk⟩ := h.boxed 1 a
  have q0 := hbk.cell 0
  have q1 := hbk.cell 1
  simp at q0 q1
  have HP := Lib.hid (push1 a h1 hs)
  clear h h1 hbk
  go_enter Tryz.func171, Tryz.ntmps171
  go_upto_region 1 with fail
  rw [show w.alloc (.cells #[.int .i64 1, .int .i64 a] 51) = w1 from hw1.symm, ← hbkn]
  clear hw1 hbkn
  go_wp2_with fail
  refine HP.out.mono ?_
  rintro e w2 ⟨rfl, h2⟩
  go_wp2
  go_end0
  exact ⟨rfl, h2⟩

set_option maxRecDepth 100000 in
set_option maxHeartbeats 1000000 in
theorem step_2 (c : Env) (w0 wb w : World) (mb : Nat) (s : St) (k : Nat) (hk : k < 8) (h : M c w0 wb mb s w) (hs : s.stack.length ≤ 16) :
    Calls Tryz.prog 171 #[mp mb, ins 2 (k : Int)] w fun e w' => e = .returned (.tuple #[]) ∧ M c w0 wb mb (pushF [s.reg k] s) w' := by
  obtain ⟨w1, bk, hw1, hbkn, h1, hbk⟩ := h.boxed 2 (k : Int)
  have q0 := hbk.cell 0
  have q1 := hbk.cell 1
  simp at q0 q1
  have HM := Lib.hid h1
  obtain ⟨sv, ev, sn, tv, hb, hr, hm⟩ := HM.out
  have ck := hb.cell (9 + k)
  rw [cells_reg hk] at ck
  have k0 : (0 : Int) ≤ (k : Int) := by omega
  have k1 : (k : Int) < 8 := by omega
  obtain ⟨x, hx⟩ : ∃ x, x = s.reg k := ⟨_, rfl⟩
  rw [← hx] at ck
  rw [← hx]
  clear hx hb hr h h1 hbk
  go_enter Tryz.func171, Tryz.ntmps171
  go_upto_region 1 with fail
  rw [show w.alloc (.cells #[.int .i64 2, .int .i64 (k : Int)] 51) = w1 from hw1.symm, ← hbkn]
  clear hw1 hbkn
  go_wp2_with fail
  go_region_with ((refine (push1d x HM.out hs).mono ?_; rintro e w2 ⟨rfl, h2⟩))
  all_goals
    go_wp2
    go_end0
    exact ⟨rfl, h2⟩
end Go.Proofs.YtlcdjgpblpodaaaGreatDoor.Ip

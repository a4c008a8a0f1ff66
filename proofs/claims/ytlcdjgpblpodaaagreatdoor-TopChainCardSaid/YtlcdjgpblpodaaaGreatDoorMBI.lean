/- IpRunA, IpRun2, IpRun3 -/
import Derived.Test.YtlcdjgpblpodaaaGreatDoorMBH
import Derived.Deep.RegionHeld3
import Derived.StillTailTactics
namespace Go.Proofs.YtlcdjgpblpodaaaGreatDoor.Ip
open Go.RowKit Go.Proofs.YtlcdjgpblpodaaaGreatDoorW.PrintWords

abbrev argP (c : Env) : Value := .agg #[.slice c.nA c.NL.length c.nC, .slice c.kA c.CL.length c.kC]
abbrev argL (c : Env) : Value := .agg #[.string c.frm, .int .u64 c.serial, .int .i64 c.kind, .slice c.aA c.AL.length c.aC]
abbrev regC (r : Nat → Int) : Array Value := #[.int .i64 (r 0), .int .i64 (r 1), .int .i64 (r 2), .int .i64 (r 3), .int .i64 (r 4), .int .i64 (r 5), .int .i64 (r 6), .int .i64 (r 7)]
abbrev resC (r : Nat → Int) (ev sn tv : Value) (steps : Int) : Array Value :=
  #[.int .i64 (r 0), .int .i64 (r 1), .int .i64 (r 2), .int .i64 (r 3), .int .i64 (r 4), .int .i64 (r 5), .int .i64 (r 6), .int .i64 (r 7), ev, sn, tv, .int .i64 steps]
/-- What Run returns. -/
def RunPost (c : Env) (reg : Nat → Int) (w : World) (e : Ending) (w' : World) : Prop :=
  Below w.heap.size w w' ∧ (((runF c reg).1 = 0 ∧ ∃ ev sn tv, e = .returned (.tuple #[.agg (resC (runF c reg).2.reg ev sn tv (runF c reg).2.steps), .int .i64 0]) ∧
      w'.ownsRow w.heap.size 146 2 ev (runF c reg).2.ev.length (encE (runF c reg).2.ev) ∧ w'.ownsRow w.heap.size 244 3 sn (runF c reg).2.sent.length (encS (runF c reg).2.sent) ∧ w'.ownsRow w.heap.size 125 5 tv (runF c reg).2.tm.length (encT (runF c reg).2.tm)) ∨
    ((runF c reg).1 ≠ 0 ∧ e = .returned (.tuple #[.agg (resC (fun _ => 0) (.slice none 0 0) (.slice none 0 0) (.slice none 0 0) (runF c reg).2.steps), .int .i64 (runF c reg).1])))

theorem Blk.newAt {w : World} {C : Array Value} {t k : Nat} (h : k = w.heap.size) : Blk (w.alloc (.cells C t)) k C t := h ▸ Blk.new w C t
/-- What holds behind the boxes. -/
structure Boxed (c : Env) (reg : Nat → Int) (w wx : World) (b4 b5 b6 b8 : Nat) : Prop where
  below : Below w.heap.size w wx
  p : Blk wx b4 #[.slice c.nA c.NL.length c.nC, .slice c.kA c.CL.length c.kC] 54
  s : Blk wx b5 (regC reg) 58
  l : Blk wx b6 #[.string c.frm, .int .u64 c.serial, .int .i64 c.kind, .slice c.aA c.AL.length c.aC] 65
  r : Blk wx b8 (resC (fun _ => 0) (.slice none 0 0) (.slice none 0 0) (.slice none 0 0) 0) 239
  lo : w.heap.size ≤ b8
theorem Boxed.then_ {c : Env} {reg : Nat → Int} {w wx wy : World} {b4 b5 b6 b8 : Nat} (h : Boxed c reg w wx b4 b5 b6 b8) (k : Below wx.heap.size wx wy) : Boxed c reg w wy b4 b5 b6 b8 :=
  ⟨h.below.trans (k.mono h.below.size), h.p.below k, h.s.below k, h.l.below k, h.r.below k, h.lo⟩

/-- What holds at the loop's head. -/
def RL (c : Env) (reg : Nat → Int) (w wx : World) (mb n : Nat) (wr : World) : Prop :=
  ∃ s : St, M c w wx mb s wr ∧ s.stack.length ≤ 16 ∧ ((s.ev.length : Int) ≤ s.steps ∧ (s.sent.length : Int) ≤ s.steps ∧ (s.tm.length : Int) ≤ s.steps) ∧ 0 ≤ s.at_ ∧ (0 ≤ s.steps ∧ s.steps ≤ 500) ∧ s.failed = 0 ∧ (n : Int) = 501 - s.steps ∧ runF c reg = loopF c n s

/-- The registers, as they come, into the machine. -/
theorem M.state {c : Env} {w0 wx : World} {mb : Nat} (hmb : Blk wx mb (cellsOf c (st0 fun _ => 0) (.slice none 0 0) (.slice none 0 0) (.slice none 0 0) (.slice none 0 0)) 327) (hb : Below w0.heap.size w0 wx) (hm : w0.heap.size ≤ mb) (reg : Nat → Int) :
    M c w0 wx mb (st0 reg) ((((((((wx.setCell ⟨mb, 9, none⟩ (.int .i64 (reg 0))).setCell ⟨mb, 10, none⟩ (.int .i64 (reg 1))).setCell ⟨mb, 11, none⟩ (.int .i64 (reg 2))).setCell ⟨mb, 12, none⟩ (.int .i64 (reg 3))).setCell ⟨mb, 13, none⟩ (.int .i64 (reg 4))).setCell ⟨mb, 14, none⟩ (.int .i64 (reg 5))).setCell ⟨mb, 15, none⟩ (.int .i64 (reg 6))).setCell ⟨mb, 16, none⟩ (.int .i64 (reg 7))) := by
  have r0 : Rws w0 wx wx [] [] [] [] (.slice none 0 0) (.slice none 0 0) (.slice none 0 0) (.slice none 0 0) := ⟨own_nil _ _ _ _, own_nil _ _ _ _, own_nil _ _ _ _, own_nil _ _ _ _, hb, Stay.refl _⟩
  have b1 := hmb.set 9 (.int .i64 (reg 0))
  rw [show 9 = 9 + 0 from rfl, cells_set (reg 0) (by decide : 0 < 8)] at b1
  have r1 := r0.put hmb hm 9 (.int .i64 (reg 0))
  have b2 := b1.set 10 (.int .i64 (reg 1))
  rw [show 10 = 9 + 1 from rfl, cells_set (reg 1) (by decide : 1 < 8)] at b2
  have r2 := r1.put b1 hm 10 (.int .i64 (reg 1))
  have b3 := b2.set 11 (.int .i64 (reg 2))
  rw [show 11 = 9 + 2 from rfl, cells_set (reg 2) (by decide : 2 < 8)] at b3
  have r3 := r2.put b2 hm 11 (.int .i64 (reg 2))
  have b4 := b3.set 12 (.int .i64 (reg 3))
  rw [show 12 = 9 + 3 from rfl, cells_set (reg 3) (by decide : 3 < 8)] at b4
  have r4 := r3.put b3 hm 12 (.int .i64 (reg 3))
  have b5 := b4.set 13 (.int .i64 (reg 4))
  rw [show 13 = 9 + 4 from rfl, cells_set (reg 4) (by decide : 4 < 8)] at b5
  have r5 := r4.put b4 hm 13 (.int .i64 (reg 4))
  have b6 := b5.set 14 (.int .i64 (reg 5))
  rw [show 14 = 9 + 5 from rfl, cells_set (reg 5) (by decide : 5 < 8)] at b6
  have r6 := r5.put b5 hm 14 (.int .i64 (reg 5))
  have b7 := b6.set 15 (.int .i64 (reg 6))
  rw [show 15 = 9 + 6 from rfl, cells_set (reg 6) (by decide : 6 < 8)] at b7
  have r7 := r6.put b6 hm 15 (.int .i64 (reg 6))
  have b8 := b7.set 16 (.int .i64 (reg 7))
  rw [show 16 = 9 + 7 from rfl, cells_set (reg 7) (by decide : 7 < 8)] at b8
  have r8 := r7.put b7 hm 16 (.int .i64 (reg 7))
  exact ⟨_, _, _, _, b8, r8, hm⟩

/-- The twelve cells of a result, written one by one. -/
theorem _root_.Go.Proofs.YtlcdjgpblpodaaaGreatDoor.Blk.twelve {w : World} {b t : Nat} {C : Array Value} (h : Blk w b C t) (hC : C.size = 12) (v0 v1 v2 v3 v4 v5 v6 v7 v8 v9 v10 v11 : Value) :
    Blk ((((((((((((w.setCell ⟨b, 0, none⟩ v0).setCell ⟨b, 1, none⟩ v1).setCell ⟨b, 2, none⟩ v2).setCell ⟨b, 3, none⟩ v3).setCell ⟨b, 4, none⟩ v4).setCell ⟨b, 5, none⟩ v5).setCell ⟨b, 6, none⟩ v6).setCell ⟨b, 7, none⟩ v7).setCell ⟨b, 8, none⟩ v8).setCell ⟨b, 9, none⟩ v9).setCell ⟨b, 10, none⟩ v10).setCell ⟨b, 11, none⟩ v11) b #[v0, v1, v2, v3, v4, v5, v6, v7, v8, v9, v10, v11] t := by
  obtain ⟨l⟩ := C
  match l, hC with
  | [a0, a1, a2, a3, a4, a5, a6, a7, a8, a9, a10, a11], _ =>
    have h1 : Blk _ b #[v0, a1, a2, a3, a4, a5, a6, a7, a8, a9, a10, a11] t := h.set 0 v0
    have h2 : Blk _ b #[v0, v1, a2, a3, a4, a5, a6, a7, a8, a9, a10, a11] t := h1.set 1 v1
    have h3 : Blk _ b #[v0, v1, v2, a3, a4, a5, a6, a7, a8, a9, a10, a11] t := h2.set 2 v2
    have h4 : Blk _ b #[v0, v1, v2, v3, a4, a5, a6, a7, a8, a9, a10, a11] t := h3.set 3 v3
    have h5 : Blk _ b #[v0, v1, v2, v3, v4, a5, a6, a7, a8, a9, a10, a11] t := h4.set 4 v4
    have h6 : Blk _ b #[v0, v1, v2, v3, v4, v5, a6, a7, a8, a9, a10, a11] t := h5.set 5 v5
    have h7 : Blk _ b #[v0, v1, v2, v3, v4, v5, v6, a7, a8, a9, a10, a11] t := h6.set 6 v6
    have h8 : Blk _ b #[v0, v1, v2, v3, v4, v5, v6, v7, a8, a9, a10, a11] t := h7.set 7 v7
    have h9 : Blk _ b #[v0, v1, v2, v3, v4, v5, v6, v7, v8, a9, a10, a11] t := h8.set 8 v8
    have h10 : Blk _ b #[v0, v1, v2, v3, v4, v5, v6, v7, v8, v9, a10, a11] t := h9.set 9 v9
    have h11 : Blk _ b #[v0, v1, v2, v3, v4, v5, v6, v7, v8, v9, v10, a11] t := h10.set 10 v10
    have h12 : Blk _ b #[v0, v1, v2, v3, v4, v5, v6, v7, v8, v9, v10, v11] t := h11.set 11 v11
    exact h12
theorem below12 {w0 w : World} {b : Nat} (h : Below w0.heap.size w0 w) (hb : w0.heap.size ≤ b) (v0 v1 v2 v3 v4 v5 v6 v7 v8 v9 v10 v11 : Value) :
    Below w0.heap.size w0 ((((((((((((w.setCell ⟨b, 0, none⟩ v0).setCell ⟨b, 1, none⟩ v1).setCell ⟨b, 2, none⟩ v2).setCell ⟨b, 3, none⟩ v3).setCell ⟨b, 4, none⟩ v4).setCell ⟨b, 5, none⟩ v5).setCell ⟨b, 6, none⟩ v6).setCell ⟨b, 7, none⟩ v7).setCell ⟨b, 8, none⟩ v8).setCell ⟨b, 9, none⟩ v9).setCell ⟨b, 10, none⟩ v10).setCell ⟨b, 11, none⟩ v11) :=
  ((((((((((((h.setCell (p := ⟨b, 0, none⟩) hb v0).setCell (p := ⟨b, 1, none⟩) hb v1).setCell (p := ⟨b, 2, none⟩) hb v2).setCell (p := ⟨b, 3, none⟩) hb v3).setCell (p := ⟨b, 4, none⟩) hb v4).setCell (p := ⟨b, 5, none⟩) hb v5).setCell (p := ⟨b, 6, none⟩) hb v6).setCell (p := ⟨b, 7, none⟩) hb v7).setCell (p := ⟨b, 8, none⟩) hb v8).setCell (p := ⟨b, 9, none⟩) hb v9).setCell (p := ⟨b, 10, none⟩) hb v10).setCell (p := ⟨b, 11, none⟩) hb v11)

theorem own12 {w : World} {base n size e b t : Nat} {v : Value} {xs : List Value} {C : Array Value} (h : w.ownsRow base e size v n xs) (hb : Blk w b C t) (hne : e ≠ t) (v0 v1 v2 v3 v4 v5 v6 v7 v8 v9 v10 v11 : Value) :
    ((((((((((((w.setCell ⟨b, 0, none⟩ v0).setCell ⟨b, 1, none⟩ v1).setCell ⟨b, 2, none⟩ v2).setCell ⟨b, 3, none⟩ v3).setCell ⟨b, 4, none⟩ v4).setCell ⟨b, 5, none⟩ v5).setCell ⟨b, 6, none⟩ v6).setCell ⟨b, 7, none⟩ v7).setCell ⟨b, 8, none⟩ v8).setCell ⟨b, 9, none⟩ v9).setCell ⟨b, 10, none⟩ v10).setCell ⟨b, 11, none⟩ v11).ownsRow base e size v n xs :=
  own_move h (fun k hk => by
    have hk' : k ≠ b := fun e' => by
      obtain ⟨cells, hc⟩ := own_typed h k hk
      subst e'
      unfold Blk at hb
      rw [hb] at hc
      injection hc with hc
      injection hc with _ h2 _
      exact hne h2.symm
    exact ((Below.heap_setCell _ ⟨b, 11, none⟩ v11 k hk').trans ((Below.heap_setCell _ ⟨b, 10, none⟩ v10 k hk').trans ((Below.heap_setCell _ ⟨b, 9, none⟩ v9 k hk').trans ((Below.heap_setCell _ ⟨b, 8, none⟩ v8 k hk').trans ((Below.heap_setCell _ ⟨b, 7, none⟩ v7 k hk').trans ((Below.heap_setCell _ ⟨b, 6, none⟩ v6 k hk').trans ((Below.heap_setCell _ ⟨b, 5, none⟩ v5 k hk').trans ((Below.heap_setCell _ ⟨b, 4, none⟩ v4 k hk').trans ((Below.heap_setCell _ ⟨b, 3, none⟩ v3 k hk').trans ((Below.heap_setCell _ ⟨b, 2, none⟩ v2 k hk').trans ((Below.heap_setCell _ ⟨b, 1, none⟩ v1 k hk').trans ((Below.heap_setCell _ ⟨b, 0, none⟩ v0 k hk').trans rfl)))))))))))))
theorem argOk_of {NL : List ByteArray} {CL : List (Int × Int)} (h : formedB NL CL = true) {k : Nat} (hk : k < CL.length) : argOk NL.length CL.length (CL.getD k (0, 0)).1.toNat (CL.getD k (0, 0)).2 ∧ 0 ≤ (CL.getD k (0, 0)).1 := by
  unfold formedB at h
  simp only [Bool.and_eq_true, List.all_eq_true] at h
  have e : CL.getD k (0, 0) = CL[k] := by simp [List.getD, hk]
  have h1 := h.2.2.2 _ (List.getElem_mem hk)
  rw [← e] at h1
  unfold instrB at h1
  simp only [Bool.and_eq_true, Bool.or_eq_true, decide_eq_true_eq] at h1
  exact ⟨⟨by omega, h1.2⟩, h1.1.1⟩
theorem loopF_go {c : Env} {n : Nat} {s s3 : St} (hd : s.done = false) (hl : s.at_ < c.CL.length) (h5 : ¬ s.steps = 500)
    (h3 : s3 = stepF c (c.CL.getD s.at_.toNat (0, 0)).1.toNat (c.CL.getD s.at_.toNat (0, 0)).2 { s with steps := s.steps + 1, at_ := s.at_ + 1 }) :
    loopF c (n + 1) s = if s3.failed = 0 then loopF c n s3 else (s3.failed, s3) := by
  rw [h3, loopF, if_neg (by rw [hd]; decide), if_pos hl, if_neg h5]
theorem loopF_end {c : Env} {n : Nat} {s : St} (h : s.done = true ∨ ¬ s.at_ < c.CL.length) : loopF c (n + 1) s = (0, s) := by
  unfold loopF
  by_cases hd : s.done = true
  · rw [if_pos hd]
  · rw [if_neg hd, if_neg (h.resolve_left hd)]


theorem blk_apart {w : World} {b1 b2 t1 t2 : Nat} {C1 C2 : Array Value} (h1 : Blk w b1 C1 t1) (h2 : Blk w b2 C2 t2) (ht : t1 ≠ t2) : b1 ≠ b2 := fun e => by
  unfold Blk at h1 h2
  rw [e, h2] at h1
  injection h1 with h1
  injection h1 with _ h3 _
  exact ht h3.symm
theorem M.atK {c : Env} {w0 wb w : World} {mb : Nat} {s : St} (h : M c w0 wb mb s w) (k : Int) : M c w0 wb mb { s with at_ := k } (w.setCell ⟨mb, 7, none⟩ (.int .i64 k)) := by
  obtain ⟨sv, ev, sn, tv, hb, hr, hm⟩ := h
  exact ⟨sv, ev, sn, tv, by simpa [cellsOf] using hb.set 7 (.int .i64 k), hr.put hb hm _ _, hm⟩
theorem M.stepsK {c : Env} {w0 wb w : World} {mb : Nat} {s : St} (h : M c w0 wb mb s w) (k : Int) : M c w0 wb mb { s with steps := k } (w.setCell ⟨mb, 20, none⟩ (.int .i64 k)) := by
  obtain ⟨sv, ev, sn, tv, hb, hr, hm⟩ := h
  exact ⟨sv, ev, sn, tv, by simpa [cellsOf] using hb.set 20 (.int .i64 k), hr.put hb hm _ _, hm⟩
theorem two_sets {c : Env} {w0 wb w : World} {mb ib : Nat} {s : St} {C : Array Value} (h : M c w0 wb mb s w) (hi : Blk w ib C 51) (k : Int) :
    M c w0 wb mb { s with at_ := k } (w.setCell ⟨mb, 7, none⟩ (.int .i64 k)) ∧ Blk (w.setCell ⟨mb, 7, none⟩ (.int .i64 k)) ib C 51 := by
  refine ⟨h.atK k, hi.other (a := ⟨mb, 7, none⟩) ?_ _⟩
  obtain ⟨sv, ev, sn, tv, hb, hr, hm⟩ := h
  exact blk_apart hi hb (by decide)

def firstLoop : Code → Option Code
  | .loop c => some c
  | .seq a b => match firstLoop a with
    | some c => some c
    | none => firstLoop b
  | .block _ c => firstLoop c
  | .scope c => firstLoop c
  | .cond _ a b => match firstLoop a with
    | some c => some c
    | none => firstLoop b
  | _ => none
noncomputable def body12 : Code := ((Tryz.f108.body.bind firstLoop).getD .skip)

/-- What go_loopg lays before a round. -/
def LI (c : Env) (reg : Nat → Int) (w wS : World) (mb b4 b8 : Nat) (x0 x1 x2 x3 x5 x6 x7 x12 x13 x14 x15 x16 x17 x18 x19 x20 x21 x22 x23 x24 x25 x26 x27 x28 x29 x30 x31 x32 x33 x34 x99 x100 x101 x102 : Value) (n : Nat) (a : Act) (wr : World) : Prop :=
  ∃ u9 u11 u35 u36 u37 u38 u39 u40 u41 u42 u43 u44 u45 u46 u47 u48 u49 u50 u51 u52 u53 u54 u55 u56 u57 u58 u59 u60 u61 u62 u63 u64 u65 u66 u67 u68 u69 u70 u71 u72 u73 u74 u75 u76 u77 u78 u79 u80 u81 u82 u83 u84 u85 u86 u87 u88 u89 u90 u91 u92 u93 u94 u95 u96 u97 u98 : Value, RL c reg w wS mb n wr ∧ a = ⟨#[x0, x1, x2, x3, .pointer (some ⟨b4, 0, none⟩), x5, x6, x7, .pointer (some ⟨b8, 0, none⟩), u9, .pointer (some ⟨mb, 0, none⟩), u11, x12, x13, x14, x15, x16, x17, x18, x19, x20, x21, x22, x23, x24, x25, x26, x27, x28, x29, x30, x31, x32, x33, x34, u35, u36, u37, u38, u39, u40, u41, u42, u43, u44, u45, u46, u47, u48, u49, u50, u51, u52, u53, u54, u55, u56, u57, u58, u59, u60, u61, u62, u63, u64, u65, u66, u67, u68, u69, u70, u71, u72, u73, u74, u75, u76, u77, u78, u79, u80, u81, u82, u83, u84, u85, u86, u87, u88, u89, u90, u91, u92, u93, u94, u95, u96, u97, u98, x99, x100, x101, x102], []⟩
end Go.Proofs.YtlcdjgpblpodaaaGreatDoor.Ip
namespace Go.Proofs.YtlcdjgpblpodaaaGreatDoor.Ip
open Go.RowKit Go.Proofs.YtlcdjgpblpodaaaGreatDoorW.PrintWords

set_option maxRecDepth 100000 in
set_option maxHeartbeats 4000000 in
theorem arm_go (c : Env) (reg : Nat → Int) (w wS : World) (mb b4 b5 b6 b8 : Nat) (n : Nat) (wr : World) (s : St) (x0 x1 x2 x3 x5 x6 x7 x12 x13 x14 x15 x16 x17 x18 x19 x20 x21 x22 x23 x24 x25 x26 x27 x28 x29 x30 x31 x32 x33 x34 x99 x100 x101 x102 u9 u11 u35 u36 u37 u38 u39 u40 u41 u42 u43 u44 u45 u46 u47 u48 u49 u50 u51 u52 u53 u54 u55 u56 u57 u58 u59 u60 u61 u62 u63 u64 u65 u66 u67 u68 u69 u70 u71 u72 u73 u74 u75 u76 u77 u78 u79 u80 u81 u82 u83 u84 u85 u86 u87 u88 u89 u90 u91 u92 u93 u94 u95 u96 u97 u98 : Value) (J : Nat → Act → World → Prop) (K : Act → World → Prop) (Q : Exit → Act → World → Prop)
    (hJ : ∀ k a' w', LI c reg w wS mb b4 b8 x0 x1 x2 x3 x5 x6 x7 x12 x13 x14 x15 x16 x17 x18 x19 x20 x21 x22 x23 x24 x25 x26 x27 x28 x29 x30 x31 x32 x33 x34 x99 x100 x101 x102 k a' w' → J k a' w') (hK : ∀ a' w', Handed J (n + 1) a' w' → K a' w') (hQ : ∀ a w', bodyPost Tryz.prog Tryz.f108 (RunPost c reg w) .ret a w' → Q .ret a w')
    (HE : Hid (EnvOk c w)) (HC : Hid (IsCode w c.kA c.CL)) (hcl : c.CL.length ≤ 1000) (hF : formedB c.NL c.CL = true) (HB4 : Hid (Boxed c reg w wS b4 b5 b6 b8))
    (HM : Hid (M c w wS mb s wr)) (hst : s.stack.length ≤ 16) (he : (s.ev.length : Int) ≤ s.steps) (hsn : (s.sent.length : Int) ≤ s.steps) (htm : (s.tm.length : Int) ≤ s.steps) (hat : 0 ≤ s.at_) (hs0 : 0 ≤ s.steps) (hs5 : s.steps ≤ 500) (hf : s.failed = 0)
    (hgk : ((n + 1 : Nat) : Int) = 501 - s.steps) (HRU2 : Hid (runF c reg = loopF c (n + 1) s)) (hd : s.done = false) (hlt : s.at_ < c.CL.length) (h5 : ¬ s.steps = 500) :
    Code.wp Tryz.prog body12 (Exit.then K Q) ⟨#[x0, x1, x2, x3, .pointer (some ⟨b4, 0, none⟩), x5, x6, x7, .pointer (some ⟨b8, 0, none⟩), u9, .pointer (some ⟨mb, 0, none⟩), u11, x12, x13, x14, x15, x16, x17, x18, x19, x20, x21, x22, x23, x24, x25, x26, x27, x28, x29, x30, x31, x32, x33, x34, u35, u36, u37, u38, u39, u40, u41, u42, u43, u44, u45, u46, u47, u48, u49, u50, u51, u52, u53, u54, u55, u56, u57, u58, u59, u60, u61, u62, u63, u64, u65, u66, u67, u68, u69, u70, u71, u72, u73, u74, u75, u76, u77, u78, u79, u80, u81, u82, u83, u84, u85, u86, u87, u88, u89, u90, u91, u92, u93, u94, u95, u96, u97, u98, x99, x100, x101, x102], []⟩ wr := by
  have H4 := Lib.hid (HM.out.stay.blk HB4.out.p (by decide))
  obtain ⟨sv, ev, sn, tv, hb, hr, hm⟩ := HM.out
  have HMB := Lib.hid hb
  have HRW := Lib.hid hr
  have um' : ∀ i, wr.cell? ⟨mb, i, none⟩ = _ := fun i => hb.cell i
  unfold cellsOf at um'
  rw [hd] at um'
  have fm' : ∀ i, wr.frozen? ⟨mb, i, none⟩ = false := fun i => hb.free i
  have up : ∀ i, wr.cell? ⟨b4, i, none⟩ = _ := fun i => H4.out.cell i
  have d1 : decide (s.at_ < (c.CL.length : Int)) = true := decide_eq_true hlt
  clear hb hr
  conv => arg 2; whnf
  have t5 : (s.steps == 500) = false := by simpa using h5
  have ks : wrap64 (s.steps + 1) = s.steps + 1 := by unfold wrap64; omega
  obtain ⟨k, hk⟩ : ∃ k : Nat, s.at_ = (k : Int) := ⟨s.at_.toNat, by omega⟩
  have hkl : k < c.CL.length := by omega
  have HS1 := Lib.hid (show ∀ j, M c w wS mb { s with steps := s.steps + 1 } ((wr.drewN j).setCell ⟨mb, 20, none⟩ (.int .i64 (s.steps + 1))) from fun j => (HM.out.drewN j).stepsK (s.steps + 1))
  go_upto_region 8 with (go_quiet (fail))
  go_cut [] from 35 to 98 (fun wy => M c w wS mb { s with steps := s.steps + 1 } wy)
  case first =>
    go_wp2
    go_meet
    exact HS1.out _
  have HC1 := Lib.hid hcut
  clear hcut HS1 um' fm' up H4 HMB HRW HM ks t5
  obtain ⟨wA, hwA⟩ : ∃ x, x = wc := ⟨_, rfl⟩
  subst hwA
  have H4 := Lib.hid (HC1.out.stay.blk HB4.out.p (by decide))
  obtain ⟨sv1, ev1, sn1, tv1, hb1, hr1, hm1⟩ := HC1.out
  have um1 : ∀ i, wA.cell? ⟨mb, i, none⟩ = _ := fun i => hb1.cell i
  unfold cellsOf at um1
  have up1 : ∀ i, wA.cell? ⟨b4, i, none⟩ = _ := fun i => H4.out.cell i
  obtain ⟨b, off, hkA, q⟩ := (HC.out.below HC1.out.below) (by omega)
  obtain ⟨p0, p1⟩ := q k hkl
  obtain ⟨op, hop⟩ : ∃ op, op = (c.CL.getD k (0, 0)).1 := ⟨_, rfl⟩
  obtain ⟨arg, harg⟩ : ∃ arg, arg = (c.CL.getD k (0, 0)).2 := ⟨_, rfl⟩
  rw [← hop] at p0
  rw [← harg] at p1
  have HOP := Lib.hid hop
  have HARG := Lib.hid harg
  have HB1 := Lib.hid hb1
  have HR1 := Lib.hid hr1
  dsimp only at um1
  rw [hk] at um1
  rw [hkA] at up1
  have k0 : (0 : Int) ≤ (k : Int) := by omega
  have k1 : (k : Int) < (c.CL.length : Int) := by omega
  have lm := hb1.lt
  have l4 := H4.out.lt
  have lb := World.block_lt_of_cell? wA _ p0
  simp at lb
  clear q hb1 hr1 hop harg
  go_upto_region 9 with fail
  go_cut [11] from 35 to 98 (fun v wy => ∃ ib, v = .pointer (some ⟨ib, 0, none⟩) ∧ M c w wS mb { s with steps := s.steps + 1 } wy ∧ Blk wy ib #[.int .i64 op, .int .i64 arg] 51)
  case first =>
    go_region
    all_goals
      go_wp2
      go_meet
      exact ⟨_, rfl, (HC1.out.alloc _).drew, (Blk.new _ _ _).drew⟩
  obtain ⟨ib, rfl, hM2, hib⟩ := hcut
  have HM2 := Lib.hid hM2
  have HI2 := Lib.hid hib
  clear hM2 hib um1 up1 p0 p1 lm l4 lb HB1 HR1 HC1 H4
  obtain ⟨wB, hwB⟩ : ∃ x, x = wc := ⟨_, rfl⟩
  subst hwB
  obtain ⟨sv2, ev2, sn2, tv2, hb2, hr2, hm2⟩ := HM2.out
  have um2 : ∀ i, wB.cell? ⟨mb, i, none⟩ = _ := fun i => hb2.cell i
  unfold cellsOf at um2
  dsimp only at um2
  have fm2 : ∀ i, wB.frozen? ⟨mb, i, none⟩ = false := fun i => hb2.free i
  have ka : wrap64 (s.at_ + 1) = s.at_ + 1 := by unfold wrap64; omega
  obtain ⟨s2, hs2⟩ : ∃ s2, s2 = { s with steps := s.steps + 1, at_ := s.at_ + 1 } := ⟨_, rfl⟩
  have HS2 := Lib.hid (show M c w wS mb s2 (wB.setCell ⟨mb, 7, none⟩ (.int .i64 (s.at_ + 1))) ∧ Blk (wB.setCell ⟨mb, 7, none⟩ (.int .i64 (s.at_ + 1))) ib #[.int .i64 op, .int .i64 arg] 51 from by rw [hs2]; exact two_sets HM2.out HI2.out _)
  have HS2D := Lib.hid hs2
  clear hs2 hb2 hr2
  have HK := Lib.hid hk
  clear hk
  go_upto_region 10 with fail
  go_cut [] from 35 to 98 (fun wy => M c w wS mb s2 wy ∧ Blk wy ib #[.int .i64 op, .int .i64 arg] 51)
  case first =>
    go_wp2
    go_meet
    exact HS2.out
  obtain ⟨hM3, hi3⟩ := hcut
  have HM3 := Lib.hid hM3
  have r0 : ∀ i, wc.cell? ⟨ib, i, none⟩ = _ := fun i => hi3.cell i
  clear hM3 hi3 HS2 um2 fm2 HM2 HI2 ka
  obtain ⟨hok, hop0⟩ := argOk_of hF hkl
  rw [← HOP.out] at hok hop0
  rw [← HARG.out] at hok
  have hopn : op = (op.toNat : Int) := by omega
  have hsm : Small s2 := by
    rw [HS2D.out]
    exact ⟨hst, by show s.ev.length ≤ 1000; omega, by show s.sent.length ≤ 1000; omega, by show s.tm.length ≤ 1000; omega⟩
  have HST := Lib.hid (step_any c w wc wc mb s2 op.toNat arg HM3.out.here hsm (HE.out) hok)
  have hnear := stepF_near c op.toNat arg s2 hsm.stack hok
  obtain ⟨s3, hs3⟩ : ∃ s3, s3 = stepF c op.toNat arg s2 := ⟨_, rfl⟩
  rw [← hs3] at HST hnear
  rw [← hopn] at HST
  have HGO := Lib.hid (HRU2.out.trans (loopF_go (n := n) hd hlt h5 (show s3 = _ by rw [hs3, HS2D.out, HK.out, Int.toNat_natCast, ← HOP.out, ← HARG.out])))
  have HNR := Lib.hid hnear
  clear hs3 hnear hok hop0 hopn
  go_wp2_with fail
  refine HST.out.mono ?_
  rintro e w5 ⟨rfl, hM5⟩
  have HM5 := Lib.hid (hM5.rebase HM3.out.stay)
  clear hM5 r0
  have H8 := Lib.hid (HM5.out.stay.blk HB4.out.r (by decide))
  obtain ⟨sv5, ev5, sn5, tv5, hb5, hr5, hm5⟩ := HM5.out
  have um5 : ∀ i, w5.cell? ⟨mb, i, none⟩ = _ := fun i => hb5.cell i
  unfold cellsOf at um5
  have u8 : ∀ i, w5.cell? ⟨b8, i, none⟩ = _ := fun i => H8.out.cell i
  have f8 : ∀ i, w5.frozen? ⟨b8, i, none⟩ = false := fun i => H8.out.free i
  have HR5 := Lib.hid hr5
  clear hb5 hr5
  by_cases hf3 : s3.failed = 0
  · rw [hf3] at um5
    go_wp2_with fail
    have n1 := HNR.out.ev
    have n2 := HNR.out.sent
    have n3 := HNR.out.tm
    have n4 := HNR.out.steps
    have n5 := HNR.out.at_
    rw [HS2D.out] at n1 n2 n3 n4 n5
    dsimp only at n1 n2 n3 n4 n5
    go_roundg n
    case measure => omega
    case rel => exact ⟨s3, HM5.out, HNR.out.stack, ⟨by omega, by omega, by omega⟩, by omega, ⟨by omega, by omega⟩, hf3, by omega, by rw [HGO.out, if_pos hf3]⟩
  · have t3 : (s3.failed != 0) = true := by simpa using hf3
    have t4 : (s3.failed == 0) = false := by simpa using hf3
    have HRN := Lib.hid (show runF c reg = (s3.failed, s3) by rw [HGO.out, if_neg hf3])
    go_wp2_with fail
    go_region
    go_wp2
    refine bodyPost_ret (results_ct rfl _ _ b8 239 _ (0, 0) _ rfl ((H8.out.twelve rfl _ _ _ _ _ _ _ _ _ _ _ _).drewN 1) Tryz.underlying239 rfl (by kernel_rfl)) rfl ?_
    exact ⟨below_drewN (below12 HR5.out.below HB4.out.lo _ _ _ _ _ _ _ _ _ _ _ _) 1, .inr ⟨by rw [HRN.out]; exact hf3, by rw [HRN.out]; rfl⟩⟩

end Go.Proofs.YtlcdjgpblpodaaaGreatDoor.Ip
namespace Go.Proofs.YtlcdjgpblpodaaaGreatDoor.Ip
open Go.RowKit Go.Proofs.YtlcdjgpblpodaaaGreatDoorW.PrintWords

set_option maxRecDepth 100000 in
set_option maxHeartbeats 4000000 in
theorem arm_budget (c : Env) (reg : Nat → Int) (w wS : World) (mb b4 b5 b6 b8 : Nat) (n : Nat) (wr : World) (s : St) (x0 x1 x2 x3 x5 x6 x7 x12 x13 x14 x15 x16 x17 x18 x19 x20 x21 x22 x23 x24 x25 x26 x27 x28 x29 x30 x31 x32 x33 x34 x99 x100 x101 x102 u9 u11 u35 u36 u37 u38 u39 u40 u41 u42 u43 u44 u45 u46 u47 u48 u49 u50 u51 u52 u53 u54 u55 u56 u57 u58 u59 u60 u61 u62 u63 u64 u65 u66 u67 u68 u69 u70 u71 u72 u73 u74 u75 u76 u77 u78 u79 u80 u81 u82 u83 u84 u85 u86 u87 u88 u89 u90 u91 u92 u93 u94 u95 u96 u97 u98 : Value) (K : Act → World → Prop) (Q : Exit → Act → World → Prop)
    (hQ : ∀ a w', bodyPost Tryz.prog Tryz.f108 (RunPost c reg w) .ret a w' → Q .ret a w') (HB4 : Hid (Boxed c reg w wS b4 b5 b6 b8))
    (HM : Hid (M c w wS mb s wr)) (HRU2 : Hid (runF c reg = loopF c (n + 1) s))
    (hd : s.done = false) (hlt : s.at_ < c.CL.length) (h5 : s.steps = 500) :
    Code.wp Tryz.prog body12 (Exit.then K Q) ⟨#[x0, x1, x2, x3, .pointer (some ⟨b4, 0, none⟩), x5, x6, x7, .pointer (some ⟨b8, 0, none⟩), u9, .pointer (some ⟨mb, 0, none⟩), u11, x12, x13, x14, x15, x16, x17, x18, x19, x20, x21, x22, x23, x24, x25, x26, x27, x28, x29, x30, x31, x32, x33, x34, u35, u36, u37, u38, u39, u40, u41, u42, u43, u44, u45, u46, u47, u48, u49, u50, u51, u52, u53, u54, u55, u56, u57, u58, u59, u60, u61, u62, u63, u64, u65, u66, u67, u68, u69, u70, u71, u72, u73, u74, u75, u76, u77, u78, u79, u80, u81, u82, u83, u84, u85, u86, u87, u88, u89, u90, u91, u92, u93, u94, u95, u96, u97, u98, x99, x100, x101, x102], []⟩ wr := by
  have H4 := Lib.hid (HM.out.stay.blk HB4.out.p (by decide))
  have H8 := Lib.hid (HM.out.stay.blk HB4.out.r (by decide))
  obtain ⟨sv, ev, sn, tv, hb, hr, hm⟩ := HM.out
  obtain ⟨eA, ec, rfl⟩ := own_slice hr.ev
  obtain ⟨nA, nc, rfl⟩ := own_slice hr.sn
  obtain ⟨tA, tc, rfl⟩ := own_slice hr.tm
  have HRW := Lib.hid hr
  have um' : ∀ i, wr.cell? ⟨mb, i, none⟩ = _ := fun i => hb.cell i
  unfold cellsOf at um'
  rw [hd] at um'
  have up : ∀ i, wr.cell? ⟨b4, i, none⟩ = _ := fun i => H4.out.cell i
  have u8 : ∀ i, wr.cell? ⟨b8, i, none⟩ = _ := fun i => H8.out.cell i
  have f8 : ∀ i, wr.frozen? ⟨b8, i, none⟩ = false := fun i => H8.out.free i
  clear hb hr HM
  conv => arg 2; whnf
  have d1 : decide (s.at_ < (c.CL.length : Int)) = true := decide_eq_true hlt
  have HRN := Lib.hid (HRU2.out.trans (show loopF c (n + 1) s = (11, s) by simp [loopF, hd, hlt, h5]))
  rw [h5] at um'
  go_wp2_with fail
  go_quiet (fail)
  go_wp2
  refine bodyPost_ret (results_ct rfl _ _ b8 239 _ (0, 0) _ rfl ((H8.out.drewN _).twelve rfl _ _ _ _ _ _ _ _ _ _ _ _) Tryz.underlying239 rfl (by kernel_rfl)) rfl ?_
  refine ⟨below12 (below_drewN HRW.out.below _) HB4.out.lo _ _ _ _ _ _ _ _ _ _ _ _, .inr ⟨by rw [HRN.out]; show (11 : Int) ≠ 0; decide, by rw [HRN.out]; show _ = Ending.returned (.tuple #[.agg (resC (fun _ => 0) (.slice none 0 0) (.slice none 0 0) (.slice none 0 0) s.steps), .int .i64 11]); rw [h5]; rfl⟩⟩
end Go.Proofs.YtlcdjgpblpodaaaGreatDoor.Ip

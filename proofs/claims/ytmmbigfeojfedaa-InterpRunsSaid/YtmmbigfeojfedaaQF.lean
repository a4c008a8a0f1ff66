/- The reference's Run. -/
import Derived.Test.YtmmbigfeojfedaaQD
import Derived.Test.YtmmbigfeojfedaaQE
import Derived.Test.YtmmbigfeojfedaaEv0
import Derived.Test.YtmmbigfeojfedaaRunA
namespace Go.Proofs.Ytmmbigfeojfedaa.R
open Go.RowKit Go.Proofs.YtmmbigfeojfedaaW.PrintWords

/-- What Run returns. -/
def RunPost (c : Env) (reg : Nat → Int) (w : World) (e : Ending) (w' : World) : Prop :=
  Below w.heap.size w w' ∧ (((runF c reg).1 = 0 ∧ ∃ ev sn tv, e = .returned (.tuple #[.agg (resC (runF c reg).2.reg ev sn tv (runF c reg).2.steps), .int .i64 0]) ∧
      w'.ownsRow w.heap.size 86 2 ev (runF c reg).2.ev.length (encE (runF c reg).2.ev) ∧ w'.ownsRow w.heap.size 83 3 sn (runF c reg).2.sent.length (encS (runF c reg).2.sent) ∧ w'.ownsRow w.heap.size 105 5 tv (runF c reg).2.tm.length (encT (runF c reg).2.tm)) ∨
    ((runF c reg).1 ≠ 0 ∧ e = .returned (.tuple #[.agg (resC (fun _ => 0) (.slice none 0 0) (.slice none 0 0) (.slice none 0 0) (runF c reg).2.steps), .int .i64 (runF c reg).1])))
/-- What holds behind the boxes. -/
structure Boxed (c : Env) (reg : Nat → Int) (w wx : World) (b4 b5 b6 b8 : Nat) : Prop where
  below : Below w.heap.size w wx
  p : Blk wx b4 #[.slice c.nA c.NL.length c.nC, .slice c.kA c.CL.length c.kC] 25
  s : Blk wx b5 (regC reg) 26
  l : Blk wx b6 #[.string c.frm, .int .u64 c.serial, .int .i64 c.kind, .slice c.aA c.AL.length c.aC] 30
  r : Blk wx b8 (resC (fun _ => 0) (.slice none 0 0) (.slice none 0 0) (.slice none 0 0) 0) 49
  lo : w.heap.size ≤ b8
theorem Boxed.then_ {c : Env} {reg : Nat → Int} {w wx wy : World} {b4 b5 b6 b8 : Nat} (h : Boxed c reg w wx b4 b5 b6 b8) (k : Below wx.heap.size wx wy) : Boxed c reg w wy b4 b5 b6 b8 :=
  ⟨h.below.trans (k.mono h.below.size), h.p.below k, h.s.below k, h.l.below k, h.r.below k, h.lo⟩
/-- What holds at the loop's head. -/
def RL (c : Env) (reg : Nat → Int) (w wx : World) (mb n : Nat) (wr : World) : Prop :=
  ∃ s : St, M c w wx mb s wr ∧ EvI c reg s ∧ s.stack.length ≤ 16 ∧ ((s.ev.length : Int) ≤ s.steps ∧ (s.sent.length : Int) ≤ s.steps ∧ (s.tm.length : Int) ≤ s.steps) ∧ 0 ≤ s.at_ ∧ (0 ≤ s.steps ∧ s.steps ≤ 500) ∧ s.failed = 0 ∧ s.done = false ∧ (n : Int) = 501 - s.steps ∧ runF c reg = loopF c n s

/-- The registers, as they come, into the machine. -/
theorem M.state {c : Env} {w0 wx : World} {mb : Nat} (hmb : Blk wx mb (cellsOf c (st0 fun _ => 0) (.slice none 0 0) (.slice none 0 0) (.slice none 0 0) (.slice none 0 0)) 79) (hb : Below w0.heap.size w0 wx) (hm : w0.heap.size ≤ mb) (reg : Nat → Int) :
    M c w0 wx mb (st0 reg) ((((((((wx.setCell ⟨mb, 9, none⟩ (.int .i64 (reg 0))).setCell ⟨mb, 10, none⟩ (.int .i64 (reg 1))).setCell ⟨mb, 11, none⟩ (.int .i64 (reg 2))).setCell ⟨mb, 12, none⟩ (.int .i64 (reg 3))).setCell ⟨mb, 13, none⟩ (.int .i64 (reg 4))).setCell ⟨mb, 14, none⟩ (.int .i64 (reg 5))).setCell ⟨mb, 15, none⟩ (.int .i64 (reg 6))).setCell ⟨mb, 16, none⟩ (.int .i64 (reg 7))) := by
  have r0 : Rws w0 wx wx [] [] [] [] (.slice none 0 0) (.slice none 0 0) (.slice none 0 0) (.slice none 0 0) := ⟨own_nil _ _ _ _, own_nil _ _ _ _, own_nil _ _ _ _, own_nil _ _ _ _, hb, Stay.refl _⟩
  have b1 := hmb.set 9 (.int .i64 (reg 0))
  rw [show 9 = 9 + 0 from rfl, cells_set (reg 0) (by decide : 0 < 8)] at b1
  have r1 := r0.put hmb hm 9 (.int .i64 (reg 0))
  have b2 := b1.set 10 (.int .i64 (reg 1))
  rw [show 10 = 9 + 1 from rfl, cells_set (reg 1) (by decide : 1 < 8)] at b2
  have r2 := r1.put b1 hm 10 (.int .i64 (reg 1))
  have b3 := b2.set 11 (.int .i64 (reg 2))
  rw [show 11 = 9 + 2 from rfl, cells_set (reg 2) (by decide : 2 < 8)] at b3
  have r3 := r2.put b2 hm 11 (.int .i64 (reg 2))
  have b4 := b3.set 12 (.int .i64 (reg 3))
  rw [show 12 = 9 + 3 from rfl, cells_set (reg 3) (by decide : 3 < 8)] at b4
  have r4 := r3.put b3 hm 12 (.int .i64 (reg 3))
  have b5 := b4.set 13 (.int .i64 (reg 4))
  rw [show 13 = 9 + 4 from rfl, cells_set (reg 4) (by decide : 4 < 8)] at b5
  have r5 := r4.put b4 hm 13 (.int .i64 (reg 4))
  have b6 := b5.set 14 (.int .i64 (reg 5))
  rw [show 14 = 9 + 5 from rfl, cells_set (reg 5) (by decide : 5 < 8)] at b6
  have r6 := r5.put b5 hm 14 (.int .i64 (reg 5))
  have b7 := b6.set 15 (.int .i64 (reg 6))
  rw [show 15 = 9 + 6 from rfl, cells_set (reg 6) (by decide : 6 < 8)] at b7
  have r7 := r6.put b6 hm 15 (.int .i64 (reg 6))
  have b8 := b7.set 16 (.int .i64 (reg 7))
  rw [show 16 = 9 + 7 from rfl, cells_set (reg 7) (by decide : 7 < 8)] at b8
  have r8 := r7.put b7 hm 16 (.int .i64 (reg 7))
  exact ⟨_, _, _, _, b8, r8, hm⟩

theorem M.stepsK {c : Env} {w0 wb w : World} {mb : Nat} {s : St} (h : M c w0 wb mb s w) (k : Int) : M c w0 wb mb { s with steps := k } (w.setCell ⟨mb, 20, none⟩ (.int .i64 k)) := by
  obtain ⟨sv, ev, sn, tv, hb, hr, hm⟩ := h
  exact ⟨sv, ev, sn, tv, by simpa [cellsOf] using hb.set 20 (.int .i64 k), hr.put hb hm _ _, hm⟩
theorem sendG_steps (d : ByteArray) (k x : Int) (s : St) : (sendG d k x s).2.2.steps = s.steps := by
  unfold sendG
  repeat' split
  all_goals rfl
theorem remG_steps (n : ByteArray) (a b d p : Int) (s : St) : (remG n a b d p s).2.2.steps = s.steps := by
  unfold remG
  repeat' split
  all_goals rfl
theorem gF_steps (c : Env) (op : Nat) (a x y : Int) (s : St) : (gF c op a x y s).2.2.steps = s.steps := by
  unfold gF
  split
  · rfl
  · rfl
  · rfl
  · rfl
  · rfl
  · rfl
  · show (if x = 0 then _ else _ : St).steps = _
    split <;> rfl
  · exact sendG_steps _ _ _ _
  · exact sendG_steps _ _ _ _
  · exact remG_steps _ _ _ _ _ _
  · rfl
  · rfl
  · rfl
theorem oneG_steps (c : Env) (op : Nat) (a : Int) (s : St) : (oneG c op a s).2.2.steps = s.steps := by
  unfold oneG
  split
  · rfl
  · exact (gF_steps _ _ _ _ _ _).trans rfl
theorem M.doneK {c : Env} {w0 wb w : World} {mb : Nat} {s : St} (h : M c w0 wb mb s w) (b : Bool) : M c w0 wb mb { s with done := b } w := h

set_option maxRecDepth 100000 in
set_option maxHeartbeats 4000000 in
theorem run_any (c : Env) (reg : Nat → Int) (w : World) (hE : EnvOk c w) (hC : IsCode w c.kA c.CL) (hcl : c.CL.length ≤ 1000) (hev : EvC c) (hreg : ∀ j, InR (reg j)) :
    Calls Try.prog 14 #[argP c, .agg (regC reg), argL c, .int .i64 c.now] w (RunPost c reg w) := by
  have HE := Lib.hid hE
  have HC := Lib.hid hC
  have HEV := Lib.hid hev
  have HI0 := Lib.hid (show EvI c reg (st0 reg) from ⟨fun x hx => by simp [st0] at hx, hreg, rfl, fun e he => by simp [st0] at he, by simp [st0], fun t ht => by simp [st0] at ht, .inl rfl⟩)
  clear hE hC hev hreg
  go_enter Try.func14, Try.ntmps14
  go_upto_region 0 with fail
  go_cut [4, 5, 6, 8] (fun v4 v5 v6 v8 wx => ∃ b4 b5 b6 b8, v4 = .pointer (some ⟨b4, 0, none⟩) ∧ v5 = .pointer (some ⟨b5, 0, none⟩) ∧ v6 = .pointer (some ⟨b6, 0, none⟩) ∧ v8 = .pointer (some ⟨b8, 0, none⟩) ∧ Boxed c reg w wx b4 b5 b6 b8)
  case first =>
    go_wp2
    go_meet
    refine ⟨_, _, _, _, rfl, rfl, rfl, rfl, ?_⟩
    have h1 : Below w.heap.size w (w.alloc (.cells #[.slice c.nA c.NL.length c.nC, .slice c.kA c.CL.length c.kC] 25)) := (Below.refl _ _).alloc (Nat.le_refl _) _
    have h2 := h1.alloc h1.size (.cells (regC reg) 26)
    have h3 := h2.alloc h2.size (.cells #[.string c.frm, .int .u64 c.serial, .int .i64 c.kind, .slice c.aA c.AL.length c.aC] 30)
    have h4 := h3.alloc h3.size (.cells (resC (fun _ => 0) (.slice none 0 0) (.slice none 0 0) (.slice none 0 0) 0) 49)
    exact ⟨h4, (((Blk.newAt (by simp)).alloc _).alloc _).alloc _, ((Blk.newAt (by simp)).alloc _).alloc _, (Blk.newAt (by simp)).alloc _, Blk.newAt (by simp), by omega⟩
  obtain ⟨b4, b5, b6, b8, rfl, rfl, rfl, rfl, hbx⟩ := hcut
  have HBX := Lib.hid hbx
  have u4 : ∀ i, wc.cell? ⟨b4, i, none⟩ = _ := fun i => hbx.p.cell i
  have u6 : ∀ i, wc.cell? ⟨b6, i, none⟩ = _ := fun i => hbx.l.cell i
  have HF := Lib.hid (formed_any c.nA c.kA c.nC c.kC c.NL c.CL wc (HE.out.below hbx.below).1 (HC.out.below hbx.below) hcl)
  clear hbx
  cases hF : formedB c.NL c.CL with
  | false =>
    have HRU := Lib.hid (show runF c reg = (1, st0 reg) by simp [runF, okIn, hF])
    rw [hF] at HF
    go_wp2_with fail
    refine HF.out.mono ?_
    rintro e w2 ⟨rfl, hb2⟩
    have HB2 := Lib.hid (HBX.out.then_ hb2)
    have u8 : ∀ i, w2.cell? ⟨b8, i, none⟩ = _ := fun i => HB2.out.r.cell i
    have f8 : ∀ i, w2.frozen? ⟨b8, i, none⟩ = false := fun i => HB2.out.r.free i
    clear hb2 u4 u6
    go_wp2
    refine bodyPost_ret (results_ct rfl _ _ b8 49 _ (0, 0) _ rfl (HB2.out.r.twelve rfl _ _ _ _ _ _ _ _ _ _ _ _) Try.underlying49 rfl (by kernel_rfl)) rfl ?_
    refine ⟨below12 HB2.out.below HB2.out.lo _ _ _ _ _ _ _ _ _ _ _ _, .inr ⟨by rw [HRU.out]; show (1 : Int) ≠ 0; decide, by rw [HRU.out]; rfl⟩⟩
  | true =>
    rw [hF] at HF
    go_wp2_with fail
    refine HF.out.mono ?_
    rintro e w2 ⟨rfl, hb2⟩
    have HB2 := Lib.hid (HBX.out.then_ hb2)
    have v6 : ∀ i, w2.cell? ⟨b6, i, none⟩ = _ := fun i => HB2.out.l.cell i
    clear hb2 u4 u6
    cases hL : letterB c.frm c.AL.length with
    | false =>
      have HRU := Lib.hid (show runF c reg = (1, st0 reg) by simp [runF, okIn, hL])
      go_wp2_with fail
      refine (letter_any _ _ _ _ _ _ _).mono ?_
      rw [hL]
      rintro e w3 ⟨rfl, hw3⟩
      have HB3 := Lib.hid (HB2.out.then_ (hw3 ▸ (Below.refl _ _).alloc (Nat.le_refl _) _))
      have u8 : ∀ i, w3.cell? ⟨b8, i, none⟩ = _ := fun i => HB3.out.r.cell i
      have f8 : ∀ i, w3.frozen? ⟨b8, i, none⟩ = false := fun i => HB3.out.r.free i
      clear hw3 v6
      go_wp2
      refine bodyPost_ret (results_ct rfl _ _ b8 49 _ (0, 0) _ rfl (HB3.out.r.twelve rfl _ _ _ _ _ _ _ _ _ _ _ _) Try.underlying49 rfl (by kernel_rfl)) rfl ?_
      refine ⟨below12 HB3.out.below HB3.out.lo _ _ _ _ _ _ _ _ _ _ _ _, .inr ⟨by rw [HRU.out]; show (1 : Int) ≠ 0; decide, by rw [HRU.out]; rfl⟩⟩
    | true =>
      go_wp2_with fail
      refine (letter_any _ _ _ _ _ _ _).mono ?_
      rw [hL]
      rintro e w3 ⟨rfl, hw3⟩
      have HB3 := Lib.hid (HB2.out.then_ (hw3 ▸ (Below.refl _ _).alloc (Nat.le_refl _) _))
      clear hw3 v6
      by_cases hn : c.now < 0
      · have HRU := Lib.hid (show runF c reg = (1, st0 reg) by simp [runF, okIn, show ¬ 0 ≤ c.now by omega])
        have d0 : decide (c.now < 0) = true := decide_eq_true hn
        have u8 : ∀ i, w3.cell? ⟨b8, i, none⟩ = _ := fun i => HB3.out.r.cell i
        have f8 : ∀ i, w3.frozen? ⟨b8, i, none⟩ = false := fun i => HB3.out.r.free i
        go_wp2
        refine bodyPost_ret (results_ct rfl _ _ b8 49 _ (0, 0) _ rfl (HB3.out.r.twelve rfl _ _ _ _ _ _ _ _ _ _ _ _) Try.underlying49 rfl (by kernel_rfl)) rfl ?_
        refine ⟨below12 HB3.out.below HB3.out.lo _ _ _ _ _ _ _ _ _ _ _ _, .inr ⟨by rw [HRU.out]; show (1 : Int) ≠ 0; decide, by rw [HRU.out]; rfl⟩⟩
      · have d0 : decide (c.now < 0) = false := decide_eq_false hn
        have HRU := Lib.hid (show runF c reg = loopF c 501 (st0 reg) by simp [runF, okIn, hF, hL, show 0 ≤ c.now by omega])
        have hn0 : 0 ≤ c.now := by omega
        have u4 : ∀ i, w3.cell? ⟨b4, i, none⟩ = _ := fun i => HB3.out.p.cell i
        have u5 : ∀ i, w3.cell? ⟨b5, i, none⟩ = _ := fun i => HB3.out.s.cell i
        have u6 : ∀ i, w3.cell? ⟨b6, i, none⟩ = _ := fun i => HB3.out.l.cell i
        have l4 := HB3.out.p.lt
        have l5 := HB3.out.s.lt
        have l6 := HB3.out.l.lt
        go_upto_region 3 with fail
        go_cut [10] (fun v wx => ∃ mb, v = .pointer (some ⟨mb, 0, none⟩) ∧ Boxed c reg w wx b4 b5 b6 b8 ∧ w.heap.size ≤ mb ∧ Blk wx mb (cellsOf c (st0 fun _ => 0) (.slice none 0 0) (.slice none 0 0) (.slice none 0 0) (.slice none 0 0)) 79)
        case first =>
          go_wp2
          go_meet
          exact ⟨_, rfl, HB3.out.then_ ((Below.refl _ _).alloc (Nat.le_refl _) _), HB3.out.below.size, Blk.new _ _ _⟩
        obtain ⟨mb, rfl, hbx, hml, hmb⟩ := hcut
        obtain ⟨wS, hwS⟩ : ∃ x, x = wc := ⟨_, rfl⟩
        subst hwS
        have HB4 := Lib.hid hbx
        have um : ∀ i, wS.cell? ⟨mb, i, none⟩ = _ := fun i => hmb.cell i
        have fm : ∀ i, wS.frozen? ⟨mb, i, none⟩ = false := fun i => hmb.free i
        have t5 : ∀ i, wS.cell? ⟨b5, i, none⟩ = _ := fun i => hbx.s.cell i
        have hRL := M.state hmb hbx.below hml reg
        have HRL := Lib.hid hRL
        unfold cellsOf st0 at um
        clear hbx hmb hRL u4 u5 u6 l4 l5 l6
        go_wp2_with fail
        go_loopg [] 501 (fun n wr => RL c reg w wS mb n wr)
        case atStart => exact ⟨st0 reg, HRL.out, HI0.out, by simp [st0], ⟨by simp [st0], by simp [st0], by simp [st0]⟩, by simp [st0], ⟨by simp [st0], by simp [st0]⟩, rfl, rfl, by simp [st0], HRU.out⟩
        case round =>
          obtain ⟨s, hM, hI, hst, ⟨he, hsn, htm⟩, hat, ⟨hs0, hs5⟩, hf, hd, hgk, hrun⟩ := hrel
          obtain ⟨n, rfl⟩ : ∃ n, gk = n + 1 := ⟨gk - 1, by omega⟩
          have HM := Lib.hid hM
          have HI := Lib.hid hI
          have H4 := Lib.hid (hM.stay.blk HB4.out.p (by decide))
          have H8 := Lib.hid (hM.stay.blk HB4.out.r (by decide))
          obtain ⟨sv, ev, sn, tv, hb, hr, hm⟩ := hM
          obtain ⟨eA, ec, rfl⟩ := own_slice hr.ev
          obtain ⟨nA, nc, rfl⟩ := own_slice hr.sn
          obtain ⟨tA, tc, rfl⟩ := own_slice hr.tm
          have HMB := Lib.hid hb
          have HRW := Lib.hid hr
          have HRU2 := Lib.hid hrun
          have um' : ∀ i, wr.cell? ⟨mb, i, none⟩ = _ := fun i => hb.cell i
          unfold cellsOf at um'
          have fm' : ∀ i, wr.frozen? ⟨mb, i, none⟩ = false := fun i => hb.free i
          have up : ∀ i, wr.cell? ⟨b4, i, none⟩ = _ := fun i => H4.out.cell i
          have u8 : ∀ i, wr.cell? ⟨b8, i, none⟩ = _ := fun i => H8.out.cell i
          have f8 : ∀ i, wr.frozen? ⟨b8, i, none⟩ = false := fun i => H8.out.free i
          clear hb hr hrun um fm t5 HRL HBX HF HB2 HB3 HI0 hI
          by_cases hlt : s.at_ < c.CL.length
          · have d1 : decide (s.at_ < (c.CL.length : Int)) = true := decide_eq_true hlt
            by_cases h5 : s.steps = 500
            · have HRN := Lib.hid (HRU2.out.trans (show loopF c (n + 1) s = (11, s) by simp [loopF, hd, hlt, h5]))
              rw [h5] at um'
              go_wp2_with fail
              go_quiet (fail)
              go_wp2
              refine bodyPost_ret (results_ct rfl _ _ b8 49 _ (0, 0) _ rfl ((H8.out.drewN _).twelve rfl _ _ _ _ _ _ _ _ _ _ _ _) Try.underlying49 rfl (by kernel_rfl)) rfl ?_
              refine ⟨below12 (below_drewN HRW.out.below _) HB4.out.lo _ _ _ _ _ _ _ _ _ _ _ _, .inr ⟨by rw [HRN.out]; show (11 : Int) ≠ 0; decide, by rw [HRN.out]; show _ = Ending.returned (.tuple #[.agg (resC (fun _ => 0) (.slice none 0 0) (.slice none 0 0) (.slice none 0 0) s.steps), .int .i64 11]); rw [h5]; rfl⟩⟩
            · have t5 : (s.steps == 500) = false := by simpa using h5
              have ks : wrap64 (s.steps + 1) = s.steps + 1 := by unfold wrap64; omega
              obtain ⟨k, hk⟩ : ∃ k : Nat, s.at_ = (k : Int) := ⟨s.at_.toNat, by omega⟩
              have hkl : k < c.CL.length := by omega
              obtain ⟨s0, hs0d⟩ : ∃ s0, s0 = { s with steps := s.steps + 1 } := ⟨_, rfl⟩
              have HS1 := Lib.hid (show ∀ j, M c w wS mb s0 ((wr.drewN j).setCell ⟨mb, 20, none⟩ (.int .i64 (s.steps + 1))) from fun j => by rw [hs0d]; exact (HM.out.drewN j).stepsK (s.steps + 1))
              obtain ⟨s2, hs2⟩ : ∃ s2, s2 = { s with steps := s.steps + 1, at_ := s.at_ + 1 } := ⟨_, rfl⟩
              have hs12 : s2 = { s0 with at_ := (k : Int) + 1 } := by rw [hs2, hs0d, ← hk]
              have hi2 : EvI c reg s2 := by rw [hs2]; exact ⟨HI.out.stack, HI.out.regs, HI.out.reg, HI.out.evr, HI.out.sent, HI.out.tm, HI.out.f⟩
              obtain ⟨hok, hop0⟩ := argOk_of hF hkl
              obtain ⟨op, hop⟩ : ∃ op, op = (c.CL.getD k (0, 0)).1.toNat := ⟨_, rfl⟩
              obtain ⟨arg, harg⟩ : ∃ arg, arg = (c.CL.getD k (0, 0)).2 := ⟨_, rfl⟩
              have hpair : c.CL.getD k (0, 0) = ((op : Int), arg) := by rw [hop, harg, Int.toNat_of_nonneg hop0]
              rw [← hop, ← harg] at hok
              have hsm : Small s2 := by
                rw [hs2]
                exact ⟨hst, by show s.ev.length ≤ 1000; omega, by show s.sent.length ≤ 1000; omega, by show s.tm.length ≤ 1000; omega⟩
              have hx2 : ∀ j, s2.stack.getD j 0 ≤ 9223372036854775807 := fun j => by
                rw [List.getD_eq_getElem?_getD]
                cases hg : s2.stack[j]? with
                | none => show (0 : Int) ≤ _; omega
                | some x => exact (hi2.stack x (List.mem_of_getElem? hg)).2
              have HONE := Lib.hid (fun (wy : World) (hy : M c w wS mb s0 wy) => one_any c w wS wy mb s0 s2 k op arg hy hsm HE.out HC.out hcl (by rw [hs0d]; exact hk) hkl hpair hs12 hok hn0 HEV.out.now.2 hx2)
              have hnear := stepF_near c op arg s2 hsm.stack hok
              have hag := agrees_step c op arg s2 (by rw [hs2]; exact hf) (by rw [hs2]; exact hd) hsm.stack hok.1
              have hi3 : EvI c reg (stepF c op arg s2) := hi2.step HEV.out hn0 _ _ hok (by rw [harg]; exact HEV.out.code k)
              have hst1 : (oneG c op arg s2).2.2.steps = s.steps + 1 := by rw [oneG_steps, hs2]
              obtain ⟨s3, hs3⟩ : ∃ s3, s3 = stepF c op arg s2 := ⟨_, rfl⟩
              rw [← hs3] at hnear hag hi3
              have HGO := Lib.hid (HRU2.out.trans (loopF_go (n := n) hd hlt h5 (show s3 = _ by rw [hs3, hs2, hop, harg, hk, Int.toNat_natCast])))
              obtain ⟨g1, g2, g3, hG⟩ : ∃ g1 g2 g3, oneG c op arg s2 = (g1, g2, g3) := ⟨_, _, _, rfl⟩
              rw [hG] at HONE hag hst1
              dsimp only at hst1
              have n1 := hnear.ev
              have n2 := hnear.sent
              have n3 := hnear.tm
              have n4 := hnear.steps
              have n5 := hnear.at_
              rw [hs2] at n1 n2 n3 n4 n5
              dsimp only at n1 n2 n3 n4 n5
              have HNR := Lib.hid hnear
              have HAG := Lib.hid hag
              have HI3 := Lib.hid hi3
              have HG3 := Lib.hid hst1
              clear hnear hag hi3 hst1 hG hs3 hs2 hs12 hi2 hop harg hop0 hpair hok hsm hx2 hs0d
              go_upto_region 8 with (go_quiet (fail))
              go_cut [] from 36 to 75 (fun wy => M c w wS mb s0 wy)
              case first =>
                go_wp2
                go_meet
                exact HS1.out _
              have HC1 := Lib.hid hcut
              clear hcut HS1 um' fm' up u8 f8 H4 H8 HMB HRW HM ks t5
              go_wp2_with fail
              refine (HONE.out _ HC1.out).mono ?_
              rintro e w5 ⟨rfl, hM5⟩
              have HM5 := Lib.hid hM5
              clear hM5 HONE
              have H8 := Lib.hid (HM5.out.stay.blk HB4.out.r (by decide))
              obtain ⟨sv5, ev5, sn5, tv5, hb5, hr5, hm5⟩ := HM5.out
              obtain ⟨eA, ec, rfl⟩ := own_slice hr5.ev
              obtain ⟨nA, nc, rfl⟩ := own_slice hr5.sn
              obtain ⟨tA, tc, rfl⟩ := own_slice hr5.tm
              have um5 : ∀ i, w5.cell? ⟨mb, i, none⟩ = _ := fun i => hb5.cell i
              unfold cellsOf at um5
              have u8 : ∀ i, w5.cell? ⟨b8, i, none⟩ = _ := fun i => H8.out.cell i
              have f8 : ∀ i, w5.frozen? ⟨b8, i, none⟩ = false := fun i => H8.out.free i
              have HR5 := Lib.hid hr5
              clear hb5 hr5
              obtain ⟨hag1, hag2⟩ := HAG.out
              dsimp only at hag1 hag2
              by_cases hg2 : g2 = 0
              · subst hg2
                have hag3 := hag2 rfl
                have HGO2 := Lib.hid (HGO.out.trans (if_pos hag1))
                clear hag2 HGO HAG HG3
                cases g1 with
                | true =>
                  have hM6 := Lib.hid (show M c w wS mb s3 w5 by rw [hag3]; exact HM5.out.doneK _)
                  have hd3 : s3.done = false := by rw [hag3]; rfl
                  go_wp2_with fail
                  go_roundg n
                  case measure => omega
                  case rel => exact ⟨s3, hM6.out, HI3.out, HNR.out.stack, ⟨by omega, by omega, by omega⟩, by omega, ⟨by omega, by omega⟩, hag1, hd3, by omega, HGO2.out⟩
                | false =>
                  obtain ⟨m, rfl⟩ : ∃ m, n = m + 1 := ⟨n - 1, by omega⟩
                  have HRN := Lib.hid (HGO2.out.trans (loopF_end (.inl (show s3.done = true by rw [hag3]; rfl))))
                  rw [hag3] at HRN
                  clear hag3 hag1
                  go_wp2
                  refine bodyPost_ret (results_ct rfl _ _ b8 49 _ (0, 0) _ rfl (H8.out.twelve rfl _ _ _ _ _ _ _ _ _ _ _ _) Try.underlying49 rfl (by kernel_rfl)) rfl ?_
                  refine ⟨below12 HR5.out.below HB4.out.lo _ _ _ _ _ _ _ _ _ _ _ _, .inl ⟨by rw [HRN.out], _, _, _, by rw [HRN.out]; rfl, ?_, ?_, ?_⟩⟩
                  · rw [HRN.out]; exact own12 HR5.out.ev H8.out (by decide) _ _ _ _ _ _ _ _ _ _ _ _
                  · rw [HRN.out]; exact own12 HR5.out.sn H8.out (by decide) _ _ _ _ _ _ _ _ _ _ _ _
                  · rw [HRN.out]; exact own12 HR5.out.tm H8.out (by decide) _ _ _ _ _ _ _ _ _ _ _ _
              · have t3 : (g2 != 0) = true := by simpa using hg2
                have t4 : (g2 == 0) = false := by simpa using hg2
                have HRN := Lib.hid (HGO.out.trans (if_neg (by rw [hag1]; exact hg2)))
                rw [hag1] at HRN
                have HS3 := Lib.hid (show s3.steps = g3.steps by rw [HG3.out]; exact n4)
                clear hag1 hag2 HGO HAG
                go_wp2
                refine bodyPost_ret (results_ct rfl _ _ b8 49 _ (0, 0) _ rfl (H8.out.twelve rfl _ _ _ _ _ _ _ _ _ _ _ _) Try.underlying49 rfl (by kernel_rfl)) rfl ?_
                refine ⟨below12 HR5.out.below HB4.out.lo _ _ _ _ _ _ _ _ _ _ _ _, .inr ⟨by rw [HRN.out]; exact hg2, by rw [HRN.out]; show _ = Ending.returned (.tuple #[.agg (resC (fun _ => 0) (.slice none 0 0) (.slice none 0 0) (.slice none 0 0) s3.steps), .int .i64 g2]); rw [HS3.out]; rfl⟩⟩
          · have HRN := Lib.hid (HRU2.out.trans (loopF_end (.inr hlt)))
            have d1 : decide (s.at_ < (c.CL.length : Int)) = false := decide_eq_false hlt
            go_wp2_with fail
            go_quiet (fail)
            go_wp2
            refine bodyPost_ret (results_ct rfl _ _ b8 49 _ (0, 0) _ rfl ((H8.out.drewN _).twelve rfl _ _ _ _ _ _ _ _ _ _ _ _) Try.underlying49 rfl (by kernel_rfl)) rfl ?_
            refine ⟨below12 (below_drewN HRW.out.below _) HB4.out.lo _ _ _ _ _ _ _ _ _ _ _ _, .inl ⟨by rw [HRN.out], _, _, _, by rw [HRN.out]; rfl, ?_, ?_, ?_⟩⟩
            · rw [HRN.out]; exact own12 (HRW.out.drewN _).ev (H8.out.drewN _) (by decide) _ _ _ _ _ _ _ _ _ _ _ _
            · rw [HRN.out]; exact own12 (HRW.out.drewN _).sn (H8.out.drewN _) (by decide) _ _ _ _ _ _ _ _ _ _ _ _
            · rw [HRN.out]; exact own12 (HRW.out.drewN _).tm (H8.out.drewN _) (by decide) _ _ _ _ _ _ _ _ _ _ _ _
end Go.Proofs.Ytmmbigfeojfedaa.R

/- IpMach, IpMeth, IpPush, IpTwo -/
import Derived.Test.YtlcdjgpblpodaaaGreatDoorMAC
import Derived.Test.YtlcdjgpblpodaaaGreatDoorProg
import Derived.Test.YtlcdjgpblpodaaaGreatDoorMAY
namespace Go.Proofs.YtlcdjgpblpodaaaGreatDoor.Ip
open Go.RowKit Go.Proofs.YtlcdjgpblpodaaaGreatDoorW.PrintWords

/-- What a run does not change: the program, the letter, the tick. -/
structure Env where
  nA : Option Addr
  nC : Nat
  NL : List ByteArray
  kA : Option Addr
  kC : Nat
  CL : List (Int × Int)
  frm : ByteArray
  serial : Int
  kind : Int
  aA : Option Addr
  aC : Nat
  AL : List Int
  now : Int

/-- What a run changes. -/
structure St where
  at_ : Int
  stack : List Int
  reg : Nat → Int
  ev : List (Int × Int)
  sent : List (ByteArray × Int × Int)
  tm : List (ByteArray × Bool × Int × Int × Int)
  steps : Int
  failed : Int
  done : Bool

/-! ### The machine's methods, in plain Lean. -/
def pushF (xs : List Int) (s : St) : St :=
  if s.failed = 0 then (if s.stack.length + xs.length > 16 then { s with failed := 10 } else { s with stack := s.stack ++ xs }) else s
def popV (s : St) : Int := if s.failed = 0 then s.stack.getD (s.stack.length - 1) 0 else 0
def popF (s : St) : St :=
  if s.failed = 0 then (if s.stack.length = 0 then { s with failed := 10 } else { s with stack := s.stack.take (s.stack.length - 1) }) else s
def twoF (s : St) : St := popF (popF s)
def twoX (s : St) : Int := popV (popF s)
def twoY (s : St) : Int := popV s
def refuseF (b : Bool) (s : St) : St := if b = true ∧ s.failed = 0 then { s with failed := 12 } else s
def truth (b : Bool) : Int := if b then 1 else 0
def reckonV (op x y : Int) : Int :=
  if op = 6 then wrap64 (x + y) else if op = 7 then wrap64 (x - y) else if op = 8 then wrap64 (x * y) else if op = 9 then truth (decide (x < y)) else truth (x == y)

/-! ### The machine in memory. -/
def cellsOf (c : Env) (s : St) (sv ev sn tv : Value) : Array Value :=
  #[.slice c.nA c.NL.length c.nC, .slice c.kA c.CL.length c.kC, .string c.frm, .int .u64 c.serial, .int .i64 c.kind, .slice c.aA c.AL.length c.aC, .int .i64 c.now, .int .i64 s.at_, sv,
    .int .i64 (s.reg 0), .int .i64 (s.reg 1), .int .i64 (s.reg 2), .int .i64 (s.reg 3), .int .i64 (s.reg 4), .int .i64 (s.reg 5), .int .i64 (s.reg 6), .int .i64 (s.reg 7), ev, sn, tv, .int .i64 s.steps, .int .i64 s.failed, .bool s.done]
def encE : List (Int × Int) → List Value
  | [] => []
  | (r, v) :: l => .int .i64 r :: .int .i64 v :: encE l
def encS : List (ByteArray × Int × Int) → List Value
  | [] => []
  | (t, k, x) :: l => .string t :: .int .i64 k :: .int .i64 x :: encS l
def encT : List (ByteArray × Bool × Int × Int × Int) → List Value
  | [] => []
  | (n, b, d, p, k) :: l => .string n :: .bool b :: .int .i64 d :: .int .i64 p :: .int .i64 k :: encT l
theorem encE_snoc : ∀ (l : List (Int × Int)) (r v : Int), encE (l ++ [(r, v)]) = encE l ++ [.int .i64 r, .int .i64 v]
  | [], _, _ => rfl
  | (_, _) :: l, r, v => by simp [encE, encE_snoc l r v]
theorem encS_snoc : ∀ (l : List (ByteArray × Int × Int)) (t : ByteArray) (k x : Int), encS (l ++ [(t, k, x)]) = encS l ++ [.string t, .int .i64 k, .int .i64 x]
  | [], _, _, _ => rfl
  | (_, _, _) :: l, t, k, x => by simp [encS, encS_snoc l t k x]
theorem encT_snoc : ∀ (l : List (ByteArray × Bool × Int × Int × Int)) (n : ByteArray) (b : Bool) (d p k : Int), encT (l ++ [(n, b, d, p, k)]) = encT l ++ [.string n, .bool b, .int .i64 d, .int .i64 p, .int .i64 k]
  | [], _, _, _, _, _ => rfl
  | (_, _, _, _, _) :: l, n, b, d, p, k => by simp [encT, encT_snoc l n b d p k]

/-- Blocks that are neither the machine nor of a row's kind stay as they were. -/
def Stay (wb w : World) : Prop := ∀ (k : Nat) (C : Array Value) (t : Nat) (fr : Nat × Nat), wb.heap[k]? = some (.cells C t fr) → t ≠ 2 → t ≠ 146 → t ≠ 244 → t ≠ 125 → t ≠ 327 → w.heap[k]? = some (.cells C t fr)
theorem Stay.refl (w : World) : Stay w w := fun _ _ _ _ h _ _ _ _ _ => h
theorem Stay.trans {a b c : World} (h : Stay a b) (k : Stay b c) : Stay a c := fun i _ _ _ h0 h1 h2 h3 h4 h5 => k i _ _ _ (h i _ _ _ h0 h1 h2 h3 h4 h5) h1 h2 h3 h4 h5
theorem Stay.of_below {a b : World} (h : Below a.heap.size a b) : Stay a b := fun i _ _ _ h0 _ _ _ _ _ => (h.block i (lt_of_block h0)).trans h0
theorem Stay.put {a b : World} (h : Stay a b) {mb : Nat} {C : Array Value} (hb : Blk b mb C 327) (i : Nat) (x : Value) : Stay a (b.setCell ⟨mb, i, none⟩ x) := fun k C' t fr h0 h1 h2 h3 h4 h5 => by
  have h6 := h k C' t fr h0 h1 h2 h3 h4 h5
  refine (Below.heap_setCell b _ x k (fun (e : k = mb) => ?_)).trans h6
  subst e
  unfold Blk at hb
  rw [hb] at h6
  injection h6 with h6
  injection h6 with _ h7 _
  exact h5 h7.symm
theorem Stay.grown {a b c : World} (h : Stay a b) {base n size e : Nat} {v : Value} {xs : List Value} (ho : b.ownsRow base e size v n xs) (he : e = 2 ∨ e = 146 ∨ e = 244 ∨ e = 125) (hg : b.grownBy c v.ownBlock) : Stay a c := fun k C' t fr h0 h1 h2 h3 h4 h5 => by
  have h6 := h k C' t fr h0 h1 h2 h3 h4 h5
  refine (hg.block k (lt_of_block h6) (fun e1 => ?_)).trans h6
  obtain ⟨cells, hc⟩ := own_typed ho k e1.symm
  rw [h6] at hc
  injection hc with hc
  injection hc with _ h7 _
  rcases he with rfl | rfl | rfl | rfl
  · exact h1 h7
  · exact h2 h7
  · exact h3 h7
  · exact h4 h7

/-- The four rows. -/
structure Rws (w0 wb w : World) (stack : List Int) (evs : List (Int × Int)) (sent : List (ByteArray × Int × Int)) (tm : List (ByteArray × Bool × Int × Int × Int)) (sv ev sn tv : Value) : Prop where
  st : w.ownsRow w0.heap.size 2 1 sv stack.length (encs (Value.int .i64) stack)
  ev : w.ownsRow w0.heap.size 146 2 ev evs.length (encE evs)
  sn : w.ownsRow w0.heap.size 244 3 sn sent.length (encS sent)
  tm : w.ownsRow w0.heap.size 125 5 tv tm.length (encT tm)
  below : Below w0.heap.size w0 w
  stay : Stay wb w

/-- What a method meets and leaves. -/
def M (c : Env) (w0 wb : World) (mb : Nat) (s : St) (w : World) : Prop :=
  ∃ sv ev sn tv, Blk w mb (cellsOf c s sv ev sn tv) 327 ∧ Rws w0 wb w s.stack s.ev s.sent s.tm sv ev sn tv ∧ w0.heap.size ≤ mb

theorem own_put {w : World} {base n size e mb : Nat} {v x : Value} {xs : List Value} {C : Array Value} {t : Nat} (h : w.ownsRow base e size v n xs) (hb : Blk w mb C t) (hne : e ≠ t) (i : Nat) : (w.setCell ⟨mb, i, none⟩ x).ownsRow base e size v n xs :=
  own_move h (fun k hk => Below.heap_setCell w _ x k (fun (e' : k = mb) => by
    obtain ⟨cells, hc⟩ := own_typed h k hk
    subst e'
    unfold Blk at hb
    rw [hb] at hc
    injection hc with hc
    injection hc with _ h2 _
    exact hne h2.symm))
theorem own_grown {w w1 : World} {base base' n n' size size' e e' : Nat} {v v' : Value} {xs xs' : List Value} (h : w.ownsRow base e size v n xs) (h' : w.ownsRow base' e' size' v' n' xs') (hne : e ≠ e') (hg : w.grownBy w1 v'.ownBlock) : w1.ownsRow base e size v n xs :=
  own_move h (fun k hk => hg.block k (own_lt h k hk) (fun e1 => by
    obtain ⟨cells, hc⟩ := own_typed h k hk
    obtain ⟨cells', hc'⟩ := own_typed h' k e1.symm
    rw [hc] at hc'
    injection hc' with hc'
    injection hc' with _ h2 _
    exact hne h2))
theorem blk_grown {w w1 : World} {base' n' size' e' mb t : Nat} {C : Array Value} {v' : Value} {xs' : List Value} (hb : Blk w mb C t) (h' : w.ownsRow base' e' size' v' n' xs') (hne : t ≠ e') (hg : w.grownBy w1 v'.ownBlock) : Blk w1 mb C t :=
  (hg.block mb hb.lt (fun e1 => by
    obtain ⟨cells', hc'⟩ := own_typed h' mb e1.symm
    unfold Blk at hb
    rw [hb] at hc'
    injection hc' with hc'
    injection hc' with _ h2 _
    exact hne h2)).trans hb

section
variable {c : Env} {w0 wb w w1 : World} {mb : Nat} {st : List Int} {evs : List (Int × Int)} {se : List (ByteArray × Int × Int)} {tm : List (ByteArray × Bool × Int × Int × Int)} {sv ev sn tv : Value}
theorem Rws.put {C : Array Value} (h : Rws w0 wb w st evs se tm sv ev sn tv) (hb : Blk w mb C 327) (hm : w0.heap.size ≤ mb) (i : Nat) (x : Value) : Rws w0 wb (w.setCell ⟨mb, i, none⟩ x) st evs se tm sv ev sn tv :=
  ⟨own_put h.st hb (by decide) i, own_put h.ev hb (by decide) i, own_put h.sn hb (by decide) i, own_put h.tm hb (by decide) i, h.below.setCell (p := ⟨mb, i, none⟩) hm x, h.stay.put hb i x⟩
theorem Rws.drew (h : Rws w0 wb w st evs se tm sv ev sn tv) : Rws w0 wb w.drew st evs se tm sv ev sn tv := ⟨h.st, h.ev, h.sn, h.tm, h.below.drew, h.stay⟩
theorem Rws.drewN (h : Rws w0 wb w st evs se tm sv ev sn tv) (n : Nat) : Rws w0 wb (w.drewN n) st evs se tm sv ev sn tv := ⟨h.st, h.ev, h.sn, h.tm, below_drewN h.below n, h.stay⟩
theorem Rws.then_ (h : Rws w0 wb w st evs se tm sv ev sn tv) (hb : Below w.heap.size w w1) : Rws w0 wb w1 st evs se tm sv ev sn tv :=
  ⟨pw_own_below h.st hb, pw_own_below h.ev hb, pw_own_below h.sn hb, pw_own_below h.tm hb, h.below.trans (hb.mono h.below.size), h.stay.trans (Stay.of_below hb)⟩
theorem Rws.alloc (h : Rws w0 wb w st evs se tm sv ev sn tv) (o : Obj) : Rws w0 wb (w.alloc o) st evs se tm sv ev sn tv := h.then_ ((Below.refl _ _).alloc (Nat.le_refl _) o)
theorem Rws.grow_st (h : Rws w0 wb w st evs se tm sv ev sn tv) {st1 : List Int} {sv1 : Value} (ho : w1.ownsRow w0.heap.size 2 1 sv1 st1.length (encs (Value.int .i64) st1)) (hg : w.grownBy w1 sv.ownBlock) (hB : Below w0.heap.size w0 w1) : Rws w0 wb w1 st1 evs se tm sv1 ev sn tv :=
  ⟨ho, own_grown h.ev h.st (by decide) hg, own_grown h.sn h.st (by decide) hg, own_grown h.tm h.st (by decide) hg, hB, h.stay.grown h.st (.inl rfl) hg⟩
theorem Rws.grow_ev (h : Rws w0 wb w st evs se tm sv ev sn tv) {ev1 : List (Int × Int)} {v1 : Value} (ho : w1.ownsRow w0.heap.size 146 2 v1 ev1.length (encE ev1)) (hg : w.grownBy w1 ev.ownBlock) (hB : Below w0.heap.size w0 w1) : Rws w0 wb w1 st ev1 se tm sv v1 sn tv :=
  ⟨own_grown h.st h.ev (by decide) hg, ho, own_grown h.sn h.ev (by decide) hg, own_grown h.tm h.ev (by decide) hg, hB, h.stay.grown h.ev (.inr (.inl rfl)) hg⟩
theorem Rws.grow_sn (h : Rws w0 wb w st evs se tm sv ev sn tv) {sn1 : List (ByteArray × Int × Int)} {v1 : Value} (ho : w1.ownsRow w0.heap.size 244 3 v1 sn1.length (encS sn1)) (hg : w.grownBy w1 sn.ownBlock) (hB : Below w0.heap.size w0 w1) : Rws w0 wb w1 st evs sn1 tm sv ev v1 tv :=
  ⟨own_grown h.st h.sn (by decide) hg, own_grown h.ev h.sn (by decide) hg, ho, own_grown h.tm h.sn (by decide) hg, hB, h.stay.grown h.sn (.inr (.inr (.inl rfl))) hg⟩
theorem Rws.grow_tm (h : Rws w0 wb w st evs se tm sv ev sn tv) {tm1 : List (ByteArray × Bool × Int × Int × Int)} {v1 : Value} (ho : w1.ownsRow w0.heap.size 125 5 v1 tm1.length (encT tm1)) (hg : w.grownBy w1 tv.ownBlock) (hB : Below w0.heap.size w0 w1) : Rws w0 wb w1 st evs se tm1 sv ev sn v1 :=
  ⟨own_grown h.st h.tm (by decide) hg, own_grown h.ev h.tm (by decide) hg, own_grown h.sn h.tm (by decide) hg, ho, hB, h.stay.grown h.tm (.inr (.inr (.inr rfl))) hg⟩
end
theorem M.drew {c : Env} {w0 wb w : World} {mb : Nat} {s : St} (h : M c w0 wb mb s w) : M c w0 wb mb s w.drew := by
  obtain ⟨sv, ev, sn, tv, hb, hr, hm⟩ := h
  exact ⟨sv, ev, sn, tv, hb, hr.drew, hm⟩
theorem M.drewN {c : Env} {w0 wb w : World} {mb : Nat} {s : St} (h : M c w0 wb mb s w) (n : Nat) : M c w0 wb mb s (w.drewN n) := by
  obtain ⟨sv, ev, sn, tv, hb, hr, hm⟩ := h
  exact ⟨sv, ev, sn, tv, hb.drewN n, hr.drewN n, hm⟩
theorem M.then_ {c : Env} {w0 wb w w1 : World} {mb : Nat} {s : St} (h : M c w0 wb mb s w) (hb : Below w.heap.size w w1) : M c w0 wb mb s w1 := by
  obtain ⟨sv, ev, sn, tv, hb', hr, hm⟩ := h
  exact ⟨sv, ev, sn, tv, hb'.below hb, hr.then_ hb, hm⟩
theorem M.below {c : Env} {w0 wb w : World} {mb : Nat} {s : St} (h : M c w0 wb mb s w) : Below w0.heap.size w0 w := by
  obtain ⟨sv, ev, sn, tv, hb', hr, hm⟩ := h
  exact hr.below
theorem M.alloc {c : Env} {w0 wb w : World} {mb : Nat} {s : St} (h : M c w0 wb mb s w) (o : Obj) : M c w0 wb mb s (w.alloc o) := h.then_ ((Below.refl _ _).alloc (Nat.le_refl _) o)

theorem M.rebase {c : Env} {w0 wa wb w : World} {mb : Nat} {s : St} (h : M c w0 wb mb s w) (k : Stay wa wb) : M c w0 wa mb s w := by
  obtain ⟨sv, ev, sn, tv, hb', hr, hm⟩ := h
  exact ⟨sv, ev, sn, tv, hb', ⟨hr.st, hr.ev, hr.sn, hr.tm, hr.below, k.trans hr.stay⟩, hm⟩
theorem M.stay {c : Env} {w0 wb w : World} {mb : Nat} {s : St} (h : M c w0 wb mb s w) : Stay wb w := by
  obtain ⟨sv, ev, sn, tv, hb', hr, hm⟩ := h
  exact hr.stay
theorem M.here {c : Env} {w0 wb w : World} {mb : Nat} {s : St} (h : M c w0 wb mb s w) : M c w0 w mb s w := by
  obtain ⟨sv, ev, sn, tv, hb', hr, hm⟩ := h
  exact ⟨sv, ev, sn, tv, hb', ⟨hr.st, hr.ev, hr.sn, hr.tm, hr.below, Stay.refl _⟩, hm⟩
theorem Stay.blk {a b : World} (h : Stay a b) {k t : Nat} {C : Array Value} (hb : Blk a k C t) (ht : t ≠ 2 ∧ t ≠ 146 ∧ t ≠ 244 ∧ t ≠ 125 ∧ t ≠ 327) : Blk b k C t := h k C t _ hb ht.1 ht.2.1 ht.2.2.1 ht.2.2.2.1 ht.2.2.2.2
theorem info2 : (Tryz.prog.info? 2).map (fun i => (i.zero, i.size, i.bytes)) = some (some (.int .i64 0), 1, 8) := by kernel_rfl
theorem info56 : (Tryz.prog.info? 146).map (fun i => (i.zero, i.size, i.bytes)) = some (some (.agg #[.int .i64 0, .int .i64 0]), 2, 16) := by kernel_rfl
theorem info66 : (Tryz.prog.info? 244).map (fun i => (i.zero, i.size, i.bytes)) = some (some (.agg #[.string ⟨#[]⟩, .int .i64 0, .int .i64 0]), 3, 32) := by kernel_rfl
theorem info58 : (Tryz.prog.info? 125).map (fun i => (i.zero, i.size, i.bytes)) = some (some (.agg #[.string ⟨#[]⟩, .bool false, .int .i64 0, .int .i64 0, .int .i64 0]), 5, 48) := by kernel_rfl
end Go.Proofs.YtlcdjgpblpodaaaGreatDoor.Ip
namespace Go.Proofs.YtlcdjgpblpodaaaGreatDoor.Ip
open Go.RowKit Go.Proofs.YtlcdjgpblpodaaaGreatDoorW.PrintWords

abbrev mp (mb : Nat) : Value := .pointer (some ⟨mb, 0, none⟩)

theorem M.start {c : Env} {w0 wb w : World} {mb : Nat} {s : St} (h : M c w0 wb mb s w) : ∃ A n ev sn tv, Blk w mb (cellsOf c s (.slice A s.stack.length n) ev sn tv) 327 ∧ Rws w0 wb w s.stack s.ev s.sent s.tm (.slice A s.stack.length n) ev sn tv ∧ w0.heap.size ≤ mb ∧
    ReadsOf (Value.int .i64) (0 : Int) w A s.stack.length s.stack ∧ s.stack.length ≤ n := by
  obtain ⟨sv, ev, sn, tv, hb, hr, hm⟩ := h
  obtain ⟨A, n, rfl, hc, hrd⟩ := own_reads_of_le (d := (0 : Int)) hr.st
  exact ⟨A, n, ev, sn, tv, hb, hr, hm, hrd, hc⟩

theorem truth_any (b : Bool) (w : World) : Calls Tryz.prog 229 #[.bool b] w fun e w' => e = .returned (.int .i64 (truth b)) ∧ w' = w := by
  cases b
  · go_enter Tryz.func229, Tryz.ntmps229
    go_wp2
    go_ret
    exact ⟨rfl, rfl⟩
  · go_enter Tryz.func229, Tryz.ntmps229
    go_wp2
    go_ret
    exact ⟨rfl, rfl⟩

set_option maxRecDepth 100000 in
theorem refuse_any (c : Env) (w0 wb w : World) (mb : Nat) (s : St) (b : Bool) (h : M c w0 wb mb s w) :
    Calls Tryz.prog 231 #[mp mb, .bool b] w fun e w' => e = .returned (.bool (decide ((refuseF b s).failed ≠ 0))) ∧ M c w0 wb mb (refuseF b s) w' := by
  obtain ⟨sv, ev, sn, tv, hb, hr, hm⟩ := h
  have c21 := hb.cell 21
  have f21 := hb.free 21
  simp [cellsOf] at c21
  cases b
  · have e : refuseF false s = s := by simp [refuseF]
    rw [e]
    have HF := Lib.hid (show M c w0 wb mb s w from ⟨sv, ev, sn, tv, hb, hr, hm⟩)
    clear hb hr
    go_enter Tryz.func231, Tryz.ntmps231
    go_wp2
    go_ret
    exact ⟨by simp [bne, BEq.beq, decide_not], HF.out⟩
  · by_cases hf : s.failed = 0
    · have e : refuseF true s = { s with failed := 12 } := by simp [refuseF, hf]
      rw [e]
      have HF := Lib.hid (show M c w0 wb mb { s with failed := 12 } (w.setCell ⟨mb, 21, none⟩ (.int .i64 12)) from ⟨sv, ev, sn, tv, by simpa [cellsOf] using hb.set 21 (.int .i64 12), hr.put hb hm _ _, hm⟩)
      have hc2 := (hb.set 21 (.int .i64 12)).cell 21
      simp [cellsOf] at hc2
      rw [hf] at c21
      clear hb hr hf e
      go_enter Tryz.func231, Tryz.ntmps231
      go_wp2
      go_ret
      exact ⟨rfl, HF.out⟩
    · have e : refuseF true s = s := by simp [refuseF, hf]
      rw [e]
      have HF := Lib.hid (show M c w0 wb mb s w from ⟨sv, ev, sn, tv, hb, hr, hm⟩)
      have t0 : (s.failed == 0) = false := by simpa using hf
      clear hb hr
      go_enter Tryz.func231, Tryz.ntmps231
      go_wp2
      go_ret
      exact ⟨by simp [bne, BEq.beq, decide_not], HF.out⟩
end Go.Proofs.YtlcdjgpblpodaaaGreatDoor.Ip
namespace Go.Proofs.YtlcdjgpblpodaaaGreatDoor.Ip
open Go.RowKit Go.Proofs.YtlcdjgpblpodaaaGreatDoorW.PrintWords

theorem own_slice {w : World} {base n size : Nat} {e : TypeId} {v : Value} {xs : List Value} (h : w.ownsRow base e size v n xs) : ∃ A c, v = .slice A n c := by
  rcases h.2 with ⟨rfl, hn⟩ | ⟨g, cap, cur, rfl, _⟩
  · subst hn; exact ⟨none, 0, rfl⟩
  · exact ⟨_, _, rfl⟩

set_option maxRecDepth 100000 in
theorem push_any (c : Env) (w0 wb w : World) (mb : Nat) (s : St) (A : Option Addr) (n : Nat) (xs : List Int) (h : M c w0 wb mb s w) (hl : xs.length ≤ 16) (hs : s.stack.length ≤ 16) (hr : ReadsOf (Value.int .i64) (0 : Int) w A xs.length xs) :
    Calls Tryz.prog 226 #[mp mb, .slice A xs.length n] w fun e w' => e = .returned (.tuple #[]) ∧ M c w0 wb mb (pushF xs s) w' := by
  obtain ⟨S, m, ev, sn, tv, hb, hrw, hm, hrd, hcap⟩ := h.start
  have c21 := hb.cell 21
  have c8 := hb.cell 8
  have f21 := hb.free 21
  have f8 := hb.free 8
  simp [cellsOf] at c21 c8
  have HB := Lib.hid hb
  have HRW := Lib.hid hrw
  have HR := Lib.hid hr
  have HM := Lib.hid h
  clear hb hrw hr hrd h
  by_cases hf : s.failed = 0
  · rw [hf] at c21
    by_cases hlen : s.stack.length + xs.length > 16
    · have e : pushF xs s = { s with failed := 10 } := by simp [pushF, hf, hlen]
      rw [e]
      have HF := Lib.hid (show M c w0 wb mb { s with failed := 10 } (w.setCell ⟨mb, 21, none⟩ (.int .i64 10)) from ⟨_, ev, sn, tv, by simpa [cellsOf] using HB.out.set 21 (.int .i64 10), HRW.out.put HB.out hm _ _, hm⟩)
      have t0 : decide ((s.stack.length : Int) + (xs.length : Int) > 16) = true := by simp; omega
      have t1 : decide ((16 : Int) < (s.stack.length : Int) + (xs.length : Int)) = true := by simp; omega
      go_enter Tryz.func226, Tryz.ntmps226
      go_wp2
      refine bodyPost_ret (results_none rfl _ _ _) rfl ?_
      exact ⟨rfl, HF.out⟩
    · have e : pushF xs s = { s with stack := s.stack ++ xs } := by simp [pushF, hf, hlen]
      rw [e]
      have t0 : decide ((s.stack.length : Int) + (xs.length : Int) > 16) = false := by simp; omega
      have t1 : decide ((16 : Int) < (s.stack.length : Int) + (xs.length : Int)) = false := by simp; omega
      clear e
      go_enter Tryz.func226, Tryz.ntmps226
      go_wp2_with (at_builtin; refine print_append_row_of (w0 := w0) (Value.int .i64) (0 : Int) w0.heap.size rfl (.tmp 25) (.tmp 26) 22 2 (.int .i64 0) 8 rfl Tryz.underlying22 info2 rfl (by omega) (fun _ => rfl) _ s.stack xs A xs.length n rfl rfl HRW.out.st HR.out HRW.out.below HRW.out.below.size (by omega) ?_; intro v1 w1 ho hbl hg hat; obtain ⟨V, vn, rfl⟩ := own_slice ho; have HB1 := Lib.hid (blk_grown HB.out HRW.out.st (by decide) hg); have HR1 := Lib.hid (HRW.out.grow_st ho hg hbl); have f8' := HB1.out.free 8; have c8' := HB1.out.cell 8; simp [cellsOf] at c8'; clear ho hbl hg hat f8 f21)
      go_end0
      exact ⟨rfl, _, ev, sn, tv, by simpa [cellsOf, hf] using HB1.out.set 8 (.slice V (s.stack.length + xs.length) vn), by simpa using HR1.out.put HB1.out hm 8 (.slice V (s.stack.length + xs.length) vn), hm⟩
  · have e : pushF xs s = s := by simp [pushF, hf]
    rw [e]
    have t0 : (s.failed != 0) = true := by simpa using hf
    have t1 : (s.failed == 0) = false := by simpa using hf
    go_enter Tryz.func226, Tryz.ntmps226
    go_wp2
    refine bodyPost_ret (results_none rfl _ _ _) rfl ?_
    exact ⟨rfl, HM.out⟩

set_option maxRecDepth 100000 in
theorem pop_any (c : Env) (w0 wb w : World) (mb : Nat) (s : St) (h : M c w0 wb mb s w) (hs : s.stack.length ≤ 16) :
    Calls Tryz.prog 227 #[mp mb] w fun e w' => e = .returned (.int .i64 (popV s)) ∧ M c w0 wb mb (popF s) w' := by
  obtain ⟨S, m, ev, sn, tv, hb, hrw, hm, hrd, hcap⟩ := h.start
  have c21 := hb.cell 21
  have c8 := hb.cell 8
  have f21 := hb.free 21
  have f8 := hb.free 8
  simp [cellsOf] at c21 c8
  have HB := Lib.hid hb
  have HRW := Lib.hid hrw
  have HRD := Lib.hid hrd
  have HM := Lib.hid h
  clear hb hrw hrd h
  by_cases hf : s.failed = 0
  · rw [hf] at c21
    by_cases hlen : s.stack.length = 0
    · have e : popF s = { s with failed := 10 } := by simp [popF, hf, hlen]
      have e2 : popV s = 0 := by simp [popV, hf, List.getD, List.getElem?_eq_none (show s.stack.length ≤ s.stack.length - 1 by omega)]
      rw [e, e2]
      have HF := Lib.hid (show M c w0 wb mb { s with failed := 10 } (w.setCell ⟨mb, 21, none⟩ (.int .i64 10)) from ⟨_, ev, sn, tv, by simpa [cellsOf] using HB.out.set 21 (.int .i64 10), HRW.out.put HB.out hm _ _, hm⟩)
      have t0 : ((s.stack.length : Int) == 0) = true := by rw [hlen]; rfl
      go_enter Tryz.func227, Tryz.ntmps227
      go_wp2
      go_ret
      exact ⟨rfl, HF.out⟩
    · obtain ⟨k, hk⟩ : ∃ k, s.stack.length = k + 1 := ⟨s.stack.length - 1, by omega⟩
      have e : popF s = { s with stack := s.stack.take k } := by simp [popF, hf, hk]
      have e2 : popV s = s.stack.getD k 0 := by simp [popV, hf, hk]
      obtain ⟨a, rfl, hcell⟩ := HRD.out.2.2 (by omega)
      rw [e, e2]
      have hown := own_take HRW.out.st (show k ≤ s.stack.length by omega)
      have hr2 : Rws w0 wb w (s.stack.take k) s.ev s.sent s.tm (.slice (some a) k m) ev sn tv := ⟨by
        have hl : (s.stack.take k).length = k := by rw [List.length_take]; omega
        rw [hl]
        simpa [encs, List.map_take] using hown, HRW.out.ev, HRW.out.sn, HRW.out.tm, HRW.out.below, HRW.out.stay⟩
      have hl : (s.stack.take k).length = k := by rw [List.length_take]; omega
      have HF := Lib.hid (show ∀ n, M c w0 wb mb { s with stack := s.stack.take k } ((w.drewN n).setCell ⟨mb, 8, none⟩ (.slice (some a) k m)) from fun n => ⟨_, ev, sn, tv, by simpa [cellsOf, hf, hl] using (HB.out.drewN n).set 8 (.slice (some a) k m), (hr2.drewN n).put (HB.out.drewN n) hm _ _, hm⟩)
      obtain ⟨b, off, sp⟩ := a
      obtain rfl : sp = none := by
        have := hcell 0 (by omega)
        simpa [Addr.add] using World.cell?_spot this
      have g0 := hcell k (by omega)
      rw [show (⟨b, off, none⟩ : Addr).add k = ⟨b, off + k, none⟩ from Go.WideShapes.add_plain b off k] at g0
      have t0 : ((s.stack.length : Int) == 0) = false := beq_eq_false_iff_ne.mpr (by omega)
      have k0 : (0 : Int) ≤ (k : Int) := by omega
      have k1 : (k : Int) < (s.stack.length : Int) := by omega
      have k2 : wrap64 ((s.stack.length : Int) - 1) = (k : Int) := by unfold wrap64; omega
      have k3 : (s.stack.length : Int) - 1 = (k : Int) := by omega
      have hcut := cut_hi (P := Tryz.prog) 22 2 .i64 Tryz.underlying22 (i := (Tryz.prog.info? 2).get (by kernel_rfl)) (by kernel_rfl) (by kernel_rfl) (some ⟨b, off, none⟩) s.stack.length m k (by omega)
      clear hcell hown hr2 e e2 hk hl hlen
      go_enter Tryz.func227, Tryz.ntmps227
      go_wp2
      go_quiet (fail)
      go_wp2
      go_region
      go_wp2
      go_ret
      exact ⟨by simp, HF.out _⟩
  · have e : popF s = s := by simp [popF, hf]
    have e2 : popV s = 0 := by simp [popV, hf]
    rw [e, e2]
    have t0 : (s.failed != 0) = true := by simpa using hf
    have t1 : (s.failed == 0) = false := by simpa using hf
    go_enter Tryz.func227, Tryz.ntmps227
    go_wp2
    go_ret
    exact ⟨rfl, HM.out⟩
end Go.Proofs.YtlcdjgpblpodaaaGreatDoor.Ip
namespace Go.Proofs.YtlcdjgpblpodaaaGreatDoor.Ip
open Go.RowKit Go.Proofs.YtlcdjgpblpodaaaGreatDoorW.PrintWords

theorem popF_len (s : St) : (popF s).stack.length ≤ s.stack.length := by
  unfold popF
  split
  · split
    · exact Nat.le_refl _
    · simp only [List.length_take]; omega
  · exact Nat.le_refl _

set_option maxRecDepth 100000 in
theorem two_any (c : Env) (w0 wb w : World) (mb : Nat) (s : St) (h : M c w0 wb mb s w) (hs : s.stack.length ≤ 16) :
    Calls Tryz.prog 230 #[mp mb] w fun e w' => e = .returned (.tuple #[.int .i64 (twoX s), .int .i64 (twoY s)]) ∧ M c w0 wb mb (twoF s) w' := by
  have HM := Lib.hid h
  have hs2 := Nat.le_trans (popF_len s) hs
  clear h
  go_enter Tryz.func230, Tryz.ntmps230
  go_wp2_with fail
  refine (pop_any c w0 wb w mb s HM.out hs).mono ?_
  rintro e w1 ⟨rfl, h1⟩
  have H1 := Lib.hid h1
  clear h1
  go_wp2_with fail
  refine (pop_any c w0 wb w1 mb (popF s) H1.out hs2).mono ?_
  rintro e w2 ⟨rfl, h2⟩
  have H2 := Lib.hid h2
  clear h2
  go_wp2
  go_ret2
  exact ⟨rfl, H2.out⟩

set_option maxRecDepth 100000 in
theorem reckon_any (c : Env) (w0 wb w : World) (mb : Nat) (s : St) (op : Int) (h : M c w0 wb mb s w) (hs : s.stack.length ≤ 16) (ho : op = 6 ∨ op = 7 ∨ op = 8 ∨ op = 9 ∨ op = 10) :
    Calls Tryz.prog 228 #[.int .i64 op, mp mb] w fun e w' => e = .returned (.int .i64 (reckonV op (twoX s) (twoY s))) ∧ M c w0 wb mb (twoF s) w' := by
  have HT := Lib.hid (two_any c w0 wb w mb s h hs)
  obtain ⟨x, hx⟩ : ∃ x, x = twoX s := ⟨_, rfl⟩
  obtain ⟨y, hy⟩ : ∃ y, y = twoY s := ⟨_, rfl⟩
  rw [← hx, ← hy] at HT
  rw [← hx, ← hy]
  clear h hx hy
  rcases ho with rfl | rfl | rfl | rfl | rfl
  · go_enter Tryz.func228, Tryz.ntmps228
    go_wp2_with fail
    refine HT.out.mono ?_
    rintro e w1 ⟨rfl, h1⟩
    go_wp2
    go_ret
    exact ⟨rfl, h1⟩
  · go_enter Tryz.func228, Tryz.ntmps228
    go_wp2_with fail
    refine HT.out.mono ?_
    rintro e w1 ⟨rfl, h1⟩
    go_wp2
    go_ret
    exact ⟨rfl, h1⟩
  · go_enter Tryz.func228, Tryz.ntmps228
    go_wp2_with fail
    refine HT.out.mono ?_
    rintro e w1 ⟨rfl, h1⟩
    go_wp2
    go_ret
    exact ⟨rfl, h1⟩
  · go_enter Tryz.func228, Tryz.ntmps228
    go_wp2_with fail
    refine HT.out.mono ?_
    rintro e w1 ⟨rfl, h1⟩
    go_wp2_with fail
    refine (truth_any _ _).mono ?_
    rintro e w2 ⟨rfl, rfl⟩
    go_wp2
    go_ret
    exact ⟨rfl, h1⟩
  · go_enter Tryz.func228, Tryz.ntmps228
    go_wp2_with fail
    refine HT.out.mono ?_
    rintro e w1 ⟨rfl, h1⟩
    go_wp2_with fail
    refine (truth_any _ _).mono ?_
    rintro e w2 ⟨rfl, rfl⟩
    go_wp2
    go_ret
    exact ⟨rfl, h1⟩
end Go.Proofs.YtlcdjgpblpodaaaGreatDoor.Ip

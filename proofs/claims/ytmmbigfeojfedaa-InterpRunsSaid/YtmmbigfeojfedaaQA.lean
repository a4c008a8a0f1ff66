/- The reference's machine in memory; its effect, push, pop, value; what it sends. -/
import Derived.Test.YtmmbigfeojfedaaMach
import Derived.Test.YtmmbigfeojfedaaPush
import Derived.Test.YtmmbigfeojfedaaStep2
import Derived.Test.YtmmbigfeojfedaaOut
namespace Go.Proofs.Ytmmbigfeojfedaa.R
open Go.RowKit Go.Proofs.YtmmbigfeojfedaaW.PrintWords

def cellsOf (c : Env) (s : St) (sv ev sn tv : Value) : Array Value :=
  #[.slice c.nA c.NL.length c.nC, .slice c.kA c.CL.length c.kC, .string c.frm, .int .u64 c.serial, .int .i64 c.kind, .slice c.aA c.AL.length c.aC, .int .i64 c.now, .int .i64 s.at_, sv,
    .int .i64 (s.reg 0), .int .i64 (s.reg 1), .int .i64 (s.reg 2), .int .i64 (s.reg 3), .int .i64 (s.reg 4), .int .i64 (s.reg 5), .int .i64 (s.reg 6), .int .i64 (s.reg 7), ev, sn, tv, .int .i64 s.steps]
/-- Blocks that are neither the machine nor of a row's kind stay as they were. -/
def Stay (wb w : World) : Prop := ∀ (k : Nat) (C : Array Value) (t : Nat) (fr : Nat × Nat), wb.heap[k]? = some (.cells C t fr) → t ≠ 2 → t ≠ 86 → t ≠ 83 → t ≠ 105 → t ≠ 79 → w.heap[k]? = some (.cells C t fr)
theorem Stay.refl (w : World) : Stay w w := fun _ _ _ _ h _ _ _ _ _ => h
theorem Stay.trans {a b c : World} (h : Stay a b) (k : Stay b c) : Stay a c := fun i _ _ _ h0 h1 h2 h3 h4 h5 => k i _ _ _ (h i _ _ _ h0 h1 h2 h3 h4 h5) h1 h2 h3 h4 h5
theorem Stay.of_below {a b : World} (h : Below a.heap.size a b) : Stay a b := fun i _ _ _ h0 _ _ _ _ _ => (h.block i (lt_of_block h0)).trans h0
theorem Stay.put {a b : World} (h : Stay a b) {mb : Nat} {C : Array Value} (hb : Blk b mb C 79) (i : Nat) (x : Value) : Stay a (b.setCell ⟨mb, i, none⟩ x) := fun k C' t fr h0 h1 h2 h3 h4 h5 => by
  have h6 := h k C' t fr h0 h1 h2 h3 h4 h5
  refine (Below.heap_setCell b _ x k (fun (e : k = mb) => ?_)).trans h6
  subst e
  unfold Blk at hb
  rw [hb] at h6
  injection h6 with h6
  injection h6 with _ h7 _
  exact h5 h7.symm
theorem Stay.grown {a b c : World} (h : Stay a b) {base n size e : Nat} {v : Value} {xs : List Value} (ho : b.ownsRow base e size v n xs) (he : e = 2 ∨ e = 86 ∨ e = 83 ∨ e = 105) (hg : b.grownBy c v.ownBlock) : Stay a c := fun k C' t fr h0 h1 h2 h3 h4 h5 => by
  have h6 := h k C' t fr h0 h1 h2 h3 h4 h5
  refine (hg.block k (lt_of_block h6) (fun e1 => ?_)).trans h6
  obtain ⟨cells, hc⟩ := own_typed ho k e1.symm
  rw [h6] at hc
  injection hc with hc
  injection hc with _ h7 _
  rcases he with rfl | rfl | rfl | rfl
  · exact h1 h7
  · exact h2 h7
  · exact h3 h7
  · exact h4 h7

/-- The four rows. -/
structure Rws (w0 wb w : World) (stack : List Int) (evs : List (Int × Int)) (sent : List (ByteArray × Int × Int)) (tm : List (ByteArray × Bool × Int × Int × Int)) (sv ev sn tv : Value) : Prop where
  st : w.ownsRow w0.heap.size 2 1 sv stack.length (encs (Value.int .i64) stack)
  ev : w.ownsRow w0.heap.size 86 2 ev evs.length (encE evs)
  sn : w.ownsRow w0.heap.size 83 3 sn sent.length (encS sent)
  tm : w.ownsRow w0.heap.size 105 5 tv tm.length (encT tm)
  below : Below w0.heap.size w0 w
  stay : Stay wb w

/-- What a method meets and leaves. -/
def M (c : Env) (w0 wb : World) (mb : Nat) (s : St) (w : World) : Prop :=
  ∃ sv ev sn tv, Blk w mb (cellsOf c s sv ev sn tv) 79 ∧ Rws w0 wb w s.stack s.ev s.sent s.tm sv ev sn tv ∧ w0.heap.size ≤ mb

section
variable {c : Env} {w0 wb w w1 : World} {mb : Nat} {st : List Int} {evs : List (Int × Int)} {se : List (ByteArray × Int × Int)} {tm : List (ByteArray × Bool × Int × Int × Int)} {sv ev sn tv : Value}
theorem Rws.put {C : Array Value} (h : Rws w0 wb w st evs se tm sv ev sn tv) (hb : Blk w mb C 79) (hm : w0.heap.size ≤ mb) (i : Nat) (x : Value) : Rws w0 wb (w.setCell ⟨mb, i, none⟩ x) st evs se tm sv ev sn tv :=
  ⟨own_put h.st hb (by decide) i, own_put h.ev hb (by decide) i, own_put h.sn hb (by decide) i, own_put h.tm hb (by decide) i, h.below.setCell (p := ⟨mb, i, none⟩) hm x, h.stay.put hb i x⟩
theorem Rws.drew (h : Rws w0 wb w st evs se tm sv ev sn tv) : Rws w0 wb w.drew st evs se tm sv ev sn tv := ⟨h.st, h.ev, h.sn, h.tm, h.below.drew, h.stay⟩
theorem Rws.drewN (h : Rws w0 wb w st evs se tm sv ev sn tv) (n : Nat) : Rws w0 wb (w.drewN n) st evs se tm sv ev sn tv := ⟨h.st, h.ev, h.sn, h.tm, below_drewN h.below n, h.stay⟩
theorem Rws.then_ (h : Rws w0 wb w st evs se tm sv ev sn tv) (hb : Below w.heap.size w w1) : Rws w0 wb w1 st evs se tm sv ev sn tv :=
  ⟨pw_own_below h.st hb, pw_own_below h.ev hb, pw_own_below h.sn hb, pw_own_below h.tm hb, h.below.trans (hb.mono h.below.size), h.stay.trans (Stay.of_below hb)⟩
theorem Rws.alloc (h : Rws w0 wb w st evs se tm sv ev sn tv) (o : Obj) : Rws w0 wb (w.alloc o) st evs se tm sv ev sn tv := h.then_ ((Below.refl _ _).alloc (Nat.le_refl _) o)
theorem Rws.grow_st (h : Rws w0 wb w st evs se tm sv ev sn tv) {st1 : List Int} {sv1 : Value} (ho : w1.ownsRow w0.heap.size 2 1 sv1 st1.length (encs (Value.int .i64) st1)) (hg : w.grownBy w1 sv.ownBlock) (hB : Below w0.heap.size w0 w1) : Rws w0 wb w1 st1 evs se tm sv1 ev sn tv :=
  ⟨ho, own_grown h.ev h.st (by decide) hg, own_grown h.sn h.st (by decide) hg, own_grown h.tm h.st (by decide) hg, hB, h.stay.grown h.st (.inl rfl) hg⟩
theorem Rws.grow_ev (h : Rws w0 wb w st evs se tm sv ev sn tv) {ev1 : List (Int × Int)} {v1 : Value} (ho : w1.ownsRow w0.heap.size 86 2 v1 ev1.length (encE ev1)) (hg : w.grownBy w1 ev.ownBlock) (hB : Below w0.heap.size w0 w1) : Rws w0 wb w1 st ev1 se tm sv v1 sn tv :=
  ⟨own_grown h.st h.ev (by decide) hg, ho, own_grown h.sn h.ev (by decide) hg, own_grown h.tm h.ev (by decide) hg, hB, h.stay.grown h.ev (.inr (.inl rfl)) hg⟩
theorem Rws.grow_sn (h : Rws w0 wb w st evs se tm sv ev sn tv) {sn1 : List (ByteArray × Int × Int)} {v1 : Value} (ho : w1.ownsRow w0.heap.size 83 3 v1 sn1.length (encS sn1)) (hg : w.grownBy w1 sn.ownBlock) (hB : Below w0.heap.size w0 w1) : Rws w0 wb w1 st evs sn1 tm sv ev v1 tv :=
  ⟨own_grown h.st h.sn (by decide) hg, own_grown h.ev h.sn (by decide) hg, ho, own_grown h.tm h.sn (by decide) hg, hB, h.stay.grown h.sn (.inr (.inr (.inl rfl))) hg⟩
theorem Rws.grow_tm (h : Rws w0 wb w st evs se tm sv ev sn tv) {tm1 : List (ByteArray × Bool × Int × Int × Int)} {v1 : Value} (ho : w1.ownsRow w0.heap.size 105 5 v1 tm1.length (encT tm1)) (hg : w.grownBy w1 tv.ownBlock) (hB : Below w0.heap.size w0 w1) : Rws w0 wb w1 st evs se tm1 sv ev sn v1 :=
  ⟨own_grown h.st h.tm (by decide) hg, own_grown h.ev h.tm (by decide) hg, own_grown h.sn h.tm (by decide) hg, ho, hB, h.stay.grown h.tm (.inr (.inr (.inr rfl))) hg⟩
end
theorem M.drew {c : Env} {w0 wb w : World} {mb : Nat} {s : St} (h : M c w0 wb mb s w) : M c w0 wb mb s w.drew := by
  obtain ⟨sv, ev, sn, tv, hb, hr, hm⟩ := h
  exact ⟨sv, ev, sn, tv, hb, hr.drew, hm⟩
theorem M.drewN {c : Env} {w0 wb w : World} {mb : Nat} {s : St} (h : M c w0 wb mb s w) (n : Nat) : M c w0 wb mb s (w.drewN n) := by
  obtain ⟨sv, ev, sn, tv, hb, hr, hm⟩ := h
  exact ⟨sv, ev, sn, tv, hb.drewN n, hr.drewN n, hm⟩
theorem M.then_ {c : Env} {w0 wb w w1 : World} {mb : Nat} {s : St} (h : M c w0 wb mb s w) (hb : Below w.heap.size w w1) : M c w0 wb mb s w1 := by
  obtain ⟨sv, ev, sn, tv, hb', hr, hm⟩ := h
  exact ⟨sv, ev, sn, tv, hb'.below hb, hr.then_ hb, hm⟩
theorem M.below {c : Env} {w0 wb w : World} {mb : Nat} {s : St} (h : M c w0 wb mb s w) : Below w0.heap.size w0 w := by
  obtain ⟨sv, ev, sn, tv, hb', hr, hm⟩ := h
  exact hr.below
theorem M.alloc {c : Env} {w0 wb w : World} {mb : Nat} {s : St} (h : M c w0 wb mb s w) (o : Obj) : M c w0 wb mb s (w.alloc o) := h.then_ ((Below.refl _ _).alloc (Nat.le_refl _) o)

theorem M.rebase {c : Env} {w0 wa wb w : World} {mb : Nat} {s : St} (h : M c w0 wb mb s w) (k : Stay wa wb) : M c w0 wa mb s w := by
  obtain ⟨sv, ev, sn, tv, hb', hr, hm⟩ := h
  exact ⟨sv, ev, sn, tv, hb', ⟨hr.st, hr.ev, hr.sn, hr.tm, hr.below, k.trans hr.stay⟩, hm⟩
theorem M.stay {c : Env} {w0 wb w : World} {mb : Nat} {s : St} (h : M c w0 wb mb s w) : Stay wb w := by
  obtain ⟨sv, ev, sn, tv, hb', hr, hm⟩ := h
  exact hr.stay
theorem M.here {c : Env} {w0 wb w : World} {mb : Nat} {s : St} (h : M c w0 wb mb s w) : M c w0 w mb s w := by
  obtain ⟨sv, ev, sn, tv, hb', hr, hm⟩ := h
  exact ⟨sv, ev, sn, tv, hb', ⟨hr.st, hr.ev, hr.sn, hr.tm, hr.below, Stay.refl _⟩, hm⟩
theorem Stay.blk {a b : World} (h : Stay a b) {k t : Nat} {C : Array Value} (hb : Blk a k C t) (ht : t ≠ 2 ∧ t ≠ 86 ∧ t ≠ 83 ∧ t ≠ 105 ∧ t ≠ 79) : Blk b k C t := h k C t _ hb ht.1 ht.2.1 ht.2.2.1 ht.2.2.2.1 ht.2.2.2.2
theorem info86 : (Try.prog.info? 86).map (fun i => (i.zero, i.size, i.bytes)) = some (some (.agg #[.int .i64 0, .int .i64 0]), 2, 16) := by kernel_rfl
theorem info83 : (Try.prog.info? 83).map (fun i => (i.zero, i.size, i.bytes)) = some (some (.agg #[.string ⟨#[]⟩, .int .i64 0, .int .i64 0]), 3, 32) := by kernel_rfl
theorem info105 : (Try.prog.info? 105).map (fun i => (i.zero, i.size, i.bytes)) = some (some (.agg #[.string ⟨#[]⟩, .bool false, .int .i64 0, .int .i64 0, .int .i64 0]), 5, 48) := by kernel_rfl
end Go.Proofs.Ytmmbigfeojfedaa.R
namespace Go.Proofs.Ytmmbigfeojfedaa.R
open Go.RowKit Go.Proofs.YtmmbigfeojfedaaW.PrintWords

def takesF (op : Nat) : Int := [0, 0, 0, 1, 0, 0, 2, 2, 2, 2, 2, 1, 1, 1, 2, 0, 1, 2, 2, 2, 0, 0, 0, 0].getD op 0
def givesF (op : Nat) : Int := [0, 1, 1, 0, 1, 1, 1, 1, 1, 1, 1, 1, 2, 0, 2, 0, 0, 0, 0, 0, 0, 0, 1, 1].getD op 0
theorem yes_any (b : Bool) (w : World) : Calls Try.prog 44 #[.bool b] w fun e w' => e = .returned (.int .i64 (truth b)) ∧ w' = w := by
  cases b
  · go_enter Try.func44, Try.ntmps44
    go_wp2
    go_ret
    exact ⟨rfl, rfl⟩
  · go_enter Try.func44, Try.ntmps44
    go_wp2
    go_ret
    exact ⟨rfl, rfl⟩
set_option maxRecDepth 100000 in
set_option maxHeartbeats 4000000 in
theorem effect_any (op : Nat) (h : op < 24) (w : World) : Calls Try.prog 39 #[.int .i64 (op : Int)] w fun e w' => e = .returned (.tuple #[.int .i64 (takesF op), .int .i64 (givesF op)]) ∧ w' = w := by
  match op, h with
  | 0, _ | 1, _ | 2, _ | 3, _ | 4, _ | 5, _ | 6, _ | 7, _ | 8, _ | 9, _ | 10, _ | 11, _ | 12, _ | 13, _ | 14, _ | 15, _ | 16, _ | 17, _ | 18, _ | 19, _ | 20, _ | 21, _ | 22, _ | 23, _ =>
    go_enter Try.func39, Try.ntmps39
    go_wp2
    refine bodyPost_ret (results_tmp2 rfl _ _ _) rfl ?_
    exact ⟨rfl, rfl⟩
  | n + 24, h => exact absurd h (by omega)
end Go.Proofs.Ytmmbigfeojfedaa.R
namespace Go.Proofs.Ytmmbigfeojfedaa.R
open Go.RowKit Go.Proofs.YtmmbigfeojfedaaW.PrintWords

theorem reads_one (w : World) (x : Int) : ReadsOf (Value.int .i64) (0 : Int) (w.alloc (.cells #[.int .i64 x] 2)) (some ⟨w.heap.size, 0, none⟩) 1 [x] := by
  refine ⟨rfl, by omega, fun _ => ⟨_, rfl, fun i hi => ?_⟩⟩
  obtain rfl : i = 0 := by omega
  exact (Blk.new w #[.int .i64 x] 2).cell 0
set_option maxRecDepth 100000 in
set_option maxHeartbeats 4000000 in
theorem push_any (c : Env) (w0 wb w : World) (mb : Nat) (s : St) (x : Int) (h : M c w0 wb mb s w) (hs : s.stack.length ≤ 16) :
    Calls Try.prog 41 #[mp mb, .int .i64 x] w fun e w' => e = .returned (.tuple #[]) ∧ M c w0 wb mb { s with stack := s.stack ++ [x] } w' := by
  obtain ⟨sv, ev, sn, tv, hb, hrw, hm⟩ := h
  obtain ⟨A, n, rfl⟩ := own_slice hrw.st
  have u : ∀ i, w.cell? ⟨mb, i, none⟩ = _ := fun i => hb.cell i
  unfold cellsOf at u
  have lu := hb.lt
  have HBA := Lib.hid (hb.alloc (.cells #[.int .i64 x] 2))
  have HRA := Lib.hid (hrw.alloc (.cells #[.int .i64 x] 2))
  have HX := Lib.hid (show ReadsOf (Value.int .i64) (0 : Int) (w.alloc (.cells #[.int .i64 x] 2)) (some ⟨w.heap.size, 0, none⟩) 1 [x] from reads_one w x)
  have HS := Lib.hid (hrw.alloc (.cells #[.int .i64 x] 2)).below.size
  have HL := Lib.hid (show (s.stack.length + 1) * 8 ≤ 140737488355328 by omega)
  clear hb hrw hs
  go_enter Try.func41, Try.ntmps41
  go_wp2_with (at_builtin; refine print_append_row_of (w0 := w0) (Value.int .i64) (0 : Int) w0.heap.size rfl (.tmp 8) (.tmp 10) 28 2 (.int .i64 0) 8 rfl Try.underlying28 info2 rfl (by omega) (fun _ => rfl) _ s.stack [x] (some ⟨w.heap.size, 0, none⟩) 1 1 rfl rfl HRA.out.st HX.out HRA.out.below HS.out HL.out ?_; intro v1 w3 ho hbl hg hat; obtain ⟨V, vn, rfl⟩ := own_slice ho; have HB3 := Lib.hid (blk_grown HBA.out HRA.out.st (by decide) hg); have HR3 := Lib.hid (HRA.out.grow_st ho hg hbl); have u3 : ∀ i, w3.cell? ⟨mb, i, none⟩ = _ := fun i => HB3.out.cell i; have f3 : ∀ i, w3.frozen? ⟨mb, i, none⟩ = false := fun i => HB3.out.free i; have l3 := HB3.out.lt; unfold cellsOf at u3; clear ho hbl hg hat u lu)
  go_end0
  exact ⟨rfl, _, ev, sn, tv, by simpa [cellsOf] using HB3.out.set 8 (.slice V (s.stack ++ [x]).length vn), by simpa using HR3.out.put HB3.out hm 8 (.slice V (s.stack ++ [x]).length vn), hm⟩

/-- A new stack, grown out of an empty slice of its own. -/
theorem Rws.fresh {w0 wb w w1 : World} {st : List Int} {evs : List (Int × Int)} {se : List (ByteArray × Int × Int)} {tm : List (ByteArray × Bool × Int × Int × Int)} {sv ev sn tv v0 : Value} {m : Nat} {xs : List Value}
    (h : Rws w0 wb w st evs se tm sv ev sn tv) (h0 : w.ownsRow w0.heap.size 2 1 v0 m xs) {st1 : List Int} {sv1 : Value} (ho : w1.ownsRow w0.heap.size 2 1 sv1 st1.length (encs (Value.int .i64) st1)) (hg : w.grownBy w1 v0.ownBlock) (hB : Below w0.heap.size w0 w1) : Rws w0 wb w1 st1 evs se tm sv1 ev sn tv :=
  ⟨ho, own_grown h.ev h0 (by decide) hg, own_grown h.sn h0 (by decide) hg, own_grown h.tm h0 (by decide) hg, hB, h.stay.grown h0 (.inl rfl) hg⟩

set_option maxRecDepth 100000 in
set_option maxHeartbeats 4000000 in
theorem pop_any (c : Env) (w0 wb w : World) (mb : Nat) (s : St) (N : Nat) (h : M c w0 wb mb s w) (hN : s.stack.length = N + 1) (hs : N ≤ 16) :
    Calls Try.prog 40 #[mp mb] w fun e w' => e = .returned (.int .i64 (s.stack.getD N 0)) ∧ M c w0 wb mb { s with stack := s.stack.take N } w' := by
  obtain ⟨sv, ev, sn, tv, hb, hrw, hm⟩ := h
  obtain ⟨A, n, rfl⟩ := own_slice hrw.st
  have u : ∀ i, w.cell? ⟨mb, i, none⟩ = _ := fun i => hb.cell i
  unfold cellsOf at u
  have hst := hrw.st
  rw [hN] at u hst
  have hrd : ReadsOf (Value.int .i64) (0 : Int) w A (N + 1) s.stack := own_reads_of' hst
  obtain ⟨g, cap, e, h1, h2⟩ := hst.form (by omega)
  injection e with e1 _ e3
  subst e1
  subst e3
  have lu := hb.lt
  obtain ⟨ad, had, q⟩ := hrd.2.2 (by omega)
  injection had with had
  subst had
  have g0 := q N (by omega)
  rw [show (⟨g, 0, none⟩ : Addr).add N = ⟨g, N, none⟩ by rw [Go.WideShapes.add_plain, Nat.zero_add]] at g0
  obtain ⟨x, hx⟩ : ∃ x, x = s.stack.getD N 0 := ⟨_, rfl⟩
  rw [← hx] at g0
  rw [← hx]
  have hl : (s.stack.take N).length = N := by rw [List.length_take]; omega
  have hcap : N + 1 ≤ n := by
    rcases hst.2 with ⟨e, _⟩ | ⟨g', cap', cur, e, _, _, h3, _⟩
    · cases e
    · injection e with _ _ e3
      omega
  have HBA := Lib.hid (hb.alloc (.cells #[] 2))
  have HRA := Lib.hid (hrw.alloc (.cells #[] 2))
  have HO0 := Lib.hid (show (w.alloc (.cells #[] 2)).ownsRow w0.heap.size 2 1 (.slice (some ⟨w.heap.size, 0, none⟩) 0 0) ([] : List Int).length (encs (Value.int .i64) []) from World.ownsRow_lit w #[] 0 hrw.below.size (Nat.zero_le _) rfl)
  have HX := Lib.hid (show ReadsOf (Value.int .i64) (0 : Int) (w.alloc (.cells #[] 2)) (some ⟨g, 0, none⟩) N (s.stack.take N) from (hrd.take_ N (by omega)).allocS _)
  have HS := Lib.hid (hrw.alloc (.cells #[] 2)).below.size
  have HL := Lib.hid (show (([] : List Int).length + N) * 8 ≤ 140737488355328 by simp only [List.length_nil, Nat.zero_add]; omega)
  have k0 : (0 : Int) ≤ (N : Int) := by omega
  have k1 : (N : Int) < ((N + 1 : Nat) : Int) := by omega
  have k2 : wrap64 (((N + 1 : Nat) : Int) - 1) = (N : Int) := by unfold wrap64; omega
  have hcut := cut_hi (P := Try.prog) 28 2 .i64 Try.underlying28 (i := (Try.prog.info? 2).get (by kernel_rfl)) (by kernel_rfl) (by kernel_rfl) (some ⟨g, 0, none⟩) (N + 1) n N (by omega)
  have HLL := Lib.hid hl
  clear hb hrw hst hrd q hx hN hl
  go_enter Try.func40, Try.ntmps40
  go_wp2_with (at_builtin; refine print_append_row_of (w0 := w0) (Value.int .i64) (0 : Int) w0.heap.size rfl (.tmp 19) (.tmp 25) 28 2 (.int .i64 0) 8 rfl Try.underlying28 info2 rfl (by omega) (fun _ => rfl) _ [] (s.stack.take N) (some ⟨g, 0, none⟩) N n rfl rfl HO0.out HX.out HRA.out.below HS.out HL.out ?_; intro v1 w3 ho hbl hg hat; obtain ⟨V, vn, rfl⟩ := own_slice ho; have HB3 := Lib.hid (blk_grown HBA.out HO0.out (by decide) hg); have HR3 := Lib.hid (R.Rws.fresh HRA.out HO0.out (show w3.ownsRow w0.heap.size 2 1 (.slice V (s.stack.take N).length vn) (s.stack.take N).length (encs (Value.int .i64) (s.stack.take N)) from ho) hg hbl); have u3 : ∀ i, w3.cell? ⟨mb, i, none⟩ = _ := fun i => HB3.out.cell i; have f3 : ∀ i, w3.frozen? ⟨mb, i, none⟩ = false := fun i => HB3.out.free i; have l3 := HB3.out.lt; unfold cellsOf at u3; clear ho hbl hg hat u lu)
  go_ret
  exact ⟨rfl, _, ev, sn, tv, by simpa [cellsOf] using HB3.out.set 8 (.slice V (s.stack.take N).length vn), by simpa using HR3.out.put HB3.out hm 8 (.slice V (s.stack.take N).length vn), hm⟩
end Go.Proofs.Ytmmbigfeojfedaa.R
namespace Go.Proofs.Ytmmbigfeojfedaa.R
open Go.RowKit Go.Proofs.YtmmbigfeojfedaaW.PrintWords

def valF (c : Env) (op : Nat) (a x y : Int) (s : St) : Int :=
  match op with
  | 1 => a
  | 2 => s.reg a.toNat
  | 4 => c.AL.getD a.toNat 0
  | 5 => c.kind
  | 6 | 7 | 8 | 9 | 10 => reckonV op x y
  | 11 => truth (x == 0)
  | 22 => c.now
  | 23 => wrap64 c.serial
  | _ => 0
def plainOp (op : Nat) : Bool := [1, 5, 6, 7, 8, 9, 10, 11, 22, 23].contains op
set_option maxRecDepth 100000 in
set_option maxHeartbeats 4000000 in
theorem value_plain (c : Env) (w0 wb w : World) (mb : Nat) (s : St) (op : Nat) (a x y : Int) (h : M c w0 wb mb s w) (hop : plainOp op = true) :
    Calls Try.prog 43 #[mp mb, .agg #[.int .i64 (op : Int), .int .i64 a], .int .i64 x, .int .i64 y] w fun e w' => e = .returned (.int .i64 (valF c op a x y s)) ∧ M c w0 wb mb s w' := by
  have HM := Lib.hid (h.alloc (.cells #[.int .i64 (op : Int), .int .i64 a] 76))
  obtain ⟨sv, ev, sn, tv, hb, hrw, hm⟩ := h
  have u : ∀ i, w.cell? ⟨mb, i, none⟩ = _ := fun i => hb.cell i
  unfold cellsOf at u
  have lu := hb.lt
  clear hb hrw
  match op, hop with
  | 1, _ | 5, _ | 6, _ | 7, _ | 8, _ | 22, _ | 23, _ =>
    go_enter Try.func43, Try.ntmps43
    go_wp2
    go_ret
    exact ⟨rfl, HM.out⟩
  | 9, _ | 10, _ | 11, _ =>
    go_enter Try.func43, Try.ntmps43
    go_wp2_with fail
    refine (yes_any _ _).mono ?_
    rintro e w' ⟨rfl, rfl⟩
    go_wp2
    go_ret
    exact ⟨rfl, HM.out⟩
end Go.Proofs.Ytmmbigfeojfedaa.R
namespace Go.Proofs.Ytmmbigfeojfedaa.R
open Go.RowKit Go.Proofs.YtmmbigfeojfedaaW.PrintWords

theorem cells_reg {c : Env} {s : St} {sv ev sn tv : Value} {k : Nat} (h : k < 8) : (cellsOf c s sv ev sn tv)[9 + k]? = some (.int .i64 (s.reg k)) := by
  match k, h with
  | 0, _ | 1, _ | 2, _ | 3, _ | 4, _ | 5, _ | 6, _ | 7, _ => rfl
theorem M.boxed {c : Env} {w0 wb w : World} {mb : Nat} {s : St} (h : M c w0 wb mb s w) (op a : Int) : ∃ w1 bk, w1 = w.alloc (.cells #[.int .i64 op, .int .i64 a] 76) ∧ bk = w.heap.size ∧ M c w0 wb mb s w1 ∧ Blk w1 bk #[.int .i64 op, .int .i64 a] 76 :=
  ⟨_, _, rfl, rfl, h.alloc _, Blk.new _ _ _⟩
set_option maxRecDepth 100000 in
set_option maxHeartbeats 4000000 in
theorem value_2 (c : Env) (w0 wb w : World) (mb : Nat) (s : St) (k : Nat) (hk : k < 8) (x y : Int) (h : M c w0 wb mb s w) :
    Calls Try.prog 43 #[mp mb, .agg #[.int .i64 2, .int .i64 (k : Int)], .int .i64 x, .int .i64 y] w fun e w' => e = .returned (.int .i64 (s.reg k)) ∧ M c w0 wb mb s w' := by
  obtain ⟨w1, bk, hw1, hbkn, h1, hbk⟩ := h.boxed 2 (k : Int)
  have q0 := hbk.cell 0
  have q1 := hbk.cell 1
  simp at q0 q1
  have HM := Lib.hid h1
  obtain ⟨sv, ev, sn, tv, hb, hr, hm⟩ := HM.out
  have ck := hb.cell (9 + k)
  rw [cells_reg hk] at ck
  have k0 : (0 : Int) ≤ (k : Int) := by omega
  have k1 : (k : Int) < 8 := by omega
  obtain ⟨z, hz⟩ : ∃ z, z = s.reg k := ⟨_, rfl⟩
  rw [← hz] at ck
  rw [← hz]
  clear hz hb hr h h1 hbk
  go_enter Try.func43, Try.ntmps43
  go_upto_region 1 with fail
  rw [show w.alloc (.cells #[.int .i64 2, .int .i64 (k : Int)] 76) = w1 from hw1.symm, ← hbkn]
  clear hw1 hbkn
  go_wp2_with fail
  go_quiet (fail)
  go_wp2
  go_ret
  exact ⟨rfl, HM.out.drewN _⟩
set_option maxRecDepth 100000 in
set_option maxHeartbeats 4000000 in
theorem value_4 (c : Env) (w0 wb w : World) (mb : Nat) (s : St) (k : Nat) (x y : Int) (hE : EnvOk c w0) (h : M c w0 wb mb s w) :
    Calls Try.prog 43 #[mp mb, .agg #[.int .i64 4, .int .i64 (k : Int)], .int .i64 x, .int .i64 y] w fun e w' => e = .returned (.int .i64 (c.AL.getD k 0)) ∧ M c w0 wb mb s w' := by
  obtain ⟨w1, bk, hw1, hbkn, h1, hbk⟩ := h.boxed 4 (k : Int)
  have q0 := hbk.cell 0
  have q1 := hbk.cell 1
  simp at q0 q1
  have HM := Lib.hid h1
  obtain ⟨sv, ev, sn, tv, hb, hr, hm⟩ := HM.out
  have c5 := hb.cell 5
  simp [cellsOf] at c5
  have k0 : (0 : Int) ≤ (k : Int) := by omega
  obtain ⟨z, hz⟩ : ∃ z, z = c.AL.getD k 0 := ⟨_, rfl⟩
  rw [← hz]
  have HE := Lib.hid (hE.below HM.out.below)
  have HZ := Lib.hid hz
  clear hz hb hr h h1 hbk hE
  go_enter Try.func43, Try.ntmps43
  go_upto_region 1 with fail
  rw [show w.alloc (.cells #[.int .i64 4, .int .i64 (k : Int)] 76) = w1 from hw1.symm, ← hbkn]
  clear hw1 hbkn
  by_cases hlt : k < c.AL.length
  · obtain ⟨b, off, hA, hc⟩ := HE.out.arg hlt
    rw [← HZ.out] at hc
    rw [hA] at c5
    have k1 : (k : Int) < (c.AL.length : Int) := by omega
    have t0 : decide ((k : Int) < (c.AL.length : Int)) = true := decide_eq_true k1
    go_wp2_with fail
    go_quiet (fail)
    go_wp2_with fail
    go_quiet (fail)
    go_wp2
    go_ret
    exact ⟨rfl, (HM.out.drewN _).drewN _⟩
  · have t0 : decide ((k : Int) < (c.AL.length : Int)) = false := decide_eq_false (by omega)
    have hz0 : z = 0 := by rw [HZ.out, List.getD_eq_getElem?_getD, List.getElem?_eq_none (by omega)]; rfl
    subst hz0
    go_wp2_with fail
    go_quiet (fail)
    go_wp2
    go_ret
    exact ⟨rfl, HM.out.drewN _⟩
end Go.Proofs.Ytmmbigfeojfedaa.R
namespace Go.Proofs.Ytmmbigfeojfedaa.R
open Go.RowKit Go.Proofs.YtmmbigfeojfedaaW.PrintWords

/-- The letter that the machine would send, in memory. -/
theorem M.send {c : Env} {w0 wb w w1 : World} {mb : Nat} {s : St} {sv ev sn tv v1 : Value} (dst : ByteArray) (k x : Int) (hb : Blk w mb (cellsOf c s sv ev sn tv) 79) (hr : Rws w0 wb w s.stack s.ev s.sent s.tm sv ev sn tv) (hm : w0.heap.size ≤ mb)
    (ho : w1.ownsRow w0.heap.size 83 3 v1 (s.sent.length + 1) (encS s.sent ++ [.string dst, .int .i64 k, .int .i64 x])) (hg : w.grownBy w1 sn.ownBlock) (hB : Below w0.heap.size w0 w1) :
    Blk w1 mb (cellsOf c s sv ev sn tv) 79 ∧ M c w0 wb mb { s with sent := s.sent ++ [(dst, k, x)] } (w1.setCell ⟨mb, 18, none⟩ v1) := by
  have hb1 := blk_grown hb hr.sn (by decide) hg
  have hr1 := hr.grow_sn (sn1 := s.sent ++ [(dst, k, x)]) (by rw [encS_snoc, List.length_append]; exact ho) hg hB
  exact ⟨hb1, sv, ev, v1, tv, by simpa [cellsOf] using hb1.set 18 v1, hr1.put hb1 hm _ _, hm⟩
theorem M.remind {c : Env} {w0 wb w w1 : World} {mb : Nat} {s : St} {sv ev sn tv v1 : Value} (n : ByteArray) (b : Bool) (d p k : Int) (hb : Blk w mb (cellsOf c s sv ev sn tv) 79) (hr : Rws w0 wb w s.stack s.ev s.sent s.tm sv ev sn tv) (hm : w0.heap.size ≤ mb)
    (ho : w1.ownsRow w0.heap.size 105 5 v1 (s.tm.length + 1) (encT s.tm ++ [.string n, .bool b, .int .i64 d, .int .i64 p, .int .i64 k])) (hg : w.grownBy w1 tv.ownBlock) (hB : Below w0.heap.size w0 w1) :
    Blk w1 mb (cellsOf c s sv ev sn tv) 79 ∧ M c w0 wb mb { s with tm := s.tm ++ [(n, b, d, p, k)] } (w1.setCell ⟨mb, 19, none⟩ v1) := by
  have hb1 := blk_grown hb hr.tm (by decide) hg
  have hr1 := hr.grow_tm (tm1 := s.tm ++ [(n, b, d, p, k)]) (by rw [encT_snoc, List.length_append]; exact ho) hg hB
  exact ⟨hb1, sv, ev, sn, v1, by simpa [cellsOf] using hb1.set 19 v1, hr1.put hb1 hm _ _, hm⟩


/-- What a step that sends answers: whether it goes on, the error, the state. -/
def sendG (d : ByteArray) (k x : Int) (s : St) : Bool × Int × St :=
  if d = ⟨#[]⟩ then (true, 0, s) else if (4 : Int) ≤ s.sent.length then (false, 12, s) else (true, 0, { s with sent := s.sent ++ [(d, k, x)] })

set_option maxRecDepth 100000 in
set_option maxHeartbeats 4000000 in
theorem out_18 (c : Env) (w0 wb w : World) (mb : Nat) (s : St) (a x y : Int) (h : M c w0 wb mb s w) (hsn : s.sent.length ≤ 1000) :
    Calls Try.prog 42 #[mp mb, .agg #[.int .i64 18, .int .i64 a], .int .i64 x, .int .i64 y] w fun e w' => e = .returned (.tuple #[.bool (sendG c.frm x y s).1, .int .i64 (sendG c.frm x y s).2.1]) ∧ M c w0 wb mb (sendG c.frm x y s).2.2 w' := by
  obtain ⟨w1, bk, hw1, hbkn, h1, hbk⟩ := h.boxed 18 a
  have q0 := hbk.cell 0
  have q1 := hbk.cell 1
  simp at q0 q1
  have HM := Lib.hid h1
  obtain ⟨sv, ev, sn, tv, hb, hr, hm⟩ := HM.out
  obtain ⟨A, n, rfl⟩ := own_slice hr.sn
  have u : ∀ i, w1.cell? ⟨mb, i, none⟩ = _ := fun i => hb.cell i
  unfold cellsOf at u
  have lu := hb.lt
  have HB := Lib.hid hb
  have HR := Lib.hid hr
  have HL := Lib.hid (show (s.sent.length + 1) * 32 ≤ 140737488355328 by omega)
  clear hb hr h h1 hbk
  obtain ⟨R, hR⟩ : ∃ R, R = sendG c.frm x y s := ⟨_, rfl⟩
  rw [← hR]
  have HRR := Lib.hid hR
  clear hR
  go_enter Try.func42, Try.ntmps42
  go_upto_region 1 with fail
  rw [show w.alloc (.cells #[.int .i64 18, .int .i64 a] 76) = w1 from hw1.symm, ← hbkn]
  clear hw1 hbkn
  by_cases hto : c.frm = ⟨#[]⟩
  · have HE2 := Lib.hid (show R = (true, 0, s) by rw [HRR.out]; simp [sendG, hto])
    rw [hto] at u
    go_wp2
    refine bodyPost_ret (results_tmp2 rfl _ _ _) rfl ?_
    rw [HE2.out]
    exact ⟨rfl, HM.out⟩
  · have t1 := str_ne hto
    by_cases h4 : (4 : Int) ≤ s.sent.length
    · have HE2 := Lib.hid (show R = (false, 12, s) by rw [HRR.out]; simp [sendG, hto, h4])
      have d4 : decide ((4 : Int) ≤ (s.sent.length : Int)) = true := decide_eq_true h4
      go_wp2
      refine bodyPost_ret (results_tmp2 rfl _ _ _) rfl ?_
      rw [HE2.out]
      exact ⟨rfl, HM.out⟩
    · have HE2 := Lib.hid (show R = (true, 0, { s with sent := s.sent ++ [(c.frm, x, y)] }) by rw [HRR.out]; simp [sendG, hto, h4])
      have d4 : decide ((4 : Int) ≤ (s.sent.length : Int)) = false := decide_eq_false h4
      clear hto
      go_wp2_with (at_builtin; refine print_append_cells (w0 := w0) w0.heap.size rfl (.tmp 48) (.tmp 53) 46 83 _ 3 32 rfl Try.underlying46 info83 rfl (by omega) (by omega) _ s.sent.length (encS s.sent) [.string c.frm, .int .i64 x, .int .i64 y] rfl rfl rfl (by simp [Value.oneCell']) HR.out.sn HR.out.below HR.out.below.size HL.out ?_; intro v1 w3 ho hbl hg hat; obtain ⟨V, vn, rfl⟩ := own_slice ho; have HS := Lib.hid (M.send c.frm x y HB.out HR.out hm ho hg hbl); have u3 : ∀ i, w3.cell? ⟨mb, i, none⟩ = _ := fun i => HS.out.1.cell i; have f3 : ∀ i, w3.frozen? ⟨mb, i, none⟩ = false := fun i => HS.out.1.free i; have l3 := HS.out.1.lt; unfold cellsOf at u3; clear ho hbl hg hat u lu)
      refine bodyPost_ret (results_tmp2 rfl _ _ _) rfl ?_
      rw [HE2.out]
      exact ⟨rfl, HS.out.2⟩
end Go.Proofs.Ytmmbigfeojfedaa.R
namespace Go.Proofs.Ytmmbigfeojfedaa.R
open Go.RowKit Go.Proofs.YtmmbigfeojfedaaW.PrintWords

set_option maxRecDepth 100000 in
set_option maxHeartbeats 4000000 in
theorem out_17 (c : Env) (w0 wb w : World) (mb : Nat) (s : St) (k : Nat) (x y : Int) (hk : k < c.NL.length) (hE : EnvOk c w0) (h : M c w0 wb mb s w) (hsn : s.sent.length ≤ 1000) :
    Calls Try.prog 42 #[mp mb, .agg #[.int .i64 17, .int .i64 (k : Int)], .int .i64 x, .int .i64 y] w fun e w' => e = .returned (.tuple #[.bool (sendG (c.NL.getD k ⟨#[]⟩) x y s).1, .int .i64 (sendG (c.NL.getD k ⟨#[]⟩) x y s).2.1]) ∧ M c w0 wb mb (sendG (c.NL.getD k ⟨#[]⟩) x y s).2.2 w' := by
  obtain ⟨w1, bk, hw1, hbkn, h1, hbk⟩ := h.boxed 17 (k : Int)
  have q0 := hbk.cell 0
  have q1 := hbk.cell 1
  simp at q0 q1
  have HM := Lib.hid h1
  obtain ⟨sv, ev, sn, tv, hb, hr, hm⟩ := HM.out
  obtain ⟨A, n, rfl⟩ := own_slice hr.sn
  have u : ∀ i, w1.cell? ⟨mb, i, none⟩ = _ := fun i => hb.cell i
  unfold cellsOf at u
  have lu := hb.lt
  have HB := Lib.hid hb
  have HR := Lib.hid hr
  have HL := Lib.hid (show (s.sent.length + 1) * 32 ≤ 140737488355328 by omega)
  clear hb hr h h1 hbk
  obtain ⟨nb, no, hnA, hnc⟩ := (hE.below HM.out.below).name hk
  obtain ⟨D, hD⟩ : ∃ D, D = c.NL.getD k ⟨#[]⟩ := ⟨_, rfl⟩
  rw [← hD] at hnc
  rw [← hD]
  rw [hnA] at u
  have k0 : (0 : Int) ≤ (k : Int) := by omega
  have k1 : (k : Int) < (c.NL.length : Int) := by omega
  clear hD hE hk
  obtain ⟨R, hR⟩ : ∃ R, R = sendG D x y s := ⟨_, rfl⟩
  rw [← hR]
  have HRR := Lib.hid hR
  clear hR
  go_enter Try.func42, Try.ntmps42
  go_upto_region 1 with fail
  rw [show w.alloc (.cells #[.int .i64 17, .int .i64 (k : Int)] 76) = w1 from hw1.symm, ← hbkn]
  clear hw1 hbkn
  by_cases hto : D = ⟨#[]⟩
  · have HE2 := Lib.hid (show R = (true, 0, s) by rw [HRR.out]; simp [sendG, hto])
    rw [hto] at hnc
    go_wp2_with fail
    go_quiet (fail)
    go_wp2
    refine bodyPost_ret (results_tmp2 rfl _ _ _) rfl ?_
    rw [HE2.out]
    exact ⟨rfl, HM.out.drewN _⟩
  · have t1 := str_ne hto
    by_cases h4 : (4 : Int) ≤ s.sent.length
    · have HE2 := Lib.hid (show R = (false, 12, s) by rw [HRR.out]; simp [sendG, hto, h4])
      have d4 : decide ((4 : Int) ≤ (s.sent.length : Int)) = true := decide_eq_true h4
      go_wp2_with fail
      go_quiet (fail)
      go_wp2
      refine bodyPost_ret (results_tmp2 rfl _ _ _) rfl ?_
      rw [HE2.out]
      exact ⟨rfl, HM.out.drewN _⟩
    · have HE2 := Lib.hid (show R = (true, 0, { s with sent := s.sent ++ [(D, x, y)] }) by rw [HRR.out]; simp [sendG, hto, h4])
      have d4 : decide ((4 : Int) ≤ (s.sent.length : Int)) = false := decide_eq_false h4
      clear hto
      go_wp2_with fail
      go_quiet (fail)
      go_wp2_with (at_builtin; refine print_append_cells (w0 := w0) w0.heap.size rfl (.tmp 48) (.tmp 53) 46 83 _ 3 32 rfl Try.underlying46 info83 rfl (by omega) (by omega) _ s.sent.length (encS s.sent) [.string D, .int .i64 x, .int .i64 y] rfl rfl rfl (by simp [Value.oneCell']) (HR.out.drewN _).sn (HR.out.drewN _).below (HR.out.drewN _).below.size HL.out ?_; intro v1 w3 ho hbl hg hat; obtain ⟨V, vn, rfl⟩ := own_slice ho; have HS := Lib.hid (M.send D x y (HB.out.drewN _) (HR.out.drewN _) hm ho hg hbl); have u3 : ∀ i, w3.cell? ⟨mb, i, none⟩ = _ := fun i => HS.out.1.cell i; have f3 : ∀ i, w3.frozen? ⟨mb, i, none⟩ = false := fun i => HS.out.1.free i; have l3 := HS.out.1.lt; unfold cellsOf at u3; clear ho hbl hg hat u lu)
      refine bodyPost_ret (results_tmp2 rfl _ _ _) rfl ?_
      rw [HE2.out]
      exact ⟨rfl, HS.out.2⟩
end Go.Proofs.Ytmmbigfeojfedaa.R

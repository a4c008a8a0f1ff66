/- The machine's small methods: push, pop, two, refuse, truth, reckon. -/
import Derived.Test.YtmmbigfeojfedaaMach
namespace Go.Proofs.Ytmmbigfeojfedaa
open Go.RowKit Go.Proofs.YtmmbigfeojfedaaW.PrintWords

abbrev mp (mb : Nat) : Value := .pointer (some ⟨mb, 0, none⟩)

theorem M.start {c : Env} {w0 wb w : World} {mb : Nat} {s : St} (h : M c w0 wb mb s w) : ∃ A n ev sn tv, Blk w mb (cellsOf c s (.slice A s.stack.length n) ev sn tv) 74 ∧ Rws w0 wb w s.stack s.ev s.sent s.tm (.slice A s.stack.length n) ev sn tv ∧ w0.heap.size ≤ mb ∧
    ReadsOf (Value.int .i64) (0 : Int) w A s.stack.length s.stack ∧ s.stack.length ≤ n := by
  obtain ⟨sv, ev, sn, tv, hb, hr, hm⟩ := h
  obtain ⟨A, n, rfl, hc, hrd⟩ := own_reads_of_le (d := (0 : Int)) hr.st
  exact ⟨A, n, ev, sn, tv, hb, hr, hm, hrd, hc⟩

theorem truth_any (b : Bool) (w : World) : Calls Try.prog 33 #[.bool b] w fun e w' => e = .returned (.int .i64 (truth b)) ∧ w' = w := by
  cases b
  · go_enter Try.func33, Try.ntmps33
    go_wp2
    go_ret
    exact ⟨rfl, rfl⟩
  · go_enter Try.func33, Try.ntmps33
    go_wp2
    go_ret
    exact ⟨rfl, rfl⟩

set_option maxRecDepth 100000 in
theorem refuse_any (c : Env) (w0 wb w : World) (mb : Nat) (s : St) (b : Bool) (h : M c w0 wb mb s w) :
    Calls Try.prog 35 #[mp mb, .bool b] w fun e w' => e = .returned (.bool (decide ((refuseF b s).failed ≠ 0))) ∧ M c w0 wb mb (refuseF b s) w' := by
  obtain ⟨sv, ev, sn, tv, hb, hr, hm⟩ := h
  have c21 := hb.cell 21
  have f21 := hb.free 21
  simp [cellsOf] at c21
  cases b
  · have e : refuseF false s = s := by simp [refuseF]
    rw [e]
    have HF := Lib.hid (show M c w0 wb mb s w from ⟨sv, ev, sn, tv, hb, hr, hm⟩)
    clear hb hr
    go_enter Try.func35, Try.ntmps35
    go_wp2
    go_ret
    exact ⟨by simp [bne, BEq.beq, decide_not], HF.out⟩
  · by_cases hf : s.failed = 0
    · have e : refuseF true s = { s with failed := 12 } := by simp [refuseF, hf]
      rw [e]
      have HF := Lib.hid (show M c w0 wb mb { s with failed := 12 } (w.setCell ⟨mb, 21, none⟩ (.int .i64 12)) from ⟨sv, ev, sn, tv, by simpa [cellsOf] using hb.set 21 (.int .i64 12), hr.put hb hm _ _, hm⟩)
      have hc2 := (hb.set 21 (.int .i64 12)).cell 21
      simp [cellsOf] at hc2
      rw [hf] at c21
      clear hb hr hf e
      go_enter Try.func35, Try.ntmps35
      go_wp2
      go_ret
      exact ⟨rfl, HF.out⟩
    · have e : refuseF true s = s := by simp [refuseF, hf]
      rw [e]
      have HF := Lib.hid (show M c w0 wb mb s w from ⟨sv, ev, sn, tv, hb, hr, hm⟩)
      have t0 : (s.failed == 0) = false := by simpa using hf
      clear hb hr
      go_enter Try.func35, Try.ntmps35
      go_wp2
      go_ret
      exact ⟨by simp [bne, BEq.beq, decide_not], HF.out⟩
end Go.Proofs.Ytmmbigfeojfedaa

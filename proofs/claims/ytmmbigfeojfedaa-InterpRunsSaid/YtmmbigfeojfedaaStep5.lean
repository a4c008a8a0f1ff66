/- step: a reminder that is set. -/
import Derived.Test.YtmmbigfeojfedaaStep0
import Derived.Test.YtmmbigfeojfedaaOut3
namespace Go.Proofs.Ytmmbigfeojfedaa
open Go.RowKit Go.Proofs.YtmmbigfeojfedaaW.PrintWords

set_option maxRecDepth 100000 in
set_option maxHeartbeats 1000000 in
theorem step_19 (c : Env) (w0 wb w : World) (mb : Nat) (s : St) (k : Nat) (hk : k < c.NL.length) (hE : EnvOk c w0) (htm : s.tm.length ≤ 1000) (h : M c w0 wb mb s w) (hs : s.stack.length ≤ 16) :
    Calls Try.prog 20 #[mp mb, ins 19 (k : Int)] w fun e w' => e = .returned (.tuple #[]) ∧ M c w0 wb mb (remindF (c.NL.getD k ⟨#[]⟩) c.now c.kind (twoX s) (twoY s) (twoF s)) w' := by
  obtain ⟨w1, bk, hw1, hbkn, h1, hbk⟩ := h.boxed 19 (k : Int)
  have q0 := hbk.cell 0
  have q1 := hbk.cell 1
  simp at q0 q1
  have HM := Lib.hid h1
  have HBK := Lib.hid hbk
  clear h h1 hbk
  go_enter Try.func20, Try.ntmps20
  go_upto_region 1 with fail
  rw [show w.alloc (.cells #[.int .i64 19, .int .i64 (k : Int)] 60) = w1 from hw1.symm, ← hbkn]
  clear hw1 hbkn
  go_wp2_with fail
  refine (out_remind c w0 wb w1 mb s k HM.out hs htm hk hE).mono ?_
  rintro e w2 ⟨rfl, h2⟩
  go_wp2
  go_end0
  exact ⟨rfl, h2⟩
end Go.Proofs.Ytmmbigfeojfedaa

/- step: what goes out. -/
import Derived.Test.YtmmbigfeojfedaaStep0
import Derived.Test.YtmmbigfeojfedaaOut2
namespace Go.Proofs.Ytmmbigfeojfedaa
open Go.RowKit Go.Proofs.YtmmbigfeojfedaaW.PrintWords

set_option maxRecDepth 100000 in
set_option maxHeartbeats 1000000 in
theorem step_17 (c : Env) (w0 wb w : World) (mb : Nat) (s : St) (k : Nat) (hk : k < c.NL.length) (hE : EnvOk c w0) (hsn : s.sent.length ≤ 1000) (h : M c w0 wb mb s w) (hs : s.stack.length ≤ 16) :
    Calls Try.prog 20 #[mp mb, ins 17 (k : Int)] w fun e w' => e = .returned (.tuple #[]) ∧ M c w0 wb mb (sendF (c.NL.getD k ⟨#[]⟩) (twoX s) (twoY s) (twoF s)) w' := by
  obtain ⟨w1, bk, hw1, hbkn, h1, hbk⟩ := h.boxed 17 (k : Int)
  have q0 := hbk.cell 0
  have q1 := hbk.cell 1
  simp at q0 q1
  have HM := Lib.hid h1
  have HBK := Lib.hid hbk
  clear h h1 hbk
  go_enter Try.func20, Try.ntmps20
  go_upto_region 1 with fail
  rw [show w.alloc (.cells #[.int .i64 17, .int .i64 (k : Int)] 60) = w1 from hw1.symm, ← hbkn]
  clear hw1 hbkn
  go_wp2_with fail
  refine (out_send c w0 wb w1 mb s k HM.out hs hsn hk hE).mono ?_
  rintro e w2 ⟨rfl, h2⟩
  go_wp2
  go_end0
  exact ⟨rfl, h2⟩

set_option maxRecDepth 100000 in
set_option maxHeartbeats 1000000 in
theorem step_18 (c : Env) (w0 wb w : World) (mb : Nat) (s : St) (a : Int) (hsn : s.sent.length ≤ 1000) (h : M c w0 wb mb s w) (hs : s.stack.length ≤ 16) :
    Calls Try.prog 20 #[mp mb, ins 18 a] w fun e w' => e = .returned (.tuple #[]) ∧ M c w0 wb mb (sendF c.frm (twoX s) (twoY s) (twoF s)) w' := by
  obtain ⟨w1, bk, hw1, hbkn, h1, hbk⟩ := h.boxed 18 a
  have q0 := hbk.cell 0
  have q1 := hbk.cell 1
  simp at q0 q1
  have HM := Lib.hid h1
  have HBK := Lib.hid hbk
  clear h h1 hbk
  go_enter Try.func20, Try.ntmps20
  go_upto_region 1 with fail
  rw [show w.alloc (.cells #[.int .i64 18, .int .i64 a] 60) = w1 from hw1.symm, ← hbkn]
  clear hw1 hbkn
  go_wp2_with fail
  refine (out_reply c w0 wb w1 mb s a HM.out hs hsn).mono ?_
  rintro e w2 ⟨rfl, h2⟩
  go_wp2
  go_end0
  exact ⟨rfl, h2⟩

set_option maxRecDepth 100000 in
set_option maxHeartbeats 1000000 in
theorem step_20 (c : Env) (w0 wb w : World) (mb : Nat) (s : St) (k : Nat) (hk : k < c.NL.length) (hE : EnvOk c w0) (htm : s.tm.length ≤ 1000) (h : M c w0 wb mb s w) :
    Calls Try.prog 20 #[mp mb, ins 20 (k : Int)] w fun e w' => e = .returned (.tuple #[]) ∧ M c w0 wb mb ({ s with tm := s.tm ++ [(c.NL.getD k ⟨#[]⟩, true, 0, 0, 0)] }) w' := by
  obtain ⟨w1, bk, hw1, hbkn, h1, hbk⟩ := h.boxed 20 (k : Int)
  have q0 := hbk.cell 0
  have q1 := hbk.cell 1
  simp at q0 q1
  have HM := Lib.hid h1
  have HBK := Lib.hid hbk
  clear h h1 hbk
  go_enter Try.func20, Try.ntmps20
  go_upto_region 1 with fail
  rw [show w.alloc (.cells #[.int .i64 20, .int .i64 (k : Int)] 60) = w1 from hw1.symm, ← hbkn]
  clear hw1 hbkn
  go_wp2_with fail
  refine (out_cancel c w0 wb w1 mb s k HM.out htm hk hE).mono ?_
  rintro e w2 ⟨rfl, h2⟩
  go_wp2
  go_end0
  exact ⟨rfl, h2⟩
end Go.Proofs.Ytmmbigfeojfedaa

/- two, reckon. -/
import Derived.Test.YtmmbigfeojfedaaPush
namespace Go.Proofs.Ytmmbigfeojfedaa
open Go.RowKit Go.Proofs.YtmmbigfeojfedaaW.PrintWords

theorem popF_len (s : St) : (popF s).stack.length ≤ s.stack.length := by
  unfold popF
  split
  · split
    · exact Nat.le_refl _
    · simp only [List.length_take]; omega
  · exact Nat.le_refl _

set_option maxRecDepth 100000 in
theorem two_any (c : Env) (w0 wb w : World) (mb : Nat) (s : St) (h : M c w0 wb mb s w) (hs : s.stack.length ≤ 16) :
    Calls Try.prog 34 #[mp mb] w fun e w' => e = .returned (.tuple #[.int .i64 (twoX s), .int .i64 (twoY s)]) ∧ M c w0 wb mb (twoF s) w' := by
  have HM := Lib.hid h
  have hs2 := Nat.le_trans (popF_len s) hs
  clear h
  go_enter Try.func34, Try.ntmps34
  go_wp2_with fail
  refine (pop_any c w0 wb w mb s HM.out hs).mono ?_
  rintro e w1 ⟨rfl, h1⟩
  have H1 := Lib.hid h1
  clear h1
  go_wp2_with fail
  refine (pop_any c w0 wb w1 mb (popF s) H1.out hs2).mono ?_
  rintro e w2 ⟨rfl, h2⟩
  have H2 := Lib.hid h2
  clear h2
  go_wp2
  go_ret2
  exact ⟨rfl, H2.out⟩

set_option maxRecDepth 100000 in
theorem reckon_any (c : Env) (w0 wb w : World) (mb : Nat) (s : St) (op : Int) (h : M c w0 wb mb s w) (hs : s.stack.length ≤ 16) (ho : op = 6 ∨ op = 7 ∨ op = 8 ∨ op = 9 ∨ op = 10) :
    Calls Try.prog 32 #[.int .i64 op, mp mb] w fun e w' => e = .returned (.int .i64 (reckonV op (twoX s) (twoY s))) ∧ M c w0 wb mb (twoF s) w' := by
  have HT := Lib.hid (two_any c w0 wb w mb s h hs)
  obtain ⟨x, hx⟩ : ∃ x, x = twoX s := ⟨_, rfl⟩
  obtain ⟨y, hy⟩ : ∃ y, y = twoY s := ⟨_, rfl⟩
  rw [← hx, ← hy] at HT
  rw [← hx, ← hy]
  clear h hx hy
  rcases ho with rfl | rfl | rfl | rfl | rfl
  · go_enter Try.func32, Try.ntmps32
    go_wp2_with fail
    refine HT.out.mono ?_
    rintro e w1 ⟨rfl, h1⟩
    go_wp2
    go_ret
    exact ⟨rfl, h1⟩
  · go_enter Try.func32, Try.ntmps32
    go_wp2_with fail
    refine HT.out.mono ?_
    rintro e w1 ⟨rfl, h1⟩
    go_wp2
    go_ret
    exact ⟨rfl, h1⟩
  · go_enter Try.func32, Try.ntmps32
    go_wp2_with fail
    refine HT.out.mono ?_
    rintro e w1 ⟨rfl, h1⟩
    go_wp2
    go_ret
    exact ⟨rfl, h1⟩
  · go_enter Try.func32, Try.ntmps32
    go_wp2_with fail
    refine HT.out.mono ?_
    rintro e w1 ⟨rfl, h1⟩
    go_wp2_with fail
    refine (truth_any _ _).mono ?_
    rintro e w2 ⟨rfl, rfl⟩
    go_wp2
    go_ret
    exact ⟨rfl, h1⟩
  · go_enter Try.func32, Try.ntmps32
    go_wp2_with fail
    refine HT.out.mono ?_
    rintro e w1 ⟨rfl, h1⟩
    go_wp2_with fail
    refine (truth_any _ _).mono ?_
    rintro e w2 ⟨rfl, rfl⟩
    go_wp2
    go_ret
    exact ⟨rfl, h1⟩
end Go.Proofs.Ytmmbigfeojfedaa

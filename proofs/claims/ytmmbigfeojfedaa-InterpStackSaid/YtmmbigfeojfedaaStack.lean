/- The law InterpStack, walked. -/
import Derived.Test.YtmmbigfeojfedaaStk0
namespace Go.Proofs.Ytmmbigfeojfedaa
open Go.RowKit Go.Proofs.YtmmbigfeojfedaaW.PrintWords

theorem stL_snoc (n j : Nat) : stL n (j + 1) = stL n j ++ [(13, 0)] := by simp [stL, List.replicate_succ']

set_option maxRecDepth 100000 in
set_option maxHeartbeats 4000000 in
theorem stack_any (x : Int) (hx : (Lit.int .u8 x).wf = true) (y : Int) (hy : (Lit.int .u8 y).wf = true) (w : World) :
    Calls Try.prog 7 #[.int .u8 x, .int .u8 y] w (fun e w' => e = .returned (.bool true) ∧ Below w.heap.size w w') := by
  simp [Lit.wf] at hx hy
  have hx0 : 0 ≤ x := (show IntKind.u8.min = 0 from rfl) ▸ hx.1
  have hx1 : x ≤ 255 := (show IntKind.u8.max = 255 by decide) ▸ hx.2
  have hy0 : 0 ≤ y := (show IntKind.u8.min = 0 from rfl) ▸ hy.1
  have hy1 : y ≤ 255 := (show IntKind.u8.max = 255 by decide) ▸ hy.2
  obtain ⟨n, hn⟩ : ∃ n : Nat, x.tmod 20 = (n : Int) := ⟨(x.tmod 20).toNat, by have := Int.tmod_nonneg 20 hx0; omega⟩
  obtain ⟨d, hd⟩ : ∃ d : Nat, y.tmod 20 = (d : Int) := ⟨(y.tmod 20).toNat, by have := Int.tmod_nonneg 20 hy0; omega⟩
  have hn20 : n < 20 := by have := Int.tmod_lt_of_pos x (show (0 : Int) < 20 by decide); omega
  have hd20 : d < 20 := by have := Int.tmod_lt_of_pos y (show (0 : Int) < 20 by decide); omega
  clear hx hy hx0 hx1 hy0 hy1
  go_enter Try.func7, Try.ntmps7
  go_wp2_with fail
  refine (awake_any _).mono ?_
  rintro e w1 ⟨rfl, hb1⟩
  have HB1 := Lib.hid hb1
  clear hb1
  go_wp2_with fail
  have HP0 := Lib.hid (show Pg w w1.heap.size (.slice none 0 0) (pushL 0) (w1.alloc (.cells #[.slice none 0 0, .slice none 0 0] 43)) from ⟨none, 0, Blk.new _ _ _, World.ownsRow_nil _ _ _ _, HB1.out.alloc HB1.out.size _, HB1.out.size⟩)
  go_loopw [16] (fun i wr => ∃ k : Nat, k ≤ n ∧ i = .int .i64 k ∧ Pg w w1.heap.size (.slice none 0 0) (pushL k) wr) (fun i _ => n - (intOf i).toNat)
  case atStart => exact ⟨0, by omega, rfl, HP0.out⟩
  case round =>
    obtain ⟨k, hk, rfl, A, c, hb, ho, hbl, hlo⟩ := hrel
    have HB := Lib.hid hb
    have HO := Lib.hid ho
    have HBL := Lib.hid hbl
    have HL := Lib.hid (pushL_len k)
    have u : ∀ i, wr.cell? ⟨w1.heap.size, i, none⟩ = _ := fun i => hb.cell i
    have lu := hb.lt
    clear hb ho hbl HP0
    by_cases hkn : k < n
    · have ks : wrap64 ((k : Int) + 1) = ((k + 1 : Nat) : Int) := by unfold wrap64; omega
      have HKS := Lib.hid ks
      clear ks
      go_wp2_with (at_builtin; refine print_append_cells (w0 := w) w.heap.size rfl (.tmp 20) (.tmp 23) 41 60 _ 2 16 rfl Try.underlying41 info60 rfl (by omega) (by omega) _ (pushL k).length (flatC (pushL k)) [.int .i64 1, .int .i64 k] rfl rfl rfl (by simp [Value.oneCell']) HO.out HBL.out HBL.out.size (by have := HL.out; omega) ?_; intro v1 w3 ho1 hbl1 hg hat; obtain ⟨V, vn, rfl⟩ := own_slice ho1; have HS := Lib.hid (Pg.app (i := ((1 : Int), (k : Int))) HB.out HO.out hlo ho1 hbl1 hg); have u3 : ∀ i, w3.cell? ⟨w1.heap.size, i, none⟩ = _ := fun i => HS.out.1.cell i; have f3 : ∀ i, w3.frozen? ⟨w1.heap.size, i, none⟩ = false := fun i => HS.out.1.free i; have l3 := HS.out.1.lt; clear ho1 hbl1 hg hat u lu)
      refine ⟨⟨k + 1, by omega, by simp, by rw [pushL_snoc]; exact HS.out.2⟩, ?_⟩
      simp [intOf]
      omega
    · obtain rfl : k = n := by omega
      obtain ⟨w5, hw5⟩ : ∃ z, z = wr := ⟨_, rfl⟩
      subst hw5
      have HP := Lib.hid (show Pg w w1.heap.size (.slice none 0 0) (stL k 0) w5 from by rw [show stL k 0 = pushL k by simp [stL]]; exact ⟨A, c, HB.out, HO.out, HBL.out, hlo⟩)
      clear HB HO HBL HL u lu
      go_wp2_with fail
      go_loopw [29] (fun i wr => ∃ j : Nat, j ≤ d ∧ i = .int .u8 j ∧ Pg w w1.heap.size (.slice none 0 0) (stL k j) wr) (fun i _ => d - (intOf i).toNat)
      case atStart => exact ⟨0, by omega, rfl, HP.out⟩
      case round =>
        obtain ⟨j, hj, rfl, A, c, hb, ho, hbl, hlo⟩ := hrel
        have HB := Lib.hid hb
        have HO := Lib.hid ho
        have HBL := Lib.hid hbl
        have HL := Lib.hid (show (stL k j).length = k + j by simp [stL, pushL])
        have u : ∀ i, wr.cell? ⟨w1.heap.size, i, none⟩ = _ := fun i => hb.cell i
        have lu := hb.lt
        clear hb ho hbl HP
        by_cases hjd : j < d
        · go_wp2_with (at_builtin; refine print_append_cells (w0 := w) w.heap.size rfl (.tmp 32) (.tmp 34) 41 60 _ 2 16 rfl Try.underlying41 info60 rfl (by omega) (by omega) _ (stL k j).length (flatC (stL k j)) [.int .i64 13, .int .i64 0] rfl rfl rfl (by simp [Value.oneCell']) HO.out HBL.out HBL.out.size (by have := HL.out; omega) ?_; intro v1 w3 ho1 hbl1 hg hat; obtain ⟨V, vn, rfl⟩ := own_slice ho1; have HS := Lib.hid (Pg.app (i := ((13 : Int), (0 : Int))) HB.out HO.out hlo ho1 hbl1 hg); have u3 : ∀ i, w3.cell? ⟨w1.heap.size, i, none⟩ = _ := fun i => HS.out.1.cell i; have f3 : ∀ i, w3.frozen? ⟨w1.heap.size, i, none⟩ = false := fun i => HS.out.1.free i; have l3 := HS.out.1.lt; clear ho1 hbl1 hg hat u lu)
          refine ⟨⟨j + 1, by omega, by simp, by rw [stL_snoc]; exact HS.out.2⟩, ?_⟩
          simp [intOf]
          omega
        · obtain rfl : j = d := by omega
          have HC := Lib.hid (st_run wr A c k j hn20 hd20 (isCode_own HO.out rfl))
          by_cases h1 : 16 < k
          · have d1 : decide ((16 : Int) < (k : Int)) = true := decide_eq_true (by omega)
            go_wp2_with fail
            refine HC.out.mono ?_
            simp only [if_pos h1]
            rintro e w6 ⟨rfl, hb6⟩
            have HB6 := Lib.hid (HBL.out.trans (hb6.mono HBL.out.size))
            clear hb6
            unfold resC
            go_wp2_with fail
            go_ret
            exact ⟨rfl, HB6.out.alloc HB6.out.size _⟩
          · have d1 : decide ((16 : Int) < (k : Int)) = false := decide_eq_false (by omega)
            by_cases h2 : k < j
            · have d2 : decide ((k : Int) < (j : Int)) = true := decide_eq_true (by omega)
              have k2 : wrap64 (2 * (k : Int)) = 2 * k := by unfold wrap64; omega
              have k3 : wrap64 (2 * (k : Int) + 1) = 2 * k + 1 := by unfold wrap64; omega
              go_wp2_with fail
              refine HC.out.mono ?_
              simp only [if_neg h1, if_pos h2]
              rintro e w6 ⟨rfl, hb6⟩
              have HB6 := Lib.hid (HBL.out.trans (hb6.mono HBL.out.size))
              clear hb6
              unfold resC
              go_wp2_with fail
              go_ret
              exact ⟨rfl, HB6.out.alloc HB6.out.size _⟩
            · have d2 : decide ((k : Int) < (j : Int)) = false := decide_eq_false (by omega)
              have k2 : wrap64 ((k : Int) + j) = k + j := by unfold wrap64; omega
              go_wp2_with fail
              refine HC.out.mono ?_
              simp only [if_neg h1, if_neg h2]
              rintro e w6 ⟨R, e1, eA, eC, sA, sC, tA, tC, rfl, hb6, -⟩
              have HB6 := Lib.hid (HBL.out.trans (hb6.mono HBL.out.size))
              clear hb6
              unfold resC
              rw [e1]
              go_wp2_with fail
              go_ret
              exact ⟨rfl, HB6.out.alloc HB6.out.size _⟩
end Go.Proofs.Ytmmbigfeojfedaa

/- Programs that are appended to; the run of InterpStack in plain Lean. -/
import Derived.Test.YtmmbigfeojfedaaLoops
namespace Go.Proofs.Ytmmbigfeojfedaa
open Go.RowKit Go.Proofs.YtmmbigfeojfedaaW.PrintWords

/-! ### Programs that are appended to, in memory. -/
theorem flatC_snoc : ∀ (l : List (Int × Int)) (i : Int × Int), flatC (l ++ [i]) = flatC l ++ [.int .i64 i.1, .int .i64 i.2]
  | [], _ => rfl
  | j :: l, i => by simp [flatC, flatC_snoc l i]
theorem isCode_own {w : World} {base n c : Nat} {A : Option Addr} {CL : List (Int × Int)} (h : w.ownsRow base 60 2 (.slice A n c) n (flatC CL)) (hn : CL.length = n) : IsCode w A CL := fun hp => by
  obtain ⟨g, rfl, _, _, hc⟩ := own_cells h (by omega)
  refine ⟨g, 0, rfl, fun j hj => ?_⟩
  obtain ⟨h1, h2⟩ := flatC_at CL j hj
  rw [Nat.zero_add, hc _ (by omega), hc _ (by omega)]
  exact ⟨h1, h2⟩
/-- The program of block pb, as far as it is built. -/
def Pg (w0 : World) (pb : Nat) (nv : Value) (CL : List (Int × Int)) (w : World) : Prop :=
  ∃ A c, Blk w pb #[nv, .slice A CL.length c] 43 ∧ w.ownsRow w0.heap.size 60 2 (.slice A CL.length c) CL.length (flatC CL) ∧ Below w0.heap.size w0 w ∧ w0.heap.size ≤ pb
theorem Pg.app {w0 w w1 : World} {pb c : Nat} {nv v1 : Value} {A : Option Addr} {CL : List (Int × Int)} {i : Int × Int} (hb : Blk w pb #[nv, .slice A CL.length c] 43) (h0 : w.ownsRow w0.heap.size 60 2 (.slice A CL.length c) CL.length (flatC CL)) (hlo : w0.heap.size ≤ pb)
    (ho : w1.ownsRow w0.heap.size 60 2 v1 (CL.length + 1) (flatC CL ++ [.int .i64 i.1, .int .i64 i.2])) (hbl : Below w0.heap.size w0 w1) (hg : w.grownBy w1 (Value.slice A CL.length c).ownBlock) : Blk w1 pb #[nv, .slice A CL.length c] 43 ∧ Pg w0 pb nv (CL ++ [i]) (w1.setCell ⟨pb, 1, none⟩ v1) := by
  have hb1 := blk_grown hb h0 (by decide) hg
  refine ⟨hb1, ?_⟩
  obtain ⟨V, vn, rfl⟩ := own_slice ho
  have hl : (CL ++ [i]).length = CL.length + 1 := by simp
  refine ⟨V, vn, ?_, ?_, hbl.setCell (p := ⟨pb, 1, none⟩) hlo _, hlo⟩
  · rw [hl]
    exact hb1.set 1 _
  · rw [hl, flatC_snoc]
    refine own_move ho fun k hk => Below.heap_setCell _ ⟨pb, 1, none⟩ _ k fun e => ?_
    obtain ⟨cells, hc⟩ := own_typed ho k hk
    subst e
    unfold Blk at hb1
    rw [hb1] at hc
    injection hc with hc
    injection hc with _ h2 _
    exact absurd h2 (by decide)

/-! ### The run. -/
theorem loopF_core (c : Env) (A : Option Addr) (k : Nat) : ∀ (f : Nat) (s : St), loopF { c with kA := A, kC := k } f s = loopF c f s
  | 0, _ => rfl
  | f + 1, s => by
    unfold loopF
    have e : ∀ op a t, stepF { c with kA := A, kC := k } op a t = stepF c op a t := fun op a t => rfl
    simp only [e, loopF_core c A k f]
theorem runF_core (c : Env) (A : Option Addr) (k : Nat) (reg : Nat → Int) : runF { c with kA := A, kC := k } reg = runF c reg := by
  unfold runF
  rw [loopF_core]
  rfl
def pushL (n : Nat) : List (Int × Int) := (List.range n).map fun (i : Nat) => ((1 : Int), (i : Int))
def stL (n d : Nat) : List (Int × Int) := pushL n ++ List.replicate d (13, 0)
def stE (n d : Nat) : Env := { nA := none, nC := 0, NL := [], kA := none, kC := 0, CL := stL n d, frm := ⟨#[]⟩, serial := 0, kind := 0, aA := none, aC := 0, AL := [], now := 0 }
def stK (n d : Nat) : Bool :=
  let r := runF (stE n d) (fun _ => 0)
  if 16 < n then r.1 == 10 && r.2.steps == 17 else if n < d then r.1 == 10 && r.2.steps == 2 * n + 1 else r.1 == 0 && r.2.steps == n + d
set_option maxRecDepth 100000 in
theorem st_all : ∀ n : Fin 20, ∀ d : Fin 20, stK n.1 d.1 = true := by decide +kernel
theorem st_run (W : World) (A : Option Addr) (c n d : Nat) (hn : n < 20) (hd : d < 20) (hC : IsCode W A (stL n d)) :
    Calls Try.prog 12 #[.agg #[.slice none 0 0, .slice A (stL n d).length c], zeros8, noLetter, .int .i64 0] W (fun e w' => if 16 < n then BadPost 10 17 W e w' else if n < d then BadPost 10 (2 * n + 1) W e w' else OkPost (fun R => R.steps = n + d) W e w') := by
  have hk := st_all ⟨n, hn⟩ ⟨d, hd⟩
  simp only [stK] at hk
  have e := runF_core (stE n d) A c (fun _ => 0)
  have hl : (stL n d).length ≤ 1000 := by simp [stL, pushL]; omega
  by_cases h1 : 16 < n
  · rw [if_pos h1] at hk
    simp only [Bool.and_eq_true, beq_iff_eq] at hk
    simp only [if_pos h1]
    exact (run_bad { stE n d with kA := A, kC := c } (fun _ => 0) W ⟨ReadsOf.nil _ _ _, ReadsOf.nil _ _ _⟩ hC hl (by rw [e, hk.1]; decide)).mono fun e1 w1 ⟨h1, h2⟩ => ⟨by rw [h1, e, hk.1, hk.2], h2⟩
  · rw [if_neg h1] at hk
    simp only [if_neg h1]
    by_cases h2 : n < d
    · rw [if_pos h2] at hk
      simp only [Bool.and_eq_true, beq_iff_eq] at hk
      simp only [if_pos h2]
      exact (run_bad { stE n d with kA := A, kC := c } (fun _ => 0) W ⟨ReadsOf.nil _ _ _, ReadsOf.nil _ _ _⟩ hC hl (by rw [e, hk.1]; decide)).mono fun e1 w1 ⟨h1, h2⟩ => ⟨by rw [h1, e, hk.1, hk.2], h2⟩
    · rw [if_neg h2] at hk
      simp only [Bool.and_eq_true, beq_iff_eq] at hk
      simp only [if_neg h2]
      exact run_ok (fun R => R.steps = n + d) { stE n d with kA := A, kC := c } (fun _ => 0) W ⟨ReadsOf.nil _ _ _, ReadsOf.nil _ _ _⟩ hC hl (by rw [e, hk.1]) (by rw [e]; exact hk.2)
theorem info60 : (Try.prog.info? 60).map (fun i => (i.zero, i.size, i.bytes)) = some (some (.agg #[.int .i64 0, .int .i64 0]), 2, 16) := by kernel_rfl
theorem pushL_snoc (k : Nat) : pushL (k + 1) = pushL k ++ [(1, (k : Int))] := by simp [pushL, List.range_succ]
theorem pushL_len (k : Nat) : (pushL k).length = k := by simp [pushL]

end Go.Proofs.Ytmmbigfeojfedaa

/- Wr1, Held, Lib, Wr2 -/
import Derived.Test.YtlcdjgpblpodaaaGreatDoorMAD
import Derived.Deep.AppendLies
import Derived.Maps.AppendAt
import Derived.Deep.RegionHeld3
import Derived.Test.YtlcdjgpblpodaaaGreatDoorProg
import Derived.Shelf.Strconv.Itoa0
import Derived.Test.YtlcdjgpblpodaaaGreatDoorMAA
namespace Go.Proofs.YtlcdjgpblpodaaaGreatDoor
open Go.RowKit Go.Proofs.YtlcdjgpblpodaaaGreatDoorW.PrintWords

/-- A writer at block wb that has written bs; X: its own blocks. -/
structure WR (w : World) (wb : Nat) (X : Nat → Prop) (bs : List Int) : Prop where
  here : X wb
  lt : ∀ k, X k → k < w.heap.size
  row : ∃ v, Blk w wb #[v] 319 ∧ w.ownsRow 0 5 1 v bs.length (encs (Value.int .u8) bs) ∧ ∀ k, v.ownBlock = some k → X k
theorem WR.keep {S X : Nat → Prop} {w w' : World} {wb : Nat} {bs : List Int} (h : WR w wb X bs) (hc : Chg S w w') (hX : ∀ k, X k → ¬ S k) : WR w' wb X bs := by
  obtain ⟨v, hb, ho, hv⟩ := h.row
  exact ⟨h.here, fun k hk => Nat.lt_of_lt_of_le (h.lt k hk) hc.size, v, hc.blk hb (hX _ h.here), hc.owns ho (fun k hk => hX _ (hv k hk)), hv⟩
theorem WR.below {X : Nat → Prop} {w w' : World} {wb : Nat} {bs : List Int} (h : WR w wb X bs) (hb : Below w.heap.size w w') : WR w' wb X bs := h.keep (Chg.of_below hb (fun _ => False)) (fun _ _ h => h)
/-- From w on the writer has come to bs; nothing else of w has changed. -/
def WP (w : World) (wb : Nat) (X : Nat → Prop) (bs : List Int) (w' : World) : Prop :=
  ∃ X', WR w' wb X' bs ∧ (∀ k, X' k → X k ∨ w.heap.size ≤ k) ∧ Chg X w w'
theorem WP.refl {w : World} {wb : Nat} {X : Nat → Prop} {bs : List Int} (h : WR w wb X bs) : WP w wb X bs w := ⟨X, h, fun _ h => .inl h, Chg.refl _ _⟩
theorem WP.of {w w1 w2 : World} {wb : Nat} {X X1 : Nat → Prop} {bs : List Int} (hx : ∀ k, X1 k → X k ∨ w.heap.size ≤ k) (hc : Chg X w w1) (h : WP w1 wb X1 bs w2) : WP w wb X bs w2 := by
  obtain ⟨X2, h1, h2, h3⟩ := h
  exact ⟨X2, h1, fun k hk => (h2 k hk).elim (hx k) (fun h => .inr (Nat.le_trans hc.size h)), hc.trans h3 (fun i hi hs => (hx i hs).elim id (fun h => by omega))⟩
theorem WP.trans {w w1 w2 : World} {wb : Nat} {X : Nat → Prop} {bs bs1 : List Int} (h : WP w wb X bs1 w1) (k : ∀ X1, WR w1 wb X1 bs1 → (∀ k, X1 k → X k ∨ w.heap.size ≤ k) → WP w1 wb X1 bs w2) : WP w wb X bs w2 := by
  obtain ⟨X1, h1, h2, h3⟩ := h
  exact WP.of h2 h3 (k X1 h1 h2)
theorem WP.drew {w w1 : World} {wb : Nat} {X : Nat → Prop} {bs : List Int} (h : WP w wb X bs w1) : WP w wb X bs w1.drew := by
  obtain ⟨X1, h1, h2, h3⟩ := h
  exact ⟨X1, h1.keep (Chg.refl (fun _ => False) w1).drew (fun _ _ h => h), h2, h3.drew⟩
theorem WP.later {w w1 w2 : World} {wb : Nat} {X : Nat → Prop} {bs : List Int} (h : WP w wb X bs w1) (hb : Below w1.heap.size w1 w2) : WP w wb X bs w2 := by
  obtain ⟨X1, h1, h2, h3⟩ := h
  exact ⟨X1, h1.below hb, h2, h3.then_below hb⟩
theorem WP.drewN {w w1 : World} {wb : Nat} {X : Nat → Prop} {bs : List Int} (h : WP w wb X bs w1) (n : Nat) : WP w wb X bs (w1.drewN n) := by
  obtain ⟨X1, h1, h2, h3⟩ := h
  exact ⟨X1, h1.keep ((Chg.refl (fun _ => False) w1).drewN n) (fun _ _ h => h), h2, h3.drewN n⟩

theorem newwriter (w : World) : Calls Tryz.prog 95 #[] w fun e w' => e = .returned (.pointer (some ⟨w.heap.size, 0, none⟩)) ∧ w' = w.alloc (.cells #[.slice none 0 0] 319) := by
  go_enter Tryz.func95, Tryz.ntmps95
  go_wp2
  go_ret
  exact ⟨rfl, rfl⟩
theorem WR.new {w w' : World} (h : w' = w.alloc (.cells #[.slice none 0 0] 319)) : WR w' w.heap.size (fun k => k = w.heap.size) [] := by
  subst h
  exact ⟨rfl, fun k hk => by subst hk; simp, .slice none 0 0, Blk.new _ _ _, own_nil _ _ _ _, fun k hk => by cases hk⟩

/-- An append to the writer's slice, stored back. -/
theorem wr_put {w w1 : World} {wb : Nat} {X : Nat → Prop} {bs xs : List Int} {v : Value} {box : Obj} {g cap : Nat} (h : WR w wb X bs) (hb : Blk w wb #[v] 319) (hv : ∀ k, v.ownBlock = some k → X k)
    (ho : w1.ownsRow 0 5 1 (.slice (some ⟨g, 0, none⟩) (bs.length + xs.length) cap) (bs.length + xs.length) (encs (Value.int .u8) bs ++ encs (Value.int .u8) xs)) (hg : (w.alloc box).grownBy w1 v.ownBlock) (hat : v.ownBlock = some g ∨ g = w.heap.size + 1) (hlt : g < w1.heap.size)
    (hne : v.ownBlock ≠ some wb) : WP w wb X (bs ++ xs) (w1.setCell ⟨wb, 0, none⟩ (.slice (some ⟨g, 0, none⟩) (bs.length + xs.length) cap)) := by
  have hc1 : Chg X w w1 := (((Chg.refl X w).alloc box).grown hg (fun k hk => .inl (hv k hk)))
  have hb1 : Blk w1 wb #[v] 319 := (hg.block wb (by have := hb.lt; simp; omega) (fun e => hne e.symm)).trans (hb.alloc box)
  have hc2 : Chg X w (w1.setCell ⟨wb, 0, none⟩ (.slice (some ⟨g, 0, none⟩) (bs.length + xs.length) cap)) := hc1.put wb 0 (.inl h.here) _
  have hgw : g ≠ wb := by
    rcases hat with e | e
    · exact fun e' => hne (e' ▸ e)
    · have := hb.lt; omega
  refine ⟨fun k => X k ∨ k = g, ⟨.inl h.here, fun k hk => ?_, _, by simpa using hb1.set 0 _, ?_, fun k hk => ?_⟩, fun k hk => ?_, hc2⟩
  · rcases hk with hk | rfl
    · exact Nat.lt_of_lt_of_le (h.lt k hk) hc2.size
    · simpa [World.setCell] using hlt
  · rw [List.length_append, encs_append]
    exact own_setCell ho (by simp [Value.ownBlock]; exact fun e => hgw e.symm) _
  · simp [Value.ownBlock] at hk
    exact .inr hk.symm
  · rcases hk with hk | rfl
    · exact .inl hk
    · rcases hat with e | e
      · exact .inl (hv _ e)
      · exact .inr (by omega)
theorem own_block_ne {w : World} {base n size e b t : Nat} {v : Value} {xs : List Value} {C : Array Value} (h : w.ownsRow base e size v n xs) (hb : Blk w b C t) (hne : e ≠ t) : v.ownBlock ≠ some b := fun e' => own_ne h hb hne e'.symm

set_option maxRecDepth 100000 in
theorem wnum_small (wb : Nat) (X : Nat → Prop) (bs : List Int) (n : Nat) (hn : n < 248) (w : World) (h : WR w wb X bs) (hl : bs.length ≤ 1073741824) :
    Calls Tryz.prog 96 #[.pointer (some ⟨wb, 0, none⟩), .int .u64 n] w fun e w' => e = .returned (.tuple #[]) ∧ WP w wb X (bs ++ [(n : Int)]) w' := by
  obtain ⟨v, hb, ho, hv⟩ := h.row
  have hne := own_block_ne ho hb (by decide)
  obtain ⟨VA, vc, rfl⟩ := own_slice ho
  obtain ⟨i0, hi, hz0, hz1, hz2⟩ := info_parts info5
  have c0 := hb.cell 0
  have f0 := hb.free 0
  simp at c0
  have t0 : decide ((n : Int) < 248) = true := by simp; omega
  have n0 : (0 : Int) ≤ n := by omega
  have H := Lib.hid h
  have HB := Lib.hid hb
  have HO := Lib.hid ho
  have HV := Lib.hid hv
  have HNE := Lib.hid hne
  clear h hb ho hv hne
  have hlt := HB.out.lt
  go_enter Tryz.func96, Tryz.ntmps96
  go_wp2_with (at_builtin; refine wpList_append_lies _ rfl _ _ 88 rfl 0 5 i0 (.int .u8 0) 1 1 Tryz.underlying88 hi hz0 hz1 hz2 rfl (by decide) _ bs.length (encs (Value.int .u8) bs) rfl (HO.out.alloc _) ⟨w.heap.size, 0, none⟩ 1 1 [.int .u8 n] rfl rfl (cell_one_new _ _ _) (ints_oneCell .u8 [(n : Int)]) (by decide) (by unfold maxLen; omega) (by omega) (by simp) (w.heap.size + 1) (by simp) ?_; intro g cap w1 ho1 hg1 hat1 hlt1; have f0' : w1.frozen? ⟨wb, 0, none⟩ = false := ((hg1.frozen_far ⟨wb, 0, none⟩ (by simp; omega) (fun e => HNE.out e.symm)).trans ((HB.out.alloc _).free 0)); have c0' : w1.cell? ⟨wb, 0, none⟩ = some (.slice VA bs.length vc) := ((hg1.cell_far ⟨wb, 0, none⟩ (by simp; omega) (fun e => HNE.out e.symm)).trans ((HB.out.alloc _).cell 0)); have HO1 := Lib.hid ho1; have HG1 := Lib.hid (show (w.alloc (.cells #[.int .u8 n] 5)).grownBy w1 (Value.slice VA bs.length vc).ownBlock from hg1); have HAT := Lib.hid (show (Value.slice VA bs.length vc).ownBlock = some g ∨ g = w.heap.size + 1 from hat1); have HLT := Lib.hid hlt1; clear ho1 hg1 hat1 hlt1)
  refine bodyPost_ret (results_none rfl _ _ _) rfl ?_
  exact ⟨rfl, wr_put (xs := [(n : Int)]) H.out HB.out HV.out HO1.out HG1.out HAT.out HLT.out HNE.out⟩
end Go.Proofs.YtlcdjgpblpodaaaGreatDoor
namespace Go.Proofs.YtlcdjgpblpodaaaGreatDoor.Held
open Go

section
variable {P : Program} {ops : Array Oper} {Q : Exit → Act → World → Prop} {md : Region.Mode} {S : World → Prop} {m : Nat}

/-- Whatever order is picked from here on; S holds behind every operation but number m. -/
def Till (P : Program) (md : Region.Mode) (ops : Array Oper) (Q : Exit → Act → World → Prop) (S : World → Prop) (m : Nat) : Nat → Array Bool → Act → World → Prop
  | 0, listed, a, w => Region.ready md ops listed = [] ∧ Q .normal a w
  | fuel + 1, listed, a, w =>
    (Region.ready md ops listed = [] → Q .normal a w) ∧
    ∀ i ∈ Region.ready md ops listed, wpOp P ops Q i (fun a' w' => (i ≠ m → S w') ∧ Till P md ops Q S m fuel (listed.setIfInBounds i true) a' w') a w

theorem any_of_till : ∀ (fuel : Nat) (listed : Array Bool) (a : Act) (w : World), Till P md ops Q S m fuel listed a w → wpAny P md ops Q fuel listed a w
  | 0, _, _, _, h => h
  | fuel + 1, _, _, _, h => ⟨h.1, fun i hi => wpOp_mono (fun _ _ h' => any_of_till fuel _ _ _ h'.2) (h.2 i hi)⟩

/-- Number i waits till m: m is not ready while i has not come up. -/
def before (md : Region.Mode) (ops : Array Oper) (i m : Nat) : Bool :=
  match ops[m]? with
  | some o => o.after.any fun e => Region.binds md e && e.on == i
  | none => false
theorem before_spec {i : Nat} (h : before md ops i m = true) {listed : Array Bool} (hi : listed.getD i true = false) : m ∉ Region.ready md ops listed := fun hm => by
  unfold before at h
  obtain ⟨_, om, hom, hall⟩ := mem_ready.1 hm
  rw [hom] at h
  obtain ⟨e, he, hb⟩ := Array.any_eq_true'.1 h
  simp only [Bool.and_eq_true, beq_iff_eq] at hb
  have h1 := hall e he hb.1
  rw [hb.2] at h1
  rcases Nat.lt_or_ge i listed.size with h' | h'
  · simp [h'] at hi h1; rw [hi] at h1; cases h1
  · simp [Array.getElem?_eq_none h'] at h1

theorem first {i : Nat} {oi : Oper} {v : Value} (hi : ops[i]? = some oi) (hsel : ∀ (j : Nat) (o : Oper) cs b, ops[j]? = some o → o.op ≠ .select cs b) (hbm : before md ops i m = true)
    (hQ : ∀ c a w, Q (.panic c) (a.put oi.dst v) w → Q (.panic c) a w) :
    ∀ (fuel : Nat) (listed : Array Bool) (a : Act) (w : World),
      (∀ j oj, ops[j]? = some oj → j ≠ i → listed.getD j true = false → (∀ e ∈ oj.after, Region.binds md e = true → e.on ≠ i) → oi.apart ops oj = true) →
      i ∈ Region.ready md ops listed → YieldsIf P ops S oi v a → S w →
      Till P md ops Q S m fuel (listed.setIfInBounds i true) (a.put oi.dst v) w → Till P md ops Q S m (fuel + 1) listed a w := by
  intro fuel
  induction fuel with
  | zero =>
    intro listed a w _ hr hy hS H
    refine ⟨fun h => (by rw [h] at hr; cases hr), fun j hj => ?_⟩
    by_cases hji : j = i
    · subst hji; exact hy.wpOp hi hS ⟨fun _ => hS, H⟩
    · have := ready_mono hj hji
      rw [H.1] at this
      cases this
  | succ fuel ih =>
    intro listed a w hfree hr hy hS H
    have hiun := (mem_ready.1 hr).1
    have hmn := before_spec hbm hiun
    refine ⟨fun h => (by rw [h] at hr; cases hr), fun j hj => ?_⟩
    by_cases hji : j = i
    · subst hji; exact hy.wpOp hi hS ⟨fun _ => hS, H⟩
    · have hjm : j ≠ m := fun e => hmn (e ▸ hj)
      have h1 := H.2 j (ready_mono hj hji)
      obtain ⟨hjun, oj, hoj, hall⟩ := mem_ready.1 hj
      have hnot : ∀ e ∈ oj.after, Region.binds md e = true → e.on ≠ i := fun e he hb heq => by
        have h2 := hall e he hb
        rw [heq] at h2
        rcases Nat.lt_or_ge i listed.size with h' | h'
        · simp [h'] at hiun h2; rw [hiun] at h2; cases h2
        · simp [Array.getElem?_eq_none h'] at h2
      have h2 := wpOp_putIf hoj (hfree j oj hoj hji hjun hnot) (fun cs b => hsel i oi cs b hi) (fun cs b => hsel j oj cs b hoj) hQ hy h1
      have hfree' : ∀ k ok, ops[k]? = some ok → k ≠ i → (listed.setIfInBounds j true).getD k true = false →
          (∀ e ∈ ok.after, Region.binds md e = true → e.on ≠ i) → oi.apart ops ok = true := fun k ok hk hki hun hno => by
        refine hfree k ok hk hki ?_ hno
        by_cases hjk : j = k
        · subst hjk; exact hjun
        · rw [getD_set_ne true hjk] at hun; exact hun
      refine wpOp_mono (fun a' w' h3 => ⟨fun _ => h3.2.1 hjm, ih (listed.setIfInBounds j true) a' w' hfree' (ready_mono hr (Ne.symm hji)) h3.1 (h3.2.1 hjm) ?_⟩) h2
      rw [Array.setIfInBounds_comm _ _ hji]
      exact h3.2.2

/-- Take number i first. -/
theorem take {i : Nat} {oi : Oper} {v : Value} {fuel : Nat} {listed : Array Bool} {a : Act} {w : World} (hi : ops[i]? = some oi)
    (hs : Region.noSelect ops = true) (hf : Region.free md ops listed i = true) (hr : (Region.ready md ops listed).contains i = true) (hbm : before md ops i m = true)
    (hQ : ∀ c a w, Q (.panic c) (a.put oi.dst v) w → Q (.panic c) a w) (hy : YieldsIf P ops S oi v a) (hS : S w)
    (h : Till P md ops Q S m fuel (listed.setIfInBounds i true) (a.put oi.dst v) w) : Till P md ops Q S m (fuel + 1) listed a w :=
  first hi (Region.noSelect_spec hs) hbm hQ fuel listed a w (Region.free_spec hi hf) (by simpa using hr) hy hS h

/-- The one that may come up comes up; behind it S is to be shown anew, but behind m. -/
theorem one {i : Nat} {o : Oper} {fuel : Nat} {listed : Array Bool} {a : Act} {w : World} (hr : Region.ready md ops listed = [i]) (ho : ops[i]? = some o)
    (h : ∀ K' : Act → World → Prop, Shut (∀ a w, (i ≠ m → S w) → ((i ≠ m → S w) → Till P md ops Q S m fuel (listed.setIfInBounds i true) a w) → K' a w) → if Region.wanted o (yielded ops a.tmps) = true then Oper.wp P o a w K' Q else K' (a.put o.dst undef) w) :
    Till P md ops Q S m (fuel + 1) listed a w :=
  ⟨(fun h0 => by rw [hr] at h0; cases h0), fun j hj => by
    rw [hr] at hj
    obtain rfl : j = i := by simpa using hj
    exact wpOp_step ho (fun K' hK => h K' (fun a w hS hW => hK a w ⟨hS, hW hS⟩))⟩

theorem done {listed : Array Bool} {a : Act} {w : World} (hr : Region.ready md ops listed = []) (h : Q .normal a w) :
    ∀ fuel, Till P md ops Q S m fuel listed a w
  | 0 => ⟨hr, h⟩
  | _ + 1 => ⟨fun _ => h, by rw [hr]; simp⟩

theorem region (S : World → Prop) (m : Nat) {id : Nat} {a : Act} {w : World} (hm : P.follows .mixedOrders = true)
    (hS : S w.drew) (h : S w.drew → Till P .any ops (NoPanic Q) S m ops.size (Array.replicate ops.size false) a w.drew) : (Code.region id ops true).wp P Q a w :=
  wp_region_noPanic (wp_region_any hm (any_of_till _ _ _ _ (h hS)))
end
end Go.Proofs.YtlcdjgpblpodaaaGreatDoor.Held
namespace Go.Proofs
open Go.Shelf
theorem YtlcdjgpblpodaaaGreatDoor.len64_any (n : Nat) (h : n ≤ 18446744073709551615) (w : World) : Calls Tryz.prog 165 #[.int .u64 n] w fun e w' => e = .returned (.int .i64 (Lib.bitLen n)) ∧ w = w' := by
  have := Any.bits_Len64 Tryz.l64 (n : Int) w (by omega) (by omega)
  exact this.mono fun _ _ h => ⟨h.1, h.2.symm⟩
end Go.Proofs
namespace Go.Proofs.YtlcdjgpblpodaaaGreatDoor
open Go.RowKit Go.Proofs.YtlcdjgpblpodaaaGreatDoorW.PrintWords

theorem bitLen_byte : ∀ q : Fin 256, q.val ≠ 0 → 1 ≤ Lib.bitLen q.val ∧ Lib.bitLen q.val ≤ 8 := by decide +kernel
theorem bitLen_width (n : Nat) (h0 : n ≠ 0) (h : n < 18446744073709551616) : (Lib.bitLen n + 7) / 8 = width n := by
  obtain ⟨h1, h2, h3, h4⟩ := width_spec n h
  obtain ⟨k, hk⟩ : ∃ k, width n = k + 1 := ⟨width n - 1, by omega⟩
  have h5 := h4 h0
  rw [hk] at h3 h5 ⊢
  rw [Nat.add_sub_cancel] at h5
  have e : (256 : Nat) ^ k = 2 ^ (8 * k) := by rw [Nat.pow_mul]
  have hb := Lib.bitLen_shift (8 * k) n (by rw [← e]; exact h5) (by rw [show (2 : Nat) ^ 64 = 18446744073709551616 by decide]; exact h)
  have hq1 : 1 ≤ n / 2 ^ (8 * k) := by rw [← e]; exact (Nat.le_div_iff_mul_le (Nat.pow_pos (by omega))).2 (by omega)
  have hq2 : n / 2 ^ (8 * k) < 256 := by rw [← e]; exact (Nat.div_lt_iff_lt_mul (Nat.pow_pos (by omega))).2 (by rw [Nat.pow_succ] at h3; omega)
  have := bitLen_byte ⟨n / 2 ^ (8 * k), hq2⟩ (by show n / 2 ^ (8 * k) ≠ 0; omega)
  simp only at this
  omega
theorem digits_take : ∀ (k n r : Nat), r < k → (digits k n).take (k - r) = (digits k n).take (k - (r + 1)) ++ [((n / 256 ^ r % 256 : Nat) : Int)]
  | 0, _, _, h => by omega
  | k + 1, n, 0, _ => by
    have hl := digits_length k (n / 256)
    rw [digits, show k + 1 - 0 = k + 1 by omega, show k + 1 - (0 + 1) = k by omega, List.take_of_length_le (by simp; omega), List.take_append_of_le_length (by omega), List.take_of_length_le (by omega)]
    simp
  | k + 1, n, r + 1, h => by
    have hl := digits_length k (n / 256)
    have ih := digits_take k (n / 256) r (by omega)
    rw [digits, show k + 1 - (r + 1) = k - r by omega, show k + 1 - (r + 1 + 1) = k - (r + 1) by omega, List.take_append_of_le_length (by omega), List.take_append_of_le_length (by omega), ih, Nat.div_div_eq_div_mul, Nat.pow_succ, Nat.mul_comm 256]

set_option maxRecDepth 100000 in
set_option maxHeartbeats 1000000 in
theorem wnum_wide (wb : Nat) (X : Nat → Prop) (bs : List Int) (n : Nat) (hn : ¬ n < 248) (h64 : n < 18446744073709551616) (w : World) (h : WR w wb X bs) (hl : bs.length ≤ 1073741824) :
    Calls Tryz.prog 96 #[.pointer (some ⟨wb, 0, none⟩), .int .u64 n] w fun e w' => e = .returned (.tuple #[]) ∧ WP w wb X (bs ++ encNum n) w' := by
  obtain ⟨v, hb, ho, hv⟩ := h.row
  have hne := own_block_ne ho hb (by decide)
  obtain ⟨VA, vc, rfl⟩ := own_slice ho
  obtain ⟨i0, hi, hz0, hz1, hz2⟩ := info_parts info5
  have hen : encNum n = ((247 + (width n : Int)) :: digits (width n) n) := by unfold encNum; rw [if_neg hn]
  rw [hen]
  obtain ⟨k1, k8, _, _⟩ := width_spec n h64
  have hbl := bitLen_width n (by omega) h64
  have hbl8 : Lib.bitLen n ≤ 64 := by omega
  obtain ⟨k, hk⟩ : ∃ k, k = width n := ⟨_, rfl⟩
  obtain ⟨L, hL⟩ : ∃ L, L = Lib.bitLen n := ⟨_, rfl⟩
  rw [← hk] at hbl k1 k8 ⊢
  rw [← hL] at hbl hbl8
  have HLen := Lib.hid (len64_any n (by omega) w)
  rw [← hL] at HLen
  have c0 := hb.cell 0
  have f0 := hb.free 0
  simp at c0
  have t0 : decide ((n : Int) < 248) = false := by simp; omega
  have n0 : (0 : Int) ≤ n := by omega
  have q0 : ((L : Int) + 7) / 8 = (k : Int) := by omega
  have q1 : (0 : Int) ≤ (k : Int) := by omega
  have q2 : (k : Int) ≤ 8 := by omega
  have H := Lib.hid h
  have HB := Lib.hid hb
  have HO := Lib.hid ho
  have HV := Lib.hid hv
  have HNE := Lib.hid hne
  clear h hb ho hv hne hbl hen hk hL
  have hlt := HB.out.lt
  go_enter Tryz.func96, Tryz.ntmps96
  go_wp2_with (first | (go_at_call 165; refine HLen.out.mono ?_; rintro e w' ⟨rfl, rfl⟩) | (at_builtin; refine wpList_append_lies _ rfl _ _ 88 rfl 0 5 i0 (.int .u8 0) 1 1 Tryz.underlying88 hi hz0 hz1 hz2 rfl (by decide) _ bs.length (encs (Value.int .u8) bs) rfl (HO.out.alloc _) ⟨w.heap.size, 0, none⟩ 1 1 [.int .u8 (247 + k)] rfl rfl (cell_one_new _ _ _) (ints_oneCell .u8 [(247 + k : Int)]) (by decide) (by unfold maxLen; omega) (by omega) (by simp) (w.heap.size + 1) (by simp) ?_; intro g cap w1 ho1 hg1 hat1 hlt1; have f0' : w1.frozen? ⟨wb, 0, none⟩ = false := ((hg1.frozen_far ⟨wb, 0, none⟩ (by simp; omega) (fun e => HNE.out e.symm)).trans ((HB.out.alloc _).free 0)); have c0' : w1.cell? ⟨wb, 0, none⟩ = some (.slice VA bs.length vc) := ((hg1.cell_far ⟨wb, 0, none⟩ (by simp; omega) (fun e => HNE.out e.symm)).trans ((HB.out.alloc _).cell 0)); have HS := Lib.hid (wr_put (xs := [(247 + k : Int)]) H.out HB.out HV.out ho1 (show (w.alloc (.cells #[.int .u8 (247 + k)] 5)).grownBy w1 (Value.slice VA bs.length vc).ownBlock from hg1) (show (Value.slice VA bs.length vc).ownBlock = some g ∨ g = w.heap.size + 1 from hat1) hlt1 HNE.out); clear ho1 hg1 hat1 hlt1))
  go_loopw [5] (fun s wr => ∃ (i : Int) (r : Nat), s = .int .i64 i ∧ i + 1 = r ∧ r ≤ k ∧ WP w wb X (bs ++ ([(247 + k : Int)] ++ (digits k n).take (k - r))) wr) (fun s _ => (intOf s + 1).toNat)
  case atStart => exact ⟨_, k, rfl, by omega, Nat.le_refl _, by simpa using HS.out⟩
  case round =>
    obtain ⟨i, r, rfl, hir, hrk, hwp⟩ := hrel
    have HWP := Lib.hid hwp
    clear hwp HS
    rcases r with _ | r
    · obtain rfl : i = -1 := by omega
      go_wp2
      go_end0
      refine ⟨rfl, ?_⟩
      have := HWP.out
      rw [show k - 0 = k from rfl, List.take_of_length_le (by rw [digits_length]; omega)] at this
      exact this
    · obtain rfl : i = (r : Int) := by omega
      obtain ⟨B, hB⟩ : ∃ B, B = bs ++ ([(247 + k : Int)] ++ (digits k n).take (k - (r + 1))) := ⟨_, rfl⟩
      have hBl : B.length ≤ 1073741900 := by
        have := List.length_take_le (k - (r + 1)) (digits k n)
        rw [hB]
        simp
        omega
      obtain ⟨D, hD⟩ : ∃ D : Int, D = ((n / 256 ^ r % 256 : Nat) : Int) := ⟨_, rfl⟩
      have HD := Lib.hid (show bs ++ ([(247 + k : Int)] ++ (digits k n).take (k - r)) = B ++ [D] by rw [hB, digits_take k n r (by omega), hD]; simp)
      have HWB := Lib.hid (show WP w wb X B wr from hB ▸ HWP.out)
      clear hB HWP
      obtain ⟨X1, hw1, hx1, hc1⟩ := HWB.out
      have HC1 := Lib.hid hc1
      have HX1 := Lib.hid hx1
      have HL := Lib.hid hBl
      obtain ⟨v, hb, ho, hv⟩ := hw1.row
      have hne := own_block_ne ho hb (by decide)
      obtain ⟨VA, vc, rfl⟩ := own_slice ho
      have c0 : wr.drew.cell? ⟨wb, 0, none⟩ = some (.slice VA B.length vc) := hb.cell 0
      have HW := Lib.hid (hw1.keep (Chg.refl (fun _ => False) wr).drew (fun _ _ h => h))
      have HB := Lib.hid hb
      have HO := Lib.hid ho
      have HV := Lib.hid hv
      have HNE := Lib.hid hne
      have r0 : (0 : Int) ≤ (r : Int) := by omega
      have r1 : (r : Int) ≤ 7 := by omega
      clear hw1 hx1 hc1 hb ho hv hne hBl
      go_upto_region 8 with fail
      have e8 : IntKind.i64.wrap (8 * (r : Int)) = 8 * r := by rw [IntKind.wrap_i64]; omega
      have b0 : (0 : Int) ≤ 8 * r := by omega
      have b1 : 8 * (r : Int) ≤ 64 := by omega
      have e9 : IntKind.u8.wrap ((n : Int) / 2 ^ (8 * (r : Int)).toNat) = D := by
        rw [hD, show (8 * (r : Int)).toNat = 8 * r by omega, IntKind.wrap_u8, show (2 : Int) ^ (8 * r) = ((256 ^ r : Nat) : Int) by rw [show (256 : Nat) = 2 ^ 8 from rfl, ← Nat.pow_mul]; simp]
        simp
      clear hD
      obtain ⟨S, hSD⟩ : ∃ S : World → Prop, S = fun w' => w'.cell? ⟨wb, 0, none⟩ = some (.slice VA B.length vc) := ⟨_, rfl⟩
      have HSD := Lib.hid hSD
      clear hSD
      refine Held.region S 14 (by kernel_rfl) (by rw [HSD.out]; exact c0) (fun hHeld => ?_)
      refine Held.take (i := 0) (oi := { dst := _, op := _, type := _, pos := _, after := _, guard := _ }) (v := ?v0) rfl (by kernel_rfl) (by kernel_rfl) (by kernel_rfl) (by kernel_rfl) (fun _ _ _ h => h) (Or.inl ⟨by rfl, ?hy0⟩) (by assumption) ?rest0
      case hy0 => (intro w hSw; rw [HSD.out] at hSw; (try dsimp only at hSw); go_simp; (try with_reducible rfl))
      try simp only [Act.put, List.setIfInBounds_toArray, List.set_cons_zero, List.set_cons_succ]
      refine Held.take (i := 1) (oi := { dst := _, op := _, type := _, pos := _, after := _, guard := _ }) (v := ?v1) rfl (by kernel_rfl) (by kernel_rfl) (by kernel_rfl) (by kernel_rfl) (fun _ _ _ h => h) (Or.inl ⟨by rfl, ?hy1⟩) (by assumption) ?rest1
      case hy1 => (intro w hSw; rw [HSD.out] at hSw; (try dsimp only at hSw); go_simp; (try with_reducible rfl))
      try simp only [Act.put, List.setIfInBounds_toArray, List.set_cons_zero, List.set_cons_succ]
      refine Held.take (i := 2) (oi := { dst := _, op := _, type := _, pos := _, after := _, guard := _ }) (v := ?v2) rfl (by kernel_rfl) (by kernel_rfl) (by kernel_rfl) (by kernel_rfl) (fun _ _ _ h => h) (Or.inl ⟨by rfl, ?hy2⟩) (by assumption) ?rest2
      case hy2 => (intro w hSw; rw [HSD.out] at hSw; (try dsimp only at hSw); go_simp; (try with_reducible rfl))
      try simp only [Act.put, List.setIfInBounds_toArray, List.set_cons_zero, List.set_cons_succ]
      refine Held.take (i := 3) (oi := { dst := _, op := _, type := _, pos := _, after := _, guard := _ }) (v := ?v3) rfl (by kernel_rfl) (by kernel_rfl) (by kernel_rfl) (by kernel_rfl) (fun _ _ _ h => h) (Or.inl ⟨by rfl, ?hy3⟩) (by assumption) ?rest3
      case hy3 => (intro w hSw; rw [HSD.out] at hSw; (try dsimp only at hSw); go_simp; (try with_reducible rfl))
      try simp only [Act.put, List.setIfInBounds_toArray, List.set_cons_zero, List.set_cons_succ]
      refine Held.take (i := 4) (oi := { dst := _, op := _, type := _, pos := _, after := _, guard := _ }) (v := ?v4) rfl (by kernel_rfl) (by kernel_rfl) (by kernel_rfl) (by kernel_rfl) (fun _ _ _ h => h) (Or.inl ⟨by rfl, ?hy4⟩) (by assumption) ?rest4
      case hy4 => (intro w hSw; rw [HSD.out] at hSw; (try dsimp only at hSw); go_simp; (try with_reducible rfl))
      try simp only [Act.put, List.setIfInBounds_toArray, List.set_cons_zero, List.set_cons_succ]
      refine Held.take (i := 5) (oi := { dst := _, op := _, type := _, pos := _, after := _, guard := _ }) (v := ?v5) rfl (by kernel_rfl) (by kernel_rfl) (by kernel_rfl) (by kernel_rfl) (fun _ _ _ h => h) (Or.inl ⟨by rfl, ?hy5⟩) (by assumption) ?rest5
      case hy5 => (intro w hSw; rw [HSD.out] at hSw; (try dsimp only at hSw); go_simp; (try with_reducible rfl))
      try simp only [Act.put, List.setIfInBounds_toArray, List.set_cons_zero, List.set_cons_succ]
      refine Held.take (i := 6) (oi := { dst := _, op := _, type := _, pos := _, after := _, guard := _ }) (v := ?v6) rfl (by kernel_rfl) (by kernel_rfl) (by kernel_rfl) (by kernel_rfl) (fun _ _ _ h => h) (Or.inl ⟨by rfl, ?hy6⟩) (by assumption) ?rest6
      case hy6 => (intro w hSw; rw [HSD.out] at hSw; (try dsimp only at hSw); go_simp; (try with_reducible rfl))
      try simp only [Act.put, List.setIfInBounds_toArray, List.set_cons_zero, List.set_cons_succ]
      refine Held.take (i := 7) (oi := { dst := _, op := _, type := _, pos := _, after := _, guard := _ }) (v := ?v7) rfl (by kernel_rfl) (by kernel_rfl) (by kernel_rfl) (by kernel_rfl) (fun _ _ _ h => h) (Or.inl ⟨by rfl, ?hy7⟩) (by assumption) ?rest7
      case hy7 => (intro w hSw; rw [HSD.out] at hSw; (try dsimp only at hSw); go_simp; (try with_reducible rfl))
      try simp only [Act.put, List.setIfInBounds_toArray, List.set_cons_zero, List.set_cons_succ]
      refine Held.take (i := 8) (oi := { dst := _, op := _, type := _, pos := _, after := _, guard := _ }) (v := ?v8) rfl (by kernel_rfl) (by kernel_rfl) (by kernel_rfl) (by kernel_rfl) (fun _ _ _ h => h) (Or.inl ⟨by rfl, ?hy8⟩) (by assumption) ?rest8
      case hy8 => (intro w hSw; rw [HSD.out] at hSw; (try dsimp only at hSw); go_simp; (try with_reducible rfl))
      try simp only [Act.put, List.setIfInBounds_toArray, List.set_cons_zero, List.set_cons_succ]
      refine Held.take (i := 9) (oi := { dst := _, op := _, type := _, pos := _, after := _, guard := _ }) (v := ?v9) rfl (by kernel_rfl) (by kernel_rfl) (by kernel_rfl) (by kernel_rfl) (fun _ _ _ h => h) (Or.inl ⟨by rfl, ?hy9⟩) (by assumption) ?rest9
      case hy9 => (intro w hSw; rw [HSD.out] at hSw; (try dsimp only at hSw); go_simp; (try with_reducible rfl))
      try simp only [Act.put, List.setIfInBounds_toArray, List.set_cons_zero, List.set_cons_succ]
      refine Held.one (i := 10) (o := { dst := _, op := _, type := _, pos := _, after := _, guard := _ }) (by kernel_rfl) rfl (fun K hK => ?_)
      go_simp
      refine hK.out _ _ (fun _ => ?hS10) (fun hHeld1 => ?_)
      case hS10 => (rw [HSD.out]; exact (Blk.alloc (Blk.drew HB.out) _).cell 0)
      clear hK K
      replace hHeld1 := hHeld1 (by decide)
      try simp only [Act.put, List.setIfInBounds_toArray, List.set_cons_zero, List.set_cons_succ]
      refine Held.one (i := 11) (o := { dst := _, op := _, type := _, pos := _, after := _, guard := _ }) (by kernel_rfl) rfl (fun K hK => ?_)
      refine step_append_lies _ (by rfl) (.tmp 47) (.tmp 53) 88 (by rfl) 0 5 i0 (.int .u8 0) 1 1 Tryz.underlying88 hi hz0 hz1 hz2 rfl (by decide) _ B.length (encs (Value.int .u8) B) (by rfl) (World.ownsRow.alloc (World.ownsRow.drew HO.out) _) ⟨wr.heap.size, 0, none⟩ 1 1 [.int .u8 D] (by rfl) rfl (cell_one_new _ _ _) (ints_oneCell .u8 [D]) (by decide) (by unfold maxLen; have := HL.out; omega) (by have := HL.out; omega) (by simp) (wr.heap.size + 1) (by simp) ?_
      intro g cap w1 ho1 hg1 hat1 hlt1
      have f1 : w1.frozen? ⟨wb, 0, none⟩ = false := ((hg1.frozen_far ⟨wb, 0, none⟩ (by have := HB.out.lt; simp; omega) (fun e => HNE.out e.symm)).trans ((Blk.alloc (Blk.drew HB.out) _).free 0))
      have c1 : w1.cell? ⟨wb, 0, none⟩ = some (.slice VA B.length vc) := ((hg1.cell_far ⟨wb, 0, none⟩ (by have := HB.out.lt; simp; omega) (fun e => HNE.out e.symm)).trans ((Blk.alloc (Blk.drew HB.out) _).cell 0))
      have HS := Lib.hid (wr_put (w := wr.drew) (xs := [D]) HW.out HB.out HV.out ho1 hg1 hat1 hlt1 HNE.out)
      clear ho1 hg1 hat1 hlt1
      refine hK.out _ _ (fun _ => ?hS11) (fun hHeld2 => ?_)
      case hS11 => (rw [HSD.out]; exact c1)
      clear hK K
      replace hHeld2 := hHeld2 (by decide)
      try simp only [Act.put, List.setIfInBounds_toArray, List.set_cons_zero, List.set_cons_succ]
      refine Held.one (i := 12) (o := { dst := _, op := _, type := _, pos := _, after := _, guard := _ }) (by kernel_rfl) rfl (fun K hK => ?_)
      go_simp
      refine hK.out _ _ (fun _ => hHeld2) (fun _ => ?_)
      clear hK K
      try simp only [Act.put, List.setIfInBounds_toArray, List.set_cons_zero, List.set_cons_succ]
      refine Held.one (i := 13) (o := { dst := _, op := _, type := _, pos := _, after := _, guard := _ }) (by kernel_rfl) rfl (fun K hK => ?_)
      go_simp
      refine hK.out _ _ (fun _ => hHeld2) (fun _ => ?_)
      clear hK K
      try simp only [Act.put, List.setIfInBounds_toArray, List.set_cons_zero, List.set_cons_succ]
      refine Held.one (i := 14) (o := { dst := _, op := _, type := _, pos := _, after := _, guard := _ }) (by kernel_rfl) rfl (fun K hK => ?_)
      go_simp
      refine hK.out _ _ (fun h => absurd rfl h) (fun _ => ?_)
      clear hK K
      refine Held.done (by kernel_rfl) ?_ _
      refine NoPanic.normal ?_
      go_wp2_with fail
      go_roundw
      case rel => exact ⟨_, r, rfl, by omega, by omega, by rw [HD.out]; exact WP.of HX1.out HC1.out.drew HS.out⟩
      case measure => simp [intOf]
theorem wnum_any (wb : Nat) (X : Nat → Prop) (bs : List Int) (n : Nat) (h64 : n < 18446744073709551616) (w : World) (h : WR w wb X bs) (hl : bs.length ≤ 1073741824) :
    Calls Tryz.prog 96 #[.pointer (some ⟨wb, 0, none⟩), .int .u64 n] w fun e w' => e = .returned (.tuple #[]) ∧ WP w wb X (bs ++ encNum n) w' := by
  by_cases hn : n < 248
  · have e : encNum n = [(n : Int)] := by unfold encNum; rw [if_pos hn]
    rw [e]
    exact wnum_small wb X bs n hn w h hl
  · exact wnum_wide wb X bs n hn h64 w h hl
end Go.Proofs.YtlcdjgpblpodaaaGreatDoor

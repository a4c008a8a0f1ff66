/- The reader's small functions (fail, Bad, End, NewReader), one goroutine. -/
import Derived.Test.YtkdkcffeepancaaBase
import Derived.Test.YtkdkcffeepancaaRows
import Derived.Test.YtkdkcffeepancaaPlain
namespace Go.Proofs.Ytkdkcffeepancaa
open Go.RowKit Go.Proofs.YtkdkcffeepancaaW.PrintWords

theorem info5 : (Try.prog.info? 5).map (fun i => (i.zero, i.size, i.bytes)) = some (some (.int .u8 0), 1, 1) := by kernel_rfl
theorem one5 : ∃ i, Try.prog.info? 5 = some i ∧ i.size = 1 := by
  obtain ⟨i, h, h2⟩ := Option.map_eq_some_iff.1 info5
  simp at h2
  exact ⟨i, h, h2.2.1⟩

/-- A reader at block rb: what is left, whether it is bad; its bytes lie in blocks of X. -/
def RD (w : World) (rb : Nat) (X : Nat → Prop) (bs : List Int) (bad : Bool) : Prop :=
  ∃ A c, Blk w rb #[.slice A bs.length c, .bool bad] 86 ∧ bs.length ≤ c ∧ ReadsOf (Value.int .u8) (0 : Int) w A bs.length bs ∧ ∀ a, A = some a → X a.block

theorem RD.chg {S X : Nat → Prop} {w w' : World} {rb : Nat} {bs : List Int} {bad : Bool} (h : RD w rb X bs bad) (hc : Chg S w w') (hr : ¬ S rb) (hX : ∀ k, X k → ¬ S k) : RD w' rb X bs bad := by
  obtain ⟨A, c, hb, h1, h3, h4⟩ := h
  exact ⟨A, c, hc.blk hb hr, h1, hc.reads h3 (fun a ha => hX _ (h4 a ha)), h4⟩

theorem fail_any (rb : Nat) (sv bv : Value) (w : World) (hb : Blk w rb #[sv, bv] 86) :
    Calls Try.prog 48 #[.pointer (some ⟨rb, 0, none⟩)] w fun e w' => e = .returned (.tuple #[]) ∧ w' = (w.setCell ⟨rb, 0, none⟩ (.slice none 0 0)).setCell ⟨rb, 1, none⟩ (.bool true) := by
  have c0 := hb.cell 0
  have c1 := hb.cell 1
  have f0 := hb.free 0
  have f1 := hb.free 1
  simp at c0 c1
  clear hb
  go_enter Try.func48, Try.ntmps48
  go_wp2
  go_end0
  exact ⟨rfl, rfl⟩

theorem failed_RD {w : World} {rb : Nat} {sv bv : Value} (hb : Blk w rb #[sv, bv] 86) (X : Nat → Prop) :
    RD ((w.setCell ⟨rb, 0, none⟩ (.slice none 0 0)).setCell ⟨rb, 1, none⟩ (.bool true)) rb X [] true ∧ Chg (fun k => k = rb) w ((w.setCell ⟨rb, 0, none⟩ (.slice none 0 0)).setCell ⟨rb, 1, none⟩ (.bool true)) := by
  refine ⟨⟨none, 0, ?_, by simp, ⟨rfl, by simp, fun h => by simp at h⟩, fun a h => by cases h⟩, ((Chg.refl (fun k => k = rb) w).put rb 0 (.inl rfl) _).put rb 1 (.inl rfl) _⟩
  simpa using (hb.set 0 (.slice none 0 0)).set 1 (.bool true)

theorem bad_any (rb : Nat) (X : Nat → Prop) (bs : List Int) (bad : Bool) (w : World) (h : RD w rb X bs bad) :
    Calls Try.prog 28 #[.pointer (some ⟨rb, 0, none⟩)] w fun e w' => e = .returned (.bool bad) ∧ w = w' := by
  obtain ⟨A, c, hb, _, _, _⟩ := h
  have c1 := hb.cell 1
  simp at c1
  clear hb
  go_enter Try.func28, Try.ntmps28
  go_wp2
  go_ret
  exact ⟨rfl, rfl⟩

theorem end_any (rb : Nat) (X : Nat → Prop) (bs : List Int) (w : World) (h : RD w rb X bs false) :
    Calls Try.prog 26 #[.pointer (some ⟨rb, 0, none⟩)] w fun e w' => e = .returned (.bool ((bs.length : Int) == 0)) ∧ w = w' := by
  obtain ⟨A, c, hb, _, _, _⟩ := h
  have c0 := hb.cell 0
  have c1 := hb.cell 1
  simp at c0 c1
  clear hb
  go_enter Try.func26, Try.ntmps26
  go_wp2
  go_ret
  exact ⟨by simp, rfl⟩

set_option maxHeartbeats 400000 in
theorem newreader (A : Option Addr) (c : Nat) (bs : List Int) (w : World) (hr : ReadsOf (Value.int .u8) (0 : Int) w A bs.length bs) (hl : bs.length ≤ 1099511627776) :
    Calls Try.prog 25 #[.slice A bs.length c] w fun e w' => ∃ rb, e = .returned (.pointer (some ⟨rb, 0, none⟩)) ∧ w.heap.size ≤ rb ∧ RD w' rb (fun k => w.heap.size ≤ k ∧ k < rb) bs false ∧ Below w.heap.size w w' := by
  have hr0 : ReadsOf (Value.int .u8) (0 : Int) (w.alloc (.cells #[] 5)) A bs.length bs := hr.below ((Below.refl _ _).alloc (Nat.le_refl _) _)
  have ho0 : (w.alloc (.cells #[] 5)).ownsRow w.heap.size 5 1 (.slice (some ⟨w.heap.size, 0, none⟩) 0 0) 0 (encs (Value.int .u8) []) := own_lit_of (enc := Value.int .u8) w w.heap.size 5 [] (Nat.le_refl _) (by simp)
  have hb0 : Below w.heap.size w (w.alloc (.cells #[] 5)) := (Below.refl _ _).alloc (Nat.le_refl _) _
  have HR0 := Lib.hid hr0
  have HO0 := Lib.hid ho0
  have HB0 := Lib.hid hb0
  clear hr0 ho0 hb0 hr
  go_enter Try.func25, Try.ntmps25
  go_wp2_with (at_builtin; refine print_append_row_of (w0 := w) (Value.int .u8) (0 : Int) w.heap.size rfl _ _ 24 5 (.int .u8 0) 1 rfl Try.underlying24 info5 rfl (by omega) (fun _ => rfl) _ [] bs A bs.length c rfl rfl HO0.out HR0.out HB0.out (by simp) (by simp; omega) ?_; intro v1 w1 ho1 hb1 hg1 hat1; simp only [List.nil_append] at ho1; have hbase1 := own_base ho1; obtain ⟨A1, c1, rfl, hc1, hr1⟩ := own_reads_of_le (d := (0 : Int)) ho1; have HO1 := Lib.hid ho1; have HR1 := Lib.hid hr1; have HB1 := Lib.hid hb1; have HBA := Lib.hid hbase1; clear ho1 hr1 hb1 hg1 hat1 hbase1)
  go_ret
  have hs := HB1.out.size
  refine ⟨w1.heap.size, rfl, hs, ⟨A1, c1, Blk.new _ _ _, hc1, HR1.out.below ((Below.refl _ _).alloc (Nat.le_refl _) _), fun a ha => ?_⟩, HB1.out.alloc hs _⟩
  subst ha
  exact ⟨HBA.out _ rfl, own_lt HO1.out _ rfl⟩
end Go.Proofs.Ytkdkcffeepancaa

/- The reader's Number, one goroutine. -/
import Derived.Test.YtkdkcffeepancaaRd1
namespace Go.Proofs.Ytkdkcffeepancaa
open Go.RowKit Go.Proofs.YtkdkcffeepancaaW.PrintWords

/-- What Number leaves. -/
def NumPost (rb : Nat) (X : Nat → Prop) (bs : List Int) (w : World) (e : Ending) (w' : World) : Prop :=
  match decNum bs with
  | none => e = .returned (.int .u64 0) ∧ RD w' rb X [] true ∧ Chg (fun k => k = rb) w w'
  | some (n, r) => e = .returned (.int .u64 n) ∧ RD w' rb X r false ∧ Chg (fun k => k = rb) w w'
theorem NumPost.none_ {rb : Nat} {X : Nat → Prop} {bs : List Int} {w w' : World} {e : Ending} (hd : decNum bs = none) (h : e = .returned (.int .u64 0) ∧ RD w' rb X [] true ∧ Chg (fun k => k = rb) w w') : NumPost rb X bs w e w' := by unfold NumPost; rw [hd]; exact h
theorem NumPost.some_ {rb : Nat} {X : Nat → Prop} {bs r : List Int} {n : Int} {w w' : World} {e : Ending} (hd : decNum bs = some (n, r)) (h : e = .returned (.int .u64 n) ∧ RD w' rb X r false ∧ Chg (fun k => k = rb) w w') : NumPost rb X bs w e w' := by unfold NumPost; rw [hd]; exact h

set_option maxRecDepth 100000 in
set_option maxHeartbeats 400000 in
theorem num_nil (rb : Nat) (X : Nat → Prop) (w : World) (h : RD w rb X [] false) : Calls Try.prog 47 #[.pointer (some ⟨rb, 0, none⟩)] w (NumPost rb X [] w) := by
  obtain ⟨A, c, hb, _, _, _⟩ := h
  have c0 := hb.cell 0
  have c1 := hb.cell 1
  simp at c0 c1
  have HB := Lib.hid hb
  clear hb
  go_enter Try.func47, Try.ntmps47
  go_wp2_with (go_at_call 48; refine (fail_any rb _ _ _ HB.out).mono ?_; rintro e w' ⟨rfl, rfl⟩)
  go_ret
  exact NumPost.none_ rfl ⟨rfl, failed_RD HB.out X⟩

set_option maxRecDepth 100000 in
set_option maxHeartbeats 400000 in
theorem num_small (rb : Nat) (X : Nat → Prop) (f : Int) (r : List Int) (hX : ¬ X rb) (hf0 : 0 ≤ f) (hf : f < 248) (w : World) (h : RD w rb X (f :: r) false) : Calls Try.prog 47 #[.pointer (some ⟨rb, 0, none⟩)] w (NumPost rb X (f :: r) w) := by
  obtain ⟨A, c, hb, hc, hr, hA⟩ := h
  obtain ⟨i, hi, hs⟩ := one5
  obtain ⟨A', hcut, hrd, hblk⟩ := cut_lo (P := Try.prog) (enc := Value.int .u8) (d := (0 : Int)) 24 5 .i64 Try.underlying24 hi hs A (f :: r).length c 1 (by simp) hc
  have hr' := hrd w _ hr
  obtain ⟨a, rfl, hcell⟩ := hr.2.2 (by simp)
  have h0 := hcell 0 (by simp)
  obtain ⟨b, off, sp⟩ := a
  obtain rfl : sp = none := by simpa [Addr.add] using World.cell?_spot h0
  simp [Addr.add] at h0
  have c0 := hb.cell 0
  have c1 := hb.cell 1
  have f0 := hb.free 0
  simp at c0 c1
  simp only [List.length_cons] at c0 hcut
  have e1 : r.length + 1 - 1 = r.length := by omega
  rw [e1] at hcut
  have hcut1 : ∀ W : World, (Instr.slice 24 (.slice (some ⟨b, off, none⟩) (r.length + 1) c) (some (.int .i64 1)) none none).run Try.prog W = .ok (.slice A' r.length (c - 1)) W := hcut
  clear hcut
  have hlen := hr.2.1
  have hne : ((r.length : Int) + 1 == 0) = false := by simp; omega
  have hpos : (0 : Nat) < r.length + 1 := by omega
  have HB := Lib.hid hb
  have HR := Lib.hid hr'
  have HX := Lib.hid hA
  have HK := Lib.hid hblk
  have HC := Lib.hid hc
  clear hb hrd hr' hr hA hblk hcell e1 hc
  go_enter Try.func47, Try.ntmps47
  go_wp2
  go_ret
  have hch : Chg (fun k => k = rb) w (w.setCell ⟨rb, 0, none⟩ (.slice A' r.length (c - 1))) := (Chg.refl (fun k => k = rb) w).put rb 0 (.inl rfl) _
  refine NumPost.some_ (n := f) (r := r) (by simp [decNum, hf]) ⟨rfl, ⟨A', c - 1, by simpa using HB.out.set 0 _, by have := HC.out; simp at this; omega, hch.reads HR.out (fun a ha e => hX (e ▸ HK.out X HX.out a ha)), HK.out X HX.out⟩, hch⟩
end Go.Proofs.Ytkdkcffeepancaa

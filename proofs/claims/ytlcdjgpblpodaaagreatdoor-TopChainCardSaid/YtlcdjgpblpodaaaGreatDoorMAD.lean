/- Rd1, Rd2, Rd3, Rd4, Rd5 -/
import Derived.Test.YtlcdjgpblpodaaaGreatDoorMAC
import Derived.Test.YtlcdjgpblpodaaaGreatDoorRows
import Derived.Laws.Bits64b
import Derived.Laws.BytesArg
namespace Go.Proofs.YtlcdjgpblpodaaaGreatDoor
open Go.RowKit Go.Proofs.YtlcdjgpblpodaaaGreatDoorW.PrintWords

theorem info5 : (Tryz.prog.info? 5).map (fun i => (i.zero, i.size, i.bytes)) = some (some (.int .u8 0), 1, 1) := by kernel_rfl
theorem one5 : ∃ i, Tryz.prog.info? 5 = some i ∧ i.size = 1 := by
  obtain ⟨i, h, h2⟩ := Option.map_eq_some_iff.1 info5
  simp at h2
  exact ⟨i, h, h2.2.1⟩

/-- A reader at block rb: what is left, whether it is bad; its bytes lie in blocks of X. -/
def RD (w : World) (rb : Nat) (X : Nat → Prop) (bs : List Int) (bad : Bool) : Prop :=
  ∃ A c, Blk w rb #[.slice A bs.length c, .bool bad] 205 ∧ bs.length ≤ c ∧ ReadsOf (Value.int .u8) (0 : Int) w A bs.length bs ∧ ∀ a, A = some a → X a.block

theorem RD.chg {S X : Nat → Prop} {w w' : World} {rb : Nat} {bs : List Int} {bad : Bool} (h : RD w rb X bs bad) (hc : Chg S w w') (hr : ¬ S rb) (hX : ∀ k, X k → ¬ S k) : RD w' rb X bs bad := by
  obtain ⟨A, c, hb, h1, h3, h4⟩ := h
  exact ⟨A, c, hc.blk hb hr, h1, hc.reads h3 (fun a ha => hX _ (h4 a ha)), h4⟩

theorem fail_any (rb : Nat) (sv bv : Value) (w : World) (hb : Blk w rb #[sv, bv] 205) :
    Calls Tryz.prog 132 #[.pointer (some ⟨rb, 0, none⟩)] w fun e w' => e = .returned (.tuple #[]) ∧ w' = (w.setCell ⟨rb, 0, none⟩ (.slice none 0 0)).setCell ⟨rb, 1, none⟩ (.bool true) := by
  have c0 := hb.cell 0
  have c1 := hb.cell 1
  have f0 := hb.free 0
  have f1 := hb.free 1
  simp at c0 c1
  clear hb
  go_enter Tryz.func132, Tryz.ntmps132
  go_wp2
  go_end0
  exact ⟨rfl, rfl⟩

theorem failed_RD {w : World} {rb : Nat} {sv bv : Value} (hb : Blk w rb #[sv, bv] 205) (X : Nat → Prop) :
    RD ((w.setCell ⟨rb, 0, none⟩ (.slice none 0 0)).setCell ⟨rb, 1, none⟩ (.bool true)) rb X [] true ∧ Chg (fun k => k = rb) w ((w.setCell ⟨rb, 0, none⟩ (.slice none 0 0)).setCell ⟨rb, 1, none⟩ (.bool true)) := by
  refine ⟨⟨none, 0, ?_, by simp, ⟨rfl, by simp, fun h => by simp at h⟩, fun a h => by cases h⟩, ((Chg.refl (fun k => k = rb) w).put rb 0 (.inl rfl) _).put rb 1 (.inl rfl) _⟩
  simpa using (hb.set 0 (.slice none 0 0)).set 1 (.bool true)

theorem bad_any (rb : Nat) (X : Nat → Prop) (bs : List Int) (bad : Bool) (w : World) (h : RD w rb X bs bad) :
    Calls Tryz.prog 79 #[.pointer (some ⟨rb, 0, none⟩)] w fun e w' => e = .returned (.bool bad) ∧ w = w' := by
  obtain ⟨A, c, hb, _, _, _⟩ := h
  have c1 := hb.cell 1
  simp at c1
  clear hb
  go_enter Tryz.func79, Tryz.ntmps79
  go_wp2
  go_ret
  exact ⟨rfl, rfl⟩

theorem end_any (rb : Nat) (X : Nat → Prop) (bs : List Int) (w : World) (h : RD w rb X bs false) :
    Calls Tryz.prog 28 #[.pointer (some ⟨rb, 0, none⟩)] w fun e w' => e = .returned (.bool ((bs.length : Int) == 0)) ∧ w = w' := by
  obtain ⟨A, c, hb, _, _, _⟩ := h
  have c0 := hb.cell 0
  have c1 := hb.cell 1
  simp at c0 c1
  clear hb
  go_enter Tryz.func28, Tryz.ntmps28
  go_wp2
  go_ret
  exact ⟨by simp, rfl⟩

set_option maxHeartbeats 400000 in
theorem newreader (A : Option Addr) (c : Nat) (bs : List Int) (w : World) (hr : ReadsOf (Value.int .u8) (0 : Int) w A bs.length bs) (hl : bs.length ≤ 1099511627776) :
    Calls Tryz.prog 26 #[.slice A bs.length c] w fun e w' => ∃ rb, e = .returned (.pointer (some ⟨rb, 0, none⟩)) ∧ w.heap.size ≤ rb ∧ RD w' rb (fun k => w.heap.size ≤ k ∧ k < rb) bs false ∧ Below w.heap.size w w' := by
  have hr0 : ReadsOf (Value.int .u8) (0 : Int) (w.alloc (.cells #[] 5)) A bs.length bs := hr.below ((Below.refl _ _).alloc (Nat.le_refl _) _)
  have ho0 : (w.alloc (.cells #[] 5)).ownsRow w.heap.size 5 1 (.slice (some ⟨w.heap.size, 0, none⟩) 0 0) 0 (encs (Value.int .u8) []) := own_lit_of (enc := Value.int .u8) w w.heap.size 5 [] (Nat.le_refl _) (by simp)
  have hb0 : Below w.heap.size w (w.alloc (.cells #[] 5)) := (Below.refl _ _).alloc (Nat.le_refl _) _
  have HR0 := Lib.hid hr0
  have HO0 := Lib.hid ho0
  have HB0 := Lib.hid hb0
  clear hr0 ho0 hb0 hr
  go_enter Tryz.func26, Tryz.ntmps26
  go_wp2_with (at_builtin; refine print_append_row_of (w0 := w) (Value.int .u8) (0 : Int) w.heap.size rfl _ _ 88 5 (.int .u8 0) 1 rfl Tryz.underlying88 info5 rfl (by omega) (fun _ => rfl) _ [] bs A bs.length c rfl rfl HO0.out HR0.out HB0.out (by simp) (by simp; omega) ?_; intro v1 w1 ho1 hb1 hg1 hat1; simp only [List.nil_append] at ho1; have hbase1 := own_base ho1; obtain ⟨A1, c1, rfl, hc1, hr1⟩ := own_reads_of_le (d := (0 : Int)) ho1; have HO1 := Lib.hid ho1; have HR1 := Lib.hid hr1; have HB1 := Lib.hid hb1; have HBA := Lib.hid hbase1; clear ho1 hr1 hb1 hg1 hat1 hbase1)
  go_ret
  have hs := HB1.out.size
  refine ⟨w1.heap.size, rfl, hs, ⟨A1, c1, Blk.new _ _ _, hc1, HR1.out.below ((Below.refl _ _).alloc (Nat.le_refl _) _), fun a ha => ?_⟩, HB1.out.alloc hs _⟩
  subst ha
  exact ⟨HBA.out _ rfl, own_lt HO1.out _ rfl⟩
end Go.Proofs.YtlcdjgpblpodaaaGreatDoor
namespace Go.Proofs.YtlcdjgpblpodaaaGreatDoor
open Go.RowKit Go.Proofs.YtlcdjgpblpodaaaGreatDoorW.PrintWords

/-- What Number leaves. -/
def NumPost (rb : Nat) (X : Nat → Prop) (bs : List Int) (w : World) (e : Ending) (w' : World) : Prop :=
  match decNum bs with
  | none => e = .returned (.int .u64 0) ∧ RD w' rb X [] true ∧ Chg (fun k => k = rb) w w'
  | some (n, r) => e = .returned (.int .u64 n) ∧ RD w' rb X r false ∧ Chg (fun k => k = rb) w w'
theorem NumPost.none_ {rb : Nat} {X : Nat → Prop} {bs : List Int} {w w' : World} {e : Ending} (hd : decNum bs = none) (h : e = .returned (.int .u64 0) ∧ RD w' rb X [] true ∧ Chg (fun k => k = rb) w w') : NumPost rb X bs w e w' := by unfold NumPost; rw [hd]; exact h
theorem NumPost.some_ {rb : Nat} {X : Nat → Prop} {bs r : List Int} {n : Int} {w w' : World} {e : Ending} (hd : decNum bs = some (n, r)) (h : e = .returned (.int .u64 n) ∧ RD w' rb X r false ∧ Chg (fun k => k = rb) w w') : NumPost rb X bs w e w' := by unfold NumPost; rw [hd]; exact h

set_option maxRecDepth 100000 in
set_option maxHeartbeats 400000 in
theorem num_nil (rb : Nat) (X : Nat → Prop) (w : World) (h : RD w rb X [] false) : Calls Tryz.prog 65 #[.pointer (some ⟨rb, 0, none⟩)] w (NumPost rb X [] w) := by
  obtain ⟨A, c, hb, _, _, _⟩ := h
  have c0 := hb.cell 0
  have c1 := hb.cell 1
  simp at c0 c1
  have HB := Lib.hid hb
  clear hb
  go_enter Tryz.func65, Tryz.ntmps65
  go_wp2_with (go_at_call 132; refine (fail_any rb _ _ _ HB.out).mono ?_; rintro e w' ⟨rfl, rfl⟩)
  go_ret
  exact NumPost.none_ rfl ⟨rfl, failed_RD HB.out X⟩

set_option maxRecDepth 100000 in
set_option maxHeartbeats 400000 in
theorem num_small (rb : Nat) (X : Nat → Prop) (f : Int) (r : List Int) (hX : ¬ X rb) (hf0 : 0 ≤ f) (hf : f < 248) (w : World) (h : RD w rb X (f :: r) false) : Calls Tryz.prog 65 #[.pointer (some ⟨rb, 0, none⟩)] w (NumPost rb X (f :: r) w) := by
  obtain ⟨A, c, hb, hc, hr, hA⟩ := h
  obtain ⟨i, hi, hs⟩ := one5
  obtain ⟨A', hcut, hrd, hblk⟩ := cut_lo (P := Tryz.prog) (enc := Value.int .u8) (d := (0 : Int)) 88 5 .i64 Tryz.underlying88 hi hs A (f :: r).length c 1 (by simp) hc
  have hr' := hrd w _ hr
  obtain ⟨a, rfl, hcell⟩ := hr.2.2 (by simp)
  have h0 := hcell 0 (by simp)
  obtain ⟨b, off, sp⟩ := a
  obtain rfl : sp = none := by simpa [Addr.add] using World.cell?_spot h0
  simp [Addr.add] at h0
  have c0 := hb.cell 0
  have c1 := hb.cell 1
  have f0 := hb.free 0
  simp at c0 c1
  simp only [List.length_cons] at c0 hcut
  have e1 : r.length + 1 - 1 = r.length := by omega
  rw [e1] at hcut
  have hcut1 : ∀ W : World, (Instr.slice 88 (.slice (some ⟨b, off, none⟩) (r.length + 1) c) (some (.int .i64 1)) none none).run Tryz.prog W = .ok (.slice A' r.length (c - 1)) W := hcut
  clear hcut
  have hlen := hr.2.1
  have hne : ((r.length : Int) + 1 == 0) = false := by simp; omega
  have hpos : (0 : Nat) < r.length + 1 := by omega
  have HB := Lib.hid hb
  have HR := Lib.hid hr'
  have HX := Lib.hid hA
  have HK := Lib.hid hblk
  have HC := Lib.hid hc
  clear hb hrd hr' hr hA hblk hcell e1 hc
  go_enter Tryz.func65, Tryz.ntmps65
  go_wp2
  go_ret
  have hch : Chg (fun k => k = rb) w (w.setCell ⟨rb, 0, none⟩ (.slice A' r.length (c - 1))) := (Chg.refl (fun k => k = rb) w).put rb 0 (.inl rfl) _
  refine NumPost.some_ (n := f) (r := r) (by simp [decNum, hf]) ⟨rfl, ⟨A', c - 1, by simpa using HB.out.set 0 _, by have := HC.out; simp at this; omega, hch.reads HR.out (fun a ha e => hX (e ▸ HK.out X HX.out a ha)), HK.out X HX.out⟩, hch⟩
end Go.Proofs.YtlcdjgpblpodaaaGreatDoor
namespace Go.Proofs.YtlcdjgpblpodaaaGreatDoor
open Go.RowKit Go.Proofs.YtlcdjgpblpodaaaGreatDoorW.PrintWords

theorem or_byte (a c : Int) (ha : 0 ≤ a) (hl : a * 256 < 18446744073709551616) (hc : 0 ≤ c) (hc2 : c ≤ 255) : bits .or .u64 (IntKind.u64.wrap (a * 256)) (IntKind.u64.wrap c) = a * 256 + c := by
  obtain ⟨x, rfl⟩ := Int.eq_ofNat_of_zero_le ha
  obtain ⟨y, rfl⟩ := Int.eq_ofNat_of_zero_le hc
  rw [IntKind.wrap_u64, IntKind.wrap_u64, Int.emod_eq_of_lt (by omega) hl, Int.emod_eq_of_lt (by omega) (by omega)]
  have h := bits_or_u64_nat (x * 256) y (by omega) (by omega)
  have e : (x * 256 ||| y) = x * 256 + y := by
    have h8 := Nat.shiftLeft_add_eq_or_of_lt (i := 8) (b := y) (by omega) x
    rw [Nat.shiftLeft_eq, show 2 ^ 8 = 256 from rfl] at h8
    exact h8.symm
  rw [e] at h
  have e2 : ((x * 256 : Nat) : Int) = (x : Int) * 256 := by omega
  rw [e2] at h
  rw [h, Int.natCast_add, e2]
theorem fold_step (m : List Int) (hb : IsBytes m) (h8 : m.length ≤ 8) (j : Nat) (hj : j < m.length) (c : Int) (hc : m[j]? = some c) :
    bits .or .u64 (IntKind.u64.wrap (foldB (m.take j) * 256)) (IntKind.u64.wrap c) = foldB (m.take (j + 1)) := by
  have hbd := foldB_bound (m.take j) (hb.take j)
  have hlen : (m.take j).length = j := by rw [List.length_take]; omega
  rw [hlen] at hbd
  have h7 : (256 : Int) ^ j ≤ 256 ^ 7 := by
    have hj7 : j = 0 ∨ j = 1 ∨ j = 2 ∨ j = 3 ∨ j = 4 ∨ j = 5 ∨ j = 6 ∨ j = 7 := by omega
    rcases hj7 with rfl | rfl | rfl | rfl | rfl | rfl | rfl | rfl <;> decide
  have hcb := hb c (List.mem_of_getElem? hc)
  rw [or_byte _ _ hbd.1 (by have : (256 : Int) ^ 7 = 72057594037927936 := by decide
                            omega) hcb.1 hcb.2, List.take_add_one, hc]
  simp only [Option.toList_some, foldB_snoc]

set_option maxRecDepth 100000 in
set_option maxHeartbeats 1000000 in
theorem num_short (rb : Nat) (X : Nat → Prop) (f : Int) (r : List Int) (k : Nat) (hk : f - 247 = (k : Int)) (hk1 : 1 ≤ k) (hk8 : k ≤ 8) (hs : r.length < k) (w : World) (h : RD w rb X (f :: r) false) : Calls Tryz.prog 65 #[.pointer (some ⟨rb, 0, none⟩)] w (NumPost rb X (f :: r) w) := by
  have hd : decNum (f :: r) = none := by
    simp only [decNum]
    rw [if_neg (by omega), if_pos (by rw [hk]; omega)]
  obtain ⟨A, c, hb, hc, hr, hA⟩ := h
  obtain ⟨a, rfl, hcell⟩ := hr.2.2 (by simp)
  have h0 := hcell 0 (by simp)
  obtain ⟨b, off, sp⟩ := a
  obtain rfl : sp = none := by simpa [Addr.add] using World.cell?_spot h0
  simp [Addr.add] at h0
  have c0 := hb.cell 0
  have c1 := hb.cell 1
  simp at c0 c1
  have hf0 : 0 ≤ f := by omega
  have hf1 : f ≤ 255 := by omega
  have t0 : decide (f < 248) = false := by simp; omega
  have t1 : decide (r.length < k) = true := by simpa using hs
  have hne : ((r.length : Int) + 1 == 0) = false := by simp; omega
  have hlen := hr.2.1
  have HB := Lib.hid hb
  have HD := Lib.hid hd
  clear hb hr hA hcell hc hd
  go_enter Tryz.func65, Tryz.ntmps65
  go_wp2_with (go_at_call 132; refine (fail_any rb _ _ _ HB.out).mono ?_; rintro e w' ⟨rfl, rfl⟩)
  go_ret
  exact NumPost.none_ HD.out ⟨rfl, failed_RD HB.out X⟩

set_option maxRecDepth 100000 in
set_option maxHeartbeats 1000000 in
theorem num_wide (rb : Nat) (X : Nat → Prop) (f : Int) (r : List Int) (k : Nat) (hX : ¬ X rb) (hk : f - 247 = (k : Int)) (hk1 : 1 ≤ k) (hk8 : k ≤ 8) (hs : k ≤ r.length) (hby : IsBytes r) (w : World) (h : RD w rb X (f :: r) false) : Calls Tryz.prog 65 #[.pointer (some ⟨rb, 0, none⟩)] w (NumPost rb X (f :: r) w) := by
  obtain ⟨A, c, hb, hc, hr, hA⟩ := h
  obtain ⟨i, hi, hsz⟩ := one5
  obtain ⟨A', hcut, hrd, hblk⟩ := cut_lo (P := Tryz.prog) (enc := Value.int .u8) (d := (0 : Int)) 88 5 .i64 Tryz.underlying88 hi hsz A (f :: r).length c (1 + k) (by simp; omega) hc
  obtain ⟨B', hmid, hmrd, hmblk⟩ := cut_mid (P := Tryz.prog) (enc := Value.int .u8) (d := (0 : Int)) 88 5 .i64 .i64 Tryz.underlying88 hi hsz A (f :: r).length c 1 (1 + k) (by omega) (by simp; omega) hc
  have hr' := hrd w _ hr
  have hm' := hmrd w _ hr
  obtain ⟨a, rfl, hcell⟩ := hr.2.2 (by simp)
  have h0 := hcell 0 (by simp)
  have h1 := hcell 1 (by simp; omega)
  obtain ⟨b, off, sp⟩ := a
  obtain rfl : sp = none := by simpa [Addr.add] using World.cell?_spot h0
  simp [Addr.add] at h0 h1
  have c0 := hb.cell 0
  have c1 := hb.cell 1
  have f0 := hb.free 0
  simp at c0 c1
  simp only [List.length_cons] at c0 hcut hmid
  have e1 : ((1 + k : Nat) : Int) = 1 + (k : Int) := by omega
  have e2 : r.length + 1 - (1 + k) = r.length - k := by omega
  have e3 : 1 + k - 1 = k := by omega
  rw [e1, e2] at hcut
  have hmid1 : ∀ W : World, (Instr.slice 88 (.slice (some ⟨b, off, none⟩) (r.length + 1) c) (some (.int .i64 1)) (some (.int .i64 (1 + (k : Int)))) none).run Tryz.prog W = .ok (.slice B' k (c - 1)) W := by rw [e1, e3] at hmid; exact hmid
  have e4 : List.drop 1 (List.take (1 + k) (f :: r)) = r.take k := by rw [Nat.add_comm]; simp
  have e5 : List.drop (1 + k) (f :: r) = r.drop k := by rw [Nat.add_comm]; simp
  have e6 : (f :: r).length - (1 + k) = r.length - k := by simp; omega
  rw [e4, e3] at hm'
  rw [e5, e6] at hr'
  obtain ⟨mb, hB, hmc⟩ := hm'.2.2 (by omega)
  subst hB
  obtain ⟨b2, off2, sp2⟩ := mb
  have g0 := hmc 0 (by omega)
  obtain rfl : sp2 = none := by simpa [Addr.add] using World.cell?_spot g0
  have hlen := hr.2.1
  simp at hlen
  have hf0 : 0 ≤ f := by omega
  have hf1 : f ≤ 255 := by omega
  have t0 : decide (f < 248) = false := by simp; omega
  have t1 : decide (r.length < k) = false := by simpa using hs
  have hne : ((r.length : Int) + 1 == 0) = false := by simp; omega
  have k1 : (k : Int) ≤ 8 := by omega
  have k2 : (1 : Int) ≤ k := by omega
  have HMC := Lib.hid (show ∀ j, j < k → w.cell? ⟨b2, off2 + j, none⟩ = some (.int .u8 ((r.take k).getD j 0)) from fun j hj => by have := hmc j hj; rwa [show (⟨b2, off2, none⟩ : Addr).add j = ⟨b2, off2 + j, none⟩ from Go.WideShapes.add_plain b2 off2 j] at this)
  have HB := Lib.hid hb
  have HR := Lib.hid hr'
  have HX := Lib.hid hA
  have HK := Lib.hid hblk
  have HC := Lib.hid hc
  have HBY := Lib.hid hby
  clear hb hrd hr' hr hA hblk hcell hc e1 e2 e3 e4 e5 e6 hmid hmrd hmblk hm' g0 hmc hby
  go_enter Tryz.func65, Tryz.ntmps65
  go_wp2_with fail
  go_loop [5, 63] (fun n i => ∃ j : Nat, j ≤ k ∧ i = .int .i64 j ∧ n = .int .u64 (foldB ((r.take k).take j))) (fun _ i => k - (intOf i).toNat)
  case atStart => exact ⟨0, by omega, rfl, by simp [foldB]⟩
  case round =>
    obtain ⟨j, hj, rfl, rfl⟩ := hrel
    by_cases hjk : j < k
    · have hcj := HMC.out j hjk
      have j0 : (0 : Int) ≤ (j : Int) := by omega
      have j1 : (j : Int) < (k : Int) := by omega
      go_wp2_with fail
      go_round
      case rel =>
        refine ⟨j + 1, by omega, by go_num, ?_⟩
        have hm : (r.take k).length = k := by rw [List.length_take]; omega
        rw [fold_step (r.take k) (HBY.out.take k) (by omega) j (by omega) r[j] (by rw [List.getElem?_take_of_lt hjk]; exact List.getElem?_eq_getElem (by omega))]
      case measure => simp [intOf]; omega
    · obtain rfl : j = k := by omega
      have ett : List.take j (List.take j r) = List.take j r := by rw [List.take_take, Nat.min_self]
      rw [ett]
      clear ett
      have hbd := foldB_bound (r.take j) (HBY.out.take j)
      have hml : (r.take j).length = j := by rw [List.length_take]; omega
      have HBD := Lib.hid hbd
      clear hbd
      by_cases hn : foldB (r.take j) < 248
      · have t2 : decide (foldB (r.take j) < 248) = true := by simpa using hn
        have hd := Lib.hid (show decNum (f :: r) = none by
          simp only [decNum]
          rw [if_neg (by omega), if_neg (by rw [hk]; omega), if_pos (by rw [hk]; exact .inl hn)])
        go_wp2_with (go_at_call 132; refine (fail_any rb _ _ _ HB.out).mono ?_; rintro e w' ⟨rfl, rfl⟩)
        go_ret
        exact NumPost.none_ hd.out ⟨rfl, failed_RD HB.out X⟩
      · have t2 : decide (foldB (r.take j) < 248) = false := by simpa using hn
        have t3 : (1 : Int) < (r.length : Int) + 1 := by omega
        have hr0 : r[0]?.getD 0 = r.getD 0 0 := by simp [List.getD_eq_getElem?_getD]
        rw [hr0] at h1
        clear hr0
        obtain ⟨x0, hx0⟩ : ∃ x, x = r.getD 0 0 := ⟨_, rfl⟩
        rw [← hx0] at h1
        have HX0 := Lib.hid hx0
        clear hx0
        by_cases hz : x0 = 0
        · have t4 : (x0 == 0) = true := by simpa using hz
          have hd := Lib.hid (show decNum (f :: r) = none by
            simp only [decNum]
            rw [if_neg (by omega), if_neg (by rw [hk]; omega), if_pos (.inr (HX0.out ▸ hz))])
          clear hz
          go_wp2_with (go_at_call 132; refine (fail_any rb _ _ _ HB.out).mono ?_; rintro e w' ⟨rfl, rfl⟩)
          go_ret
          exact NumPost.none_ hd.out ⟨rfl, failed_RD HB.out X⟩
        · have t4 : (x0 == 0) = false := by simpa using hz
          have hd := Lib.hid (show decNum (f :: r) = some (foldB (r.take j), r.drop j) by
            simp only [decNum]
            rw [if_neg (by omega), if_neg (by rw [hk]; omega), if_neg (by rw [hk]; simp only [Int.toNat_natCast]; exact fun h => h.elim hn (fun e => hz (HX0.out.trans e))), hk]
            rfl)
          clear hz
          go_wp2_with fail
          go_ret
          have hch : Chg (fun k => k = rb) w (w.setCell ⟨rb, 0, none⟩ (.slice A' (r.length - j) (c - (1 + j)))) := (Chg.refl (fun k => k = rb) w).put rb 0 (.inl rfl) _
          exact NumPost.some_ hd.out ⟨rfl, ⟨A', c - (1 + j), by have := HB.out.set 0 (.slice A' (r.length - j) (c - (1 + j))); simpa using this, by have := HC.out; simp at this ⊢; omega, by have := hch.reads HR.out (fun a ha e => hX (e ▸ HK.out X HX.out a ha)); simpa using this, HK.out X HX.out⟩, hch⟩
end Go.Proofs.YtlcdjgpblpodaaaGreatDoor
namespace Go.Proofs.YtlcdjgpblpodaaaGreatDoor
open Go.RowKit Go.Proofs.YtlcdjgpblpodaaaGreatDoorW.PrintWords

theorem num_any (rb : Nat) (X : Nat → Prop) (bs : List Int) (hX : ¬ X rb) (hby : IsBytes bs) (w : World) (h : RD w rb X bs false) : Calls Tryz.prog 65 #[.pointer (some ⟨rb, 0, none⟩)] w (NumPost rb X bs w) := by
  cases bs with
  | nil => exact num_nil rb X w h
  | cons f r =>
    have hf := hby f (by simp)
    by_cases h1 : f < 248
    · exact num_small rb X f r hX hf.1 h1 w h
    · obtain ⟨k, hk⟩ := Int.eq_ofNat_of_zero_le (show 0 ≤ f - 247 by omega)
      by_cases h2 : r.length < k
      · exact num_short rb X f r k hk (by omega) (by omega) h2 w h
      · exact num_wide rb X f r k hX hk (by omega) (by omega) (by omega) (fun x hx => hby x (List.mem_cons_of_mem _ hx)) w h

theorem conv_str {w : World} {A : Option Addr} {n c : Nat} {xs : List Int} (hr : ReadsOf (Value.int .u8) (0 : Int) w A n xs) : (convert 88 9 (.slice A n c)).run Tryz.prog w = .ok (.string (strOfNums xs)) w := by
  obtain ⟨hl, _, hc⟩ := hr
  rcases Nat.eq_zero_or_pos n with h0 | h0
  · subst h0
    obtain rfl : xs = [] := List.eq_nil_of_length_eq_zero hl
    cases A with
    | none => exact run_convert_bytes_nil w 88 5 Tryz.underlying88 Tryz.underlying5 0 c 9 Tryz.underlying9
    | some a =>
      have hl : (loadCells a 0).run Tryz.prog w = .ok #[] w := by simpa using run_loadCells_list (P := Tryz.prog) w a [] (by simp)
      rw [run_convert_bytes_string w 88 9 5 (some a) 0 c Tryz.underlying88 Tryz.underlying5 Tryz.underlying9, run_bytesToString w _ 0 c [] hl]
      rfl
  · obtain ⟨a, rfl, hcell⟩ := hc h0
    obtain ⟨b, off, sp⟩ := a
    have g0 := hcell 0 h0
    obtain rfl : sp = none := by simpa [Addr.add] using World.cell?_spot g0
    exact run_convert_bytes_arg w 88 5 Tryz.underlying88 Tryz.underlying5 b off n c xs hl (fun i hi => by have := hcell i hi; rwa [show (⟨b, off, none⟩ : Addr).add i = ⟨b, off + i, none⟩ from Go.WideShapes.add_plain b off i] at this) 9 Tryz.underlying9

/-- What Text leaves. -/
def TextPost (rb : Nat) (X : Nat → Prop) (bs : List Int) (w : World) (e : Ending) (w' : World) : Prop :=
  match decText bs with
  | none => e = .returned (.string ⟨#[]⟩) ∧ RD w' rb X [] true ∧ Chg (fun k => k = rb) w w'
  | some (s, r) => e = .returned (.string (strOfNums s)) ∧ RD w' rb X r false ∧ Chg (fun k => k = rb) w w'
theorem TextPost.none_ {rb : Nat} {X : Nat → Prop} {bs : List Int} {w w' : World} {e : Ending} (hd : decText bs = none) (h : e = .returned (.string ⟨#[]⟩) ∧ RD w' rb X [] true ∧ Chg (fun k => k = rb) w w') : TextPost rb X bs w e w' := by unfold TextPost; rw [hd]; exact h
theorem TextPost.some_ {rb : Nat} {X : Nat → Prop} {bs s r : List Int} {w w' : World} {e : Ending} (hd : decText bs = some (s, r)) (h : e = .returned (.string (strOfNums s)) ∧ RD w' rb X r false ∧ Chg (fun k => k = rb) w w') : TextPost rb X bs w e w' := by unfold TextPost; rw [hd]; exact h

theorem num_none {rb : Nat} {X : Nat → Prop} {bs : List Int} {w : World} (hd : decNum bs = none) (h : Calls Tryz.prog 65 #[.pointer (some ⟨rb, 0, none⟩)] w (NumPost rb X bs w)) :
    Calls Tryz.prog 65 #[.pointer (some ⟨rb, 0, none⟩)] w fun e w' => e = .returned (.int .u64 0) ∧ RD w' rb X [] true ∧ Chg (fun k => k = rb) w w' := h.mono fun e w' q => by unfold NumPost at q; rw [hd] at q; exact q
theorem num_some {rb : Nat} {X : Nat → Prop} {bs r : List Int} {n : Int} {w : World} (hd : decNum bs = some (n, r)) (h : Calls Tryz.prog 65 #[.pointer (some ⟨rb, 0, none⟩)] w (NumPost rb X bs w)) :
    Calls Tryz.prog 65 #[.pointer (some ⟨rb, 0, none⟩)] w fun e w' => e = .returned (.int .u64 n) ∧ RD w' rb X r false ∧ Chg (fun k => k = rb) w w' := h.mono fun e w' q => by unfold NumPost at q; rw [hd] at q; exact q

set_option maxRecDepth 100000 in
set_option maxHeartbeats 1000000 in
theorem text_bad (rb : Nat) (X : Nat → Prop) (bs : List Int) (hX : ¬ X rb) (hby : IsBytes bs) (hd : decNum bs = none) (w : World) (h : RD w rb X bs false) : Calls Tryz.prog 77 #[.pointer (some ⟨rb, 0, none⟩)] w (TextPost rb X bs w) := by
  have HN := Lib.hid (num_none hd (num_any rb X bs hX hby w h))
  have HD := Lib.hid (show decText bs = none by unfold decText; rw [hd])
  clear hd h
  go_enter Tryz.func77, Tryz.ntmps77
  go_wp2_with fail
  refine HN.out.mono ?_
  rintro e w1 ⟨rfl, hr, hc⟩
  obtain ⟨A, c, hb, h1, h2, h3⟩ := hr
  have b1 := hb.cell 1
  simp at b1
  have HB := Lib.hid hb
  have HC := Lib.hid hc
  have HR := Lib.hid (show RD w1 rb X [] true from ⟨A, c, hb, h1, h2, h3⟩)
  clear hb hc h1 h2 h3
  go_wp2
  go_ret
  exact TextPost.none_ HD.out ⟨rfl, HR.out, HC.out⟩

set_option maxRecDepth 100000 in
set_option maxHeartbeats 1000000 in
theorem text_long (rb : Nat) (X : Nat → Prop) (bs r : List Int) (n : Int) (hX : ¬ X rb) (hby : IsBytes bs) (hd : decNum bs = some (n, r)) (hlong : (r.length : Int) < n) (w : World) (h : RD w rb X bs false) : Calls Tryz.prog 77 #[.pointer (some ⟨rb, 0, none⟩)] w (TextPost rb X bs w) := by
  have HN := Lib.hid (num_some hd (num_any rb X bs hX hby w h))
  have HD := Lib.hid (show decText bs = none by unfold decText; rw [hd]; simp only []; rw [if_pos hlong])
  clear hd h
  go_enter Tryz.func77, Tryz.ntmps77
  go_wp2_with fail
  refine HN.out.mono ?_
  rintro e w1 ⟨rfl, hr, hc⟩
  obtain ⟨A, c, hb, h1, h2, h3⟩ := hr
  have b0 := hb.cell 0
  have b1 := hb.cell 1
  simp at b0 b1
  have hlen := h2.2.1
  have t0 : decide ((r.length : Int) < n) = true := by simpa using hlong
  have HB := Lib.hid hb
  have HC := Lib.hid hc
  clear hb hc h1 h2 h3
  go_wp2_with (go_at_call 132; refine (fail_any rb _ _ _ HB.out).mono ?_; rintro e w' ⟨rfl, rfl⟩)
  go_ret
  exact TextPost.none_ HD.out ⟨rfl, (failed_RD HB.out X).1, HC.out.trans (failed_RD HB.out X).2 (fun _ _ h => h)⟩
end Go.Proofs.YtlcdjgpblpodaaaGreatDoor
namespace Go.Proofs.YtlcdjgpblpodaaaGreatDoor
open Go.RowKit Go.Proofs.YtlcdjgpblpodaaaGreatDoorW.PrintWords

theorem decNum_facts {bs r : List Int} {n : Int} (hby : IsBytes bs) (h : decNum bs = some (n, r)) : 0 ≤ n ∧ IsBytes r ∧ r.length < bs.length := by
  cases bs with
  | nil => simp [decNum] at h
  | cons f t =>
    have hf := hby f (by simp)
    have ht : IsBytes t := fun x hx => hby x (List.mem_cons_of_mem _ hx)
    simp only [decNum] at h
    split at h
    · simp at h
      obtain ⟨rfl, rfl⟩ := h
      exact ⟨hf.1, ht, by simp⟩
    · split at h
      · cases h
      · split at h
        · cases h
        · simp at h
          obtain ⟨rfl, rfl⟩ := h
          exact ⟨(foldB_bound _ (ht.take _)).1, ht.drop _, by simp; omega⟩

set_option maxRecDepth 100000 in
set_option maxHeartbeats 1000000 in
theorem text_ok (rb : Nat) (X : Nat → Prop) (bs r : List Int) (m : Nat) (hX : ¬ X rb) (hby : IsBytes bs) (hd : decNum bs = some ((m : Int), r)) (hm : m ≤ r.length) (w : World) (h : RD w rb X bs false) : Calls Tryz.prog 77 #[.pointer (some ⟨rb, 0, none⟩)] w (TextPost rb X bs w) := by
  have HN := Lib.hid (num_some hd (num_any rb X bs hX hby w h))
  have HD := Lib.hid (show decText bs = some (r.take m, r.drop m) by unfold decText; rw [hd]; simp only []; rw [if_neg (by omega)]; rfl)
  clear hd h
  obtain ⟨i, hi, hsz⟩ := one5
  go_enter Tryz.func77, Tryz.ntmps77
  go_wp2_with fail
  refine HN.out.mono ?_
  rintro e w1 ⟨rfl, hr, hc⟩
  obtain ⟨A, c, hb, h1, h2, h3⟩ := hr
  obtain ⟨A', hcut, hrd, hblk⟩ := cut_lo (P := Tryz.prog) (enc := Value.int .u8) (d := (0 : Int)) 88 5 .u64 Tryz.underlying88 hi hsz A r.length c m hm h1
  have hhi := cut_hi (P := Tryz.prog) 88 5 .u64 Tryz.underlying88 hi hsz A r.length c m (by omega)
  have hcv := conv_str (c := c) (h2.take_ m hm)
  have hr2 := hrd w1 _ h2
  have b0 := hb.cell 0
  have b1 := hb.cell 1
  have f0 := hb.free 0
  simp at b0 b1
  have hlen := h2.2.1
  have t0 : decide (r.length < m) = false := by simpa using hm
  have HB := Lib.hid hb
  have HC := Lib.hid hc
  have HR := Lib.hid hr2
  have HX := Lib.hid h3
  have HK := Lib.hid hblk
  have HL := Lib.hid h1
  clear hb hc h1 h2 h3 hrd hblk hr2
  go_wp2_with fail
  go_ret
  have hch : Chg (fun k => k = rb) w1 (w1.setCell ⟨rb, 0, none⟩ (.slice A' (r.length - m) (c - m))) := (Chg.refl (fun k => k = rb) w1).put rb 0 (.inl rfl) _
  exact TextPost.some_ HD.out ⟨rfl, ⟨A', c - m, by have := HB.out.set 0 (.slice A' (r.length - m) (c - m)); simpa using this, by have := HL.out; simp; omega, by have := hch.reads HR.out (fun a ha e => hX (e ▸ HK.out X HX.out a ha)); simpa using this, HK.out X HX.out⟩, HC.out.trans hch (fun _ _ h => h)⟩

theorem text_any (rb : Nat) (X : Nat → Prop) (bs : List Int) (hX : ¬ X rb) (hby : IsBytes bs) (w : World) (h : RD w rb X bs false) : Calls Tryz.prog 77 #[.pointer (some ⟨rb, 0, none⟩)] w (TextPost rb X bs w) := by
  cases hd : decNum bs with
  | none => exact text_bad rb X bs hX hby hd w h
  | some p =>
    obtain ⟨n, r⟩ := p
    obtain ⟨h0, _, _⟩ := decNum_facts hby hd
    obtain ⟨m, rfl⟩ := Int.eq_ofNat_of_zero_le h0
    by_cases hm : (r.length : Int) < m
    · exact text_long rb X bs r _ hX hby hd hm w h
    · exact text_ok rb X bs r m hX hby hd (by omega) w h
end Go.Proofs.YtlcdjgpblpodaaaGreatDoor

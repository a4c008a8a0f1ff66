/- Whatever is added, taken and asked of counters, in whatever order, is told as the document says: the law CountsPlay returns true at every script, for new counters and the zero Counts. No condition. -/
import Derived.Test.YteffdcpepjjkbaaC2
import Derived.ProofKit
import Derived.OpenShut
import Derived.Deep.DeepFit
import Derived.Deep.DeepCutAuto
import Derived.Deep.CutBlock
import Derived.Deep.Strs
import Derived.ChangeOld
namespace Go.Proofs.Yteffdcpepjjkbaa.countsPlay
open Go.RowKit

/-- The eight cells of block b, one by one. -/
def Cnt8 (b : Nat) (f : Nat → Int) (w : World) : Prop :=
  w.cell? ⟨b, 0, none⟩ = some (.int .u64 (f 0)) ∧ w.cell? ⟨b, 1, none⟩ = some (.int .u64 (f 1)) ∧ w.cell? ⟨b, 2, none⟩ = some (.int .u64 (f 2)) ∧ w.cell? ⟨b, 3, none⟩ = some (.int .u64 (f 3)) ∧
  w.cell? ⟨b, 4, none⟩ = some (.int .u64 (f 4)) ∧ w.cell? ⟨b, 5, none⟩ = some (.int .u64 (f 5)) ∧ w.cell? ⟨b, 6, none⟩ = some (.int .u64 (f 6)) ∧ w.cell? ⟨b, 7, none⟩ = some (.int .u64 (f 7))
theorem Cnt8.of {b : Nat} {f : Nat → Int} {w : World} (h : Cnt w b f) : Cnt8 b f w := ⟨(h 0 (by omega)).1, (h 1 (by omega)).1, (h 2 (by omega)).1, (h 3 (by omega)).1, (h 4 (by omega)).1, (h 5 (by omega)).1, (h 6 (by omega)).1, (h 7 (by omega)).1⟩

theorem _root_.Go.Proofs.Yteffdcpepjjkbaa.Cnt.drew {b : Nat} {f : Nat → Int} {w : World} (h : Cnt w b f) : Cnt w.drew b f := fun j hj => by simpa using h j hj
theorem same_yes8 (lb : Nat) (f : Nat → Int) (w : World) (hc : Cnt w lb f) :
    Calls Try.prog 11 #[.slice (some ⟨lb, 0, none⟩) 8 8, .agg #[.int .u64 (f 0), .int .u64 (f 1), .int .u64 (f 2), .int .u64 (f 3), .int .u64 (f 4), .int .u64 (f 5), .int .u64 (f 6), .int .u64 (f 7)]] w fun e w' => e = .returned (.bool true) ∧ Below w.heap.size w w' := same_yes lb f w hc


def upd (f : Nat → Int) (i : Nat) (v : Int) : Nat → Int := fun j => if j = i then v else f j
theorem _root_.Go.Proofs.Yteffdcpepjjkbaa.Cnt.set {w : World} {b i : Nat} {f : Nat → Int} (h : Cnt w b f) (hi : i < 8) (v : Int) : Cnt (w.setCell ⟨b, i, none⟩ (.int .u64 v)) b (upd f i v) := fun j hj => by
  by_cases e : j = i
  · subst e
    exact ⟨by rw [World.cell?_setCell_same _ _ _ (h j hj).1]; simp [upd], by simp [(h j hj).2]⟩
  · exact ⟨by rw [World.cell?_setCell_other _ _ _ _ (ne_off (Ne.symm e)), (h j hj).1]; simp [upd, e], by simp [(h j hj).2]⟩
theorem _root_.Go.Proofs.Yteffdcpepjjkbaa.Cnt.other {w : World} {b c i : Nat} {f : Nat → Int} (h : Cnt w b f) (hc : c ≠ b) (v : Value) : Cnt (w.setCell ⟨c, i, none⟩ v) b f := fun j hj =>
  ⟨by rw [World.cell?_setCell_other _ _ _ _ (ne_blk hc), (h j hj).1], by simp [(h j hj).2]⟩
theorem cell_far {w : World} {a b : Addr} {v u : Value} (hne : a.block ≠ b.block) (h : w.cell? b = some u) : (w.setCell a v).cell? b = some u := by
  rw [World.cell?_setCell_other _ _ _ _ (fun e => hne (congrArg Addr.block e))]; exact h
theorem cell_off {w : World} {b c i j : Nat} {v u : Value} (hne : b ≠ c) (h : w.cell? ⟨c, j, none⟩ = some u) : (w.setCell ⟨b, i, none⟩ v).cell? ⟨c, j, none⟩ = some u := cell_far hne h
theorem bthen {w w1 w2 : World} (h : Below w.heap.size w w1) (k : Below w1.heap.size w1 w2) : Below w.heap.size w w2 :=
  h.trans ⟨k.os, k.tape, k.output, k.size, fun i hi => k.block i (by have := h.size; omega)⟩

/-- What a write into the counters leaves. -/
structure Wrote (b : Nat) (f : Nat → Int) (w w' : World) : Prop where
  below : Below b w w'
  mine : Cnt w' b f
  far : ∀ c j, c ≠ b → w'.cell? ⟨c, j, none⟩ = w.cell? ⟨c, j, none⟩
  cnt : ∀ c g, c ≠ b → Cnt w c g → Cnt w' c g
theorem wrote (w : World) (b i : Nat) (f : Nat → Int) (h : Cnt w b f) (hi : i < 8) (v : Int) : Wrote b (upd f i v) w (w.setCell ⟨b, i, none⟩ (.int .u64 v)) :=
  ⟨show Below b w (w.setCell ⟨b, i, none⟩ (.int .u64 v)) from (Below.refl b w).setCell (Nat.le_refl b) _, h.set hi v, fun c j hc => by rw [World.cell?_setCell_other _ _ _ _ (ne_blk (Ne.symm hc))], fun c g hc hg => hg.other (Ne.symm hc) _⟩
theorem add_c (b : Nat) (f : Nat → Int) (i n : Int) (h0 : 0 ≤ i) (h1 : i ≤ 7) (w : World) (hc : Cnt w b f) :
    Calls Try.prog 8 #[.pointer (some ⟨b, 0, none⟩), .int .i64 i, .int .u64 n] w fun e w' => e = .returned (.int .u64 (IntKind.u64.wrap (f i.toNat + n))) ∧ Wrote b (upd f i.toNat (IntKind.u64.wrap (f i.toNat + n))) w w' :=
  (add_in b i n (f i.toNat) h0 h1 w (hc _ (by omega)).1 (hc _ (by omega)).2).mono fun e w' ⟨he, hw⟩ => ⟨he, hw ▸ wrote w b _ f hc (by omega) _⟩
theorem take_c (b : Nat) (f : Nat → Int) (i : Int) (h0 : 0 ≤ i) (h1 : i ≤ 7) (w : World) (hc : Cnt w b f) :
    Calls Try.prog 10 #[.pointer (some ⟨b, 0, none⟩), .int .i64 i] w fun e w' => e = .returned (.int .u64 (f i.toNat)) ∧ Wrote b (upd f i.toNat 0) w w' :=
  (take_in b i (f i.toNat) h0 h1 w (hc _ (by omega)).1 (hc _ (by omega)).2).mono fun e w' ⟨he, hw⟩ => ⟨he, hw ▸ wrote w b _ f hc (by omega) _⟩

/-- What the walk is told of the script: its cells, element by element. -/
def IsOps (w : World) (A : Option Addr) (len : Nat) (K I N : Nat → Int) : Prop :=
  len ≤ 9223372036854775807 ∧ (0 < len → ∃ b off, A = some ⟨b, off, none⟩ ∧ ∀ i, i < len → w.cell? ⟨b, off + i * 3, none⟩ = some (.int .i64 (K i)) ∧ w.cell? ⟨b, off + i * 3 + 1, none⟩ = some (.int .i64 (I i)) ∧ w.cell? ⟨b, off + i * 3 + 2, none⟩ = some (.int .u64 (N i)))

set_option maxRecDepth 100000 in
set_option maxHeartbeats 1000000 in
theorem walk (A : Option Addr) (len cap : Nat) (K I N : Nat → Int) (z : Bool) (w : World) (hop : IsOps w A len K I N) :
    Calls Try.prog 3 #[.slice A len cap, .bool z] w fun e w' => e = .returned (.bool true) ∧ Below w.heap.size w w' := by
  obtain ⟨hlen, hop⟩ := hop
  have HOP := Lib.hid hop
  clear hop
  go_enter Try.func3, Try.ntmps3
  go_wp2_with fail
  refine (awake_any _).mono ?_
  rintro e w1 ⟨rfl, hb⟩
  have hs1 := hb.size
  have HB := Lib.hid hb
  clear hb
  go_wp2_with fail
  refine (new_any _).mono ?_
  rintro e w' ⟨rfl, rfl⟩
  go_upto_if 12 with fail
  go_cut [5] (fun s5 wx => ∃ cb, s5 = .pointer (some ⟨cb, 0, none⟩) ∧ w.heap.size ≤ cb ∧ Below w.heap.size w wx ∧ Cnt wx cb (fun _ => 0))
  case first =>
    cases z
    · go_wp2_with fail
      go_meet
      refine ⟨w1.heap.size, rfl, hs1, HB.out.alloc hs1 _, fun j hj => ?_⟩
      match j, hj with
      | 0, _ | 1, _ | 2, _ | 3, _ | 4, _ | 5, _ | 6, _ | 7, _ => simp
    · go_wp2_with fail
      go_meet
      refine ⟨w1.heap.size + 1, rfl, by omega, (HB.out.alloc hs1 _).alloc (by simp; omega) _, fun j hj => ?_⟩
      match j, hj with
      | 0, _ | 1, _ | 2, _ | 3, _ | 4, _ | 5, _ | 6, _ | 7, _ => simp
  case rest =>
    obtain ⟨cb, rfl, hcb, hbc, hcc⟩ := hcut
    have HBC := Lib.hid hbc
    have HCC := Lib.hid hcc
    have hwc := hbc.size
    have hcw := hcc.lt
    clear hbc hcc HB hs1
    go_upto_region 6 with fail
    go_cut [6] (fun s6 wx => ∃ wb, s6 = .pointer (some ⟨wb, 0, none⟩) ∧ cb < wb ∧ Below w.heap.size w wx ∧ Cnt wx cb (fun _ => 0) ∧ Cnt wx wb (fun _ => 0))
    case first =>
      go_wp2_with fail
      go_meet
      refine ⟨wc.heap.size, rfl, hcw, HBC.out.alloc hwc _, HCC.out.below ((Below.refl _ _).alloc (Nat.le_refl _) _), fun j hj => ?_⟩
      match j, hj with
      | 0, _ | 1, _ | 2, _ | 3, _ | 4, _ | 5, _ | 6, _ | 7, _ => simp
    obtain ⟨wb, rfl, hcb2, hb2, hc2, hw2⟩ := hcut
    have HB2 := Lib.hid hb2
    have HC2 := Lib.hid hc2
    have HW2 := Lib.hid hw2
    clear hb2 hc2 hw2 HBC HCC hwc hcw
    go_wp2_with fail
    go_loopw [17] (fun i wr => ∃ (k : Nat) (f : Nat → Int), k ≤ len ∧ i = .int .i64 k ∧ Below w.heap.size w wr ∧ Cnt wr cb f ∧ Cnt wr wb f) (fun i _ => len - (intOf i).toNat)
    case atStart => exact ⟨0, fun _ => 0, by omega, rfl, HB2.out, HC2.out, HW2.out⟩
    case round =>
      obtain ⟨k, f, hk, rfl, hbel, hc, hw⟩ := hrel
      have hlt := hc.lt
      have hlw := hw.lt
      have hwr := hbel.size
      have HBEL := Lib.hid hbel
      have HC := Lib.hid hc
      have HW := Lib.hid hw
      clear hc hw hbel HB2 HC2 HW2
      by_cases hkl : k < len
      · obtain ⟨b, off, rfl, hop⟩ := HOP.out (by omega)
        obtain ⟨g0', g1', g2'⟩ := hop k hkl
        clear hop HOP
        have gl := World.block_lt_of_cell? w _ g0'
        have g0 := (HBEL.out.cell (p := ⟨b, off + k * 3, none⟩) gl).trans g0'
        have g1 := (HBEL.out.cell (p := ⟨b, off + k * 3 + 1, none⟩) gl).trans g1'
        have g2 := (HBEL.out.cell (p := ⟨b, off + k * 3 + 2, none⟩) gl).trans g2'
        clear g0' g1' g2'
        have k0 : (0 : Int) ≤ (k : Int) := by omega
        have k1 : (k : Int) < (len : Int) := by omega
        go_upto_region 10 with fail
        go_cut [8] (fun s8 wx => ∃ ob, s8 = .pointer (some ⟨ob, 0, none⟩) ∧ cb < ob ∧ wb < ob ∧ Below w.heap.size w wx ∧ Cnt wx cb f ∧ Cnt wx wb f ∧ wx.cell? ⟨ob, 0, none⟩ = some (.int .i64 (K k)) ∧ wx.cell? ⟨ob, 1, none⟩ = some (.int .i64 (I k)) ∧ wx.cell? ⟨ob, 2, none⟩ = some (.int .u64 (N k)))
        case first =>
          go_wp2_with fail
          go_meet
          exact ⟨wr.heap.size, rfl, hlt, hlw, HBEL.out.alloc hwr _, HC.out.below ((Below.refl _ _).alloc (Nat.le_refl _) _), HW.out.below ((Below.refl _ _).alloc (Nat.le_refl _) _), by simp, by simp, by simp⟩
        obtain ⟨ob, rfl, hco, hwo, hb3, hc3, hw3, o0, o1, o2⟩ := hcut
        have HB3 := Lib.hid hb3
        have HC3 := Lib.hid hc3
        have HW3 := Lib.hid hw3
        clear hb3 hc3 hw3 g0 g1 g2 HBEL HC HW hlt hlw hwr
        by_cases hI : I k < 0 ∨ 7 < I k
        · have HI := Lib.hid hI
          rcases hI with hI | hI
          · have t0 : decide (I k < 0) = true := by simpa using hI
            go_wp2_with (first | (go_at_call 8; refine (add_out _ _ _ HI.out _).mono ?_; rintro e w' ⟨rfl, rfl⟩) | (go_at_call 9; refine (get_out _ _ HI.out _).mono ?_; rintro e w' ⟨rfl, rfl⟩) | (go_at_call 10; refine (take_out _ _ HI.out _).mono ?_; rintro e w' ⟨rfl, rfl⟩))
            go_roundw
            case rel => exact ⟨k + 1, f, by omega, by go_num, HB3.out, HC3.out, HW3.out⟩
            case measure => simp [intOf]; omega
          · have t0 : decide (I k < 0) = false := by simp; omega
            have t1 : decide (7 < I k) = true := by simpa using hI
            go_wp2_with (first | (go_at_call 8; refine (add_out _ _ _ HI.out _).mono ?_; rintro e w' ⟨rfl, rfl⟩) | (go_at_call 9; refine (get_out _ _ HI.out _).mono ?_; rintro e w' ⟨rfl, rfl⟩) | (go_at_call 10; refine (take_out _ _ HI.out _).mono ?_; rintro e w' ⟨rfl, rfl⟩))
            go_roundw
            case rel => exact ⟨k + 1, f, by omega, by go_num, HB3.out, HC3.out, HW3.out⟩
            case measure => simp [intOf]; omega
        · have i0 : 0 ≤ I k := by omega
          have i1 : I k ≤ 7 := by omega
          have i8 : I k < 8 := by omega
          have t0 : decide (I k < 0) = false := by simp; omega
          have t1 : decide (7 < I k) = false := by simp; omega
          have en : (I k).toNat < 8 := by omega
          clear hI
          go_upto_block 2 with fail
          go_cut [] (fun wx => ∃ f', Below w.heap.size w wx ∧ Cnt wx cb f' ∧ Cnt wx wb f')
          case first =>
            have x0 := (HW3.out _ en).1
            have z0 := (HW3.out _ en).2
            by_cases h1 : K k = 1
            · have t2 : (K k == 1) = true := by simp [h1]
              clear h1
              go_upto_region 16 with fail
              go_cut [] (fun wx => Below w.heap.size w wx ∧ Cnt wx cb f ∧ Cnt wx wb (upd f (I k).toNat (IntKind.u64.wrap (f (I k).toNat + N k))) ∧ wx.cell? ⟨ob, 0, none⟩ = some (.int .i64 (K k)) ∧ wx.cell? ⟨ob, 1, none⟩ = some (.int .i64 (I k)) ∧ wx.cell? ⟨ob, 2, none⟩ = some (.int .u64 (N k)))
              case first =>
                go_region
                go_wp2_with fail
                go_meet
                exact ⟨(HB3.out.setCell (show w.heap.size ≤ wb by omega) _).drew, (HC3.out.other (by omega) _).drew, (HW3.out.set en _).drew, (World.cell?_drew _ _).trans (cell_off (by omega) o0), (World.cell?_drew _ _).trans (cell_off (by omega) o1), (World.cell?_drew _ _).trans (cell_off (by omega) o2)⟩
              obtain ⟨hb5, hc5, hw5, p0, p1, p2⟩ := hcut
              have HB5 := Lib.hid hb5
              have HC5 := Lib.hid hc5
              have HW5 := Lib.hid hw5
              have q0 := (hw5 _ en).1
              rw [show (upd f (I k).toNat (IntKind.u64.wrap (f (I k).toNat + N k))) (I k).toNat = (IntKind.u64.wrap (f (I k).toNat + N k)) from if_pos rfl] at q0
              clear hb5 hc5 hw5 HB3 HC3 HW3 o0 o1 o2 x0 z0
              go_wp2_with fail
              have p1' : wc.drew.cell? ⟨ob, 1, none⟩ = some (.int .i64 (I k)) := p1
              have p2' : wc.drew.cell? ⟨ob, 2, none⟩ = some (.int .u64 (N k)) := p2
              have q0' : wc.drew.cell? ⟨wb, (I k).toNat, none⟩ = some (.int .u64 (IntKind.u64.wrap (f (I k).toNat + N k))) := q0
              have nbo : ob ≠ cb := by omega
              have nbw : wb ≠ cb := by omega
              go_region_held3 (fun w' => w'.cell? ⟨ob, 1, none⟩ = some (.int .i64 (I k)) ∧ w'.cell? ⟨ob, 2, none⟩ = some (.int .u64 (N k)) ∧ w'.cell? ⟨wb, (I k).toNat, none⟩ = some (.int .u64 (IntKind.u64.wrap (f (I k).toNat + N k))))
                (first | go_keep | exact ⟨(HWR.out.far _ _ nbo).trans p1', (HWR.out.far _ _ nbo).trans p2', (HWR.out.far _ _ nbw).trans q0'⟩)
                ((go_at_call 8; refine (add_c _ f (I k) (N k) i0 i1 _ ?_).mono ?_; exact HC5.out.drew; rintro e w' ⟨rfl, hwr⟩; have HWR := Lib.hid hwr; clear hwr))
              go_wp2_with fail
              go_meet
              exact ⟨(upd f (I k).toNat (IntKind.u64.wrap (f (I k).toNat + N k))), HB5.out.drew.trans (HWR.out.below.mono hcb), HWR.out.mine, HWR.out.cnt _ _ nbw HW5.out.drew⟩
            · have t2 : (K k == 1) = false := by simp [h1]
              clear h1
              have p1' : wc.drew.cell? ⟨ob, 1, none⟩ = some (.int .i64 (I k)) := o1
              have q0' : wc.drew.cell? ⟨wb, (I k).toNat, none⟩ = some (.int .u64 (f (I k).toNat)) := x0
              have nbo : ob ≠ cb := by omega
              have nbw : wb ≠ cb := by omega
              by_cases h2 : K k = 2
              · have t3 : (K k == 2) = true := by simp [h2]
                clear h2
                go_wp2_with fail
                go_region_held3 (fun w' => w'.cell? ⟨ob, 1, none⟩ = some (.int .i64 (I k)) ∧ w'.cell? ⟨wb, (I k).toNat, none⟩ = some (.int .u64 (f (I k).toNat)))
                  (first | go_keep | exact ⟨(HWR.out.far _ _ nbo).trans p1', (HWR.out.far _ _ nbw).trans q0'⟩)
                  ((go_at_call 10; refine (take_c _ f (I k) i0 i1 _ ?_).mono ?_; exact HC3.out.drew; rintro e w' ⟨rfl, hwr⟩; have HWR := Lib.hid hwr; clear hwr))
                have HW6 := Lib.hid (HWR.out.cnt _ _ nbw HW3.out.drew)
                have x6 := (HW6.out _ en).1
                have z6 := (HW6.out _ en).2
                have r1 := (HWR.out.far _ 1 nbo).trans p1'
                go_wp2_with fail
                go_meet
                exact ⟨upd f (I k).toNat 0, (HB3.out.drew.trans (HWR.out.below.mono hcb)).setCell (show w.heap.size ≤ wb by omega) _, HWR.out.mine.other (by omega) _, HW6.out.set en _⟩
              · have t3 : (K k == 2) = false := by simp [h2]
                clear h2
                by_cases h3 : K k = 3
                · have t4 : (K k == 3) = true := by simp [h3]
                  clear h3
                  go_wp2_with fail
                  go_region_held3 (fun w' => w'.cell? ⟨ob, 1, none⟩ = some (.int .i64 (I k)) ∧ w'.cell? ⟨wb, (I k).toNat, none⟩ = some (.int .u64 (f (I k).toNat)))
                    (first | go_keep | exact ⟨p1', q0'⟩)
                    ((go_at_call 9; refine (get_in _ (I k) (f (I k).toNat) i0 i1 _ ?_).mono ?_; exact (HC3.out.drew _ en).1; rintro e w' ⟨rfl, rfl⟩))
                  go_wp2_with fail
                  go_meet
                  exact ⟨f, HB3.out.drew, HC3.out.drew, HW3.out.drew⟩
                · have t4 : (K k == 3) = false := by simp [h3]
                  clear h3
                  go_wp2_with fail
                  go_meet
                  exact ⟨f, HB3.out, HC3.out, HW3.out⟩
          case rest =>
            obtain ⟨f', hb4, hc4, hw4⟩ := hcut
            have HB4 := Lib.hid hb4
            have HC4 := Lib.hid hc4
            have HW4 := Lib.hid hw4
            clear hb4 hc4 hw4 HB3 HC3 HW3 o0 o1 o2
            go_wp2_with fail
            obtain ⟨c0, c1, c2, c3, c4, c5, c6, c7⟩ := Cnt8.of HW4.out
            go_region_held3 (fun w' => w'.cell? ⟨wb, 0, none⟩ = some (.int .u64 (f' 0)) ∧ w'.cell? ⟨wb, 1, none⟩ = some (.int .u64 (f' 1)) ∧ w'.cell? ⟨wb, 2, none⟩ = some (.int .u64 (f' 2)) ∧ w'.cell? ⟨wb, 3, none⟩ = some (.int .u64 (f' 3)) ∧ w'.cell? ⟨wb, 4, none⟩ = some (.int .u64 (f' 4)) ∧ w'.cell? ⟨wb, 5, none⟩ = some (.int .u64 (f' 5)) ∧ w'.cell? ⟨wb, 6, none⟩ = some (.int .u64 (f' 6)) ∧ w'.cell? ⟨wb, 7, none⟩ = some (.int .u64 (f' 7))) (first | go_keep | exact ⟨d0, d1, d2, d3, d4, d5, d6, d7⟩ | exact ⟨e0, e1, e2, e3, e4, e5, e6, e7⟩)
              (first | (go_at_call 12; refine (all_in _ f' _ ?_).mono ?_; exact HC4.out.drew; rintro e w' ⟨rfl, hb2, hc2⟩; obtain ⟨d0, d1, d2, d3, d4, d5, d6, d7⟩ := Cnt8.of (HW4.out.drew.below hb2); have HB2 := Lib.hid hb2; clear hb2; have HC2 := Lib.hid hc2; clear hc2) | (go_at_call 11; refine (same_yes8 _ f' _ ?_).mono ?_; exact HC2.out; rintro e w' ⟨rfl, hb3⟩; obtain ⟨e0, e1, e2, e3, e4, e5, e6, e7⟩ := Cnt8.of ((HW4.out.drew.below HB2.out).below hb3); have HB3 := Lib.hid hb3; clear hb3))
            go_wp2_with fail
            go_roundw
            case rel => exact ⟨k + 1, f', by omega, by go_num, bthen (bthen HB4.out.drew HB2.out) HB3.out, (HC4.out.drew.below HB2.out).below HB3.out, (HW4.out.drew.below HB2.out).below HB3.out⟩
            case measure => simp [intOf]; omega
      · go_wp2_with fail
        obtain ⟨c0, c1, c2, c3, c4, c5, c6, c7⟩ := Cnt8.of HW.out
        go_region_held3 (fun w' => w'.cell? ⟨wb, 0, none⟩ = some (.int .u64 (f 0)) ∧ w'.cell? ⟨wb, 1, none⟩ = some (.int .u64 (f 1)) ∧ w'.cell? ⟨wb, 2, none⟩ = some (.int .u64 (f 2)) ∧ w'.cell? ⟨wb, 3, none⟩ = some (.int .u64 (f 3)) ∧ w'.cell? ⟨wb, 4, none⟩ = some (.int .u64 (f 4)) ∧ w'.cell? ⟨wb, 5, none⟩ = some (.int .u64 (f 5)) ∧ w'.cell? ⟨wb, 6, none⟩ = some (.int .u64 (f 6)) ∧ w'.cell? ⟨wb, 7, none⟩ = some (.int .u64 (f 7))) (first | go_keep | exact ⟨d0, d1, d2, d3, d4, d5, d6, d7⟩ | exact ⟨e0, e1, e2, e3, e4, e5, e6, e7⟩)
          (first | (go_at_call 12; refine (all_in _ f _ ?_).mono ?_; exact HC.out.drew; rintro e w' ⟨rfl, hb2, hc2⟩; obtain ⟨d0, d1, d2, d3, d4, d5, d6, d7⟩ := Cnt8.of (HW.out.drew.below hb2); have HB2 := Lib.hid hb2; clear hb2; have HC2 := Lib.hid hc2; clear hc2) | (go_at_call 11; refine (same_yes8 _ f _ ?_).mono ?_; exact HC2.out; rintro e w' ⟨rfl, hb3⟩; obtain ⟨e0, e1, e2, e3, e4, e5, e6, e7⟩ := Cnt8.of ((HW.out.drew.below HB2.out).below hb3); have HB3 := Lib.hid hb3; clear hb3))
        go_wp2
        go_ret
        exact ⟨rfl, bthen (bthen HBEL.out.drew HB2.out) HB3.out⟩
end Go.Proofs.Yteffdcpepjjkbaa.countsPlay

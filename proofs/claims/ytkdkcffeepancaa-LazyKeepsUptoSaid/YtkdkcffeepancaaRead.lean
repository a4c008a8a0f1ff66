/- The function that Once runs: the bytes are read into texts; one goroutine. -/
import Derived.Test.YtkdkcffeepancaaParse
import Derived.Test.YtkdkcffeepancaaDo
import Derived.Deep.LoopGhost
import Derived.Deep.AppendLies
import Derived.Deep.RegionLaw
namespace Go.Proofs.Ytkdkcffeepancaa
open Go.RowKit Go.Proofs.YtkdkcffeepancaaW.PrintWords

theorem info9 : (Try.prog.info? 9).map (fun i => (i.zero, i.size, i.bytes)) = some (some (.string ⟨#[]⟩), 1, 16) := by kernel_rfl

theorem aadd32 (a : Addr) (x : Int) (w : World) (hc : w.cell? a = some (.int .i32 x)) (hz : w.frozen? a = false) (h0 : 0 ≤ x) (h1 : x < 1000) :
    Calls Try.prog 24 #[.pointer (some a), .int .i32 1] w fun e w' => e = .returned (.int .i32 (x + 1)) ∧ w' = w.setCell a (.int .i32 (x + 1)) := by
  have hl := run_call_add (P := Try.prog) Try.func46 (by kernel_rfl) (by kernel_rfl) (by kernel_rfl) .i32 (by kernel_rfl) (x := x) (y := 1) (s := x + 1) hc hz (by simp [go_sem]; rw [IntKind.wrap_i32]; omega)
  go_enter Try.func24, Try.ntmps24
  go_wp2
  go_ret
  exact ⟨rfl, rfl⟩

/-- What the texts' field and the mark are, of the bytes bs. -/
def TXT (w : World) (B : Nat) (tv : Value) (g : Bool) (bs : List Int) : Prop :=
  (parse bs = none ∧ tv = .slice none 0 0 ∧ g = false) ∨ ∃ ts, parse bs = some ts ∧ g = true ∧ w.ownsRow B 9 1 tv ts.length (encs Value.string ts)

/-- What the function leaves. -/
def ReadPost (lb : Nat) (s raw : Value) (bs : List Int) (w : World) (e : Ending) (w' : World) : Prop :=
  e = .returned (.tuple #[]) ∧ ∃ tv g, Blk w' lb #[.int .u32 0, .int .i32 1, s, raw, .int .i32 1, tv, .bool g] 56 ∧ TXT w' w.heap.size tv g bs ∧ Chg (fun k => k = lb) w w'

/-- What holds at the loop's head: the bytes that are left, the texts so far. -/
structure RL (lb rb : Nat) (p : Addr) (s raw : Value) (bs : List Int) (w w2 : World) (k : Nat) (wr : World) : Prop where
  ex : ∃ rest ts tv, rest.length = k ∧ IsBytes rest ∧ Blk wr lb #[.int .u32 0, .int .i32 1, s, raw, .int .i32 1, tv, .bool false] 56 ∧ wr.ownsRow w2.heap.size 9 1 tv ts.length (encs Value.string ts) ∧
    RD wr rb (fun k => w.heap.size ≤ k ∧ k < rb) rest false ∧ parse bs = (parse rest).map (ts ++ ·) ∧ ts.length + rest.length ≤ bs.length
  chg : Chg (fun k => k = lb) w wr
  ptr : wr.cell? p = some (.pointer (some ⟨lb, 0, none⟩))
  sz : w2.heap.size ≤ wr.heap.size

set_option maxRecDepth 100000 in
set_option maxHeartbeats 1000000 in
theorem read_fn (lb : Nat) (p : Addr) (s : Value) (RA : Option Addr) (rc : Nat) (bs : List Int) (w : World) (hb : Blk w lb #[.int .u32 0, .int .i32 1, s, .slice RA bs.length rc, .int .i32 0, .slice none 0 0, .bool false] 56)
    (hp : w.cell? p = some (.pointer (some ⟨lb, 0, none⟩))) (hpl : p.block ≠ lb) (hr : ReadsOf (Value.int .u8) (0 : Int) w RA bs.length bs) (hRA : ∀ a, RA = some a → a.block ≠ lb) (hby : IsBytes bs) (hl : bs.length ≤ 1073741824) :
    Calls Try.prog 23 #[.pointer (some p)] w (ReadPost lb s (.slice RA bs.length rc) bs w) := by
  have b4 := hb.cell 4
  have f4 := hb.free 4
  simp at b4
  have hb1 : Blk (w.setCell ⟨lb, 4, none⟩ (.int .i32 1)) lb #[.int .u32 0, .int .i32 1, s, .slice RA bs.length rc, .int .i32 1, .slice none 0 0, .bool false] 56 := by simpa using hb.set 4 (.int .i32 1)
  have hc1 : Chg (fun k => k = lb) w (w.setCell ⟨lb, 4, none⟩ (.int .i32 1)) := (Chg.refl (fun k => k = lb) w).put lb 4 (.inl rfl) _
  have hp1 := hc1.cell hpl hp
  have b3 := hb1.cell 3
  simp at b3
  have hr1 := hc1.reads hr hRA
  have HB1 := Lib.hid hb1
  have HC1 := Lib.hid hc1
  have HR1 := Lib.hid hr1
  clear hb hb1 hc1 hr hr1
  go_enter Try.func23, Try.ntmps23
  go_wp2_with fail
  refine (aadd32 _ 0 _ b4 f4 (by omega) (by omega)).mono ?_
  rintro e w' ⟨rfl, rfl⟩
  go_wp2_with fail
  refine (newreader RA rc bs _ HR1.out (by omega)).mono ?_
  rintro e w2 ⟨rb, rfl, hrb, hrd, hbel⟩
  have HB2 := Lib.hid (HB1.out.below hbel)
  have HC2 := Lib.hid (HC1.out.then_below hbel)
  have hp2 := (Chg.of_below hbel (fun _ => False)).cell (by simp) hp1
  have HRD := Lib.hid hrd
  have hlb := HB1.out.lt
  clear hrd hbel hp1 b3 b4 f4
  go_wp2_with fail
  have hrb2 : rb < w2.heap.size := by obtain ⟨A, c, hb, _⟩ := HRD.out; exact hb.lt
  have hws : w.heap.size ≤ rb := by simpa using hrb
  go_loopg [2] bs.length (fun k u wr => RL lb rb p s (.slice RA bs.length rc) bs w w2 k wr)
  case atStart => exact ⟨⟨bs, [], .slice none 0 0, rfl, hby, HB2.out, own_nil _ _ _ _, by simpa using HRD.out, by cases parse bs <;> rfl, by simp⟩, HC2.out, hp2, Nat.le_refl _⟩
  case round =>
    obtain ⟨⟨rest, ts, tv, hrl, hby1, hblk, hown, hrd, hpa, hle⟩, hchg, hptr, hsz⟩ := hrel
    have hpb : p.block < w.heap.size := by
      have := World.block_lt_of_cell? w _ hp
      exact this
    have HBL := Lib.hid hblk
    have HOW := Lib.hid hown
    have HRR := Lib.hid hrd
    have HPA := Lib.hid hpa
    have HCH := Lib.hid hchg
    have HBR := Lib.hid hby1
    have HRL := Lib.hid hrl
    clear hblk hown hrd hpa hchg hby1 hp2 hp hrl HB1 HC1 HR1 HB2 HC2 HRD
    have hlw : lb < w.heap.size := by simpa using hlb
    have c5 := HBL.out.cell 5
    have c6 := HBL.out.cell 6
    have f5 := HBL.out.free 5
    have f6 := HBL.out.free 6
    simp at c5 c6
    have hnl : ∀ k, tv.ownBlock = some k → k ≠ lb := fun k hk => by have := own_base HOW.out k hk; omega
    have HNL := Lib.hid hnl
    clear hnl
    by_cases h0 : rest.length = 0
    · have t0 : ((rest.length : Int) == 0) = true := by simp [h0]
      obtain rfl : rest = [] := List.eq_nil_of_length_eq_zero h0
      have hpp := HPA.out
      rw [parse_nil] at hpp
      simp at hpp
      have HPP := Lib.hid hpp
      clear h0 hpp
      go_wp2_with (go_at_call 26; refine (end_any rb _ [] _ HRR.out).mono ?_; rintro e w' ⟨rfl, rfl⟩)
      go_end0
      have hch : Chg (fun k => k = lb) wr (wr.setCell ⟨lb, 6, none⟩ (.bool true)) := (Chg.refl (fun k => k = lb) wr).put lb 6 (.inl rfl) _
      exact ⟨rfl, tv, true, by simpa using HBL.out.set 6 (.bool true), .inr ⟨ts, HPP.out, rfl, own_weaken (hch.owns HOW.out HNL.out) (by omega)⟩, HCH.out.trans hch (fun _ _ h => h)⟩
    · have t0 : ((rest.length : Int) == 0) = false := by simp; intro e; exact h0 (by simp [e])
      have HN0 := Lib.hid h0
      clear h0
      cases hd : decText rest with
      | none =>
        have HD := Lib.hid hd
        clear hd
        go_wp2_with fail
        refine (end_any rb _ rest _ HRR.out).mono ?_
        rintro e w' ⟨rfl, rfl⟩
        go_wp2_with fail
        refine (text_any rb _ rest (by simp) HBR.out _ HRR.out).mono ?_
        rintro e w' hq
        unfold TextPost at hq
        rw [HD.out] at hq
        obtain ⟨rfl, hr3, hc3⟩ := hq
        have HR3 := Lib.hid hr3
        have HC3 := Lib.hid hc3
        have hp3 := hc3.cell (show ¬ p.block = rb by omega) hptr
        have hb3 := hc3.blk HBL.out (by omega)
        have d5 := hb3.cell 5
        have e5 := hb3.free 5
        simp at d5
        have HB3 := Lib.hid hb3
        clear hr3 hc3 hb3
        go_wp2_with (go_at_call 28; refine (bad_any rb _ [] true _ HR3.out).mono ?_; rintro e w' ⟨rfl, rfl⟩)
        refine bodyPost_ret (results_none rfl _ _ _) rfl ?_
        have hpp := HPA.out
        rw [parse_none HN0.out HD.out] at hpp
        have hch : Chg (fun k => k = lb) w' (w'.setCell ⟨lb, 5, none⟩ (.slice none 0 0)) := (Chg.refl (fun k => k = lb) w').put lb 5 (.inl rfl) _
        exact ⟨rfl, .slice none 0 0, false, by simpa using HB3.out.set 5 (.slice none 0 0), .inl ⟨hpp, rfl, rfl⟩, (HCH.out.trans HC3.out (fun i hi (e : i = rb) => by omega)).trans hch (fun _ _ h => h)⟩
      | some q =>
        obtain ⟨s0, r⟩ := q
        have HD := Lib.hid hd
        clear hd
        go_wp2_with fail
        refine (end_any rb _ rest _ HRR.out).mono ?_
        rintro e w' ⟨rfl, rfl⟩
        go_wp2_with fail
        refine (text_any rb _ rest (by simp) HBR.out _ HRR.out).mono ?_
        rintro e w3 hq
        unfold TextPost at hq
        rw [HD.out] at hq
        obtain ⟨rfl, hr3, hc3⟩ := hq
        have HR3 := Lib.hid hr3
        have HC3 := Lib.hid hc3
        have hp3 := hc3.cell (show ¬ p.block = rb by omega) hptr
        have hb3 := hc3.blk HBL.out (by omega)
        have ho3 := hc3.owns HOW.out (fun k hk => by have := own_base HOW.out k hk; omega)
        have d5 := hb3.cell 5
        have e5 := hb3.free 5
        simp at d5
        have hs3 := hc3.size
        have HB3 := Lib.hid hb3
        have HO3 := Lib.hid ho3
        have hl3 := hb3.lt
        obtain ⟨hbr, hrl2, hrl3⟩ := decText_facts HBR.out HD.out
        have HBR2 := Lib.hid hbr
        clear hr3 hc3 hb3 ho3 hbr
        go_wp2_with (go_at_call 28; refine (bad_any rb _ r false _ HR3.out).mono ?_; rintro e w' ⟨rfl, rfl⟩)
        have hoA := Lib.hid (show ((w3.alloc (.cells #[.string (strOfNums s0)] 9)).drew).ownsRow w2.heap.size 9 1 tv ts.length (encs Value.string ts) from (HO3.out.alloc _).drew)
        have HBA := Lib.hid (show ∀ w4, (w3.alloc (.cells #[.string (strOfNums s0)] 9)).drew.grownBy w4 tv.ownBlock → Blk w4 lb #[.int .u32 0, .int .i32 1, s, .slice RA bs.length rc, .int .i32 1, tv, .bool false] 56 from
          fun w4 hg => (hg.block lb (by simp; omega) (fun e => HNL.out lb e.symm rfl)).trans ((HB3.out.alloc _).drew))
        have HPB := Lib.hid (show ∀ w4, (w3.alloc (.cells #[.string (strOfNums s0)] 9)).drew.grownBy w4 tv.ownBlock → w4.cell? p = some (.pointer (some ⟨lb, 0, none⟩)) from
          fun w4 hg => ((Chg.refl (fun k => tv.ownBlock = some k) _).grown hg (fun k hk => .inl hk)).cell (fun e => by have := own_base HO3.out _ e; omega) (((Chg.refl (fun _ => False) w3).alloc (.cells #[.string (strOfNums s0)] 9)).drew.cell (by simp) hp3))
        obtain ⟨i0, hi, hz0, hz1, hz2⟩ := info_parts info9
        have hp3d : w3.drew.cell? p = some (.pointer (some ⟨lb, 0, none⟩)) := hp3
        have hpw : p.block < w3.heap.size := by omega
        go_region_law ((refine step_append_lies _ (by rfl) _ _ _ (by rfl) w2.heap.size 9 i0 (.string ⟨#[]⟩) 1 16 Try.underlying22 hi hz0 hz1 hz2 rfl (by omega) tv ts.length (encs Value.string ts) (by rfl) hoA.out ⟨w3.heap.size, 0, none⟩ 1 1 [.string (strOfNums s0)] (by rfl) (by rfl) (World.news_of_block (cs := #[.string (strOfNums s0)]) (t := 9) (fr := (0, 0)) (heap_alloc_new w3 _)) (by simp [Value.oneCell']) (by omega) (by unfold maxLen; omega) (by omega) (by simp; omega) (w3.heap.size + 1) (by simp) ?_; intro g cap w4 ho4 hg4 hat hlt; have hb4 := HBA.out w4 hg4; have d5' := hb4.cell 5; have e5' := hb4.free 5; simp at d5'; have hp4 := HPB.out w4 hg4; have HB4 := Lib.hid hb4; have HO4 := Lib.hid ho4; have HG4 := Lib.hid hg4; have HAT := Lib.hid hat; clear hb4 ho4 hg4 hat))
        all_goals
          go_wp2_with fail
          go_roundg r.length
          case measure => have := HRL.out; omega
          case rel =>
            have hcA : Chg (fun k => tv.ownBlock = some k) w3 w4 := (((Chg.refl (fun k => tv.ownBlock = some k) w3).alloc (.cells #[.string (strOfNums s0)] 9)).drew).grown HG4.out (fun k hk => .inl hk)
            have hcB : Chg (fun k => tv.ownBlock = some k ∨ k = lb) w3 (w4.setCell ⟨lb, 5, none⟩ (.slice (some ⟨g, 0, none⟩) (ts.length + 1) cap)) := (hcA.mono (fun _ _ h => .inl h)).put lb 5 (.inl (.inr rfl)) _
            have hcL : Chg (fun k => k = lb) w4 (w4.setCell ⟨lb, 5, none⟩ (.slice (some ⟨g, 0, none⟩) (ts.length + 1) cap)) := (Chg.refl (fun k => k = lb) w4).put lb 5 (.inl rfl) _
            refine ⟨⟨r, ts ++ [strOfNums s0], .slice (some ⟨g, 0, none⟩) (ts.length + 1) cap, rfl, HBR2.out, by simpa using HB4.out.set 5 (.slice (some ⟨g, 0, none⟩) (ts.length + 1) cap), ?_, ?_, ?_, by simp; omega⟩, ?_, ?_, ?_⟩
            · have ho := hcL.owns HO4.out (fun k hk e => by
                have hk' : g = k := by simpa [Value.ownBlock] using hk
                rcases HAT.out with h | h
                · exact HNL.out g h (hk'.trans e)
                · omega)
              simpa [encs] using ho
            · exact HR3.out.chg hcB (fun h => by
                rcases h with h | h
                · have := own_base HO3.out _ h; omega
                · omega) (fun k hk h => by
                rcases h with h | h
                · have := own_base HO3.out _ h; omega
                · omega)
            · rw [HPA.out, parse_some HBR.out HN0.out HD.out]
              cases parse r <;> simp
            · exact ((HCH.out.trans HC3.out (fun i hi (e : i = rb) => by omega)).trans hcB (fun i hi h => by
                rcases h with h | h
                · have := own_base HO3.out _ h; omega
                · exact h))
            · exact hcL.cell hpl hp4
            · have h1 := hcA.size
              have h2 := hcL.size
              omega
end Go.Proofs.Ytkdkcffeepancaa

/- The list's methods (New, read, Texts, At) and slices.Clone, one goroutine. -/
import Derived.Test.YtkdkcffeepancaaRead
import Derived.Lib.SliceRun
namespace Go.Proofs.Ytkdkcffeepancaa
open Go.RowKit Go.Proofs.YtkdkcffeepancaaW.PrintWords

/-- A list that has not been read, of the bytes bs. -/
def Fresh (w : World) (lb : Nat) (bs : List Int) : Prop :=
  ∃ RA rc, Blk w lb #[.int .u32 0, .int .i32 0, .int .u32 0, .slice RA bs.length rc, .int .i32 0, .slice none 0 0, .bool false] 56 ∧ ReadsOf (Value.int .u8) (0 : Int) w RA bs.length bs ∧ ∀ a, RA = some a → a.block ≠ lb
/-- A list that has been read, of the bytes bs; its texts lie in blocks from B on. -/
def Done (w : World) (B lb : Nat) (bs : List Int) : Prop :=
  ∃ raw tv g, Blk w lb #[.int .u32 1, .int .i32 0, .int .u32 0, raw, .int .i32 1, tv, .bool g] 56 ∧ TXT w B tv g bs ∧ lb < B

theorem TXT.chg {S : Nat → Prop} {w w' : World} {B : Nat} {tv : Value} {g : Bool} {bs : List Int} (h : TXT w B tv g bs) (hc : Chg S w w') (hS : ∀ k, S k → k < B) : TXT w' B tv g bs := by
  rcases h with h | ⟨ts, h1, h2, h3⟩
  · exact .inl h
  · exact .inr ⟨ts, h1, h2, hc.owns h3 (fun k hk hs => by have := own_base h3 k hk; have := hS k hs; omega)⟩

/-- What read leaves of a list that had not been read. -/
def FirstPost (lb : Nat) (bs : List Int) (w : World) (e : Ending) (w' : World) : Prop :=
  e = .returned (.tuple #[]) ∧ Done w' w.heap.size lb bs ∧ Chg (fun k => k = lb) w w'

set_option maxRecDepth 100000 in
set_option maxHeartbeats 1000000 in
theorem read_first (lb : Nat) (bs : List Int) (w : World) (h : Fresh w lb bs) (hby : IsBytes bs) (hl : bs.length ≤ 1073741824) :
    Calls Try.prog 16 #[.pointer (some ⟨lb, 0, none⟩)] w (FirstPost lb bs w) := by
  obtain ⟨RA, rc, hb, hr, hRA⟩ := h
  have hlt := hb.lt
  have hbA := hb.alloc (.cells #[.pointer (some ⟨lb, 0, none⟩)] 27)
  have hcA : Chg (fun k => k = lb) w ((w.alloc (.cells #[.pointer (some ⟨lb, 0, none⟩)] 27)).setCell ⟨lb, 1, none⟩ (.int .i32 1)) := ((Chg.refl (fun k => k = lb) w).alloc _).put lb 1 (.inl rfl) _
  have hb1 : Blk ((w.alloc (.cells #[.pointer (some ⟨lb, 0, none⟩)] 27)).setCell ⟨lb, 1, none⟩ (.int .i32 1)) lb #[.int .u32 0, .int .i32 1, .int .u32 0, .slice RA bs.length rc, .int .i32 0, .slice none 0 0, .bool false] 56 := by simpa using hbA.set 1 (.int .i32 1)
  have hp0 : Blk ((w.alloc (.cells #[.pointer (some ⟨lb, 0, none⟩)] 27)).setCell ⟨lb, 1, none⟩ (.int .i32 1)) w.heap.size #[.pointer (some ⟨lb, 0, none⟩)] 27 := (Blk.new _ _ _).other (by simp; omega) _
  have hp := hp0.cell 0
  simp at hp
  have HF := Lib.hid (read_fn lb ⟨w.heap.size, 0, none⟩ (.int .u32 0) RA rc bs _ hb1 hp (by simp; omega) (hcA.reads hr hRA) hRA hby hl)
  have HD := Lib.hid (do_first lb ⟨w.heap.size, 0, none⟩ (.int .u32 0) (.slice RA bs.length rc) (.int .i32 0) (.slice none 0 0) (.bool false)
    (fun w2 => ∃ tv g, Blk w2 lb #[.int .u32 0, .int .i32 1, .int .u32 0, .slice RA bs.length rc, .int .i32 1, tv, .bool g] 56 ∧ TXT w2 ((w.alloc (.cells #[.pointer (some ⟨lb, 0, none⟩)] 27)).setCell ⟨lb, 1, none⟩ (.int .i32 1)).heap.size tv g bs ∧ Chg (fun k => k = lb) ((w.alloc (.cells #[.pointer (some ⟨lb, 0, none⟩)] 27)).setCell ⟨lb, 1, none⟩ (.int .i32 1)) w2)
    _ hbA HF.out (fun w2 ⟨tv, g, hb2, _⟩ => ⟨_, _, _, _, hb2⟩))
  have HCA := Lib.hid hcA
  clear hb hr hRA hbA hcA hb1 hp0 hp HF
  have hmf : ∀ (fn : Fn) (first cap : Array Value) (w : World), (Instr.makeFunc fn first cap).run Try.prog w = .ok (.func fn first cap) w := fun _ _ _ _ => rfl
  go_enter Try.func16, Try.ntmps16
  go_wp2_with fail
  refine HD.out.mono ?_
  rintro e w' ⟨rfl, w2, ⟨tv, g, hb2, ht, hc⟩, hw⟩
  have HFin : Hid (Done w' w.heap.size lb bs ∧ Chg (fun k => k = lb) w w') := by
    subst hw
    have hcB : Chg (fun k => k = lb) w2 ((w2.drew.setCell ⟨lb, 0, none⟩ (.int .u32 1)).setCell ⟨lb, 1, none⟩ (.int .i32 0)) := ((Chg.refl (fun k => k = lb) w2).drew.put lb 0 (.inl rfl) _).put lb 1 (.inl rfl) _
    have ht2 := ht.chg hcB (fun k (e : k = lb) => by simp; omega)
    refine ⟨⟨_, tv, g, by simpa using (hb2.drew.set 0 (.int .u32 1)).set 1 (.int .i32 0), ?_, hlt⟩, (HCA.out.trans hc (fun _ _ h => h)).trans hcB (fun _ _ h => h)⟩
    rcases ht2 with h | ⟨ts, h1, h2, h3⟩
    · exact .inl h
    · exact .inr ⟨ts, h1, h2, own_weaken h3 (by simp)⟩
  clear hb2 ht hc hw
  go_wp2
  go_end0
  exact ⟨rfl, HFin.out.1, HFin.out.2⟩

theorem read_again (B lb : Nat) (bs : List Int) (w : World) (h : Done w B lb bs) :
    Calls Try.prog 16 #[.pointer (some ⟨lb, 0, none⟩)] w fun e w' => e = .returned (.tuple #[]) ∧ w' = w.alloc (.cells #[.pointer (some ⟨lb, 0, none⟩)] 27) := by
  obtain ⟨raw, tv, g, hb, _, _⟩ := h
  have hbA := hb.alloc (.cells #[.pointer (some ⟨lb, 0, none⟩)] 27)
  have h0 := hbA.cell 0
  simp at h0
  have hmf : ∀ (fn : Fn) (first cap : Array Value) (w : World), (Instr.makeFunc fn first cap).run Try.prog w = .ok (.func fn first cap) w := fun _ _ _ _ => rfl
  clear hb hbA
  go_enter Try.func16, Try.ntmps16
  go_wp2_with (go_at_call 22; refine (do_done _ _ _ h0).mono ?_; rintro e w' ⟨rfl, rfl⟩)
  go_end0
  exact ⟨rfl, rfl⟩

/-! slices.Clone -/
/-- What Clone of bytes leaves. -/
def Clone5Post (bs : List Int) (w : World) (e : Ending) (w' : World) : Prop := ∃ A' c', e = .returned (.slice A' bs.length c') ∧ ReadsOf (Value.int .u8) (0 : Int) w' A' bs.length bs ∧ (∀ a, A' = some a → w.heap.size ≤ a.block ∧ a.block < w'.heap.size) ∧ Below w.heap.size w w'
/-- What Clone of texts leaves. -/
def Clone9Post (ts : List ByteArray) (w : World) (e : Ending) (w' : World) : Prop := ∃ v', e = .returned v' ∧ w'.ownsRow w.heap.size 9 1 v' ts.length (encs Value.string ts) ∧ Below w.heap.size w w'
set_option maxRecDepth 100000 in
set_option maxHeartbeats 400000 in
theorem clone5 (A : Option Addr) (c : Nat) (bs : List Int) (w : World) (hr : ReadsOf (Value.int .u8) (0 : Int) w A bs.length bs) (hl : bs.length ≤ 1099511627776) (hnil : A = none → c = 0) :
    Calls Try.prog 15 #[.slice A bs.length c] w (Clone5Post bs w) := by
  have he : ∀ W, (binOp .eql 24 (.slice A bs.length c) (.slice none 0 0)).run Try.prog W = .ok (.bool A.isNone) W := fun W => Lib.run_eql_slice_nil W 24 5 A _ _ 0 0 Try.underlying24
  cases A with
  | none =>
    obtain rfl : bs = [] := by
      rcases Nat.eq_zero_or_pos bs.length with h | h
      · exact List.eq_nil_of_length_eq_zero h
      · obtain ⟨a, h, _⟩ := hr.2.2 h
        cases h
    obtain rfl := hnil rfl
    have he0 : ∀ W, (binOp .eql 24 (.slice none 0 0) (.slice none 0 0)).run Try.prog W = .ok (.bool true) W := fun W => Lib.run_eql_slice_nil W 24 5 none 0 0 0 0 Try.underlying24
    clear he
    simp only [List.length_nil]
    go_enter Try.func15, Try.ntmps15
    go_wp2
    go_ret
    exact ⟨none, 0, rfl, ⟨rfl, by simp, fun h => by simp at h⟩, fun a h => (by cases h), Below.refl _ _⟩
  | some a =>
    have hr0 : ReadsOf (Value.int .u8) (0 : Int) (w.alloc (.cells #[] 5)) (some a) bs.length bs := hr.below ((Below.refl _ _).alloc (Nat.le_refl _) _)
    have ho0 : (w.alloc (.cells #[] 5)).ownsRow w.heap.size 5 1 (.slice (some ⟨w.heap.size, 0, none⟩) 0 0) 0 (encs (Value.int .u8) []) := own_lit_of (enc := Value.int .u8) w w.heap.size 5 [] (Nat.le_refl _) (by simp)
    have hb0 : Below w.heap.size w (w.alloc (.cells #[] 5)) := (Below.refl _ _).alloc (Nat.le_refl _) _
    have HR0 := Lib.hid hr0
    have HO0 := Lib.hid ho0
    have HB0 := Lib.hid hb0
    clear hr0 ho0 hb0 hr
    go_enter Try.func15, Try.ntmps15
    go_wp2_with (at_builtin; refine print_append_row_of (w0 := w) (Value.int .u8) (0 : Int) w.heap.size rfl _ _ 24 5 (.int .u8 0) 1 rfl Try.underlying24 info5 rfl (by omega) (fun _ => rfl) _ [] bs (some a) bs.length c rfl rfl HO0.out HR0.out HB0.out (by simp) (by simp; omega) ?_; intro v1 w1 ho1 hb1 hg1 hat1; simp only [List.nil_append] at ho1; have hbase1 := own_base ho1; obtain ⟨A1, c1, rfl, hc1, hr1⟩ := own_reads_of_le (d := (0 : Int)) ho1; have HO1 := Lib.hid ho1; have HR1 := Lib.hid hr1; have HB1 := Lib.hid hb1; have HBA := Lib.hid hbase1; clear ho1 hr1 hb1 hg1 hat1 hbase1)
    go_ret
    refine ⟨A1, c1, rfl, HR1.out, fun a' ha => ?_, HB1.out⟩
    subst ha
    exact ⟨HBA.out _ rfl, own_lt HO1.out _ rfl⟩

set_option maxRecDepth 100000 in
set_option maxHeartbeats 400000 in
theorem clone9 (v : Value) (ts : List ByteArray) (B : Nat) (w : World) (ho : w.ownsRow B 9 1 v ts.length (encs Value.string ts)) (hl : ts.length ≤ 1099511627776) :
    Calls Try.prog 17 #[v] w (Clone9Post ts w) := by
  have hform := ho.2
  obtain ⟨A, c, rfl, hr⟩ := own_reads_of (d := (⟨#[]⟩ : ByteArray)) ho
  have he : ∀ W, (binOp .eql 22 (.slice A ts.length c) (.slice none 0 0)).run Try.prog W = .ok (.bool A.isNone) W := fun W => Lib.run_eql_slice_nil W 22 9 A _ _ 0 0 Try.underlying22
  clear ho
  cases A with
  | none =>
    obtain rfl : ts = [] := by
      rcases Nat.eq_zero_or_pos ts.length with h | h
      · exact List.eq_nil_of_length_eq_zero h
      · obtain ⟨a, h, _⟩ := hr.2.2 h
        cases h
    obtain rfl : c = 0 := by
      rcases hform with ⟨h, _⟩ | ⟨g, cap, cur, h, _⟩
      · simp at h; exact h
      · cases h
    have he0 : ∀ W, (binOp .eql 22 (.slice none 0 0) (.slice none 0 0)).run Try.prog W = .ok (.bool true) W := fun W => Lib.run_eql_slice_nil W 22 9 none 0 0 0 0 Try.underlying22
    clear hform he
    simp only [List.length_nil]
    go_enter Try.func17, Try.ntmps17
    go_wp2
    go_ret
    exact ⟨_, rfl, own_nil _ _ _ _, Below.refl _ _⟩
  | some a =>
    clear hform
    have hr0 : ReadsOf Value.string (⟨#[]⟩ : ByteArray) (w.alloc (.cells #[] 9)) (some a) ts.length ts := hr.below ((Below.refl _ _).alloc (Nat.le_refl _) _)
    have ho0 : (w.alloc (.cells #[] 9)).ownsRow w.heap.size 9 1 (.slice (some ⟨w.heap.size, 0, none⟩) 0 0) 0 (encs Value.string []) := own_lit_of (enc := Value.string) w w.heap.size 9 [] (Nat.le_refl _) (by simp)
    have hb0 : Below w.heap.size w (w.alloc (.cells #[] 9)) := (Below.refl _ _).alloc (Nat.le_refl _) _
    have HR0 := Lib.hid hr0
    have HO0 := Lib.hid ho0
    have HB0 := Lib.hid hb0
    clear hr0 ho0 hb0 hr
    go_enter Try.func17, Try.ntmps17
    go_wp2_with (at_builtin; refine print_append_row_of (w0 := w) Value.string (⟨#[]⟩ : ByteArray) w.heap.size rfl _ _ 22 9 (.string ⟨#[]⟩) 16 rfl Try.underlying22 info9 rfl (by omega) (fun _ => rfl) _ [] ts (some a) ts.length c rfl rfl HO0.out HR0.out HB0.out (by simp) (by simp; omega) ?_; intro v1 w1 ho1 hb1 hg1 hat1; simp only [List.nil_append] at ho1; have HO1 := Lib.hid ho1; have HB1 := Lib.hid hb1; clear ho1 hb1 hg1 hat1)
    go_ret
    exact ⟨_, rfl, HO1.out, HB1.out⟩

set_option maxRecDepth 100000 in
theorem new_any (A : Option Addr) (c : Nat) (bs : List Int) (w : World) (hr : ReadsOf (Value.int .u8) (0 : Int) w A bs.length bs) (hl : bs.length ≤ 1099511627776) (hnil : A = none → c = 0) :
    Calls Try.prog 8 #[.slice A bs.length c] w fun e w' => ∃ lb, e = .returned (.pointer (some ⟨lb, 0, none⟩)) ∧ w.heap.size ≤ lb ∧ Fresh w' lb bs ∧ Below w.heap.size w w' := by
  have HC := Lib.hid (clone5 A c bs w hr hl hnil)
  clear hr
  go_enter Try.func8, Try.ntmps8
  go_wp2_with fail
  refine HC.out.mono ?_
  rintro e w1 ⟨A', c', rfl, hr1, hA, hb⟩
  have HR1 := Lib.hid hr1
  have HA := Lib.hid hA
  have HB := Lib.hid hb
  clear hr1 hA hb
  go_wp2
  go_ret
  have hs := HB.out.size
  exact ⟨w1.heap.size, rfl, hs, ⟨A', c', Blk.new _ _ _, HR1.out.below ((Below.refl _ _).alloc (Nat.le_refl _) _), fun a ha e => by have := (HA.out a ha).2; omega⟩, HB.out.alloc hs _⟩

/-- What Texts leaves. -/
def TextsPost (B lb : Nat) (bs : List Int) (w : World) (e : Ending) (w' : World) : Prop :=
  Done w' B lb bs ∧ Chg (fun k => k = lb) w w' ∧ ∃ v, w'.ownsRow w.heap.size 9 1 v ((parse bs).getD []).length (encs Value.string ((parse bs).getD [])) ∧ e = .returned (.tuple #[v, .bool (parse bs).isSome])

set_option maxRecDepth 100000 in
set_option maxHeartbeats 1000000 in
/-- Behind read: the two fields, the one in new memory. -/
theorem texts_of (B lb : Nat) (bs : List Int) (w : World) (hl : ((parse bs).getD []).length ≤ 1099511627776)
    (hR : Calls Try.prog 16 #[.pointer (some ⟨lb, 0, none⟩)] w fun e w' => e = .returned (.tuple #[]) ∧ Done w' B lb bs ∧ Chg (fun k => k = lb) w w') :
    Calls Try.prog 9 #[.pointer (some ⟨lb, 0, none⟩)] w (TextsPost B lb bs w) := by
  have HR := Lib.hid hR
  clear hR
  go_enter Try.func9, Try.ntmps9
  go_wp2_with fail
  refine HR.out.mono ?_
  rintro e w1 ⟨rfl, ⟨raw, tv, g, hb, ht, hlB⟩, hc⟩
  have c5 := hb.cell 5
  have c6 := hb.cell 6
  simp at c5 c6
  have hs := hc.size
  have HB := Lib.hid hb
  have HT := Lib.hid ht
  have HC := Lib.hid hc
  have hgo : g = (parse bs).isSome ∧ w1.ownsRow B 9 1 tv ((parse bs).getD []).length (encs Value.string ((parse bs).getD [])) := by
    rcases ht with ⟨h1, rfl, rfl⟩ | ⟨ts, h1, rfl, h3⟩
    · rw [h1]; exact ⟨rfl, own_nil _ _ _ _⟩
    · rw [h1]; exact ⟨rfl, h3⟩
  obtain ⟨rfl, hown⟩ := hgo
  have HO := Lib.hid hown
  clear hb ht hc hown
  go_wp2_with fail
  go_region_held3 (fun w' => w'.cell? ⟨lb, 5, none⟩ = some tv ∧ w'.cell? ⟨lb, 6, none⟩ = some (.bool (parse bs).isSome))
    (first | go_keep | exact ⟨d5, d6⟩)
    ((go_at_call 17; refine (clone9 tv _ B _ HO.out.drew hl).mono ?_; rintro e w2 ⟨v', rfl, ho2, hb2⟩; have hbb := HB.out.drew.below hb2; have d5 := hbb.cell 5; have d6 := hbb.cell 6; simp at d5 d6; have HO2 := Lib.hid ho2; have HB2 := Lib.hid hb2; clear ho2 hb2 hbb))
  go_wp2
  go_ret2
  have hbel : Below w1.heap.size w1 w2 := (Below.refl _ _).drew.trans HB2.out
  refine ⟨⟨raw, tv, _, HB.out.below hbel, HT.out.chg (Chg.of_below hbel (fun _ => False)) (fun _ h => h.elim), hlB⟩, HC.out.then_below hbel, v', own_weaken HO2.out hs, rfl⟩

theorem decAll_length : ∀ (k : Nat) (bs : List Int) (ts : List ByteArray), IsBytes bs → decAll k bs = some ts → ts.length ≤ bs.length
  | 0, _, _, _, h => by cases h
  | k + 1, bs, ts, hb, h => by
    unfold decAll at h
    split at h
    · simp at h; subst h; simp
    · split at h
      · cases h
      · rename_i s r hd
        obtain ⟨hr, hl, _⟩ := decText_facts hb hd
        obtain ⟨us, hu, rfl⟩ := Option.map_eq_some_iff.1 h
        have := decAll_length k r us hr hu
        simp; omega
theorem parse_length (bs : List Int) (hb : IsBytes bs) : ((parse bs).getD []).length ≤ bs.length := by
  cases h : parse bs with
  | none => simp
  | some ts => exact decAll_length _ bs ts hb h

theorem texts_first (lb : Nat) (bs : List Int) (w : World) (h : Fresh w lb bs) (hby : IsBytes bs) (hl : bs.length ≤ 1073741824) :
    Calls Try.prog 9 #[.pointer (some ⟨lb, 0, none⟩)] w (TextsPost w.heap.size lb bs w) :=
  texts_of w.heap.size lb bs w (by have := parse_length bs hby; omega) ((read_first lb bs w h hby hl).mono fun _ _ q => q)
theorem texts_again (B lb : Nat) (bs : List Int) (w : World) (h : Done w B lb bs) (hby : IsBytes bs) (hl : bs.length ≤ 1073741824) :
    Calls Try.prog 9 #[.pointer (some ⟨lb, 0, none⟩)] w (TextsPost B lb bs w) :=
  texts_of B lb bs w (by have := parse_length bs hby; omega) ((read_again B lb bs w h).mono fun e w' ⟨he, hw⟩ => by
    subst hw
    obtain ⟨raw, tv, g, hb, ht, hlB⟩ := h
    have hbel : Below w.heap.size w (w.alloc (.cells #[.pointer (some ⟨lb, 0, none⟩)] 27)) := (Below.refl _ _).alloc (Nat.le_refl _) _
    exact ⟨he, ⟨raw, tv, g, hb.below hbel, ht.chg (Chg.of_below hbel (fun _ => False)) (fun _ h => h.elim), hlB⟩, Chg.of_below hbel _⟩)
end Go.Proofs.Ytkdkcffeepancaa

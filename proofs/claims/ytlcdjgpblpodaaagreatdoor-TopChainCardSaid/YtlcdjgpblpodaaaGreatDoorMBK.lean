/- Full1, Shell3, Shell4, Shell5, Shell6, AwkD -/
import Derived.Test.YtlcdjgpblpodaaaGreatDoorMBJ
import Derived.Test.YtlcdjgpblpodaaaGreatDoorMAP
import Derived.Shelf.Strings.BuilderF
namespace Go.Proofs.YtlcdjgpblpodaaaGreatDoor
open Go.RowKit Go.Maps Go.Proofs.YtlcdjgpblpodaaaGreatDoorW.PrintWords

def kA : ByteArray := ⟨#[97]⟩
theorem kA_ok : KeyOk kA := by unfold KeyOk; exact ⟨by decide, by decide⟩
/-- The actor, with letters that wait. -/
def inA (ls : List Let) : Actr := { actr0 kA with inbox := ls }
theorem inA_ok (ls : List Let) (h : ∀ l ∈ ls, l.Ok) (h8 : ls.length ≤ 8) : ActOk kA (inA ls) := by
  obtain ⟨h1, h2, h3, h4, _⟩ := actr0_ok kA kA_ok
  refine ⟨⟨h1.jour, h, h8, h1.outb, h1.tries, .inl rfl, h1.poison, h1.few⟩, h2, h3, h4, fun hf => ?_⟩
  have : ls = [] := by
    simp [freshA, inA] at hf
    exact hf.2.1
  subst this
  rfl
theorem inA_len (ls : List Let) (h : ∀ l ∈ ls, l.Ok) (h8 : ls.length ≤ 8) : (encChn (chOf (inA ls))).length ≤ 1200 := by
  have h1 := (encChn_length _ (chOf_ok (inA ls) (inA_ok ls h h8).1 kA_ok)).2
  have h2 := encAct_length (inA ls) (inA_ok ls h h8).1
  have e1 : (chOf (inA ls)).key.size = 2 := by show (akey kA).size = 2; rw [akey_size]; rfl
  have e2 : (chOf (inA ls)).val.length = (encAct (inA ls)).length := rfl
  have e3 : (inA ls).jour.events.length = 0 := rfl
  have e4 : (inA ls).inbox.length = ls.length := rfl
  have e5 : (inA ls).outb.serials.length = 0 := rfl
  have e6 : (inA ls).poison.length = 0 := rfl
  omega
theorem winCh_len (W : Win) (h : W.Ok) : (encChn (winCh W)).length ≤ 91 := by
  have h1 := (encChn_length _ (winCh_ok W h)).2
  have h2 := encWin_length W h
  have e1 : (winCh W).key.size = 1 := rfl
  have e2 : (winCh W).val.length = (encWin W).length := rfl
  omega
theorem encChs_two (a b : Chn) : (encChs [a, b]).length = (encChn a).length + (encChn b).length := by simp [encChs]
theorem encChs_one (a : Chn) : (encChs [a]).length = (encChn a).length := by simp [encChs]
/-- What the law knows of the engine: behind the offers below i. -/
structure FullE (E : Engn) (i q z : Nat) (ls : List Let) : Prop where
  room : E.room = 1
  cnt : E.cnt = 2000
  NL : E.NL = []
  CL : E.CL = []
  res : E.ls = [] ∨ E.ls = [kA]
  act : E.act kA = inA ls
  oks : ∀ l ∈ ls, l.Ok
  win : ∀ e ∈ E.win.rows, e.1 = 1 ∧ ∀ x ∈ e.2, x < i
  q : E.q ≤ q
  z : E.z ≤ z
theorem FullE.hls {E : Engn} {i q z : Nat} {ls : List Let} (h : FullE E i q z ls) : E.ls = [] ∨ E.ls = [kA] ∨ ∃ j, E.ls = [j] ∧ j ≠ kA ∧ E.room = 1 := h.res.elim .inl (fun e => .inr (.inl e))
end Go.Proofs.YtlcdjgpblpodaaaGreatDoor
namespace Go.Proofs.YtlcdjgpblpodaaaGreatDoor
open Go.RowKit Go.Proofs.YtlcdjgpblpodaaaGreatDoorW.PrintWords

set_option maxRecDepth 100000 in
set_option maxHeartbeats 1000000 in
theorem wbyte_fresh (b : Nat) (c : Int) (w : World) (h : Blk w b #[.pointer none, .slice none 0 0] 405) : Calls Tryz.prog 251 #[.pointer (some ⟨b, 0, none⟩), .int .u8 c] w fun e w' => e = .returned .nilIface ∧ Lib.BuilderAt 405 5 b b (.pointer (some ⟨b, 0, none⟩)) [.int .u8 c] w' ∧ Below b w w' := by
  obtain ⟨i0, hi, hz0, hz1, hz2⟩ := info_parts info5
  obtain ⟨W1, hW1⟩ : ∃ W, W = w.setCell ⟨b, 0, none⟩ (.pointer (some ⟨b, 0, none⟩)) := ⟨_, rfl⟩
  have hb1 : Blk W1 b #[.pointer (some ⟨b, 0, none⟩), .slice none 0 0] 405 := by rw [hW1]; exact h.set 0 _
  have c1 : W1.cell? ⟨b, 1, none⟩ = some (.slice none 0 0) := hb1.cell 1
  have f1 := hb1.free 1
  have l1 := hb1.lt
  have HB := Lib.hid hb1
  have HBW := Lib.hid (show Below b w W1 from hW1 ▸ (Below.refl b w).setCell (p := ⟨b, 0, none⟩) (Nat.le_refl b) _)
  have HH := Lib.hid h
  have HW1 := Lib.hid hW1
  clear h hW1 hb1
  go_enter Tryz.func251, Tryz.ntmps251
  go_wp2_with fail
  refine (copycheck_fresh b w HH.out).mono ?_
  rintro e w1 ⟨rfl, hw1⟩
  rw [← HW1.out] at hw1
  subst hw1
  go_wp2_with (at_builtin
               refine wpList_append_lies _ rfl _ _ 88 rfl b 5 i0 (.int .u8 0) 1 1 Tryz.underlying88 hi hz0 hz1 hz2 rfl (by decide) _ 0 [] rfl (own_nil _ _ _ _) ⟨w1.heap.size, 0, none⟩ 1 1 [.int .u8 c] rfl rfl (cell_one_new _ _ _) (ints_oneCell .u8 [c]) (by decide) (by unfold maxLen; omega) (by omega) (by simp; omega) (w1.heap.size + 1) (by simp) ?_
               intro g cap w2 ho2 hg2 hat2 hlt2
               have hb2 : Blk w2 b #[.pointer (some ⟨b, 0, none⟩), .slice none 0 0] 405 := (hg2.block b (by simp; omega) (fun e => by cases e)).trans (HB.out.alloc _)
               have c1' : w2.cell? ⟨b, 1, none⟩ = some (.slice none 0 0) := hb2.cell 1
               have f1' : w2.frozen? ⟨b, 1, none⟩ = false := hb2.free 1
               have l1' := hb2.lt
               have HB2 := Lib.hid hb2
               have HO2 := Lib.hid ho2
               have HG2 := Lib.hid hg2
               have HAT := Lib.hid hat2
               clear hb2 ho2 hg2 hat2 hlt2)
  go_ret
  have hgb : g ≠ b := by
    rcases HAT.out with e | e
    · cases e
    · omega
  have hb3 : Blk (w2.setCell ⟨b, 1, none⟩ (.slice (some ⟨g, 0, none⟩) 1 cap)) b #[.pointer (some ⟨b, 0, none⟩), .slice (some ⟨g, 0, none⟩) 1 cap] 405 := HB2.out.set 1 _
  have hbel : Below b w1 w2 := ((Below.refl b w1).alloc (by omega) (.cells #[.int .u8 c] 5)).grown HG2.out (by simp; omega) (fun k e => by cases e)
  exact ⟨rfl, ⟨Nat.le_refl b, _, hb3, own_setCell HO2.out (by simp [Value.ownBlock]; exact fun e => hgb e.symm) _, by simp [Value.ownBlock]; exact hgb⟩, (HBW.out.trans hbel).setCell (p := ⟨b, 1, none⟩) (Nat.le_refl b) _⟩
theorem string_of (b : Nat) (x : UInt8) (w : World) (h : Lib.IsBuilderF 405 5 b b (Lib.byteCells [x]) w) : Calls Tryz.prog 252 #[.pointer (some ⟨b, 0, none⟩)] w fun e w' => e = .returned (.string ⟨#[x]⟩) ∧ Lib.IsBuilderF 405 5 b b (Lib.byteCells [x]) w' ∧ Below b w w' :=
  Any.Builder_String_f Tryz.lString Tryz.lString_extra b b [x] w h (by simp)
end Go.Proofs.YtlcdjgpblpodaaaGreatDoor
namespace Go.Proofs.YtlcdjgpblpodaaaGreatDoor
open Go.RowKit Go.Proofs.YtlcdjgpblpodaaaGreatDoorW.PrintWords

def hexB : ByteArray := ⟨#[48, 49, 50, 51, 52, 53, 54, 55, 56, 57, 97, 98, 99, 100, 101, 102]⟩
theorem index_hex (c v : Int) (h : Lib.indexByte hexB.data.toList c.toNat.toUInt8 = v) (w : World) : Calls Tryz.prog 250 #[.string hexB, .int .u8 c] w fun e w' => e = .returned (.int .i64 v) ∧ w = w' :=
  (Any.strings_IndexByte Tryz.lIndexByte hexB c w).mono fun e w' ⟨h1, h2⟩ => ⟨by rw [h1, h], h2.symm⟩
set_option maxRecDepth 100000 in
set_option maxHeartbeats 1000000 in
theorem unhex_a (w : World) : Calls Tryz.prog 193 #[.string ⟨#[54, 49]⟩] w fun e w' => e = .returned (.tuple #[.string kA, .bool true]) ∧ Below w.heap.size w w' := by
  have H6 := Lib.hid (index_hex 54 6 (by kernel_rfl))
  have H1 := Lib.hid (index_hex 49 1 (by kernel_rfl))
  unfold hexB at H6 H1
  obtain ⟨b, hb⟩ : ∃ b, b = w.heap.size := ⟨_, rfl⟩
  obtain ⟨W1, hW1⟩ : ∃ W, W = w.alloc (.cells #[.pointer none, .slice none 0 0] 405) := ⟨_, rfl⟩
  have HBW := Lib.hid (show Below w.heap.size w W1 from hW1 ▸ (Below.refl _ _).alloc (Nat.le_refl _) _)
  have HBK := Lib.hid (show Blk W1 b #[.pointer none, .slice none 0 0] 405 from hW1 ▸ Blk.newAt hb)
  have HW1 := Lib.hid hW1
  have HB := Lib.hid hb
  have v1 : IntKind.i64.wrap 1 = 1 := by decide
  have v2 : bits BinOp.or IntKind.i64 96 1 = 97 := by decide
  have v3 : IntKind.i64.wrap 2 = 2 := by decide
  clear hW1 hb
  go_enter Tryz.func193, Tryz.ntmps193
  go_upto_region 4 with fail
  rw [← HW1.out, ← HB.out]
  go_wp2_with fail
  refine wp_loop_rounds 2 ?_
  rw [rounds_succ]
  go_upto_region 7 with fail
  go_region_held3 (fun _ => True) (first | exact trivial)
    (first
      | (go_at_call 250
         refine (H6.out _).mono ?_
         rintro e w2 ⟨rfl, rfl⟩)
      | (go_at_call 250
         refine (H1.out _).mono ?_
         rintro e w2 ⟨rfl, rfl⟩))
  rename_i hHeld
  clear hHeld
  go_wp2_with fail
  all_goals
    refine (wbyte_fresh b 97 W1.drew (show Blk W1.drew b _ 405 from HBK.out)).mono ?_
    rintro e w3 ⟨rfl, hbd, hb3⟩
    have HBD := Lib.hid hbd
    have HB3 := Lib.hid (show Below w.heap.size w w3 from (HBW.out.drew).trans (hb3.mono (by rw [HB.out]; exact Nat.le_refl _)))
    clear hbd hb3
    go_wp2_with fail
    rw [rounds_succ]
    go_wp2_with fail
    refine (string_of b 97 w3 (.inr (Lib.BuilderAtF.of HBD.out))).mono ?_
    rintro e w4 ⟨rfl, hbf, hb4⟩
    have HBF := Lib.hid hbf
    have HB4 := Lib.hid (show Below w.heap.size w w4 from HB3.out.trans (by have := HB.out; rw [this] at hb4; exact hb4))
    clear hbf hb4
    go_wp2_with fail
    refine (string_of b 97 w4 HBF.out).mono ?_
    rintro e w5 ⟨rfl, -, hb5⟩
    have HB5 := Lib.hid (show Below w.heap.size w w5 from HB4.out.trans (by have := HB.out; rw [this] at hb5; exact hb5))
    clear hb5
    go_wp2_with fail
    refine (key_any ⟨#[97]⟩ kA_ok w5).mono ?_
    rintro e w6 ⟨rfl, rfl⟩
    go_wp2_with fail
    go_ret2
    exact ⟨rfl, HB5.out⟩
end Go.Proofs.YtlcdjgpblpodaaaGreatDoor
namespace Go.Proofs.YtlcdjgpblpodaaaGreatDoor
open Go.RowKit Go.Proofs.YtlcdjgpblpodaaaGreatDoorW.PrintWords

def lineB : ByteArray := ⟨#[111, 102, 102, 101, 114, 32, 49, 32, 49, 32, 54, 49, 32, 48, 32, 53]⟩
def offerB : ByteArray := ⟨#[111, 102, 102, 101, 114]⟩
/-- The library's variable that Split's search reads holds an integer. -/
def MaxLenAt (w : World) : Prop := ∃ m, w.cell? ⟨Tryz.lSplit_ren.g 1, 0, none⟩ = some (.int .i64 m)
theorem MaxLenAt.below {w w' : World} (h : MaxLenAt w) (hb : Below w.heap.size w w') : MaxLenAt w' := by
  obtain ⟨m, hm⟩ := h
  exact ⟨m, pw_cell_below hb hm⟩
def wordsC : Array Value := #[.string offerB, .string ⟨#[49]⟩, .string ⟨#[49]⟩, .string ⟨#[54, 49]⟩, .string ⟨#[48]⟩, .string ⟨#[53]⟩]
theorem split_line (w : World) (h : MaxLenAt w) : Calls Tryz.prog 189 #[.string lineB, .string ⟨#[32]⟩] w fun e w' => e = .returned (.slice (some ⟨w.heap.size, 0, none⟩) 6 6) ∧ w' = w.alloc (.cells wordsC 9) := by
  obtain ⟨m, hm⟩ := h
  have h1 := Any.strings_Split { Tryz.lSplit with } Tryz.lSplit.i9 lineB ⟨#[32]⟩ m w (by show 16 < 4294967281; omega) hm (by show 1 ≤ 1; omega)
  have e1 : Lib.countB lineB ⟨#[32]⟩ = 5 := by kernel_rfl
  have e2 : ((Lib.splitB ⟨#[32]⟩ 0 5 lineB).map Value.string).toArray = wordsC := by kernel_rfl
  rw [e1, e2] at h1
  exact h1
end Go.Proofs.YtlcdjgpblpodaaaGreatDoor
namespace Go.Proofs.YtlcdjgpblpodaaaGreatDoor
open Go.RowKit Go.Proofs.YtlcdjgpblpodaaaGreatDoorW.PrintWords

/-- Under way: the words, the two commands. -/
structure PMid (w0 w : World) (rb sb cb : Nat) (C : Array Value) : Prop where
  below : Below w0.heap.size w0 w
  words : Blk w sb wordsC 9
  res : Blk w rb #[.string ⟨#[]⟩, .slice none 0 0, .int .u64 0, .int .u64 0, .slice none 0 0] 261
  cmd : Blk w cb C 261
  lo : w0.heap.size ≤ rb ∧ w0.heap.size ≤ sb ∧ w0.heap.size ≤ cb
  ne : sb ≠ cb ∧ rb ≠ cb
theorem PMid.on {w0 w w' : World} {rb sb cb : Nat} {C : Array Value} (h : PMid w0 w rb sb cb C) (hb : Below w.heap.size w w') : PMid w0 w' rb sb cb C :=
  ⟨h.below.trans (hb.mono h.below.size), h.words.below hb, h.res.below hb, h.cmd.below hb, h.lo, h.ne⟩
theorem PMid.chg {w0 w w' : World} {rb sb cb : Nat} {C : Array Value} {S : Nat → Prop} (h : PMid w0 w rb sb cb C) (hc : Chg S w w') (hS : ∀ k, S k → w0.heap.size ≤ k ∧ k ≠ sb ∧ k ≠ rb ∧ k ≠ cb) : PMid w0 w' rb sb cb C :=
  ⟨h.below.trans (hc.below (fun k hk => (hS k hk).1) h.below.size), hc.blk h.words (fun e => (hS _ e).2.1 rfl), hc.blk h.res (fun e => (hS _ e).2.2.1 rfl), hc.blk h.cmd (fun e => (hS _ e).2.2.2 rfl), h.lo, h.ne⟩
theorem PMid.put {w0 w : World} {rb sb cb : Nat} {C : Array Value} (h : PMid w0 w rb sb cb C) (i : Nat) (v : Value) : PMid w0 (w.setCell ⟨cb, i, none⟩ v) rb sb cb (C.setIfInBounds i v) :=
  ⟨h.below.setCell (p := ⟨cb, i, none⟩) h.lo.2.2 v, h.words.other h.ne.1 v, h.res.other h.ne.2 v, h.cmd.set i v, h.lo, h.ne⟩
set_option maxRecDepth 100000 in
set_option maxHeartbeats 4000000 in
theorem parse_line (w : World) (h : MaxLenAt w) : Calls Tryz.prog 125 #[.string lineB] w fun e w' => ∃ g1 c1 g2 c2, e = .returned (.tuple #[.agg #[.string offerB, .slice (some ⟨g1, 0, none⟩) 1 c1, .int .u64 1, .int .u64 1, .slice (some ⟨g2, 0, none⟩) 2 c2], .int .i64 0]) ∧
    w'.cell? ⟨g1, 0, none⟩ = some (.string kA) ∧ w'.cell? ⟨g2, 0, none⟩ = some (.int .i64 0) ∧ w'.cell? ⟨g2, 1, none⟩ = some (.int .i64 5) ∧ 2 ≤ c2 ∧ w.heap.size ≤ g1 ∧ w.heap.size ≤ g2 ∧ Below w.heap.size w w' := by
  obtain ⟨i9, hi9, hz9, hs9, hb9⟩ := info_parts info9
  obtain ⟨i2, hi2, hz2, hs2, hb2⟩ := info_parts info2
  obtain ⟨rb, hrb⟩ : ∃ b, b = w.heap.size := ⟨_, rfl⟩
  obtain ⟨W1, hW1⟩ : ∃ W, W = w.alloc (.cells #[.string ⟨#[]⟩, .slice none 0 0, .int .u64 0, .int .u64 0, .slice none 0 0] 261) := ⟨_, rfl⟩
  have hb1 : Below w.heap.size w W1 := hW1 ▸ (Below.refl _ _).alloc (Nat.le_refl _) _
  obtain ⟨sb, hsb⟩ : ∃ b, b = W1.heap.size := ⟨_, rfl⟩
  obtain ⟨W2, hW2⟩ : ∃ W, W = W1.alloc (.cells wordsC 9) := ⟨_, rfl⟩
  obtain ⟨cb, hcb⟩ : ∃ b, b = W2.heap.size := ⟨_, rfl⟩
  obtain ⟨W3, hW3⟩ : ∃ W, W = W2.alloc (.cells #[.string offerB, .slice none 0 0, .int .u64 0, .int .u64 0, .slice none 0 0] 261) := ⟨_, rfl⟩
  have s1 : W1.heap.size = w.heap.size + 1 := by rw [hW1]; simp
  have s2 : W2.heap.size = W1.heap.size + 1 := by rw [hW2]; simp
  have b12 : Below W1.heap.size W1 W2 := hW2 ▸ (Below.refl _ _).alloc (Nat.le_refl _) _
  have b23 : Below W2.heap.size W2 W3 := hW3 ▸ (Below.refl _ _).alloc (Nat.le_refl _) _
  have hwd : Blk W2 sb wordsC 9 := hW2 ▸ Blk.newAt hsb
  have hrs : Blk W1 rb #[.string ⟨#[]⟩, .slice none 0 0, .int .u64 0, .int .u64 0, .slice none 0 0] 261 := hW1 ▸ Blk.newAt hrb
  have HM := Lib.hid (show PMid w W3 rb sb cb #[.string offerB, .slice none 0 0, .int .u64 0, .int .u64 0, .slice none 0 0] from
    ⟨(hb1.trans (b12.mono (by omega))).trans (b23.mono (by omega)), hwd.below b23, (hrs.below b12).below b23, hW3 ▸ Blk.newAt hcb, by omega, by omega⟩)
  have d0 : W2.cell? ⟨sb, 0, none⟩ = some (.string offerB) := hwd.cell 0
  have HSP := Lib.hid (split_line W1 (h.below hb1))
  have HW1 := Lib.hid hW1
  have HW2 := Lib.hid hW2
  have HW3 := Lib.hid hW3
  have HRB := Lib.hid hrb
  have HSB := Lib.hid hsb
  have HCB := Lib.hid hcb
  have hsl : sb < W2.heap.size := hwd.lt
  unfold lineB at *
  have e0 : W3.cell? ⟨cb, 0, none⟩ = some (.string offerB) := HM.out.cmd.cell 0
  have q1 : (({ data := #[99, 115, 107, 105, 105] } : ByteArray)[0]).toNat = 99 := by rfl
  clear h hrb hb1 hsb hcb hW1 hW2 hW3 s1 s2 b12 b23 hwd hrs
  go_enter Tryz.func125, Tryz.ntmps125
  go_upto_region 1 with fail
  rw [← HW1.out, ← HRB.out]
  go_wp2_with fail
  refine HSP.out.mono ?_
  rintro e w2 ⟨rfl, hw2⟩
  rw [← HW2.out] at hw2
  subst hw2
  rw [← HSB.out]
  go_upto_region 5 with fail
  rw [← HW3.out, ← HCB.out]
  go_wp2_with fail
  refine (shape_offer W3).mono ?_
  rintro e w3 ⟨rfl, rfl⟩
  go_wp2_with fail
  refine wp_loop_rounds 6 ?_
  rw [rounds_succ]
  have x0 : W3.cell? ⟨sb, 1, none⟩ = some (.string ⟨#[49]⟩) := HM.out.words.cell 1
  have y0 := HM.out.words.lt
  go_wp2_with fail
  refine (number_one W3).mono ?_
  rintro e v0 ⟨rfl, hv0⟩
  have hm0 := HM.out.on hv0
  obtain ⟨V0, hV0⟩ : ∃ V, V = v0.setCell ⟨cb, 2, none⟩ (.int .u64 1) := ⟨_, rfl⟩
  have HM0 := Lib.hid (hV0 ▸ hm0.put 2 (.int .u64 1))
  have HV0 := Lib.hid hV0
  have p0 : v0.cell? ⟨cb, 2, none⟩ = some (.int .u64 0) := hm0.cmd.cell 2
  have f0 := hm0.cmd.free 2
  have l0 := hm0.cmd.lt
  clear hv0 hm0 hV0 x0 y0
  go_wp2_with fail
  rw [← HV0.out]
  rw [rounds_succ]
  clear p0 f0 l0
  have x1 : V0.cell? ⟨sb, 2, none⟩ = some (.string ⟨#[49]⟩) := HM0.out.words.cell 2
  have y1 := HM0.out.words.lt
  go_wp2_with fail
  refine (number_one V0).mono ?_
  rintro e v1 ⟨rfl, hv1⟩
  have hm1 := HM0.out.on hv1
  obtain ⟨V1, hV1⟩ : ∃ V, V = v1.setCell ⟨cb, 3, none⟩ (.int .u64 1) := ⟨_, rfl⟩
  have HM1 := Lib.hid (hV1 ▸ hm1.put 3 (.int .u64 1))
  have HV1 := Lib.hid hV1
  have p1 : v1.cell? ⟨cb, 3, none⟩ = some (.int .u64 0) := hm1.cmd.cell 3
  have f1 := hm1.cmd.free 3
  have l1 := hm1.cmd.lt
  clear hv1 hm1 hV1 x1 y1
  go_wp2_with fail
  rw [← HV1.out]
  rw [rounds_succ]
  clear p1 f1 l1
  have x2 : V1.cell? ⟨sb, 3, none⟩ = some (.string ⟨#[54, 49]⟩) := HM1.out.words.cell 3
  have y2 := HM1.out.words.lt
  go_wp2_with fail
  refine (unhex_a V1).mono ?_
  rintro e v2 ⟨rfl, hv2⟩
  have HMa := Lib.hid (HM1.out.on hv2)
  have p2 : v2.cell? ⟨cb, 1, none⟩ = some (.slice none 0 0) := HMa.out.cmd.cell 1
  have f2 := HMa.out.cmd.free 1
  have l2 := HMa.out.cmd.lt
  have HNW2 := Lib.hid (show ∀ j u, ([.string kA] : List Value)[j]? = some u → (v2.alloc (.cells #[.string kA] 9)).cell? ((⟨v2.heap.size, 0, none⟩ : Addr).add j) = some u from World.news_of_block (Blk.new _ _ _))
  have hbs2 := HMa.out.below.size
  clear hv2 x2 y2
  go_wp2_with (at_builtin
               refine wpList_append_lies _ rfl (.tmp 68) (.tmp 70) 49 rfl w.heap.size 9 i9 (.string ⟨#[]⟩) 1 16 Tryz.underlying49 hi9 hz9 hs9 hb9 rfl (by decide) _ 0 [] rfl (own_nil _ _ _ _) ⟨v2.heap.size, 0, none⟩ 1 1 [.string kA] rfl rfl HNW2.out (by simp [Value.oneCell']) (by decide) (by unfold maxLen; omega) (by omega) (by simp; omega) (v2.heap.size + 1) (by simp) ?_
               intro g1 k1 u2 ho2 hg2 hat2 hlt2
               have HMb := Lib.hid (HMa.out.on (((Below.refl v2.heap.size v2).alloc (Nat.le_refl _) (.cells #[.string kA] 9)).grown hg2 (by simp) (fun k e => by cases e)))
               have c2' : u2.cell? ⟨cb, 1, none⟩ = some (.slice none 0 0) := HMb.out.cmd.cell 1
               have f2' : u2.frozen? ⟨cb, 1, none⟩ = false := HMb.out.cmd.free 1
               have l2' := HMb.out.cmd.lt
               have HG1 := Lib.hid (show g1 ≠ cb from by
                 rcases hat2 with e | e
                 · cases e
                 · omega)
               have HLO1 := Lib.hid (own_base ho2 g1 rfl)
               have HK1 := Lib.hid (show u2.cell? ⟨g1, 0, none⟩ = some (.string kA) from by
                 have := ho2.cells (g := g1) rfl 0 (.string kA) rfl
                 rwa [show (⟨g1, 0, none⟩ : Addr).add 0 = ⟨g1, 0, none⟩ by rw [Go.WideShapes.add_plain, Nat.zero_add]] at this)
               clear ho2 hg2 hat2 hlt2)
  obtain ⟨V2, hV2⟩ : ∃ V, V = u2.setCell ⟨cb, 1, none⟩ (.slice (some ⟨g1, 0, none⟩) 1 k1) := ⟨_, rfl⟩
  have HM2 := Lib.hid (hV2 ▸ HMb.out.put 1 (.slice (some ⟨g1, 0, none⟩) 1 k1))
  have HK2 := Lib.hid (show V2.cell? ⟨g1, 0, none⟩ = some (.string kA) from hV2 ▸ ((Chg.refl (fun k => k = cb) u2).put cb 1 (.inl rfl) _).cell (a := ⟨g1, 0, none⟩) HG1.out HK1.out)
  have HV2 := Lib.hid hV2
  clear hV2
  rw [← HV2.out]
  rw [rounds_succ]
  clear p2 f2 l2 c2' f2' l2'
  have x3 : V2.cell? ⟨sb, 4, none⟩ = some (.string ⟨#[48]⟩) := HM2.out.words.cell 4
  have y3 := HM2.out.words.lt
  go_wp2_with fail
  refine (int_word ⟨#[48]⟩ 0 (by omega) (by show 1 ≤ 100; omega) (by kernel_rfl) (by kernel_rfl) V2).mono ?_
  rintro e v3 ⟨rfl, hv3⟩
  have HMc := Lib.hid (HM2.out.on hv3)
  have HKc := Lib.hid (pw_cell_below hv3 HK2.out)
  have p3 : v3.cell? ⟨cb, 4, none⟩ = some (.slice none 0 0) := HMc.out.cmd.cell 4
  have f3 := HMc.out.cmd.free 4
  have l3 := HMc.out.cmd.lt
  have HNW3 := Lib.hid (show ∀ j u, ([.int .i64 0] : List Value)[j]? = some u → (v3.alloc (.cells #[.int .i64 0] 2)).cell? ((⟨v3.heap.size, 0, none⟩ : Addr).add j) = some u from World.news_of_block (Blk.new _ _ _))
  have hbs3 := HMc.out.below.size
  clear hv3 x3 y3
  go_wp2_with (at_builtin
               refine wpList_append_lies _ rfl (.tmp 97) (.tmp 99) 22 rfl w.heap.size 2 i2 (.int .i64 0) 1 8 Tryz.underlying22 hi2 hz2 hs2 hb2 rfl (by decide) _ 0 [] rfl (own_nil _ _ _ _) ⟨v3.heap.size, 0, none⟩ 1 1 [.int .i64 0] rfl rfl HNW3.out (by simp [Value.oneCell']) (by decide) (by unfold maxLen; omega) (by omega) (by simp; omega) (v3.heap.size + 1) (by simp) ?_
               intro g2 k2 u3 ho3 hg3 hat3 hlt3
               have hbu3 := ((Below.refl v3.heap.size v3).alloc (Nat.le_refl _) (.cells #[.int .i64 0] 2)).grown hg3 (by simp) (fun k e => by cases e)
               have HMd := Lib.hid (HMc.out.on hbu3)
               have HKd := Lib.hid (pw_cell_below hbu3 HKc.out)
               have c3' : u3.cell? ⟨cb, 4, none⟩ = some (.slice none 0 0) := HMd.out.cmd.cell 4
               have f3' : u3.frozen? ⟨cb, 4, none⟩ = false := HMd.out.cmd.free 4
               have l3' := HMd.out.cmd.lt
               have HG2 := Lib.hid (show g2 = v3.heap.size + 1 from by
                 rcases hat3 with e | e
                 · cases e
                 · exact e)
               have HO3 := Lib.hid (show u3.ownsRow w.heap.size 2 1 (.slice (some ⟨g2, 0, none⟩) 1 k2) 1 [.int .i64 0] from ho3)
               clear ho3 hg3 hat3 hlt3 hbu3)
  obtain ⟨V3, hV3⟩ : ∃ V, V = u3.setCell ⟨cb, 4, none⟩ (.slice (some ⟨g2, 0, none⟩) 1 k2) := ⟨_, rfl⟩
  have HM3 := Lib.hid (hV3 ▸ HMd.out.put 4 (.slice (some ⟨g2, 0, none⟩) 1 k2))
  have HK3 := Lib.hid (show V3.cell? ⟨g1, 0, none⟩ = some (.string kA) from hV3 ▸ ((Chg.refl (fun k => k = cb) u3).put cb 4 (.inl rfl) _).cell (a := ⟨g1, 0, none⟩) HG1.out HKd.out)
  have HO3' := Lib.hid (show V3.ownsRow w.heap.size 2 1 (.slice (some ⟨g2, 0, none⟩) 1 k2) 1 [.int .i64 0] from hV3 ▸ own_setCell HO3.out (by simp [Value.ownBlock]; have := HG2.out; omega) _)
  have HV3 := Lib.hid hV3
  clear hV3
  rw [← HV3.out]
  rw [rounds_succ]
  clear p3 f3 l3 c3' f3' l3'
  have x4 : V3.cell? ⟨sb, 5, none⟩ = some (.string ⟨#[53]⟩) := HM3.out.words.cell 5
  have y4 := HM3.out.words.lt
  go_wp2_with fail
  refine (int_word ⟨#[53]⟩ 5 (by omega) (by show 1 ≤ 100; omega) (by kernel_rfl) (by kernel_rfl) V3).mono ?_
  rintro e v4 ⟨rfl, hv4⟩
  have HMe := Lib.hid (HM3.out.on hv4)
  have HKe := Lib.hid (pw_cell_below hv4 HK3.out)
  have HOe := Lib.hid (own_below HO3'.out hv4)
  have p4 : v4.cell? ⟨cb, 4, none⟩ = some (.slice (some ⟨g2, 0, none⟩) 1 k2) := HMe.out.cmd.cell 4
  have f4 := HMe.out.cmd.free 4
  have l4 := HMe.out.cmd.lt
  have HNW4 := Lib.hid (show ∀ j u, ([.int .i64 5] : List Value)[j]? = some u → (v4.alloc (.cells #[.int .i64 5] 2)).cell? ((⟨v4.heap.size, 0, none⟩ : Addr).add j) = some u from World.news_of_block (Blk.new _ _ _))
  have hbs4 := HMe.out.below.size
  have hgc := HMc.out.cmd.lt
  have hgs := HMc.out.words.lt
  have hgr := HMc.out.res.lt
  have hgk := World.block_lt_of_cell? _ _ HKc.out
  simp only at hgk
  clear hv4 x4 y4
  go_wp2_with (at_builtin
               refine wpList_append_lies _ rfl (.tmp 97) (.tmp 99) 22 rfl w.heap.size 2 i2 (.int .i64 0) 1 8 Tryz.underlying22 hi2 hz2 hs2 hb2 rfl (by decide) _ 1 [.int .i64 0] rfl (World.ownsRow.alloc HOe.out _) ⟨v4.heap.size, 0, none⟩ 1 1 [.int .i64 5] rfl rfl HNW4.out (by simp [Value.oneCell']) (by decide) (by unfold maxLen; omega) (by omega) (by simp; omega) (v4.heap.size + 1) (by simp) ?_
               intro g3 k3 u4 ho4 hg4 hat4 hlt4
               have hcu4 : Chg (fun k => k = g2) v4 u4 := (((Chg.refl (fun k => k = g2) v4).alloc (.cells #[.int .i64 5] 2)).grown hg4 (fun k e => .inl (by injection e with e; exact e.symm)))
               have HMf := Lib.hid (HMe.out.chg hcu4 (fun k e => by have := HG2.out; subst e; exact ⟨by omega, by omega, by omega, by omega⟩))
               have HKf := Lib.hid (hcu4.cell (a := ⟨g1, 0, none⟩) (show ¬ g1 = g2 from fun e => by have := HG2.out; omega) HKe.out)
               have c4' : u4.cell? ⟨cb, 4, none⟩ = some (.slice (some ⟨g2, 0, none⟩) 1 k2) := HMf.out.cmd.cell 4
               have f4' : u4.frozen? ⟨cb, 4, none⟩ = false := HMf.out.cmd.free 4
               have l4' := HMf.out.cmd.lt
               have HG3 := Lib.hid (show g3 ≠ cb from by
                 have := HG2.out
                 rcases hat4 with e | e
                 · injection e with e
                   have e' : g2 = g3 := e
                   omega
                 · omega)
               have HO4 := Lib.hid (show u4.ownsRow w.heap.size 2 1 (.slice (some ⟨g3, 0, none⟩) 2 k3) 2 [.int .i64 0, .int .i64 5] from ho4)
               clear ho4 hg4 hat4 hlt4 hcu4)
  obtain ⟨V4, hV4⟩ : ∃ V, V = u4.setCell ⟨cb, 4, none⟩ (.slice (some ⟨g3, 0, none⟩) 2 k3) := ⟨_, rfl⟩
  have HM4 := Lib.hid (hV4 ▸ HMf.out.put 4 (.slice (some ⟨g3, 0, none⟩) 2 k3))
  have HK4 := Lib.hid (show V4.cell? ⟨g1, 0, none⟩ = some (.string kA) from hV4 ▸ ((Chg.refl (fun k => k = cb) u4).put cb 4 (.inl rfl) _).cell (a := ⟨g1, 0, none⟩) HG1.out HKf.out)
  have HO4' := Lib.hid (show V4.ownsRow w.heap.size 2 1 (.slice (some ⟨g3, 0, none⟩) 2 k3) 2 [.int .i64 0, .int .i64 5] from hV4 ▸ own_setCell HO4.out (by simp [Value.ownBlock]; exact fun e => HG3.out e.symm) _)
  have HV4 := Lib.hid hV4
  clear hV4
  rw [← HV4.out]
  rw [rounds_succ]
  clear p4 f4 l4 c4' f4' l4'
  have uc : ∀ i, V4.cell? ⟨cb, i, none⟩ = _ := fun i => HM4.out.cmd.cell i
  have uo : ∀ i, V4.cell? ⟨rb, i, none⟩ = _ := fun i => HM4.out.res.cell i
  have fo : ∀ i, V4.frozen? ⟨rb, i, none⟩ = false := fun i => HM4.out.res.free i
  have lo := HM4.out.res.lt
  go_wp2_with fail
  refine bodyPost_ret (results_ct rfl _ _ rb 261 _ (0, 0) _ rfl (HM4.out.res.five rfl _ _ _ _ _) Tryz.underlying261 rfl (by kernel_rfl)) rfl ?_
  have hc5 : ∀ v0 v1 v2 v3 v4' : Value, Chg (fun j => j = rb) V4 (((((V4.setCell ⟨rb, 0, none⟩ v0).setCell ⟨rb, 1, none⟩ v1).setCell ⟨rb, 2, none⟩ v2).setCell ⟨rb, 3, none⟩ v3).setCell ⟨rb, 4, none⟩ v4') := fun _ _ _ _ _ => (((((Chg.refl (fun j => j = rb) V4).put rb 0 (.inl rfl) _).put rb 1 (.inl rfl) _).put rb 2 (.inl rfl) _).put rb 3 (.inl rfl) _).put rb 4 (.inl rfl) _
  have r0 := HO4'.out.cells (g := g3) rfl 0 (.int .i64 0) rfl
  have r1 := HO4'.out.cells (g := g3) rfl 1 (.int .i64 5) rfl
  rw [show (⟨g3, 0, none⟩ : Addr).add 0 = ⟨g3, 0, none⟩ by rw [Go.WideShapes.add_plain, Nat.zero_add]] at r0
  rw [show (⟨g3, 0, none⟩ : Addr).add 1 = ⟨g3, 1, none⟩ by rw [Go.WideShapes.add_plain, Nat.zero_add]] at r1
  have n1 : g1 ≠ rb := fun e => by
    have h1 := HK4.out
    rw [e] at h1
    rw [HM4.out.res.cell 0] at h1
    simp [kA] at h1
  have n3 : g3 ≠ rb := fun e => by
    have h1 := r0
    rw [e] at h1
    rw [HM4.out.res.cell 0] at h1
    simp at h1
  refine ⟨g1, k1, g3, k3, rfl, (hc5 _ _ _ _ _).cell (a := ⟨g1, 0, none⟩) n1 HK4.out, (hc5 _ _ _ _ _).cell (a := ⟨g3, 0, none⟩) n3 r0, (hc5 _ _ _ _ _).cell (a := ⟨g3, 1, none⟩) n3 r1, own_le HO4'.out, HLO1.out, own_base HO4'.out g3 rfl, ?_⟩
  have hlo := HM4.out.lo.1
  exact HM4.out.below.trans ((hc5 _ _ _ _ _).below (fun j e => by omega) HM4.out.below.size)
end Go.Proofs.YtlcdjgpblpodaaaGreatDoor
namespace Go.Proofs.YtlcdjgpblpodaaaGreatDoor
open Go.RowKit Go.Maps Go.Proofs.YtlcdjgpblpodaaaGreatDoorW.PrintWords

/-- What awake is. -/
def Awake (G : World → Prop) : Prop := (∀ W W' : World, G W → Below W.heap.size W W' → G W') ∧ ∀ W, G W → Calls Tryz.prog 6 #[] W fun e w' => e = .returned (.bool true) ∧ Below W.heap.size W w'
theorem EngTo.more {w w1 w2 : World} {reg : Nat → Nat} {eb : Nat} {E1 : Engn} {reg1 : Nat → Nat} (hx : ∀ k, k < w.heap.size → reg1 k = reg k) (hc : Chg (fun k => 2 ≤ reg k) w w1) (h : EngTo w1 reg1 eb E1 w2) : EngTo w reg eb E1 w2 := by
  obtain ⟨⟨r2, k1, k2⟩, kc⟩ := h
  exact ⟨⟨r2, k1, fun j hj => (k2 j (Nat.lt_of_lt_of_le hj hc.size)).trans (hx j hj)⟩, hc.trans kc (fun j hj hr => by rw [hx j hj] at hr; exact hr)⟩
end Go.Proofs.YtlcdjgpblpodaaaGreatDoor

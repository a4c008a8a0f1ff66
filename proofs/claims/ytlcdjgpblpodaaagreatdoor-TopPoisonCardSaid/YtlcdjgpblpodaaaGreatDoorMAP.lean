/- Shell1, Shell2, Win1, Win2, Win3 -/
import Derived.Test.YtlcdjgpblpodaaaGreatDoorMAA
import Derived.Test.YtlcdjgpblpodaaaGreatDoorMAO
import Derived.Shelf.SlicesE.Kit
import Derived.Lib.SliceRun
namespace Go.Proofs.YtlcdjgpblpodaaaGreatDoor
open Go.RowKit Go.Proofs.YtlcdjgpblpodaaaGreatDoorW.PrintWords

theorem formatInt_small (i : Nat) (hi : i < 100) (w : World) : Calls Tryz.prog 249 #[.int .i64 i, .int .i64 10] w fun e w' => e = .returned (.string ⟨(Lib.decDigits i).toArray⟩) ∧ w' = w := Any.strconv_FormatInt_10_small Tryz.lFormatInt i hi w
theorem parseInt_ok (s : ByteArray) (hmax : s.size ≤ 9223372036854775806) (v : Int) (h : Lib.parseIntB 64 s.data.toList = .ok v) (w : World) : Calls Tryz.prog 248 #[.string s, .int .i64 10, .int .i64 64] w fun e w' => e = .returned (.tuple #[.int .i64 v, .nilIface]) ∧ Below w.heap.size w w' :=
  (Any.strconv_ParseInt_10_at64_ok Tryz.lParseInt s hmax v h w).mono fun e w' ⟨h1, h2⟩ => ⟨h1, by
    rcases h2 with rfl | ⟨t, rfl⟩
    · exact Below.refl _ _
    · exact bytesWorld_below w t⟩
theorem parseUint_ok (s : ByteArray) (hmax : s.size ≤ 9223372036854775806) (v : Nat) (h : Lib.parseUintB 64 s.data.toList = .ok v) (w : World) : Calls Tryz.prog 246 #[.string s, .int .i64 10, .int .i64 64] w fun e w' => e = .returned (.tuple #[.int .u64 v, .nilIface]) ∧ Below w.heap.size w w' :=
  (Any.strconv_ParseUint_10_at64_ok Tryz.lParseUint s hmax v h w).mono fun e w' ⟨h1, h2⟩ => ⟨h1, by
    rcases h2 with rfl | rfl
    · exact Below.refl _ _
    · exact bytesWorld_below w s⟩
theorem int_word (s : ByteArray) (v : Nat) (hv : v < 100) (hs : s.size ≤ 100) (h : Lib.parseIntB 64 s.data.toList = .ok (v : Int)) (hd : (⟨(Lib.decDigits v).toArray⟩ : ByteArray) = s) (w : World) : Calls Tryz.prog 192 #[.string s] w fun e w' => e = .returned (.tuple #[.int .i64 v, .bool true]) ∧ Below w.heap.size w w' := by
  have HP := Lib.hid (parseInt_ok s (by omega) v h w)
  have HF := Lib.hid (fun W => hd ▸ formatInt_small v hv W)
  clear h hd
  go_enter Tryz.func192, Tryz.ntmps192
  go_wp2_with fail
  refine HP.out.mono ?_
  rintro e w1 ⟨rfl, hb1⟩
  have HB1 := Lib.hid hb1
  clear hb1
  go_wp2_with fail
  refine (HF.out w1).mono ?_
  rintro e w2 ⟨rfl, rfl⟩
  go_wp2_with fail
  go_ret2
  exact ⟨by simp, HB1.out⟩
theorem shape_offer (w : World) : Calls Tryz.prog 190 #[.string ⟨#[111, 102, 102, 101, 114]⟩, .int .i64 5] w fun e w' => e = .returned (.tuple #[.string ⟨#[99, 115, 107, 105, 105]⟩, .bool true]) ∧ w = w' := by
  go_enter Tryz.func190, Tryz.ntmps190
  go_wp2_with fail
  refine (Any.strings_Repeat_one Tryz.lRepeat ⟨#[105]⟩ w).mono ?_
  rintro e w1 ⟨rfl, rfl⟩
  go_wp2_with fail
  go_ret2
  exact ⟨by rfl, rfl⟩
end Go.Proofs.YtlcdjgpblpodaaaGreatDoor
namespace Go.Proofs
theorem Tryz.lString_extra : Builder.Extra Tryz.prog Tryz.lString_ren where
  sizeBuilder := by kernel_rfl
  liesBuilder := by kernel_rfl
  t5 := Tryz.underlying5
  a5 := Tryz.isAgg5
  z5 := Tryz.sizeOf5
  v5 := Tryz.zeroValue5
  infoByte := by kernel_rfl
  cellsByte := by kernel_rfl
  sizeByte := by kernel_rfl
  neB5 := by decide
namespace YtlcdjgpblpodaaaGreatDoor
open Go.RowKit Go.Proofs.YtlcdjgpblpodaaaGreatDoorW.PrintWords

set_option maxRecDepth 100000 in
set_option maxHeartbeats 1000000 in
theorem copycheck_fresh (b : Nat) (w : World) (h : Blk w b #[.pointer none, .slice none 0 0] 405) : Calls Tryz.prog 285 #[.pointer (some ⟨b, 0, none⟩)] w fun e w' => e = .returned (.tuple #[]) ∧ w' = w.setCell ⟨b, 0, none⟩ (.pointer (some ⟨b, 0, none⟩)) := by
  have c0 : w.cell? ⟨b, 0, none⟩ = some (.pointer none) := h.cell 0
  have f0 := h.free 0
  have l0 := h.lt
  have hsh : w.shape? b = some (405, 2) := by unfold Blk at h; simp [World.shape?, h]
  obtain ⟨j, hj, hjs⟩ := Option.map_eq_some_iff.1 (show (Tryz.prog.info? 405).map (·.size) = some 2 by kernel_rfl)
  clear h
  go_enter Tryz.func285, Tryz.ntmps285
  go_wp2
  rw [Lib.run_to_unsafe w ⟨b, 0, none⟩ Tryz.underlying403 Tryz.underlying467 hj (by rw [hjs]; decide) hsh (Nat.zero_lt_succ 1)]
  simp only [Result.andThen]
  rw [Oper.upon_value]
  go_wp2
  rw [run_callFunc_extern Tryz.func332 (by kernel_rfl) (by kernel_rfl) (by kernel_rfl) (e := Extern.AbiNoEscape.same) (by kernel_rfl)]
  rw [Lib.run_noEscape]
  simp only [Result.andThen]
  rw [Oper.upon_value]
  go_wp2
  rw [Lib.run_from_unsafe w ⟨b, 0, none⟩ Tryz.underlying467 Tryz.underlying403 hj hsh (by kernel_rfl)]
  simp only [Result.andThen]
  rw [Oper.upon_value]
  go_wp2
  go_end0
  exact ⟨rfl, rfl⟩
theorem number_one (w : World) : Calls Tryz.prog 191 #[.string ⟨#[49]⟩] w fun e w' => e = .returned (.tuple #[.int .u64 1, .bool true]) ∧ Below w.heap.size w w' := by
  have HP := Lib.hid (parseUint_ok ⟨#[49]⟩ (by show 1 ≤ _; omega) 1 (by kernel_rfl) w)
  have hd : (⟨(Lib.decDigits 1).toArray⟩ : ByteArray) = ⟨#[49]⟩ := by kernel_rfl
  have HF := Lib.hid (fun W => hd ▸ Any.internal_strconv_small Tryz.lSmall 1 (by omega) W)
  clear hd
  go_enter Tryz.func191, Tryz.ntmps191
  go_wp2_with fail
  refine HP.out.mono ?_
  rintro e w1 ⟨rfl, hb1⟩
  have HB1 := Lib.hid hb1
  clear hb1
  go_wp2_with (first | (go_at_call 247; go_in) | (go_at_call 282; go_in))
  refine (HF.out w1).mono ?_
  rintro e w2 ⟨rfl, rfl⟩
  go_wp2_with fail
  go_ret2
  exact ⟨by rfl, HB1.out⟩
end YtlcdjgpblpodaaaGreatDoor
end Go.Proofs
namespace Go.Proofs.YtlcdjgpblpodaaaGreatDoor
open Go.RowKit Go.Maps Go.Proofs.YtlcdjgpblpodaaaGreatDoorW.PrintWords

theorem contains83 (A : Option Addr) (c : Nat) (xs : List Int) (x : Int) (w : World) (hr : ReadsOf (Value.int .u64) (0 : Int) w A xs.length xs) (hs : ∀ a, A = some a → a.spot = none) :
    Calls Tryz.prog 83 #[.slice A xs.length c, .int .u64 x] w fun e w' => e = .returned (.bool (xs.any fun y => x == y)) ∧ w' = w := by
  rcases Nat.eq_zero_or_pos xs.length with h0 | h0
  · obtain rfl := List.eq_nil_of_length_eq_zero h0
    exact AnyE.slices_Contains_empty Tryz.co83 A c (.int .u64 x) w
  · obtain ⟨a, rfl, hc⟩ := hr.2.2 h0
    obtain ⟨b, off, sp⟩ := a
    obtain rfl : sp = none := hs _ rfl
    refine (AnyE.slices_Contains Tryz.co83 (Value.int .u64) _ (EqlAt.int _ _ _) b off xs.length c xs x w (Nat.le_refl _) hr.2.1 (fun j hj => ?_)).mono fun e w' q => ⟨?_, q.2⟩
    · rw [getElem!_pos xs j hj]
      have := hc j hj
      rw [Go.WideShapes.add_plain] at this
      simpa [List.getD, hj] using this
    · rw [q.1, List.take_of_length_le (Nat.le_refl _)]
theorem setCells_one (w : World) (g : Nat) (v : Value) : w.setCells g 0 [v] = w.setCell ⟨g, 0, none⟩ v := rfl
theorem closure100 (x y : Int) (kb : Nat) (w : World) (h : w.cell? ⟨kb, 0, none⟩ = some (.int .u64 y)) : Calls Tryz.prog 100 #[.int .u64 x, .pointer (some ⟨kb, 0, none⟩)] w fun e w' => e = .returned (.bool (x == y)) ∧ w = w' := by
  go_enter Tryz.func100, Tryz.ntmps100
  go_wp2
  go_ret
  exact ⟨rfl, rfl⟩
theorem index166 (g c : Nat) (x : Int) (kb : Nat) (w : World) (h0 : w.cell? ⟨g, 0, none⟩ = some (.int .u64 x)) (hk : w.cell? ⟨kb, 0, none⟩ = some (.int .u64 x)) :
    Calls Tryz.prog 166 #[.slice (some ⟨g, 0, none⟩) 1 c, .func (.func 100) #[] #[.pointer (some ⟨kb, 0, none⟩)]] w fun e w' => e = .returned (.int .i64 0) ∧ w = w' := by
  have HC := Lib.hid (closure100 x x kb w hk)
  clear hk
  go_enter Tryz.func166, Tryz.ntmps166
  go_wp2_with fail
  refine wp_loop_rounds 1 ?_
  rw [rounds_succ]
  go_wp2_with fail
  refine HC.out.mono ?_
  rintro e w' ⟨rfl, rfl⟩
  go_wp2_with fail
  go_ret
  exact ⟨rfl, rfl⟩
theorem index166_nil (f : Value) (w : World) : Calls Tryz.prog 166 #[.slice none 0 0, f] w fun e w' => e = .returned (.int .i64 (-1)) ∧ w = w' := by
  go_enter Tryz.func166, Tryz.ntmps166
  go_wp2_with fail
  refine wp_loop_rounds 1 ?_
  rw [rounds_succ]
  go_wp2_with fail
  go_ret
  exact ⟨rfl, rfl⟩
theorem delete99_nil (f : Value) (w : World) : Calls Tryz.prog 99 #[.slice none 0 0, f] w fun e w' => e = .returned (.slice none 0 0) ∧ w = w' := by
  have HI := Lib.hid (index166_nil f w)
  go_enter Tryz.func99, Tryz.ntmps99
  go_wp2_with fail
  refine HI.out.mono ?_
  rintro e w' ⟨rfl, rfl⟩
  go_wp2_with fail
  go_ret
  exact ⟨rfl, rfl⟩
theorem delete99 (g c : Nat) (x : Int) (kb : Nat) (w : World) (hc : 1 ≤ c) (ho : w.ownsRow 0 32 1 (.slice (some ⟨g, 0, none⟩) 1 c) 1 [.int .u64 x]) (hk : w.cell? ⟨kb, 0, none⟩ = some (.int .u64 x)) :
    Calls Tryz.prog 99 #[.slice (some ⟨g, 0, none⟩) 1 c, .func (.func 100) #[] #[.pointer (some ⟨kb, 0, none⟩)]] w fun e w' => e = .returned (.slice (some ⟨g, 0, none⟩) 0 c) ∧ w'.ownsRow 0 32 1 (.slice (some ⟨g, 0, none⟩) 0 c) 0 [] ∧ Chg (fun k => k = g) w w' := by
  obtain ⟨g', hg', hg0, hgl, hcell⟩ := own_cell ho (by omega)
  obtain rfl : g = g' := by injection hg' with h; injection h
  have h0 : w.cell? ⟨g, 0, none⟩ = some (.int .u64 x) := hcell 0 _ rfl
  have HI := Lib.hid (index166 g c x kb w h0 hk)
  obtain ⟨i32, hi32, hz32, hs32, hb32⟩ := info_parts info32
  obtain ⟨hat, hfr⟩ := own_at_of (d := (0 : Int)) (enc := Value.int .u64) (xs := [x]) ho 0 (by omega) (by simp)
  have hcl : ∀ ty, (Builtin.clear_ #[192] ty #[.slice (some ⟨g, 0, none⟩) 1 c]).run Tryz.prog w = .ok (.tuple #[]) (w.setCells g 0 [.int .u64 0]) := fun ty =>
    Lib.run_clear_slice w 192 32 ty (.int .u64 0) Tryz.underlying192 (fun w => Tryz.zeroValue32 w) rfl rfl g 0 1 c (by omega) (fun j hj => by (obtain rfl : j = 0 := by omega); simp [h0]) (fun j hj => by (obtain rfl : j = 0 := by omega); exact hfr)
  have hs1 : ∀ W, (Instr.slice 192 (.slice (some ⟨g, 0, none⟩) 1 c) (some (.int .i64 0)) none none).run Tryz.prog W = .ok (.slice (some ⟨g, 0, none⟩) 1 c) W := fun W => by
    rw [run_slice_l W 192 _ 1 c (by rw [show Tryz.prog.elem 192 = 32 by simp [Program.elem, Tryz.underlying192]]; exact Tryz.underlying192) .i64 0 (by omega) (by omega)]
    simp [Tryz.sizeOf32, sliced, Program.elem, Tryz.underlying192, Result.andThen, Addr.add]
  have hs2 : ∀ W, (Instr.slice 192 (.slice (some ⟨g, 0, none⟩) 1 c) none (some (.int .i64 0)) none).run Tryz.prog W = .ok (.slice (some ⟨g, 0, none⟩) 0 c) W := cut_hi 192 32 .i64 Tryz.underlying192 hi32 hs32 (some ⟨g, 0, none⟩) 1 c 0 (by omega)
  have HF := Lib.hid (own_take ho (show 0 ≤ 1 by omega))
  clear hk hcell hg'
  go_enter Tryz.func99, Tryz.ntmps99
  go_wp2_with fail
  refine HI.out.mono ?_
  rintro e w' ⟨rfl, rfl⟩
  go_wp2_with fail
  refine wp_loop_rounds 1 ?_
  rw [rounds_succ]
  go_wp2_with fail
  go_ret
  refine ⟨rfl, ?_, ?_⟩
  · rw [setCells_one]
    exact own_take (own_store_of (enc := Value.int .u64) (xs := [x]) ho 0 0).1 (show 0 ≤ 1 by omega)
  · rw [setCells_one]
    exact (Chg.refl (fun k => k = g) w).put g 0 (.inl rfl) _
theorem closure222 (x : ByteArray) (kb : Nat) (w : World) (h : w.cell? ⟨kb, 0, none⟩ = some (.string x)) : Calls Tryz.prog 222 #[.string x, .pointer (some ⟨kb, 0, none⟩)] w fun e w' => e = .returned (.bool true) ∧ w = w' := by
  go_enter Tryz.func222, Tryz.ntmps222
  go_wp2
  go_ret
  exact ⟨rfl, rfl⟩
theorem index264 (g c : Nat) (x : ByteArray) (kb : Nat) (w : World) (h0 : w.cell? ⟨g, 0, none⟩ = some (.string x)) (hk : w.cell? ⟨kb, 0, none⟩ = some (.string x)) :
    Calls Tryz.prog 264 #[.slice (some ⟨g, 0, none⟩) 1 c, .func (.func 222) #[] #[.pointer (some ⟨kb, 0, none⟩)]] w fun e w' => e = .returned (.int .i64 0) ∧ w = w' := by
  have HC := Lib.hid (closure222 x kb w hk)
  clear hk
  go_enter Tryz.func264, Tryz.ntmps264
  go_wp2_with fail
  refine wp_loop_rounds 1 ?_
  rw [rounds_succ]
  go_wp2_with fail
  refine HC.out.mono ?_
  rintro e w' ⟨rfl, rfl⟩
  go_wp2_with fail
  go_ret
  exact ⟨rfl, rfl⟩
theorem delete221 (g c : Nat) (x : ByteArray) (kb : Nat) (w : World) (hc : 1 ≤ c) (ho : w.ownsRow 0 9 1 (.slice (some ⟨g, 0, none⟩) 1 c) 1 [.string x]) (hk : w.cell? ⟨kb, 0, none⟩ = some (.string x)) :
    Calls Tryz.prog 221 #[.slice (some ⟨g, 0, none⟩) 1 c, .func (.func 222) #[] #[.pointer (some ⟨kb, 0, none⟩)]] w fun e w' => e = .returned (.slice (some ⟨g, 0, none⟩) 0 c) ∧ w'.ownsRow 0 9 1 (.slice (some ⟨g, 0, none⟩) 0 c) 0 [] ∧ Chg (fun k => k = g) w w' := by
  obtain ⟨g', hg', hg0, hgl, hcell⟩ := own_cell ho (by omega)
  obtain rfl : g = g' := by injection hg' with h; injection h
  have h0 : w.cell? ⟨g, 0, none⟩ = some (.string x) := hcell 0 _ rfl
  have HI := Lib.hid (index264 g c x kb w h0 hk)
  obtain ⟨i32, hi32, hz32, hs32, hb32⟩ := info_parts info9
  obtain ⟨hat, hfr⟩ := own_at_of (d := (⟨#[]⟩ : ByteArray)) (enc := Value.string) (xs := [x]) ho 0 (by omega) (by simp)
  have hcl : ∀ ty, (Builtin.clear_ #[49] ty #[.slice (some ⟨g, 0, none⟩) 1 c]).run Tryz.prog w = .ok (.tuple #[]) (w.setCells g 0 [.string ⟨#[]⟩]) := fun ty =>
    Lib.run_clear_slice w 49 9 ty (.string ⟨#[]⟩) Tryz.underlying49 (fun w => Tryz.zeroValue9 w) rfl rfl g 0 1 c (by omega) (fun j hj => by (obtain rfl : j = 0 := by omega); simp [h0]) (fun j hj => by (obtain rfl : j = 0 := by omega); exact hfr)
  have hs1 : ∀ W, (Instr.slice 49 (.slice (some ⟨g, 0, none⟩) 1 c) (some (.int .i64 0)) none none).run Tryz.prog W = .ok (.slice (some ⟨g, 0, none⟩) 1 c) W := fun W => by
    rw [run_slice_l W 49 _ 1 c (by rw [show Tryz.prog.elem 49 = 9 by simp [Program.elem, Tryz.underlying49]]; exact Tryz.underlying49) .i64 0 (by omega) (by omega)]
    simp [Tryz.sizeOf9, sliced, Program.elem, Tryz.underlying49, Result.andThen, Addr.add]
  have hs2 : ∀ W, (Instr.slice 49 (.slice (some ⟨g, 0, none⟩) 1 c) none (some (.int .i64 0)) none).run Tryz.prog W = .ok (.slice (some ⟨g, 0, none⟩) 0 c) W := cut_hi 49 9 .i64 Tryz.underlying49 hi32 hs32 (some ⟨g, 0, none⟩) 1 c 0 (by omega)
  have HF := Lib.hid (own_take ho (show 0 ≤ 1 by omega))
  clear hk hcell hg'
  go_enter Tryz.func221, Tryz.ntmps221
  go_wp2_with fail
  refine HI.out.mono ?_
  rintro e w' ⟨rfl, rfl⟩
  go_wp2_with fail
  refine wp_loop_rounds 1 ?_
  rw [rounds_succ]
  go_wp2_with fail
  go_ret
  refine ⟨rfl, ?_, ?_⟩
  · rw [setCells_one]
    exact own_take (own_store_of (enc := Value.string) (xs := [x]) ho 0 ⟨#[]⟩).1 (show 0 ≤ 1 by omega)
  · rw [setCells_one]
    exact (Chg.refl (fun k => k = g) w).put g 0 (.inl rfl) _
end Go.Proofs.YtlcdjgpblpodaaaGreatDoor
namespace Go.Proofs.YtlcdjgpblpodaaaGreatDoor.Held
open Go
section
variable {P : Program} {ops : Array Oper} {Q : Exit → Act → World → Prop} {md : Region.Mode} {S : World → Prop} {m : Nat}
/-- Either of two may come up. -/
theorem two {i j : Nat} {o o2 : Oper} {fuel : Nat} {listed : Array Bool} {a : Act} {w : World} (hr : Region.ready md ops listed = [i, j]) (ho : ops[i]? = some o) (ho2 : ops[j]? = some o2)
    (h : ∀ K' : Act → World → Prop, Shut (∀ a w, (i ≠ m → S w) → ((i ≠ m → S w) → Till P md ops Q S m fuel (listed.setIfInBounds i true) a w) → K' a w) → if Region.wanted o (yielded ops a.tmps) = true then Oper.wp P o a w K' Q else K' (a.put o.dst undef) w)
    (h2 : ∀ K' : Act → World → Prop, Shut (∀ a w, (j ≠ m → S w) → ((j ≠ m → S w) → Till P md ops Q S m fuel (listed.setIfInBounds j true) a w) → K' a w) → if Region.wanted o2 (yielded ops a.tmps) = true then Oper.wp P o2 a w K' Q else K' (a.put o2.dst undef) w) :
    Till P md ops Q S m (fuel + 1) listed a w :=
  ⟨(fun h0 => by rw [hr] at h0; cases h0), fun k hk => by
    rw [hr] at hk
    have hk' : k = i ∨ k = j := by simpa using hk
    rcases hk' with rfl | rfl
    · exact wpOp_step ho (fun K' hK => h K' (fun a w hS hW => hK a w ⟨hS, hW hS⟩))
    · exact wpOp_step ho2 (fun K' hK => h2 K' (fun a w hS hW => hK a w ⟨hS, hW hS⟩))⟩
end
end Go.Proofs.YtlcdjgpblpodaaaGreatDoor.Held
namespace Go.Proofs.YtlcdjgpblpodaaaGreatDoor
open Go.RowKit Go.Maps Go.Proofs.YtlcdjgpblpodaaaGreatDoorW.PrintWords

def ints (xs : List Nat) : List Int := xs.map fun (n : Nat) => (n : Int)
/-- A window that has one client. -/
structure WinOne (N : Nat) (w : World) (X : Nat → Prop) (wb c : Nat) (xs : List Nat) (mb n : Nat) (f : Lit → Option Value) (A : Option Addr) (cc g oc : Nat) : Prop where
  pin : X wb
  blk : Blk w wb #[.map (some mb), .slice (some ⟨g, 0, none⟩) 1 oc] 194
  map : MapAt w 32 mb n f
  mapin : X mb
  has : f (.int .u64 c) = some (.slice A xs.length cc)
  small : n ≤ N
  reads : ReadsOf (Value.int .u64) (0 : Int) w A (ints xs).length (ints xs)
  cap : xs.length ≤ cc
  spot : ∀ a, A = some a → a.spot = none
  apart : ∀ a, A = some a → X a.block ∧ a.block ≠ wb ∧ a.block ≠ mb ∧ a.block ≠ g
  own : w.ownsRow 0 32 1 (.slice (some ⟨g, 0, none⟩) 1 oc) 1 [.int .u64 c]
  ownin : X g
  mw : mb ≠ wb
  gw : g ≠ wb
  gm : g ≠ mb
def WinAt (N : Nat) (w : World) (X : Nat → Prop) (wb : Nat) (W : Win) : Prop :=
  match W.rows with
  | [] => X wb ∧ Blk w wb #[.map none, .slice none 0 0] 194
  | (c, xs) :: _ => ∃ mb n f A cc g oc, WinOne N w X wb c xs mb n f A cc g oc
theorem WinOne.chg {S X : Nat → Prop} {N wb c mb n cc g oc : Nat} {w w' : World} {xs : List Nat} {f : Lit → Option Value} {A : Option Addr} (h : WinOne N w X wb c xs mb n f A cc g oc) (hc : Chg S w w') (hX : ∀ k, X k → ¬ S k) : WinOne N w' X wb c xs mb n f A cc g oc :=
  ⟨h.pin, hc.blk h.blk (hX _ h.pin), h.map.chg hc (hX _ h.mapin), h.mapin, h.has, h.small, hc.reads h.reads (fun a ha => hX _ (h.apart a ha).1), h.cap, h.spot, h.apart, hc.owns h.own (fun k hk => by have e : g = k := (by injection hk); exact e ▸ hX _ h.ownin), h.ownin, h.mw, h.gw, h.gm⟩
theorem WinOne.mono {X X' : Nat → Prop} {N N' wb c mb n cc g oc : Nat} {w : World} {xs : List Nat} {f : Lit → Option Value} {A : Option Addr} (h : WinOne N w X wb c xs mb n f A cc g oc) (hX : ∀ k, X k → X' k) (hN : N ≤ N') : WinOne N' w X' wb c xs mb n f A cc g oc :=
  ⟨hX _ h.pin, h.blk, h.map, hX _ h.mapin, h.has, Nat.le_trans h.small hN, h.reads, h.cap, h.spot, fun a ha => ⟨hX _ (h.apart a ha).1, (h.apart a ha).2⟩, h.own, hX _ h.ownin, h.mw, h.gw, h.gm⟩
theorem WinAt.chg {S X : Nat → Prop} {N wb : Nat} {w w' : World} {W : Win} (h : WinAt N w X wb W) (hc : Chg S w w') (hX : ∀ k, X k → ¬ S k) : WinAt N w' X wb W := by
  unfold WinAt at h ⊢
  split at h
  · exact ⟨h.1, hc.blk h.2 (hX _ h.1)⟩
  · obtain ⟨mb, n, f, A, cc, g, oc, h⟩ := h
    exact ⟨mb, n, f, A, cc, g, oc, h.chg hc hX⟩
theorem WinAt.mono {X X' : Nat → Prop} {N N' wb : Nat} {w : World} {W : Win} (h : WinAt N w X wb W) (hX : ∀ k, X k → X' k) (hN : N ≤ N') : WinAt N' w X' wb W := by
  unfold WinAt at h ⊢
  split at h
  · exact ⟨hX _ h.1, h.2⟩
  · obtain ⟨mb, n, f, A, cc, g, oc, h⟩ := h
    exact ⟨mb, n, f, A, cc, g, oc, h.mono hX hN⟩
def win0 : Win := ⟨[]⟩
theorem newwin (w : World) : Calls Tryz.prog 23 #[] w fun e w' => e = .returned (.pointer (some ⟨w.heap.size, 0, none⟩)) ∧ w' = w.alloc (.cells #[.map none, .slice none 0 0] 194) := by
  go_enter Tryz.func23, Tryz.ntmps23
  go_wp2
  go_ret
  exact ⟨rfl, rfl⟩
theorem WinAt.new (w : World) : WinAt 0 (w.alloc (.cells #[.map none, .slice none 0 0] 194)) (fun k => w.heap.size ≤ k) w.heap.size win0 := ⟨Nat.le_refl _, Blk.new _ _ _⟩

theorem keyU64 (c : Nat) (h : U64 c) : keyOf Tryz.prog 32 (.int .u64 c) = some (.int .u64 c) := keyOf_int_mk Tryz.underlying32 (by
  have : (c : Int) < 18446744073709551616 := by have : c < 18446744073709551616 := h; omega
  simp [Lit.wf, IntKind.min, IntKind.max, IntKind.signed, IntKind.bits]
  omega)
/-- The nil map has nothing. -/
theorem look_nil {K t e : Nat} (law : Keyed Tryz.prog K) (ht : Tryz.prog.underlying t = some (.map K e)) {z : Value} (hz : ∀ w, (zeroValue e).run Tryz.prog w = .ok z w) {key : Value} {l : Lit} (hk : keyOf Tryz.prog K key = some l) (w : World) :
    (Instr.lookup t (.map none) key false).run Tryz.prog w = .ok z w := by
  have hf : (Instr.findKey K key []).run Tryz.prog w = .ok none w := by
    rcases law.find w hk [] (by simp) with h | ⟨j, e, _, h, _⟩
    · exact h.1
    · simp at h
  simp [Instr.lookup, run_underlying ht, law.check w true hk, hf, hz, Result.andThen]
/-- Is this serial in? -/
def seenW (W : Win) (s : Nat) : Bool := match W.rows with | [] => false | (_, xs) :: _ => (ints xs).any fun y => (s : Int) == y
theorem seen_any {N : Nat} (X : Nat → Prop) (wb : Nat) (W : Win) (c s : Nat) (hc : U64 c) (hW : ∀ e ∈ W.rows, e.1 = c) (w : World) (h : WinAt N w X wb W) :
    Calls Tryz.prog 40 #[.pointer (some ⟨wb, 0, none⟩), .int .u64 c, .int .u64 s] w fun e w' => e = .returned (.bool (seenW W s)) ∧ w = w' := by
  obtain ⟨rows⟩ := W
  match rows, h with
  | [], h =>
    have c0 : w.cell? ⟨wb, 0, none⟩ = some (.map none) := h.2.cell 0
    have HC := Lib.hid (contains83 none 0 [] s w ⟨rfl, by simp, fun h => absurd h (Nat.lt_irrefl _)⟩ (fun _ h => by cases h))
    have hlk : (Instr.lookup 191 (.map none) (.int .u64 c) false).run Tryz.prog w = .ok (.slice none 0 0) w := look_nil u64_law Tryz.underlying191 (fun w => Tryz.zeroValue192 w) (keyU64 c hc) w
    clear h
    go_enter Tryz.func40, Tryz.ntmps40
    go_wp2_with fail
    refine HC.out.mono ?_
    rintro e w' ⟨rfl, rfl⟩
    go_wp2_with fail
    go_ret
    exact ⟨rfl, rfl⟩
  | (c', xs) :: r, h =>
    obtain rfl : c' = c := hW _ (List.mem_cons_self ..)
    obtain ⟨mb, n, f, A, cc, g, oc, h⟩ := h
    have c0 : w.cell? ⟨wb, 0, none⟩ = some (.map (some mb)) := h.blk.cell 0
    have HC := Lib.hid (contains83 A cc (ints xs) s w h.reads h.spot)
    have hlk : (Instr.lookup 191 (.map (some mb)) (.int .u64 c') false).run Tryz.prog w = .ok (.slice A (ints xs).length cc) w := by
      rw [h.map.look u64_law Tryz.underlying191 (fun w => Tryz.zeroValue192 w) (keyU64 c' hc), h.has]
      simp [ints]
    clear h
    go_enter Tryz.func40, Tryz.ntmps40
    go_wp2_with fail
    refine HC.out.mono ?_
    rintro e w' ⟨rfl, rfl⟩
    go_wp2_with fail
    go_ret
    exact ⟨rfl, rfl⟩
end Go.Proofs.YtlcdjgpblpodaaaGreatDoor
namespace Go.Proofs.YtlcdjgpblpodaaaGreatDoor
open Go.RowKit Go.Maps Go.Proofs.YtlcdjgpblpodaaaGreatDoorW.PrintWords

/-- What a map of serials holds for a client. -/
theorem serials_map (wb c mb n cc : Nat) (xs : List Nat) (f : Lit → Option Value) (A : Option Addr) (hc : U64 c) (hx : xs.length ≤ 1000) (w : World) (c0 : w.cell? ⟨wb, 0, none⟩ = some (.map (some mb))) (hm : MapAt w 32 mb n f)
    (hf : (f (.int .u64 c)).getD (.slice none 0 0) = .slice A xs.length cc) (hr : ReadsOf (Value.int .u64) (0 : Int) w A (ints xs).length (ints xs)) (hs : ∀ a, A = some a → a.spot = none) :
    Calls Tryz.prog 98 #[.pointer (some ⟨wb, 0, none⟩), .int .u64 c] w fun e w' => ∃ A' c', e = .returned (.slice A' xs.length c') ∧ w'.ownsRow w.heap.size 32 1 (.slice A' xs.length c') xs.length (encs (Value.int .u64) (ints xs)) ∧ Below w.heap.size w w' := by
  have hl : (ints xs).length = xs.length := by simp [ints]
  have HC := Lib.hid (clone101 A cc (ints xs) w hr hs (by omega))
  rw [hl] at HC
  have hlk : (Instr.lookup 191 (.map (some mb)) (.int .u64 c) false).run Tryz.prog w = .ok (.slice A xs.length cc) w := by
    rw [hm.look u64_law Tryz.underlying191 (fun w => Tryz.zeroValue192 w) (keyU64 c hc), hf]
  clear hm hf hr hs hl
  go_enter Tryz.func98, Tryz.ntmps98
  go_wp2_with fail
  refine HC.out.mono ?_
  rintro e w' ⟨A', c', rfl, ho, hb⟩
  have HO := Lib.hid ho
  have HB := Lib.hid hb
  clear ho hb
  go_wp2_with fail
  go_ret
  exact ⟨A', c', rfl, HO.out, HB.out⟩
/-- The window behind a serial more. -/
def addW (W : Win) (c s : Nat) : Win := match W.rows with | [] => ⟨[(c, [s])]⟩ | (_, xs) :: _ => ⟨[(c, (xs ++ [s]).drop (xs.length + 1 - 4))]⟩
end Go.Proofs.YtlcdjgpblpodaaaGreatDoor

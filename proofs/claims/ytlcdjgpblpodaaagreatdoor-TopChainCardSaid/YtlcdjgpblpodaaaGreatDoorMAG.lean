/- Wr3, Let1 -/
import Derived.Test.YtlcdjgpblpodaaaGreatDoorMAE
import Derived.Test.YtlcdjgpblpodaaaGreatDoorMAF
import Derived.Lib.AppendStr
namespace Go.Proofs.YtlcdjgpblpodaaaGreatDoor
open Go.RowKit Go.Proofs.YtlcdjgpblpodaaaGreatDoorW.PrintWords Go.Proofs.YtlcdjgpblpodaaaGreatDoorW.PrintMore

theorem wrap64_eq (x : Int) : wrap64 x = IntKind.i64.wrap x := by rw [IntKind.wrap_i64]; unfold wrap64; omega
theorem ofInt_nat (a : Nat) (ha : a < 18446744073709551616) : (BitVec.ofInt 64 (a : Int)).toNat = a := by
  rw [BitVec.ofInt_natCast, BitVec.toNat_ofNat]
  exact Nat.mod_eq_of_lt (by omega)
theorem xor_ones (a : Nat) (ha : a < 18446744073709551616) (y : Int) (hy : BitVec.ofInt 64 y = BitVec.allOnes 64) : (BitVec.ofInt 64 (a : Int) ^^^ BitVec.ofInt 64 y).toNat = 18446744073709551615 - a := by
  rw [hy, BitVec.xor_allOnes, BitVec.toNat_not, ofInt_nat a ha]
theorem xor_none (a : Nat) (ha : a < 18446744073709551616) : (BitVec.ofInt 64 (a : Int) ^^^ BitVec.ofInt 64 0).toNat = a := by
  rw [show BitVec.ofInt 64 0 = 0#64 from rfl, BitVec.xor_zero, ofInt_nat a ha]
theorem zig_pos (x : Int) (h : In64 x) (h0 : 0 ≤ x) : bits .xor .u64 (IntKind.u64.wrap (IntKind.u64.wrap x * 2)) (IntKind.u64.wrap (x / 9223372036854775808)) = (zig x : Int) := by
  obtain ⟨a, rfl⟩ := Int.eq_ofNat_of_zero_le h0
  obtain ⟨h1, h2⟩ := h
  have e1 : IntKind.u64.wrap (IntKind.u64.wrap (a : Int) * 2) = ((2 * a : Nat) : Int) := by rw [IntKind.wrap_u64, IntKind.wrap_u64]; omega
  have e2 : IntKind.u64.wrap ((a : Int) / 9223372036854775808) = 0 := by rw [IntKind.wrap_u64]; omega
  rw [e1, e2]
  show IntKind.u64.wrap ((BitVec.ofInt 64 ((2 * a : Nat) : Int) ^^^ BitVec.ofInt 64 0).toNat : Int) = _
  rw [xor_none _ (by omega), IntKind.wrap_u64]
  unfold zig
  rw [if_pos h0]
  omega
theorem zig_neg (x : Int) (h : In64 x) (h0 : x < 0) : bits .xor .u64 (IntKind.u64.wrap (IntKind.u64.wrap x * 2)) (IntKind.u64.wrap (x / 9223372036854775808)) = (zig x : Int) := by
  obtain ⟨h1, h2⟩ := h
  have e2 : IntKind.u64.wrap (x / 9223372036854775808) = 18446744073709551615 := by rw [IntKind.wrap_u64]; omega
  obtain ⟨a, ha⟩ := Int.eq_ofNat_of_zero_le (show 0 ≤ 2 * x + 18446744073709551616 by omega)
  have e1 : IntKind.u64.wrap (IntKind.u64.wrap x * 2) = (a : Int) := by rw [IntKind.wrap_u64, IntKind.wrap_u64]; omega
  rw [e1, e2]
  show IntKind.u64.wrap ((BitVec.ofInt 64 (a : Int) ^^^ BitVec.ofInt 64 18446744073709551615).toNat : Int) = _
  rw [xor_ones _ (by omega) _ (by rfl), IntKind.wrap_u64]
  unfold zig
  rw [if_neg (by omega)]
  omega
theorem zig_any (x : Int) (h : In64 x) : bits .xor .u64 (IntKind.u64.wrap (IntKind.u64.wrap x * 2)) (IntKind.u64.wrap (x / 9223372036854775808)) = (zig x : Int) := by
  by_cases h0 : 0 ≤ x
  · exact zig_pos x h h0
  · exact zig_neg x h (by omega)
theorem unzig_any (x : Int) (h : In64 x) : bits .xor .i64 (IntKind.i64.wrap ((zig x : Int) / 2)) (IntKind.i64.wrap (-(IntKind.i64.wrap (bits .and .u64 (zig x : Int) 1)))) = x := by
  have hz := zig_lt x h.1 h.2
  have ha : bits .and .u64 (zig x : Int) 1 = ((zig x % 2 : Nat) : Int) := by
    have := bits_and_u64_nat (zig x) 1 hz (by omega)
    rw [Nat.and_one_is_mod] at this
    exact this
  rw [ha]
  obtain ⟨h1, h2⟩ := h
  have e1 : IntKind.i64.wrap ((zig x : Int) / 2) = ((zig x / 2 : Nat) : Int) := by rw [IntKind.wrap_i64]; omega
  rw [e1]
  by_cases h0 : 0 ≤ x
  · have hzz : zig x = (2 * x).toNat := by unfold zig; rw [if_pos h0]
    have e2 : IntKind.i64.wrap (-(IntKind.i64.wrap (((zig x % 2 : Nat) : Int)))) = 0 := by rw [IntKind.wrap_i64, IntKind.wrap_i64]; omega
    rw [e2]
    show IntKind.i64.wrap ((BitVec.ofInt 64 ((zig x / 2 : Nat) : Int) ^^^ BitVec.ofInt 64 0).toNat : Int) = _
    rw [xor_none _ (by omega), IntKind.wrap_i64]
    omega
  · have hzz : zig x = (-2 * x - 1).toNat := by unfold zig; rw [if_neg h0]
    have e2 : IntKind.i64.wrap (-(IntKind.i64.wrap (((zig x % 2 : Nat) : Int)))) = -1 := by rw [IntKind.wrap_i64, IntKind.wrap_i64]; omega
    rw [e2]
    show IntKind.i64.wrap ((BitVec.ofInt 64 ((zig x / 2 : Nat) : Int) ^^^ BitVec.ofInt 64 (-1)).toNat : Int) = _
    rw [xor_ones _ (by omega) _ (by rfl), IntKind.wrap_i64]
    omega

set_option maxRecDepth 100000 in
theorem wint_any (wb : Nat) (X : Nat → Prop) (bs : List Int) (x : Int) (hx : In64 x) (w : World) (h : WR w wb X bs) (hl : bs.length ≤ 1073741824) :
    Calls Tryz.prog 117 #[.pointer (some ⟨wb, 0, none⟩), .int .i64 x] w fun e w' => e = .returned (.tuple #[]) ∧ WP w wb X (bs ++ encInt x) w' := by
  have HN := Lib.hid (wnum_any wb X bs (zig x) (zig_lt x hx.1 hx.2) w h hl)
  have hz := zig_any x hx
  clear h
  go_enter Tryz.func117, Tryz.ntmps117
  go_wp2_with fail
  refine HN.out.mono ?_
  rintro e w1 ⟨rfl, h1⟩
  have H1 := Lib.hid h1
  clear h1 hz
  go_wp2
  go_end0
  exact ⟨rfl, H1.out⟩
set_option maxRecDepth 100000 in
theorem rint_any (rb : Nat) (X : Nat → Prop) (x : Int) (r : List Int) (hx : In64 x) (hX : ¬ X rb) (hby : IsBytes (encInt x ++ r)) (w : World) (h : RD w rb X (encInt x ++ r) false) :
    Calls Tryz.prog 27 #[.pointer (some ⟨rb, 0, none⟩)] w fun e w' => e = .returned (.int .i64 x) ∧ RD w' rb X r false ∧ Chg (fun k => k = rb) w w' := by
  have HN := Lib.hid (num_some (decNum_enc (zig x) (zig_lt x hx.1 hx.2) r) (num_any rb X _ hX hby w h))
  clear h
  go_enter Tryz.func27, Tryz.ntmps27
  go_wp2_with fail
  refine HN.out.mono ?_
  rintro e w1 ⟨rfl, h1, h2⟩
  have H1 := Lib.hid h1
  have H2 := Lib.hid h2
  clear h1 h2
  go_wp2_with fail
  go_ret
  have hu := unzig_any x hx
  simp only [← wrap64_eq] at hu
  exact ⟨congrArg (fun y => Ending.returned (.int .i64 y)) hu, H1.out, H2.out⟩

theorem append_str_at {P : Program} {w : World} {t u ty e : TypeId} {i : TypeInfo} (ht : P.underlying t = some (.slice e)) (hu : P.underlying u = some .string) (hi : P.info? e = some i) (hz : i.zero = some (.int .u8 0)) (hsize : i.size = 1) (hby : i.bytes = 1)
    {v : Value} {n : Nat} {xs : List Value} (hown : w.ownsRow 0 e 1 v n xs) (s : ByteArray) (hl : n + s.size ≤ 1073741824) :
    ∃ v' w', (Builtin.append_ #[t, u] ty #[v, .string s]).run P w = .ok v' w' ∧ w'.ownsRow 0 e 1 v' (n + s.size) (xs ++ Lib.strCells s) ∧ w.grownBy w' v.ownBlock ∧ (v'.ownBlock = v.ownBlock ∨ v'.ownBlock = some w.heap.size) := by
  obtain ⟨v', w', hr, h2, h3, h4⟩ := Lib.run_append_own_string (P := P) w 0 t u ty e i ht hu hi hz hsize hby v n xs hown s (by unfold maxLen; omega) (by omega) (Nat.zero_le _)
  refine ⟨v', w', hr, h2, h3, ?_⟩
  have hxl : xs.length = n := by simpa using hown.1
  rcases hown.2 with ⟨rfl, rfl⟩ | ⟨g, cap, cur, rfl, hbg, hg, hnc, hcm, hcs, htake⟩
  · by_cases hm : s.size = 0
    · exact .inl (by rw [h4.2 ⟨rfl, hm⟩])
    · have hr2 := run_append_nil_string (P := P) w t u ty e i (.int .u8 0) ht hu hi hz s (by omega) (by omega) (by rw [hby]; omega)
      rw [hr2] at hr
      injection hr with e1 _
      exact .inr (by rw [← e1]; rfl)
  · by_cases hroom : n + s.size ≤ cap
    · have hr2 := Lib.run_append_room_string (P := P) w t u ty e i ht hu hi hsize g n cap cur hg s hroom (by simp at hcs; omega)
      rw [hr2] at hr
      injection hr with e1 _
      exact .inl (by rw [← e1]; rfl)
    · have hr2 := Lib.run_append_grow_string (P := P) w t u ty e i (.int .u8 0) ht hu hi hz ⟨g, 0, none⟩ n cap xs (by rw [hsize]; simpa using hxl) (hown.cells (g := g) rfl) s (by omega) (by omega) (by rw [hby]; exact Go.growslice_fits (by omega) (by omega))
      rw [hr2] at hr
      injection hr with e1 _
      exact .inr (by rw [← e1]; rfl)
theorem wpList_append_str {P : Program} {w : World} {ops : Array Oper} {rest : List Oper} {o : Oper} {a : Act} {Q : Exit → Act → World → Prop} (hgd : o.guard = none) (sl x : Operand) (t u : TypeId)
    (ho : o.op = .call { callee := .builtin .append, args := #[sl, x], argTypes := #[t, u] }) {e : TypeId} {i : TypeInfo} (ht : P.underlying t = some (.slice e)) (hu : P.underlying u = some .string) (hi : P.info? e = some i) (hz : i.zero = some (.int .u8 0)) (hsize : i.size = 1) (hby : i.bytes = 1)
    {v : Value} {n : Nat} {xs : List Value} (hs : a.eval sl = v) (hown : w.ownsRow 0 e 1 v n xs) (s : ByteArray) (hx : a.eval x = .string s) (hl : n + s.size ≤ 1073741824)
    (h : ∀ v' w', w'.ownsRow 0 e 1 v' (n + s.size) (xs ++ Lib.strCells s) → w.grownBy w' v.ownBlock → (v'.ownBlock = v.ownBlock ∨ v'.ownBlock = some w.heap.size) → wpList P ops Q rest (a.put o.dst v') w') : wpList P ops Q (o :: rest) a w := by
  refine wpList_plain hgd fun K hK => ?_
  obtain ⟨v', w', hr, h2, h3, h4⟩ := append_str_at (ty := o.type) ht hu hi hz hsize hby hown s hl
  unfold Oper.wp execOp
  simp only [ho, resolve, invoke, builtin, Sem.run_bind, Sem.run_pure, Result.andThen_ok, List.map_toArray, List.map_cons, List.map_nil, hs, hx, hr]
  exact hK _ _ (h v' w' h2 h3 h4)
theorem strCells_bytes (s : ByteArray) : Lib.strCells s = encs (Value.int .u8) (bytesOf s) := by
  unfold Lib.strCells encs bytesOf
  rw [List.map_map]
  rfl
/-- An append to the writer's slice, of whatever length, stored back. -/
theorem wr_put_any {w w1 : World} {wb : Nat} {X : Nat → Prop} {bs xs : List Int} {v v' : Value} (h : WR w wb X bs) (hb : Blk w wb #[v] 319) (hv : ∀ k, v.ownBlock = some k → X k)
    (ho : w1.ownsRow 0 5 1 v' (bs.length + xs.length) (encs (Value.int .u8) bs ++ encs (Value.int .u8) xs)) (hg : w.grownBy w1 v.ownBlock) (hat : v'.ownBlock = v.ownBlock ∨ v'.ownBlock = some w.heap.size)
    (hne : v.ownBlock ≠ some wb) : WP w wb X (bs ++ xs) (w1.setCell ⟨wb, 0, none⟩ v') := by
  have hc1 : Chg X w w1 := (Chg.refl X w).grown hg (fun k hk => .inl (hv k hk))
  have hb1 : Blk w1 wb #[v] 319 := (hg.block wb hb.lt (fun e => hne e.symm)).trans hb
  have hc2 : Chg X w (w1.setCell ⟨wb, 0, none⟩ v') := hc1.put wb 0 (.inl h.here) _
  have hgw : v'.ownBlock ≠ some wb := by
    rcases hat with e | e
    · rw [e]; exact hne
    · rw [e]; intro e'; injection e' with e'; have := hb.lt; omega
  refine ⟨fun k => X k ∨ v'.ownBlock = some k, ⟨.inl h.here, fun k hk => ?_, _, by simpa using hb1.set 0 _, ?_, fun k hk => .inr hk⟩, fun k hk => ?_, hc2⟩
  · rcases hk with hk | hk
    · exact Nat.lt_of_lt_of_le (h.lt k hk) hc2.size
    · simpa [World.setCell] using own_lt ho k hk
  · rw [List.length_append, encs_append]
    exact own_setCell ho (fun e => hgw e.symm) _
  · rcases hk with hk | hk
    · exact .inl hk
    · rcases hat with e | e
      · exact .inl (hv _ (e ▸ hk))
      · rw [e] at hk; injection hk with hk; exact .inr (by omega)

set_option maxRecDepth 100000 in
theorem wtext_any (wb : Nat) (X : Nat → Prop) (bs : List Int) (s : ByteArray) (hs : s.size ≤ 1048576) (w : World) (h : WR w wb X bs) (hl : bs.length ≤ 536870912) :
    Calls Tryz.prog 116 #[.pointer (some ⟨wb, 0, none⟩), .string s] w fun e w' => e = .returned (.tuple #[]) ∧ WP w wb X (bs ++ encText s) w' := by
  have HN := Lib.hid (wnum_any wb X bs s.size (by omega) w h (by omega))
  have hen := (encNum_length s.size (by omega)).2
  clear h
  go_enter Tryz.func116, Tryz.ntmps116
  go_wp2_with fail
  refine HN.out.mono ?_
  rintro e w1 ⟨rfl, h1⟩
  obtain ⟨X1, h2, h3, h4⟩ := h1
  obtain ⟨v, hb, ho, hv⟩ := h2.row
  have hne := own_block_ne ho hb (by decide)
  obtain ⟨B, hB⟩ : ∃ B, B = bs ++ encNum s.size := ⟨_, rfl⟩
  have hBl : B.length + s.size ≤ 1073741824 := by rw [hB, List.length_append]; omega
  have HE := Lib.hid (show bs ++ encText s = B ++ bytesOf s by rw [hB, encText, List.append_assoc])
  rw [← hB] at h2 ho
  obtain ⟨VA, vc, rfl⟩ := own_slice ho
  have c0 := hb.cell 0
  have f0 := hb.free 0
  simp at c0
  have H2 := Lib.hid h2
  have H3 := Lib.hid h3
  have H4 := Lib.hid h4
  have HB := Lib.hid hb
  have HO := Lib.hid ho
  have HV := Lib.hid hv
  have HNE := Lib.hid hne
  clear h2 h3 h4 hb ho hv hne hB
  have hlt := HB.out.lt
  obtain ⟨i0, hi, hz0, hz1, hz2⟩ := info_parts info5
  go_wp2_with (at_builtin; refine wpList_append_str rfl _ _ 88 9 rfl Tryz.underlying88 Tryz.underlying9 hi hz0 hz1 hz2 rfl HO.out s rfl (by omega) ?_; intro v' w2 ho2 hg2 hat2; obtain ⟨VB, vd, rfl⟩ := own_slice ho2; have f1 : w2.frozen? ⟨wb, 0, none⟩ = false := (hg2.frozen_far ⟨wb, 0, none⟩ hlt (fun e => HNE.out e.symm)).trans (HB.out.free 0); have c1 : w2.cell? ⟨wb, 0, none⟩ = some (.slice VA B.length vc) := (hg2.cell_far ⟨wb, 0, none⟩ hlt (fun e => HNE.out e.symm)).trans (HB.out.cell 0); rw [strCells_bytes] at ho2; have hlen := bytesOf_length s; have HS := Lib.hid (wr_put_any (xs := bytesOf s) H2.out HB.out HV.out (by rw [hlen]; exact ho2) hg2 hat2 HNE.out); clear ho2 hg2 hat2)
  go_end0
  exact ⟨rfl, by rw [HE.out]; exact WP.of H3.out H4.out HS.out⟩

/-- The bytes that a writer hands over. -/
theorem wbytes_any (wb : Nat) (X : Nat → Prop) (bs : List Int) (w : World) (h : WR w wb X bs) (hl : bs.length ≤ 1073741824) :
    Calls Tryz.prog 97 #[.pointer (some ⟨wb, 0, none⟩)] w fun e w' => ∃ A c, e = .returned (.slice A bs.length c) ∧ w'.ownsRow w.heap.size 5 1 (.slice A bs.length c) bs.length (encs (Value.int .u8) bs) ∧ Below w.heap.size w w' := by
  obtain ⟨v, hb, ho, hv⟩ := h.row
  obtain ⟨VA, vc, rfl, hvc, hr⟩ := own_reads_of_le (d := (0 : Int)) ho
  have c0 := hb.cell 0
  simp at c0
  have HR0 := Lib.hid (hr.below ((Below.refl _ _).alloc (Nat.le_refl _) (.cells #[] 5)))
  have HO0 := Lib.hid (own_lit_of (enc := Value.int .u8) w w.heap.size 5 [] (Nat.le_refl _) (by simp))
  have HB0 := Lib.hid (show Below w.heap.size w (w.alloc (.cells #[] 5)) from (Below.refl _ _).alloc (Nat.le_refl _) _)
  have hlt := hb.lt
  clear hb ho hv h hr
  go_enter Tryz.func97, Tryz.ntmps97
  go_wp2_with (at_builtin; refine print_append_row_of (w0 := w) (Value.int .u8) (0 : Int) w.heap.size rfl _ _ 88 5 (.int .u8 0) 1 rfl Tryz.underlying88 info5 rfl (by omega) (fun _ => rfl) _ [] bs VA bs.length vc rfl rfl HO0.out HR0.out HB0.out (by simp) (by simp; omega) ?_; intro v1 w1 ho1 hb1 hg1 hat1; simp only [List.nil_append] at ho1; obtain ⟨A1, c1, rfl⟩ := own_slice ho1; have HO1 := Lib.hid ho1; have HB1 := Lib.hid hb1; clear ho1 hb1 hg1 hat1)
  go_ret
  exact ⟨A1, c1, rfl, HO1.out, HB1.out⟩
end Go.Proofs.YtlcdjgpblpodaaaGreatDoor
namespace Go.Proofs.YtlcdjgpblpodaaaGreatDoor
open Go.RowKit Go.Proofs.YtlcdjgpblpodaaaGreatDoorW.PrintWords

/-! ### The writer, from a world on. -/
theorem WP.num {w0 w : World} {wb : Nat} {X : Nat → Prop} {bs : List Int} (n : Nat) (h64 : n < 18446744073709551616) (hl : bs.length ≤ 1073741824) (h : WP w0 wb X bs w) :
    Calls Tryz.prog 96 #[.pointer (some ⟨wb, 0, none⟩), .int .u64 n] w fun e w' => e = .returned (.tuple #[]) ∧ WP w0 wb X (bs ++ encNum n) w' := by
  obtain ⟨X1, h1, h2, h3⟩ := h
  exact (wnum_any wb X1 bs n h64 w h1 hl).mono fun e w' q => ⟨q.1, WP.of h2 h3 q.2⟩
theorem WP.int {w0 w : World} {wb : Nat} {X : Nat → Prop} {bs : List Int} (x : Int) (hx : In64 x) (hl : bs.length ≤ 1073741824) (h : WP w0 wb X bs w) :
    Calls Tryz.prog 117 #[.pointer (some ⟨wb, 0, none⟩), .int .i64 x] w fun e w' => e = .returned (.tuple #[]) ∧ WP w0 wb X (bs ++ encInt x) w' := by
  obtain ⟨X1, h1, h2, h3⟩ := h
  exact (wint_any wb X1 bs x hx w h1 hl).mono fun e w' q => ⟨q.1, WP.of h2 h3 q.2⟩
theorem WP.text {w0 w : World} {wb : Nat} {X : Nat → Prop} {bs : List Int} (s : ByteArray) (hs : s.size ≤ 1048576) (hl : bs.length ≤ 536870912) (h : WP w0 wb X bs w) :
    Calls Tryz.prog 116 #[.pointer (some ⟨wb, 0, none⟩), .string s] w fun e w' => e = .returned (.tuple #[]) ∧ WP w0 wb X (bs ++ encText s) w' := by
  obtain ⟨X1, h1, h2, h3⟩ := h
  exact (wtext_any wb X1 bs s hs w h1 hl).mono fun e w' q => ⟨q.1, WP.of h2 h3 q.2⟩
theorem WP.bytes {w0 w : World} {wb : Nat} {X : Nat → Prop} {bs : List Int} (hl : bs.length ≤ 1073741824) (h : WP w0 wb X bs w) :
    Calls Tryz.prog 97 #[.pointer (some ⟨wb, 0, none⟩)] w fun e w' => ∃ A c, e = .returned (.slice A bs.length c) ∧ w'.ownsRow w.heap.size 5 1 (.slice A bs.length c) bs.length (encs (Value.int .u8) bs) ∧ Below w.heap.size w w' := by
  obtain ⟨X1, h1, h2, h3⟩ := h
  exact wbytes_any wb X1 bs w h1 hl
theorem WP.chg {w0 w : World} {wb : Nat} {X : Nat → Prop} {bs : List Int} (h : WP w0 wb X bs w) : Chg X w0 w := by
  obtain ⟨X1, h1, h2, h3⟩ := h
  exact h3
/-- Begin anew from here on: the own blocks lie below. -/
theorem WP.rebase {w0 w : World} {wb : Nat} {X : Nat → Prop} {bs : List Int} (h : WP w0 wb X bs w) :
    ∃ X1, (∀ k, X1 k → k < w.heap.size) ∧ (∀ k, X1 k → X k ∨ w0.heap.size ≤ k) ∧ (∀ w2, Below w.heap.size w w2 → WP w2 wb X1 bs w2) ∧ (∀ w2 w3 bs', Below w.heap.size w w2 → WP w2 wb X1 bs' w3 → WP w0 wb X bs' w3) := by
  obtain ⟨X1, h1, h2, h3⟩ := h
  refine ⟨X1, h1.lt, h2, fun w2 hb => WP.refl (h1.below hb), fun w2 w3 bs' hb hp => WP.of h2 h3 ?_⟩
  obtain ⟨X2, g1, g2, g3⟩ := hp
  exact ⟨X2, g1, fun k hk => (g2 k hk).imp id (fun h => Nat.le_trans hb.size h), (Chg.of_below hb X1).trans g3 (fun _ _ h => h)⟩
theorem WP.new (w : World) : WP (w.alloc (.cells #[.slice none 0 0] 319)) w.heap.size (fun k => k = w.heap.size) [] (w.alloc (.cells #[.slice none 0 0] 319)) := WP.refl (WR.new rfl)

/-! ### The reader, from a world on. -/
/-- A reader at rb whose bytes lie in X, both of w0; since w0 only the reader and new memory have changed. -/
structure RP (w0 : World) (rb : Nat) (X : Nat → Prop) (bs : List Int) (w : World) : Prop where
  rd : RD w rb X bs false
  by_ : IsBytes bs
  chg : Chg (fun k => k = rb) w0 w
  lt : ∀ k, X k → k < w0.heap.size
  rlt : rb < w0.heap.size
  ne : ¬ X rb
theorem RP.step {w0 w w' : World} {rb : Nat} {X : Nat → Prop} {bs : List Int} (h : RP w0 rb X bs w) (hc : Chg (fun k => w0.heap.size ≤ k) w w') : RP w0 rb X bs w' :=
  ⟨h.rd.chg hc (by have := h.rlt; omega) (fun k hk => by have := h.lt k hk; omega), h.by_, h.chg.trans hc (fun i hi hs => by omega), h.lt, h.rlt, h.ne⟩
theorem RP.below {w0 w w' : World} {rb : Nat} {X : Nat → Prop} {bs : List Int} (h : RP w0 rb X bs w) (hb : Below w.heap.size w w') : RP w0 rb X bs w' := h.step (Chg.of_below hb _)
theorem RP.alloc {w0 w : World} {rb : Nat} {X : Nat → Prop} {bs : List Int} (h : RP w0 rb X bs w) (o : Obj) : RP w0 rb X bs (w.alloc o) := h.step ((Chg.refl _ _).alloc o)
theorem RP.drew {w0 w : World} {rb : Nat} {X : Nat → Prop} {bs : List Int} (h : RP w0 rb X bs w) : RP w0 rb X bs w.drew := h.step (Chg.refl _ _).drew
theorem RP.rebase {w0 w : World} {rb : Nat} {X : Nat → Prop} {bs : List Int} (h : RP w0 rb X bs w) : RP w rb X bs w :=
  ⟨h.rd, h.by_, Chg.refl _ _, fun k hk => Nat.lt_of_lt_of_le (h.lt k hk) h.chg.size, Nat.lt_of_lt_of_le h.rlt h.chg.size, h.ne⟩
theorem RP.on {w0 w w' : World} {rb : Nat} {X : Nat → Prop} {bs bs' : List Int} (h : RP w0 rb X bs w) (h' : RP w rb X bs' w') : RP w0 rb X bs' w' :=
  ⟨h'.rd, h'.by_, h.chg.trans h'.chg (fun _ _ h => h), h.lt, h.rlt, h.ne⟩
theorem IsBytes.right {a b : List Int} (h : IsBytes (a ++ b)) : IsBytes b := fun x hx => h x (List.mem_append_right _ hx)
theorem IsBytes.left {a b : List Int} (h : IsBytes (a ++ b)) : IsBytes a := fun x hx => h x (List.mem_append_left _ hx)
theorem RP.num {w0 w : World} {rb : Nat} {X : Nat → Prop} {r : List Int} (n : Nat) (h64 : n < 18446744073709551616) (h : RP w0 rb X (encNum n ++ r) w) :
    Calls Tryz.prog 65 #[.pointer (some ⟨rb, 0, none⟩)] w fun e w' => e = .returned (.int .u64 n) ∧ RP w0 rb X r w' ∧ Chg (fun k => k = rb) w w' :=
  (num_some (decNum_enc n h64 r) (num_any rb X _ h.ne h.by_ w h.rd)).mono fun _ _ ⟨q1, q2, q3⟩ => ⟨q1, ⟨q2, h.by_.right, h.chg.trans q3 (fun _ _ h => h), h.lt, h.rlt, h.ne⟩, q3⟩
theorem RP.int {w0 w : World} {rb : Nat} {X : Nat → Prop} {r : List Int} (x : Int) (hx : In64 x) (h : RP w0 rb X (encInt x ++ r) w) :
    Calls Tryz.prog 27 #[.pointer (some ⟨rb, 0, none⟩)] w fun e w' => e = .returned (.int .i64 x) ∧ RP w0 rb X r w' ∧ Chg (fun k => k = rb) w w' :=
  (rint_any rb X x r hx h.ne h.by_ w h.rd).mono fun _ _ ⟨q1, q2, q3⟩ => ⟨q1, ⟨q2, h.by_.right, h.chg.trans q3 (fun _ _ h => h), h.lt, h.rlt, h.ne⟩, q3⟩
theorem RP.bytes {w0 w : World} {rb : Nat} {X : Nat → Prop} {r : List Int} (bs : List Int) (h64 : bs.length < 18446744073709551616) (h : RP w0 rb X (encBytes bs ++ r) w) :
    Calls Tryz.prog 77 #[.pointer (some ⟨rb, 0, none⟩)] w fun e w' => e = .returned (.string (strOfNums bs)) ∧ RP w0 rb X r w' ∧ Chg (fun k => k = rb) w w' :=
  (text_any rb X _ h.ne h.by_ w h.rd).mono fun e w' q => by
    unfold TextPost at q
    rw [decText_enc bs r h64] at q
    obtain ⟨q1, q2, q3⟩ := q
    exact ⟨q1, ⟨q2, h.by_.right, h.chg.trans q3 (fun _ _ h => h), h.lt, h.rlt, h.ne⟩, q3⟩
theorem strOf_bytesOf (s : ByteArray) : strOfNums (bytesOf s) = s := by
  have h : (bytesOf s).map (fun n => UInt8.ofNat n.toNat) = s.data.toList := by
    unfold bytesOf
    rw [List.map_map]
    conv => rhs; rw [← List.map_id s.data.toList]
    apply List.map_congr_left
    intro b _
    simp
  unfold strOfNums
  rw [h]
theorem RP.text {w0 w : World} {rb : Nat} {X : Nat → Prop} {r : List Int} (s : ByteArray) (hs : s.size ≤ 1048576) (h : RP w0 rb X (encText s ++ r) w) :
    Calls Tryz.prog 77 #[.pointer (some ⟨rb, 0, none⟩)] w fun e w' => e = .returned (.string s) ∧ RP w0 rb X r w' ∧ Chg (fun k => k = rb) w w' := by
  rw [encText_eq] at h
  refine (RP.bytes (bytesOf s) (by rw [bytesOf_length]; omega) h).mono fun e w' q => ?_
  rw [strOf_bytesOf] at q
  exact q
theorem RP.end_ {w0 w : World} {rb : Nat} {X : Nat → Prop} (h : RP w0 rb X [] w) : Calls Tryz.prog 28 #[.pointer (some ⟨rb, 0, none⟩)] w fun e w' => e = .returned (.bool true) ∧ w = w' := end_any rb X [] w h.rd
theorem RP.bad {w0 w : World} {rb : Nat} {X : Nat → Prop} {bs : List Int} (h : RP w0 rb X bs w) : Calls Tryz.prog 79 #[.pointer (some ⟨rb, 0, none⟩)] w fun e w' => e = .returned (.bool false) ∧ w = w' := bad_any rb X bs false w h.rd
/-- A reader of bytes that lie below. -/
theorem RP.new (A : Option Addr) (c : Nat) (bs : List Int) (w : World) (hr : ReadsOf (Value.int .u8) (0 : Int) w A bs.length bs) (hl : bs.length ≤ 1099511627776) (hb : IsBytes bs) :
    Calls Tryz.prog 26 #[.slice A bs.length c] w fun e w' => ∃ rb, e = .returned (.pointer (some ⟨rb, 0, none⟩)) ∧ w.heap.size ≤ rb ∧ RP w' rb (fun k => w.heap.size ≤ k ∧ k < rb) bs w' ∧ Below w.heap.size w w' :=
  (newreader A c bs w hr hl).mono fun e w' ⟨rb, q1, q2, q3, q4⟩ => by
    obtain ⟨A', c', hb', _, _, _⟩ := id q3
    have := hb'.lt
    exact ⟨rb, q1, q2, ⟨q3, hb, Chg.refl _ _, fun k hk => by omega, by omega, by omega⟩, q4⟩

/-! ### Keys and letters. -/
theorem size_zero {s : ByteArray} : s = ⟨#[]⟩ ↔ s.size = 0 := by
  obtain ⟨⟨x⟩⟩ := s
  cases x with
  | nil => exact ⟨fun _ => rfl, fun _ => rfl⟩
  | cons a l => exact ⟨(fun h => by cases h), (fun h => by simp [ByteArray.size] at h)⟩
theorem str_ne {s : ByteArray} (h : ¬ s = ⟨#[]⟩) : s.toList.isEmpty = false := by
  rw [ByteArray.toList_eq]
  obtain ⟨⟨x⟩⟩ := s
  cases x with
  | nil => exact absurd rfl h
  | cons a l => rfl
set_option maxRecDepth 100000 in
theorem key_any (s : ByteArray) (h : KeyOk s) (w : World) : Calls Tryz.prog 37 #[.string s] w fun e w' => e = .returned (.bool true) ∧ w = w' := by
  obtain ⟨h1, h2⟩ := h
  have h0 : s ≠ ⟨#[]⟩ := mt size_zero.1 (by omega)
  have t1 := str_ne h0
  have t2 : decide ((s.size : Int) ≤ 40) = true := decide_eq_true (by omega)
  go_enter Tryz.func37, Tryz.ntmps37
  go_wp2
  go_ret
  exact ⟨rfl, rfl⟩
/-- Integers of a letter. -/
def ArgsAt (w : World) (X : Nat → Prop) (A : Option Addr) (c : Nat) (xs : List Int) : Prop := ReadsOf (Value.int .i64) (0 : Int) w A xs.length xs ∧ xs.length ≤ c ∧ (xs ≠ [] → ∀ a, A = some a → X a.block) ∧ ∀ a, A = some a → a.spot = none
theorem ReadsOf.empty {α : Type} {enc : α → Value} {d : α} {w w' : World} {A : Option Addr} (h : ReadsOf enc d w A ([] : List α).length []) : ReadsOf enc d w' A ([] : List α).length [] := ⟨h.1, h.2.1, fun hp => absurd hp (Nat.lt_irrefl 0)⟩
theorem ArgsAt.chg {S X : Nat → Prop} {w w' : World} {A : Option Addr} {c : Nat} {xs : List Int} (h : ArgsAt w X A c xs) (hc : Chg S w w') (hX : ∀ k, X k → ¬ S k) : ArgsAt w' X A c xs := by
  cases xs with
  | nil => exact ⟨ReadsOf.empty h.1, h.2.1, h.2.2⟩
  | cons x r => exact ⟨hc.reads h.1 (fun a ha => hX _ (h.2.2.1 (by simp) a ha)), h.2.1, h.2.2⟩
theorem ArgsAt.mono {X X' : Nat → Prop} {w : World} {A : Option Addr} {c : Nat} {xs : List Int} (h : ArgsAt w X A c xs) (hX : ∀ k, X k → X' k) : ArgsAt w X' A c xs := ⟨h.1, h.2.1, fun hn a ha => hX _ (h.2.2.1 hn a ha), h.2.2.2⟩
theorem ArgsAt.below {X : Nat → Prop} {w w' : World} {A : Option Addr} {c : Nat} {xs : List Int} (h : ArgsAt w X A c xs) (hb : Below w.heap.size w w') : ArgsAt w' X A c xs := h.chg (Chg.of_below hb (fun _ => False)) (fun _ _ h => h)
theorem ArgsAt.lt {X : Nat → Prop} {w : World} {A : Option Addr} {c : Nat} {xs : List Int} (h : ArgsAt w X A c xs) : ArgsAt w (fun k => X k ∧ k < w.heap.size) A c xs :=
  ⟨h.1, h.2.1, fun hn a ha => ⟨h.2.2.1 hn a ha, by
    obtain ⟨a', ha', hlt⟩ := reads_lt h.1 (List.length_pos_iff.2 hn)
    rw [ha] at ha'
    injection ha' with ha'
    subst ha'
    exact hlt⟩, h.2.2.2⟩
theorem own_spot {w : World} {base n size m c : Nat} {e : TypeId} {A : Option Addr} {xs : List Value} (h : w.ownsRow base e size (.slice A m c) n xs) : ∀ a, A = some a → a.spot = none := fun a ha => by
  rcases h.2 with ⟨h1, _⟩ | ⟨g, cap, cur, h1, _⟩
  · injection h1 with h1; rw [ha] at h1; cases h1
  · injection h1 with h1; rw [ha] at h1; injection h1 with h1; rw [h1]
/-- A row of one's own is integers. -/
theorem ArgsAt.of_own {w : World} {base c : Nat} {A : Option Addr} {xs : List Int} (h : w.ownsRow base 2 1 (.slice A xs.length c) xs.length (encs (Value.int .i64) xs)) : ArgsAt w (fun k => base ≤ k) A c xs := by
  obtain ⟨A', c', he, hle, hrd⟩ := own_reads_of_le (d := (0 : Int)) h
  injection he with he1 _ he3
  subst he1 he3
  exact ⟨hrd, hle, fun _ a ha => own_base h a.block (by rw [ha]; rfl), own_spot h⟩
def letC (l : Let) (A : Option Addr) (c : Nat) : List Value := [.string l.frm, .int .u64 l.serial, .int .i64 l.kind, .slice A l.args.length c]
/-- A letter in a row. -/
def LetAt (w : World) (X : Nat → Prop) (b o : Nat) (l : Let) : Prop :=
  ∃ A c, w.cell? ⟨b, o, none⟩ = some (.string l.frm) ∧ w.cell? ⟨b, o + 1, none⟩ = some (.int .u64 l.serial) ∧ w.cell? ⟨b, o + 2, none⟩ = some (.int .i64 l.kind) ∧ w.cell? ⟨b, o + 3, none⟩ = some (.slice A l.args.length c) ∧ ArgsAt w X A c l.args
theorem LetAt.chg {S X : Nat → Prop} {w w' : World} {b o : Nat} {l : Let} (h : LetAt w X b o l) (hc : Chg S w w') (hX : ∀ k, X k → ¬ S k) (hb : X b) : LetAt w' X b o l := by
  obtain ⟨A, c, h0, h1, h2, h3, h4⟩ := h
  have := hX b hb
  exact ⟨A, c, hc.cell this h0, hc.cell this h1, hc.cell this h2, hc.cell this h3, h4.chg hc hX⟩
theorem LetAt.lt {X : Nat → Prop} {w : World} {b o : Nat} {l : Let} (h : LetAt w X b o l) : LetAt w (fun k => X k ∧ k < w.heap.size) b o l := by
  obtain ⟨A, c, h0, h1, h2, h3, h4⟩ := h
  exact ⟨A, c, h0, h1, h2, h3, h4.lt⟩
theorem LetAt.mono {X X' : Nat → Prop} {w : World} {b o : Nat} {l : Let} (h : LetAt w X b o l) (hX : ∀ k, X k → X' k) : LetAt w X' b o l := by
  obtain ⟨A, c, h0, h1, h2, h3, h4⟩ := h
  exact ⟨A, c, h0, h1, h2, h3, h4.mono hX⟩
/-- Letters in a row. -/
def LetsAt (w : World) (X : Nat → Prop) (A : Option Addr) (ls : List Let) : Prop :=
  ls ≠ [] → ∃ b off, A = some ⟨b, off, none⟩ ∧ X b ∧ ∀ i l, ls[i]? = some l → LetAt w X b (off + i * 4) l
theorem LetsAt.chg {S X : Nat → Prop} {w w' : World} {A : Option Addr} {ls : List Let} (h : LetsAt w X A ls) (hc : Chg S w w') (hX : ∀ k, X k → ¬ S k) : LetsAt w' X A ls := fun hn => by
  obtain ⟨b, off, h1, h2, h3⟩ := h hn
  exact ⟨b, off, h1, h2, fun i l hl => (h3 i l hl).chg hc hX h2⟩
theorem LetsAt.mono {X X' : Nat → Prop} {w : World} {A : Option Addr} {ls : List Let} (h : LetsAt w X A ls) (hX : ∀ k, X k → X' k) : LetsAt w X' A ls := fun hn => by
  obtain ⟨b, off, h1, h2, h3⟩ := h hn
  exact ⟨b, off, h1, hX _ h2, fun i l hl => (h3 i l hl).mono hX⟩
theorem LetsAt.below {X : Nat → Prop} {w w' : World} {A : Option Addr} {ls : List Let} (h : LetsAt w X A ls) (hb : Below w.heap.size w w') : LetsAt w' X A ls := h.chg (Chg.of_below hb (fun _ => False)) (fun _ _ h => h)
theorem LetsAt.lt {X : Nat → Prop} {w : World} {A : Option Addr} {ls : List Let} (h : LetsAt w X A ls) : LetsAt w (fun k => X k ∧ k < w.heap.size) A ls := fun hn => by
  obtain ⟨b, off, h1, h2, h3⟩ := h hn
  have h4 : b < w.heap.size := by
    cases ls with
    | nil => exact absurd rfl hn
    | cons l r =>
      obtain ⟨A', c, h0, _⟩ := h3 0 l rfl
      exact World.block_lt_of_cell? w _ h0
  exact ⟨b, off, h1, ⟨h2, h4⟩, fun i l hl => (h3 i l hl).lt⟩
theorem LetsAt.nil (w : World) (X : Nat → Prop) (A : Option Addr) : LetsAt w X A [] := fun h => absurd rfl h

set_option maxRecDepth 100000 in
theorem formed_letter (f : ByteArray) (sr kd : Int) (A : Option Addr) (n m : Nat) (hf : f.size ≤ 40) (hn : n ≤ 4) (w : World) :
    Calls Tryz.prog 38 #[.agg #[.string f, .int .u64 sr, .int .i64 kd, .slice A n m]] w fun e w' => e = .returned (.bool true) ∧ w' = w.alloc (.cells #[.string f, .int .u64 sr, .int .i64 kd, .slice A n m] 65) := by
  have t0 : decide ((f.size : Int) ≤ 40) = true := decide_eq_true (by omega)
  have t1 : decide ((n : Int) ≤ 4) = true := decide_eq_true (by omega)
  go_enter Tryz.func38, Tryz.ntmps38
  go_wp2
  go_ret
  exact ⟨rfl, rfl⟩
end Go.Proofs.YtlcdjgpblpodaaaGreatDoor

/- Lib3, Let4 -/
import Derived.Test.YtlcdjgpblpodaaaGreatDoorMAA
import Derived.Test.YtlcdjgpblpodaaaGreatDoorMAH
namespace Go.Proofs.YtlcdjgpblpodaaaGreatDoor
open Go.RowKit Go.Proofs.YtlcdjgpblpodaaaGreatDoorW.PrintWords

theorem size_run {e size : Nat} {i : TypeInfo} (hi : Tryz.prog.info? e = some i) (hs : i.size = size) (w : World) : (Go.sizeOf e).run Tryz.prog w = .ok size w := by simp [Go.sizeOf, typeInfo, hi, hs]
theorem encs_cells {α : Type} {enc : α → Value} {d : α} {w : World} {b off n : Nat} {xs : List α} (hr : ReadsOf enc d w (some ⟨b, off, none⟩) n xs) : ∀ j u, (encs enc xs)[j]? = some u → w.cell? ⟨b, off + j, none⟩ = some u := fun j u hu => by
  have hj : j < xs.length := by
    have := (List.getElem?_eq_some_iff.1 hu).1
    simpa [encs] using this
  obtain ⟨ad, ha, hc⟩ := hr.2.2 (by have := hr.1; omega)
  injection ha with ha
  subst ha
  have := hc j (by have := hr.1; omega)
  rw [show (⟨b, off, none⟩ : Addr).add j = ⟨b, off + j, none⟩ from Go.WideShapes.add_plain b off j] at this
  rw [this, ← hu, encs_get (d := d) xs j hj]
theorem info32 : (Tryz.prog.info? 32).map (fun i => (i.zero, i.size, i.bytes)) = some (some (.int .u64 0), 1, 8) := by kernel_rfl
theorem info9 : (Tryz.prog.info? 9).map (fun i => (i.zero, i.size, i.bytes)) = some (some (.string ⟨#[]⟩), 1, 16) := by kernel_rfl
theorem clone76 (A : Option Addr) (c : Nat) (xs : List Int) (w : World) (hr : ReadsOf (Value.int .u8) (0 : Int) w A xs.length xs) (hs : ∀ a, A = some a → a.spot = none) (hl : xs.length ≤ 1048576) :
    Calls Tryz.prog 76 #[.slice A xs.length c] w fun e w' => ∃ A' c', e = .returned (.slice A' xs.length c') ∧ w'.ownsRow w.heap.size 5 1 (.slice A' xs.length c') xs.length (encs (Value.int .u8) xs) ∧ Below w.heap.size w w' := by
  cases A with
  | none =>
    obtain rfl : xs = [] := by
      cases xs with
      | nil => rfl
      | cons x r =>
        obtain ⟨a, ha, _⟩ := hr.2.2 (by simp)
        cases ha
    exact (AnyE.slices_Clone_nil Tryz.cl76 0 c w).mono fun e w' q => ⟨none, 0, q.1, own_nil _ _ _ _, q.2 ▸ Below.refl _ _⟩
  | some a =>
    obtain ⟨b, off, sp⟩ := a
    obtain rfl : sp = none := hs _ rfl
    obtain ⟨i0, hi, hz0, hz1, hz2⟩ := info_parts info5
    refine (AnyE.slices_Clone Tryz.cl76 i0 (.int .u8 0) 1 1 hi hz0 hz1 hz2 rfl (by decide) (size_run hi hz1) b off xs.length c (encs (Value.int .u8) xs) w (by simp [encs]) (by unfold maxLen; omega) (by omega) (encs_cells hr) (fun u hu => by obtain ⟨x, _, rfl⟩ := List.mem_map.1 hu; rfl)).mono ?_
    rintro e w' ⟨v, rfl, h1, _, h3⟩
    obtain ⟨A', c', rfl⟩ := own_slice h1
    exact ⟨A', c', rfl, h1, h3⟩
theorem clone91 (A : Option Addr) (c : Nat) (xs : List Int) (w : World) (hr : ReadsOf (Value.int .i64) (0 : Int) w A xs.length xs) (hs : ∀ a, A = some a → a.spot = none) (hl : xs.length ≤ 1048576) :
    Calls Tryz.prog 91 #[.slice A xs.length c] w fun e w' => ∃ A' c', e = .returned (.slice A' xs.length c') ∧ w'.ownsRow w.heap.size 2 1 (.slice A' xs.length c') xs.length (encs (Value.int .i64) xs) ∧ Below w.heap.size w w' := by
  cases A with
  | none =>
    obtain rfl : xs = [] := by
      cases xs with
      | nil => rfl
      | cons x r =>
        obtain ⟨a, ha, _⟩ := hr.2.2 (by simp)
        cases ha
    exact (AnyE.slices_Clone_nil Tryz.cl91 0 c w).mono fun e w' q => ⟨none, 0, q.1, own_nil _ _ _ _, q.2 ▸ Below.refl _ _⟩
  | some a =>
    obtain ⟨b, off, sp⟩ := a
    obtain rfl : sp = none := hs _ rfl
    obtain ⟨i0, hi, hz0, hz1, hz2⟩ := info_parts info2
    refine (AnyE.slices_Clone Tryz.cl91 i0 (.int .i64 0) 1 8 hi hz0 hz1 hz2 rfl (by decide) (size_run hi hz1) b off xs.length c (encs (Value.int .i64) xs) w (by simp [encs]) (by unfold maxLen; omega) (by omega) (encs_cells hr) (fun u hu => by obtain ⟨x, _, rfl⟩ := List.mem_map.1 hu; rfl)).mono ?_
    rintro e w' ⟨v, rfl, h1, _, h3⟩
    obtain ⟨A', c', rfl⟩ := own_slice h1
    exact ⟨A', c', rfl, h1, h3⟩
theorem clone101 (A : Option Addr) (c : Nat) (xs : List Int) (w : World) (hr : ReadsOf (Value.int .u64) (0 : Int) w A xs.length xs) (hs : ∀ a, A = some a → a.spot = none) (hl : xs.length ≤ 1048576) :
    Calls Tryz.prog 101 #[.slice A xs.length c] w fun e w' => ∃ A' c', e = .returned (.slice A' xs.length c') ∧ w'.ownsRow w.heap.size 32 1 (.slice A' xs.length c') xs.length (encs (Value.int .u64) xs) ∧ Below w.heap.size w w' := by
  cases A with
  | none =>
    obtain rfl : xs = [] := by
      cases xs with
      | nil => rfl
      | cons x r =>
        obtain ⟨a, ha, _⟩ := hr.2.2 (by simp)
        cases ha
    exact (AnyE.slices_Clone_nil Tryz.cl101 0 c w).mono fun e w' q => ⟨none, 0, q.1, own_nil _ _ _ _, q.2 ▸ Below.refl _ _⟩
  | some a =>
    obtain ⟨b, off, sp⟩ := a
    obtain rfl : sp = none := hs _ rfl
    obtain ⟨i0, hi, hz0, hz1, hz2⟩ := info_parts info32
    refine (AnyE.slices_Clone Tryz.cl101 i0 (.int .u64 0) 1 8 hi hz0 hz1 hz2 rfl (by decide) (size_run hi hz1) b off xs.length c (encs (Value.int .u64) xs) w (by simp [encs]) (by unfold maxLen; omega) (by omega) (encs_cells hr) (fun u hu => by obtain ⟨x, _, rfl⟩ := List.mem_map.1 hu; rfl)).mono ?_
    rintro e w' ⟨v, rfl, h1, _, h3⟩
    obtain ⟨A', c', rfl⟩ := own_slice h1
    exact ⟨A', c', rfl, h1, h3⟩
theorem clone122 (A : Option Addr) (c : Nat) (xs : List ByteArray) (w : World) (hr : ReadsOf (Value.string) (⟨#[]⟩ : ByteArray) w A xs.length xs) (hs : ∀ a, A = some a → a.spot = none) (hl : xs.length ≤ 1048576) :
    Calls Tryz.prog 122 #[.slice A xs.length c] w fun e w' => ∃ A' c', e = .returned (.slice A' xs.length c') ∧ w'.ownsRow w.heap.size 9 1 (.slice A' xs.length c') xs.length (encs (Value.string) xs) ∧ Below w.heap.size w w' := by
  cases A with
  | none =>
    obtain rfl : xs = [] := by
      cases xs with
      | nil => rfl
      | cons x r =>
        obtain ⟨a, ha, _⟩ := hr.2.2 (by simp)
        cases ha
    exact (AnyE.slices_Clone_nil Tryz.cl122 0 c w).mono fun e w' q => ⟨none, 0, q.1, own_nil _ _ _ _, q.2 ▸ Below.refl _ _⟩
  | some a =>
    obtain ⟨b, off, sp⟩ := a
    obtain rfl : sp = none := hs _ rfl
    obtain ⟨i0, hi, hz0, hz1, hz2⟩ := info_parts info9
    refine (AnyE.slices_Clone Tryz.cl122 i0 (.string ⟨#[]⟩) 1 16 hi hz0 hz1 hz2 rfl (by decide) (size_run hi hz1) b off xs.length c (encs (Value.string) xs) w (by simp [encs]) (by unfold maxLen; omega) (by omega) (encs_cells hr) (fun u hu => by obtain ⟨x, _, rfl⟩ := List.mem_map.1 hu; rfl)).mono ?_
    rintro e w' ⟨v, rfl, h1, _, h3⟩
    obtain ⟨A', c', rfl⟩ := own_slice h1
    exact ⟨A', c', rfl, h1, h3⟩
end Go.Proofs.YtlcdjgpblpodaaaGreatDoor
namespace Go.Proofs.YtlcdjgpblpodaaaGreatDoor
open Go.RowKit Go.Proofs.YtlcdjgpblpodaaaGreatDoorW.PrintWords

theorem Blk.newAt {w : World} {b : Nat} {C : Array Value} {t : TypeId} (h : b = w.heap.size) : Blk (w.alloc (.cells C t)) b C t := h ▸ Blk.new _ _ _
set_option maxRecDepth 100000 in
theorem copy_any (l : Let) (hl : l.args.length ≤ 4) (A : Option Addr) (c : Nat) (X : Nat → Prop) (w : World) (hA : ArgsAt w X A c l.args) :
    Calls Tryz.prog 36 #[.agg #[.string l.frm, .int .u64 l.serial, .int .i64 l.kind, .slice A l.args.length c]] w fun e w' => ∃ A' c', e = .returned (.agg #[.string l.frm, .int .u64 l.serial, .int .i64 l.kind, .slice A' l.args.length c']) ∧ ArgsAt w' (fun k => w.heap.size ≤ k) A' c' l.args ∧ Below w.heap.size w w' := by
  obtain ⟨W1, hW1⟩ : ∃ W, W = (w.alloc (.cells #[.string l.frm, .int .u64 l.serial, .int .i64 l.kind, .slice A l.args.length c] 65)).alloc (.cells #[.string ⟨#[]⟩, .int .u64 0, .int .i64 0, .slice none 0 0] 65) := ⟨_, rfl⟩
  have h1 : Below w.heap.size w W1 := hW1 ▸ ((Below.refl _ _).alloc (Nat.le_refl _) _).alloc (by simp) _
  have HB1 := Lib.hid h1
  have HP1 := Lib.hid (show Blk W1 w.heap.size #[.string l.frm, .int .u64 l.serial, .int .i64 l.kind, .slice A l.args.length c] 65 from hW1 ▸ (Blk.new _ _ _).alloc _)
  have HR1 := Lib.hid (show Blk W1 (w.heap.size + 1) #[.string ⟨#[]⟩, .int .u64 0, .int .i64 0, .slice none 0 0] 65 from hW1 ▸ Blk.newAt (by simp))
  have HC := Lib.hid (clone91 A c l.args W1 (hA.below h1).1 (hA.below h1).2.2.2 (by omega))
  have HW1 := Lib.hid hW1
  clear hW1 h1 hA
  go_enter Tryz.func36, Tryz.ntmps36
  go_wp2_with fail
  rw [← HW1.out]
  refine HC.out.mono ?_
  rintro e w2 ⟨A', c', rfl, ho, hb⟩
  have hp2 := HP1.out.below hb
  have hr2 := HR1.out.below hb
  have a0 : w2.cell? ⟨w.heap.size, 0, none⟩ = some (.string l.frm) := hp2.cell 0
  have a1 : w2.cell? ⟨w.heap.size, 1, none⟩ = some (.int .u64 l.serial) := hp2.cell 1
  have a2 : w2.cell? ⟨w.heap.size, 2, none⟩ = some (.int .i64 l.kind) := hp2.cell 2
  have a3 : w2.cell? ⟨w.heap.size, 3, none⟩ = some (.slice A l.args.length c) := hp2.cell 3
  have f3 := hp2.free 3
  have b0 : w2.cell? ⟨w.heap.size + 1, 0, none⟩ = some (.string ⟨#[]⟩) := hr2.cell 0
  have b1 : w2.cell? ⟨w.heap.size + 1, 1, none⟩ = some (.int .u64 0) := hr2.cell 1
  have b2 : w2.cell? ⟨w.heap.size + 1, 2, none⟩ = some (.int .i64 0) := hr2.cell 2
  have b3 : w2.cell? ⟨w.heap.size + 1, 3, none⟩ = some (.slice none 0 0) := hr2.cell 3
  have g0 := hr2.free 0
  have g1 := hr2.free 1
  have g2 := hr2.free 2
  have g3 := hr2.free 3
  have l1 := hp2.lt
  have l2 := hr2.lt
  have HP2 := Lib.hid hp2
  have HR2 := Lib.hid hr2
  have HO := Lib.hid ho
  have HB2 := Lib.hid (HB1.out.trans (hb.mono HB1.out.size))
  clear ho hb hp2 hr2
  go_wp2_with fail
  obtain ⟨W3, hW3⟩ : ∃ W, W = ((((w2.setCell ⟨w.heap.size, 3, none⟩ (.slice A' l.args.length c')).setCell ⟨w.heap.size + 1, 0, none⟩ (.string l.frm)).setCell ⟨w.heap.size + 1, 1, none⟩ (.int .u64 l.serial)).setCell ⟨w.heap.size + 1, 2, none⟩ (.int .i64 l.kind)).setCell ⟨w.heap.size + 1, 3, none⟩ (.slice A' l.args.length c') := ⟨_, rfl⟩
  rw [← hW3]
  have q1 := HP1.out.lt
  have q2 := HR1.out.lt
  have hf : Blk W3 (w.heap.size + 1) #[.string l.frm, .int .u64 l.serial, .int .i64 l.kind, .slice A' l.args.length c'] 65 := hW3 ▸ ((((HR2.out.other (a := ⟨w.heap.size, 3, none⟩) (by show w.heap.size + 1 ≠ w.heap.size; omega) _).set 0 (.string l.frm)).set 1 (.int .u64 l.serial)).set 2 (.int .i64 l.kind)).set 3 (.slice A' l.args.length c')
  have hc : Chg (fun k => w.heap.size ≤ k ∧ k < W1.heap.size) w2 W3 := hW3 ▸ (((((Chg.refl _ _).put w.heap.size 3 (.inl ⟨by omega, by omega⟩) _).put (w.heap.size + 1) 0 (.inl ⟨by omega, by omega⟩) _).put (w.heap.size + 1) 1 (.inl ⟨by omega, by omega⟩) _).put (w.heap.size + 1) 2 (.inl ⟨by omega, by omega⟩) _).put (w.heap.size + 1) 3 (.inl ⟨by omega, by omega⟩) _
  have ho3 := own_weaken (hc.owns HO.out (fun k hk h => by have := own_base HO.out k hk; omega)) HB1.out.size
  refine bodyPost_ret (results_single rfl (.cell (w.heap.size + 1) 65 #[.string l.frm, .int .u64 l.serial, .int .i64 l.kind, .slice A' l.args.length c'] (0, 0) _ rfl hf Tryz.underlying65 rfl (by kernel_rfl) .nil)) rfl ?_
  exact ⟨A', c', rfl, ArgsAt.of_own ho3, HB2.out.trans (hc.below (fun k hk => hk.1) HB2.out.size)⟩
theorem left_any (w0 : World) (rb : Nat) (X : Nat → Prop) (bs : List Int) (w : World) (h : RP w0 rb X bs w) : Calls Tryz.prog 131 #[.pointer (some ⟨rb, 0, none⟩)] w fun e w' => e = .returned (.int .i64 bs.length) ∧ w = w' := by
  obtain ⟨A, c, hb, _, _, _⟩ := h.rd
  have c0 := hb.cell 0
  simp at c0
  clear hb h
  go_enter Tryz.func131, Tryz.ntmps131
  go_wp2
  go_ret
  exact ⟨rfl, rfl⟩
/-- A row's cells, as letters. -/
def LetsC (w : World) (X : Nat → Prop) (cs : List Value) (ls : List Let) : Prop :=
  ∀ i l, ls[i]? = some l → ∃ A c, cs[i * 4]? = some (.string l.frm) ∧ cs[i * 4 + 1]? = some (.int .u64 l.serial) ∧ cs[i * 4 + 2]? = some (.int .i64 l.kind) ∧ cs[i * 4 + 3]? = some (.slice A l.args.length c) ∧ ArgsAt w X A c l.args
theorem LetsC.chg {S X : Nat → Prop} {w w' : World} {cs : List Value} {ls : List Let} (h : LetsC w X cs ls) (hc : Chg S w w') (hX : ∀ k, X k → ¬ S k) : LetsC w' X cs ls := fun i l hl => by
  obtain ⟨A, c, h0, h1, h2, h3, h4⟩ := h i l hl
  exact ⟨A, c, h0, h1, h2, h3, h4.chg hc hX⟩
theorem LetsC.mono {X X' : Nat → Prop} {w : World} {cs : List Value} {ls : List Let} (h : LetsC w X cs ls) (hX : ∀ k, X k → X' k) : LetsC w X' cs ls := fun i l hl => by
  obtain ⟨A, c, h0, h1, h2, h3, h4⟩ := h i l hl
  exact ⟨A, c, h0, h1, h2, h3, h4.mono hX⟩
theorem LetsC.nil (w : World) (X : Nat → Prop) : LetsC w X [] [] := fun i l hl => by simp at hl
theorem LetsC.snoc {X : Nat → Prop} {w : World} {cs : List Value} {ls : List Let} {l : Let} {A : Option Addr} {c : Nat} (h : LetsC w X cs ls) (hlen : cs.length = ls.length * 4) (hA : ArgsAt w X A c l.args) : LetsC w X (cs ++ letC l A c) (ls ++ [l]) := fun i l' hl => by
  by_cases hi : i < ls.length
  · rw [List.getElem?_append_left hi] at hl
    obtain ⟨A', c', h0, h1, h2, h3, h4⟩ := h i l' hl
    exact ⟨A', c', by rw [List.getElem?_append_left (by omega)]; exact h0, by rw [List.getElem?_append_left (by omega)]; exact h1, by rw [List.getElem?_append_left (by omega)]; exact h2, by rw [List.getElem?_append_left (by omega)]; exact h3, h4⟩
  · rw [List.getElem?_append_right (by omega)] at hl
    obtain rfl : i = ls.length := by
      rcases Nat.lt_or_ge 0 (i - ls.length) with h' | h'
      · rw [List.getElem?_eq_none (by simp; omega)] at hl; cases hl
      · omega
    simp at hl
    subst hl
    refine ⟨A, c, ?_, ?_, ?_, ?_, hA⟩ <;> (rw [List.getElem?_append_right (by omega), hlen]; simp [letC])
theorem LetsAt.of_own {X : Nat → Prop} {w : World} {base n c : Nat} {A : Option Addr} {cs : List Value} {ls : List Let} (ho : w.ownsRow base 65 4 (.slice A n c) n cs) (h : LetsC w X cs ls) (hn : ls.length = n) (hX : ∀ k, (Value.slice A n c).ownBlock = some k → X k) : LetsAt w X A ls := fun hne => by
  rcases ho.2 with ⟨h1, h2⟩ | ⟨g, cap, cur, h1, h2, h3, h4, h5, h6, h7⟩
  · exact absurd (List.eq_nil_of_length_eq_zero (by omega)) hne
  · injection h1 with h1 _ _
    refine ⟨g, 0, h1, hX g (by rw [h1]; rfl), fun i l hl => ?_⟩
    obtain ⟨A', c', e0, e1, e2, e3, e4⟩ := h i l hl
    have hcell : ∀ j u, cs[j]? = some u → w.cell? ⟨g, j, none⟩ = some u := fun j u hu => by
      have := ho.cells (g := g) (by rw [h1]; rfl) j u hu
      rwa [show (⟨g, 0, none⟩ : Addr).add j = ⟨g, j, none⟩ by rw [Go.WideShapes.add_plain, Nat.zero_add]] at this
    exact ⟨A', c', by rw [Nat.zero_add]; exact hcell _ _ e0, by rw [Nat.zero_add]; exact hcell _ _ e1, by rw [Nat.zero_add]; exact hcell _ _ e2, by rw [Nat.zero_add]; exact hcell _ _ e3, e4⟩

theorem info65 : (Tryz.prog.info? 65).map (fun i => (i.zero.map (·.cells.size), i.size, i.bytes)) = some (some 4, 4, 56) := by kernel_rfl
theorem info_big {t n size by_ : Nat} (h : (Tryz.prog.info? t).map (fun i => (i.zero.map (·.cells.size), i.size, i.bytes)) = some (some n, size, by_)) : ∃ (i : TypeInfo) (z : Value), Tryz.prog.info? t = some i ∧ i.zero = some z ∧ i.size = size ∧ i.bytes = by_ ∧ z.cells.size = n := by
  obtain ⟨i, hi, h2⟩ := Option.map_eq_some_iff.1 h
  simp only [Prod.mk.injEq] at h2
  obtain ⟨z, hz, h3⟩ := Option.map_eq_some_iff.1 h2.1
  exact ⟨i, z, hi, hz, h2.2.1, h2.2.2, h3⟩
theorem letC_one (l : Let) (A : Option Addr) (c : Nat) : ∀ u ∈ letC l A c, u.oneCell' = true := by simp [letC, Value.oneCell']
set_option maxRecDepth 100000 in
set_option maxHeartbeats 1000000 in
theorem unpack_any (A : Option Addr) (c : Nat) (ls : List Let) (hl : ∀ l ∈ ls, l.Ok) (h8 : ls.length ≤ 8) (w : World) (hr : ReadsOf (Value.int .u8) (0 : Int) w A (encLets ls).length (encLets ls)) :
    Calls Tryz.prog 88 #[.slice A (encLets ls).length c] w fun e w' => ∃ A' c' cs, e = .returned (.tuple #[.slice A' ls.length c', .int .i64 0]) ∧ w'.ownsRow w.heap.size 65 4 (.slice A' ls.length c') ls.length cs ∧ LetsC w' (fun k => w.heap.size ≤ k ∧ (Value.slice A' ls.length c').ownBlock ≠ some k) cs ls ∧ Below w.heap.size w w' := by
  have hlen := encLets_length ls hl h8
  have hll := encLetList_length ls hl
  have HN := Lib.hid (RP.new A c (encLets ls) w hr (by omega) (encLets_bytes ls hl h8))
  have HOK := Lib.hid hl
  obtain ⟨i0, z0, hi, hz0, hz1, hz2, hz3⟩ := info_big info65
  obtain ⟨N, hN⟩ : ∃ N, N = (encLets ls).length := ⟨_, rfl⟩
  rw [← hN] at HN ⊢
  clear hr hN hl
  go_enter Tryz.func88, Tryz.ntmps88
  go_wp2_with fail
  refine HN.out.mono ?_
  rintro e w1 ⟨rb, rfl, hrb, hp, hb⟩
  have HB := Lib.hid hb
  rw [encLets] at hp
  have hrlt := hp.rlt
  obtain ⟨X, hX⟩ : ∃ X : Nat → Prop, X = fun k => w.heap.size ≤ k ∧ k < rb := ⟨_, rfl⟩
  rw [← hX, ← List.append_nil (encLetList ls)] at hp
  have HP := Lib.hid hp
  have hs1 := hb.size
  clear hp hb hX HN
  go_wp2_with fail
  refine (RP.num ls.length (by omega) HP.out).mono ?_
  rintro e w2 ⟨rfl, h2, _⟩
  have HP2 := Lib.hid h2
  clear h2
  have t0 : decide (((encLetList ls ++ []).length : Int) < (ls.length : Int)) = false := by simp; omega
  have t1 : decide ((encLetList ls).length < ls.length) = false := by simp; omega
  go_wp2_with fail
  refine (left_any w1 rb X _ w2 HP2.out).mono ?_
  rintro e w3 ⟨rfl, rfl⟩
  go_wp2_with fail
  go_loopw [6, 19] (fun s6 s19 wr => ∃ (j : Nat) (A' : Option Addr) (c' : Nat) (cs : List Value), s6 = .slice A' j c' ∧ s19 = .int .u64 j ∧ j ≤ ls.length ∧ wr.ownsRow w1.heap.size 65 4 (.slice A' j c') j cs ∧ LetsC wr (fun k => w1.heap.size ≤ k ∧ k < wr.heap.size ∧ (Value.slice A' j c').ownBlock ≠ some k) cs (ls.take j) ∧ RP w1 rb X (encLetList (ls.drop j) ++ []) wr) (fun _ s19 _ => ls.length - (intOf s19).toNat)
  case atStart => exact ⟨0, none, 0, [], rfl, rfl, Nat.zero_le _, own_nil _ _ _ _, LetsC.nil _ _, by simpa using HP2.out⟩
  case round =>
    obtain ⟨j, A', c', cs, rfl, rfl, hj, ho, hc, hp⟩ := hrel
    by_cases hjl : j < ls.length
    · obtain ⟨l, hlj⟩ : ∃ l, ls[j]? = some l := ⟨_, List.getElem?_eq_getElem hjl⟩
      have hd : ls.drop j = l :: ls.drop (j + 1) := by
        rw [List.drop_eq_getElem_cons hjl]
        congr 1
        rw [List.getElem?_eq_getElem hjl] at hlj
        injection hlj
      have htk : ls.take (j + 1) = ls.take j ++ [l] := by rw [List.take_add_one, hlj]; rfl
      have hok := HOK.out l (List.mem_of_getElem? hlj)
      rw [hd, encLetList, List.append_assoc] at hp
      have HT := Lib.hid (take_any rb X l hok _ wr hp.rebase)
      have HPP := Lib.hid hp
      have HO := Lib.hid ho
      have HC := Lib.hid hc
      have HTK := Lib.hid htk
      have hargs := hok.args
      have HJ := Lib.hid (show (ls.take j).length = j by simp; omega)
      have k0 : (0 : Int) ≤ (j : Int) := by omega
      have k1 : (j : Int) < (ls.length : Int) := by omega
      clear hp ho hc hd htk hlj hok
      go_wp2_with fail
      refine HT.out.mono ?_
      rintro e w4 ⟨Aa, ca, rfl, hA, hp4⟩
      have hc4 := hp4.chg
      have hlt := own_lt HO.out
      have hbs := own_base HO.out
      have HO4 := Lib.hid (hc4.owns HO.out (fun k hk e => by have := hbs k hk; omega))
      have hC4 : LetsC w4 (fun k => w1.heap.size ≤ k ∧ k < w4.heap.size ∧ (Value.slice A' j c').ownBlock ≠ some k) (cs ++ letC l Aa ca) (ls.take j ++ [l]) :=
        ((HC.out.chg hc4 (fun k hk e => by omega)).mono (fun k hk => ⟨hk.1, Nat.lt_of_lt_of_le hk.2.1 hc4.size, hk.2.2⟩)).snoc (by rw [HJ.out]; exact HO.out.1) (hA.lt.mono (fun k hk => ⟨by have := HPP.out.chg.size; omega, hk.2, fun e => by have := hlt k e; omega⟩))
      have HC4 := Lib.hid hC4
      have HP4 := Lib.hid (HPP.out.on hp4)
      have hs4 := HP4.out.chg.size
      have HNW := Lib.hid (show ∀ j u, (letC l Aa ca)[j]? = some u → ((w4.alloc (.cells #[.string l.frm, .int .u64 l.serial, .int .i64 l.kind, .slice Aa l.args.length ca] 65)).alloc (.cells #[.string l.frm, .int .u64 l.serial, .int .i64 l.kind, .slice Aa l.args.length ca] 65)).cell? ((⟨w4.heap.size + 1, 0, none⟩ : Addr).add j) = some u from World.news_of_block (Blk.newAt (by simp)))
      clear hA hp4 hc4 hlt hbs hC4
      go_wp2_with (at_builtin; refine wpList_append_lies _ rfl _ _ 44 rfl w1.heap.size 65 i0 z0 4 56 Tryz.underlying44 hi hz0 hz1 hz2 hz3 (by decide) _ j cs rfl ((HO4.out.alloc _).alloc _) ⟨w4.heap.size + 1, 0, none⟩ 1 1 (letC l Aa ca) rfl rfl HNW.out (letC_one _ _ _) (by decide) (by unfold maxLen; omega) (by omega) (by simp; omega) (w4.heap.size + 2) (by simp) ?_; intro g cap w6 ho6 hg6 hat6 hlt6)
      have hg6' : ((w4.alloc (.cells #[.string l.frm, .int .u64 l.serial, .int .i64 l.kind, .slice Aa l.args.length ca] 65)).alloc (.cells #[.string l.frm, .int .u64 l.serial, .int .i64 l.kind, .slice Aa l.args.length ca] 65)).grownBy w6 (Value.slice A' j c').ownBlock := hg6
      have hat6' : (Value.slice A' j c').ownBlock = some g ∨ g = w4.heap.size + 2 := hat6
      have hc6 : Chg (fun k => (Value.slice A' j c').ownBlock = some k) w4 w6 := (((Chg.refl _ w4).alloc _).alloc _).grown hg6' (fun k hk => .inl hk)
      have hC6 := (HC4.out.chg hc6 (fun k hk => hk.2.2)).mono (X' := fun k => w1.heap.size ≤ k ∧ k < w6.heap.size ∧ (Value.slice (some ⟨g, 0, none⟩) (j + 1) cap).ownBlock ≠ some k) (fun k hk => ⟨hk.1, Nat.lt_of_lt_of_le hk.2.1 hc6.size, fun e => by
        have e2 : g = k := by injection e
        rcases hat6' with h | h
        · exact hk.2.2 (e2 ▸ h)
        · omega⟩)
      have hP6 := HP4.out.step (hc6.mono (fun k _ hk => own_base HO4.out k hk))
      have HO6 := Lib.hid ho6
      have HC6 := Lib.hid hC6
      have HP6 := Lib.hid hP6
      clear hg6 hg6' hat6 hat6' hc6 hC6 hP6 ho6 hlt6
      go_wp2_with fail
      go_roundw
      case rel => exact ⟨j + 1, some ⟨g, 0, none⟩, cap, cs ++ letC l Aa ca, rfl, by go_num, by omega, HO6.out, by rw [HTK.out]; exact HC6.out, HP6.out⟩
      case measure => simp [intOf]; omega
    · obtain rfl : j = ls.length := by omega
      rw [List.take_of_length_le (Nat.le_refl _)] at hc
      rw [List.drop_of_length_le (Nat.le_refl _)] at hp
      have HPP := Lib.hid hp
      have HO := Lib.hid ho
      have HC := Lib.hid hc
      clear hp ho hc
      go_wp2_with fail
      refine (RP.end_ HPP.out).mono ?_
      rintro e w7 ⟨rfl, rfl⟩
      go_wp2_with fail
      go_ret2
      have hcw := HPP.out.chg
      refine ⟨A', c', cs, rfl, own_weaken HO.out hs1, HC.out.mono (fun k hk => ⟨Nat.le_trans hs1 hk.1, hk.2.2⟩), ?_⟩
      exact HB.out.trans (hcw.below (fun k hk => by omega) hs1)
end Go.Proofs.YtlcdjgpblpodaaaGreatDoor

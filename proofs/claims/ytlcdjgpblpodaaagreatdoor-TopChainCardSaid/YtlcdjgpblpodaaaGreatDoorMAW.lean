/- Sup1, Tree1, Book1, Book2 -/
import Derived.Test.YtlcdjgpblpodaaaGreatDoorMAV
import Derived.StringKeys
namespace Go.Proofs.YtlcdjgpblpodaaaGreatDoor
open Go.RowKit Go.Maps Go.Proofs.YtlcdjgpblpodaaaGreatDoorW.PrintWords

theorem gen_any (sb db : Nat) (w : World) (h : Blk w sb #[.pointer (some ⟨db, 0, none⟩), .int .u64 0, .slice none 0 0, .bool false] 267) : Calls Tryz.prog 63 #[.pointer (some ⟨sb, 0, none⟩)] w fun e w' => e = .returned (.int .u64 0) ∧ w = w' := by
  have c1 : w.cell? ⟨sb, 1, none⟩ = some (.int .u64 0) := h.cell 1
  clear h
  go_enter Tryz.func63, Tryz.ntmps63
  go_wp2
  go_ret
  exact ⟨rfl, rfl⟩
/-- One round of super's: a block of noughts. -/
structure SupMid (w0 w : World) (X : Nat → Prop) (sb db n : Nat) : Prop where
  below : Below w0.heap.size w0 w
  blk : Blk w sb #[.pointer (some ⟨db, 0, none⟩), .int .u64 0, .slice none 0 0, .bool false] 267
  disk : DiskAt true w X db n 0
theorem SupMid.on {w0 w w' : World} {X : Nat → Prop} {sb db n : Nat} (h : SupMid w0 w X sb db n) (hb : Below w.heap.size w w') : SupMid w0 w' X sb db n := ⟨h.below.trans (hb.mono h.below.size), h.blk.below hb, h.disk.below hb⟩
set_option maxRecDepth 100000 in
set_option maxHeartbeats 1000000 in
theorem superopen (X : Nat → Prop) (db n : Nat) (hn : 2 ≤ n) (w : World) (h : DiskAt true w X db n 0) :
    Calls Tryz.prog 62 #[.pointer (some ⟨db, 0, none⟩)] w fun e w' => ∃ sb, e = .returned (.tuple #[.pointer (some ⟨sb, 0, none⟩), .int .i64 0]) ∧ Blk w' sb #[.pointer (some ⟨db, 0, none⟩), .int .u64 0, .slice none 0 0, .bool false] 267 ∧ w.heap.size ≤ sb ∧ Below w.heap.size w w' := by
  replace h := h.lt
  obtain ⟨Y, hY⟩ : ∃ Y : Nat → Prop, Y = fun k => X k ∧ k < w.heap.size := ⟨_, rfl⟩
  rw [← hY] at h
  have HY := Lib.hid (show ∀ k, Y k → k < w.heap.size from fun k hk => by rw [hY] at hk; exact hk.2)
  have HB := Lib.hid (blocks_any Y db n 0 w h)
  clear hY
  obtain ⟨sb, hsb⟩ : ∃ sb, sb = w.heap.size := ⟨_, rfl⟩
  obtain ⟨W1, hW1⟩ : ∃ V, V = w.alloc (.cells #[.pointer (some ⟨db, 0, none⟩), .int .u64 0, .slice none 0 0, .bool false] 267) := ⟨_, rfl⟩
  have hb1 : Below w.heap.size w W1 := hW1 ▸ (Below.refl _ _).alloc (Nat.le_refl _) _
  have HM := Lib.hid (show SupMid w W1 Y sb db n from ⟨hb1, hW1 ▸ Blk.newAt hsb, h.below hb1⟩)
  have HW1 := Lib.hid hW1
  have HSB := Lib.hid hsb
  have g0 : decide ((n : Int) < 2) = false := decide_eq_false (by omega)
  clear h hsb hW1 hb1
  go_enter Tryz.func62, Tryz.ntmps62
  go_wp2_with fail
  refine HB.out.mono ?_
  rintro e w1 ⟨rfl, rfl⟩
  go_wp2_with fail
  rw [← HW1.out, ← HSB.out]
  go_loopw [18] (fun s wr => ∃ k : Nat, s = .int .i64 k ∧ k ≤ 2 ∧ SupMid w wr Y sb db n) (fun s _ => 2 - (intOf s).toNat)
  case atStart => exact ⟨0, rfl, by omega, HM.out⟩
  case round =>
    obtain ⟨k, rfl, hk, hp⟩ := hrel
    have k0 : (0 : Int) ≤ (k : Int) := by omega
    by_cases hkl : k < 2
    · have k1 : (k : Int) < 2 := by omega
      have HP := Lib.hid hp
      have u0 : IntKind.u32.wrap (k : Int) = (k : Int) := by simp [IntKind.wrap, IntKind.bits, IntKind.signed]; omega
      clear hp
      go_wp2_with fail
      refine (read_zero Y db n 0 k (by omega) wr HP.out.disk).mono ?_
      rintro e w2 ⟨rfl, hr, hb2⟩
      have HP2 := Lib.hid (HP.out.on hb2)
      have HZ := Lib.hid (open_zero 83 (k : Int) (by omega) wr.heap.size w2 hr)
      clear hr hb2
      go_wp2_with fail
      refine HZ.out.mono ?_
      rintro e w3 ⟨rfl, hb3⟩
      have HP3 := Lib.hid (HP2.out.on hb3)
      clear hb3
      go_wp2_with fail
      refine (RP.new none 0 [] w3 ⟨rfl, Nat.zero_le _, fun h => absurd h (Nat.lt_irrefl _)⟩ (by simp) IsBytes.nil).mono ?_
      rintro e w4 ⟨rb, rfl, hrb, hp4, hb4⟩
      have HP4 := Lib.hid (HP3.out.on hb4)
      have HN := Lib.hid (num_nil rb _ w4 hp4.rd)
      have hrl := hp4.rlt
      have hs34 := hb4.size
      have hs3 := HP3.out.below.size
      clear hp4 hb4
      go_wp2_with fail
      refine HN.out.mono ?_
      rintro e w5 q
      unfold NumPost at q
      rw [show decNum [] = none from rfl] at q
      obtain ⟨rfl, _, hc5⟩ := q
      have hsb := HSB.out
      have hs4 := HP4.out.below.size
      have hlt4 := HP4.out.blk.lt
      have HP5 := Lib.hid (show SupMid w w5 Y sb db n from ⟨HP4.out.below.trans (hc5.below (fun j hj => by omega) hs4), hc5.blk HP4.out.blk (by have := HP3.out.blk.lt; omega), HP4.out.disk.chg hc5 (fun j hj => by have := HY.out j hj; omega)⟩)
      clear hc5 hsb hs4 hlt4
      go_wp2_with fail
      go_roundw
      case rel => exact ⟨k + 1, by go_num, by omega, HP5.out⟩
      case measure => simp [intOf]; omega
    · have HP := Lib.hid hp
      clear hp
      obtain rfl : k = 2 := by omega
      go_wp2_with fail
      go_ret2
      exact ⟨sb, rfl, HP.out.blk, by have := HSB.out; omega, HP.out.below⟩
end Go.Proofs.YtlcdjgpblpodaaaGreatDoor
namespace Go.Proofs.YtlcdjgpblpodaaaGreatDoor
open Go.RowKit Go.Maps Go.Proofs.YtlcdjgpblpodaaaGreatDoorW.PrintWords

theorem int_law : Keyed Tryz.prog 3 := int_keyed Tryz.underlying3
theorem keyInt (c : Nat) (h : c < 1000000) : keyOf Tryz.prog 3 (.int .i64 c) = some (.int .i64 c) := keyOf_int_mk Tryz.underlying3 (by
  simp [Lit.wf, IntKind.min, IntKind.max, IntKind.signed, IntKind.bits]
  omega)
set_option maxRecDepth 100000 in
set_option maxHeartbeats 1000000 in
theorem pagesopen (X : Nat → Prop) (db n from_ count : Nat) (h1 : 1 ≤ count) (h2 : from_ + count ≤ n) (hn : n ≤ 65536) (w : World) (h : DiskAt true w X db n 0) :
    Calls Tryz.prog 68 #[.pointer (some ⟨db, 0, none⟩), .int .i64 from_, .int .i64 count, .slice none 0 0] w fun e w' => ∃ pb, e = .returned (.tuple #[.pointer (some ⟨pb, 0, none⟩), .int .i64 0]) ∧ w'.cell? ⟨pb, 1, none⟩ = some (.int .i64 from_) ∧ w.heap.size ≤ pb ∧ Below w.heap.size w w' := by
  have hmm := @run_makeMap Tryz.prog
  have HA := Lib.hid (area_any X db n 0 from_ count h1 h2 hn w h)
  replace h := h.lt
  have HD := Lib.hid h
  obtain ⟨W1, hW1⟩ : ∃ V, V = ((w.alloc (.map #[] 0)).alloc (.map #[] 0)).alloc (.cells #[.pointer (some ⟨db, 0, none⟩), .int .i64 from_, .map (some w.heap.size), .map (some (w.heap.size + 1))] 289) := ⟨_, rfl⟩
  have hb1 : Below w.heap.size w W1 := hW1 ▸ (((Below.refl _ _).alloc (Nat.le_refl _) _).alloc (by simp) _).alloc (by simp; omega) _
  have hp1 : Blk W1 (w.heap.size + 1 + 1) #[.pointer (some ⟨db, 0, none⟩), .int .i64 from_, .map (some w.heap.size), .map (some (w.heap.size + 1))] 289 := hW1 ▸ Blk.newAt (by simp)
  have hm1 : MapAt W1 3 (w.heap.size + 1) 0 (fun _ => none) := by
    rw [hW1]
    have := (MapAt.new (w.alloc (.map #[] 0)) 3).below ((Below.refl (w.alloc (.map #[] 0)).heap.size.succ _).alloc (by simp) (.cells #[.pointer (some ⟨db, 0, none⟩), .int .i64 from_, .map (some w.heap.size), .map (some (w.heap.size + 1))] 289) |>.mono (by simp))
    simpa using this
  obtain ⟨pb, hpb⟩ : ∃ pb, pb = w.heap.size + 1 + 1 := ⟨_, rfl⟩
  obtain ⟨mb, hmb⟩ : ∃ mb, mb = w.heap.size + 1 := ⟨_, rfl⟩
  rw [← hpb] at hp1
  rw [← hmb] at hm1
  have hp2 : Blk W1 pb #[.pointer (some ⟨db, 0, none⟩), .int .i64 from_, .map (some w.heap.size), .map (some mb)] 289 := by rw [hmb]; exact hp1
  have HPB := Lib.hid hpb
  have HMB := Lib.hid hmb
  have HW1 := Lib.hid hW1
  have HB1 := Lib.hid hb1
  have HP1 := Lib.hid hp2
  have HM1 := Lib.hid hm1
  obtain ⟨Y, hY⟩ : ∃ Y : Nat → Prop, Y = fun k => X k ∧ k < w.heap.size := ⟨_, rfl⟩
  rw [← hY] at HD
  have HY := Lib.hid (show ∀ k, Y k → k < w.heap.size from fun k hk => by rw [hY] at hk; exact hk.2)
  clear hpb hmb hW1 hb1 hp1 hp2 hm1 h hY
  go_enter Tryz.func68, Tryz.ntmps68
  go_wp2_with fail
  refine HA.out.mono ?_
  rintro e w1 ⟨rfl, rfl⟩
  go_wp2_with fail
  rw [← HW1.out, ← HPB.out, ← HMB.out]
  have hDW := HD.out.below HB1.out
  go_loopw [31] (fun s wr => ∃ k : Nat, s = .int .i64 k ∧ k ≤ count ∧ Below w.heap.size w wr ∧ Blk wr pb #[.pointer (some ⟨db, 0, none⟩), .int .i64 from_, .map (some w.heap.size), .map (some mb)] 289 ∧ (∃ f, MapAt wr 3 mb k f) ∧ DiskAt true wr Y db n 0) (fun s _ => count - (intOf s).toNat)
  case atStart => exact ⟨0, rfl, by omega, HB1.out, HP1.out, ⟨_, HM1.out⟩, hDW⟩
  case round =>
    obtain ⟨k, rfl, hk, hb, hp, ⟨f, hm⟩, hd⟩ := hrel
    have k0 : (0 : Int) ≤ (k : Int) := by omega
    have HB := Lib.hid hb
    have HP := Lib.hid hp
    have HM := Lib.hid hm
    have HDR := Lib.hid hd
    have hpl := hp.lt
    by_cases hkl : k < count
    · have k1 : (k : Int) < (count : Int) := by omega
      obtain ⟨iw, hiw⟩ : ∃ iw, iw = from_ + k := ⟨_, rfl⟩
      have t3 : IntKind.i64.wrap ((from_ : Int) + (k : Int)) = (iw : Int) := by rw [IntKind.wrap_i64]; omega
      have hiw2 : iw < 1000000 := by omega
      have c3 : wr.cell? ⟨pb, 3, none⟩ = some (.map (some mb)) := hp.cell 3
      have HIW := Lib.hid hiw
      clear hb hp hm hd hiw
      go_wp2_with (at_mapUpdate; refine wpList_map_put (by rfl) (.tmp 37) (.tmp 40) (.const (.bool true)) 287 (by rfl) HM.out int_law Tryz.underlying287 (by omega) (by rfl) (by rfl) (by rfl) (keyInt iw hiw2) ?_)
      intro w2 hm2 hc2
      have hpm : pb ≠ mb := by have := HPB.out; have := HMB.out; omega
      have hb2 : Below w.heap.size w w2 := HB.out.trans (hc2.below (fun j hj => by have := HMB.out; omega) HB.out.size)
      have hp2 := hc2.blk HP.out hpm
      have hd2 := HDR.out.chg hc2 (fun j hj e => by have := HY.out j hj; have := HMB.out; omega)
      have HB2 := Lib.hid hb2
      have HP2 := Lib.hid hp2
      have HM2 := Lib.hid hm2
      have HD2 := Lib.hid hd2
      clear hm2 hc2 hpm hb2 hp2 hd2
      go_wp2_with fail
      go_roundw
      case rel => exact ⟨k + 1, by go_num, by omega, HB2.out, HP2.out, ⟨_, HM2.out⟩, HD2.out⟩
      case measure => simp [intOf]; omega
    · obtain rfl : k = count := by omega
      have HN := Lib.hid (down_any Y db n 0 wr hd)
      clear hb hp hm hd
      go_wp2_with fail
      refine HN.out.mono ?_
      rintro e w3 ⟨rfl, rfl⟩
      go_wp2_with fail
      refine wp_loop_rounds 1 ?_
      rw [rounds_succ]
      go_wp2_with fail
      go_ret2
      exact ⟨pb, rfl, HP.out.cell 1, by have := HPB.out; omega, HB.out⟩
theorem from_any (pb from_ : Nat) (w : World) (h : w.cell? ⟨pb, 1, none⟩ = some (.int .i64 from_)) : Calls Tryz.prog 139 #[.pointer (some ⟨pb, 0, none⟩)] w fun e w' => e = .returned (.int .i64 from_) ∧ w = w' := by
  go_enter Tryz.func139, Tryz.ntmps139
  go_wp2
  go_ret
  exact ⟨rfl, rfl⟩
theorem treeopen (pb from_ : Nat) (hf : 1 ≤ from_) (w : World) (h : w.cell? ⟨pb, 1, none⟩ = some (.int .i64 from_)) :
    Calls Tryz.prog 69 #[.pointer (some ⟨pb, 0, none⟩), .int .i64 0] w fun e w' => ∃ tb, e = .returned (.tuple #[.pointer (some ⟨tb, 0, none⟩), .int .i64 0]) ∧ w'.cell? ⟨tb, 1, none⟩ = some (.int .i64 0) ∧ w.heap.size ≤ tb ∧ Below w.heap.size w w' := by
  have hmm := @run_makeMap Tryz.prog
  have HF := Lib.hid (from_any pb from_ w h)
  have g0 : ((from_ : Int) == 0) = false := by rw [beq_eq_false_iff_ne]; omega
  clear h
  go_enter Tryz.func69, Tryz.ntmps69
  go_wp2_with fail
  refine HF.out.mono ?_
  rintro e w1 ⟨rfl, rfl⟩
  go_wp2_with fail
  go_ret2
  refine ⟨w.heap.size + 1, rfl, ?_, by omega, ((Below.refl _ _).alloc (Nat.le_refl _) _).alloc (by simp) _⟩
  exact (Blk.newAt (w := w.alloc (.map #[] 0)) (by simp) : Blk _ (w.heap.size + 1) #[.pointer (some ⟨pb, 0, none⟩), .int .i64 0, .map (some w.heap.size), .slice none 0 0, .slice none 0 0, .slice none 0 0] 291).cell 1
theorem names_none (X : Nat → Prop) (db n from_ count : Nat) (hf : 1 ≤ from_) (h1 : 1 ≤ count) (h2 : from_ + count ≤ n) (hn : n ≤ 65536) (w : World) (h : DiskAt true w X db n 0) :
    Calls Tryz.prog 67 #[.pointer (some ⟨db, 0, none⟩), .int .i64 from_, .int .i64 count, .int .i64 0] w fun e w' => e = .returned (.tuple #[.slice none 0 0, .int .i64 0]) ∧ Below w.heap.size w w' := by
  obtain ⟨W1, hW1⟩ : ∃ V, V = ((w.alloc (.cells #[.pointer (some ⟨db, 0, none⟩)] 28)).alloc (.cells #[.int .i64 from_] 3)).alloc (.cells #[.int .i64 count] 3) := ⟨_, rfl⟩
  have hb1 : Below w.heap.size w W1 := hW1 ▸ (((Below.refl _ _).alloc (Nat.le_refl _) _).alloc (by simp) _).alloc (by simp; omega) _
  have HB1 := Lib.hid hb1
  have hd := h.below hb1
  have HA := Lib.hid (area_any X db n 0 from_ count h1 h2 hn W1 hd)
  have HN := Lib.hid (down_any X db n 0 W1 hd)
  have c0 : W1.cell? ⟨w.heap.size, 0, none⟩ = some (.pointer (some ⟨db, 0, none⟩)) := (show Blk W1 w.heap.size #[.pointer (some ⟨db, 0, none⟩)] 28 from hW1 ▸ ((Blk.new _ _ _).alloc _).alloc _).cell 0
  have c1 : W1.cell? ⟨w.heap.size + 1, 0, none⟩ = some (.int .i64 from_) := (show Blk W1 (w.heap.size + 1) #[.int .i64 from_] 3 from hW1 ▸ (Blk.newAt (by simp)).alloc _).cell 0
  have c2 : W1.cell? ⟨w.heap.size + 1 + 1, 0, none⟩ = some (.int .i64 count) := (show Blk W1 (w.heap.size + 1 + 1) #[.int .i64 count] 3 from hW1 ▸ Blk.newAt (by simp)).cell 0
  have g0 : ((from_ : Int) == 0) = false := by rw [beq_eq_false_iff_ne]; omega
  have HW1 := Lib.hid hW1
  clear h hd hb1 hW1
  go_enter Tryz.func67, Tryz.ntmps67
  go_upto_region 1 with fail
  rw [← HW1.out]
  go_wp2_with fail
  refine HA.out.mono ?_
  rintro e w1 ⟨rfl, rfl⟩
  go_wp2_with fail
  refine HN.out.mono ?_
  rintro e w1 ⟨rfl, rfl⟩
  go_wp2_with fail
  go_ret2
  exact ⟨rfl, HB1.out⟩
theorem treekeys_none (tb : Nat) (a b : ByteArray) (w : World) (h : w.cell? ⟨tb, 1, none⟩ = some (.int .i64 0)) : Calls Tryz.prog 71 #[.pointer (some ⟨tb, 0, none⟩), .string a, .string b] w fun e w' => e = .returned (.slice none 0 0) ∧ Below w.heap.size w w' := by
  have hl := World.block_lt_of_cell? w _ h
  simp only at hl
  have hb : Below w.heap.size w ((w.alloc (.cells #[.string a] 9)).alloc (.cells #[.string b] 9)) := ((Below.refl _ _).alloc (Nat.le_refl _) _).alloc (by simp) _
  have HB := Lib.hid hb
  have h1 : ((w.alloc (.cells #[.string a] 9)).alloc (.cells #[.string b] 9)).cell? ⟨tb, 1, none⟩ = some (.int .i64 0) := (hb.cell (p := ⟨tb, 1, none⟩) hl).trans h
  clear hb h
  go_enter Tryz.func71, Tryz.ntmps71
  go_wp2
  go_ret
  exact ⟨rfl, HB.out⟩
end Go.Proofs.YtlcdjgpblpodaaaGreatDoor
namespace Go.Proofs.YtlcdjgpblpodaaaGreatDoor
open Go.RowKit Go.Maps Go.Proofs.YtlcdjgpblpodaaaGreatDoorW.PrintWords

structure Chn where
  key : ByteArray
  val : List Int
  gone : Bool
structure Chn.Ok (c : Chn) : Prop where
  key : 1 ≤ c.key.size ∧ c.key.size ≤ 64
  val : IsBytes c.val
  short : c.val.length ≤ 8000
  long : 1 ≤ c.val.length
def encChn (c : Chn) : List Int := encText c.key ++ (if c.gone then encNum 0 else encNum 1 ++ encBytes c.val)
def encChs : List Chn → List Int
  | [] => []
  | c :: r => encChn c ++ encChs r
theorem encChs_take : ∀ (cs : List Chn) (k : Nat) (c : Chn), cs[k]? = some c → encChs (cs.take (k + 1)) = encChs (cs.take k) ++ encChn c
  | [], k, c, h => by simp at h
  | y :: r, 0, c, h => by simp at h; subst h; simp [encChs]
  | y :: r, k + 1, c, h => by simp at h; simp [encChs, encChs_take r k c h]
theorem encChn_length (c : Chn) (h : c.Ok) : 1 ≤ (encChn c).length ∧ (encChn c).length ≤ c.key.size + c.val.length + 27 := by
  have h1 := encText_length c.key (by have := h.key.2; omega)
  have h2 := encNum_length 0 (by omega)
  have h3 := encNum_length 1 (by omega)
  have h4 := encBytes_length c.val (show _ < _ by have := h.short; omega)
  have h5 := encNum_length c.key.size (by have := h.key.2; omega)
  unfold encChn encText at *
  cases c.gone <;> simp at * <;> omega
theorem encChs_length : ∀ (cs : List Chn), (∀ c ∈ cs, c.Ok) → (encChs cs).length ≤ 8091 * cs.length ∧ cs.length ≤ (encChs cs).length
  | [], _ => by simp [encChs]
  | c :: r, h => by
    have h1 := encChn_length c (h c (List.mem_cons_self ..))
    have h2 := encChs_length r (fun x hx => h x (List.mem_cons_of_mem _ hx))
    have h3 := h c (List.mem_cons_self ..)
    have h4 := h3.key.2
    have h5 := h3.short
    simp only [encChs, List.length_append, List.length_cons]
    omega
/-- A change that lies at b, from cell o on. -/
def ChnAt (w : World) (X : Nat → Prop) (b o : Nat) (c : Chn) : Prop :=
  ∃ V vc, w.cell? ⟨b, o, none⟩ = some (.string c.key) ∧ w.cell? ⟨b, o + 1, none⟩ = some (.slice V c.val.length vc) ∧ w.cell? ⟨b, o + 2, none⟩ = some (.bool c.gone) ∧ ReadsOf (Value.int .u8) (0 : Int) w V c.val.length c.val ∧ (∀ a, V = some a → X a.block ∧ a.spot = none)
def ChsAt (w : World) (X : Nat → Prop) (A : Option Addr) (cs : List Chn) : Prop :=
  cs ≠ [] → ∃ b off, A = some ⟨b, off, none⟩ ∧ X b ∧ ∀ i c, cs[i]? = some c → ChnAt w X b (off + i * 3) c
theorem ChnAt.chg {S X : Nat → Prop} {w w' : World} {b o : Nat} {c : Chn} (h : ChnAt w X b o c) (hc : Chg S w w') (hX : ∀ k, X k → ¬ S k) (hb : X b) : ChnAt w' X b o c := by
  obtain ⟨V, vc, h1, h2, h3, h4, h5⟩ := h
  exact ⟨V, vc, hc.cell (hX b hb) h1, hc.cell (hX b hb) h2, hc.cell (hX b hb) h3, hc.reads h4 (fun a ha => hX _ (h5 a ha).1), h5⟩
theorem ChsAt.chg {S X : Nat → Prop} {w w' : World} {A : Option Addr} {cs : List Chn} (h : ChsAt w X A cs) (hc : Chg S w w') (hX : ∀ k, X k → ¬ S k) : ChsAt w' X A cs := fun hn => by
  obtain ⟨b, off, h1, h2, h3⟩ := h hn
  exact ⟨b, off, h1, h2, fun i c hi => (h3 i c hi).chg hc hX h2⟩
theorem ChsAt.mono {X X' : Nat → Prop} {w : World} {A : Option Addr} {cs : List Chn} (h : ChsAt w X A cs) (hX : ∀ k, X k → X' k) : ChsAt w X' A cs := fun hn => by
  obtain ⟨b, off, h1, h2, h3⟩ := h hn
  refine ⟨b, off, h1, hX _ h2, fun i c hi => ?_⟩
  obtain ⟨V, vc, q1, q2, q3, q4, q5⟩ := h3 i c hi
  exact ⟨V, vc, q1, q2, q3, q4, fun a ha => ⟨hX _ (q5 a ha).1, (q5 a ha).2⟩⟩
theorem parts_any {fresh : Bool} (X : Nat → Prop) (db n m : Nat) (h24 : 24 ≤ n) (hn : n ≤ 65536) (w : World) (h : DiskAt fresh w X db n m) :
    Calls Tryz.prog 66 #[.pointer (some ⟨db, 0, none⟩)] w fun e w' => e = .returned (.tuple #[.int .i64 2, .int .i64 ((n / 4 : Nat) : Int), .int .i64 ((2 + n / 4 : Nat) : Int), .int .i64 ((n - 2 - n / 4 : Nat) : Int)]) ∧ w = w' := by
  have HB := Lib.hid (blocks_any X db n m w h)
  have t0 : (n : Int) / 4 = ((n / 4 : Nat) : Int) := by omega
  obtain ⟨q, hq⟩ : ∃ q, q = n / 4 := ⟨_, rfl⟩
  rw [← hq] at t0 ⊢
  have t1 : IntKind.i64.wrap (2 + (q : Int)) = ((2 + q : Nat) : Int) := by rw [IntKind.wrap_i64]; omega
  have t2 : IntKind.i64.wrap ((n : Int) - 2) = ((n - 2 : Nat) : Int) := by rw [IntKind.wrap_i64]; omega
  have t3 : IntKind.i64.wrap (((n - 2 : Nat) : Int) - (q : Int)) = ((n - 2 - q : Nat) : Int) := by rw [IntKind.wrap_i64]; omega
  clear h hq
  go_enter Tryz.func66, Tryz.ntmps66
  go_wp2_with fail
  refine HB.out.mono ?_
  rintro e w1 ⟨rfl, rfl⟩
  go_wp2_with fail
  refine HB.out.mono ?_
  rintro e w1 ⟨rfl, rfl⟩
  go_wp2_with fail
  refine bodyPost_ret (results_list (rs := [.tmp 2, .tmp 3, .tmp 4, .tmp 5]) rfl (by simp) (.tmp (.tmp (.tmp (.tmp .nil))))) rfl ?_
  exact ⟨by simp, rfl⟩
set_option maxRecDepth 100000 in
set_option maxHeartbeats 1000000 in
theorem bookenc (X : Nat → Prop) (A : Option Addr) (c0 : Nat) (cs : List Chn) (hc : ∀ c ∈ cs, c.Ok) (h8 : cs.length ≤ 8) (w : World) (hA : ChsAt w X A cs) (hX : ∀ k, X k → k < w.heap.size) :
    Calls Tryz.prog 119 #[.slice A cs.length c0] w fun e w' => ∃ A' c', e = .returned (.slice A' (encChs cs).length c') ∧ w'.ownsRow w.heap.size 5 1 (.slice A' (encChs cs).length c') (encChs cs).length (encs (Value.int .u8) (encChs cs)) ∧ Below w.heap.size w w' := by
  obtain ⟨W0, hW0⟩ : ∃ V, V = w.alloc (.cells #[.slice none 0 0] 319) := ⟨_, rfl⟩
  have hb0 : Below w.heap.size w W0 := hW0 ▸ (Below.refl _ _).alloc (Nat.le_refl _) _
  have HB0 := Lib.hid hb0
  have HP := Lib.hid (show WP W0 w.heap.size (fun k => k = w.heap.size) [] W0 from hW0 ▸ WP.new w)
  have HC := Lib.hid (newwriter w)
  rw [← hW0] at HC
  have HS0 : w.heap.size ≤ W0.heap.size := hb0.size
  obtain ⟨rb, hrb⟩ : ∃ b, b = w.heap.size := ⟨_, rfl⟩
  rw [← hrb] at HP HC
  have HWB := Lib.hid hrb
  have HA := Lib.hid (hA.chg (Chg.of_below hb0 (fun _ => False)) (fun _ _ h => h))
  have HX := Lib.hid (show ∀ k, X k → ¬ k = rb from fun k hk => by have := hX k hk; omega)
  have HXL := Lib.hid hX
  have HOK := Lib.hid hc
  clear hA hX hc hb0 hW0 hrb
  go_enter Tryz.func119, Tryz.ntmps119
  go_wp2_with fail
  refine HC.out.mono ?_
  rintro e w' ⟨rfl, rfl⟩
  go_wp2_with fail
  go_loopw [9] (fun s wr => ∃ k : Nat, s = .int .i64 k ∧ k ≤ cs.length ∧ WP w' rb (fun k => k = rb) (encChs (cs.take k)) wr) (fun s _ => cs.length - (intOf s).toNat)
  case atStart => exact ⟨0, rfl, Nat.zero_le _, HP.out⟩
  case round =>
    obtain ⟨k, rfl, hk, hp⟩ := hrel
    have h5 : (encChs (cs.take k)).length ≤ 8091 * 8 := by
      have h1 := (encChs_length (cs.take k) (fun l hl => HOK.out l (List.mem_of_mem_take hl))).1
      have h2 : (cs.take k).length ≤ cs.length := List.length_take_le' k cs
      omega
    by_cases hkl : k < cs.length
    · obtain ⟨c, hck⟩ : ∃ c, cs[k]? = some c := ⟨_, List.getElem?_eq_getElem hkl⟩
      have hok := HOK.out c (List.mem_of_getElem? hck)
      obtain ⟨b, off, rfl, hXb, hcell⟩ := HA.out (by intro h; simp [h] at hkl)
      obtain ⟨V, vc, q0, q1, q2, q3, q4⟩ := hcell k c hck
      have hbn : ¬ b = rb := HX.out b hXb
      have g0 := hp.chg.cell (a := ⟨b, off + k * 3, none⟩) hbn q0
      have g1 := hp.chg.cell (a := ⟨b, off + k * 3 + 1, none⟩) hbn q1
      have g2 := hp.chg.cell (a := ⟨b, off + k * 3 + 2, none⟩) hbn q2
      have g3 := hp.chg.reads q3 (fun a ha => HX.out _ (q4 a ha).1)
      have hbl := World.block_lt_of_cell? wr _ g0
      simp only at hbl
      have k0 : (0 : Int) ≤ (k : Int) := by omega
      have k1 : (k : Int) < (cs.length : Int) := by omega
      obtain ⟨bx, hbx⟩ : ∃ bx, bx = wr.heap.size := ⟨_, rfl⟩
      obtain ⟨W2, hW2⟩ : ∃ W, W = wr.alloc (.cells #[.string c.key, .slice V c.val.length vc, .bool c.gone] 136) := ⟨_, rfl⟩
      obtain ⟨X1, x1, x2, x3, x4⟩ := hp.rebase
      have hbw : Below wr.heap.size wr W2 := hW2 ▸ (Below.refl _ _).alloc (Nat.le_refl _) _
      have HP2 := Lib.hid (x3 W2 hbw)
      have HX4 := Lib.hid (fun w3 bs' => x4 W2 w3 bs' hbw)
      have HBX := Lib.hid (show Blk W2 bx #[.string c.key, .slice V c.val.length vc, .bool c.gone] 136 from hW2 ▸ Blk.newAt hbx)
      have HNB := Lib.hid (show ¬ X1 bx from fun h => by have := x1 _ h; omega)
      have HRV := Lib.hid (show ReadsOf (Value.int .u8) (0 : Int) W2 V c.val.length c.val from g3.below (hW2 ▸ (Below.refl _ _).alloc (Nat.le_refl _) _))
      have HVX := Lib.hid (show ∀ a, V = some a → ¬ X1 a.block from fun a ha h => by
        have h1 := HX.out _ (q4 a ha).1
        have h2 := HXL.out _ (q4 a ha).1
        rcases x2 _ h with h3 | h3
        · exact h1 h3
        · omega)
      have HW2 := Lib.hid hW2
      have HBE := Lib.hid hbx
      have HOC := Lib.hid hok
      have HS := Lib.hid (show encChs (cs.take (k + 1)) = encChs (cs.take k) ++ encText c.key ++ (if c.gone then encNum 0 else encNum 1 ++ encBytes c.val) by rw [encChs_take cs k c hck, encChn, List.append_assoc])
      have d0 : W2.cell? ⟨bx, 0, none⟩ = some (.string c.key) := HBX.out.cell 0
      have e1 := encText_length c.key (by have := hok.key.2; omega)
      have e2 := hok.key.2
      have e3 := hok.short
      clear hp q0 q1 q2 q3 q4 g3 hXb hcell hck hW2 hbx hok
      go_upto_region 5 with fail
      rw [← HW2.out, ← HBE.out]
      go_wp2_with fail
      refine (WP.text c.key (by omega) (by omega) HP2.out).mono ?_
      rintro e w3 ⟨rfl, h3⟩
      have hb3 := h3.chg.blk HBX.out HNB.out
      have d2 : w3.cell? ⟨bx, 2, none⟩ = some (.bool c.gone) := hb3.cell 2
      have H3 := Lib.hid h3
      have HB3 := Lib.hid hb3
      clear h3 hb3
      cases hg : c.gone with
      | true =>
        rw [hg] at d2 HS
        clear hg
        go_wp2_with fail
        refine (WP.num 0 (by omega) (by simp; omega) H3.out).mono ?_
        rintro e w4 ⟨rfl, h4⟩
        have H4 := Lib.hid (HX4.out w4 _ h4)
        clear h4
        go_wp2_with fail
        go_roundw
        case rel => exact ⟨k + 1, by go_num, by omega, by rw [HS.out]; exact H4.out⟩
        case measure => simp [intOf]; omega
      | false =>
        rw [hg] at d2 HS
        clear hg
        go_wp2_with fail
        refine (WP.num 1 (by omega) (by simp; omega) H3.out).mono ?_
        rintro e w4 ⟨rfl, h4⟩
        have hb4 := h4.chg.blk HBX.out HNB.out
        have d1 : w4.cell? ⟨bx, 1, none⟩ = some (.slice V c.val.length vc) := hb4.cell 1
        have hcv := conv_str (c := vc) (h4.chg.reads HRV.out HVX.out)
        have l1 := (encNum_length 1 (by omega)).2
        have H4 := Lib.hid h4
        clear h4 hb4
        go_wp2_with fail
        refine (WP.text (strOfNums c.val) (by rw [strOfNums_size]; omega) (by simp; omega) H4.out).mono ?_
        rintro e w5 ⟨rfl, h5'⟩
        rw [show encText (strOfNums c.val) = encBytes c.val from by rw [encText_eq, bytesOf_strOf c.val HOC.out.val]] at h5'
        have H5 := Lib.hid (HX4.out w5 _ h5')
        clear h5'
        go_wp2_with fail
        go_roundw
        case rel => exact ⟨k + 1, by go_num, by omega, by rw [HS.out]; simpa using H5.out⟩
        case measure => simp [intOf]; omega
    · obtain rfl : k = cs.length := by omega
      rw [List.take_of_length_le (Nat.le_refl _)] at hp
      have HPR := Lib.hid hp
      rw [List.take_of_length_le (Nat.le_refl _)] at h5
      clear hp
      go_wp2_with fail
      refine (WP.bytes (by omega) HPR.out).mono ?_
      rintro e w9 ⟨A', c', rfl, h6, h7⟩
      have hs9 := HPR.out.chg.size
      have H6 := Lib.hid (own_weaken h6 (show w.heap.size ≤ wr.heap.size by omega))
      have H7 := Lib.hid (show Below w.heap.size w w9 from (HB0.out.trans (HPR.out.chg.below (fun k hk => by have := HWB.out; omega) HS0)).trans (h7.mono (by omega)))
      clear h6 h7
      go_wp2_with fail
      go_ret
      exact ⟨A', c', rfl, H6.out, H7.out⟩
end Go.Proofs.YtlcdjgpblpodaaaGreatDoor
namespace Go.Proofs.YtlcdjgpblpodaaaGreatDoor
open Go.RowKit Go.Maps Go.Proofs.YtlcdjgpblpodaaaGreatDoorW.PrintWords

def litS (s : ByteArray) : Lit := .string s.data.toList
theorem keyStr (s : ByteArray) (h : s.size ≤ 1000000) : keyOf Tryz.prog 9 (.string s) = some (litS s) := Go.WideMaps.keyOf_string_mk Tryz.underlying9 (by unfold maxLen; omega)
theorem litS_inj {s t : ByteArray} (h : litS s = litS t) : s = t := by
  unfold litS at h
  injection h with h
  exact ByteArray.ext (Array.toList_inj.1 h)
set_option maxRecDepth 100000 in
set_option maxHeartbeats 1000000 in
theorem wrong_any (X : Nat → Prop) (A : Option Addr) (c0 : Nat) (cs : List Chn) (hc : ∀ c ∈ cs, c.Ok) (h8 : cs.length ≤ 8) (hn : (cs.map (·.key)).Nodup) (w : World) (hA : ChsAt w X A cs) :
    Calls Tryz.prog 118 #[.slice A cs.length c0] w fun e w' => e = .returned (.int .i64 0) ∧ Below w.heap.size w w' := by
  have hmm := @run_makeMap Tryz.prog
  obtain ⟨mb, hmb⟩ : ∃ mb, mb = w.heap.size := ⟨_, rfl⟩
  obtain ⟨W1, hW1⟩ : ∃ V, V = w.alloc (.map #[] 0) := ⟨_, rfl⟩
  have hb1 : Below w.heap.size w W1 := hW1 ▸ (Below.refl _ _).alloc (Nat.le_refl _) _
  have hm1 : MapAt W1 9 mb 0 (fun _ => none) := by rw [hW1, hmb]; exact MapAt.new w 9
  have HB1 := Lib.hid hb1
  have HM1 := Lib.hid hm1
  have HMB := Lib.hid hmb
  have HW1 := Lib.hid hW1
  have HA := Lib.hid hA
  have HOK := Lib.hid hc
  have HND := Lib.hid hn
  clear hA hc hn hmb hW1 hb1 hm1
  go_enter Tryz.func118, Tryz.ntmps118
  go_wp2_with fail
  rw [← HW1.out, ← HMB.out]
  go_loopw [4, 10] (fun lg s wr => ∃ k : Nat, lg = .bool false ∧ s = .int .i64 k ∧ k ≤ cs.length ∧ Below w.heap.size w wr ∧ ∃ f, MapAt wr 9 mb k f ∧ ∀ i c, k ≤ i → cs[i]? = some c → f (litS c.key) = none) (fun _ s _ => cs.length - (intOf s).toNat)
  case atStart => exact ⟨0, rfl, rfl, Nat.zero_le _, HB1.out, _, HM1.out, fun _ _ _ _ => rfl⟩
  case round =>
    obtain ⟨k, rfl, rfl, hk, hb, f, hm, hf⟩ := hrel
    by_cases hkl : k < cs.length
    · obtain ⟨c, hck⟩ : ∃ c, cs[k]? = some c := ⟨_, List.getElem?_eq_getElem hkl⟩
      have hok := HOK.out c (List.mem_of_getElem? hck)
      obtain ⟨b, off, rfl, hXb, hcell⟩ := HA.out (by intro h; simp [h] at hkl)
      obtain ⟨V, vc, q0, q1, q2, q3, q4⟩ := hcell k c hck
      have hcg := Chg.of_below hb (fun _ => False)
      have g0 := hcg.cell (a := ⟨b, off + k * 3, none⟩) (fun h => h) q0
      have g1 := hcg.cell (a := ⟨b, off + k * 3 + 1, none⟩) (fun h => h) q1
      have g2 := hcg.cell (a := ⟨b, off + k * 3 + 2, none⟩) (fun h => h) q2
      have hbl := World.block_lt_of_cell? wr _ g0
      simp only at hbl
      have k0 : (0 : Int) ≤ (k : Int) := by omega
      have k1 : (k : Int) < (cs.length : Int) := by omega
      obtain ⟨bx, hbx⟩ : ∃ bx, bx = wr.heap.size := ⟨_, rfl⟩
      obtain ⟨W2, hW2⟩ : ∃ W, W = wr.alloc (.cells #[.string c.key, .slice V c.val.length vc, .bool c.gone] 136) := ⟨_, rfl⟩
      have hbw : Below wr.heap.size wr W2 := hW2 ▸ (Below.refl _ _).alloc (Nat.le_refl _) _
      have hblk : Blk W2 bx #[.string c.key, .slice V c.val.length vc, .bool c.gone] 136 := hW2 ▸ Blk.newAt hbx
      have hm2 := hm.below hbw
      have hlk : (Instr.lookup 161 (.map (some mb)) (.string c.key) false).run Tryz.prog W2 = .ok (.bool false) W2 := by
        rw [hm2.look string_law Tryz.underlying161 (fun w => Tryz.zeroValue4 w) (keyStr c.key (by have := hok.key.2; omega)), hf k c (Nat.le_refl _) hck]
        rfl
      have t0 := str_ne (mt size_zero.1 (show ¬ c.key.size = 0 by have := hok.key.1; omega))
      have t1 : decide ((64 : Int) < (c.key.size : Int)) = false := decide_eq_false (by have := hok.key.2; omega)
      have t1' : decide (64 < c.key.size) = false := decide_eq_false (by have := hok.key.2; omega)
      have t2 : decide ((20000 : Int) < (c.val.length : Int)) = false := decide_eq_false (by have := hok.short; omega)
      have t2' : decide (20000 < c.val.length) = false := decide_eq_false (by have := hok.short; omega)
      have d0 : W2.cell? ⟨bx, 0, none⟩ = some (.string c.key) := hblk.cell 0
      have HW2 := Lib.hid hW2
      have HBX := Lib.hid hbx
      have HBLK := Lib.hid hblk
      have HM2 := Lib.hid hm2
      have HB2 := Lib.hid (hb.trans (hbw.mono hb.size))
      have HF := Lib.hid hf
      have HCK := Lib.hid hck
      have hks := hok.key.2
      have hmbx : ¬ bx = mb := by have := hm.lt; omega
      clear hb hm hf hck hok hXb hcell q0 q1 q2 q3 q4 hcg hW2 hbx hblk hm2 hbw
      go_upto_region 6 with fail
      rw [← HW2.out, ← HBX.out]
      go_wp2_with (at_mapUpdate; refine wpList_map_put (by rfl) (.tmp 29) (.tmp 31) (.const (.bool true)) 161 (by rfl) HM2.out string_law Tryz.underlying161 (by omega) (by rfl) (by rfl) (by rfl) (keyStr c.key (by omega)) ?_)
      intro w3 hm3 hc3
      have d1 : w3.cell? ⟨bx, 1, none⟩ = some (.slice V c.val.length vc) := (hc3.blk HBLK.out hmbx).cell 1
      have HM3 := Lib.hid hm3
      have HB3 := Lib.hid (HB2.out.trans (hc3.below (fun j hj => by have := HMB.out; omega) HB2.out.size))
      clear hm3 hc3
      go_wp2_with fail
      go_roundw
      case rel =>
        refine ⟨k + 1, rfl, by go_num, by omega, HB3.out, _, HM3.out, fun i d hi hd => ?_⟩
        rw [putF_other _ _ (fun e => ?_)]
        · exact HF.out i d (by omega) hd
        · have e' := litS_inj e
          have hnd := List.pairwise_iff_getElem.1 HND.out k i (by simpa using hkl) (by simpa using (List.getElem?_eq_some_iff.1 hd).1) (by omega)
          obtain ⟨hk1, hk2⟩ := List.getElem?_eq_some_iff.1 HCK.out
          obtain ⟨hi1, hi2⟩ := List.getElem?_eq_some_iff.1 hd
          simp only [List.getElem_map, hk2, hi2] at hnd
          exact hnd e'.symm
      case measure => simp [intOf]; omega
    · obtain rfl : k = cs.length := by omega
      have HB := Lib.hid hb
      clear hb hm hf
      go_wp2_with fail
      go_ret
      exact ⟨rfl, HB.out⟩
end Go.Proofs.YtlcdjgpblpodaaaGreatDoor

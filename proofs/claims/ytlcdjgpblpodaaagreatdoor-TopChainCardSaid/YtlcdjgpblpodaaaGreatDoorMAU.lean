/- Disk1, Disk2 -/
import Derived.Test.YtlcdjgpblpodaaaGreatDoorMAT
namespace Go.Proofs.YtlcdjgpblpodaaaGreatDoor
open Go.RowKit Go.Maps Go.Proofs.YtlcdjgpblpodaaaGreatDoorW.PrintWords

theorem info88 : (Tryz.prog.info? 88).map (fun i => (i.zero, i.size, i.bytes)) = some (some (.slice none 0 0), 1, 24) := by kernel_rfl
theorem info385 : (Tryz.prog.info? 385).map (fun i => (i.zero.map (·.cells.size), i.size, i.bytes)) = some (some 2, 2, 32) := by kernel_rfl
/-- A disk of n blocks that m writes have reached; fresh: none was written. -/
structure DiskP (fresh : Bool) (w : World) (X : Nat → Prop) (db n m bb : Nat) (L : Option Addr) (lc : Nat) (vs ls : List Value) : Prop where
  pin : X db
  blk : Blk w db #[.slice (some ⟨bb, 0, none⟩) n n, .slice L m lc, .int .i64 (-1), .bool false] 106
  row : w.ownsRow 0 88 1 (.slice (some ⟨bb, 0, none⟩) n n) n vs
  log : w.ownsRow 0 385 2 (.slice L m lc) m ls
  bin : X bb
  lin : ∀ k, (Value.slice L m lc).ownBlock = some k → X k
  zero : fresh = true → vs = List.replicate n (.slice none 0 0)
def DiskAt (fresh : Bool) (w : World) (X : Nat → Prop) (db n m : Nat) : Prop := ∃ bb L lc vs ls, DiskP fresh w X db n m bb L lc vs ls
section
variable {fresh : Bool} {w w' : World} {S X X' : Nat → Prop} {db n m bb lc : Nat} {L : Option Addr} {vs ls : List Value}
theorem DiskP.chg (h : DiskP fresh w X db n m bb L lc vs ls) (hc : Chg S w w') (hX : ∀ k, X k → ¬ S k) : DiskP fresh w' X db n m bb L lc vs ls :=
  ⟨h.pin, hc.blk h.blk (hX _ h.pin), hc.owns h.row (fun k hk => by have e : bb = k := (by injection hk); exact e ▸ hX _ h.bin), hc.owns h.log (fun k hk => hX _ (h.lin k hk)), h.bin, h.lin, h.zero⟩
theorem DiskP.mono (h : DiskP fresh w X db n m bb L lc vs ls) (hX : ∀ k, X k → X' k) : DiskP fresh w X' db n m bb L lc vs ls := ⟨hX _ h.pin, h.blk, h.row, h.log, hX _ h.bin, fun k hk => hX _ (h.lin k hk), h.zero⟩
theorem DiskP.lt (h : DiskP fresh w X db n m bb L lc vs ls) : DiskP fresh w (fun k => X k ∧ k < w.heap.size) db n m bb L lc vs ls := ⟨⟨h.pin, h.blk.lt⟩, h.blk, h.row, h.log, ⟨h.bin, own_lt h.row bb rfl⟩, fun k hk => ⟨h.lin k hk, own_lt h.log k hk⟩, h.zero⟩
theorem DiskAt.chg (h : DiskAt fresh w X db n m) (hc : Chg S w w') (hX : ∀ k, X k → ¬ S k) : DiskAt fresh w' X db n m := by
  obtain ⟨bb, L, lc, vs, ls, h⟩ := h
  exact ⟨bb, L, lc, vs, ls, h.chg hc hX⟩
theorem DiskAt.below (h : DiskAt fresh w X db n m) (hb : Below w.heap.size w w') : DiskAt fresh w' X db n m := h.chg (Chg.of_below hb (fun _ => False)) (fun _ _ h => h)
theorem DiskAt.mono (h : DiskAt fresh w X db n m) (hX : ∀ k, X k → X' k) : DiskAt fresh w X' db n m := by
  obtain ⟨bb, L, lc, vs, ls, h⟩ := h
  exact ⟨bb, L, lc, vs, ls, h.mono hX⟩
theorem DiskAt.lt (h : DiskAt fresh w X db n m) : DiskAt fresh w (fun k => X k ∧ k < w.heap.size) db n m := by
  obtain ⟨bb, L, lc, vs, ls, h⟩ := h
  exact ⟨bb, L, lc, vs, ls, h.lt⟩
theorem DiskAt.used (h : DiskAt fresh w X db n m) : DiskAt false w X db n m := by
  obtain ⟨bb, L, lc, vs, ls, h⟩ := h
  exact ⟨bb, L, lc, vs, ls, h.pin, h.blk, h.row, h.log, h.bin, h.lin, nofun⟩
end
theorem blocks_any {fresh : Bool} (X : Nat → Prop) (db n m : Nat) (w : World) (h : DiskAt fresh w X db n m) : Calls Tryz.prog 61 #[.pointer (some ⟨db, 0, none⟩)] w fun e w' => e = .returned (.int .i64 n) ∧ w = w' := by
  obtain ⟨bb, L, lc, vs, ls, h⟩ := h
  have c0 : w.cell? ⟨db, 0, none⟩ = some (.slice (some ⟨bb, 0, none⟩) n n) := h.blk.cell 0
  clear h
  go_enter Tryz.func61, Tryz.ntmps61
  go_wp2
  go_ret
  exact ⟨rfl, rfl⟩
theorem down_any {fresh : Bool} (X : Nat → Prop) (db n m : Nat) (w : World) (h : DiskAt fresh w X db n m) : Calls Tryz.prog 60 #[.pointer (some ⟨db, 0, none⟩)] w fun e w' => e = .returned (.bool false) ∧ w = w' := by
  obtain ⟨bb, L, lc, vs, ls, h⟩ := h
  have c3 : w.cell? ⟨db, 3, none⟩ = some (.bool false) := h.blk.cell 3
  clear h
  go_enter Tryz.func60, Tryz.ntmps60
  go_wp2
  go_ret
  exact ⟨rfl, rfl⟩
set_option maxRecDepth 100000 in
theorem newdisk (n : Nat) (hn : n ≤ 65536) (w : World) : Calls Tryz.prog 8 #[.int .i64 n] w fun e w' => ∃ db, e = .returned (.pointer (some ⟨db, 0, none⟩)) ∧ DiskAt true w' (fun k => w.heap.size ≤ k) db n 0 ∧ Below w.heap.size w w' := by
  obtain ⟨i88, hi88, hz88, hs88, hb88⟩ := info_parts info88
  have g0 : max (n : Int) 0 = (n : Int) := by omega
  have g1 : min (n : Int) 65536 = (n : Int) := by omega
  go_enter Tryz.func8, Tryz.ntmps8
  go_wp2_with (at_make; refine wpList_make_full _ (by rfl) (.tmp 5) (.tmp 5) 103 (by rfl) w.heap.size 88 i88 (.slice none 0 0) 1 Tryz.underlying103 hi88 hz88 hs88 .i64 .i64 n n n (by rfl) (by rfl) rfl rfl (by rw [hb88]; omega) (by unfold maxLen; omega) (Nat.le_refl _) ?_)
  intro w1 ho1 hg1
  have hb1 : Below w.heap.size w w1 := (Below.refl _ w).grown hg1 (Nat.le_refl _) (fun _ h => by cases h)
  have he : (madeCells #[Value.slice none 0 0] n).toList = List.replicate n (.slice none 0 0) := by
    apply List.ext_getElem
    · simp [madeCells]
    · intro i h1 h2
      simp [madeCells, Nat.mod_one]
  have ho2 : w1.ownsRow w.heap.size 88 1 (.slice (some ⟨w.heap.size, 0, none⟩) n n) n (madeCells #[Value.slice none 0 0] n).toList := ho1
  rw [he] at ho2
  have HO := Lib.hid ho2
  have HB := Lib.hid hb1
  have hgl := own_lt ho1 _ rfl
  clear ho1 ho2 hg1 hb1 he
  go_wp2_with fail
  go_ret
  have hbl : ∀ o, Below w1.heap.size w1 (w1.alloc o) := fun o => (Below.refl _ _).alloc (Nat.le_refl _) o
  have hs := HB.out.size
  exact ⟨w1.heap.size, rfl, ⟨w.heap.size, none, 0, _, [], ⟨hs, Blk.new _ _ _, own_weaken (own_below HO.out (hbl _)) (Nat.zero_le _), own_nil _ _ _ _, Nat.le_refl _, (fun _ h => by cases h), fun _ => rfl⟩⟩, HB.out.trans ((hbl _).mono hs)⟩
theorem made_zero (n : Nat) : (madeCells #[Value.int .u8 0] n).toList = encs (Value.int .u8) (List.replicate n 0) := by
  apply List.ext_getElem
  · simp [encs, madeCells]
  · intro i h1 h2
    simp [encs, madeCells, Nat.mod_one]
set_option maxRecDepth 100000 in
/-- A block that was never written is noughts. -/
theorem read_zero (X : Nat → Prop) (db n m i : Nat) (hi : i < n) (w : World) (h : DiskAt true w X db n m) :
    Calls Tryz.prog 129 #[.pointer (some ⟨db, 0, none⟩), .int .i64 i] w fun e w' => e = .returned (.tuple #[.slice (some ⟨w.heap.size, 0, none⟩) 256 256, .int .i64 0]) ∧ ReadsOf (Value.int .u8) (0 : Int) w' (some ⟨w.heap.size, 0, none⟩) 256 (List.replicate 256 0) ∧ Below w.heap.size w w' := by
  obtain ⟨i5, hi5, hz5, hs5, hb5⟩ := info_parts info5
  obtain ⟨bb, L, lc, vs, ls, h⟩ := h
  have c0 : w.cell? ⟨db, 0, none⟩ = some (.slice (some ⟨bb, 0, none⟩) n n) := h.blk.cell 0
  have c3 : w.cell? ⟨db, 3, none⟩ = some (.bool false) := h.blk.cell 3
  have x0 : w.cell? ⟨bb, i, none⟩ = some (.slice none 0 0) := by
    obtain ⟨g', hg', _, _, hcell⟩ := own_cell h.row (by omega)
    obtain rfl : bb = g' := by injection hg' with h; injection h
    exact hcell i _ (by rw [h.zero rfl]; simp [hi])
  have hbl := own_lt h.row bb rfl
  have heq : (binOp .eql 88 (.slice none 0 0) (.slice none 0 0)).run Tryz.prog w = .ok (.bool true) w := Lib.run_eql_slice_nil w 88 5 none 0 0 0 0 Tryz.underlying88
  have g0 : decide ((i : Int) < 0) = false := decide_eq_false (by omega)
  have g1 : decide ((n : Int) ≤ (i : Int)) = false := decide_eq_false (by omega)
  have g1' : decide (n ≤ i) = false := decide_eq_false (by omega)
  have g2 : (0 : Int) ≤ (i : Int) := by omega
  have g3 : (i : Int) < (n : Int) := by omega
  clear h
  go_enter Tryz.func129, Tryz.ntmps129
  go_wp2_with (at_make; refine wpList_make_full _ (by rfl) (.const (.int .i64 256)) (.const (.int .i64 256)) 88 (by rfl) w.heap.size 5 i5 (.int .u8 0) 1 Tryz.underlying88 hi5 hz5 hs5 .i64 .i64 256 256 256 (by rfl) (by rfl) rfl rfl (by omega) (by unfold maxLen; omega) (Nat.le_refl _) ?_)
  intro w1 ho1 hg1
  have hR1 := Row5.made 0 ho1 hg1
  have ho2 : w1.ownsRow w.heap.size 5 1 (.slice (some ⟨w.heap.size, 0, none⟩) 256 256) 256 (madeCells #[Value.int .u8 0] 256).toList := ho1
  rw [made_zero] at ho2
  obtain ⟨A', c', he, hle, hrd⟩ := own_reads_of_le (d := (0 : Int)) ho2
  injection he with he1 _ he3
  subst he1 he3
  have HR := Lib.hid hrd
  have HB := Lib.hid hR1.chg
  clear ho1 ho2 hg1 hR1 hrd hle
  go_wp2_with fail
  go_ret2
  exact ⟨rfl, HR.out, HB.out⟩
end Go.Proofs.YtlcdjgpblpodaaaGreatDoor
namespace Go.Proofs.YtlcdjgpblpodaaaGreatDoor
open Go.RowKit Go.Maps Go.Proofs.YtlcdjgpblpodaaaGreatDoorW.PrintWords

/-- Amid Write: the block is laid, the log not yet written. -/
structure DiskMid (w : World) (w0 : World) (X : Nat → Prop) (db n m bb i : Nat) (L : Option Addr) (lc : Nat) (vs ls : List Value) (A2 : Option Addr) (c2 : Nat) : Prop where
  pin : X db
  blk : Blk w db #[.slice (some ⟨bb, 0, none⟩) n n, .slice L m lc, .int .i64 (-1), .bool false] 106
  row : w.ownsRow 0 88 1 (.slice (some ⟨bb, 0, none⟩) n n) n vs
  log : w.ownsRow 0 385 2 (.slice L m lc) m ls
  bin : X bb
  lin : ∀ k, (Value.slice L m lc).ownBlock = some k → X k
  at_ : vs[i]? = some (.slice A2 256 c2)
  size : w0.heap.size ≤ w.heap.size
  chg : Chg X w0 w
/-- .. when the log's block has turned. -/
structure DiskMid' (w : World) (w0 : World) (X : Nat → Prop) (db n m bb i : Nat) (L : Option Addr) (lc : Nat) (vs : List Value) (A2 : Option Addr) (c2 : Nat) : Prop where
  pin : X db
  blk : Blk w db #[.slice (some ⟨bb, 0, none⟩) n n, .slice L m lc, .int .i64 (-1), .bool false] 106
  row : w.ownsRow 0 88 1 (.slice (some ⟨bb, 0, none⟩) n n) n vs
  bin : X bb
  lin : ∀ k, (Value.slice L m lc).ownBlock = some k → X k
  at_ : vs[i]? = some (.slice A2 256 c2)
  chg : Chg X w0 w
section
variable {w w' w0 : World} {X : Nat → Prop} {db n m bb i lc c2 : Nat} {L A2 : Option Addr} {vs ls : List Value}
theorem DiskMid'.cells' (h : DiskMid' w w0 X db n m bb i L lc vs A2 c2) : w.cell? ⟨db, 0, none⟩ = some (.slice (some ⟨bb, 0, none⟩) n n) ∧ w.cell? ⟨db, 1, none⟩ = some (.slice L m lc) ∧ w.cell? ⟨bb, i, none⟩ = some (.slice A2 256 c2) := by
  have hi := h.at_
  have hn : 0 < n := by
    rcases Nat.eq_zero_or_pos n with h0 | h0
    · have := h.row.1; rw [h0] at this; have : vs = [] := List.eq_nil_of_length_eq_zero (by omega); rw [this] at hi; cases hi
    · exact h0
  obtain ⟨g', hg', _, _, hcell⟩ := own_cell h.row hn
  obtain rfl : bb = g' := by injection hg' with h; injection h
  exact ⟨h.blk.cell 0, h.blk.cell 1, hcell i _ hi⟩
theorem DiskMid.mid (h : DiskMid w w0 X db n m bb i L lc vs ls A2 c2) : DiskMid' w w0 X db n m bb i L lc vs A2 c2 := ⟨h.pin, h.blk, h.row, h.bin, h.lin, h.at_, h.chg⟩
theorem DiskMid.cells (h : DiskMid w w0 X db n m bb i L lc vs ls A2 c2) : w.cell? ⟨db, 0, none⟩ = some (.slice (some ⟨bb, 0, none⟩) n n) ∧ w.cell? ⟨db, 1, none⟩ = some (.slice L m lc) ∧ w.cell? ⟨bb, i, none⟩ = some (.slice A2 256 c2) := h.mid.cells'
theorem DiskMid.below (h : DiskMid w w0 X db n m bb i L lc vs ls A2 c2) (hb : Below w.heap.size w w') : DiskMid w' w0 X db n m bb i L lc vs ls A2 c2 :=
  ⟨h.pin, h.blk.below hb, own_below h.row hb, own_below h.log hb, h.bin, h.lin, h.at_, Nat.le_trans h.size hb.size, h.chg.then_below hb⟩
theorem DiskMid.chg' (h : DiskMid w w0 X db n m bb i L lc vs ls A2 c2) (hc : Chg (fun k => (Value.slice L m lc).ownBlock = some k) w w') : DiskMid' w' w0 X db n m bb i L lc vs A2 c2 :=
  ⟨h.pin, hc.blk h.blk (own_block_ne h.log h.blk (by decide)), hc.owns h.row (fun k hk e => by
    rcases own_type_ne h.row h.log (by decide) with h1 | h1
    · rw [h1] at hk; cases hk
    · exact h1 (hk.trans e.symm)), h.bin, h.lin, h.at_, h.chg.trans hc (fun k _ e => h.lin k e)⟩
theorem DiskMid'.fin (h : DiskMid' w w0 X db n m bb i L lc vs A2 c2) {g cap : Nat} {ls' : List Value} (ho : w.ownsRow 0 385 2 (.slice (some ⟨g, 0, none⟩) (m + 1) cap) (m + 1) ls') (hg : (Value.slice L m lc).ownBlock = some g ∨ w0.heap.size ≤ g) :
    DiskAt false (w.setCell ⟨db, 1, none⟩ (.slice (some ⟨g, 0, none⟩) (m + 1) cap)) (fun k => X k ∨ w0.heap.size ≤ k) db n (m + 1) ∧ Chg X w0 (w.setCell ⟨db, 1, none⟩ (.slice (some ⟨g, 0, none⟩) (m + 1) cap)) := by
  refine ⟨⟨bb, some ⟨g, 0, none⟩, cap, vs, ls', ⟨.inl h.pin, h.blk.set 1 _, own_setCell h.row (fun e => own_block_ne h.row h.blk (by decide) e.symm) _, own_setCell ho (fun e => own_block_ne ho h.blk (by decide) e.symm) _, .inl h.bin, fun k hk => ?_, nofun⟩⟩, h.chg.put db 1 (.inl h.pin) _⟩
  have e : g = k := by injection hk
  subst e
  exact hg.imp (h.lin g) id
end
set_option maxRecDepth 100000 in
set_option maxHeartbeats 1000000 in
theorem write_any {fresh : Bool} (X : Nat → Prop) (db n m i : Nat) (hi : i < n) (hm : m ≤ 100000) (A : Option Addr) (c : Nat) (xs : List Int) (hl : xs.length = 256) (w : World) (h : DiskAt fresh w X db n m) (hr : ReadsOf (Value.int .u8) (0 : Int) w A xs.length xs) (hs : ∀ a, A = some a → a.spot = none) :
    Calls Tryz.prog 183 #[.pointer (some ⟨db, 0, none⟩), .int .i64 i, .slice A 256 c] w fun e w' => e = .returned (.int .i64 0) ∧ DiskAt false w' (fun k => X k ∨ w.heap.size ≤ k) db n (m + 1) ∧ Chg X w w' := by
  obtain ⟨i385, z385, hi385, hz385, hs385, hb385, hzs385⟩ := info_big info385
  obtain ⟨bb, L, lc, vs, ls, h⟩ := h
  have HD := Lib.hid h
  have c0 : w.cell? ⟨db, 0, none⟩ = some (.slice (some ⟨bb, 0, none⟩) n n) := h.blk.cell 0
  have c2' : w.cell? ⟨db, 2, none⟩ = some (.int .i64 (-1)) := h.blk.cell 2
  have c3 : w.cell? ⟨db, 3, none⟩ = some (.bool false) := h.blk.cell 3
  have HCL := Lib.hid (clone76 A c xs w.drew (hr.below ((Below.refl _ _).drew)) hs (by omega))
  rw [hl] at HCL
  have g0 : decide ((i : Int) < 0) = false := decide_eq_false (by omega)
  have g1 : decide (n ≤ i) = false := decide_eq_false (by omega)
  have g2 : (0 : Int) ≤ (i : Int) := by omega
  have g3 : (i : Int) < (n : Int) := by omega
  have e0 : w.drew.cell? ⟨db, 0, none⟩ = some (.slice (some ⟨bb, 0, none⟩) n n) := c0
  have hlen : vs.length = n := by have := h.row.1; omega
  clear h hr hs
  go_enter Tryz.func183, Tryz.ntmps183
  go_upto_region 10 with fail
  go_region_held3 (fun w' => w'.cell? ⟨db, 0, none⟩ = some (.slice (some ⟨bb, 0, none⟩) n n)) (first | exact e0 | exact e1 | exact e2)
    (first | (go_at_call 76
              refine HCL.out.mono ?_
              rintro e w1 ⟨A2, c2, rfl, ho, hb⟩
              have HO := Lib.hid ho
              have HB := Lib.hid (show Below w.heap.size w w1 from ((Below.refl _ _).drew).trans hb)
              have hd1 := HD.out.chg (Chg.of_below HB.out (fun _ => False)) (fun _ _ h => h)
              have e1 : w1.cell? ⟨db, 0, none⟩ = some (.slice (some ⟨bb, 0, none⟩) n n) := hd1.blk.cell 0
              obtain ⟨v0, hv0⟩ : ∃ v, vs[i]? = some v := ⟨_, List.getElem?_eq_getElem (by omega)⟩
              have x0 : w1.cell? ⟨bb, i, none⟩ = some v0 := by
                obtain ⟨g', hg', _, _, hcell⟩ := own_cell hd1.row (by omega)
                obtain rfl : bb = g' := by injection hg' with h; injection h
                exact hcell i _ hv0
              have x1 : w1.frozen? ⟨bb, i, none⟩ = false := (own_at_of (enc := id) (d := Value.bool false) (xs := vs) (by simpa [encs] using hd1.row) (i : Int) g2 g3).2
              have x2 := own_lt hd1.row bb rfl
              have e2 : (w1.setCell ⟨bb, i, none⟩ (.slice A2 256 c2)).cell? ⟨db, 0, none⟩ = some (.slice (some ⟨bb, 0, none⟩) n n) := (hd1.blk.other (fun e => own_block_ne hd1.row hd1.blk (by decide) (by rw [show db = bb from e]; rfl)) _).cell 0
              have HD1 := Lib.hid hd1
              clear ho hb hd1 hv0))
  obtain ⟨U1, hU1⟩ : ∃ V, V = w1.setCell ⟨bb, i, none⟩ (.slice A2 256 c2) := ⟨_, rfl⟩
  have hne : db ≠ bb := fun e => own_block_ne HD1.out.row HD1.out.blk (by decide) (by rw [e]; rfl)
  have HF1 := Lib.hid (show DiskMid U1 w X db n m bb i L lc (vs.set i (.slice A2 256 c2)) ls A2 c2 from by
    rw [hU1]
    refine ⟨HD1.out.pin, HD1.out.blk.other hne _, (HD1.out.row.stored i (.slice A2 256 c2)).1, own_setCell HD1.out.log (fun e => ?_) _, HD1.out.bin, HD1.out.lin, by simp [hlen, hi], by simpa [World.setCell] using HB.out.size, (Chg.of_below HB.out X).put bb i (.inl HD1.out.bin) _⟩
    rcases own_type_ne HD1.out.row HD1.out.log (by decide) with h1 | h1
    · cases h1
    · exact h1 e)
  rw [← hU1]
  clear hU1 hne x0 x1 x2 e0 e1 e2
  rename_i hHeld
  clear hHeld
  have d0 := HF1.out.cells.1
  go_upto_region 11 with fail
  obtain ⟨U2, hU2⟩ : ∃ V, V = U1.drew := ⟨_, rfl⟩
  have HF2 := Lib.hid (show DiskMid U2 w X db n m bb i L lc (vs.set i (.slice A2 256 c2)) ls A2 c2 from hU2 ▸ HF1.out.below ((Below.refl _ _).drew))
  have HU2 := Lib.hid hU2
  have y0 : U1.drew.cell? ⟨db, 0, none⟩ = some (.slice (some ⟨bb, 0, none⟩) n n) := by rw [← hU2]; exact HF2.out.cells.1
  have y1 : U1.drew.cell? ⟨db, 1, none⟩ = some (.slice L m lc) := by rw [← hU2]; exact HF2.out.cells.2.1
  have y2 : U1.drew.cell? ⟨bb, i, none⟩ = some (.slice A2 256 c2) := by rw [← hU2]; exact HF2.out.cells.2.2
  clear hU2
  obtain ⟨S, hSD⟩ : ∃ S : World → Prop, S = fun w' => w'.cell? ⟨db, 0, none⟩ = some (.slice (some ⟨bb, 0, none⟩) n n) ∧ w'.cell? ⟨db, 1, none⟩ = some (.slice L m lc) ∧ w'.cell? ⟨bb, i, none⟩ = some (.slice A2 256 c2) := ⟨_, rfl⟩
  have HSD := Lib.hid hSD
  clear hSD
  refine Held.region S 18 (by kernel_rfl) (by rw [HSD.out]; exact ⟨y0, y1, y2⟩) (fun hHeld => ?_)
  rw [← HU2.out] at hHeld ⊢
  clear y0 y1 y2
  refine Held.take (i := 0) (oi := { dst := _, op := _, type := _, pos := _, after := _, guard := _ }) (v := ?vb0) rfl (by kernel_rfl) (by kernel_rfl) (by kernel_rfl) (by kernel_rfl) (fun _ _ _ h => h) (Or.inl ⟨by rfl, ?hyb0⟩) (by assumption) ?restb0
  case hyb0 => (intro w hSw; rw [HSD.out] at hSw; (try dsimp only at hSw); go_simp; (try with_reducible rfl))
  try simp only [Act.put, List.setIfInBounds_toArray, List.set_cons_zero, List.set_cons_succ]
  refine Held.take (i := 1) (oi := { dst := _, op := _, type := _, pos := _, after := _, guard := _ }) (v := ?vb1) rfl (by kernel_rfl) (by kernel_rfl) (by kernel_rfl) (by kernel_rfl) (fun _ _ _ h => h) (Or.inl ⟨by rfl, ?hyb1⟩) (by assumption) ?restb1
  case hyb1 => (intro w hSw; rw [HSD.out] at hSw; (try dsimp only at hSw); go_simp; (try with_reducible rfl))
  try simp only [Act.put, List.setIfInBounds_toArray, List.set_cons_zero, List.set_cons_succ]
  refine Held.take (i := 2) (oi := { dst := _, op := _, type := _, pos := _, after := _, guard := _ }) (v := ?vb2) rfl (by kernel_rfl) (by kernel_rfl) (by kernel_rfl) (by kernel_rfl) (fun _ _ _ h => h) (Or.inl ⟨by rfl, ?hyb2⟩) (by assumption) ?restb2
  case hyb2 => (intro w hSw; rw [HSD.out] at hSw; (try dsimp only at hSw); go_simp; (try with_reducible rfl))
  try simp only [Act.put, List.setIfInBounds_toArray, List.set_cons_zero, List.set_cons_succ]
  refine Held.take (i := 3) (oi := { dst := _, op := _, type := _, pos := _, after := _, guard := _ }) (v := ?vb3) rfl (by kernel_rfl) (by kernel_rfl) (by kernel_rfl) (by kernel_rfl) (fun _ _ _ h => h) (Or.inl ⟨by rfl, ?hyb3⟩) (by assumption) ?restb3
  case hyb3 => (intro w hSw; rw [HSD.out] at hSw; (try dsimp only at hSw); go_simp; (try with_reducible rfl))
  try simp only [Act.put, List.setIfInBounds_toArray, List.set_cons_zero, List.set_cons_succ]
  refine Held.take (i := 4) (oi := { dst := _, op := _, type := _, pos := _, after := _, guard := _ }) (v := ?vb4) rfl (by kernel_rfl) (by kernel_rfl) (by kernel_rfl) (by kernel_rfl) (fun _ _ _ h => h) (Or.inl ⟨by rfl, ?hyb4⟩) (by assumption) ?restb4
  case hyb4 => (intro w hSw; rw [HSD.out] at hSw; (try dsimp only at hSw); go_simp; (try with_reducible rfl))
  try simp only [Act.put, List.setIfInBounds_toArray, List.set_cons_zero, List.set_cons_succ]
  refine Held.take (i := 5) (oi := { dst := _, op := _, type := _, pos := _, after := _, guard := _ }) (v := ?vb5) rfl (by kernel_rfl) (by kernel_rfl) (by kernel_rfl) (by kernel_rfl) (fun _ _ _ h => h) (Or.inl ⟨by rfl, ?hyb5⟩) (by assumption) ?restb5
  case hyb5 => (intro w hSw; rw [HSD.out] at hSw; (try dsimp only at hSw); go_simp; (try with_reducible rfl))
  try simp only [Act.put, List.setIfInBounds_toArray, List.set_cons_zero, List.set_cons_succ]
  refine Held.take (i := 6) (oi := { dst := _, op := _, type := _, pos := _, after := _, guard := _ }) (v := ?vb6) rfl (by kernel_rfl) (by kernel_rfl) (by kernel_rfl) (by kernel_rfl) (fun _ _ _ h => h) (Or.inl ⟨by rfl, ?hyb6⟩) (by assumption) ?restb6
  case hyb6 => (intro w hSw; rw [HSD.out] at hSw; (try dsimp only at hSw); go_simp; (try with_reducible rfl))
  try simp only [Act.put, List.setIfInBounds_toArray, List.set_cons_zero, List.set_cons_succ]
  refine Held.take (i := 7) (oi := { dst := _, op := _, type := _, pos := _, after := _, guard := _ }) (v := ?vb7) rfl (by kernel_rfl) (by kernel_rfl) (by kernel_rfl) (by kernel_rfl) (fun _ _ _ h => h) (Or.inl ⟨by rfl, ?hyb7⟩) (by assumption) ?restb7
  case hyb7 => (intro w hSw; rw [HSD.out] at hSw; (try dsimp only at hSw); go_simp; (try with_reducible rfl))
  try simp only [Act.put, List.setIfInBounds_toArray, List.set_cons_zero, List.set_cons_succ]
  refine Held.take (i := 8) (oi := { dst := _, op := _, type := _, pos := _, after := _, guard := _ }) (v := ?vb8) rfl (by kernel_rfl) (by kernel_rfl) (by kernel_rfl) (by kernel_rfl) (fun _ _ _ h => h) (Or.inl ⟨by rfl, ?hyb8⟩) (by assumption) ?restb8
  case hyb8 => (intro w hSw; rw [HSD.out] at hSw; (try dsimp only at hSw); go_simp; (try with_reducible rfl))
  try simp only [Act.put, List.setIfInBounds_toArray, List.set_cons_zero, List.set_cons_succ]
  refine Held.take (i := 9) (oi := { dst := _, op := _, type := _, pos := _, after := _, guard := _ }) (v := ?vb9) rfl (by kernel_rfl) (by kernel_rfl) (by kernel_rfl) (by kernel_rfl) (fun _ _ _ h => h) (Or.inl ⟨by rfl, ?hyb9⟩) (by assumption) ?restb9
  case hyb9 => (intro w hSw; rw [HSD.out] at hSw; (try dsimp only at hSw); go_simp; (try with_reducible rfl))
  try simp only [Act.put, List.setIfInBounds_toArray, List.set_cons_zero, List.set_cons_succ]
  refine Held.take (i := 10) (oi := { dst := _, op := _, type := _, pos := _, after := _, guard := _ }) (v := ?vb10) rfl (by kernel_rfl) (by kernel_rfl) (by kernel_rfl) (by kernel_rfl) (fun _ _ _ h => h) (Or.inl ⟨by rfl, ?hyb10⟩) (by assumption) ?restb10
  case hyb10 => (intro w hSw; rw [HSD.out] at hSw; (try dsimp only at hSw); go_simp; (try with_reducible rfl))
  try simp only [Act.put, List.setIfInBounds_toArray, List.set_cons_zero, List.set_cons_succ]
  refine Held.take (i := 11) (oi := { dst := _, op := _, type := _, pos := _, after := _, guard := _ }) (v := ?vb11) rfl (by kernel_rfl) (by kernel_rfl) (by kernel_rfl) (by kernel_rfl) (fun _ _ _ h => h) (Or.inl ⟨by rfl, ?hyb11⟩) (by assumption) ?restb11
  case hyb11 => (intro w hSw; rw [HSD.out] at hSw; (try dsimp only at hSw); go_simp; (try with_reducible rfl))
  try simp only [Act.put, List.setIfInBounds_toArray, List.set_cons_zero, List.set_cons_succ]
  refine Held.take (i := 12) (oi := { dst := _, op := _, type := _, pos := _, after := _, guard := _ }) (v := ?vb12) rfl (by kernel_rfl) (by kernel_rfl) (by kernel_rfl) (by kernel_rfl) (fun _ _ _ h => h) (Or.inl ⟨by rfl, ?hyb12⟩) (by assumption) ?restb12
  case hyb12 => (intro w hSw; rw [HSD.out] at hSw; (try dsimp only at hSw); go_simp; (try with_reducible rfl))
  try simp only [Act.put, List.setIfInBounds_toArray, List.set_cons_zero, List.set_cons_succ]
  refine Held.take (i := 13) (oi := { dst := _, op := _, type := _, pos := _, after := _, guard := _ }) (v := ?vb13) rfl (by kernel_rfl) (by kernel_rfl) (by kernel_rfl) (by kernel_rfl) (fun _ _ _ h => h) (Or.inl ⟨by rfl, ?hyb13⟩) (by assumption) ?restb13
  case hyb13 => (intro w hSw; rw [HSD.out] at hSw; (try dsimp only at hSw); go_simp; (try with_reducible rfl))
  try simp only [Act.put, List.setIfInBounds_toArray, List.set_cons_zero, List.set_cons_succ]
  refine Held.one (i := 14) (o := { dst := _, op := _, type := _, pos := _, after := _, guard := _ }) (by kernel_rfl) rfl (fun K hK => ?_)
  go_simp
  obtain ⟨U3, hU3⟩ : ∃ V, V = U2.alloc (.cells #[.int .i64 i, .slice A2 256 c2] 385) := ⟨_, rfl⟩
  have HF3 := Lib.hid (show DiskMid U3 _ _ _ _ _ _ _ _ _ _ _ _ _ from hU3 ▸ HF2.out.below ((Below.refl _ _).alloc (Nat.le_refl _) _))
  have HNB := Lib.hid (show Blk U3 U2.heap.size #[.int .i64 i, .slice A2 256 c2] 385 from hU3 ▸ Blk.new _ _ _)
  obtain ⟨bx, hbx⟩ : ∃ b, b = U2.heap.size := ⟨_, rfl⟩
  rw [← hbx] at HNB
  simp only [← hU3, ← hbx] at hK ⊢
  clear hU3 hbx
  refine hK.out _ _ (fun _ => ?hSb14) (fun hHeldb1 => ?_)
  case hSb14 => (rw [HSD.out]; exact HF3.out.cells)
  clear hK K
  replace hHeldb1 := hHeldb1 (by decide)
  try simp only [Act.put, List.setIfInBounds_toArray, List.set_cons_zero, List.set_cons_succ]
  refine Held.one (i := 15) (o := { dst := _, op := _, type := _, pos := _, after := _, guard := _ }) (by kernel_rfl) rfl (fun K hK => ?_)
  have HNW := Lib.hid (show ∀ j u, ([.int .i64 i, .slice A2 256 c2] : List Value)[j]? = some u → U3.cell? ((⟨bx, 0, none⟩ : Addr).add j) = some u from World.news_of_block HNB.out)
  refine step_append_lies _ (by rfl) (.tmp 67) (.tmp 77) 104 (by rfl) 0 385 i385 z385 2 32 Tryz.underlying104 hi385 hz385 hs385 hb385 hzs385 (by decide) _ m ls (by rfl) HF3.out.log ⟨bx, 0, none⟩ 1 1 [.int .i64 i, .slice A2 256 c2] (by rfl) rfl HNW.out (by simp [Value.oneCell']) (by decide) (by unfold maxLen; omega) (by omega) (Nat.zero_le _) U3.heap.size rfl ?_
  intro g cap u6 ho6 hg6 hat6 hlt6
  have HF6 := Lib.hid (HF3.out.chg' ((Chg.refl _ U3).grown hg6 (fun k hk => .inl hk)))
  have HO6 := Lib.hid ho6
  have HGA := Lib.hid (show (Value.slice L m lc).ownBlock = some g ∨ w.heap.size ≤ g from hat6.imp id (fun h => by have := HF3.out.size; omega))
  have f6 : u6.frozen? ⟨db, 1, none⟩ = false := HF6.out.blk.free 1
  have HC6 := Lib.hid HF6.out.cells'
  have t1 : u6.cell? ⟨db, 1, none⟩ = some (.slice L m lc) := HC6.out.2.1
  clear ho6 hg6 hat6 hlt6
  refine hK.out _ _ (fun _ => ?hSb15) (fun hHeldb2 => ?_)
  case hSb15 => (rw [HSD.out]; exact HC6.out)
  clear hK K
  replace hHeldb2 := hHeldb2 (by decide)
  try simp only [Act.put, List.setIfInBounds_toArray, List.set_cons_zero, List.set_cons_succ]
  refine Held.one (i := 16) (o := { dst := _, op := _, type := _, pos := _, after := _, guard := _ }) (by kernel_rfl) rfl (fun K hK => ?_)
  go_simp
  refine hK.out _ _ (fun _ => hHeldb2) (fun _ => ?_)
  clear hK K
  try simp only [Act.put, List.setIfInBounds_toArray, List.set_cons_zero, List.set_cons_succ]
  refine Held.one (i := 17) (o := { dst := _, op := _, type := _, pos := _, after := _, guard := _ }) (by kernel_rfl) rfl (fun K hK => ?_)
  go_simp
  refine hK.out _ _ (fun _ => hHeldb2) (fun _ => ?_)
  clear hK K
  try simp only [Act.put, List.setIfInBounds_toArray, List.set_cons_zero, List.set_cons_succ]
  refine Held.one (i := 18) (o := { dst := _, op := _, type := _, pos := _, after := _, guard := _ }) (by kernel_rfl) rfl (fun K hK => ?_)
  go_simp
  refine hK.out _ _ (fun h => absurd rfl h) (fun _ => ?_)
  clear hK K
  refine Held.done (by kernel_rfl) ?_ _
  refine NoPanic.normal ?_
  have HEND := Lib.hid (HF6.out.fin HO6.out HGA.out)
  go_wp2_with fail
  go_ret
  exact ⟨rfl, HEND.out.1, HEND.out.2⟩
end Go.Proofs.YtlcdjgpblpodaaaGreatDoor

/- Shell7, Shell8, Shell9, ShellA, ShellB -/
import Derived.Test.YtlcdjgpblpodaaaGreatDoorMBN
namespace Go.Proofs.YtlcdjgpblpodaaaGreatDoor
open Go.RowKit Go.Maps Go.Proofs.YtlcdjgpblpodaaaGreatDoorW.PrintWords

theorem let5_ok : (offL 1 0 [5]).Ok := ⟨by show 0 ≤ 40; omega, by show 1 < 18446744073709551616; omega, by show -9223372036854775808 ≤ (0 : Int) ∧ (0 : Int) ≤ 9223372036854775807; omega, by show 1 ≤ 4; omega, fun x hx => by
  rw [List.mem_singleton.1 hx]; unfold In64; omega⟩
theorem first_offer (reg : Nat → Nat) (eb db g2 c : Nat) (w : World) (h : EngAt w reg eb (engn0 2 50 db)) (hc : 1 ≤ c) (hr : w.cell? ⟨g2, 1, none⟩ = some (.int .i64 5)) :
    Calls Tryz.prog 9 #[.pointer (some ⟨eb, 0, none⟩), .int .u64 1, .int .u64 1, .string kA, .int .i64 0, .slice (some ⟨g2, 1, none⟩) 1 c] w fun e w' =>
      e = .returned (.tuple #[.bool true, .int .i64 0]) ∧ ∃ E', E'.db = db ∧ EngTo w reg eb E' w' := by
  have hl := let5_ok
  have hgot : gotL (actr0 kA) (offL 1 0 [5]) = inA [offL 1 0 [5]] := rfl
  have hW := addW_ok win0 1 1 h.1.win (by unfold U64; omega) (by unfold U64; omega) rfl (fun e he => by cases he)
  have hA : ArgsAt w (fun _ => True) (some ⟨g2, 1, none⟩) c [5] := ⟨⟨rfl, by show 1 ≤ _; omega, fun _ => ⟨_, rfl, fun j hj => by
    obtain rfl : j = 0 := by
      have : j < 1 := hj
      omega
    rw [Go.WideShapes.add_plain]
    exact hr⟩⟩, hc, fun _ _ _ => trivial, fun a ha => by injection ha with ha; rw [← ha]⟩
  refine (offer_any reg eb (engn0 2 50 db) 1 1 kA 0 [5] _ c (fun _ => True) w h hA (by unfold U64; omega) (by unfold U64; omega) kA_ok hl (.inl rfl) rfl (fun e he => by cases he) ⟨by show 9 * (0 + 1) ≤ 50; omega, by show 0 ≤ 5000; omega⟩ (by show 0 ≤ 800000; omega) (fun _ => ?_)).mono ?_
  · show (encChs [chOf (gotL (actr0 kA) (offL 1 0 [5])), winCh (addW win0 1 1)]).length ≤ 2000
    rw [encChs_two, hgot]
    have h1 := inA_len [offL 1 0 [5]] (fun l hm => by rw [List.mem_singleton.1 hm]; exact hl) (by show 1 ≤ 8; omega)
    have h2 := winCh_len _ hW.1
    omega
  · rintro e w' ⟨h1, _⟩
    obtain ⟨rfl, h2⟩ := h1 (by show 0 < 8; omega)
    exact ⟨rfl, _, rfl, h2⟩
set_option maxRecDepth 100000 in
set_option maxHeartbeats 4000000 in
theorem answer_offer (reg : Nat → Nat) (eb db g1 c1 g2 c2 : Nat) (w : World) (h : EngAt w reg eb (engn0 2 50 db)) (r0 : w.cell? ⟨g1, 0, none⟩ = some (.string kA)) (r1 : w.cell? ⟨g2, 0, none⟩ = some (.int .i64 0)) (r2 : w.cell? ⟨g2, 1, none⟩ = some (.int .i64 5)) (hc2 : 2 ≤ c2) (n1 : reg g1 = 0) (n2 : reg g2 = 0) :
    Calls Tryz.prog 126 #[.pointer (some ⟨eb, 0, none⟩), .agg #[.string offerB, .slice (some ⟨g1, 0, none⟩) 1 c1, .int .u64 1, .int .u64 1, .slice (some ⟨g2, 0, none⟩) 2 c2]] w fun e w' =>
      e = .returned (.tuple #[.string ⟨#[116, 97, 107, 101, 110]⟩, .int .i64 0]) ∧ ∃ E', E'.db = db ∧ EngTo w reg eb E' w' := by
  obtain ⟨W1, hW1⟩ : ∃ W, W = w.alloc (.cells #[.string offerB, .slice (some ⟨g1, 0, none⟩) 1 c1, .int .u64 1, .int .u64 1, .slice (some ⟨g2, 0, none⟩) 2 c2] 261) := ⟨_, rfl⟩
  obtain ⟨bx, hbx⟩ : ∃ b, b = w.heap.size := ⟨_, rfl⟩
  have hb1 : Below w.heap.size w W1 := hW1 ▸ (Below.refl _ _).alloc (Nat.le_refl _) _
  have hX : Blk W1 bx #[.string offerB, .slice (some ⟨g1, 0, none⟩) 1 c1, .int .u64 1, .int .u64 1, .slice (some ⟨g2, 0, none⟩) 2 c2] 261 := hW1 ▸ Blk.newAt hbx
  have hxr : reg bx = 0 := by
    by_cases e : reg bx = 0
    · exact e
    · have := h.lt bx e; omega
  have x0 : W1.cell? ⟨bx, 0, none⟩ = some (.string offerB) := hX.cell 0
  have hd : Below W1.heap.size W1 W1.drew := (Below.refl _ _).drew
  have hXd := hX.below hd
  have y1 : W1.drew.cell? ⟨bx, 1, none⟩ = some (.slice (some ⟨g1, 0, none⟩) 1 c1) := hXd.cell 1
  have y2 : W1.drew.cell? ⟨bx, 2, none⟩ = some (.int .u64 1) := hXd.cell 2
  have y3 : W1.drew.cell? ⟨bx, 3, none⟩ = some (.int .u64 1) := hXd.cell 3
  have y4 : W1.drew.cell? ⟨bx, 4, none⟩ = some (.slice (some ⟨g2, 0, none⟩) 2 c2) := hXd.cell 4
  have hb1d := hb1.trans (hd.mono hb1.size)
  have z0 := pw_cell_below hb1d r0
  have z1 := pw_cell_below hb1d r1
  have z2 := pw_cell_below hb1d r2
  have HOF := Lib.hid (first_offer reg eb db g2 (c2 - 1) W1.drew (h.below hb1d) (by omega) z2)
  have HXD := Lib.hid hXd
  have HB := Lib.hid hb1d
  have HLT := Lib.hid h.lt
  have HR := Lib.hid (show reg bx = 0 ∧ reg g1 = 0 ∧ reg g2 = 0 from ⟨hxr, n1, n2⟩)
  have HW1 := Lib.hid hW1
  have HBX := Lib.hid hbx
  have c1' : (1 : Nat) ≤ c2 := by omega
  have c2n : ¬ c2 = 1 := by omega
  have hxl := hX.lt
  clear h hX hxr hd hXd hb1 hb1d hW1 hbx r0 r1 r2 n1 n2
  go_enter Tryz.func126, Tryz.ntmps126
  go_upto_region 1 with fail
  rw [← HW1.out, ← HBX.out]
  unfold offerB at x0
  go_upto_region 3 with fail
  go_region_held3 (fun w' => w'.cell? ⟨bx, 1, none⟩ = some (.slice (some ⟨g1, 0, none⟩) 1 c1) ∧ w'.cell? ⟨bx, 2, none⟩ = some (.int .u64 1) ∧ w'.cell? ⟨bx, 3, none⟩ = some (.int .u64 1) ∧ w'.cell? ⟨bx, 4, none⟩ = some (.slice (some ⟨g2, 0, none⟩) 2 c2) ∧ w'.cell? ⟨g1, 0, none⟩ = some (.string kA) ∧ w'.cell? ⟨g2, 0, none⟩ = some (.int .i64 0)) (first | exact ⟨y1, y2, y3, y4, z0, z1⟩ | exact ⟨y1', y2', y3', y4', z0', z1'⟩)
    (first
      | (go_at_call 9
         refine HOF.out.mono ?_
         rintro e w2 ⟨rfl, E', hE', hT⟩
         have hc := hT.2
         have hx2 := hc.blk HXD.out (fun e => by have := HR.out.1; omega)
         have y1' : w2.cell? ⟨bx, 1, none⟩ = some (.slice (some ⟨g1, 0, none⟩) 1 c1) := hx2.cell 1
         have y2' : w2.cell? ⟨bx, 2, none⟩ = some (.int .u64 1) := hx2.cell 2
         have y3' : w2.cell? ⟨bx, 3, none⟩ = some (.int .u64 1) := hx2.cell 3
         have y4' : w2.cell? ⟨bx, 4, none⟩ = some (.slice (some ⟨g2, 0, none⟩) 2 c2) := hx2.cell 4
         have z0' := hc.cell (a := ⟨g1, 0, none⟩) (fun e => by have := HR.out.2.1; simp only at e; omega) z0
         have z1' := hc.cell (a := ⟨g2, 0, none⟩) (fun e => by have := HR.out.2.2; simp only at e; omega) z1
         have HT := Lib.hid hT
         have HDB := Lib.hid hE'
         clear hx2 hc hT hE'))
  rename_i hHeld
  clear hHeld
  go_wp2_with fail
  go_ret2
  refine ⟨rfl, E', HDB.out, ?_⟩
  exact HT.out.more (fun k _ => rfl) (Chg.of_below HB.out _)
end Go.Proofs.YtlcdjgpblpodaaaGreatDoor
namespace Go.Proofs.YtlcdjgpblpodaaaGreatDoor
open Go.RowKit Go.Maps Go.Proofs.YtlcdjgpblpodaaaGreatDoorW.PrintWords

set_option maxRecDepth 100000 in
set_option maxHeartbeats 4000000 in
theorem do_line (reg : Nat → Nat) (eb db : Nat) (w : World) (hG : MaxLenAt w) (h : EngAt w reg eb (engn0 2 50 db)) :
    Calls Tryz.prog 57 #[.pointer (some ⟨eb, 0, none⟩), .string lineB] w fun e w' => e = .returned (.string ⟨#[116, 97, 107, 101, 110]⟩) ∧ ∃ E', E'.db = db ∧ EngTo w reg eb E' w' := by
  have HP := Lib.hid (parse_line w hG)
  have HE := Lib.hid h
  unfold lineB at *
  clear hG h
  go_enter Tryz.func57, Tryz.ntmps57
  go_wp2_with fail
  refine HP.out.mono ?_
  rintro e w1 ⟨g1, c1, g2, c2, rfl, h1, h2, h3, hc2, hg1, hg2, hb1⟩
  have z : ∀ k, w.heap.size ≤ k → reg k = 0 := fun k hk => by
    by_cases e : reg k = 0
    · exact e
    · have := HE.out.lt k e; omega
  obtain ⟨W2, hW2⟩ : ∃ W, W = w1.alloc (.cells #[.string offerB, .slice (some ⟨g1, 0, none⟩) 1 c1, .int .u64 1, .int .u64 1, .slice (some ⟨g2, 0, none⟩) 2 c2] 261) := ⟨_, rfl⟩
  have hb2 : Below w1.heap.size w1 W2 := hW2 ▸ (Below.refl _ _).alloc (Nat.le_refl _) _
  have hb12 := hb1.trans (hb2.mono hb1.size)
  have HA := Lib.hid (answer_offer reg eb db g1 c1 g2 c2 W2 (HE.out.below hb12) (pw_cell_below hb2 h1) (pw_cell_below hb2 h2) (pw_cell_below hb2 h3) hc2 (z g1 hg1) (z g2 hg2))
  have HB := Lib.hid hb12
  have HW2 := Lib.hid hW2
  clear h1 h2 h3 hc2 hg1 hg2 hb1 z hW2 hb2 hb12
  unfold offerB at *
  go_wp2_with fail
  rw [← HW2.out]
  refine HA.out.mono ?_
  rintro e w3 ⟨rfl, E', hE', hT⟩
  have HT := Lib.hid hT
  have HDB := Lib.hid hE'
  clear hT hE'
  go_wp2_with fail
  go_ret
  refine ⟨rfl, E', HDB.out, ?_⟩
  exact HT.out.more (fun k _ => rfl) (Chg.of_below HB.out _)
end Go.Proofs.YtlcdjgpblpodaaaGreatDoor
namespace Go.Proofs.YtlcdjgpblpodaaaGreatDoor
open Go.RowKit Go.Maps Go.Proofs.YtlcdjgpblpodaaaGreatDoorW.PrintWords

/-- The world, made: a disk and an engine that knows it. -/
structure WldAt (w : World) (reg : Nat → Nat) (wb db eb : Nat) (E : Engn) : Prop where
  blk : Blk w wb #[.pointer (some ⟨db, 0, none⟩), .pointer (some ⟨eb, 0, none⟩), .int .i64 2] 149
  eng : EngAt w reg eb E
  db : E.db = db
  free : reg wb = 0
set_option maxRecDepth 100000 in
set_option maxHeartbeats 4000000 in
theorem new_world (w : World) : Calls Tryz.prog 18 #[.int .i64 200, .int .i64 2] w fun e w' => ∃ wb db eb reg, e = .returned (.tuple #[.pointer (some ⟨wb, 0, none⟩), .int .i64 0]) ∧ WldAt w' reg wb db eb (engn0 2 50 db) ∧ (∀ k, k < w.heap.size → reg k = 0) ∧ w.heap.size ≤ wb ∧ Below w.heap.size w w' := by
  go_enter Tryz.func18, Tryz.ntmps18
  go_wp2_with fail
  refine (newdisk 200 (by omega) w).mono ?_
  rintro e w1 ⟨db, rfl, hd, hb1⟩
  obtain ⟨wb, hwb⟩ : ∃ b, b = w1.heap.size := ⟨_, rfl⟩
  obtain ⟨W2, hW2⟩ : ∃ W, W = w1.alloc (.cells #[.pointer (some ⟨db, 0, none⟩), .pointer none, .int .i64 2] 149) := ⟨_, rfl⟩
  have hb2 : Below w1.heap.size w1 W2 := hW2 ▸ (Below.refl _ _).alloc (Nat.le_refl _) _
  have hX : Blk W2 wb #[.pointer (some ⟨db, 0, none⟩), .pointer none, .int .i64 2] 149 := hW2 ▸ Blk.newAt hwb
  have hs2 : W2.heap.size = w1.heap.size + 1 := by rw [hW2]; simp
  have hs1 := hb1.size
  have HO := Lib.hid (engopen (fun k => w.heap.size ≤ k ∧ k < w1.heap.size) db 200 2 (by omega) (by omega) (by omega) W2 (hd.lt.below hb2) (fun k hk => by omega))
  have HB := Lib.hid (hb1.trans (hb2.mono hb1.size))
  have HX := Lib.hid hX
  have x0 : W2.cell? ⟨wb, 0, none⟩ = some (.pointer (some ⟨db, 0, none⟩)) := hX.cell 0
  have HW2 := Lib.hid hW2
  have HWB := Lib.hid hwb
  have HSZ := Lib.hid (show W2.heap.size = w1.heap.size + 1 ∧ w.heap.size ≤ w1.heap.size from ⟨hs2, hs1⟩)
  clear hd hb1 hwb hW2 hb2 hX hs2 hs1
  go_upto_region 2 with fail
  rw [← HW2.out, ← HWB.out]
  go_wp2_with fail
  refine HO.out.mono ?_
  rintro e w3 ⟨eb, reg, rfl, hE, hr, hb3⟩
  have hx3 := HX.out.below hb3
  have x1 : w3.frozen? ⟨wb, 1, none⟩ = false := hx3.free 1
  have x2 : w3.cell? ⟨wb, 1, none⟩ = some (.pointer none) := hx3.cell 1
  have xl := hx3.lt
  have hrw : reg wb = 0 := by
    by_cases e : reg wb = 0
    · exact e
    · have h1 := hr wb (by have := HX.out.lt; omega) e
      have := HWB.out
      omega
  have hr0 : ∀ k, k < w.heap.size → reg k = 0 := fun k hk => by
    by_cases e : reg k = 0
    · exact e
    · have h1 := hr k (by have := HSZ.out; omega) e
      omega
  have HE := Lib.hid (show EngAt w3 reg eb (engn0 2 50 db) from hE)
  have HX3 := Lib.hid hx3
  have HB3 := Lib.hid (HB.out.trans (hb3.mono (by have := HSZ.out; omega)))
  have HR := Lib.hid hrw
  have HR0 := Lib.hid hr0
  clear hE hr hb3 hx3 hrw hr0
  go_wp2_with fail
  go_ret2
  have hwl : w.heap.size ≤ wb := by have := HWB.out; have := HSZ.out; omega
  have hc : Chg (fun k => k = wb) w3 (w3.setCell ⟨wb, 1, none⟩ (.pointer (some ⟨eb, 0, none⟩))) := (Chg.refl (fun k => k = wb) w3).put wb 1 (.inl rfl) _
  refine ⟨wb, db, eb, reg, rfl, ⟨HX3.out.set 1 _, HE.out.chg hc (fun k hk e => by subst e; exact hk HR.out), rfl, HR.out⟩, HR0.out, hwl, HB3.out.setCell (p := ⟨wb, 1, none⟩) hwl _⟩
end Go.Proofs.YtlcdjgpblpodaaaGreatDoor
namespace Go.Proofs.YtlcdjgpblpodaaaGreatDoor
open Go.RowKit Go.Maps Go.Proofs.YtlcdjgpblpodaaaGreatDoorW.PrintWords

theorem assert_line (W : World) (v : Value) : (Instr.typeAssert (.iface 73 v) 151 73 true).run Tryz.prog W = .ok (.tuple #[v, .bool true]) W := by kernel_rfl
theorem EngAt.disk {w : World} {reg : Nat → Nat} {eb : Nat} {E : Engn} (h : EngAt w reg eb E) : ∃ N m, DiskAt false w (fun k => reg k = 3) E.db N m := by
  obtain ⟨_, v, rfl, hC, hL⟩ := h
  exact ⟨_, _, hL.db ▸ hC.book.disk⟩
theorem Blk.triple {w : World} {b t : Nat} {C : Array Value} (h : Blk w b C t) (hC : C.size = 3) (v0 v1 v2 : Value) :
    Blk (((w.setCell ⟨b, 0, none⟩ v0).setCell ⟨b, 1, none⟩ v1).setCell ⟨b, 2, none⟩ v2) b #[v0, v1, v2] t := by
  obtain ⟨l⟩ := C
  match l, hC with
  | [a0, a1, a2], _ => simpa using ((h.set 0 v0).set 1 v1).set 2 v2
set_option maxRecDepth 100000 in
set_option maxHeartbeats 4000000 in
theorem world_do (reg : Nat → Nat) (wb db eb : Nat) (w : World) (hG : MaxLenAt w) (h : WldAt w reg wb db eb (engn0 2 50 db)) (w00 : World) (hbw : Below w00.heap.size w00 w) (hr00 : ∀ k, k < w00.heap.size → reg k = 0) :
    Calls Tryz.prog 19 #[.pointer (some ⟨wb, 0, none⟩), .iface 73 (.agg #[.string lineB])] w fun e w' => e = .returned (.agg #[.string ⟨#[116, 97, 107, 101, 110]⟩, .int .i64 0, .bool false]) ∧ Below w00.heap.size w00 w' := by
  obtain ⟨W1, hW1⟩ : ∃ W, W = w.alloc (.cells #[.string ⟨#[]⟩, .int .i64 0, .bool false] 70) := ⟨_, rfl⟩
  obtain ⟨ab, hab⟩ : ∃ b, b = w.heap.size := ⟨_, rfl⟩
  obtain ⟨W2, hW2⟩ : ∃ W, W = W1.alloc (.cells #[.string lineB] 73) := ⟨_, rfl⟩
  obtain ⟨lb, hlb⟩ : ∃ b, b = W1.heap.size := ⟨_, rfl⟩
  have hb1 : Below w.heap.size w W1 := hW1 ▸ (Below.refl _ _).alloc (Nat.le_refl _) _
  have hb2 : Below W1.heap.size W1 W2 := hW2 ▸ (Below.refl _ _).alloc (Nat.le_refl _) _
  have hd : Below W2.heap.size W2 W2.drew := (Below.refl _ _).drew
  have hb1d := hb2.trans (hd.mono hb2.size)
  have hbd := hb1.trans (hb1d.mono hb1.size)
  have hA : Blk W1 ab #[.string ⟨#[]⟩, .int .i64 0, .bool false] 70 := hW1 ▸ Blk.newAt hab
  have hL : Blk W2 lb #[.string lineB] 73 := hW2 ▸ Blk.newAt hlb
  have hs1 : W1.heap.size = w.heap.size + 1 := by rw [hW1]; simp
  have hwl := h.blk.lt
  have hrz : ∀ k, w.heap.size ≤ k → reg k = 0 := fun k hk => by
    by_cases e : reg k = 0
    · exact e
    · have := h.eng.lt k e; omega
  have HAD := Lib.hid (hA.below hb1d)
  have HLD := Lib.hid (hL.below hd)
  have HWD := Lib.hid (h.blk.below hbd)
  have HDO := Lib.hid (do_line reg eb db W2.drew (hG.below hbd) (h.eng.below hbd))
  have HB0 := Lib.hid (hbw.trans (hbd.mono hbw.size))
  have y0 : W2.drew.cell? ⟨wb, 1, none⟩ = some (.pointer (some ⟨eb, 0, none⟩)) := HWD.out.cell 1
  have y1 : W2.drew.cell? ⟨lb, 0, none⟩ = some (.string lineB) := HLD.out.cell 0
  have HRZ := Lib.hid (show reg ab = 0 ∧ reg lb = 0 ∧ reg wb = 0 from ⟨hrz ab (by omega), hrz lb (by omega), h.free⟩)
  have HNE := Lib.hid (show ab ≠ wb ∧ ab ≠ lb ∧ w00.heap.size ≤ ab from ⟨by omega, by omega, by have := hbw.size; omega⟩)
  have HR00 := Lib.hid hr00
  have hty := assert_line
  have HW1 := Lib.hid hW1
  have HAB := Lib.hid hab
  have HW2 := Lib.hid hW2
  have HLB := Lib.hid hlb
  clear hG h hbw hr00 hW1 hab hW2 hlb hb1 hb2 hd hb1d hbd hA hL hs1 hwl hrz
  go_enter Tryz.func19, Tryz.ntmps19
  go_upto_region 1 with fail
  rw [← HW1.out, ← HAB.out]
  go_upto_region 6 with fail
  rw [← HW2.out, ← HLB.out]
  go_region_held3 (fun w' => w'.cell? ⟨wb, 1, none⟩ = some (.pointer (some ⟨eb, 0, none⟩)) ∧ w'.cell? ⟨lb, 0, none⟩ = some (.string lineB)) (first | exact ⟨y0, y1⟩ | exact ⟨y0', y1'⟩ | exact ⟨y0'' _, y1'' _⟩)
    (first
      | (go_at_call 57
         refine HDO.out.mono ?_
         rintro e w6 ⟨rfl, E', hE', hT⟩
         have hc := hT.2
         have hA6 := hc.blk HAD.out (fun e => by have := HRZ.out; omega)
         have hL6 := hc.blk HLD.out (fun e => by have := HRZ.out; omega)
         have hW6 := hc.blk HWD.out (fun e => by have := HRZ.out; omega)
         have y0' : w6.cell? ⟨wb, 1, none⟩ = some (.pointer (some ⟨eb, 0, none⟩)) := hW6.cell 1
         have y1' : w6.cell? ⟨lb, 0, none⟩ = some (.string lineB) := hL6.cell 0
         have y0'' : ∀ v, (w6.setCell ⟨ab, 0, none⟩ v).cell? ⟨wb, 1, none⟩ = some (.pointer (some ⟨eb, 0, none⟩)) := fun v => (hW6.other (a := ⟨ab, 0, none⟩) (fun e => HNE.out.1 e.symm) v).cell 1
         have y1'' : ∀ v, (w6.setCell ⟨ab, 0, none⟩ v).cell? ⟨lb, 0, none⟩ = some (.string lineB) := fun v => (hL6.other (a := ⟨ab, 0, none⟩) (fun e => HNE.out.2.1 e.symm) v).cell 0
         have a0 : w6.cell? ⟨ab, 0, none⟩ = some (.string ⟨#[]⟩) := hA6.cell 0
         have af : w6.frozen? ⟨ab, 0, none⟩ = false := hA6.free 0
         have al := hA6.lt
         have HA6 := Lib.hid hA6
         have HW6 := Lib.hid hW6
         have HT := Lib.hid hT
         have HDB := Lib.hid hE'
         clear hc hA6 hL6 hW6 hT hE'))
  rename_i hHeld
  clear hHeld
  obtain ⟨W7, hW7⟩ : ∃ W, W = w6.setCell ⟨ab, 0, none⟩ (.string ⟨#[116, 97, 107, 101, 110]⟩) := ⟨_, rfl⟩
  have hA7 : Blk W7 ab #[.string ⟨#[116, 97, 107, 101, 110]⟩, .int .i64 0, .bool false] 70 := hW7 ▸ HA6.out.set 0 _
  have hW7' : Blk W7 wb #[.pointer (some ⟨db, 0, none⟩), .pointer (some ⟨eb, 0, none⟩), .int .i64 2] 149 := hW7 ▸ HW6.out.other (a := ⟨ab, 0, none⟩) (fun e => HNE.out.1 e.symm) _
  have hc7 : Chg (fun k => k = ab) w6 W7 := hW7 ▸ (Chg.refl (fun k => k = ab) w6).put ab 0 (.inl rfl) _
  obtain ⟨⟨reg6, hE6, hx6⟩, hc6⟩ := HT.out
  have hdk := hE6.disk
  rw [HDB.out] at hdk
  obtain ⟨nn, mm, hdk⟩ := hdk
  have hab6 : reg6 ab = 0 := (hx6 ab HAD.out.lt).trans HRZ.out.1
  have HDN := Lib.hid (down_any _ db nn mm W7 (hdk.chg hc7 (fun k hk e => by subst e; omega)))
  have y0 : W7.cell? ⟨wb, 0, none⟩ = some (.pointer (some ⟨db, 0, none⟩)) := hW7'.cell 0
  have HB7 := Lib.hid (show Below w00.heap.size w00 W7 from
    (HB0.out.trans (hc6.below (fun k hk => by
      by_cases e : w00.heap.size ≤ k
      · exact e
      · have := HR00.out k (by omega); omega) HB0.out.size)).trans (hc7.below (fun k hk => by subst hk; exact HNE.out.2.2) (by have := HB0.out.size; have := hc6.size; omega)))
  have HA7 := Lib.hid hA7
  have u0 : ∀ i, W7.cell? ⟨ab, i, none⟩ = _ := fun i => hA7.cell i
  have uf : ∀ i, W7.frozen? ⟨ab, i, none⟩ = false := fun i => hA7.free i
  have ul := hA7.lt
  rw [← hW7]
  clear hW7 hA7 hW7' hc7 hE6 hx6 hc6 hdk hab6 y0' y1' y0'' y1'' a0 af al
  go_wp2_with fail
  refine HDN.out.mono ?_
  rintro e w8 ⟨rfl, rfl⟩
  go_wp2_with fail
  refine bodyPost_ret (results_cell_row rfl _ _ ab 70 _ (0, 0) _ rfl (HA7.out.triple rfl _ _ _) Tryz.underlying70 rfl (by kernel_rfl)) rfl ?_
  have hab := HNE.out.2.2
  exact ⟨rfl, ((HB7.out.setCell (p := ⟨ab, 0, none⟩) hab _).setCell (p := ⟨ab, 1, none⟩) hab _).setCell (p := ⟨ab, 2, none⟩) hab _⟩
end Go.Proofs.YtlcdjgpblpodaaaGreatDoor
namespace Go.Proofs.YtlcdjgpblpodaaaGreatDoor
open Go.RowKit Go.Maps Go.Proofs.YtlcdjgpblpodaaaGreatDoorW.PrintWords

theorem field_text (W : World) (a b c : Value) : (Instr.field 70 (.agg #[a, b, c]) 0).run Tryz.prog W = .ok a W := by kernel_rfl
set_option maxRecDepth 100000 in
set_option maxHeartbeats 4000000 in
theorem awake_line (w : World) (hG : MaxLenAt w) : Calls Tryz.prog 6 #[] w fun e w' => e = .returned (.bool true) ∧ Below w.heap.size w w' := by
  have HN := Lib.hid (new_world w)
  have HG := Lib.hid hG
  have hft := field_text
  clear hG
  go_enter Tryz.func6, Tryz.ntmps6
  go_wp2_with fail
  refine HN.out.mono ?_
  rintro e w1 ⟨wb, db, eb, reg, rfl, hW, hr, hwb, hb1⟩
  have HD := Lib.hid (world_do reg wb db eb w1 (HG.out.below hb1) hW w hb1 hr)
  unfold lineB at HD
  clear hW hr hb1 hwb
  go_wp2_with fail
  refine HD.out.mono ?_
  rintro e w2 ⟨rfl, hb2⟩
  have HB2 := Lib.hid hb2
  clear hb2
  go_wp2_with fail
  go_ret
  exact ⟨rfl, HB2.out⟩
theorem awake_max : Awake MaxLenAt := ⟨fun _ _ h hb => h.below hb, awake_line⟩
end Go.Proofs.YtlcdjgpblpodaaaGreatDoor

/- Shell7, Shell8, Shell9, ShellA, ShellB, ChnL, Chn1, Map2 -/
import Derived.Test.YtlcdjgpblpodaaaGreatDoorMBK
import Derived.Test.YtlcdjgpblpodaaaGreatDoorMBJ
import Derived.Test.YtlcdjgpblpodaaaGreatDoorMAN
import Derived.Test.YtlcdjgpblpodaaaGreatDoorMAW
namespace Go.Proofs.YtlcdjgpblpodaaaGreatDoor
open Go.RowKit Go.Maps Go.Proofs.YtlcdjgpblpodaaaGreatDoorW.PrintWords

theorem let5_ok : (offL 1 0 [5]).Ok := ⟨by show 0 ≤ 40; omega, by show 1 < 18446744073709551616; omega, by show -9223372036854775808 ≤ (0 : Int) ∧ (0 : Int) ≤ 9223372036854775807; omega, by show 1 ≤ 4; omega, fun x hx => by
  rw [List.mem_singleton.1 hx]; unfold In64; omega⟩
theorem first_offer (reg : Nat → Nat) (eb db g2 c : Nat) (w : World) (h : EngAt w reg eb (engn0 2 50 db)) (hc : 1 ≤ c) (hr : w.cell? ⟨g2, 1, none⟩ = some (.int .i64 5)) :
    Calls Tryz.prog 9 #[.pointer (some ⟨eb, 0, none⟩), .int .u64 1, .int .u64 1, .string kA, .int .i64 0, .slice (some ⟨g2, 1, none⟩) 1 c] w fun e w' =>
      e = .returned (.tuple #[.bool true, .int .i64 0]) ∧ ∃ E', E'.db = db ∧ EngTo w reg eb E' w' := by
  have hl := let5_ok
  have hgot : gotL (actr0 kA) (offL 1 0 [5]) = inA [offL 1 0 [5]] := rfl
  have hW := addW_ok win0 1 1 h.1.win (by unfold U64; omega) (by unfold U64; omega) rfl (fun e he => by cases he)
  have hA : ArgsAt w (fun _ => True) (some ⟨g2, 1, none⟩) c [5] := ⟨⟨rfl, by show 1 ≤ _; omega, fun _ => ⟨_, rfl, fun j hj => by
    obtain rfl : j = 0 := by
      have : j < 1 := hj
      omega
    rw [Go.WideShapes.add_plain]
    exact hr⟩⟩, hc, fun _ _ _ => trivial, fun a ha => by injection ha with ha; rw [← ha]⟩
  refine (offer_any reg eb (engn0 2 50 db) 1 1 kA 0 [5] _ c (fun _ => True) w h hA (by unfold U64; omega) (by unfold U64; omega) kA_ok hl (.inl rfl) rfl (fun e he => by cases he) ⟨by show 9 * (0 + 1) ≤ 50; omega, by show 0 ≤ 5000; omega⟩ (by show 0 ≤ 800000; omega) (fun _ => ?_)).mono ?_
  · show (encChs [chOf (gotL (actr0 kA) (offL 1 0 [5])), winCh (addW win0 1 1)]).length ≤ 2000
    rw [encChs_two, hgot]
    have h1 := inA_len [offL 1 0 [5]] (fun l hm => by rw [List.mem_singleton.1 hm]; exact hl) (by show 1 ≤ 8; omega)
    have h2 := winCh_len _ hW.1
    omega
  · rintro e w' ⟨h1, _⟩
    obtain ⟨rfl, h2⟩ := h1 (by show 0 < 8; omega)
    exact ⟨rfl, _, rfl, h2⟩
set_option maxRecDepth 100000 in
set_option maxHeartbeats 4000000 in
theorem answer_offer (reg : Nat → Nat) (eb db g1 c1 g2 c2 : Nat) (w : World) (h : EngAt w reg eb (engn0 2 50 db)) (r0 : w.cell? ⟨g1, 0, none⟩ = some (.string kA)) (r1 : w.cell? ⟨g2, 0, none⟩ = some (.int .i64 0)) (r2 : w.cell? ⟨g2, 1, none⟩ = some (.int .i64 5)) (hc2 : 2 ≤ c2) (n1 : reg g1 = 0) (n2 : reg g2 = 0) :
    Calls Tryz.prog 126 #[.pointer (some ⟨eb, 0, none⟩), .agg #[.string offerB, .slice (some ⟨g1, 0, none⟩) 1 c1, .int .u64 1, .int .u64 1, .slice (some ⟨g2, 0, none⟩) 2 c2]] w fun e w' =>
      e = .returned (.tuple #[.string ⟨#[116, 97, 107, 101, 110]⟩, .int .i64 0]) ∧ ∃ E', E'.db = db ∧ EngTo w reg eb E' w' := by
  obtain ⟨W1, hW1⟩ : ∃ W, W = w.alloc (.cells #[.string offerB, .slice (some ⟨g1, 0, none⟩) 1 c1, .int .u64 1, .int .u64 1, .slice (some ⟨g2, 0, none⟩) 2 c2] 261) := ⟨_, rfl⟩
  obtain ⟨bx, hbx⟩ : ∃ b, b = w.heap.size := ⟨_, rfl⟩
  have hb1 : Below w.heap.size w W1 := hW1 ▸ (Below.refl _ _).alloc (Nat.le_refl _) _
  have hX : Blk W1 bx #[.string offerB, .slice (some ⟨g1, 0, none⟩) 1 c1, .int .u64 1, .int .u64 1, .slice (some ⟨g2, 0, none⟩) 2 c2] 261 := hW1 ▸ Blk.newAt hbx
  have hxr : reg bx = 0 := by
    by_cases e : reg bx = 0
    · exact e
    · have := h.lt bx e; omega
  have x0 : W1.cell? ⟨bx, 0, none⟩ = some (.string offerB) := hX.cell 0
  have hd : Below W1.heap.size W1 W1.drew := (Below.refl _ _).drew
  have hXd := hX.below hd
  have y1 : W1.drew.cell? ⟨bx, 1, none⟩ = some (.slice (some ⟨g1, 0, none⟩) 1 c1) := hXd.cell 1
  have y2 : W1.drew.cell? ⟨bx, 2, none⟩ = some (.int .u64 1) := hXd.cell 2
  have y3 : W1.drew.cell? ⟨bx, 3, none⟩ = some (.int .u64 1) := hXd.cell 3
  have y4 : W1.drew.cell? ⟨bx, 4, none⟩ = some (.slice (some ⟨g2, 0, none⟩) 2 c2) := hXd.cell 4
  have hb1d := hb1.trans (hd.mono hb1.size)
  have z0 := pw_cell_below hb1d r0
  have z1 := pw_cell_below hb1d r1
  have z2 := pw_cell_below hb1d r2
  have HOF := Lib.hid (first_offer reg eb db g2 (c2 - 1) W1.drew (h.below hb1d) (by omega) z2)
  have HXD := Lib.hid hXd
  have HB := Lib.hid hb1d
  have HLT := Lib.hid h.lt
  have HR := Lib.hid (show reg bx = 0 ∧ reg g1 = 0 ∧ reg g2 = 0 from ⟨hxr, n1, n2⟩)
  have HW1 := Lib.hid hW1
  have HBX := Lib.hid hbx
  have c1' : (1 : Nat) ≤ c2 := by omega
  have c2n : ¬ c2 = 1 := by omega
  have hxl := hX.lt
  clear h hX hxr hd hXd hb1 hb1d hW1 hbx r0 r1 r2 n1 n2
  go_enter Tryz.func126, Tryz.ntmps126
  go_upto_region 1 with fail
  rw [← HW1.out, ← HBX.out]
  unfold offerB at x0
  go_upto_region 3 with fail
  go_region_held3 (fun w' => w'.cell? ⟨bx, 1, none⟩ = some (.slice (some ⟨g1, 0, none⟩) 1 c1) ∧ w'.cell? ⟨bx, 2, none⟩ = some (.int .u64 1) ∧ w'.cell? ⟨bx, 3, none⟩ = some (.int .u64 1) ∧ w'.cell? ⟨bx, 4, none⟩ = some (.slice (some ⟨g2, 0, none⟩) 2 c2) ∧ w'.cell? ⟨g1, 0, none⟩ = some (.string kA) ∧ w'.cell? ⟨g2, 0, none⟩ = some (.int .i64 0)) (first | exact ⟨y1, y2, y3, y4, z0, z1⟩ | exact ⟨y1', y2', y3', y4', z0', z1'⟩)
    (first
      | (go_at_call 9
         refine HOF.out.mono ?_
         rintro e w2 ⟨rfl, E', hE', hT⟩
         have hc := hT.2
         have hx2 := hc.blk HXD.out (fun e => by have := HR.out.1; omega)
         have y1' : w2.cell? ⟨bx, 1, none⟩ = some (.slice (some ⟨g1, 0, none⟩) 1 c1) := hx2.cell 1
         have y2' : w2.cell? ⟨bx, 2, none⟩ = some (.int .u64 1) := hx2.cell 2
         have y3' : w2.cell? ⟨bx, 3, none⟩ = some (.int .u64 1) := hx2.cell 3
         have y4' : w2.cell? ⟨bx, 4, none⟩ = some (.slice (some ⟨g2, 0, none⟩) 2 c2) := hx2.cell 4
         have z0' := hc.cell (a := ⟨g1, 0, none⟩) (fun e => by have := HR.out.2.1; simp only at e; omega) z0
         have z1' := hc.cell (a := ⟨g2, 0, none⟩) (fun e => by have := HR.out.2.2; simp only at e; omega) z1
         have HT := Lib.hid hT
         have HDB := Lib.hid hE'
         clear hx2 hc hT hE'))
  rename_i hHeld
  clear hHeld
  go_wp2_with fail
  go_ret2
  refine ⟨rfl, E', HDB.out, ?_⟩
  exact HT.out.more (fun k _ => rfl) (Chg.of_below HB.out _)
end Go.Proofs.YtlcdjgpblpodaaaGreatDoor
namespace Go.Proofs.YtlcdjgpblpodaaaGreatDoor
open Go.RowKit Go.Maps Go.Proofs.YtlcdjgpblpodaaaGreatDoorW.PrintWords

set_option maxRecDepth 100000 in
set_option maxHeartbeats 4000000 in
theorem do_line (reg : Nat → Nat) (eb db : Nat) (w : World) (hG : MaxLenAt w) (h : EngAt w reg eb (engn0 2 50 db)) :
    Calls Tryz.prog 57 #[.pointer (some ⟨eb, 0, none⟩), .string lineB] w fun e w' => e = .returned (.string ⟨#[116, 97, 107, 101, 110]⟩) ∧ ∃ E', E'.db = db ∧ EngTo w reg eb E' w' := by
  have HP := Lib.hid (parse_line w hG)
  have HE := Lib.hid h
  unfold lineB at *
  clear hG h
  go_enter Tryz.func57, Tryz.ntmps57
  go_wp2_with fail
  refine HP.out.mono ?_
  rintro e w1 ⟨g1, c1, g2, c2, rfl, h1, h2, h3, hc2, hg1, hg2, hb1⟩
  have z : ∀ k, w.heap.size ≤ k → reg k = 0 := fun k hk => by
    by_cases e : reg k = 0
    · exact e
    · have := HE.out.lt k e; omega
  obtain ⟨W2, hW2⟩ : ∃ W, W = w1.alloc (.cells #[.string offerB, .slice (some ⟨g1, 0, none⟩) 1 c1, .int .u64 1, .int .u64 1, .slice (some ⟨g2, 0, none⟩) 2 c2] 261) := ⟨_, rfl⟩
  have hb2 : Below w1.heap.size w1 W2 := hW2 ▸ (Below.refl _ _).alloc (Nat.le_refl _) _
  have hb12 := hb1.trans (hb2.mono hb1.size)
  have HA := Lib.hid (answer_offer reg eb db g1 c1 g2 c2 W2 (HE.out.below hb12) (pw_cell_below hb2 h1) (pw_cell_below hb2 h2) (pw_cell_below hb2 h3) hc2 (z g1 hg1) (z g2 hg2))
  have HB := Lib.hid hb12
  have HW2 := Lib.hid hW2
  clear h1 h2 h3 hc2 hg1 hg2 hb1 z hW2 hb2 hb12
  unfold offerB at *
  go_wp2_with fail
  rw [← HW2.out]
  refine HA.out.mono ?_
  rintro e w3 ⟨rfl, E', hE', hT⟩
  have HT := Lib.hid hT
  have HDB := Lib.hid hE'
  clear hT hE'
  go_wp2_with fail
  go_ret
  refine ⟨rfl, E', HDB.out, ?_⟩
  exact HT.out.more (fun k _ => rfl) (Chg.of_below HB.out _)
end Go.Proofs.YtlcdjgpblpodaaaGreatDoor
namespace Go.Proofs.YtlcdjgpblpodaaaGreatDoor
open Go.RowKit Go.Maps Go.Proofs.YtlcdjgpblpodaaaGreatDoorW.PrintWords

/-- The world, made: a disk and an engine that knows it. -/
structure WldAt (w : World) (reg : Nat → Nat) (wb db eb : Nat) (E : Engn) : Prop where
  blk : Blk w wb #[.pointer (some ⟨db, 0, none⟩), .pointer (some ⟨eb, 0, none⟩), .int .i64 2] 149
  eng : EngAt w reg eb E
  db : E.db = db
  free : reg wb = 0
set_option maxRecDepth 100000 in
set_option maxHeartbeats 4000000 in
theorem new_world (w : World) : Calls Tryz.prog 18 #[.int .i64 200, .int .i64 2] w fun e w' => ∃ wb db eb reg, e = .returned (.tuple #[.pointer (some ⟨wb, 0, none⟩), .int .i64 0]) ∧ WldAt w' reg wb db eb (engn0 2 50 db) ∧ (∀ k, k < w.heap.size → reg k = 0) ∧ w.heap.size ≤ wb ∧ Below w.heap.size w w' := by
  go_enter Tryz.func18, Tryz.ntmps18
  go_wp2_with fail
  refine (newdisk 200 (by omega) w).mono ?_
  rintro e w1 ⟨db, rfl, hd, hb1⟩
  obtain ⟨wb, hwb⟩ : ∃ b, b = w1.heap.size := ⟨_, rfl⟩
  obtain ⟨W2, hW2⟩ : ∃ W, W = w1.alloc (.cells #[.pointer (some ⟨db, 0, none⟩), .pointer none, .int .i64 2] 149) := ⟨_, rfl⟩
  have hb2 : Below w1.heap.size w1 W2 := hW2 ▸ (Below.refl _ _).alloc (Nat.le_refl _) _
  have hX : Blk W2 wb #[.pointer (some ⟨db, 0, none⟩), .pointer none, .int .i64 2] 149 := hW2 ▸ Blk.newAt hwb
  have hs2 : W2.heap.size = w1.heap.size + 1 := by rw [hW2]; simp
  have hs1 := hb1.size
  have HO := Lib.hid (engopen (fun k => w.heap.size ≤ k ∧ k < w1.heap.size) db 200 2 (by omega) (by omega) (by omega) W2 (hd.lt.below hb2) (fun k hk => by omega))
  have HB := Lib.hid (hb1.trans (hb2.mono hb1.size))
  have HX := Lib.hid hX
  have x0 : W2.cell? ⟨wb, 0, none⟩ = some (.pointer (some ⟨db, 0, none⟩)) := hX.cell 0
  have HW2 := Lib.hid hW2
  have HWB := Lib.hid hwb
  have HSZ := Lib.hid (show W2.heap.size = w1.heap.size + 1 ∧ w.heap.size ≤ w1.heap.size from ⟨hs2, hs1⟩)
  clear hd hb1 hwb hW2 hb2 hX hs2 hs1
  go_upto_region 2 with fail
  rw [← HW2.out, ← HWB.out]
  go_wp2_with fail
  refine HO.out.mono ?_
  rintro e w3 ⟨eb, reg, rfl, hE, hr, hb3⟩
  have hx3 := HX.out.below hb3
  have x1 : w3.frozen? ⟨wb, 1, none⟩ = false := hx3.free 1
  have x2 : w3.cell? ⟨wb, 1, none⟩ = some (.pointer none) := hx3.cell 1
  have xl := hx3.lt
  have hrw : reg wb = 0 := by
    by_cases e : reg wb = 0
    · exact e
    · have h1 := hr wb (by have := HX.out.lt; omega) e
      have := HWB.out
      omega
  have hr0 : ∀ k, k < w.heap.size → reg k = 0 := fun k hk => by
    by_cases e : reg k = 0
    · exact e
    · have h1 := hr k (by have := HSZ.out; omega) e
      omega
  have HE := Lib.hid (show EngAt w3 reg eb (engn0 2 50 db) from hE)
  have HX3 := Lib.hid hx3
  have HB3 := Lib.hid (HB.out.trans (hb3.mono (by have := HSZ.out; omega)))
  have HR := Lib.hid hrw
  have HR0 := Lib.hid hr0
  clear hE hr hb3 hx3 hrw hr0
  go_wp2_with fail
  go_ret2
  have hwl : w.heap.size ≤ wb := by have := HWB.out; have := HSZ.out; omega
  have hc : Chg (fun k => k = wb) w3 (w3.setCell ⟨wb, 1, none⟩ (.pointer (some ⟨eb, 0, none⟩))) := (Chg.refl (fun k => k = wb) w3).put wb 1 (.inl rfl) _
  refine ⟨wb, db, eb, reg, rfl, ⟨HX3.out.set 1 _, HE.out.chg hc (fun k hk e => by subst e; exact hk HR.out), rfl, HR.out⟩, HR0.out, hwl, HB3.out.setCell (p := ⟨wb, 1, none⟩) hwl _⟩
end Go.Proofs.YtlcdjgpblpodaaaGreatDoor
namespace Go.Proofs.YtlcdjgpblpodaaaGreatDoor
open Go.RowKit Go.Maps Go.Proofs.YtlcdjgpblpodaaaGreatDoorW.PrintWords

theorem assert_line (W : World) (v : Value) : (Instr.typeAssert (.iface 73 v) 151 73 true).run Tryz.prog W = .ok (.tuple #[v, .bool true]) W := by kernel_rfl
theorem EngAt.disk {w : World} {reg : Nat → Nat} {eb : Nat} {E : Engn} (h : EngAt w reg eb E) : ∃ N m, DiskAt false w (fun k => reg k = 3) E.db N m := by
  obtain ⟨_, v, rfl, hC, hL⟩ := h
  exact ⟨_, _, hL.db ▸ hC.book.disk⟩
theorem Blk.triple {w : World} {b t : Nat} {C : Array Value} (h : Blk w b C t) (hC : C.size = 3) (v0 v1 v2 : Value) :
    Blk (((w.setCell ⟨b, 0, none⟩ v0).setCell ⟨b, 1, none⟩ v1).setCell ⟨b, 2, none⟩ v2) b #[v0, v1, v2] t := by
  obtain ⟨l⟩ := C
  match l, hC with
  | [a0, a1, a2], _ => simpa using ((h.set 0 v0).set 1 v1).set 2 v2
set_option maxRecDepth 100000 in
set_option maxHeartbeats 4000000 in
theorem world_do (reg : Nat → Nat) (wb db eb : Nat) (w : World) (hG : MaxLenAt w) (h : WldAt w reg wb db eb (engn0 2 50 db)) (w00 : World) (hbw : Below w00.heap.size w00 w) (hr00 : ∀ k, k < w00.heap.size → reg k = 0) :
    Calls Tryz.prog 19 #[.pointer (some ⟨wb, 0, none⟩), .iface 73 (.agg #[.string lineB])] w fun e w' => e = .returned (.agg #[.string ⟨#[116, 97, 107, 101, 110]⟩, .int .i64 0, .bool false]) ∧ Below w00.heap.size w00 w' := by
  obtain ⟨W1, hW1⟩ : ∃ W, W = w.alloc (.cells #[.string ⟨#[]⟩, .int .i64 0, .bool false] 70) := ⟨_, rfl⟩
  obtain ⟨ab, hab⟩ : ∃ b, b = w.heap.size := ⟨_, rfl⟩
  obtain ⟨W2, hW2⟩ : ∃ W, W = W1.alloc (.cells #[.string lineB] 73) := ⟨_, rfl⟩
  obtain ⟨lb, hlb⟩ : ∃ b, b = W1.heap.size := ⟨_, rfl⟩
  have hb1 : Below w.heap.size w W1 := hW1 ▸ (Below.refl _ _).alloc (Nat.le_refl _) _
  have hb2 : Below W1.heap.size W1 W2 := hW2 ▸ (Below.refl _ _).alloc (Nat.le_refl _) _
  have hd : Below W2.heap.size W2 W2.drew := (Below.refl _ _).drew
  have hb1d := hb2.trans (hd.mono hb2.size)
  have hbd := hb1.trans (hb1d.mono hb1.size)
  have hA : Blk W1 ab #[.string ⟨#[]⟩, .int .i64 0, .bool false] 70 := hW1 ▸ Blk.newAt hab
  have hL : Blk W2 lb #[.string lineB] 73 := hW2 ▸ Blk.newAt hlb
  have hs1 : W1.heap.size = w.heap.size + 1 := by rw [hW1]; simp
  have hwl := h.blk.lt
  have hrz : ∀ k, w.heap.size ≤ k → reg k = 0 := fun k hk => by
    by_cases e : reg k = 0
    · exact e
    · have := h.eng.lt k e; omega
  have HAD := Lib.hid (hA.below hb1d)
  have HLD := Lib.hid (hL.below hd)
  have HWD := Lib.hid (h.blk.below hbd)
  have HDO := Lib.hid (do_line reg eb db W2.drew (hG.below hbd) (h.eng.below hbd))
  have HB0 := Lib.hid (hbw.trans (hbd.mono hbw.size))
  have y0 : W2.drew.cell? ⟨wb, 1, none⟩ = some (.pointer (some ⟨eb, 0, none⟩)) := HWD.out.cell 1
  have y1 : W2.drew.cell? ⟨lb, 0, none⟩ = some (.string lineB) := HLD.out.cell 0
  have HRZ := Lib.hid (show reg ab = 0 ∧ reg lb = 0 ∧ reg wb = 0 from ⟨hrz ab (by omega), hrz lb (by omega), h.free⟩)
  have HNE := Lib.hid (show ab ≠ wb ∧ ab ≠ lb ∧ w00.heap.size ≤ ab from ⟨by omega, by omega, by have := hbw.size; omega⟩)
  have HR00 := Lib.hid hr00
  have hty := assert_line
  have HW1 := Lib.hid hW1
  have HAB := Lib.hid hab
  have HW2 := Lib.hid hW2
  have HLB := Lib.hid hlb
  clear hG h hbw hr00 hW1 hab hW2 hlb hb1 hb2 hd hb1d hbd hA hL hs1 hwl hrz
  go_enter Tryz.func19, Tryz.ntmps19
  go_upto_region 1 with fail
  rw [← HW1.out, ← HAB.out]
  go_upto_region 6 with fail
  rw [← HW2.out, ← HLB.out]
  go_region_held3 (fun w' => w'.cell? ⟨wb, 1, none⟩ = some (.pointer (some ⟨eb, 0, none⟩)) ∧ w'.cell? ⟨lb, 0, none⟩ = some (.string lineB)) (first | exact ⟨y0, y1⟩ | exact ⟨y0', y1'⟩ | exact ⟨y0'' _, y1'' _⟩)
    (first
      | (go_at_call 57
         refine HDO.out.mono ?_
         rintro e w6 ⟨rfl, E', hE', hT⟩
         have hc := hT.2
         have hA6 := hc.blk HAD.out (fun e => by have := HRZ.out; omega)
         have hL6 := hc.blk HLD.out (fun e => by have := HRZ.out; omega)
         have hW6 := hc.blk HWD.out (fun e => by have := HRZ.out; omega)
         have y0' : w6.cell? ⟨wb, 1, none⟩ = some (.pointer (some ⟨eb, 0, none⟩)) := hW6.cell 1
         have y1' : w6.cell? ⟨lb, 0, none⟩ = some (.string lineB) := hL6.cell 0
         have y0'' : ∀ v, (w6.setCell ⟨ab, 0, none⟩ v).cell? ⟨wb, 1, none⟩ = some (.pointer (some ⟨eb, 0, none⟩)) := fun v => (hW6.other (a := ⟨ab, 0, none⟩) (fun e => HNE.out.1 e.symm) v).cell 1
         have y1'' : ∀ v, (w6.setCell ⟨ab, 0, none⟩ v).cell? ⟨lb, 0, none⟩ = some (.string lineB) := fun v => (hL6.other (a := ⟨ab, 0, none⟩) (fun e => HNE.out.2.1 e.symm) v).cell 0
         have a0 : w6.cell? ⟨ab, 0, none⟩ = some (.string ⟨#[]⟩) := hA6.cell 0
         have af : w6.frozen? ⟨ab, 0, none⟩ = false := hA6.free 0
         have al := hA6.lt
         have HA6 := Lib.hid hA6
         have HW6 := Lib.hid hW6
         have HT := Lib.hid hT
         have HDB := Lib.hid hE'
         clear hc hA6 hL6 hW6 hT hE'))
  rename_i hHeld
  clear hHeld
  obtain ⟨W7, hW7⟩ : ∃ W, W = w6.setCell ⟨ab, 0, none⟩ (.string ⟨#[116, 97, 107, 101, 110]⟩) := ⟨_, rfl⟩
  have hA7 : Blk W7 ab #[.string ⟨#[116, 97, 107, 101, 110]⟩, .int .i64 0, .bool false] 70 := hW7 ▸ HA6.out.set 0 _
  have hW7' : Blk W7 wb #[.pointer (some ⟨db, 0, none⟩), .pointer (some ⟨eb, 0, none⟩), .int .i64 2] 149 := hW7 ▸ HW6.out.other (a := ⟨ab, 0, none⟩) (fun e => HNE.out.1 e.symm) _
  have hc7 : Chg (fun k => k = ab) w6 W7 := hW7 ▸ (Chg.refl (fun k => k = ab) w6).put ab 0 (.inl rfl) _
  obtain ⟨⟨reg6, hE6, hx6⟩, hc6⟩ := HT.out
  have hdk := hE6.disk
  rw [HDB.out] at hdk
  obtain ⟨nn, mm, hdk⟩ := hdk
  have hab6 : reg6 ab = 0 := (hx6 ab HAD.out.lt).trans HRZ.out.1
  have HDN := Lib.hid (down_any _ db nn mm W7 (hdk.chg hc7 (fun k hk e => by subst e; omega)))
  have y0 : W7.cell? ⟨wb, 0, none⟩ = some (.pointer (some ⟨db, 0, none⟩)) := hW7'.cell 0
  have HB7 := Lib.hid (show Below w00.heap.size w00 W7 from
    (HB0.out.trans (hc6.below (fun k hk => by
      by_cases e : w00.heap.size ≤ k
      · exact e
      · have := HR00.out k (by omega); omega) HB0.out.size)).trans (hc7.below (fun k hk => by subst hk; exact HNE.out.2.2) (by have := HB0.out.size; have := hc6.size; omega)))
  have HA7 := Lib.hid hA7
  have u0 : ∀ i, W7.cell? ⟨ab, i, none⟩ = _ := fun i => hA7.cell i
  have uf : ∀ i, W7.frozen? ⟨ab, i, none⟩ = false := fun i => hA7.free i
  have ul := hA7.lt
  rw [← hW7]
  clear hW7 hA7 hW7' hc7 hE6 hx6 hc6 hdk hab6 y0' y1' y0'' y1'' a0 af al
  go_wp2_with fail
  refine HDN.out.mono ?_
  rintro e w8 ⟨rfl, rfl⟩
  go_wp2_with fail
  refine bodyPost_ret (results_cell_row rfl _ _ ab 70 _ (0, 0) _ rfl (HA7.out.triple rfl _ _ _) Tryz.underlying70 rfl (by kernel_rfl)) rfl ?_
  have hab := HNE.out.2.2
  exact ⟨rfl, ((HB7.out.setCell (p := ⟨ab, 0, none⟩) hab _).setCell (p := ⟨ab, 1, none⟩) hab _).setCell (p := ⟨ab, 2, none⟩) hab _⟩
end Go.Proofs.YtlcdjgpblpodaaaGreatDoor
namespace Go.Proofs.YtlcdjgpblpodaaaGreatDoor
open Go.RowKit Go.Maps Go.Proofs.YtlcdjgpblpodaaaGreatDoorW.PrintWords

theorem field_text (W : World) (a b c : Value) : (Instr.field 70 (.agg #[a, b, c]) 0).run Tryz.prog W = .ok a W := by kernel_rfl
set_option maxRecDepth 100000 in
set_option maxHeartbeats 4000000 in
theorem awake_line (w : World) (hG : MaxLenAt w) : Calls Tryz.prog 6 #[] w fun e w' => e = .returned (.bool true) ∧ Below w.heap.size w w' := by
  have HN := Lib.hid (new_world w)
  have HG := Lib.hid hG
  have hft := field_text
  clear hG
  go_enter Tryz.func6, Tryz.ntmps6
  go_wp2_with fail
  refine HN.out.mono ?_
  rintro e w1 ⟨wb, db, eb, reg, rfl, hW, hr, hwb, hb1⟩
  have HD := Lib.hid (world_do reg wb db eb w1 (HG.out.below hb1) hW w hb1 hr)
  unfold lineB at HD
  clear hW hr hb1 hwb
  go_wp2_with fail
  refine HD.out.mono ?_
  rintro e w2 ⟨rfl, hb2⟩
  have HB2 := Lib.hid hb2
  clear hb2
  go_wp2_with fail
  go_ret
  exact ⟨rfl, HB2.out⟩
theorem awake_max : Awake MaxLenAt := ⟨fun _ _ h hb => h.below hb, awake_line⟩
end Go.Proofs.YtlcdjgpblpodaaaGreatDoor
namespace Go.Proofs.YtlcdjgpblpodaaaGreatDoor
open Go.RowKit Go.Maps Go.Proofs.YtlcdjgpblpodaaaGreatDoorW.PrintWords

theorem setTo_append (b : List Int) (x y : List (Nat × Int)) : setTo b (x ++ y) = setTo (setTo b x) y := by simp [setTo]
theorem setTo_in : ∀ (es : List (Nat × Int)) (b : List Int), (∀ x ∈ b, In64 x) → (∀ e ∈ es, In64 e.2) → ∀ x ∈ setTo b es, In64 x
  | [], _, h, _, x, hx => h x hx
  | e :: r, b, h, he, x, hx => setTo_in r (b.set e.1 e.2) (fun y hy => by
      rcases List.mem_or_eq_of_mem_set hy with g | g
      · exact h y g
      · rw [g]; exact he e (List.mem_cons_self ..)) (fun y hy => he y (List.mem_cons_of_mem _ hy)) x hx
theorem addJ_ok (j : Jour) (v : Int) (h : j.Ok) (hv : In64 v) (h64 : U64 (j.version + 1)) : (addJ [(0, v)] j).Ok := by
  have hf := h.few
  have hl := h.less
  have hin : ∀ e ∈ j.events ++ [(0, v)], e.1 < 8 ∧ In64 e.2 := fun e he => by
    rcases List.mem_append.1 he with g | g
    · exact h.event e g
    · rw [List.mem_singleton.1 g]; exact ⟨by show 0 < 8; omega, hv⟩
  refine ⟨h64, ?_, ?_, ?_, ?_, ?_⟩
  · show (setTo j.base _).length = 8
    rw [setTo_len]; exact h.base
  · show ∀ x ∈ setTo j.base ((j.events ++ [(0, v)]).take (j.events.length + 1 - 16)), In64 x
    exact setTo_in _ _ h.each (fun e he => (hin e (List.mem_of_mem_take he)).2)
  · show ((j.events ++ [(0, v)]).drop (j.events.length + 1 - 16)).length ≤ 16
    simp; omega
  · show ((j.events ++ [(0, v)]).drop (j.events.length + 1 - 16)).length ≤ j.version + 1
    simp; omega
  · exact fun e he => hin e (List.mem_of_mem_drop he)
theorem addJ_state (j : Jour) (v : Int) (h : j.Ok) : (stateOf (addJ [(0, v)] j)).getD 0 0 = v := by
  have h0 : stateOf (addJ [(0, v)] j) = (setTo j.base j.events).set 0 v := by
    show setTo (setTo j.base ((j.events ++ [(0, v)]).take (j.events.length + 1 - 16))) ((j.events ++ [(0, v)]).drop (j.events.length + 1 - 16)) = _
    rw [← setTo_append, List.take_append_drop, setTo_append]
    rfl
  rw [h0]
  have : (setTo j.base j.events).length = 8 := by rw [setTo_len]; exact h.base
  simp [List.getD, this]
theorem addJ_len (j : Jour) (v : Int) (h : j.Ok) : (addJ [(0, v)] j).events.length ≤ 16 ∧ (addJ [(0, v)] j).version = j.version + 1 := by
  have hf := h.few
  refine ⟨?_, rfl⟩
  show ((j.events ++ [(0, v)]).drop (j.events.length + 1 - 16)).length ≤ 16
  simp; omega

def kB : ByteArray := ⟨#[98]⟩
theorem kB_ok : KeyOk kB := by unfold KeyOk; exact ⟨by decide, by decide⟩
theorem kAB : kA ≠ kB := by decide
/-- An outbox with s letters sent to b, of which those of L wait. -/
def outK (k : ByteArray) (s : Nat) (L : List (ByteArray × Let)) : Outb := { owner := k, serials := if s = 0 then [] else [(kB, s)], list := L }
/-- A letter of the chain. -/
def chL (k : ByteArray) (s : Nat) (v : Int) : Let := ⟨k, s, 0, [v]⟩
theorem chL_ok (k : ByteArray) (s : Nat) (v : Int) (hk : k.size ≤ 40) (hs : U64 s) (hv : In64 v) : (chL k s v).Ok :=
  ⟨hk, hs, by show In64 0; unfold In64; omega, by show 1 ≤ 4; omega, fun x hx => by rw [List.mem_singleton.1 hx]; exact hv⟩
theorem outK_ok (k : ByteArray) (s : Nat) (L : List (ByteArray × Let)) (hk : KeyOk k) (hs : U64 s) (hL : L = [] ∨ ∃ v, In64 v ∧ 1 ≤ s ∧ L = [(kB, chL k s v)]) : (outK k s L).Ok := by
  refine ⟨hk, ?_, ?_, ?_⟩
  · intro e he
    simp only [outK] at he
    split at he
    · cases he
    · rw [List.mem_singleton.1 he]; exact ⟨kB_ok, by omega, hs⟩
  · intro e he
    rcases hL with rfl | ⟨v, hv, _, rfl⟩
    · cases he
    · rw [List.mem_singleton.1 he]; exact ⟨kB_ok, chL_ok k s v hk.2 hs hv⟩
  · simp only [outK]
    by_cases h0 : s = 0
    · subst h0
      rcases hL with rfl | ⟨v, _, h1, _⟩
      · exact .inl ⟨rfl, rfl⟩
      · omega
    · rw [if_neg h0]
      rcases hL with rfl | ⟨v, _, _, rfl⟩
      · exact .inr ⟨kB, s, rfl, .inl rfl⟩
      · exact .inr ⟨kB, s, rfl, .inr ⟨chL k s v, rfl, rfl, rfl⟩⟩
/-- An actor of the chain. -/
def chA (k : ByteArray) (J : Jour) (ls : List Let) (s : Nat) (L : List (ByteArray × Let)) : Actr := { jour := J, inbox := ls, outb := outK k s L, tries := 0, poison := [] }
/-- A journal that may be. -/
def JOk (J : Jour) : Prop := J.Ok ∧ (J.version = 0 → J = jour0)
theorem jour0_ok : JOk jour0 := by
  refine ⟨⟨?_, ?_, ?_, ?_, ?_, ?_⟩, fun _ => rfl⟩
  all_goals simp [jour0, U64, In64]
theorem JOk.add {J : Jour} (h : JOk J) (v : Int) (hv : In64 v) (h64 : U64 (J.version + 1)) : JOk (addJ [(0, v)] J) := ⟨addJ_ok J v h.1 hv h64, fun e => by have := (addJ_len J v h.1).2; omega⟩
theorem chA_len (k : ByteArray) (J : Jour) (ls : List Let) (s : Nat) (L : List (ByteArray × Let)) (hk : KeyOk k) (h : (chA k J ls s L).Ok) (h1 : ls.length ≤ 1) : (encChn (chOf (chA k J ls s L))).length ≤ 930 := by
  have g1 := (encChn_length _ (chOf_ok (chA k J ls s L) h hk)).2
  have g2 := encAct_length (chA k J ls s L) h
  have e1 : (chOf (chA k J ls s L)).key.size ≤ 41 := by show (akey k).size ≤ 41; rw [akey_size]; have := hk.2; omega
  have e2 : (chOf (chA k J ls s L)).val.length = (encAct (chA k J ls s L)).length := rfl
  have e3 : (chA k J ls s L).jour.events.length ≤ 16 := h.jour.few
  have e4 : (chA k J ls s L).inbox.length = ls.length := rfl
  have e5 : (chA k J ls s L).outb.serials.length ≤ 1 := h.outb.counts.1
  have e6 : (chA k J ls s L).poison.length = 0 := rfl
  omega
end Go.Proofs.YtlcdjgpblpodaaaGreatDoor
namespace Go.Proofs.YtlcdjgpblpodaaaGreatDoor.Ip
open Go.RowKit Go.Proofs.YtlcdjgpblpodaaaGreatDoorW.PrintWords

/-- The chain's program. -/
def chCL : List (Int × Int) := [(4, 0), (3, 0), (1, 0), (4, 0), (1, 1), (6, 0), (17, 0)]
def chNL : List ByteArray := [⟨#[98]⟩]
/-- What a run of it is given. -/
def chE (nA kA aA : Option Addr) (nC kC aC : Nat) (frm : ByteArray) (serial kind v : Int) : Env := { nA := nA, nC := nC, NL := chNL, kA := kA, kC := kC, CL := chCL, frm := frm, serial := serial, kind := kind, aA := aA, aC := aC, AL := [v], now := 0 }
theorem formed_chain : formedB chNL chCL = true := by kernel_rfl
theorem chain_ok (nA kA aA : Option Addr) (nC kC aC : Nat) (frm : ByteArray) (serial kind v : Int) (hf : frm.size ≤ 40) : okIn (chE nA kA aA nC kC aC frm serial kind v) = true := by
  have h1 : letterB frm 1 = true := by simp [letterB, hf]
  show (formedB chNL chCL && (letterB frm 1 && decide ((0 : Int) ≤ 0))) = true
  rw [formed_chain, h1]
  rfl
/-- Where the chain's run ends. -/
def chS (reg : Nat → Int) (v : Int) : St := { at_ := 7, stack := [], reg := fun j => if j = 0 then v else reg j, ev := [(0, v)], sent := [(⟨#[98]⟩, 0, wrap64 (v + 1))], tm := [], steps := 7, failed := 0, done := false }
theorem chain_runF (nA kA aA : Option Addr) (nC kC aC : Nat) (frm : ByteArray) (serial kind v : Int) (hf : frm.size ≤ 40) (reg : Nat → Int) : runF (chE nA kA aA nC kC aC frm serial kind v) reg = (0, chS reg v) := by
  unfold runF
  rw [if_pos (chain_ok nA kA aA nC kC aC frm serial kind v hf)]
  kernel_rfl
theorem run_chain (c : Env) (reg : Nat → Int) (nA kA aA : Option Addr) (nC kC aC : Nat) (frm : ByteArray) (serial kind v : Int) (hc : c = chE nA kA aA nC kC aC frm serial kind v) (hf : frm.size ≤ 40) (w : World) (hE : EnvOk c w) (hC : IsCode w kA chCL) :
    Calls Tryz.prog 108 #[argP c, .agg (regC reg), argL c, .int .i64 0] w fun e w' => Below w.heap.size w w' ∧ ∃ EA ec SA sc TA tc, (∃ x0 x1 x2 x3 x4 x5 x6 x7 : Int, e = .returned (.tuple #[.agg #[.int .i64 x0, .int .i64 x1, .int .i64 x2, .int .i64 x3, .int .i64 x4, .int .i64 x5, .int .i64 x6, .int .i64 x7, .slice EA 1 ec, .slice SA 1 sc, .slice TA 0 tc, .int .i64 7], .int .i64 0])) ∧
      w'.ownsRow w.heap.size 146 2 (.slice EA 1 ec) 1 [.int .i64 0, .int .i64 v] ∧ w'.ownsRow w.heap.size 244 3 (.slice SA 1 sc) 1 [.string ⟨#[98]⟩, .int .i64 0, .int .i64 (wrap64 (v + 1))] := by
  subst hc
  have hr := chain_runF nA kA aA nC kC aC frm serial kind v hf reg
  refine (run_any _ reg w hE hC (by show 7 ≤ 1000; omega)).mono ?_
  rintro e w' ⟨hb, h | ⟨h0, _⟩⟩
  · obtain ⟨_, ev, sn, tv, he, h1, h2, h3⟩ := h
    rw [hr] at he h1 h2 h3
    obtain ⟨EA, ec, rfl⟩ := own_slice h1
    obtain ⟨SA, sc, rfl⟩ := own_slice h2
    obtain ⟨TA, tc, rfl⟩ := own_slice h3
    exact ⟨hb, EA, ec, SA, sc, TA, tc, ⟨_, _, _, _, _, _, _, _, he⟩, h1, h2⟩
  · rw [hr] at h0
    exact absurd rfl h0
end Go.Proofs.YtlcdjgpblpodaaaGreatDoor.Ip
namespace Go.Proofs.YtlcdjgpblpodaaaGreatDoor
open Go.RowKit Go.Maps Go.Proofs.YtlcdjgpblpodaaaGreatDoorW.PrintWords

theorem serD_put0 (k : ByteArray) (s : Nat) : (serD []).put (litS k) (.held (.int .u64 s)) = serD [(k, s)] := by
  simp [serD, DataW.put, DataW.insert, litS]
theorem same_litS (k : ByteArray) : (litS k).sameKey (litS k) = true := by simp [litS, Lit.sameKey]
theorem serD_put1 (k : ByteArray) (s s' : Nat) : (serD [(k, s)]).put (litS k) (.held (.int .u64 s')) = serD [(k, s')] := by
  have h := same_litS k
  unfold litS at h
  simp [serD, DataW.put, DataW.insert, litS, h]
section
variable {w : World} {mb n : Nat}
theorem ser_map0 (h : w.ownsMap Tryz.prog 9 rawR mb n (serD [])) : MapAt w 9 mb n (fun _ => none) := ⟨_, h, fun _ _ => ⟨rfl, fun _ => rfl⟩⟩
theorem ser_map1 {k : ByteArray} {s : Nat} (hk : k.size ≤ 1000) (h : w.ownsMap Tryz.prog 9 rawR mb n (serD [(k, s)])) : MapAt w 9 mb n (putF (fun _ => none) (litS k) (.int .u64 s)) := by
  refine ⟨_, h, fun l _ => ?_⟩
  have hm : IsMap (serD []) := ⟨[], rfl⟩
  have hk' := string_law.key (keyStr k (by omega))
  rw [← serD_put0]
  by_cases he : l = litS k
  · subst he
    rw [putF_same]
    exact ⟨by rw [has_put_same hm hk']; rfl, fun z => by rw [atKey_put_same hm hk']; rfl⟩
  · rw [has_put_other he, putF_other _ _ he]
    exact ⟨rfl, fun z => by rw [atKey_put_other he]; rfl⟩
theorem wpList_own_put {ops : Array Oper} {rest : List Oper} {o : Oper} {a : Go.Act} {Q : Exit → Go.Act → World → Prop} {K e : Nat} {D : DataW Value} (hg : o.guard = none) (m x v : Operand) (t : Nat) (hop : o.op = Op.mapUpdate t m x v) (h : w.ownsMap Tryz.prog K rawR mb n D) (law : Keyed Tryz.prog K) (ht : Tryz.prog.underlying t = some (.map K e)) (hn : n < 1000000)
    (hm : a.eval m = .map (some mb)) {key val : Value} {l : Lit} (hx : a.eval x = key) (hv : a.eval v = val) (hk : keyOf Tryz.prog K key = some l)
    (hK : ∀ w', w'.ownsMap Tryz.prog K rawR mb (n + 1) (D.put l (.held val)) → Chg (fun k => k = mb) w w' → wpList Tryz.prog ops Q rest (a.put o.dst undef) w') : wpList Tryz.prog ops Q (o :: rest) a w := by
  refine wpList_plain hg fun K' hK' => ?_
  obtain ⟨w', hrun, r1, h4⟩ := h.store law ht (by unfold maxLen; omega) (val := val) hk (d := .held val) (ps := []) rfl
  have hc : Chg (fun k => k = mb) w w' := by
    have hg := h4.grown
    exact ⟨hg.os, hg.tape, hg.output, hg.size, fun k hk' hn => hg.block k hk' (fun e => hn (Option.some.inj e))⟩
  unfold Oper.wp
  simp [execOp, hop, hm, hx, hv, hrun, Result.andThen]
  exact hK' _ _ (hK w' r1 hc)
end
end Go.Proofs.YtlcdjgpblpodaaaGreatDoor

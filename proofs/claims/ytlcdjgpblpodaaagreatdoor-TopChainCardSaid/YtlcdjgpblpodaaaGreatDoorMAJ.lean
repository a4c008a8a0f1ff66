/- Inb, Inb2, Inb3 -/
import Derived.Test.YtlcdjgpblpodaaaGreatDoorMAI
namespace Go.Proofs.YtlcdjgpblpodaaaGreatDoor
open Go.RowKit Go.Proofs.YtlcdjgpblpodaaaGreatDoorW.PrintWords

theorem own_below {w w' : World} {base n size : Nat} {e : TypeId} {v : Value} {xs : List Value} (h : w.ownsRow base e size v n xs) (hb : Below w.heap.size w w') : w'.ownsRow base e size v n xs := own_move h (fun k hk => hb.block k (own_lt h k hk))
/-- An inbox that is read. -/
def InbRd (w : World) (X : Nat → Prop) (ib : Nat) (ls : List Let) : Prop := ∃ A c, X ib ∧ Blk w ib #[.slice A ls.length c] 131 ∧ LetsAt w (fun k => X k ∧ k ≠ ib) A ls ∧ ls.length ≤ c
/-- An inbox that may be written. -/
def InbAt (w : World) (X : Nat → Prop) (ib : Nat) (ls : List Let) : Prop :=
  ∃ A c cs, X ib ∧ Blk w ib #[.slice A ls.length c] 131 ∧ w.ownsRow 0 65 4 (.slice A ls.length c) ls.length cs ∧ LetsC w (fun k => X k ∧ k ≠ ib ∧ (Value.slice A ls.length c).ownBlock ≠ some k) cs ls ∧ ∀ k, (Value.slice A ls.length c).ownBlock = some k → X k
theorem InbRd.chg {S X : Nat → Prop} {w w' : World} {ib : Nat} {ls : List Let} (h : InbRd w X ib ls) (hc : Chg S w w') (hX : ∀ k, X k → ¬ S k) : InbRd w' X ib ls := by
  obtain ⟨A, c, h1, h2, h3, h4⟩ := h
  exact ⟨A, c, h1, hc.blk h2 (hX _ h1), h3.chg hc (fun k hk => hX _ hk.1), h4⟩
theorem InbRd.mono {X X' : Nat → Prop} {w : World} {ib : Nat} {ls : List Let} (h : InbRd w X ib ls) (hX : ∀ k, X k → X' k) : InbRd w X' ib ls := by
  obtain ⟨A, c, h1, h2, h3, h4⟩ := h
  exact ⟨A, c, hX _ h1, h2, h3.mono (fun k hk => ⟨hX _ hk.1, hk.2⟩), h4⟩
theorem InbAt.chg {S X : Nat → Prop} {w w' : World} {ib : Nat} {ls : List Let} (h : InbAt w X ib ls) (hc : Chg S w w') (hX : ∀ k, X k → ¬ S k) : InbAt w' X ib ls := by
  obtain ⟨A, c, cs, h1, h2, h3, h4, h5⟩ := h
  exact ⟨A, c, cs, h1, hc.blk h2 (hX _ h1), hc.owns h3 (fun k hk => hX _ (h5 k hk)), h4.chg hc (fun k hk => hX _ hk.1), h5⟩
theorem InbAt.mono {X X' : Nat → Prop} {w : World} {ib : Nat} {ls : List Let} (h : InbAt w X ib ls) (hX : ∀ k, X k → X' k) : InbAt w X' ib ls := by
  obtain ⟨A, c, cs, h1, h2, h3, h4, h5⟩ := h
  exact ⟨A, c, cs, hX _ h1, h2, h3, h4.mono (fun k hk => ⟨hX _ hk.1, hk.2⟩), fun k hk => hX _ (h5 k hk)⟩
theorem InbAt.rd {X : Nat → Prop} {w : World} {ib : Nat} {ls : List Let} (h : InbAt w X ib ls) : InbRd w X ib ls := by
  obtain ⟨A, c, cs, h1, h2, h3, h4, h5⟩ := h
  exact ⟨A, c, h1, h2, LetsAt.of_own h3 (h4.mono (fun k hk => ⟨hk.1, hk.2.1⟩)) rfl (fun k hk => ⟨h5 k hk, fun e => own_block_ne h3 h2 (by decide) (e ▸ hk)⟩), own_le h3⟩
/-- A letter appended and stored back. -/
theorem inb_push {w W2 w5 w6 : World} {X : Nat → Prop} {ib : Nat} {ls : List Let} {l : Let} {A A5 : Option Addr} {c ca g cap : Nat} {cs : List Value} {box : Obj}
    (h : X ib ∧ Blk w ib #[.slice A ls.length c] 131 ∧ w.ownsRow 0 65 4 (.slice A ls.length c) ls.length cs ∧ LetsC w (fun k => X k ∧ k ≠ ib ∧ (Value.slice A ls.length c).ownBlock ≠ some k) cs ls ∧ (∀ k, (Value.slice A ls.length c).ownBlock = some k → X k) ∧ ∀ k, X k → k < w.heap.size)
    (hb : Below w.heap.size w W2) (hb5 : Below W2.heap.size W2 w5) (hA : ArgsAt w5 (fun k => W2.heap.size ≤ k) A5 ca l.args) (hg : (w5.alloc box).grownBy w6 (Value.slice A ls.length c).ownBlock) (hat : (Value.slice A ls.length c).ownBlock = some g ∨ g = w5.heap.size + 1)
    (ho : w6.ownsRow 0 65 4 (.slice (some ⟨g, 0, none⟩) (ls.length + 1) cap) (ls.length + 1) (cs ++ letC l A5 ca)) :
    InbAt (w6.setCell ⟨ib, 0, none⟩ (.slice (some ⟨g, 0, none⟩) (ls.length + 1) cap)) (fun k => X k ∨ w.heap.size ≤ k) ib (ls ++ [l]) ∧ Chg X w (w6.setCell ⟨ib, 0, none⟩ (.slice (some ⟨g, 0, none⟩) (ls.length + 1) cap)) := by
  obtain ⟨h1, h2, h3, h4, h5, h6⟩ := h
  have hs := hb.size
  have hs5 := hb5.size
  have hb' : Below w.heap.size w w5 := hb.trans (hb5.mono hs)
  have hne := own_block_ne h3 h2 (by decide)
  have hc6 : Chg (fun k => (Value.slice A ls.length c).ownBlock = some k) w5 w6 := ((Chg.refl _ w5).alloc box).grown hg (fun k hk => .inl hk)
  have hc : Chg X w w6 := (Chg.of_below hb' X).trans hc6 (fun i _ hi => h5 i hi)
  have hi6 : Blk w6 ib #[.slice A ls.length c] 131 := hc6.blk (h2.below hb') hne
  have hfin : Chg X w (w6.setCell ⟨ib, 0, none⟩ (.slice (some ⟨g, 0, none⟩) (ls.length + 1) cap)) := hc.put ib 0 (.inl h1) _
  have hgi : g ≠ ib := by
    rcases hat with e | e
    · exact fun e' => hne (e' ▸ e)
    · have := h2.lt; omega
  have hC := (((h4.chg (Chg.of_below hb' (fun _ => False)) (fun _ _ h => h)).mono (X' := fun k => (X k ∨ w.heap.size ≤ k) ∧ k < w5.heap.size ∧ k ≠ ib ∧ (Value.slice A ls.length c).ownBlock ≠ some k) (fun k hk => ⟨.inl hk.1, by have := h6 k hk.1; omega, hk.2.1, hk.2.2⟩)).snoc h3.1 (hA.lt.mono (fun k hk => ⟨.inr (by omega), hk.2, by have := h2.lt; omega, fun e => by have := own_lt h3 k e; omega⟩)))
  have hC2 := (hC.chg hc6 (fun k hk => hk.2.2.2)).chg ((Chg.refl (fun k => k = ib) w6).put ib 0 (.inl rfl) (.slice (some ⟨g, 0, none⟩) (ls.length + 1) cap)) (fun k hk => hk.2.2.1)
  refine ⟨⟨some ⟨g, 0, none⟩, cap, cs ++ letC l A5 ca, .inl h1, by simpa using hi6.set 0 _, ?_, ?_, fun k hk => ?_⟩, hfin⟩
  · rw [List.length_append]
    exact own_setCell ho (by simp [Value.ownBlock]; exact fun e => hgi e.symm) _
  · rw [List.length_append]
    refine hC2.mono (fun k hk => ⟨hk.1, hk.2.2.1, fun e => ?_⟩)
    have e2 : g = k := by injection e
    rcases hat with h | h
    · exact hk.2.2.2 (e2 ▸ h)
    · omega
  · have e2 : g = k := by injection hk
    rcases hat with h | h
    · exact .inl (h5 _ (e2 ▸ h))
    · exact .inr (by omega)

set_option maxRecDepth 100000 in
set_option maxHeartbeats 1000000 in
theorem push_ok (X XA : Nat → Prop) (ib : Nat) (ls : List Let) (l : Let) (hl3 : l.frm.size ≤ 40) (hl4 : l.args.length ≤ 4) (h8 : ls.length < 8) (AL : Option Addr) (cl : Nat) (w : World) (h : InbAt w X ib ls) (hX : ∀ k, X k → k < w.heap.size) (hA : ArgsAt w XA AL cl l.args) :
    Calls Tryz.prog 43 #[.pointer (some ⟨ib, 0, none⟩), .agg #[.string l.frm, .int .u64 l.serial, .int .i64 l.kind, .slice AL l.args.length cl]] w fun e w' => e = .returned (.int .i64 0) ∧ InbAt w' (fun k => X k ∨ w.heap.size ≤ k) ib (ls ++ [l]) ∧ Chg X w w' := by
  obtain ⟨i0, z0, hi, hz0, hz1, hz2, hz3⟩ := info_big info65
  obtain ⟨A, c, cs, h1, h2, h3, h4, h5⟩ := h
  obtain ⟨bx, hbx⟩ : ∃ b, b = w.heap.size := ⟨_, rfl⟩
  obtain ⟨W2, hW2⟩ : ∃ W, W = (w.alloc (.cells #[.string l.frm, .int .u64 l.serial, .int .i64 l.kind, .slice AL l.args.length cl] 65)).alloc (.cells #[.string l.frm, .int .u64 l.serial, .int .i64 l.kind, .slice AL l.args.length cl] 65) := ⟨_, rfl⟩
  have hb2 : Below w.heap.size w W2 := hW2 ▸ ((Below.refl _ _).alloc (Nat.le_refl _) _).alloc (by simp) _
  have HI := Lib.hid (show X ib ∧ Blk w ib #[.slice A ls.length c] 131 ∧ w.ownsRow 0 65 4 (.slice A ls.length c) ls.length cs ∧ LetsC w (fun k => X k ∧ k ≠ ib ∧ (Value.slice A ls.length c).ownBlock ≠ some k) cs ls ∧ (∀ k, (Value.slice A ls.length c).ownBlock = some k → X k) ∧ ∀ k, X k → k < w.heap.size from ⟨h1, h2, h3, h4, h5, hX⟩)
  have HB2 := Lib.hid (show Below w.heap.size w W2.drew from hb2.drew)
  have HI2 := Lib.hid (show Blk W2.drew ib #[.slice A ls.length c] 131 from h2.below hb2.drew)
  have HO2 := Lib.hid (World.ownsRow.drew (own_below h3 hb2))
  have HA2 := Lib.hid (show ArgsAt W2.drew XA AL cl l.args from hA.below hb2.drew)
  have HBX := Lib.hid (show Blk W2.drew bx #[.string l.frm, .int .u64 l.serial, .int .i64 l.kind, .slice AL l.args.length cl] 65 from by rw [hW2, hbx]; exact (Blk.new _ _ _).alloc _)
  have HOX := Lib.hid (show ∀ k, (Value.slice A ls.length c).ownBlock = some k → ¬ k = bx from fun k hk e => by have := own_lt h3 k hk; omega)
  have c0w : w.cell? ⟨ib, 0, none⟩ = some (.slice A ls.length c) := h2.cell 0
  have hltw := h2.lt
  have c0 : W2.drew.cell? ⟨ib, 0, none⟩ = some (.slice A ls.length c) := HI2.out.cell 0
  have d0 : W2.drew.cell? ⟨bx, 0, none⟩ = some (.string l.frm) := HBX.out.cell 0
  have d1 : W2.drew.cell? ⟨bx, 1, none⟩ = some (.int .u64 l.serial) := HBX.out.cell 1
  have d2 : W2.drew.cell? ⟨bx, 2, none⟩ = some (.int .i64 l.kind) := HBX.out.cell 2
  have d3 : W2.drew.cell? ⟨bx, 3, none⟩ = some (.slice AL l.args.length cl) := HBX.out.cell 3
  have t0 : decide ((8 : Int) ≤ (ls.length : Int)) = false := by simp; omega
  have HW2 := Lib.hid hW2
  have HBN := Lib.hid hbx
  clear h1 h2 h3 h4 h5 hb2 hW2 hbx hA hX
  go_enter Tryz.func43, Tryz.ntmps43
  go_wp2_with fail
  refine (formed_letter _ _ _ _ _ _ hl3 hl4 _).mono ?_
  rintro e w3 ⟨rfl, rfl⟩
  rw [← HW2.out, ← HBN.out]
  have c0' : W2.cell? ⟨ib, 0, none⟩ = some (.slice A ls.length c) := c0
  go_upto_region 5 with fail
  obtain ⟨S, hSD⟩ : ∃ S : World → Prop, S = fun w' => w'.cell? ⟨ib, 0, none⟩ = some (.slice A ls.length c) ∧ w'.cell? ⟨bx, 0, none⟩ = some (.string l.frm) ∧ w'.cell? ⟨bx, 1, none⟩ = some (.int .u64 l.serial) ∧ w'.cell? ⟨bx, 2, none⟩ = some (.int .i64 l.kind) ∧ w'.cell? ⟨bx, 3, none⟩ = some (.slice AL l.args.length cl) := ⟨_, rfl⟩
  have HSD := Lib.hid hSD
  clear hSD
  refine Held.region S 11 (by kernel_rfl) (by rw [HSD.out]; exact ⟨c0, d0, d1, d2, d3⟩) (fun hHeld => ?_)
  refine Held.take (i := 0) (oi := { dst := _, op := _, type := _, pos := _, after := _, guard := _ }) (v := ?v0) rfl (by kernel_rfl) (by kernel_rfl) (by kernel_rfl) (by kernel_rfl) (fun _ _ _ h => h) (Or.inl ⟨by rfl, ?hy0⟩) (by assumption) ?rest0
  case hy0 => (intro w hSw; rw [HSD.out] at hSw; (try dsimp only at hSw); go_simp; (try with_reducible rfl))
  try simp only [Act.put, List.setIfInBounds_toArray, List.set_cons_zero, List.set_cons_succ]
  refine Held.take (i := 1) (oi := { dst := _, op := _, type := _, pos := _, after := _, guard := _ }) (v := ?v1) rfl (by kernel_rfl) (by kernel_rfl) (by kernel_rfl) (by kernel_rfl) (fun _ _ _ h => h) (Or.inl ⟨by rfl, ?hy1⟩) (by assumption) ?rest1
  case hy1 => (intro w hSw; rw [HSD.out] at hSw; (try dsimp only at hSw); go_simp; (try with_reducible rfl))
  try simp only [Act.put, List.setIfInBounds_toArray, List.set_cons_zero, List.set_cons_succ]
  refine Held.take (i := 2) (oi := { dst := _, op := _, type := _, pos := _, after := _, guard := _ }) (v := ?v2) rfl (by kernel_rfl) (by kernel_rfl) (by kernel_rfl) (by kernel_rfl) (fun _ _ _ h => h) (Or.inl ⟨by rfl, ?hy2⟩) (by assumption) ?rest2
  case hy2 => (intro w hSw; rw [HSD.out] at hSw; (try dsimp only at hSw); go_simp; (try with_reducible rfl))
  try simp only [Act.put, List.setIfInBounds_toArray, List.set_cons_zero, List.set_cons_succ]
  refine Held.take (i := 3) (oi := { dst := _, op := _, type := _, pos := _, after := _, guard := _ }) (v := ?v3) rfl (by kernel_rfl) (by kernel_rfl) (by kernel_rfl) (by kernel_rfl) (fun _ _ _ h => h) (Or.inl ⟨by rfl, ?hy3⟩) (by assumption) ?rest3
  case hy3 => (intro w hSw; rw [HSD.out] at hSw; (try dsimp only at hSw); go_simp; (try with_reducible rfl))
  try simp only [Act.put, List.setIfInBounds_toArray, List.set_cons_zero, List.set_cons_succ]
  refine Held.take (i := 4) (oi := { dst := _, op := _, type := _, pos := _, after := _, guard := _ }) (v := ?v4) rfl (by kernel_rfl) (by kernel_rfl) (by kernel_rfl) (by kernel_rfl) (fun _ _ _ h => h) (Or.inl ⟨by rfl, ?hy4⟩) (by assumption) ?rest4
  case hy4 => (intro w hSw; rw [HSD.out] at hSw; (try dsimp only at hSw); go_simp; (try with_reducible rfl))
  try simp only [Act.put, List.setIfInBounds_toArray, List.set_cons_zero, List.set_cons_succ]
  refine Held.take (i := 5) (oi := { dst := _, op := _, type := _, pos := _, after := _, guard := _ }) (v := ?v5) rfl (by kernel_rfl) (by kernel_rfl) (by kernel_rfl) (by kernel_rfl) (fun _ _ _ h => h) (Or.inl ⟨by rfl, ?hy5⟩) (by assumption) ?rest5
  case hy5 => (intro w hSw; rw [HSD.out] at hSw; (try dsimp only at hSw); go_simp; (try with_reducible rfl))
  try simp only [Act.put, List.setIfInBounds_toArray, List.set_cons_zero, List.set_cons_succ]
  refine Held.one (i := 6) (o := { dst := _, op := _, type := _, pos := _, after := _, guard := _ }) (by kernel_rfl) rfl (fun K hK => ?_)
  go_simp
  refine (copy_any l hl4 AL cl XA W2.drew HA2.out).mono ?_
  rintro e w5 ⟨A5, ca, rfl, hA5, hb5⟩
  have hi5 := HI2.out.below hb5
  have hx5 := HBX.out.below hb5
  have c5 : w5.cell? ⟨ib, 0, none⟩ = some (.slice A ls.length c) := hi5.cell 0
  have x0 : w5.cell? ⟨bx, 0, none⟩ = some (.string l.frm) := hx5.cell 0
  have x1 : w5.cell? ⟨bx, 1, none⟩ = some (.int .u64 l.serial) := hx5.cell 1
  have x2 : w5.cell? ⟨bx, 2, none⟩ = some (.int .i64 l.kind) := hx5.cell 2
  have x3 : w5.cell? ⟨bx, 3, none⟩ = some (.slice AL l.args.length cl) := hx5.cell 3
  have HI5 := Lib.hid hi5
  have HX5 := Lib.hid hx5
  have HA5 := Lib.hid hA5
  have HB5 := Lib.hid hb5
  clear hi5 hx5 hA5 hb5
  refine hK.out _ _ (fun _ => ?hS6) (fun hHeld1 => ?_)
  case hS6 => (rw [HSD.out]; exact ⟨c5, x0, x1, x2, x3⟩)
  clear hK K
  replace hHeld1 := hHeld1 (by decide)
  try simp only [Act.put, List.setIfInBounds_toArray, List.set_cons_zero, List.set_cons_succ]
  refine Held.one (i := 7) (o := { dst := _, op := _, type := _, pos := _, after := _, guard := _ }) (by kernel_rfl) rfl (fun K hK => ?_)
  go_simp
  refine hK.out _ _ (fun _ => ?hS7) (fun hHeld2 => ?_)
  case hS7 => (rw [HSD.out]; exact ⟨(Blk.alloc HI5.out _).cell 0, (Blk.alloc HX5.out _).cell 0, (Blk.alloc HX5.out _).cell 1, (Blk.alloc HX5.out _).cell 2, (Blk.alloc HX5.out _).cell 3⟩)
  clear hK K
  replace hHeld2 := hHeld2 (by decide)
  try simp only [Act.put, List.setIfInBounds_toArray, List.set_cons_zero, List.set_cons_succ]
  refine Held.one (i := 8) (o := { dst := _, op := _, type := _, pos := _, after := _, guard := _ }) (by kernel_rfl) rfl (fun K hK => ?_)
  have HNW := Lib.hid (show ∀ j u, (letC l A5 ca)[j]? = some u → (w5.alloc (.cells #[.string l.frm, .int .u64 l.serial, .int .i64 l.kind, .slice A5 l.args.length ca] 65)).cell? ((⟨w5.heap.size, 0, none⟩ : Addr).add j) = some u from World.news_of_block (Blk.new _ _ _))
  refine step_append_lies _ (by rfl) (.tmp 24) (.tmp 27) 44 (by rfl) 0 65 i0 z0 4 56 Tryz.underlying44 hi hz0 hz1 hz2 hz3 (by decide) _ ls.length cs (by rfl) (World.ownsRow.alloc (own_below HO2.out HB5.out) _) ⟨w5.heap.size, 0, none⟩ 1 1 (letC l A5 ca) (by rfl) rfl HNW.out (letC_one _ _ _) (by decide) (by unfold maxLen; omega) (by omega) (by simp) (w5.heap.size + 1) (by simp) ?_
  intro g cap w6 ho6 hg6 hat6 hlt6
  have hg6' : (w5.alloc (.cells #[.string l.frm, .int .u64 l.serial, .int .i64 l.kind, .slice A5 l.args.length ca] 65)).grownBy w6 (Value.slice A ls.length c).ownBlock := hg6
  have hat6' : (Value.slice A ls.length c).ownBlock = some g ∨ g = w5.heap.size + 1 := hat6
  have hb6 : Blk w6 ib #[.slice A ls.length c] 131 := (hg6'.block ib (by have := HI5.out.lt; simp; omega) (fun e => own_block_ne HO2.out HI2.out (by decide) e.symm)).trans (HI5.out.alloc _)
  have hx6 : Blk w6 bx #[.string l.frm, .int .u64 l.serial, .int .i64 l.kind, .slice AL l.args.length cl] 65 := (hg6'.block bx (by have := HX5.out.lt; simp; omega) (fun e => HOX.out bx e.symm rfl)).trans (HX5.out.alloc _)
  have c6 : w6.cell? ⟨ib, 0, none⟩ = some (.slice A ls.length c) := hb6.cell 0
  have y0 : w6.cell? ⟨bx, 0, none⟩ = some (.string l.frm) := hx6.cell 0
  have y1 : w6.cell? ⟨bx, 1, none⟩ = some (.int .u64 l.serial) := hx6.cell 1
  have y2 : w6.cell? ⟨bx, 2, none⟩ = some (.int .i64 l.kind) := hx6.cell 2
  have y3 : w6.cell? ⟨bx, 3, none⟩ = some (.slice AL l.args.length cl) := hx6.cell 3
  have f6 : w6.frozen? ⟨ib, 0, none⟩ = false := hb6.free 0
  have HS := Lib.hid (inb_push (l := l) HI.out HB2.out HB5.out HA5.out hg6' hat6' ho6)
  clear ho6 hg6 hg6' hat6 hat6' hlt6 hb6 hx6
  refine hK.out _ _ (fun _ => ?hS8) (fun hHeld3 => ?_)
  case hS8 => (rw [HSD.out]; exact ⟨c6, y0, y1, y2, y3⟩)
  clear hK K
  replace hHeld3 := hHeld3 (by decide)
  try simp only [Act.put, List.setIfInBounds_toArray, List.set_cons_zero, List.set_cons_succ]
  refine Held.one (i := 9) (o := { dst := _, op := _, type := _, pos := _, after := _, guard := _ }) (by kernel_rfl) rfl (fun K hK => ?_)
  go_simp
  refine hK.out _ _ (fun _ => hHeld3) (fun _ => ?_)
  clear hK K
  try simp only [Act.put, List.setIfInBounds_toArray, List.set_cons_zero, List.set_cons_succ]
  refine Held.one (i := 10) (o := { dst := _, op := _, type := _, pos := _, after := _, guard := _ }) (by kernel_rfl) rfl (fun K hK => ?_)
  go_simp
  refine hK.out _ _ (fun _ => hHeld3) (fun _ => ?_)
  clear hK K
  try simp only [Act.put, List.setIfInBounds_toArray, List.set_cons_zero, List.set_cons_succ]
  refine Held.one (i := 11) (o := { dst := _, op := _, type := _, pos := _, after := _, guard := _ }) (by kernel_rfl) rfl (fun K hK => ?_)
  go_simp
  refine hK.out _ _ (fun h => absurd rfl h) (fun _ => ?_)
  clear hK K
  refine Held.done (by kernel_rfl) ?_ _
  refine NoPanic.normal ?_
  go_wp2_with fail
  go_ret
  exact ⟨rfl, HS.out⟩
end Go.Proofs.YtlcdjgpblpodaaaGreatDoor
namespace Go.Proofs.YtlcdjgpblpodaaaGreatDoor
open Go.RowKit Go.Proofs.YtlcdjgpblpodaaaGreatDoorW.PrintWords

set_option maxRecDepth 100000 in
theorem push_full (X : Nat → Prop) (ib : Nat) (ls : List Let) (l : Let) (hl3 : l.frm.size ≤ 40) (hl4 : l.args.length ≤ 4) (h8 : 8 ≤ ls.length) (AL : Option Addr) (cl : Nat) (w : World) (h : InbRd w X ib ls) :
    Calls Tryz.prog 43 #[.pointer (some ⟨ib, 0, none⟩), .agg #[.string l.frm, .int .u64 l.serial, .int .i64 l.kind, .slice AL l.args.length cl]] w fun e w' => e = .returned (.int .i64 7) ∧ Below w.heap.size w w' := by
  obtain ⟨A, c, h1, h2, h3, h4⟩ := h
  have c0w : w.cell? ⟨ib, 0, none⟩ = some (.slice A ls.length c) := h2.cell 0
  have hltw := h2.lt
  have t0 : decide ((8 : Int) ≤ (ls.length : Int)) = true := by simp; omega
  clear h1 h2 h3 h4
  go_enter Tryz.func43, Tryz.ntmps43
  go_wp2_with fail
  refine (formed_letter _ _ _ _ _ _ hl3 hl4 _).mono ?_
  rintro e w3 ⟨rfl, rfl⟩
  go_wp2_with fail
  go_ret
  exact ⟨rfl, ((Below.refl _ _).alloc (Nat.le_refl _) _).alloc (by simp) _⟩
theorem len_any (X : Nat → Prop) (ib : Nat) (ls : List Let) (w : World) (h : InbRd w X ib ls) : Calls Tryz.prog 12 #[.pointer (some ⟨ib, 0, none⟩)] w fun e w' => e = .returned (.int .i64 ls.length) ∧ w = w' := by
  obtain ⟨A, c, h1, h2, h3, h4⟩ := h
  have c0 : w.cell? ⟨ib, 0, none⟩ = some (.slice A ls.length c) := h2.cell 0
  clear h1 h2 h3 h4
  go_enter Tryz.func12, Tryz.ntmps12
  go_wp2
  go_ret
  exact ⟨rfl, rfl⟩
theorem newinbox (w : World) : Calls Tryz.prog 224 #[] w fun e w' => e = .returned (.pointer (some ⟨w.heap.size, 0, none⟩)) ∧ w' = w.alloc (.cells #[.slice none 0 0] 131) := by
  go_enter Tryz.func224, Tryz.ntmps224
  go_wp2
  go_ret
  exact ⟨rfl, rfl⟩
theorem InbAt.new (w : World) : InbAt (w.alloc (.cells #[.slice none 0 0] 131)) (fun k => w.heap.size ≤ k) w.heap.size [] :=
  ⟨none, 0, [], Nat.le_refl _, Blk.new _ _ _, own_nil _ _ _ _, LetsC.nil _ _, fun k hk => by cases hk⟩
set_option maxRecDepth 100000 in
theorem inbenc_any (X : Nat → Prop) (ib : Nat) (ls : List Let) (hl : ∀ l ∈ ls, l.Ok) (h8 : ls.length ≤ 8) (w : World) (h : InbRd w X ib ls) :
    Calls Tryz.prog 161 #[.pointer (some ⟨ib, 0, none⟩)] w fun e w' => ∃ A c, e = .returned (.slice A (encLets ls).length c) ∧ w'.ownsRow w.heap.size 5 1 (.slice A (encLets ls).length c) (encLets ls).length (encs (Value.int .u8) (encLets ls)) ∧ Below w.heap.size w w' := by
  obtain ⟨A, c, h1, h2, h3, h4⟩ := h
  have c0 : w.cell? ⟨ib, 0, none⟩ = some (.slice A ls.length c) := h2.cell 0
  have HP := Lib.hid (pack_any A c ls hl h8 _ w h3)
  obtain ⟨B, hB⟩ : ∃ B, B = encLets ls := ⟨_, rfl⟩
  rw [← hB] at HP ⊢
  clear h1 h2 h3 h4 hl hB
  go_enter Tryz.func161, Tryz.ntmps161
  go_wp2_with fail
  refine HP.out.mono ?_
  rintro e w2 ⟨A', c', rfl, ho, hb⟩
  have HO := Lib.hid ho
  have HB := Lib.hid hb
  clear ho hb
  go_wp2_with fail
  go_ret
  exact ⟨A', c', rfl, HO.out, HB.out⟩
set_option maxRecDepth 100000 in
theorem inbdec_any (A : Option Addr) (c : Nat) (ls : List Let) (hl : ∀ l ∈ ls, l.Ok) (h8 : ls.length ≤ 8) (w : World) (hr : ReadsOf (Value.int .u8) (0 : Int) w A (encLets ls).length (encLets ls)) :
    Calls Tryz.prog 86 #[.slice A (encLets ls).length c] w fun e w' => ∃ ib, e = .returned (.tuple #[.pointer (some ⟨ib, 0, none⟩), .int .i64 0]) ∧ InbAt w' (fun k => w.heap.size ≤ k) ib ls ∧ Below w.heap.size w w' := by
  have HP := Lib.hid (unpack_any A c ls hl h8 w hr)
  obtain ⟨N, hN⟩ : ∃ N, N = (encLets ls).length := ⟨_, rfl⟩
  rw [← hN] at HP ⊢
  have t0 : decide ((8 : Int) < (ls.length : Int)) = false := by simp; omega
  clear hr hl hN
  go_enter Tryz.func86, Tryz.ntmps86
  go_wp2_with fail
  refine HP.out.mono ?_
  rintro e w2 ⟨A', c', cs, rfl, ho, hc, hb⟩
  have HO := Lib.hid ho
  have HC := Lib.hid hc
  have HB := Lib.hid hb
  clear ho hc hb
  go_wp2_with fail
  go_ret2
  have hs := HB.out.size
  have hbb : Below w2.heap.size w2 (w2.alloc (.cells #[.slice A' ls.length c'] 131)) := (Below.refl _ _).alloc (Nat.le_refl _) _
  refine ⟨w2.heap.size, rfl, ⟨A', c', cs, hs, Blk.new _ _ _, own_below (own_weaken HO.out (Nat.zero_le _)) hbb, ?_, fun k hk => own_base HO.out k hk⟩, HB.out.alloc hs _⟩
  refine LetsC.mono (X := fun k => (w.heap.size ≤ k ∧ (Value.slice A' ls.length c').ownBlock ≠ some k) ∧ k < w2.heap.size) (LetsC.chg (S := fun _ => False) (fun i l hl => ?_) (Chg.of_below hbb _) (fun _ _ h => h)) (fun k hk => ⟨hk.1.1, by omega, hk.1.2⟩)
  obtain ⟨A3, c3, e0, e1, e2, e3, e4⟩ := HC.out i l hl
  exact ⟨A3, c3, e0, e1, e2, e3, e4.lt⟩
end Go.Proofs.YtlcdjgpblpodaaaGreatDoor
namespace Go.Proofs.YtlcdjgpblpodaaaGreatDoor
open Go.RowKit Go.Proofs.YtlcdjgpblpodaaaGreatDoorW.PrintWords

theorem cut_let (b off n c : Nat) (hn : 1 ≤ n) (hc : n ≤ c) :
    ∃ A' : Option Addr, (∀ W : World, (Instr.slice 44 (.slice (some ⟨b, off, none⟩) n c) (some (.int .i64 1)) none none).run Tryz.prog W = .ok (.slice A' (n - 1) (c - 1)) W) ∧ (1 < n → A' = some ⟨b, off + 4, none⟩) := by
  obtain ⟨i0, z0, hi, hz0, hz1, hz2, hz3⟩ := info_big info65
  refine ⟨if c = 1 then some ⟨b, off, none⟩ else some ⟨b, off + 4, none⟩, fun W => ?_, fun h => by rw [if_neg (by omega)]⟩
  have hel : Tryz.prog.elem 44 = 65 := by simp [Program.elem, Tryz.underlying44]
  have hu : Tryz.prog.underlying 44 = some (.slice (Tryz.prog.elem 44)) := by rw [hel]; exact Tryz.underlying44
  rw [run_slice_l W 44 (some ⟨b, off, none⟩) n c hu .i64 1 (by omega) (by omega), hel]
  simp [sizeOf, typeInfo, hi, hz1, sliced, Result.andThen, Addr.add]
set_option maxRecDepth 100000 in
theorem first_any (X : Nat → Prop) (ib : Nat) (l : Let) (r : List Let) (hl : l.args.length ≤ 4) (w : World) (h : InbRd w X ib (l :: r)) :
    Calls Tryz.prog 107 #[.pointer (some ⟨ib, 0, none⟩)] w fun e w' => ∃ A c, e = .returned (.tuple #[.agg #[.string l.frm, .int .u64 l.serial, .int .i64 l.kind, .slice A l.args.length c], .bool true]) ∧ ArgsAt w' (fun k => w.heap.size ≤ k) A c l.args ∧ Below w.heap.size w w' := by
  obtain ⟨A, c, h1, h2, h3, h4⟩ := id h
  obtain ⟨W1, hW1⟩ : ∃ W, W = w.alloc (.cells #[.string ⟨#[]⟩, .int .u64 0, .int .i64 0, .slice none 0 0] 65) := ⟨_, rfl⟩
  have hb1 : Below w.heap.size w W1 := hW1 ▸ (Below.refl _ _).alloc (Nat.le_refl _) _
  have HB1 := Lib.hid hb1
  have HR1 := Lib.hid (show Blk W1 w.heap.size #[.string ⟨#[]⟩, .int .u64 0, .int .i64 0, .slice none 0 0] 65 from hW1 ▸ Blk.new _ _ _)
  have HL := Lib.hid (len_any X ib (l :: r) W1 (h.chg (Chg.of_below hb1 (fun _ => False)) (fun _ _ h => h)))
  have c0 : W1.cell? ⟨ib, 0, none⟩ = some (.slice A (l :: r).length c) := (h2.below hb1).cell 0
  obtain ⟨b, off, rfl, hXb, hcell⟩ := (h3.below hb1) (by simp)
  obtain ⟨Aa, ca, g0, g1, g2, g3, g4⟩ := hcell 0 l rfl
  rw [show off + 0 * 4 = off by omega] at g0 g1 g2 g3
  have HC := Lib.hid (copy_any l hl Aa ca _ W1 g4)
  obtain ⟨n, hn⟩ : ∃ n, n = (l :: r).length := ⟨_, rfl⟩
  have hn1 : 0 < n := by rw [hn]; simp
  have t0 : ((n : Int) == 0) = false := by simp; omega
  rw [← hn] at HL c0
  have HW1 := Lib.hid hW1
  clear h h1 h2 h3 h4 hb1 hW1 hcell g4 hn
  go_enter Tryz.func107, Tryz.ntmps107
  go_wp2_with fail
  rw [← HW1.out]
  refine HL.out.mono ?_
  rintro e w2 ⟨rfl, rfl⟩
  go_wp2_with fail
  refine HC.out.mono ?_
  rintro e w3 ⟨A3, c3, rfl, hA, hb⟩
  have hr3 := HR1.out.below hb
  have b0 : w3.cell? ⟨w.heap.size, 0, none⟩ = some (.string ⟨#[]⟩) := hr3.cell 0
  have b1 : w3.cell? ⟨w.heap.size, 1, none⟩ = some (.int .u64 0) := hr3.cell 1
  have b2 : w3.cell? ⟨w.heap.size, 2, none⟩ = some (.int .i64 0) := hr3.cell 2
  have b3 : w3.cell? ⟨w.heap.size, 3, none⟩ = some (.slice none 0 0) := hr3.cell 3
  have q0 := hr3.free 0
  have q1 := hr3.free 1
  have q2 := hr3.free 2
  have q3 := hr3.free 3
  have l1 := hr3.lt
  have HR3 := Lib.hid hr3
  have HA := Lib.hid hA
  have HB := Lib.hid hb
  clear hr3 hA hb
  go_wp2_with fail
  obtain ⟨W4, hW4⟩ : ∃ W, W = (((w3.setCell ⟨w.heap.size, 0, none⟩ (.string l.frm)).setCell ⟨w.heap.size, 1, none⟩ (.int .u64 l.serial)).setCell ⟨w.heap.size, 2, none⟩ (.int .i64 l.kind)).setCell ⟨w.heap.size, 3, none⟩ (.slice A3 l.args.length c3) := ⟨_, rfl⟩
  rw [← hW4]
  have hf : Blk W4 w.heap.size #[.string l.frm, .int .u64 l.serial, .int .i64 l.kind, .slice A3 l.args.length c3] 65 := hW4 ▸ (((HR3.out.set 0 (.string l.frm)).set 1 (.int .u64 l.serial)).set 2 (.int .i64 l.kind)).set 3 (.slice A3 l.args.length c3)
  have hc : Chg (fun k => k = w.heap.size) w3 W4 := hW4 ▸ ((((Chg.refl (fun k => k = w.heap.size) w3).put w.heap.size 0 (.inl rfl) _).put w.heap.size 1 (.inl rfl) _).put w.heap.size 2 (.inl rfl) _).put w.heap.size 3 (.inl rfl) _
  have q4 := HR1.out.lt
  refine bodyPost_ret (v := .tuple #[.agg #[.string l.frm, .int .u64 l.serial, .int .i64 l.kind, .slice A3 l.args.length c3], .bool true]) (results_blk_tmp rfl _ hf rfl rfl Tryz.underlying65 rfl (by kernel_rfl)) rfl ?_
  exact ⟨A3, c3, rfl, (HA.out.chg hc (fun k hk e => by omega)).mono (fun k hk => by omega), (HB1.out.trans (HB.out.mono HB1.out.size)).trans (hc.below (fun k hk => by omega) (by omega))⟩

set_option maxRecDepth 100000 in
theorem pop_any (X : Nat → Prop) (ib : Nat) (l : Let) (r : List Let) (hl : l.args.length ≤ 4) (w : World) (h : InbRd w X ib (l :: r)) :
    Calls Tryz.prog 112 #[.pointer (some ⟨ib, 0, none⟩)] w fun e w' => ∃ A c, e = .returned (.tuple #[.agg #[.string l.frm, .int .u64 l.serial, .int .i64 l.kind, .slice A l.args.length c], .bool true]) ∧ ArgsAt w' (fun k => w.heap.size ≤ k) A c l.args ∧ InbRd w' X ib r ∧ Chg (fun k => k = ib) w w' := by
  obtain ⟨A, c, h1, h2, h3, h4⟩ := id h
  obtain ⟨W1, hW1⟩ : ∃ W, W = w.alloc (.cells #[.string ⟨#[]⟩, .int .u64 0, .int .i64 0, .slice none 0 0] 65) := ⟨_, rfl⟩
  have hb1 : Below w.heap.size w W1 := hW1 ▸ (Below.refl _ _).alloc (Nat.le_refl _) _
  have HB1 := Lib.hid hb1
  have HR1 := Lib.hid (show Blk W1 w.heap.size #[.string ⟨#[]⟩, .int .u64 0, .int .i64 0, .slice none 0 0] 65 from hW1 ▸ Blk.new _ _ _)
  have HF := Lib.hid (first_any X ib l r hl W1 (h.chg (Chg.of_below hb1 (fun _ => False)) (fun _ _ h => h)))
  obtain ⟨b, off, rfl, hXb, hcell⟩ := h3 (by simp)
  obtain ⟨A', hcut, hA'⟩ := cut_let b off (l :: r).length c (by simp) h4
  have HI := Lib.hid (show Blk w ib #[.slice (some ⟨b, off, none⟩) (l :: r).length c] 131 from h2)
  have HL := Lib.hid (show LetsAt w (fun k => X k ∧ k ≠ ib) A' r from fun hne => by
    have : 1 < (l :: r).length := by
      cases r with
      | nil => exact absurd rfl hne
      | cons _ _ => simp
    refine ⟨b, off + 4, hA' this, hXb, fun i l' hl' => ?_⟩
    have := hcell (i + 1) l' (by simpa using hl')
    rw [show off + (i + 1) * 4 = off + 4 + i * 4 by omega] at this
    exact this)
  have HX := Lib.hid h1
  have hr4 : r.length ≤ c - 1 := by simp at h4; omega
  obtain ⟨n, hn⟩ : ∃ n, n = (l :: r).length := ⟨_, rfl⟩
  have hn1 : n - 1 = r.length := by rw [hn]; simp
  rw [← hn] at HI
  rw [← hn, hn1] at hcut
  have hib := h2.lt
  have HW1 := Lib.hid hW1
  clear h h1 h2 h3 h4 hb1 hW1 hcell hn hn1 hA' hXb
  go_enter Tryz.func112, Tryz.ntmps112
  go_wp2_with fail
  rw [← HW1.out]
  refine HF.out.mono ?_
  rintro e w3 ⟨A3, c3, rfl, hA, hb⟩
  have hr3 := HR1.out.below hb
  have hi3 := (HI.out.below HB1.out).below hb
  have c0 : w3.cell? ⟨ib, 0, none⟩ = some (.slice (some ⟨b, off, none⟩) n c) := hi3.cell 0
  have f0 := hi3.free 0
  have b0 : w3.cell? ⟨w.heap.size, 0, none⟩ = some (.string ⟨#[]⟩) := hr3.cell 0
  have b1 : w3.cell? ⟨w.heap.size, 1, none⟩ = some (.int .u64 0) := hr3.cell 1
  have b2 : w3.cell? ⟨w.heap.size, 2, none⟩ = some (.int .i64 0) := hr3.cell 2
  have b3 : w3.cell? ⟨w.heap.size, 3, none⟩ = some (.slice none 0 0) := hr3.cell 3
  have q0 := hr3.free 0
  have q1 := hr3.free 1
  have q2 := hr3.free 2
  have q3 := hr3.free 3
  have l1 := hr3.lt
  have l2 := hi3.lt
  have hne : ib ≠ w.heap.size := by omega
  have HR3 := Lib.hid hr3
  have HI3 := Lib.hid hi3
  have HA := Lib.hid hA
  have HB := Lib.hid hb
  clear hr3 hi3 hA hb
  go_wp2_with fail
  obtain ⟨W4, hW4⟩ : ∃ W, W = ((((w3.setCell ⟨ib, 0, none⟩ (.slice A' r.length (c - 1))).setCell ⟨w.heap.size, 0, none⟩ (.string l.frm)).setCell ⟨w.heap.size, 1, none⟩ (.int .u64 l.serial)).setCell ⟨w.heap.size, 2, none⟩ (.int .i64 l.kind)).setCell ⟨w.heap.size, 3, none⟩ (.slice A3 l.args.length c3) := ⟨_, rfl⟩
  rw [← hW4]
  have hf : Blk W4 w.heap.size #[.string l.frm, .int .u64 l.serial, .int .i64 l.kind, .slice A3 l.args.length c3] 65 := hW4 ▸ ((((HR3.out.other (a := ⟨ib, 0, none⟩) (Ne.symm hne) _).set 0 (.string l.frm)).set 1 (.int .u64 l.serial)).set 2 (.int .i64 l.kind)).set 3 (.slice A3 l.args.length c3)
  have hi4 : Blk W4 ib #[.slice A' r.length (c - 1)] 131 := by
    rw [hW4]
    exact ((((HI3.out.set 0 (.slice A' r.length (c - 1))).other (a := ⟨w.heap.size, 0, none⟩) hne _).other (a := ⟨w.heap.size, 1, none⟩) hne _).other (a := ⟨w.heap.size, 2, none⟩) hne _).other (a := ⟨w.heap.size, 3, none⟩) hne _
  have hc : Chg (fun k => k = ib ∨ k = w.heap.size) w3 W4 := hW4 ▸ (((((Chg.refl (fun k => k = ib ∨ k = w.heap.size) w3).put ib 0 (.inl (.inl rfl)) _).put w.heap.size 0 (.inl (.inr rfl)) _).put w.heap.size 1 (.inl (.inr rfl)) _).put w.heap.size 2 (.inl (.inr rfl)) _).put w.heap.size 3 (.inl (.inr rfl)) _
  have q4 := HR1.out.lt
  have hbb : Below W4.heap.size W4 (W4.alloc (.cells #[.string l.frm, .int .u64 l.serial, .int .i64 l.kind, .slice A3 l.args.length c3] 65)) := (Below.refl _ _).alloc (Nat.le_refl _) _
  have hcw : Chg (fun k => k = ib) w (W4.alloc (.cells #[.string l.frm, .int .u64 l.serial, .int .i64 l.kind, .slice A3 l.args.length c3] 65)) :=
    ((Chg.of_below (HB1.out.trans (HB.out.mono HB1.out.size)) (fun k => k = ib)).trans hc (fun i hi hs => hs.elim id (fun e => by omega))).then_below hbb
  refine bodyPost_ret (v := .tuple #[.agg #[.string l.frm, .int .u64 l.serial, .int .i64 l.kind, .slice A3 l.args.length c3], .bool true]) (results_blk_tmp rfl _ (hf.below hbb) rfl rfl Tryz.underlying65 rfl (by kernel_rfl)) rfl ?_
  refine ⟨A3, c3, rfl, ((HA.out.chg hc (fun k hk e => by omega)).below hbb).mono (fun k hk => by omega), ⟨A', c - 1, HX.out, hi4.below hbb, HL.out.chg hcw (fun k hk => hk.2), hr4⟩, hcw⟩
end Go.Proofs.YtlcdjgpblpodaaaGreatDoor

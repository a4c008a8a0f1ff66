/- Win4 -/
import Derived.Test.YtlcdjgpblpodaaaGreatDoorMAQ
namespace Go.Proofs.YtlcdjgpblpodaaaGreatDoor
open Go.RowKit Go.Maps Go.Proofs.YtlcdjgpblpodaaaGreatDoorW.PrintWords

/-- Amid Add: the map is there; xs are the client's serials so far; G: the order's block. -/
structure AddMid (N : Nat) (w0 : World) (X : Nat → Prop) (w : World) (wb kb c : Nat) (xs : List Nat) (os : List Int) (mb n : Nat) (f : Lit → Option Value) (A : Option Addr) (cc : Nat) (O : Option Addr) (oc : Nat) : Prop where
  blk : Blk w wb #[.map (some mb), .slice O os.length oc] 194
  kblk : Blk w kb #[.int .u64 c] 32
  map : MapAt w 32 mb n f
  has : (f (.int .u64 c)).getD (.slice none 0 0) = .slice A xs.length cc
  small : n ≤ N
  reads : ReadsOf (Value.int .u64) (0 : Int) w A (ints xs).length (ints xs)
  spot : ∀ a, A = some a → a.spot = none
  order : (os = [] ∧ O = none ∧ oc = 0) ∨ (os = [(c : Int)] ∧ ∃ g, O = some ⟨g, 0, none⟩)
  own : w.ownsRow 0 32 1 (.slice O os.length oc) os.length (encs (Value.int .u64) os)
  wbin : X wb
  mbin : X mb ∨ w0.heap.size ≤ mb
  oin : ∀ k, (Value.slice O os.length oc).ownBlock = some k → X k ∧ k ≠ mb
  kin : w0.heap.size ≤ kb
  mw : mb ≠ wb
  mkb : mb ≠ kb
  chg : Chg X w0 w

theorem AddMid.below {N : Nat} {w0 w w' : World} {X : Nat → Prop} {wb kb c mb n cc oc : Nat} {xs : List Nat} {os : List Int} {f : Lit → Option Value} {A O : Option Addr} (h : AddMid N w0 X w wb kb c xs os mb n f A cc O oc) (hb : Below w.heap.size w w') : AddMid N w0 X w' wb kb c xs os mb n f A cc O oc :=
  ⟨h.blk.below hb, h.kblk.below hb, h.map.below hb, h.has, h.small, h.reads.below hb, h.spot, h.order, own_below h.own hb, h.wbin, h.mbin, h.oin, h.kin, h.mw, h.mkb, h.chg.then_below hb⟩
/-- Behind the map's new entry; B: all of this lay below. -/
structure AddFin (N : Nat) (w0 : World) (X : Nat → Prop) (w : World) (B wb kb c : Nat) (xs : List Nat) (s : Nat) (os : List Int) (mb n : Nat) (f : Lit → Option Value) (A3 : Option Addr) (c3 : Nat) (O : Option Addr) (oc : Nat) : Prop where
  blk : Blk w wb #[.map (some mb), .slice O os.length oc] 194
  kblk : Blk w kb #[.int .u64 c] 32
  map : MapAt w 32 mb (n + 1) (putF f (.int .u64 c) (.slice A3 (xs.length + 1 - (xs.length + 1 - 4)) c3))
  small : n ≤ N
  reads : ReadsOf (Value.int .u64) (0 : Int) w A3 (ints ((xs ++ [s]).drop (xs.length + 1 - 4))).length (ints ((xs ++ [s]).drop (xs.length + 1 - 4)))
  cap : xs.length + 1 - (xs.length + 1 - 4) ≤ c3
  apart : ∀ a, A3 = some a → w0.heap.size ≤ a.block ∧ a.block ≠ wb ∧ a.block ≠ mb ∧ ¬ (Value.slice O os.length oc).ownBlock = some a.block ∧ a.block < B
  order : (os = [] ∧ O = none ∧ oc = 0) ∨ (os = [(c : Int)] ∧ ∃ g, O = some ⟨g, 0, none⟩)
  wbin : X wb
  wlt : wb < B
  mbin : X mb ∨ w0.heap.size ≤ mb
  mlt : mb < B
  oin : ∀ k, (Value.slice O os.length oc).ownBlock = some k → X k ∧ k ≠ mb ∧ k ≠ wb ∧ k ≠ kb ∧ k < w0.heap.size
  kin : w0.heap.size ≤ kb
  mw : mb ≠ wb
  blt : B ≤ w.heap.size
  chg : Chg X w0 w
section
variable {N B wb kb c s mb n c3 oc : Nat} {w0 w w' : World} {X : Nat → Prop} {xs : List Nat} {os : List Int} {f : Lit → Option Value} {A3 O : Option Addr}
theorem AddFin.chg' (h : AddFin N w0 X w B wb kb c xs s os mb n f A3 c3 O oc) (hc : Chg (fun k => (Value.slice O os.length oc).ownBlock = some k) w w') : AddFin N w0 X w' B wb kb c xs s os mb n f A3 c3 O oc :=
  ⟨hc.blk h.blk (fun e => (h.oin _ e).2.2.1 rfl), hc.blk h.kblk (fun e => (h.oin _ e).2.2.2.1 rfl), h.map.chg hc (fun e => (h.oin _ e).2.1 rfl), h.small, hc.reads h.reads (fun a ha => (h.apart a ha).2.2.2.1), h.cap, h.apart, h.order, h.wbin, h.wlt, h.mbin, h.mlt, h.oin, h.kin, h.mw, Nat.le_trans h.blt hc.size, h.chg.trans hc (fun i _ e => (h.oin i e).1)⟩
theorem AddFin.below (h : AddFin N w0 X w B wb kb c xs s os mb n f A3 c3 O oc) (hb : Below w.heap.size w w') : AddFin N w0 X w' B wb kb c xs s os mb n f A3 c3 O oc := h.chg' (Chg.of_below hb _)
theorem AddFin.fin (h : AddFin N w0 X w B wb kb c xs s os mb n f A3 c3 O oc) {g cap U : Nat} (ho : w.ownsRow 0 32 1 (.slice (some ⟨g, 0, none⟩) 1 cap) 1 [.int .u64 c]) (hg : (Value.slice O os.length oc).ownBlock = some g ∨ U ≤ g) (hU : B ≤ U) (hB : w0.heap.size ≤ B) :
    WinOne (N + 1) (w.setCell ⟨wb, 1, none⟩ (.slice (some ⟨g, 0, none⟩) 1 cap)) (fun k => X k ∨ w0.heap.size ≤ k) wb c ((xs ++ [s]).drop (xs.length + 1 - 4)) mb (n + 1) (putF f (.int .u64 c) (.slice A3 (xs.length + 1 - (xs.length + 1 - 4)) c3)) A3 c3 g cap ∧ Chg X w0 (w.setCell ⟨wb, 1, none⟩ (.slice (some ⟨g, 0, none⟩) 1 cap)) := by
  have hwl := h.wlt
  have hml := h.mlt
  have hgw : g ≠ wb := by
    rcases hg with e | e
    · exact (h.oin _ e).2.2.1
    · omega
  have hgm : g ≠ mb := by
    rcases hg with e | e
    · exact (h.oin _ e).2.1
    · omega
  have hga : ∀ a, A3 = some a → a.block ≠ g := fun a ha e => by
    have h1 := h.apart a ha
    rcases hg with e' | e'
    · exact h1.2.2.2.1 (e ▸ e')
    · have := h1.2.2.2.2; omega
  have hc : Chg (fun k => k = wb) w (w.setCell ⟨wb, 1, none⟩ (.slice (some ⟨g, 0, none⟩) 1 cap)) := (Chg.refl (fun k => k = wb) w).put wb 1 (.inl rfl) _
  have hlen : ((xs ++ [s]).drop (xs.length + 1 - 4)).length = xs.length + 1 - (xs.length + 1 - 4) := by simp
  refine ⟨⟨.inl h.wbin, h.blk.set 1 _, h.map.chg hc h.mw, h.mbin, by rw [putF_same, hlen], Nat.succ_le_succ h.small, hc.reads h.reads (fun a ha => (h.apart a ha).2.1), by rw [hlen]; exact h.cap, fun a ha => ?_, fun a ha => ⟨.inr (h.apart a ha).1, (h.apart a ha).2.1, (h.apart a ha).2.2.1, hga a ha⟩, own_setCell ho (by simp [Value.ownBlock]; exact fun e => hgw e.symm) _, ?_, h.mw, hgw, hgm⟩, h.chg.put wb 1 (.inl h.wbin) _⟩
  · obtain ⟨ad, e, hcell⟩ := h.reads.2.2 (by simp [ints]; omega)
    rw [ha] at e
    injection e with e
    subst e
    have := World.cell?_spot (hcell 0 (by simp [ints]; omega))
    obtain ⟨b, off, sp⟩ := a
    simpa [Addr.add] using this
  · rcases hg with e | e
    · exact .inl (h.oin _ e).1
    · exact .inr (by omega)
theorem add_fin {wc w5 w6 : World} {cc0 c2 m4 : Nat} {A A2 : Option Addr} (hX : ∀ k, X k → k < w0.heap.size) (hM : AddMid N w0 X wc wb kb c xs os mb n f A cc0 O oc) (hb5 : Below wc.heap.size wc w5)
    (ho5 : w5.ownsRow wc.heap.size 32 1 (.slice A2 (xs.length + 1) c2) (xs.length + 1) (encs (Value.int .u64) (ints xs) ++ [.int .u64 s])) (hm : m4 = xs.length + 1 - 4) (hc : c3 = c2 - m4)
    (hrd : ∀ (w : World) (l : List Int), ReadsOf (Value.int .u64) (0 : Int) w A2 (xs.length + 1) l → ReadsOf (Value.int .u64) (0 : Int) w A3 (xs.length + 1 - m4) (l.drop m4)) (hxs3 : ∀ X : Nat → Prop, (∀ a, A2 = some a → X a.block) → ∀ a, A3 = some a → X a.block)
    (hm6 : MapAt w6 32 mb (n + 1) (putF f (.int .u64 c) (.slice A3 (xs.length + 1 - m4) c3))) (hc6 : Chg (fun k => k = mb) w5.drew w6) :
    AddFin N w0 X w6 w5.heap.size wb kb c xs s os mb n f A3 c3 O oc ∧ w6.ownsRow 0 32 1 (.slice O os.length oc) os.length (encs (Value.int .u64) os) := by
  subst hm
  have hM5 := hM.below hb5
  have hcap := own_le ho5
  have hs0 := hM.chg.size
  have hs5 := hb5.size
  have hs6 : w5.heap.size ≤ w6.heap.size := hc6.size
  have hbl : ∀ a, A3 = some a → wc.heap.size ≤ a.block ∧ a.block < w5.heap.size := hxs3 (fun k => wc.heap.size ≤ k ∧ k < w5.heap.size) (fun a ha => ⟨own_base ho5 _ (by rw [ha]; rfl), own_lt ho5 _ (by rw [ha]; rfl)⟩)
  have hwl := hM.blk.lt
  have hml := hM.map.lt
  have hoin : ∀ k, (Value.slice O os.length oc).ownBlock = some k → X k ∧ k ≠ mb ∧ k ≠ wb ∧ k ≠ kb ∧ k < w0.heap.size := fun k hk => by
    have h1 := hM.oin k hk
    have h2 := hX _ h1.1
    have h3 := hM.kin
    exact ⟨h1.1, h1.2, fun e => own_block_ne hM.own hM.blk (by decide) (e ▸ hk), by omega, h2⟩
  have hr5 : ReadsOf (Value.int .u64) (0 : Int) w5 A2 (xs.length + 1) (ints (xs ++ [s])) := by
    have e : encs (Value.int .u64) (ints xs) ++ [.int .u64 s] = encs (Value.int .u64) (ints (xs ++ [s])) := by simp [encs, ints]
    rw [e] at ho5
    obtain ⟨A', c', he, hle, hr⟩ := own_reads_of_le (d := (0 : Int)) ho5
    injection he with he1 _ he3
    subst he1 he3
    exact hr
  have hr6 := hrd w5 _ hr5
  have hmap : (ints (xs ++ [s])).drop (xs.length + 1 - 4) = ints ((xs ++ [s]).drop (xs.length + 1 - 4)) := by simp [ints, List.map_drop]
  have hlen : (ints ((xs ++ [s]).drop (xs.length + 1 - 4))).length = xs.length + 1 - (xs.length + 1 - 4) := by simp [ints]
  rw [hmap] at hr6
  have hnd : Chg (fun k => k = mb) w5 w6 := ((Chg.refl (fun k => k = mb) w5).drew).trans hc6 (fun _ _ h => h)
  refine ⟨⟨hnd.blk hM5.blk (fun e => hM.mw e.symm), hnd.blk hM5.kblk (fun e => hM.mkb e.symm), hm6, hM.small, ?_, by omega, fun a ha => ?_, hM.order, hM.wbin, by omega, hM.mbin, by omega, hoin, hM.kin, hM.mw, hs6, hM5.chg.trans hnd (fun i hi e => ?_)⟩, hnd.owns hM5.own (fun k hk => (hM.oin k hk).2)⟩
  · rw [hlen]
    exact hnd.reads hr6 (fun a ha => by have := hbl a ha; omega)
  · have := hbl a ha
    exact ⟨by omega, by omega, by omega, fun e => by have := (hoin _ e).2.2.2.2; omega, by omega⟩
  · subst e
    rcases hM.mbin with h | h
    · exact h
    · omega
theorem del_any {U0 U : World} (hc : Chg (fun _ => False) U0 U) (hF : AddFin N w0 X U0 B wb kb c xs s os mb n f A3 c3 O oc) (ho : U0.ownsRow 0 32 1 (.slice O os.length oc) os.length (encs (Value.int .u64) os)) :
    Calls Tryz.prog 99 #[.slice O os.length oc, .func (.func 100) #[] #[.pointer (some ⟨kb, 0, none⟩)]] U fun e u => ∃ O' oc', e = .returned (.slice O' 0 oc') ∧ u.ownsRow 0 32 1 (.slice O' 0 oc') 0 [] ∧ (∀ k, (Value.slice O' 0 oc').ownBlock = some k → (Value.slice O os.length oc).ownBlock = some k) ∧ Chg (fun k => (Value.slice O os.length oc).ownBlock = some k) U u := by
  have ho' := hc.owns ho (fun _ _ h => h)
  have hk : U.cell? ⟨kb, 0, none⟩ = some (.int .u64 c) := (hc.blk hF.kblk (fun h => h)).cell 0
  rcases hF.order with ⟨rfl, rfl, rfl⟩ | ⟨rfl, g, rfl⟩
  · exact (delete99_nil _ U).mono fun e u q => ⟨none, 0, q.1, by rw [← q.2]; exact ho', fun _ h => h, q.2 ▸ Chg.refl _ _⟩
  · exact (delete99 g oc c kb U (own_le ho') ho' hk).mono fun e u q => ⟨some ⟨g, 0, none⟩, oc, q.1, q.2.1, fun _ h => h, q.2.2.mono (fun k _ e => by rw [show k = g from e]; rfl)⟩
end
set_option maxRecDepth 100000 in
set_option maxHeartbeats 1000000 in
theorem addwin {N : Nat} (X : Nat → Prop) (wb : Nat) (W : Win) (c s : Nat) (hc : U64 c) (hW : ∀ e ∈ W.rows, e.1 = c ∧ e.2.length ≤ 4) (hs : seenW W s = false) (hN : N ≤ 1000) (w : World) (h : WinAt N w X wb W) (hX : ∀ k, X k → k < w.heap.size) :
    Calls Tryz.prog 45 #[.pointer (some ⟨wb, 0, none⟩), .int .u64 c, .int .u64 s] w fun e w' => e = .returned (.bool true) ∧ WinAt (N + 1) w' (fun k => X k ∨ w.heap.size ≤ k) wb (addW W c s) ∧ Chg X w w' := by
  have hmm := @run_makeMap Tryz.prog
  obtain ⟨i32, hi32, hz32, hs32, hb32⟩ := info_parts info32
  obtain ⟨kb, hkb⟩ : ∃ b, b = w.heap.size := ⟨_, rfl⟩
  obtain ⟨W1, hW1⟩ : ∃ V, V = w.alloc (.cells #[.int .u64 c] 32) := ⟨_, rfl⟩
  have hb1 : Below w.heap.size w W1 := hW1 ▸ (Below.refl _ _).alloc (Nat.le_refl _) _
  have hk1 : Blk W1 kb #[.int .u64 c] 32 := hW1 ▸ Blk.newAt hkb
  have k0 : W1.cell? ⟨kb, 0, none⟩ = some (.int .u64 c) := hk1.cell 0
  have hw1 : WinAt N W1 X wb W := h.chg (Chg.of_below hb1 (fun _ => False)) (fun _ _ h => h)
  have HS := Lib.hid (seen_any X wb W c s hc (fun e he => (hW e he).1) W1 hw1)
  rw [hs] at HS
  have HK1 := Lib.hid hk1
  have HB1 := Lib.hid hb1
  have HW1 := Lib.hid hW1
  have HKB := Lib.hid hkb
  have HX := Lib.hid hX
  have HWr := Lib.hid hW
  have HWN := Lib.hid hw1
  obtain ⟨xs, hxs⟩ : ∃ xs : List Nat, addW W c s = ⟨[(c, (xs ++ [s]).drop (xs.length + 1 - 4))]⟩ ∧ xs.length ≤ 4 ∧ ((W = ⟨[]⟩ ∧ xs = []) ∨ ∃ r, W = ⟨(c, xs) :: r⟩) := by
    obtain ⟨rows⟩ := W
    match rows, hW with
    | [], _ => exact ⟨[], rfl, by simp, .inl ⟨rfl, rfl⟩⟩
    | (c', xs) :: r, hW =>
      obtain rfl : c' = c := (hW _ (List.mem_cons_self ..)).1
      exact ⟨xs, rfl, (hW _ (List.mem_cons_self ..)).2, .inr ⟨r, rfl⟩⟩
  have HXS := Lib.hid hxs
  obtain ⟨m, hm⟩ : ∃ m, Hid (W1.cell? ⟨wb, 0, none⟩ = some (.map m)) := by
    obtain ⟨rows⟩ := W
    match rows, hw1 with
    | [], h => exact ⟨none, h.2.cell 0⟩
    | (c', xs) :: r, ⟨mb, n, f, A, cc, g, oc, h⟩ => exact ⟨some mb, h.blk.cell 0⟩
  have heq : (binOp .eql 191 (.map m) (.map none)).run Tryz.prog W1 = .ok (.bool m.isNone) W1 := run_eql_map_nil W1 191 32 192 m Tryz.underlying191
  have c0 : W1.cell? ⟨wb, 0, none⟩ = some (.map m) := hm
  clear hm hxs hb1 hk1 hW1 hkb hX hW hw1
  go_enter Tryz.func45, Tryz.ntmps45
  go_wp2_with fail
  rw [← HW1.out, ← HKB.out]
  refine HS.out.mono ?_
  rintro e w' ⟨rfl, rfl⟩
  go_upto_if 20 with fail
  go_cut [24] from 21 to 24 (fun v24 wx => Hid (∃ os mb n f A cc O oc, AddMid N w X wx wb kb c xs os mb n f A cc O oc))
  case first =>
    rcases HXS.out.2.2 with ⟨rfl, rfl⟩ | ⟨r, rfl⟩
    · obtain ⟨h1, h2⟩ := HWN.out
      have e0 : W1.cell? ⟨wb, 0, none⟩ = some (.map none) := h2.cell 0
      obtain rfl : m = none := by rw [c0] at e0; injection e0 with e0; injection e0
      have f0 := h2.free 0
      have hlt := h2.lt
      have hne : ¬ W1.heap.size = wb := by omega
      obtain ⟨W2, hW2⟩ : ∃ V, V = (W1.setCell ⟨wb, 0, none⟩ (.map (some W1.heap.size))).alloc (.map #[] 0) := ⟨_, rfl⟩
      have hmap : MapAt W2 32 W1.heap.size 0 (fun _ => none) := by rw [hW2]; have := MapAt.new (W1.setCell ⟨wb, 0, none⟩ (.map (some W1.heap.size))) 32; rwa [show (W1.setCell ⟨wb, 0, none⟩ (.map (some W1.heap.size))).heap.size = W1.heap.size by simp [World.setCell]] at this
      have hblk : Blk W2 wb #[.map (some W1.heap.size), .slice none 0 0] 194 := by rw [hW2]; exact (h2.set 0 _).alloc _
      have hkb : Blk W2 kb #[.int .u64 c] 32 := by rw [hW2]; exact (HK1.out.other (fun e => by have e' : kb = wb := e; have := HX.out _ h1; have := HKB.out; omega) _).alloc _
      have hchg : Chg X w W2 := by rw [hW2]; exact ((Chg.of_below HB1.out X).put wb 0 (.inl h1) _).alloc _
      have hb1 := HB1.out.size
      have HM := Lib.hid (show AddMid N w X W2 wb kb c [] [] W1.heap.size 0 (fun _ => none) none 0 none 0 from
        ⟨hblk, hkb, hmap, rfl, Nat.zero_le _, ⟨rfl, Nat.zero_le _, fun h => absurd h (Nat.lt_irrefl _)⟩, (fun _ h => by cases h), .inl ⟨rfl, rfl, rfl⟩, own_nil _ _ _ _, h1, .inr hb1, (fun _ h => by cases h), by have := HKB.out; omega, hne, by have := HK1.out.lt; omega, hchg⟩)
      have HW2 := Lib.hid hW2
      clear h1 h2 e0 hmap hblk hkb hchg hb1 hW2
      go_wp2_with fail
      go_meet
      rw [← HW2.out]
      exact ⟨_, _, _, _, _, _, _, _, HM.out⟩
    · obtain ⟨mb, n, f, A, cc, g, oc, h⟩ := HWN.out
      have e0 : W1.cell? ⟨wb, 0, none⟩ = some (.map (some mb)) := h.blk.cell 0
      obtain rfl : m = some mb := by rw [c0] at e0; injection e0 with e0; injection e0
      have hb1 := HB1.out.size
      have HM := Lib.hid (show AddMid N w X W1 wb kb c xs [(c : Int)] mb n f A cc (some ⟨g, 0, none⟩) oc from
        ⟨h.blk, HK1.out, h.map, by rw [h.has]; rfl, h.small, h.reads, h.spot, .inr ⟨rfl, g, rfl⟩, h.own, h.pin, .inl h.mapin, fun k hk => by have e : g = k := (by injection hk); exact e ▸ ⟨h.ownin, h.gm⟩, by have := HKB.out; omega, h.mw, by have := HX.out _ h.mapin; have := HKB.out; omega, Chg.of_below HB1.out X⟩)
      clear h e0 hb1
      go_wp2_with fail
      go_meet
      exact ⟨_, _, _, _, _, _, _, _, HM.out⟩
  case rest =>
    obtain ⟨os, mb, n, f, A, cc, O, oc, h⟩ := hcut
    have HM := Lib.hid h
    have hx4 := HXS.out.2.1
    have hkl := h.kblk.lt
    have hwl := h.blk.lt
    have k0 : wc.cell? ⟨kb, 0, none⟩ = some (.int .u64 c) := h.kblk.cell 0
    have d0 : wc.cell? ⟨wb, 0, none⟩ = some (.map (some mb)) := h.blk.cell 0
    have HSR := Lib.hid (serials_map wb c mb n cc xs f A hc (by omega) wc d0 h.map h.has h.reads h.spot)
    clear h
    go_wp2_with fail
    refine HSR.out.mono ?_
    rintro e w3 ⟨A1, c1, rfl, ho1, hb3⟩
    have HO1 := Lib.hid ho1
    have HB3 := Lib.hid hb3
    clear ho1 hb3
    have HNW := Lib.hid (show ∀ j u, ([.int .u64 s] : List Value)[j]? = some u → ∃ ad, (some ⟨w3.heap.size, 0, none⟩ : Option Addr) = some ad ∧ (w3.alloc (.cells #[.int .u64 s] 32)).cell? (ad.add j) = some u from fun j u hu => ⟨_, rfl, World.news_of_block (Blk.new _ _ _) j u hu⟩)
    go_wp2_with (at_builtin; refine wpList_append_any (by rfl) (.tmp 27) (.tmp 29) 192 (by rfl) Tryz.underlying192 hi32 hz32 hs32 hb32 rfl (by decide) (by rfl) (own_alloc HO1.out _) (news := [.int .u64 s]) (m := 1) (by rfl) rfl HNW.out (by simp [Value.oneCell']) (by simp) (by omega) (by decide) (by have := HB3.out.size; simp; omega) ?_)
    intro v5 w5 ho5 hg5 hat5
    obtain ⟨L, hL⟩ : ∃ L, L = xs.length + 1 := ⟨_, rfl⟩
    rw [← hL] at ho5
    obtain ⟨A2, c2, rfl⟩ := own_slice ho5
    have hb5 : Below wc.heap.size wc w5 := (((Chg.of_below HB3.out (fun k => wc.heap.size ≤ k)).alloc (.cells #[.int .u64 s] 32)).grown hg5 (fun k hk => .inl (own_base HO1.out k hk))).below (fun k hk => hk) (Nat.le_refl _)
    have HB5 := Lib.hid hb5
    have HM5 := Lib.hid (HM.out.below hb5)
    obtain ⟨m4, hm4⟩ : ∃ m4, m4 = L - 4 := ⟨_, rfl⟩
    have hcap := own_le ho5
    obtain ⟨A3, hcut, hrd, hxs3⟩ := cut_lo (P := Tryz.prog) (enc := Value.int .u64) (d := (0 : Int)) 192 32 .i64 Tryz.underlying192 hi32 hs32 A2 L c2 m4 (by omega) hcap
    obtain ⟨c3, hc3⟩ : ∃ c3, c3 = c2 - m4 := ⟨_, rfl⟩
    obtain ⟨l3, hl3⟩ : ∃ l3, l3 = L - m4 := ⟨_, rfl⟩
    rw [← hc3, ← hl3] at hcut
    have hwr : IntKind.i64.wrap ((L : Int) - 4) = (L : Int) - 4 := by rw [IntKind.wrap_i64]; omega
    have hmx : max ((L : Int) - 4) 0 = (m4 : Int) := by omega
    have d5 : w5.drew.cell? ⟨wb, 0, none⟩ = some (.map (some mb)) := HM5.out.blk.cell 0
    have k5 : w5.drew.cell? ⟨kb, 0, none⟩ = some (.int .u64 c) := HM5.out.kblk.cell 0
    have hmd : MapAt w5.drew 32 mb n f := HM5.out.map.chg (Chg.refl (fun _ => False) _).drew (fun h => h)
    obtain ⟨w6, hput, hm6, hc6⟩ := hmd.put u64_law Tryz.underlying191 (by have := HM5.out.small; omega) (v := .slice A3 l3 c3) (keyU64 c hc)
    have HFIN6 := Lib.hid (by subst hL; rw [hl3] at hm6; exact add_fin HX.out HM.out HB5.out ho5 hm4 hc3 hrd hxs3 (by subst hm4; exact hm6) hc6 : AddFin N w X w6 w5.heap.size wb kb c xs s os mb n f A3 c3 O oc ∧ w6.ownsRow 0 32 1 (.slice O os.length oc) os.length (encs (Value.int .u64) os))
    have m0 : (0 : Int) ≤ (m4 : Int) := by omega
    have m1 : (m4 : Int) ≤ (L : Int) := by omega
    clear ho5 hg5 hat5 hb5 hcap hrd hxs3 hm6 hc6 hmd hm4 hc3 hl3 hL
    go_upto_region 6 with fail
    obtain ⟨S, hSD⟩ : ∃ S : World → Prop, S = fun w' => w'.cell? ⟨wb, 0, none⟩ = some (.map (some mb)) ∧ w'.cell? ⟨kb, 0, none⟩ = some (.int .u64 c) := ⟨_, rfl⟩
    have HSD := Lib.hid hSD
    clear hSD
    refine Held.region S 11 (by kernel_rfl) (by rw [HSD.out]; exact ⟨d5, k5⟩) (fun hHeld => ?_)
    refine Held.take (i := 0) (oi := { dst := _, op := _, type := _, pos := _, after := _, guard := _ }) (v := ?va0) rfl (by kernel_rfl) (by kernel_rfl) (by kernel_rfl) (by kernel_rfl) (fun _ _ _ h => h) (Or.inl ⟨by rfl, ?hya0⟩) (by assumption) ?resta0
    case hya0 => (intro w hSw; rw [HSD.out] at hSw; (try dsimp only at hSw); go_simp; (try with_reducible rfl))
    try simp only [Act.put, List.setIfInBounds_toArray, List.set_cons_zero, List.set_cons_succ]
    refine Held.take (i := 1) (oi := { dst := _, op := _, type := _, pos := _, after := _, guard := _ }) (v := ?va1) rfl (by kernel_rfl) (by kernel_rfl) (by kernel_rfl) (by kernel_rfl) (fun _ _ _ h => h) (Or.inl ⟨by rfl, ?hya1⟩) (by assumption) ?resta1
    case hya1 => (intro w hSw; rw [HSD.out] at hSw; (try dsimp only at hSw); go_simp; (try with_reducible rfl))
    try simp only [Act.put, List.setIfInBounds_toArray, List.set_cons_zero, List.set_cons_succ]
    refine Held.take (i := 2) (oi := { dst := _, op := _, type := _, pos := _, after := _, guard := _ }) (v := ?va2) rfl (by kernel_rfl) (by kernel_rfl) (by kernel_rfl) (by kernel_rfl) (fun _ _ _ h => h) (Or.inl ⟨by rfl, ?hya2⟩) (by assumption) ?resta2
    case hya2 => (intro w hSw; rw [HSD.out] at hSw; (try dsimp only at hSw); go_simp; (try with_reducible rfl))
    try simp only [Act.put, List.setIfInBounds_toArray, List.set_cons_zero, List.set_cons_succ]
    refine Held.take (i := 3) (oi := { dst := _, op := _, type := _, pos := _, after := _, guard := _ }) (v := ?va3) rfl (by kernel_rfl) (by kernel_rfl) (by kernel_rfl) (by kernel_rfl) (fun _ _ _ h => h) (Or.inl ⟨by rfl, ?hya3⟩) (by assumption) ?resta3
    case hya3 => (intro w hSw; rw [HSD.out] at hSw; (try dsimp only at hSw); go_simp; (try with_reducible rfl))
    try simp only [Act.put, List.setIfInBounds_toArray, List.set_cons_zero, List.set_cons_succ]
    refine Held.take (i := 4) (oi := { dst := _, op := _, type := _, pos := _, after := _, guard := _ }) (v := ?va4) rfl (by kernel_rfl) (by kernel_rfl) (by kernel_rfl) (by kernel_rfl) (fun _ _ _ h => h) (Or.inl ⟨by rfl, ?hya4⟩) (by assumption) ?resta4
    case hya4 => (intro w hSw; rw [HSD.out] at hSw; (try dsimp only at hSw); go_simp; (try with_reducible rfl))
    try simp only [Act.put, List.setIfInBounds_toArray, List.set_cons_zero, List.set_cons_succ]
    refine Held.take (i := 5) (oi := { dst := _, op := _, type := _, pos := _, after := _, guard := _ }) (v := ?va5) rfl (by kernel_rfl) (by kernel_rfl) (by kernel_rfl) (by kernel_rfl) (fun _ _ _ h => h) (Or.inl ⟨by rfl, ?hya5⟩) (by assumption) ?resta5
    case hya5 => (intro w hSw; rw [HSD.out] at hSw; (try dsimp only at hSw); go_simp; (try with_reducible rfl))
    try simp only [Act.put, List.setIfInBounds_toArray, List.set_cons_zero, List.set_cons_succ]
    refine Held.take (i := 6) (oi := { dst := _, op := _, type := _, pos := _, after := _, guard := _ }) (v := ?va6) rfl (by kernel_rfl) (by kernel_rfl) (by kernel_rfl) (by kernel_rfl) (fun _ _ _ h => h) (Or.inl ⟨by rfl, ?hya6⟩) (by assumption) ?resta6
    case hya6 => (intro w hSw; rw [HSD.out] at hSw; (try dsimp only at hSw); go_simp; (try with_reducible rfl))
    try simp only [Act.put, List.setIfInBounds_toArray, List.set_cons_zero, List.set_cons_succ]
    refine Held.take (i := 7) (oi := { dst := _, op := _, type := _, pos := _, after := _, guard := _ }) (v := ?va7) rfl (by kernel_rfl) (by kernel_rfl) (by kernel_rfl) (by kernel_rfl) (fun _ _ _ h => h) (Or.inl ⟨by rfl, ?hya7⟩) (by assumption) ?resta7
    case hya7 => (intro w hSw; rw [HSD.out] at hSw; (try dsimp only at hSw); go_simp; (try with_reducible rfl))
    try simp only [Act.put, List.setIfInBounds_toArray, List.set_cons_zero, List.set_cons_succ]
    refine Held.take (i := 8) (oi := { dst := _, op := _, type := _, pos := _, after := _, guard := _ }) (v := ?va8) rfl (by kernel_rfl) (by kernel_rfl) (by kernel_rfl) (by kernel_rfl) (fun _ _ _ h => h) (Or.inl ⟨by rfl, ?hya8⟩) (by assumption) ?resta8
    case hya8 => (intro w hSw; rw [HSD.out] at hSw; (try dsimp only at hSw); go_simp; (try with_reducible rfl))
    try simp only [Act.put, List.setIfInBounds_toArray, List.set_cons_zero, List.set_cons_succ]
    refine Held.take (i := 9) (oi := { dst := _, op := _, type := _, pos := _, after := _, guard := _ }) (v := ?va9) rfl (by kernel_rfl) (by kernel_rfl) (by kernel_rfl) (by kernel_rfl) (fun _ _ _ h => h) (Or.inl ⟨by rfl, ?hya9⟩) (by assumption) ?resta9
    case hya9 => (intro w hSw; rw [HSD.out] at hSw; (try dsimp only at hSw); go_simp; (try with_reducible rfl))
    try simp only [Act.put, List.setIfInBounds_toArray, List.set_cons_zero, List.set_cons_succ]
    refine Held.take (i := 10) (oi := { dst := _, op := _, type := _, pos := _, after := _, guard := _ }) (v := ?va10) rfl (by kernel_rfl) (by kernel_rfl) (by kernel_rfl) (by kernel_rfl) (fun _ _ _ h => h) (Or.inl ⟨by rfl, ?hya10⟩) (by assumption) ?resta10
    case hya10 => (intro w hSw; rw [HSD.out] at hSw; (try dsimp only at hSw); go_simp; (try with_reducible rfl))
    try simp only [Act.put, List.setIfInBounds_toArray, List.set_cons_zero, List.set_cons_succ]
    refine Held.one (i := 11) (o := { dst := _, op := _, type := _, pos := _, after := _, guard := _ }) (by kernel_rfl) rfl (fun K hK => ?_)
    go_simp
    refine hK.out _ _ (fun h => absurd rfl h) (fun _ => ?_)
    clear hK K
    refine Held.done (by kernel_rfl) ?_ _
    refine NoPanic.normal ?_
    clear hHeld
    obtain ⟨U0, hU0⟩ : ∃ V, V = w6.drew := ⟨_, rfl⟩
    have HFIN := Lib.hid (show AddFin N w X U0 w5.heap.size wb kb c xs s os mb n f A3 c3 O oc from hU0 ▸ HFIN6.out.1.chg' ((Chg.refl _ _).drew))
    have HDEL := Lib.hid (fun U hU => del_any (hU : Chg (fun _ => False) U0 U) HFIN.out (hU0 ▸ (Chg.refl (fun _ => False) w6).drew.owns HFIN6.out.2 (fun _ _ h => h)))
    have HSZ := Lib.hid (show w.heap.size ≤ w5.heap.size from Nat.le_trans HM.out.chg.size HB5.out.size)
    have HU0 := Lib.hid hU0
    clear hU0
    go_upto_region 7 with fail
    go_cut [53] from 42 to 53 (fun v53 wx => Hid (∃ mb n f A cc g oc, WinOne (N + 1) wx (fun k => X k ∨ w.heap.size ≤ k) wb c ((xs ++ [s]).drop (xs.length + 1 - 4)) mb n f A cc g oc ∧ Chg X w wx))
    case first =>
      have d6 : w6.drew.cell? ⟨wb, 1, none⟩ = some (.slice O os.length oc) := by rw [← HU0.out]; exact HFIN.out.blk.cell 1
      have k6 : w6.drew.cell? ⟨kb, 0, none⟩ = some (.int .u64 c) := by rw [← HU0.out]; exact HFIN.out.kblk.cell 0
      obtain ⟨S, hSD⟩ : ∃ S : World → Prop, S = fun w' => w'.cell? ⟨wb, 1, none⟩ = some (.slice O os.length oc) ∧ w'.cell? ⟨kb, 0, none⟩ = some (.int .u64 c) := ⟨_, rfl⟩
      have HSD := Lib.hid hSD
      clear hSD
      refine Held.region S 12 (by kernel_rfl) (by rw [HSD.out]; exact ⟨d6, k6⟩) (fun hHeld => ?_)
      rw [← HU0.out] at hHeld ⊢
      refine Held.take (i := 0) (oi := { dst := _, op := _, type := _, pos := _, after := _, guard := _ }) (v := ?vb0) rfl (by kernel_rfl) (by kernel_rfl) (by kernel_rfl) (by kernel_rfl) (fun _ _ _ h => h) (Or.inl ⟨by rfl, ?hyb0⟩) (by assumption) ?restb0
      case hyb0 => (intro w hSw; rw [HSD.out] at hSw; (try dsimp only at hSw); go_simp; (try with_reducible rfl))
      try simp only [Act.put, List.setIfInBounds_toArray, List.set_cons_zero, List.set_cons_succ]
      refine Held.take (i := 1) (oi := { dst := _, op := _, type := _, pos := _, after := _, guard := _ }) (v := ?vb1) rfl (by kernel_rfl) (by kernel_rfl) (by kernel_rfl) (by kernel_rfl) (fun _ _ _ h => h) (Or.inl ⟨by rfl, ?hyb1⟩) (by assumption) ?restb1
      case hyb1 => (intro w hSw; rw [HSD.out] at hSw; (try dsimp only at hSw); go_simp; (try with_reducible rfl))
      try simp only [Act.put, List.setIfInBounds_toArray, List.set_cons_zero, List.set_cons_succ]
      refine Held.take (i := 2) (oi := { dst := _, op := _, type := _, pos := _, after := _, guard := _ }) (v := ?vb2) rfl (by kernel_rfl) (by kernel_rfl) (by kernel_rfl) (by kernel_rfl) (fun _ _ _ h => h) (Or.inl ⟨by rfl, ?hyb2⟩) (by assumption) ?restb2
      case hyb2 => (intro w hSw; rw [HSD.out] at hSw; (try dsimp only at hSw); go_simp; (try with_reducible rfl))
      try simp only [Act.put, List.setIfInBounds_toArray, List.set_cons_zero, List.set_cons_succ]
      refine Held.take (i := 3) (oi := { dst := _, op := _, type := _, pos := _, after := _, guard := _ }) (v := ?vb3) rfl (by kernel_rfl) (by kernel_rfl) (by kernel_rfl) (by kernel_rfl) (fun _ _ _ h => h) (Or.inl ⟨by rfl, ?hyb3⟩) (by assumption) ?restb3
      case hyb3 => (intro w hSw; rw [HSD.out] at hSw; (try dsimp only at hSw); go_simp; (try with_reducible rfl))
      try simp only [Act.put, List.setIfInBounds_toArray, List.set_cons_zero, List.set_cons_succ]
      refine Held.take (i := 4) (oi := { dst := _, op := _, type := _, pos := _, after := _, guard := _ }) (v := ?vb4) rfl (by kernel_rfl) (by kernel_rfl) (by kernel_rfl) (by kernel_rfl) (fun _ _ _ h => h) (Or.inl ⟨by rfl, ?hyb4⟩) (by assumption) ?restb4
      case hyb4 => (intro w hSw; rw [HSD.out] at hSw; (try dsimp only at hSw); go_simp; (try with_reducible rfl))
      try simp only [Act.put, List.setIfInBounds_toArray, List.set_cons_zero, List.set_cons_succ]
      refine Held.take (i := 5) (oi := { dst := _, op := _, type := _, pos := _, after := _, guard := _ }) (v := ?vb5) rfl (by kernel_rfl) (by kernel_rfl) (by kernel_rfl) (by kernel_rfl) (fun _ _ _ h => h) (Or.inl ⟨by rfl, ?hyb5⟩) (by assumption) ?restb5
      case hyb5 => (intro w hSw; rw [HSD.out] at hSw; (try dsimp only at hSw); go_simp; (try with_reducible rfl))
      try simp only [Act.put, List.setIfInBounds_toArray, List.set_cons_zero, List.set_cons_succ]
      refine Held.take (i := 7) (oi := { dst := _, op := _, type := _, pos := _, after := _, guard := _ }) (v := ?vb7) rfl (by kernel_rfl) (by kernel_rfl) (by kernel_rfl) (by kernel_rfl) (fun _ _ _ h => h) (Or.inl ⟨by rfl, ?hyb7⟩) (by assumption) ?restb7
      case hyb7 => (intro w hSw; rw [HSD.out] at hSw; (try dsimp only at hSw); go_simp; (try with_reducible rfl))
      try simp only [Act.put, List.setIfInBounds_toArray, List.set_cons_zero, List.set_cons_succ]
      refine Held.two (i := 6) (j := 8) (o := { dst := _, op := _, type := _, pos := _, after := _, guard := _ }) (o2 := { dst := _, op := _, type := _, pos := _, after := _, guard := _ }) (by kernel_rfl) rfl rfl (fun K hK => ?one) (fun K hK => ?two)
      case one =>
        go_simp
        refine (HDEL.out U0 (Chg.refl _ _)).mono ?_
        rintro e u1 ⟨O', oc', rfl, ho, hob, hc⟩
        have HZ1 := Lib.hid ho
        have HZB := Lib.hid hob
        have HZC := Lib.hid hc
        clear ho hob hc
        have HF1 := Lib.hid (HFIN.out.chg' HZC.out)
        have q1 : u1.cell? ⟨wb, 1, none⟩ = some (.slice O os.length oc) := HF1.out.blk.cell 1
        have q2 : u1.cell? ⟨kb, 0, none⟩ = some (.int .u64 c) := HF1.out.kblk.cell 0
        refine hK.out _ _ (fun _ => ?hSx) (fun hH1 => ?_)
        case hSx => (rw [HSD.out]; exact ⟨q1, q2⟩)
        clear hK K
        replace hH1 := hH1 (by decide)
        try simp only [Act.put, List.setIfInBounds_toArray, List.set_cons_zero, List.set_cons_succ]
        refine Held.one (i := 8) (o := { dst := _, op := _, type := _, pos := _, after := _, guard := _ }) (by kernel_rfl) rfl (fun K hK => ?_)
        go_simp
        obtain ⟨U2, hU2⟩ : ∃ V, V = u1.alloc (.cells #[.int .u64 c] 32) := ⟨_, rfl⟩
        have HF2 := Lib.hid (show AddFin N w X U2 w5.heap.size wb kb c xs s os mb n f A3 c3 O oc from hU2 ▸ HF1.out.below ((Below.refl _ _).alloc (Nat.le_refl _) _))
        have HZ2 := Lib.hid (show U2.ownsRow 0 32 1 (.slice O' 0 oc') 0 [] from hU2 ▸ own_alloc HZ1.out _)
        have HNB := Lib.hid (show Blk U2 u1.heap.size #[.int .u64 c] 32 from hU2 ▸ Blk.new _ _ _)
        obtain ⟨bx, hbx⟩ : ∃ b, b = u1.heap.size := ⟨_, rfl⟩
        rw [← hbx] at HNB
        simp only [← hU2, ← hbx] at hK ⊢
        have HU2 := Lib.hid hU2
        clear hU2
        have r1 : U2.cell? ⟨wb, 1, none⟩ = some (.slice O os.length oc) := HF2.out.blk.cell 1
        have r2 : U2.cell? ⟨kb, 0, none⟩ = some (.int .u64 c) := HF2.out.kblk.cell 0
        refine hK.out _ _ (fun _ => ?hSy) (fun hH2 => ?_)
        case hSy => (rw [HSD.out]; exact ⟨r1, r2⟩)
        clear hK K
        replace hH2 := hH2 (by decide)
        try simp only [Act.put, List.setIfInBounds_toArray, List.set_cons_zero, List.set_cons_succ]
        refine Held.one (i := 9) (o := { dst := _, op := _, type := _, pos := _, after := _, guard := _ }) (by kernel_rfl) rfl (fun K hK => ?_)
        have HNW := Lib.hid (show ∀ j u, ([.int .u64 c] : List Value)[j]? = some u → U2.cell? ((⟨bx, 0, none⟩ : Addr).add j) = some u from World.news_of_block HNB.out)
        refine step_append_lies _ (by rfl) (.tmp 48) (.tmp 50) 192 (by rfl) 0 32 i32 (.int .u64 0) 1 8 Tryz.underlying192 hi32 hz32 hs32 hb32 rfl (by decide) _ 0 [] (by rfl) HZ2.out ⟨bx, 0, none⟩ 1 1 [.int .u64 c] (by rfl) rfl HNW.out (by simp [Value.oneCell']) (by decide) (by unfold maxLen; omega) (by omega) (Nat.zero_le _) U2.heap.size rfl ?_
        intro g cap u6 ho6 hg6 hat6 hlt6
        have HF6 := Lib.hid (HF2.out.chg' ((Chg.refl _ U2).grown hg6 (fun k hk => .inl (HZB.out k hk))))
        have HO6 := Lib.hid ho6
        have HGA := Lib.hid (show (Value.slice O os.length oc).ownBlock = some g ∨ U0.heap.size ≤ g from hat6.imp (fun h => HZB.out g h) (fun h => by have := HZC.out.size; have : U2.heap.size = u1.heap.size + 1 := (by rw [HU2.out]; simp); omega))
        have t1 : u6.cell? ⟨wb, 1, none⟩ = some (.slice O os.length oc) := HF6.out.blk.cell 1
        have t2 : u6.cell? ⟨kb, 0, none⟩ = some (.int .u64 c) := HF6.out.kblk.cell 0
        have f6 : u6.frozen? ⟨wb, 1, none⟩ = false := HF6.out.blk.free 1
        clear ho6 hg6 hat6 hlt6
        refine hK.out _ _ (fun _ => ?hSz) (fun hH3 => ?_)
        case hSz => (rw [HSD.out]; exact ⟨t1, t2⟩)
        clear hK K
        replace hH3 := hH3 (by decide)
        try simp only [Act.put, List.setIfInBounds_toArray, List.set_cons_zero, List.set_cons_succ]
        refine Held.one (i := 10) (o := { dst := _, op := _, type := _, pos := _, after := _, guard := _ }) (by kernel_rfl) rfl (fun K hK => ?_)
        go_simp
        refine hK.out _ _ (fun _ => hH3) (fun _ => ?_)
        clear hK K
        try simp only [Act.put, List.setIfInBounds_toArray, List.set_cons_zero, List.set_cons_succ]
        refine Held.one (i := 11) (o := { dst := _, op := _, type := _, pos := _, after := _, guard := _ }) (by kernel_rfl) rfl (fun K hK => ?_)
        go_simp
        refine hK.out _ _ (fun _ => hH3) (fun _ => ?_)
        clear hK K
        try simp only [Act.put, List.setIfInBounds_toArray, List.set_cons_zero, List.set_cons_succ]
        refine Held.one (i := 12) (o := { dst := _, op := _, type := _, pos := _, after := _, guard := _ }) (by kernel_rfl) rfl (fun K hK => ?_)
        go_simp
        refine hK.out _ _ (fun h => absurd rfl h) (fun _ => ?_)
        clear hK K
        refine Held.done (by kernel_rfl) ?_ _
        refine NoPanic.normal ?_
        have HEND := Lib.hid (HF6.out.fin HO6.out HGA.out HFIN.out.blt HSZ.out)
        go_wp2_with fail
        go_meet
        exact ⟨_, _, _, _, _, _, _, HEND.out⟩
      case two =>
        go_simp
        obtain ⟨U1, hU1⟩ : ∃ V, V = U0.alloc (.cells #[.int .u64 c] 32) := ⟨_, rfl⟩
        have HF1 := Lib.hid (show AddFin N w X U1 w5.heap.size wb kb c xs s os mb n f A3 c3 O oc from hU1 ▸ HFIN.out.below ((Below.refl _ _).alloc (Nat.le_refl _) _))
        have HC1 := Lib.hid (show Chg (fun _ => False) U0 U1 from hU1 ▸ (Chg.refl _ U0).alloc _)
        have HNB1 := Lib.hid (show Blk U1 U0.heap.size #[.int .u64 c] 32 from hU1 ▸ Blk.new _ _ _)
        obtain ⟨bx, hbx⟩ : ∃ b, b = U0.heap.size := ⟨_, rfl⟩
        have HBX := Lib.hid hbx
        rw [← hbx] at HNB1
        simp only [← hU1, ← hbx] at hK ⊢
        clear hU1 hbx
        have q1 : U1.cell? ⟨wb, 1, none⟩ = some (.slice O os.length oc) := HF1.out.blk.cell 1
        have q2 : U1.cell? ⟨kb, 0, none⟩ = some (.int .u64 c) := HF1.out.kblk.cell 0
        refine hK.out _ _ (fun _ => ?hSx) (fun hH1 => ?_)
        case hSx => (rw [HSD.out]; exact ⟨q1, q2⟩)
        clear hK K
        replace hH1 := hH1 (by decide)
        try simp only [Act.put, List.setIfInBounds_toArray, List.set_cons_zero, List.set_cons_succ]
        refine Held.one (i := 6) (o := { dst := _, op := _, type := _, pos := _, after := _, guard := _ }) (by kernel_rfl) rfl (fun K hK => ?_)
        go_simp
        refine (HDEL.out U1 HC1.out).mono ?_
        rintro e U2 ⟨O', oc', rfl, ho, hob, hc⟩
        have HZ2 := Lib.hid ho
        have HZB := Lib.hid hob
        have HZC := Lib.hid hc
        clear ho hob hc
        have HF2 := Lib.hid (HF1.out.chg' HZC.out)
        have HNB := Lib.hid (HZC.out.blk HNB1.out (fun e => by have := (HFIN.out.oin bx e).2.2.2.2; have := HBX.out; have := HFIN.out.chg.size; omega))
        have r1 : U2.cell? ⟨wb, 1, none⟩ = some (.slice O os.length oc) := HF2.out.blk.cell 1
        have r2 : U2.cell? ⟨kb, 0, none⟩ = some (.int .u64 c) := HF2.out.kblk.cell 0
        refine hK.out _ _ (fun _ => ?hSy) (fun hH2 => ?_)
        case hSy => (rw [HSD.out]; exact ⟨r1, r2⟩)
        clear hK K
        replace hH2 := hH2 (by decide)
        try simp only [Act.put, List.setIfInBounds_toArray, List.set_cons_zero, List.set_cons_succ]
        refine Held.one (i := 9) (o := { dst := _, op := _, type := _, pos := _, after := _, guard := _ }) (by kernel_rfl) rfl (fun K hK => ?_)
        have HNW := Lib.hid (show ∀ j u, ([.int .u64 c] : List Value)[j]? = some u → U2.cell? ((⟨bx, 0, none⟩ : Addr).add j) = some u from World.news_of_block HNB.out)
        refine step_append_lies _ (by rfl) (.tmp 48) (.tmp 50) 192 (by rfl) 0 32 i32 (.int .u64 0) 1 8 Tryz.underlying192 hi32 hz32 hs32 hb32 rfl (by decide) _ 0 [] (by rfl) HZ2.out ⟨bx, 0, none⟩ 1 1 [.int .u64 c] (by rfl) rfl HNW.out (by simp [Value.oneCell']) (by decide) (by unfold maxLen; omega) (by omega) (Nat.zero_le _) U2.heap.size rfl ?_
        intro g cap u6 ho6 hg6 hat6 hlt6
        have HF6 := Lib.hid (HF2.out.chg' ((Chg.refl _ U2).grown hg6 (fun k hk => .inl (HZB.out k hk))))
        have HO6 := Lib.hid ho6
        have HGA := Lib.hid (show (Value.slice O os.length oc).ownBlock = some g ∨ U0.heap.size ≤ g from hat6.imp (fun h => HZB.out g h) (fun h => by have := HZC.out.size; have := HC1.out.size; omega))
        have t1 : u6.cell? ⟨wb, 1, none⟩ = some (.slice O os.length oc) := HF6.out.blk.cell 1
        have t2 : u6.cell? ⟨kb, 0, none⟩ = some (.int .u64 c) := HF6.out.kblk.cell 0
        have f6 : u6.frozen? ⟨wb, 1, none⟩ = false := HF6.out.blk.free 1
        clear ho6 hg6 hat6 hlt6
        refine hK.out _ _ (fun _ => ?hSz) (fun hH3 => ?_)
        case hSz => (rw [HSD.out]; exact ⟨t1, t2⟩)
        clear hK K
        replace hH3 := hH3 (by decide)
        try simp only [Act.put, List.setIfInBounds_toArray, List.set_cons_zero, List.set_cons_succ]
        refine Held.one (i := 10) (o := { dst := _, op := _, type := _, pos := _, after := _, guard := _ }) (by kernel_rfl) rfl (fun K hK => ?_)
        go_simp
        refine hK.out _ _ (fun _ => hH3) (fun _ => ?_)
        clear hK K
        try simp only [Act.put, List.setIfInBounds_toArray, List.set_cons_zero, List.set_cons_succ]
        refine Held.one (i := 11) (o := { dst := _, op := _, type := _, pos := _, after := _, guard := _ }) (by kernel_rfl) rfl (fun K hK => ?_)
        go_simp
        refine hK.out _ _ (fun _ => hH3) (fun _ => ?_)
        clear hK K
        try simp only [Act.put, List.setIfInBounds_toArray, List.set_cons_zero, List.set_cons_succ]
        refine Held.one (i := 12) (o := { dst := _, op := _, type := _, pos := _, after := _, guard := _ }) (by kernel_rfl) rfl (fun K hK => ?_)
        go_simp
        refine hK.out _ _ (fun h => absurd rfl h) (fun _ => ?_)
        clear hK K
        refine Held.done (by kernel_rfl) ?_ _
        refine NoPanic.normal ?_
        have HEND := Lib.hid (HF6.out.fin HO6.out HGA.out HFIN.out.blt HSZ.out)
        go_wp2_with fail
        go_meet
        exact ⟨_, _, _, _, _, _, _, HEND.out⟩
    case rest =>
      obtain ⟨mb, n, f, A, cc, g, oc, h, hch⟩ := hcut
      have HW := Lib.hid h
      have HCH := Lib.hid hch
      have e1 : wc.cell? ⟨wb, 1, none⟩ = some (.slice (some ⟨g, 0, none⟩) 1 oc) := h.blk.cell 1
      clear h hch
      go_wp2_with fail
      go_ret
      refine ⟨rfl, ?_, HCH.out⟩
      rw [HXS.out.1]
      exact ⟨mb, n, f, A, cc, g, oc, HW.out⟩
end Go.Proofs.YtlcdjgpblpodaaaGreatDoor

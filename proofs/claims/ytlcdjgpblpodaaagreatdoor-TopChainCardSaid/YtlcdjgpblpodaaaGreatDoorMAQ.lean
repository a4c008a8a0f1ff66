/- Win2, Win3 -/
import Derived.Test.YtlcdjgpblpodaaaGreatDoorMAP
namespace Go.Proofs.YtlcdjgpblpodaaaGreatDoor.Held
open Go
section
variable {P : Program} {ops : Array Oper} {Q : Exit → Act → World → Prop} {md : Region.Mode} {S : World → Prop} {m : Nat}
/-- Either of two may come up. -/
theorem two {i j : Nat} {o o2 : Oper} {fuel : Nat} {listed : Array Bool} {a : Act} {w : World} (hr : Region.ready md ops listed = [i, j]) (ho : ops[i]? = some o) (ho2 : ops[j]? = some o2)
    (h : ∀ K' : Act → World → Prop, Shut (∀ a w, (i ≠ m → S w) → ((i ≠ m → S w) → Till P md ops Q S m fuel (listed.setIfInBounds i true) a w) → K' a w) → if Region.wanted o (yielded ops a.tmps) = true then Oper.wp P o a w K' Q else K' (a.put o.dst undef) w)
    (h2 : ∀ K' : Act → World → Prop, Shut (∀ a w, (j ≠ m → S w) → ((j ≠ m → S w) → Till P md ops Q S m fuel (listed.setIfInBounds j true) a w) → K' a w) → if Region.wanted o2 (yielded ops a.tmps) = true then Oper.wp P o2 a w K' Q else K' (a.put o2.dst undef) w) :
    Till P md ops Q S m (fuel + 1) listed a w :=
  ⟨(fun h0 => by rw [hr] at h0; cases h0), fun k hk => by
    rw [hr] at hk
    have hk' : k = i ∨ k = j := by simpa using hk
    rcases hk' with rfl | rfl
    · exact wpOp_step ho (fun K' hK => h K' (fun a w hS hW => hK a w ⟨hS, hW hS⟩))
    · exact wpOp_step ho2 (fun K' hK => h2 K' (fun a w hS hW => hK a w ⟨hS, hW hS⟩))⟩
end
end Go.Proofs.YtlcdjgpblpodaaaGreatDoor.Held
namespace Go.Proofs.YtlcdjgpblpodaaaGreatDoor
open Go.RowKit Go.Maps Go.Proofs.YtlcdjgpblpodaaaGreatDoorW.PrintWords

def ints (xs : List Nat) : List Int := xs.map fun (n : Nat) => (n : Int)
/-- A window that has one client. -/
structure WinOne (N : Nat) (w : World) (X : Nat → Prop) (wb c : Nat) (xs : List Nat) (mb n : Nat) (f : Lit → Option Value) (A : Option Addr) (cc g oc : Nat) : Prop where
  pin : X wb
  blk : Blk w wb #[.map (some mb), .slice (some ⟨g, 0, none⟩) 1 oc] 194
  map : MapAt w 32 mb n f
  mapin : X mb
  has : f (.int .u64 c) = some (.slice A xs.length cc)
  small : n ≤ N
  reads : ReadsOf (Value.int .u64) (0 : Int) w A (ints xs).length (ints xs)
  cap : xs.length ≤ cc
  spot : ∀ a, A = some a → a.spot = none
  apart : ∀ a, A = some a → X a.block ∧ a.block ≠ wb ∧ a.block ≠ mb ∧ a.block ≠ g
  own : w.ownsRow 0 32 1 (.slice (some ⟨g, 0, none⟩) 1 oc) 1 [.int .u64 c]
  ownin : X g
  mw : mb ≠ wb
  gw : g ≠ wb
  gm : g ≠ mb
def WinAt (N : Nat) (w : World) (X : Nat → Prop) (wb : Nat) (W : Win) : Prop :=
  match W.rows with
  | [] => X wb ∧ Blk w wb #[.map none, .slice none 0 0] 194
  | (c, xs) :: _ => ∃ mb n f A cc g oc, WinOne N w X wb c xs mb n f A cc g oc
theorem WinOne.chg {S X : Nat → Prop} {N wb c mb n cc g oc : Nat} {w w' : World} {xs : List Nat} {f : Lit → Option Value} {A : Option Addr} (h : WinOne N w X wb c xs mb n f A cc g oc) (hc : Chg S w w') (hX : ∀ k, X k → ¬ S k) : WinOne N w' X wb c xs mb n f A cc g oc :=
  ⟨h.pin, hc.blk h.blk (hX _ h.pin), h.map.chg hc (hX _ h.mapin), h.mapin, h.has, h.small, hc.reads h.reads (fun a ha => hX _ (h.apart a ha).1), h.cap, h.spot, h.apart, hc.owns h.own (fun k hk => by have e : g = k := (by injection hk); exact e ▸ hX _ h.ownin), h.ownin, h.mw, h.gw, h.gm⟩
theorem WinOne.mono {X X' : Nat → Prop} {N N' wb c mb n cc g oc : Nat} {w : World} {xs : List Nat} {f : Lit → Option Value} {A : Option Addr} (h : WinOne N w X wb c xs mb n f A cc g oc) (hX : ∀ k, X k → X' k) (hN : N ≤ N') : WinOne N' w X' wb c xs mb n f A cc g oc :=
  ⟨hX _ h.pin, h.blk, h.map, hX _ h.mapin, h.has, Nat.le_trans h.small hN, h.reads, h.cap, h.spot, fun a ha => ⟨hX _ (h.apart a ha).1, (h.apart a ha).2⟩, h.own, hX _ h.ownin, h.mw, h.gw, h.gm⟩
theorem WinAt.chg {S X : Nat → Prop} {N wb : Nat} {w w' : World} {W : Win} (h : WinAt N w X wb W) (hc : Chg S w w') (hX : ∀ k, X k → ¬ S k) : WinAt N w' X wb W := by
  unfold WinAt at h ⊢
  split at h
  · exact ⟨h.1, hc.blk h.2 (hX _ h.1)⟩
  · obtain ⟨mb, n, f, A, cc, g, oc, h⟩ := h
    exact ⟨mb, n, f, A, cc, g, oc, h.chg hc hX⟩
theorem WinAt.mono {X X' : Nat → Prop} {N N' wb : Nat} {w : World} {W : Win} (h : WinAt N w X wb W) (hX : ∀ k, X k → X' k) (hN : N ≤ N') : WinAt N' w X' wb W := by
  unfold WinAt at h ⊢
  split at h
  · exact ⟨hX _ h.1, h.2⟩
  · obtain ⟨mb, n, f, A, cc, g, oc, h⟩ := h
    exact ⟨mb, n, f, A, cc, g, oc, h.mono hX hN⟩
def win0 : Win := ⟨[]⟩
theorem newwin (w : World) : Calls Tryz.prog 23 #[] w fun e w' => e = .returned (.pointer (some ⟨w.heap.size, 0, none⟩)) ∧ w' = w.alloc (.cells #[.map none, .slice none 0 0] 194) := by
  go_enter Tryz.func23, Tryz.ntmps23
  go_wp2
  go_ret
  exact ⟨rfl, rfl⟩
theorem WinAt.new (w : World) : WinAt 0 (w.alloc (.cells #[.map none, .slice none 0 0] 194)) (fun k => w.heap.size ≤ k) w.heap.size win0 := ⟨Nat.le_refl _, Blk.new _ _ _⟩

theorem keyU64 (c : Nat) (h : U64 c) : keyOf Tryz.prog 32 (.int .u64 c) = some (.int .u64 c) := keyOf_int_mk Tryz.underlying32 (by
  have : (c : Int) < 18446744073709551616 := by have : c < 18446744073709551616 := h; omega
  simp [Lit.wf, IntKind.min, IntKind.max, IntKind.signed, IntKind.bits]
  omega)
/-- The nil map has nothing. -/
theorem look_nil {K t e : Nat} (law : Keyed Tryz.prog K) (ht : Tryz.prog.underlying t = some (.map K e)) {z : Value} (hz : ∀ w, (zeroValue e).run Tryz.prog w = .ok z w) {key : Value} {l : Lit} (hk : keyOf Tryz.prog K key = some l) (w : World) :
    (Instr.lookup t (.map none) key false).run Tryz.prog w = .ok z w := by
  have hf : (Instr.findKey K key []).run Tryz.prog w = .ok none w := by
    rcases law.find w hk [] (by simp) with h | ⟨j, e, _, h, _⟩
    · exact h.1
    · simp at h
  simp [Instr.lookup, run_underlying ht, law.check w true hk, hf, hz, Result.andThen]
/-- Is this serial in? -/
def seenW (W : Win) (s : Nat) : Bool := match W.rows with | [] => false | (_, xs) :: _ => (ints xs).any fun y => (s : Int) == y
theorem seen_any {N : Nat} (X : Nat → Prop) (wb : Nat) (W : Win) (c s : Nat) (hc : U64 c) (hW : ∀ e ∈ W.rows, e.1 = c) (w : World) (h : WinAt N w X wb W) :
    Calls Tryz.prog 40 #[.pointer (some ⟨wb, 0, none⟩), .int .u64 c, .int .u64 s] w fun e w' => e = .returned (.bool (seenW W s)) ∧ w = w' := by
  obtain ⟨rows⟩ := W
  match rows, h with
  | [], h =>
    have c0 : w.cell? ⟨wb, 0, none⟩ = some (.map none) := h.2.cell 0
    have HC := Lib.hid (contains83 none 0 [] s w ⟨rfl, by simp, fun h => absurd h (Nat.lt_irrefl _)⟩ (fun _ h => by cases h))
    have hlk : (Instr.lookup 191 (.map none) (.int .u64 c) false).run Tryz.prog w = .ok (.slice none 0 0) w := look_nil u64_law Tryz.underlying191 (fun w => Tryz.zeroValue192 w) (keyU64 c hc) w
    clear h
    go_enter Tryz.func40, Tryz.ntmps40
    go_wp2_with fail
    refine HC.out.mono ?_
    rintro e w' ⟨rfl, rfl⟩
    go_wp2_with fail
    go_ret
    exact ⟨rfl, rfl⟩
  | (c', xs) :: r, h =>
    obtain rfl : c' = c := hW _ (List.mem_cons_self ..)
    obtain ⟨mb, n, f, A, cc, g, oc, h⟩ := h
    have c0 : w.cell? ⟨wb, 0, none⟩ = some (.map (some mb)) := h.blk.cell 0
    have HC := Lib.hid (contains83 A cc (ints xs) s w h.reads h.spot)
    have hlk : (Instr.lookup 191 (.map (some mb)) (.int .u64 c') false).run Tryz.prog w = .ok (.slice A (ints xs).length cc) w := by
      rw [h.map.look u64_law Tryz.underlying191 (fun w => Tryz.zeroValue192 w) (keyU64 c' hc), h.has]
      simp [ints]
    clear h
    go_enter Tryz.func40, Tryz.ntmps40
    go_wp2_with fail
    refine HC.out.mono ?_
    rintro e w' ⟨rfl, rfl⟩
    go_wp2_with fail
    go_ret
    exact ⟨rfl, rfl⟩
end Go.Proofs.YtlcdjgpblpodaaaGreatDoor
namespace Go.Proofs.YtlcdjgpblpodaaaGreatDoor
open Go.RowKit Go.Maps Go.Proofs.YtlcdjgpblpodaaaGreatDoorW.PrintWords

/-- What a map of serials holds for a client. -/
theorem serials_map (wb c mb n cc : Nat) (xs : List Nat) (f : Lit → Option Value) (A : Option Addr) (hc : U64 c) (hx : xs.length ≤ 1000) (w : World) (c0 : w.cell? ⟨wb, 0, none⟩ = some (.map (some mb))) (hm : MapAt w 32 mb n f)
    (hf : (f (.int .u64 c)).getD (.slice none 0 0) = .slice A xs.length cc) (hr : ReadsOf (Value.int .u64) (0 : Int) w A (ints xs).length (ints xs)) (hs : ∀ a, A = some a → a.spot = none) :
    Calls Tryz.prog 98 #[.pointer (some ⟨wb, 0, none⟩), .int .u64 c] w fun e w' => ∃ A' c', e = .returned (.slice A' xs.length c') ∧ w'.ownsRow w.heap.size 32 1 (.slice A' xs.length c') xs.length (encs (Value.int .u64) (ints xs)) ∧ Below w.heap.size w w' := by
  have hl : (ints xs).length = xs.length := by simp [ints]
  have HC := Lib.hid (clone101 A cc (ints xs) w hr hs (by omega))
  rw [hl] at HC
  have hlk : (Instr.lookup 191 (.map (some mb)) (.int .u64 c) false).run Tryz.prog w = .ok (.slice A xs.length cc) w := by
    rw [hm.look u64_law Tryz.underlying191 (fun w => Tryz.zeroValue192 w) (keyU64 c hc), hf]
  clear hm hf hr hs hl
  go_enter Tryz.func98, Tryz.ntmps98
  go_wp2_with fail
  refine HC.out.mono ?_
  rintro e w' ⟨A', c', rfl, ho, hb⟩
  have HO := Lib.hid ho
  have HB := Lib.hid hb
  clear ho hb
  go_wp2_with fail
  go_ret
  exact ⟨A', c', rfl, HO.out, HB.out⟩
/-- The window behind a serial more. -/
def addW (W : Win) (c s : Nat) : Win := match W.rows with | [] => ⟨[(c, [s])]⟩ | (_, xs) :: _ => ⟨[(c, (xs ++ [s]).drop (xs.length + 1 - 4))]⟩
end Go.Proofs.YtlcdjgpblpodaaaGreatDoor

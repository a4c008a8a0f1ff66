/- Win5, Win6, Cnt1 -/
import Derived.Test.YtlcdjgpblpodaaaGreatDoorMAR
import Derived.Laws.LoneSync
namespace Go.Proofs.YtlcdjgpblpodaaaGreatDoor
open Go.RowKit Go.Maps Go.Proofs.YtlcdjgpblpodaaaGreatDoorW.PrintWords

theorem encNums_take : ∀ (xs : List Nat) (k : Nat) (x : Nat), xs[k]? = some x → encNums (xs.take (k + 1)) = encNums (xs.take k) ++ encNum x
  | [], k, x, h => by simp at h
  | y :: r, 0, x, h => by simp at h; subst h; simp [encNums]
  | y :: r, k + 1, x, h => by simp at h; simp [encNums, encNums_take r k x h]
theorem WinOne.lt {X : Nat → Prop} {N wb c mb n cc g oc : Nat} {w : World} {xs : List Nat} {f : Lit → Option Value} {A : Option Addr} (h : WinOne N w X wb c xs mb n f A cc g oc) (hx : 1 ≤ xs.length) : WinOne N w (fun k => X k ∧ k < w.heap.size) wb c xs mb n f A cc g oc :=
  ⟨⟨h.pin, h.blk.lt⟩, h.blk, h.map, ⟨h.mapin, h.map.lt⟩, h.has, h.small, h.reads, h.cap, h.spot, fun a ha => by
    obtain ⟨a', ha', hlt⟩ := reads_lt h.reads (by simp [ints]; omega)
    rw [ha] at ha'
    injection ha' with ha'
    exact ⟨⟨(h.apart a ha).1, ha' ▸ hlt⟩, (h.apart a ha).2⟩, h.own, ⟨h.ownin, own_lt h.own g rfl⟩, h.mw, h.gw, h.gm⟩
theorem WinOne.look {X : Nat → Prop} {N wb c mb n cc g oc : Nat} {w : World} {xs : List Nat} {f : Lit → Option Value} {A : Option Addr} (h : WinOne N w X wb c xs mb n f A cc g oc) (hc : U64 c) :
    (Instr.lookup 191 (.map (some mb)) (.int .u64 c) false).run Tryz.prog w = .ok (.slice A xs.length cc) w := by
  rw [h.map.look u64_law Tryz.underlying191 (fun w => Tryz.zeroValue192 w) (keyU64 c hc), h.has]
  rfl
theorem WinOne.at_ {X : Nat → Prop} {N wb c mb n cc g oc : Nat} {w : World} {xs : List Nat} {f : Lit → Option Value} {A : Option Addr} (h : WinOne N w X wb c xs mb n f A cc g oc) : w.cell? ⟨g, 0, none⟩ = some (.int .u64 c) := by
  obtain ⟨g', hg', _, _, hcell⟩ := own_cell h.own (by omega)
  obtain rfl : g = g' := by injection hg' with h; injection h
  exact hcell 0 _ rfl
set_option maxRecDepth 100000 in
set_option maxHeartbeats 1000000 in
theorem winenc {N : Nat} (X : Nat → Prop) (wb : Nat) (W : Win) (hW : W.Ok) (w : World) (h : WinAt N w X wb W) :
    Calls Tryz.prog 44 #[.pointer (some ⟨wb, 0, none⟩)] w fun e w' => ∃ A c, e = .returned (.slice A (encWin W).length c) ∧ w'.ownsRow w.heap.size 5 1 (.slice A (encWin W).length c) (encWin W).length (encs (Value.int .u8) (encWin W)) ∧ Below w.heap.size w w' := by
  obtain ⟨W0, hW0⟩ : ∃ V, V = w.alloc (.cells #[.slice none 0 0] 319) := ⟨_, rfl⟩
  have hb0 : Below w.heap.size w W0 := hW0 ▸ (Below.refl _ _).alloc (Nat.le_refl _) _
  have HB0 := Lib.hid hb0
  have HP := Lib.hid (show WP W0 w.heap.size (fun k => k = w.heap.size) [] W0 from hW0 ▸ WP.new w)
  have HC := Lib.hid (newwriter w)
  rw [← hW0] at HC
  have HS0 : w.heap.size ≤ W0.heap.size := hb0.size
  obtain ⟨rb, hrb⟩ : ∃ b, b = w.heap.size := ⟨_, rfl⟩
  rw [← hrb] at HP HC
  have HWB := Lib.hid hrb
  obtain ⟨rows⟩ := W
  match rows, h, hW with
  | [], h, hW =>
    have HBK := Lib.hid (h.2.below hb0)
    have HNE := Lib.hid (show ¬ wb = rb from by have := h.2.lt; omega)
    have d1 : W0.cell? ⟨wb, 1, none⟩ = some (.slice none 0 0) := HBK.out.cell 1
    clear h hb0 hW0 hrb hW
    go_enter Tryz.func44, Tryz.ntmps44
    go_wp2_with fail
    refine HC.out.mono ?_
    rintro e w' ⟨rfl, rfl⟩
    go_wp2_with fail
    refine (WP.num 0 (by omega) (by simp) HP.out).mono ?_
    rintro e w1 ⟨rfl, h1⟩
    rw [List.nil_append] at h1
    have H1 := Lib.hid h1
    have e1 : w1.cell? ⟨wb, 1, none⟩ = some (.slice none 0 0) := (h1.chg.blk HBK.out HNE.out).cell 1
    clear h1
    go_wp2_with fail
    refine wp_loop_rounds 1 ?_
    rw [rounds_succ]
    go_wp2_with fail
    refine (WP.bytes (by simp [encNum]) H1.out).mono ?_
    rintro e w5 ⟨A, c, rfl, h6, h7⟩
    have H6 := Lib.hid (own_weaken h6 (Nat.le_trans HS0 H1.out.chg.size))
    have H7 := Lib.hid (show Below w.heap.size w w5 from (HB0.out.trans (H1.out.chg.below (fun k hk => by have := HWB.out; omega) HS0)).trans (h7.mono (Nat.le_trans HS0 H1.out.chg.size)))
    clear h6 h7
    go_wp2_with fail
    go_ret
    have he : encWin ⟨[]⟩ = encNum 0 := by simp [encWin, encRows]
    rw [he]
    exact ⟨A, c, rfl, H6.out, H7.out⟩
  | (c, xs) :: r, h, hW =>
    obtain rfl : r = [] := by have := hW.one; simp at this; exact this
    obtain ⟨hc, hx1, hx4, hxn, hxe⟩ := hW.rows (c, xs) (List.mem_cons_self ..)
    simp only at hc hx1 hx4 hxe
    obtain ⟨mb, n, f, A, cc, g, oc, h⟩ := h
    have hlt := h.blk.lt
    have hml := h.map.lt
    have hgl := own_lt h.own g rfl
    have HH := Lib.hid ((h.lt hx1).chg (Chg.of_below hb0 (fun _ => False)) (fun _ _ h => h))
    have HNR := Lib.hid (show ∀ k, (X k ∧ k < w.heap.size) → ¬ k = rb from fun k hk => by omega)
    have HXE := Lib.hid hxe
    have d1 : W0.cell? ⟨wb, 1, none⟩ = some (.slice (some ⟨g, 0, none⟩) 1 oc) := HH.out.blk.cell 1
    have HE := Lib.hid (show encWin ⟨[(c, xs)]⟩ = encNum 1 ++ encNum c ++ encNum xs.length ++ encNums xs by simp [encWin, encRows])
    have t0 : IntKind.u64.wrap (xs.length : Int) = (xs.length : Int) := by rw [IntKind.wrap_u64]; omega
    have l0 := (encNum_length 1 (by omega)).2
    have l1 := (encNum_length c hc).2
    have l2 := (encNum_length xs.length (by omega)).2
    clear h hb0 hW0 hrb hW hxn hxe
    rw [HE.out]
    obtain ⟨B, hB⟩ : ∃ B, B = encNum 1 ++ encNum c ++ encNum xs.length ++ encNums xs := ⟨_, rfl⟩
    have HBE := Lib.hid hB
    rw [← hB]
    clear hB
    go_enter Tryz.func44, Tryz.ntmps44
    go_wp2_with fail
    refine HC.out.mono ?_
    rintro e w' ⟨rfl, rfl⟩
    go_wp2_with fail
    refine (WP.num 1 (by omega) (by simp) HP.out).mono ?_
    rintro e w1 ⟨rfl, h1⟩
    rw [List.nil_append] at h1
    have H1 := Lib.hid h1
    have HH1 := Lib.hid (HH.out.chg h1.chg HNR.out)
    have e1 : w1.cell? ⟨wb, 1, none⟩ = some (.slice (some ⟨g, 0, none⟩) 1 oc) := HH1.out.blk.cell 1
    have e2 : w1.cell? ⟨g, 0, none⟩ = some (.int .u64 c) := HH1.out.at_
    clear h1
    go_wp2_with fail
    refine wp_loop_rounds 2 ?_
    rw [rounds_succ]
    go_wp2_with fail
    refine (WP.num c hc (by omega) H1.out).mono ?_
    rintro e w2 ⟨rfl, h1⟩
    have H2 := Lib.hid h1
    have HH2 := Lib.hid (HH.out.chg h1.chg HNR.out)
    have e3 : w2.cell? ⟨wb, 0, none⟩ = some (.map (some mb)) := HH2.out.blk.cell 0
    have e4 := HH2.out.look hc
    clear h1
    go_wp2_with fail
    refine (WP.num xs.length (by omega) (by simp; omega) H2.out).mono ?_
    rintro e w3 ⟨rfl, h1⟩
    have H3 := Lib.hid h1
    have HH3 := Lib.hid (HH.out.chg h1.chg HNR.out)
    have e5 : w3.cell? ⟨wb, 0, none⟩ = some (.map (some mb)) := HH3.out.blk.cell 0
    have e6 := HH3.out.look hc
    clear h1 e4
    go_wp2_with fail
    go_loopw [48] (fun s wr => ∃ k : Nat, s = .int .i64 k ∧ k ≤ xs.length ∧ WP w' rb (fun k => k = rb) (encNum 1 ++ encNum c ++ encNum xs.length ++ encNums (xs.take k)) wr) (fun s _ => xs.length - (intOf s).toNat)
    case atStart => exact ⟨0, rfl, Nat.zero_le _, by simpa [encNums] using H3.out⟩
    case round =>
      obtain ⟨k, rfl, hk, hp⟩ := hrel
      have h5 : (encNums (xs.take k)).length ≤ 9 * xs.length := by
        have h1 := encNums_length (xs.take k) (fun l hl => HXE.out l (List.mem_of_mem_take hl))
        have h2 : (xs.take k).length ≤ xs.length := List.length_take_le' k xs
        omega
      by_cases hkl : k < xs.length
      · obtain ⟨x, hxk⟩ : ∃ x, xs[k]? = some x := ⟨_, List.getElem?_eq_getElem hkl⟩
        have hx64 := HXE.out x (List.mem_of_getElem? hxk)
        have hr := hp.chg.reads HH.out.reads (fun a ha => HNR.out _ (HH.out.apart a ha).1)
        obtain ⟨a, ha, hcell⟩ := hr.2.2 (by simp [ints]; omega)
        have hsp := HH.out.spot a ha
        obtain ⟨b, off, sp⟩ := a
        obtain rfl : sp = none := hsp
        subst ha
        have g0 : wr.cell? ⟨b, off + k, none⟩ = some (.int .u64 x) := by
          have := hcell k (by simpa [ints] using hkl)
          rw [Go.WideShapes.add_plain] at this
          rw [this]
          simp [ints, List.getD, hxk]
        have hbl := World.block_lt_of_cell? wr _ g0
        simp only at hbl
        have k0 : (0 : Int) ≤ (k : Int) := by omega
        have k1 : (k : Int) < (xs.length : Int) := by omega
        have HPR := Lib.hid hp
        have HS := Lib.hid (encNums_take xs k x hxk)
        clear hp hr hcell hxk
        go_wp2_with fail
        refine (WP.num x hx64 (by simp; omega) HPR.out).mono ?_
        rintro e w9 ⟨rfl, h9⟩
        have H9 := Lib.hid h9
        clear h9
        go_wp2_with fail
        go_roundw
        case rel => exact ⟨k + 1, by go_num, by omega, by rw [HS.out, ← List.append_assoc]; exact H9.out⟩
        case measure => simp [intOf]; omega
      · obtain rfl : k = xs.length := by omega
        rw [List.take_of_length_le (Nat.le_refl _), ← HBE.out] at hp
        have HPR := Lib.hid hp
        have hBl : B.length ≤ 1000 := by rw [HBE.out]; rw [List.take_of_length_le (Nat.le_refl _)] at h5; simp; omega
        clear hp
        go_wp2_with fail
        rw [rounds_succ]
        go_wp2_with fail
        refine (WP.bytes (by omega) HPR.out).mono ?_
        rintro e w9 ⟨A', c', rfl, h6, h7⟩
        have hs9 := HPR.out.chg.size
        have H6 := Lib.hid (own_weaken h6 (show w.heap.size ≤ wr.heap.size by omega))
        have H7 := Lib.hid (show Below w.heap.size w w9 from (HB0.out.trans (HPR.out.chg.below (fun k hk => by have := HWB.out; omega) HS0)).trans (h7.mono (by omega)))
        clear h6 h7
        go_wp2_with fail
        go_ret
        exact ⟨A', c', rfl, H6.out, H7.out⟩
end Go.Proofs.YtlcdjgpblpodaaaGreatDoor
namespace Go.Proofs.YtlcdjgpblpodaaaGreatDoor
open Go.RowKit Go.Maps Go.Proofs.YtlcdjgpblpodaaaGreatDoorW.PrintWords

theorem WinAt.lt {N wb : Nat} {w : World} {X : Nat → Prop} {W : Win} (h : WinAt N w X wb W) (hW : ∀ e ∈ W.rows, 1 ≤ e.2.length) : WinAt N w (fun k => X k ∧ k < w.heap.size) wb W := by
  obtain ⟨rows⟩ := W
  match rows, h with
  | [], h => exact ⟨⟨h.1, h.2.lt⟩, h.2⟩
  | (c, xs) :: r, h =>
    obtain ⟨mb, n, f, A, cc, g, oc, h⟩ := h
    exact ⟨mb, n, f, A, cc, g, oc, h.lt (hW (c, xs) (List.mem_cons_self ..))⟩
theorem WinAt.pin {N wb : Nat} {w : World} {X : Nat → Prop} {W : Win} (h : WinAt N w X wb W) : X wb := by
  obtain ⟨rows⟩ := W
  match rows, h with
  | [], h => exact h.1
  | (c, xs) :: r, h =>
    obtain ⟨mb, n, f, A, cc, g, oc, h⟩ := h
    exact h.pin
theorem encNums_drop (xs : List Nat) (k : Nat) (h : k < xs.length) : encNums (xs.drop k) = encNum (xs.getD k 0) ++ encNums (xs.drop (k + 1)) := by
  rw [List.drop_eq_getElem_cons h]
  simp [encNums, List.getD, h]
/-- The first j serials of one client. -/
def winTo (c : Nat) (xs : List Nat) (j : Nat) : Win := if j = 0 then win0 else ⟨[(c, xs.take j)]⟩
theorem winTo_rows (c : Nat) (xs : List Nat) (j : Nat) (h : j ≤ xs.length) : ∀ e ∈ (winTo c xs j).rows, e.1 = c ∧ 1 ≤ e.2.length ∧ e.2.length ≤ j := by
  unfold winTo
  split
  · simp [win0]
  · intro e he
    simp at he
    subst he
    simp
    omega
theorem winTo_seen (c : Nat) (xs : List Nat) (j : Nat) (h : j < xs.length) (hn : xs.Nodup) : seenW (winTo c xs j) (xs.getD j 0) = false := by
  unfold winTo seenW
  split
  · rename_i h; rfl
  · rename_i c' ys r he
    split at he
    · simp [win0] at he
    · simp at he
      obtain ⟨⟨rfl, rfl⟩, rfl⟩ := he
      rw [List.any_eq_false]
      intro y hy
      simp only [ints, List.mem_map] at hy
      obtain ⟨n, hn1, rfl⟩ := hy
      have : n ≠ xs.getD j 0 := fun e => by
        obtain ⟨i, hi, hni⟩ := List.getElem_of_mem hn1
        simp at hi
        simp at hni
        rw [e, List.getD, List.getElem?_eq_getElem h] at hni
        exact List.pairwise_iff_getElem.1 hn i j (by omega) h (by omega) hni
      rw [Bool.not_eq_true, beq_eq_false_iff_ne]
      omega
theorem winTo_add (c : Nat) (xs : List Nat) (j : Nat) (h : j < xs.length) (h4 : xs.length ≤ 4) : addW (winTo c xs j) c (xs.getD j 0) = winTo c xs (j + 1) := by
  have ht : xs.take (j + 1) = xs.take j ++ [xs.getD j 0] := by
    rw [List.take_succ_eq_append_getElem h]
    simp [List.getD, h]
  rw [show winTo c xs (j + 1) = ⟨[(c, xs.take (j + 1))]⟩ from by unfold winTo; rw [if_neg (by omega)], ht]
  unfold winTo
  split
  · rename_i h0
    subst h0
    simp [win0, addW]
  · simp only [addW]
    rw [show (List.take j xs).length + 1 - 4 = 0 by simp; omega]
    rfl
set_option maxRecDepth 100000 in
set_option maxHeartbeats 1000000 in
theorem windec (A : Option Addr) (c0 : Nat) (W : Win) (hW : W.Ok) (w : World) (hr : ReadsOf (Value.int .u8) (0 : Int) w A (encWin W).length (encWin W)) :
    Calls Tryz.prog 31 #[.slice A (encWin W).length c0] w fun e w' => ∃ wb, e = .returned (.tuple #[.pointer (some ⟨wb, 0, none⟩), .int .i64 0]) ∧ WinAt 4 w' (fun k => w.heap.size ≤ k) wb W ∧ Below w.heap.size w w' := by
  have hlen := encWin_length W hW
  have HN := Lib.hid (RP.new A c0 _ w hr (by omega) (encWin_bytes W hW))
  obtain ⟨N, hN⟩ : ∃ N, N = (encWin W).length := ⟨_, rfl⟩
  rw [← hN] at HN ⊢
  clear hr hN
  obtain ⟨rows⟩ := W
  match rows, hW with
  | [], hW =>
    rw [show encWin ⟨[]⟩ = encNum 0 ++ [] by simp [encWin, encRows]] at HN
    clear hW hlen
    go_enter Tryz.func31, Tryz.ntmps31
    go_wp2_with fail
    refine HN.out.mono ?_
    rintro e w1 ⟨rb, rfl, hrb, hp, hb⟩
    have HB0 := Lib.hid hb
    have hs1 := hb.size
    obtain ⟨X, hX⟩ : ∃ X : Nat → Prop, X = fun k => w.heap.size ≤ k ∧ k < rb := ⟨_, rfl⟩
    rw [← hX] at hp
    have HP := Lib.hid hp
    clear hp hb hX HN
    go_wp2_with fail
    refine (RP.num 0 (by omega) HP.out).mono ?_
    rintro e w2 ⟨rfl, h2, hc2⟩
    have HP2 := Lib.hid h2
    have hs2 := hc2.size
    clear h2 hc2
    go_wp2_with fail
    refine (newwin w2).mono ?_
    rintro e w3 ⟨rfl, hw3⟩
    have HP3 := Lib.hid (show RP w1 rb X [] w3 from hw3 ▸ HP2.out.alloc _)
    have HW3 := Lib.hid (show WinAt 0 w3 (fun k => w2.heap.size ≤ k) w2.heap.size win0 from hw3 ▸ WinAt.new w2)
    clear hw3
    go_wp2_with fail
    refine wp_loop_rounds 1 ?_
    rw [rounds_succ]
    go_wp2_with fail
    refine (RP.end_ HP3.out).mono ?_
    rintro e w7 ⟨rfl, rfl⟩
    go_wp2_with fail
    go_ret2
    exact ⟨_, rfl, HW3.out.mono (fun k hk => by omega) (by omega), HB0.out.trans (HP3.out.chg.below (fun k hk => by omega) hs1)⟩
  | (c, xs) :: r, hW =>
    obtain rfl : r = [] := by have := hW.one; simp at this; exact this
    obtain ⟨hc, hx1, hx4, hxn, hxe⟩ := hW.rows (c, xs) (List.mem_cons_self ..)
    simp only at hc hx1 hx4 hxe hxn
    rw [show encWin ⟨[(c, xs)]⟩ = encNum 1 ++ (encNum c ++ (encNum xs.length ++ (encNums xs ++ []))) by simp [encWin, encRows]] at HN
    have HXE := Lib.hid hxe
    have HXN := Lib.hid hxn
    have t0 : decide ((xs.length : Int) < 1) = false := decide_eq_false (by omega)
    have t1 : decide ((4 : Int) < (xs.length : Int)) = false := decide_eq_false (by omega)
    clear hW hlen hxe hxn
    go_enter Tryz.func31, Tryz.ntmps31
    go_wp2_with fail
    refine HN.out.mono ?_
    rintro e w1 ⟨rb, rfl, hrb, hp, hb⟩
    have HB0 := Lib.hid hb
    have hs1 := hb.size
    have hrlt := hp.rlt
    obtain ⟨X, hX⟩ : ∃ X : Nat → Prop, X = fun k => w.heap.size ≤ k ∧ k < rb := ⟨_, rfl⟩
    rw [← hX] at hp
    have HP := Lib.hid hp
    clear hp hb hX HN
    go_wp2_with fail
    refine (RP.num 1 (by omega) HP.out).mono ?_
    rintro e w2 ⟨rfl, h2, hc2⟩
    have HP2 := Lib.hid h2
    have hs2 := hc2.size
    clear h2 hc2
    go_wp2_with fail
    refine (newwin w2).mono ?_
    rintro e w3 ⟨rfl, hw3⟩
    obtain ⟨lo, hlo⟩ : ∃ lo, lo = w2.heap.size := ⟨_, rfl⟩
    have HP3 := Lib.hid (show RP w1 rb X _ w3 from hw3 ▸ HP2.out.alloc _)
    have hs3 : lo < w3.heap.size := by rw [hw3, hlo]; simp
    have HW3 := Lib.hid ((show WinAt 0 w3 (fun k => w2.heap.size ≤ k) w2.heap.size win0 from hw3 ▸ WinAt.new w2).lt (by simp [win0]))
    rw [← hlo] at HW3 ⊢
    have hl1 : rb < lo := by omega
    have hl2 : w1.heap.size ≤ lo := by omega
    clear hw3 hlo
    go_wp2_with fail
    refine wp_loop_rounds 2 ?_
    rw [rounds_succ]
    go_wp2_with fail
    refine (RP.num c hc HP3.out).mono ?_
    rintro e w4 ⟨rfl, h2, hc2⟩
    have HP4 := Lib.hid h2
    have HW4 := Lib.hid (HW3.out.chg hc2 (fun k hk => by omega))
    have hs4 := hc2.size
    clear h2 hc2
    go_wp2_with fail
    refine (RP.num xs.length (by omega) HP4.out).mono ?_
    rintro e w5 ⟨rfl, h2, hc2⟩
    have HP5 := Lib.hid h2
    have HW5 := Lib.hid (HW4.out.chg hc2 (fun k hk => by omega))
    have hs5 := hc2.size
    clear h2 hc2
    go_wp2_with fail
    refine (RP.bad HP5.out).mono ?_
    rintro e w6 ⟨rfl, rfl⟩
    have e1 : w5.cell? ⟨lo, 1, none⟩ = some (.slice none 0 0) := HW5.out.2.cell 1
    go_wp2_with fail
    refine (contains83 none 0 [] c w5 ⟨rfl, Nat.zero_le _, fun h => absurd h (Nat.lt_irrefl _)⟩ (fun _ h => by cases h)).mono ?_
    rintro e w6 ⟨rfl, rfl⟩
    go_wp2_with fail
    go_loopw [43] (fun s wr => ∃ k : Nat, s = .int .u64 k ∧ k ≤ xs.length ∧ RP w1 rb X (encNums (xs.drop k) ++ []) wr ∧ WinAt k wr (fun j => lo ≤ j ∧ j < wr.heap.size) lo (winTo c xs k)) (fun s _ => xs.length - (intOf s).toNat)
    case atStart => exact ⟨0, rfl, Nat.zero_le _, HP5.out, HW5.out.mono (fun k hk => ⟨hk.1, by omega⟩) (Nat.le_refl _)⟩
    case round =>
      obtain ⟨k, rfl, hk, hp, hw⟩ := hrel
      by_cases hkl : k < xs.length
      · obtain ⟨x, hx⟩ : ∃ x, x = xs.getD k 0 := ⟨_, rfl⟩
        rw [encNums_drop xs k hkl, List.append_assoc, ← hx] at hp
        have hx64 : U64 x := HXE.out _ (by rw [hx]; simp [List.getD, hkl])
        have HXK := Lib.hid hx
        have HPR := Lib.hid hp
        have HWR := Lib.hid hw
        have hlw : lo < wr.heap.size := hw.pin.2
        have k0 : (0 : Int) ≤ (k : Int) := by omega
        have k1 : (k : Int) < (xs.length : Int) := by omega
        clear hp hw hx
        go_wp2_with fail
        refine (RP.num x hx64 HPR.out).mono ?_
        rintro e w8 ⟨rfl, h2, hc2⟩
        have HP8 := Lib.hid h2
        have HW8 := Lib.hid (HWR.out.chg hc2 (fun k hk => by omega))
        have hs8 := hc2.size
        clear h2 hc2
        go_wp2_with fail
        refine (RP.bad HP8.out).mono ?_
        rintro e w9 ⟨rfl, rfl⟩
        go_wp2_with fail
        refine (addwin (fun j => lo ≤ j ∧ j < wr.heap.size) lo (winTo c xs k) c x hc (fun e he => ⟨(winTo_rows c xs k hk e he).1, by have := (winTo_rows c xs k hk e he).2.2; omega⟩) (by rw [HXK.out]; exact winTo_seen c xs k hkl HXN.out) (by omega) w8 HW8.out (fun k hk => by omega)).mono ?_
        rintro e w9 ⟨rfl, h9, hc9⟩
        rw [HXK.out, winTo_add c xs k hkl hx4] at h9
        have HP9 := Lib.hid (HP8.out.step (hc9.mono (fun k _ hk => by omega) : Chg (fun k => w1.heap.size ≤ k) w8 w9))
        have HW9 := Lib.hid ((h9.lt (fun e he => (winTo_rows c xs (k + 1) hkl e he).2.1)).mono (X' := fun j => lo ≤ j ∧ j < w9.heap.size) (fun j hj => ⟨by rcases hj.1 with h | h <;> omega, hj.2⟩) (Nat.le_refl _))
        clear h9 hc9
        go_wp2_with fail
        go_roundw
        case rel => exact ⟨k + 1, by go_num, by omega, HP9.out, HW9.out⟩
        case measure => simp [intOf]; omega
      · obtain rfl : k = xs.length := by omega
        rw [List.drop_of_length_le (Nat.le_refl _)] at hp
        have HPR := Lib.hid (show RP w1 rb X [] wr from hp)
        rw [show winTo c xs xs.length = ⟨[(c, xs)]⟩ by unfold winTo; rw [if_neg (by omega), List.take_of_length_le (Nat.le_refl _)]] at hw
        have HWR := Lib.hid hw
        clear hp hw
        go_wp2_with fail
        rw [rounds_succ]
        go_wp2_with fail
        refine (RP.end_ HPR.out).mono ?_
        rintro e w7 ⟨rfl, rfl⟩
        go_wp2_with fail
        go_ret2
        exact ⟨lo, rfl, HWR.out.mono (fun k hk => by omega) hx4, HB0.out.trans (HPR.out.chg.below (fun k hk => by omega) hs1)⟩
end Go.Proofs.YtlcdjgpblpodaaaGreatDoor
namespace Go.Proofs.YtlcdjgpblpodaaaGreatDoor
open Go.RowKit Go.Maps Go.Proofs.YtlcdjgpblpodaaaGreatDoorW.PrintWords

def CntAt (w : World) (cb : Nat) : Prop := ∃ l : List Int, l.length = 8 ∧ Blk w cb (l.map (Value.int .u64)).toArray 202
theorem CntAt.chg {S : Nat → Prop} {w w' : World} {cb : Nat} (h : CntAt w cb) (hc : Chg S w w') (hX : ¬ S cb) : CntAt w' cb := by
  obtain ⟨l, h1, h2⟩ := h
  exact ⟨l, h1, hc.blk h2 hX⟩
theorem CntAt.lt {w : World} {cb : Nat} (h : CntAt w cb) : cb < w.heap.size := by
  obtain ⟨l, h1, h2⟩ := h
  exact h2.lt
theorem newcounts (w : World) : Calls Tryz.prog 24 #[] w fun e w' => e = .returned (.pointer (some ⟨w.heap.size, 0, none⟩)) ∧ w' = w.alloc (.cells #[.int .u64 0, .int .u64 0, .int .u64 0, .int .u64 0, .int .u64 0, .int .u64 0, .int .u64 0, .int .u64 0] 202) := by
  go_enter Tryz.func24, Tryz.ntmps24
  go_wp2
  go_ret
  exact ⟨rfl, rfl⟩
theorem CntAt.new (w : World) : CntAt (w.alloc (.cells #[.int .u64 0, .int .u64 0, .int .u64 0, .int .u64 0, .int .u64 0, .int .u64 0, .int .u64 0, .int .u64 0] 202)) w.heap.size := ⟨[0, 0, 0, 0, 0, 0, 0, 0], rfl, Blk.new _ _ _⟩
theorem countat (b i : Nat) (h1 : i ≤ 7) (w : World) : Calls Tryz.prog 105 #[.pointer (some ⟨b, 0, none⟩), .int .i64 i] w fun e w' => e = .returned (.pointer (some ⟨b, i, none⟩)) ∧ w = w' := by
  have g0 : decide ((i : Int) < 0) = false := decide_eq_false (by omega)
  have g1 : decide ((8 : Int) ≤ (i : Int)) = false := decide_eq_false (by omega)
  have g2 : (0 : Int) ≤ (i : Int) := by omega
  have g3 : (i : Int) < 8 := by omega
  go_enter Tryz.func105, Tryz.ntmps105
  go_wp2
  go_ret
  exact ⟨by simp, rfl⟩
theorem atomicadd (a : Addr) (x n : Int) (w : World) (hc : w.cell? a = some (.int .u64 x)) (hz : w.frozen? a = false) :
    Calls Tryz.prog 106 #[.pointer (some a), .int .u64 n] w fun e w' => e = .returned (.int .u64 (IntKind.u64.wrap (x + n))) ∧ w' = w.setCell a (.int .u64 (IntKind.u64.wrap (x + n))) := by
  have hl := run_call_add (P := Tryz.prog) Tryz.func170 (by kernel_rfl) (by kernel_rfl) (by kernel_rfl) .u64 (by kernel_rfl) (x := x) (y := n) (s := IntKind.u64.wrap (x + n)) hc hz (by simp [go_sem])
  go_enter Tryz.func106, Tryz.ntmps106
  go_wp2
  go_ret
  exact ⟨rfl, rfl⟩
theorem count_any (cb i : Nat) (h1 : i ≤ 7) (n : Int) (w : World) (h : CntAt w cb) : Calls Tryz.prog 47 #[.pointer (some ⟨cb, 0, none⟩), .int .i64 i, .int .u64 n] w fun e w' => (∃ v, e = .returned v) ∧ CntAt w' cb ∧ Chg (fun k => k = cb) w w' := by
  obtain ⟨l, hl, hb⟩ := h
  have hc : w.cell? ⟨cb, i, none⟩ = some (.int .u64 (l.getD i 0)) := by rw [hb.cell]; simp [List.getD, show i < l.length by omega]
  have HA := Lib.hid (atomicadd ⟨cb, i, none⟩ (l.getD i 0) n w hc (hb.free i))
  have HB := Lib.hid hb
  clear hc hb
  go_enter Tryz.func47, Tryz.ntmps47
  go_wp2_with fail
  refine (countat cb i h1 w).mono ?_
  rintro e w' ⟨rfl, rfl⟩
  go_wp2_with fail
  refine HA.out.mono ?_
  rintro e w' ⟨rfl, rfl⟩
  go_wp2_with fail
  go_ret
  refine ⟨⟨_, rfl⟩, ⟨l.set i (IntKind.u64.wrap (l.getD i 0 + n)), by simp [hl], ?_⟩, (Chg.refl (fun k => k = cb) w).put cb i (.inl rfl) _⟩
  have := HB.out.set i (.int .u64 (IntKind.u64.wrap (l.getD i 0 + n)))
  simpa [List.map_set] using this
theorem newqueue (w : World) : Calls Tryz.prog 22 #[] w fun e w' => e = .returned (.pointer (some ⟨w.heap.size, 0, none⟩)) ∧ w' = w.alloc (.cells #[.slice none 0 0] 190) := by
  go_enter Tryz.func22, Tryz.ntmps22
  go_wp2
  go_ret
  exact ⟨rfl, rfl⟩

/-- The table. -/
def TabAt (w : World) (X : Nat → Prop) (tb room : Nat) (ls : List ByteArray) : Prop :=
  ∃ L c, X tb ∧ Blk w tb #[.int .i64 room, .slice L ls.length c] 187 ∧ w.ownsRow 0 9 1 (.slice L ls.length c) ls.length (encs Value.string ls) ∧ ∀ k, (Value.slice L ls.length c).ownBlock = some k → X k
theorem TabAt.chg {S X : Nat → Prop} {w w' : World} {tb room : Nat} {ls : List ByteArray} (h : TabAt w X tb room ls) (hc : Chg S w w') (hX : ∀ k, X k → ¬ S k) : TabAt w' X tb room ls := by
  obtain ⟨L, c, h1, h2, h3, h4⟩ := h
  exact ⟨L, c, h1, hc.blk h2 (hX _ h1), hc.owns h3 (fun k hk => hX _ (h4 k hk)), h4⟩
theorem TabAt.mono {X X' : Nat → Prop} {w : World} {tb room : Nat} {ls : List ByteArray} (h : TabAt w X tb room ls) (hX : ∀ k, X k → X' k) : TabAt w X' tb room ls := by
  obtain ⟨L, c, h1, h2, h3, h4⟩ := h
  exact ⟨L, c, hX _ h1, h2, h3, fun k hk => hX _ (h4 k hk)⟩
theorem TabAt.lt {X : Nat → Prop} {w : World} {tb room : Nat} {ls : List ByteArray} (h : TabAt w X tb room ls) : TabAt w (fun k => X k ∧ k < w.heap.size) tb room ls := by
  obtain ⟨L, c, h1, h2, h3, h4⟩ := h
  exact ⟨L, c, ⟨h1, h2.lt⟩, h2, h3, fun k hk => ⟨h4 k hk, own_lt h3 k hk⟩⟩
theorem newtable (room : Nat) (h1 : 1 ≤ room) (h2 : room ≤ 10000) (w : World) : Calls Tryz.prog 21 #[.int .i64 room] w fun e w' => e = .returned (.pointer (some ⟨w.heap.size, 0, none⟩)) ∧ TabAt w' (fun k => w.heap.size ≤ k) w.heap.size room [] ∧ Below w.heap.size w w' := by
  have g0 : max (room : Int) 1 = (room : Int) := by omega
  have g1 : min (room : Int) 10000 = (room : Int) := by omega
  go_enter Tryz.func21, Tryz.ntmps21
  go_wp2
  go_ret
  exact ⟨rfl, ⟨none, 0, Nat.le_refl _, Blk.new _ _ _, own_nil _ _ _ _, fun _ h => by cases h⟩, (Below.refl _ _).alloc (Nat.le_refl _) _⟩
theorem most_any (tb room : Nat) (h1 : 1 ≤ room) (w : World) (h : w.cell? ⟨tb, 0, none⟩ = some (.int .i64 room)) : Calls Tryz.prog 163 #[.pointer (some ⟨tb, 0, none⟩)] w fun e w' => e = .returned (.int .i64 room) ∧ w = w' := by
  have g0 : max (room : Int) 1 = (room : Int) := by omega
  go_enter Tryz.func163, Tryz.ntmps163
  go_wp2
  go_ret
  exact ⟨rfl, rfl⟩
theorem own_len {w : World} {base n size : Nat} {e : TypeId} {v : Value} {xs : List Value} (h : w.ownsRow base e size v n xs) : n ≤ 9223372036854775807 := by
  rcases h.2 with ⟨_, h1⟩ | ⟨g, cap, cur, _, _, _, h1, h2, _⟩
  · omega
  · exact Nat.le_trans h1 h2
theorem contains169 (L : Option Addr) (c : Nat) (ls : List ByteArray) (k : ByteArray) (w : World) (ho : w.ownsRow 0 9 1 (.slice L ls.length c) ls.length (encs Value.string ls)) :
    Calls Tryz.prog 169 #[.slice L ls.length c, .string k] w fun e w' => e = .returned (.bool (ls.any fun y => k.toList == y.toList)) ∧ w' = w := by
  rcases Nat.eq_zero_or_pos ls.length with h0 | h0
  · obtain rfl := List.eq_nil_of_length_eq_zero h0
    exact AnyE.slices_Contains_empty Tryz.co169 L c (.string k) w
  · obtain ⟨g, rfl, _, _, hc⟩ := own_cell ho h0
    refine (AnyE.slices_Contains Tryz.co169 Value.string _ (EqlAt.string _ _) g 0 ls.length c ls k w (Nat.le_refl _) (own_len ho) (fun j hj => ?_)).mono fun e w' q => ⟨?_, q.2⟩
    · rw [getElem!_pos ls j hj, Nat.zero_add]
      exact hc j _ (by simp [encs, hj])
    · rw [q.1, List.take_of_length_le (Nat.le_refl _)]
theorem has_any (X : Nat → Prop) (tb room : Nat) (ls : List ByteArray) (k : ByteArray) (w : World) (h : TabAt w X tb room ls) :
    Calls Tryz.prog 104 #[.pointer (some ⟨tb, 0, none⟩), .string k] w fun e w' => e = .returned (.bool (ls.any fun y => k.toList == y.toList)) ∧ w' = w := by
  obtain ⟨L, c, h1, h2, h3, h4⟩ := h
  have HC := Lib.hid (contains169 L c ls k w h3)
  have c1 : w.cell? ⟨tb, 1, none⟩ = some (.slice L ls.length c) := h2.cell 1
  clear h1 h2 h3 h4
  go_enter Tryz.func104, Tryz.ntmps104
  go_wp2_with fail
  refine HC.out.mono ?_
  rintro e w' ⟨rfl, rfl⟩
  go_wp2_with fail
  go_ret
  exact ⟨rfl, rfl⟩
theorem any_self (k : ByteArray) : ([k].any fun y => k.toList == y.toList) = true := by simp
theorem drop_one (X : Nat → Prop) (tb room : Nat) (k : ByteArray) (w : World) (h : TabAt w X tb room [k]) :
    Calls Tryz.prog 162 #[.pointer (some ⟨tb, 0, none⟩), .string k] w fun e w' => e = .returned (.bool true) ∧ TabAt w' X tb room [] ∧ Chg X w w' := by
  obtain ⟨W1, hW1⟩ : ∃ V, V = w.alloc (.cells #[.string k] 9) := ⟨_, rfl⟩
  obtain ⟨kb, hkb⟩ : ∃ b, b = w.heap.size := ⟨_, rfl⟩
  have hb1 : Below w.heap.size w W1 := hW1 ▸ (Below.refl _ _).alloc (Nat.le_refl _) _
  have h1 : TabAt W1 X tb room [k] := h.chg (Chg.of_below hb1 (fun _ => False)) (fun _ _ h => h)
  have HH := Lib.hid (has_any X tb room [k] k W1 h1)
  rw [any_self] at HH
  obtain ⟨L, c, q1, q2, q3, q4⟩ := h1
  obtain ⟨g, hL, _, _, _⟩ := own_cell q3 (by simp)
  subst hL
  have hk : W1.cell? ⟨kb, 0, none⟩ = some (.string k) := (show Blk W1 kb #[.string k] 9 from hW1 ▸ Blk.newAt hkb).cell 0
  have HD := Lib.hid (delete221 g c k kb W1 (own_le q3) q3 hk)
  have c1 : W1.cell? ⟨tb, 1, none⟩ = some (.slice (some ⟨g, 0, none⟩) 1 c) := q2.cell 1
  have HW1 := Lib.hid hW1
  have HKB := Lib.hid hkb
  have HB1 := Lib.hid hb1
  have HQ := Lib.hid (show X tb ∧ X g from ⟨q1, q4 g rfl⟩)
  have HT := Lib.hid q2
  have HG := Lib.hid (show ¬ tb = g from fun e => own_block_ne q3 q2 (by decide) (e ▸ rfl))
  clear hW1 hkb hb1 q1 q2 q3 q4 h
  go_enter Tryz.func162, Tryz.ntmps162
  go_wp2_with fail
  rw [← HW1.out, ← HKB.out]
  refine HH.out.mono ?_
  rintro e w' ⟨rfl, rfl⟩
  go_wp2_with fail
  refine HD.out.mono ?_
  rintro e w2 ⟨rfl, ho, hc⟩
  have hb2 := hc.blk HT.out HG.out
  have HB2 := Lib.hid hb2
  have HO := Lib.hid ho
  have HC := Lib.hid hc
  have d1 : w2.cell? ⟨tb, 1, none⟩ = some (.slice (some ⟨g, 0, none⟩) 1 c) := hb2.cell 1
  have f1 := hb2.free 1
  clear hb2 ho hc
  go_wp2_with fail
  go_ret
  refine ⟨rfl, ⟨some ⟨g, 0, none⟩, c, HQ.out.1, HB2.out.set 1 _, own_setCell HO.out (by simp [Value.ownBlock]; exact HG.out) _, fun j hj => by have e : g = j := (by injection hj); exact e ▸ HQ.out.2⟩, ?_⟩
  exact ((Chg.of_below HB1.out X).trans HC.out (fun i _ e => by rw [show i = g from e]; exact HQ.out.2)).put tb 1 (.inl HQ.out.1) _
theorem drop_none (X : Nat → Prop) (tb room : Nat) (ls : List ByteArray) (k : ByteArray) (hk : (ls.any fun y => k.toList == y.toList) = false) (w : World) (h : TabAt w X tb room ls) :
    Calls Tryz.prog 162 #[.pointer (some ⟨tb, 0, none⟩), .string k] w fun e w' => e = .returned (.bool false) ∧ Below w.heap.size w w' := by
  obtain ⟨W1, hW1⟩ : ∃ V, V = w.alloc (.cells #[.string k] 9) := ⟨_, rfl⟩
  obtain ⟨kb, hkb⟩ : ∃ b, b = w.heap.size := ⟨_, rfl⟩
  have hb1 : Below w.heap.size w W1 := hW1 ▸ (Below.refl _ _).alloc (Nat.le_refl _) _
  have h1 : TabAt W1 X tb room ls := h.chg (Chg.of_below hb1 (fun _ => False)) (fun _ _ h => h)
  have HH := Lib.hid (has_any X tb room ls k W1 h1)
  rw [hk] at HH
  have hk : W1.cell? ⟨kb, 0, none⟩ = some (.string k) := (show Blk W1 kb #[.string k] 9 from hW1 ▸ Blk.newAt hkb).cell 0
  have HW1 := Lib.hid hW1
  have HKB := Lib.hid hkb
  have HB1 := Lib.hid hb1
  clear hW1 hkb hb1 h h1
  go_enter Tryz.func162, Tryz.ntmps162
  go_wp2_with fail
  rw [← HW1.out, ← HKB.out]
  refine HH.out.mono ?_
  rintro e w' ⟨rfl, rfl⟩
  go_wp2_with fail
  go_ret
  exact ⟨rfl, HB1.out⟩
end Go.Proofs.YtlcdjgpblpodaaaGreatDoor

/- Code1, Code2 -/
import Derived.Test.YtlcdjgpblpodaaaGreatDoorMAM
import Derived.Test.YtlcdjgpblpodaaaGreatDoorMBB
import Derived.Test.YtlcdjgpblpodaaaGreatDoorMAI
namespace Go.Proofs.YtlcdjgpblpodaaaGreatDoor
open Go.RowKit Go.Proofs.YtlcdjgpblpodaaaGreatDoorW.PrintWords

def encTexts : List ByteArray → List Int
  | [] => []
  | s :: r => encText s ++ encTexts r
def encCode : List (Int × Int) → List Int
  | [] => []
  | e :: r => (encNum e.1.toNat ++ encInt e.2) ++ encCode r
def encProg (NL : List ByteArray) (CL : List (Int × Int)) : List Int := encNum NL.length ++ encTexts NL ++ encNum CL.length ++ encCode CL
/-- What a program that may be written as bytes is. -/
structure ProgOk (NL : List ByteArray) (CL : List (Int × Int)) : Prop where
  formed : Ip.formedB NL CL = true
  nl : NL.length ≤ 8
  names : ∀ s ∈ NL, s.size ≤ 40
  cl : CL.length ≤ 200
  code : ∀ e ∈ CL, 0 ≤ e.1 ∧ e.1 < 24 ∧ In64 e.2
theorem encTexts_take : ∀ (NL : List ByteArray) (k : Nat) (s : ByteArray), NL[k]? = some s → encTexts (NL.take (k + 1)) = encTexts (NL.take k) ++ encText s
  | [], k, s, h => by simp at h
  | y :: r, 0, s, h => by simp at h; subst h; simp [encTexts]
  | y :: r, k + 1, s, h => by simp at h; simp [encTexts, encTexts_take r k s h]
theorem encCode_take : ∀ (CL : List (Int × Int)) (k : Nat) (e : Int × Int), CL[k]? = some e → encCode (CL.take (k + 1)) = encCode (CL.take k) ++ encNum e.1.toNat ++ encInt e.2
  | [], k, s, h => by simp at h
  | y :: r, 0, s, h => by simp at h; subst h; simp [encCode]
  | y :: r, k + 1, s, h => by simp at h; simp [encCode, encCode_take r k s h]
theorem encTexts_length : ∀ NL : List ByteArray, (∀ s ∈ NL, s.size ≤ 40) → (encTexts NL).length ≤ 49 * NL.length
  | [], _ => by simp [encTexts]
  | s :: r, h => by
    have h1 := encTexts_length r fun y hy => h y (List.mem_cons_of_mem _ hy)
    have h2 := encText_length s (by have := h s (by simp); omega)
    have h3 := h s (by simp)
    simp only [encTexts, List.length_append, List.length_cons]
    omega
theorem encCode_length : ∀ CL : List (Int × Int), (∀ e ∈ CL, 0 ≤ e.1 ∧ e.1 < 24 ∧ In64 e.2) → (encCode CL).length ≤ 18 * CL.length
  | [], _ => by simp [encCode]
  | e :: r, h => by
    have h1 := encCode_length r fun y hy => h y (List.mem_cons_of_mem _ hy)
    obtain ⟨h2, h3, h4⟩ := h e (by simp)
    have h5 := (encNum_length e.1.toNat (by omega)).2
    have h6 := (encInt_length e.2 h4).2
    simp only [encCode, List.length_append, List.length_cons]
    omega
theorem encTexts_bytes : ∀ NL : List ByteArray, (∀ s ∈ NL, s.size ≤ 40) → IsBytes (encTexts NL)
  | [], _ => .nil
  | s :: r, h => (encText_bytes s (by have := h s (by simp); omega)).append (encTexts_bytes r fun y hy => h y (List.mem_cons_of_mem _ hy))
theorem encCode_bytes : ∀ CL : List (Int × Int), (∀ e ∈ CL, 0 ≤ e.1 ∧ e.1 < 24 ∧ In64 e.2) → IsBytes (encCode CL)
  | [], _ => .nil
  | e :: r, h => by
    obtain ⟨h2, h3, h4⟩ := h e (by simp)
    exact ((encNum_bytes _ (by omega)).append (encInt_bytes _ h4)).append (encCode_bytes r fun y hy => h y (List.mem_cons_of_mem _ hy))
theorem encProg_bytes (NL : List ByteArray) (CL : List (Int × Int)) (h : ProgOk NL CL) : IsBytes (encProg NL CL) := by
  have h1 := h.nl
  have h2 := h.cl
  exact (((encNum_bytes _ (by omega)).append (encTexts_bytes _ h.names)).append (encNum_bytes _ (by omega))).append (encCode_bytes _ h.code)
theorem encProg_length (NL : List ByteArray) (CL : List (Int × Int)) (h : ProgOk NL CL) : (encProg NL CL).length ≤ 18 + 49 * NL.length + 18 * CL.length := by
  have h1 := encTexts_length NL h.names
  have h2 := encCode_length CL h.code
  have h3 := h.nl
  have h4 := h.cl
  have h5 := (encNum_length NL.length (by omega)).2
  have h6 := (encNum_length CL.length (by omega)).2
  simp only [encProg, List.length_append]
  omega
set_option maxRecDepth 100000 in
set_option maxHeartbeats 1000000 in
theorem codeenc (NA KA : Option Addr) (nC kC : Nat) (NL : List ByteArray) (CL : List (Int × Int)) (hP : ProgOk NL CL) (w : World) (hN : ReadsOf Value.string (⟨#[]⟩ : ByteArray) w NA NL.length NL) (hC : Ip.IsCode w KA CL) :
    Calls Tryz.prog 52 #[.agg #[.slice NA NL.length nC, .slice KA CL.length kC]] w fun e w' => ∃ A c, e = .returned (.tuple #[.slice A (encProg NL CL).length c, .int .i64 0]) ∧ w'.ownsRow w.heap.size 5 1 (.slice A (encProg NL CL).length c) (encProg NL CL).length (encs (Value.int .u8) (encProg NL CL)) ∧ Below w.heap.size w w' := by
  have hnl := hP.nl
  have hcl := hP.cl
  obtain ⟨pb, hpb⟩ : ∃ b, b = w.heap.size := ⟨_, rfl⟩
  obtain ⟨W1, hW1⟩ : ∃ W, W = w.alloc (.cells #[.slice NA NL.length nC, .slice KA CL.length kC] 54) := ⟨_, rfl⟩
  have hb1 : Below w.heap.size w W1 := hW1 ▸ (Below.refl _ _).alloc (Nat.le_refl _) _
  have hp1 : Blk W1 pb #[.slice NA NL.length nC, .slice KA CL.length kC] 54 := hW1 ▸ Blk.newAt hpb
  have c0 : W1.cell? ⟨pb, 0, none⟩ = some (.slice NA NL.length nC) := hp1.cell 0
  have c1 : W1.cell? ⟨pb, 1, none⟩ = some (.slice KA CL.length kC) := hp1.cell 1
  have HF := Lib.hid (Ip.formed_any NA KA nC kC NL CL W1 (hN.below hb1) (hC.below hb1) (by omega))
  rw [hP.formed] at HF
  have HOK := Lib.hid hP
  have HN := Lib.hid hN
  have HC := Lib.hid hC
  have HB1 := Lib.hid hb1
  have HP1 := Lib.hid hp1
  have HW1 := Lib.hid hW1
  have HPB := Lib.hid hpb
  have lp := hp1.lt
  have l1 := encTexts_length NL hP.names
  have l2 := encCode_length CL hP.code
  have l3 := (encNum_length NL.length (by omega)).2
  have l4 := (encNum_length CL.length (by omega)).2
  have t1 : IntKind.u64.wrap (NL.length : Int) = (NL.length : Int) := by rw [IntKind.wrap_u64]; omega
  have t2 : IntKind.u64.wrap (CL.length : Int) = (CL.length : Int) := by rw [IntKind.wrap_u64]; omega
  clear hP hN hC hb1 hp1 hW1 hpb
  go_enter Tryz.func52, Tryz.ntmps52
  go_upto_region 1 with fail
  rw [← HW1.out, ← HPB.out]
  go_wp2_with fail
  refine HF.out.mono ?_
  rintro e w2 ⟨rfl, hb2⟩
  have HB2 := Lib.hid (HB1.out.trans (hb2.mono HB1.out.size))
  have HP2 := Lib.hid (HP1.out.below hb2)
  clear hb2 c0 c1
  go_wp2_with fail
  refine (newwriter w2).mono ?_
  rintro e w3 ⟨rfl, hw3⟩
  have HWP := Lib.hid (show WP w3 w2.heap.size (fun k => k = w2.heap.size) [] w3 from hw3 ▸ WP.new w2)
  have hb3 : Below w2.heap.size w2 w3 := hw3 ▸ (Below.refl _ _).alloc (Nat.le_refl _) _
  have HB3 := Lib.hid (HB2.out.trans (hb3.mono HB2.out.size))
  have HP3 := Lib.hid (HP2.out.below hb3)
  obtain ⟨wb, hwb⟩ : ∃ b, b = w2.heap.size := ⟨_, rfl⟩
  have HWB := Lib.hid hwb
  rw [← hwb] at HWP ⊢
  have d0 : w3.cell? ⟨pb, 0, none⟩ = some (.slice NA NL.length nC) := HP3.out.cell 0
  have hs2 := HB2.out.size
  have hs3 := hb3.size
  have HNE := Lib.hid (show ∀ k, k < w2.heap.size → ¬ k = wb from fun k hk => by omega)
  clear hw3 hb3 hwb
  go_wp2_with fail
  refine (WP.num NL.length (by omega) (by simp) HWP.out).mono ?_
  rintro e w4 ⟨rfl, h1⟩
  rw [List.nil_append] at h1
  have hp4 := h1.chg.blk HP3.out (HNE.out pb HP2.out.lt)
  have e0 : w4.cell? ⟨pb, 0, none⟩ = some (.slice NA NL.length nC) := hp4.cell 0
  have H4 := Lib.hid h1
  clear h1 hp4 d0
  go_wp2_with fail
  go_loopw [22] (fun s wr => ∃ k : Nat, s = .int .i64 k ∧ k ≤ NL.length ∧ WP w3 wb (fun k => k = wb) (encNum NL.length ++ encTexts (NL.take k)) wr) (fun s _ => NL.length - (intOf s).toNat)
  case atStart => exact ⟨0, rfl, Nat.zero_le _, by simpa [encTexts] using H4.out⟩
  case round =>
    obtain ⟨k, rfl, hk, hp⟩ := hrel
    have h5 : (encTexts (NL.take k)).length ≤ 400 := by
      have h1 := encTexts_length (NL.take k) (fun l hl => HOK.out.names l (List.mem_of_mem_take hl))
      have h2 : (NL.take k).length ≤ NL.length := List.length_take_le' k NL
      omega
    have k0 : (0 : Int) ≤ (k : Int) := by omega
    by_cases hkl : k < NL.length
    · obtain ⟨s, hsk⟩ : ∃ s, NL[k]? = some s := ⟨_, List.getElem?_eq_getElem hkl⟩
      have hs40 := HOK.out.names s (List.mem_of_getElem? hsk)
      obtain ⟨⟨b, off, sp⟩, ha, hcell⟩ := HN.out.2.2 (by omega)
      subst ha
      obtain rfl : sp = none := by
        have := hcell 0 (by omega)
        simpa [Addr.add] using World.cell?_spot this
      have g := hcell k hkl
      rw [Go.WideShapes.add_plain, show NL.getD k ⟨#[]⟩ = s by simp [List.getD, hsk]] at g
      have gl := World.block_lt_of_cell? w _ g
      simp only at gl
      have g3 := hp.chg.cell (a := ⟨b, off + k, none⟩) (HNE.out b (by omega)) ((Chg.of_below HB3.out (fun _ => False)).cell (a := ⟨b, off + k, none⟩) (fun h => h) g)
      have gl3 := World.block_lt_of_cell? wr _ g3
      simp only at gl3
      have k1 : (k : Int) < (NL.length : Int) := by omega
      have HS := Lib.hid (encTexts_take NL k s hsk)
      have HPR := Lib.hid hp
      clear hp hcell g gl hsk
      go_wp2_with fail
      refine (WP.text s (by omega) (by simp; omega) HPR.out).mono ?_
      rintro e w9 ⟨rfl, h9⟩
      have H9 := Lib.hid h9
      clear h9
      go_wp2_with fail
      go_roundw
      case rel => exact ⟨k + 1, by go_num, by omega, by rw [HS.out, ← List.append_assoc]; exact H9.out⟩
      case measure => simp [intOf]; omega
    · obtain rfl : k = NL.length := by omega
      rw [List.take_of_length_le (Nat.le_refl _)] at hp h5
      have hp4 := hp.chg.blk HP3.out (HNE.out pb HP2.out.lt)
      have e1 : wr.cell? ⟨pb, 1, none⟩ = some (.slice KA CL.length kC) := hp4.cell 1
      have HPR := Lib.hid hp
      obtain ⟨wq, hwq⟩ : ∃ z, z = wr := ⟨_, rfl⟩
      rw [← hwq] at HPR e1 ⊢
      clear hp hp4 e0 hwq
      go_wp2_with fail
      refine (WP.num CL.length (by omega) (by simp; omega) HPR.out).mono ?_
      rintro e w5 ⟨rfl, h1⟩
      have hp5 := h1.chg.blk HP3.out (HNE.out pb HP2.out.lt)
      have e2 : w5.cell? ⟨pb, 1, none⟩ = some (.slice KA CL.length kC) := hp5.cell 1
      have H5 := Lib.hid h1
      obtain ⟨B, hB⟩ : ∃ B, B = encNum NL.length ++ encTexts NL ++ encNum CL.length := ⟨_, rfl⟩
      have hBl : B.length ≤ 500 := by rw [hB]; simp; omega
      have HBE := Lib.hid hB
      rw [← hB] at H5
      clear h1 hp5 e1 hB HPR
      go_wp2_with fail
      go_loopw [39] (fun s wr => ∃ k : Nat, s = .int .i64 k ∧ k ≤ CL.length ∧ WP w3 wb (fun k => k = wb) (B ++ encCode (CL.take k)) wr) (fun s _ => CL.length - (intOf s).toNat)
      case atStart => exact ⟨0, rfl, Nat.zero_le _, by simpa [encCode] using H5.out⟩
      case round =>
        obtain ⟨k, rfl, hk, hp⟩ := hrel
        have h5 : (encCode (CL.take k)).length ≤ 3600 := by
          have h1 := encCode_length (CL.take k) (fun l hl => HOK.out.code l (List.mem_of_mem_take hl))
          have h2 : (CL.take k).length ≤ CL.length := List.length_take_le' k CL
          omega
        have k0 : (0 : Int) ≤ (k : Int) := by omega
        by_cases hkl : k < CL.length
        · obtain ⟨e, hek⟩ : ∃ e, CL[k]? = some e := ⟨_, List.getElem?_eq_getElem hkl⟩
          obtain ⟨op, ag⟩ := e
          obtain ⟨o1, o2, o3⟩ := HOK.out.code (op, ag) (List.mem_of_getElem? hek)
          simp only at o1 o2 o3
          obtain ⟨on, hon⟩ : ∃ on : Nat, op = (on : Int) := ⟨op.toNat, by omega⟩
          subst hon
          obtain ⟨b, off, rfl, hcell⟩ := HC.out (by omega)
          obtain ⟨g0, g1⟩ := hcell k hkl
          rw [show CL.getD k (0, 0) = ((on : Int), ag) by simp [List.getD, hek]] at g0 g1
          simp only at g0 g1
          have gl := World.block_lt_of_cell? w _ g0
          simp only at gl
          have j0 := hp.chg.cell (a := ⟨b, off + k * 2, none⟩) (HNE.out b (by omega)) ((Chg.of_below HB3.out (fun _ => False)).cell (a := ⟨b, off + k * 2, none⟩) (fun h => h) g0)
          have j1 := hp.chg.cell (a := ⟨b, off + k * 2 + 1, none⟩) (HNE.out b (by omega)) ((Chg.of_below HB3.out (fun _ => False)).cell (a := ⟨b, off + k * 2 + 1, none⟩) (fun h => h) g1)
          have jl := World.block_lt_of_cell? wr _ j0
          simp only at jl
          have k1 : (k : Int) < (CL.length : Int) := by omega
          have u1 : IntKind.u64.wrap (on : Int) = (on : Int) := by rw [IntKind.wrap_u64]; omega
          have HS := Lib.hid (encCode_take CL k ((on : Int), ag) hek)
          have HO3 := Lib.hid o3
          have l6 := (encNum_length on (by omega)).2
          obtain ⟨W2, hW2⟩ : ∃ W, W = wr.alloc (.cells #[.int .i64 on, .int .i64 ag] 51) := ⟨_, rfl⟩
          have hbx : Blk W2 wr.heap.size #[.int .i64 on, .int .i64 ag] 51 := hW2 ▸ Blk.new _ _ _
          have f0 : W2.cell? ⟨wr.heap.size, 0, none⟩ = some (.int .i64 on) := hbx.cell 0
          have HW2 := Lib.hid hW2
          obtain ⟨X1, x1, x2, x3, x4⟩ := hp.rebase
          have hbw : Below wr.heap.size wr W2 := hW2 ▸ (Below.refl _ _).alloc (Nat.le_refl _) _
          have HX3 := Lib.hid (x3 W2 hbw)
          have HX4 := Lib.hid (fun w3' bs' => x4 W2 w3' bs' hbw)
          have hbn : ¬ X1 wr.heap.size := fun h => by have := x1 _ h; omega
          have HBN := Lib.hid hbn
          have HBX := Lib.hid hbx
          clear hp hcell g0 g1 gl hek o3 hW2 hbx hbn hbw x1 x2 x3 x4
          go_upto_region 14 with fail
          rw [← HW2.out]
          go_wp2_with fail
          refine (WP.num on (by omega) (by simp; omega) HX3.out).mono ?_
          rintro e w8 ⟨rfl, h8⟩
          have hb8 := h8.chg.blk HBX.out HBN.out
          have f1 : w8.cell? ⟨wr.heap.size, 1, none⟩ = some (.int .i64 ag) := hb8.cell 1
          have H8 := Lib.hid h8
          clear h8 hb8 f0
          go_wp2_with fail
          refine (WP.int ag HO3.out (by simp; omega) H8.out).mono ?_
          rintro e w9 ⟨rfl, h9⟩
          have H9 := Lib.hid (HX4.out w9 _ h9)
          clear h9
          go_wp2_with fail
          go_roundw
          case rel => exact ⟨k + 1, by go_num, by omega, by rw [HS.out]; simpa using H9.out⟩
          case measure => simp [intOf]; omega
        · obtain rfl : k = CL.length := by omega
          rw [List.take_of_length_le (Nat.le_refl _)] at hp h5
          have HPR := Lib.hid hp
          have HE := Lib.hid (show B ++ encCode CL = encProg NL CL by rw [HBE.out]; rfl)
          rw [HE.out] at HPR
          have hpl : (encProg NL CL).length ≤ 5000 := by rw [← HE.out]; simp; omega
          clear hp
          go_wp2_with fail
          refine (WP.bytes (by omega) HPR.out).mono ?_
          rintro e w9 ⟨A', c', rfl, h6, h7⟩
          have hs9 := HPR.out.chg.size
          have hsb := HB3.out.size
          have H6 := Lib.hid (own_weaken h6 (show w.heap.size ≤ wr.heap.size by omega))
          have H7 := Lib.hid (show Below w.heap.size w w9 from (HB3.out.trans (HPR.out.chg.below (fun k hk => by have := HWB.out; omega) hsb)).trans (h7.mono (by omega)))
          clear h6 h7
          go_wp2_with fail
          go_ret2
          exact ⟨A', c', rfl, H6.out, H7.out⟩
end Go.Proofs.YtlcdjgpblpodaaaGreatDoor
namespace Go.Proofs.YtlcdjgpblpodaaaGreatDoor
open Go.RowKit Go.Proofs.YtlcdjgpblpodaaaGreatDoorW.PrintWords

theorem encE_len : ∀ CL : List (Int × Int), (Ip.encE CL).length = CL.length * 2
  | [] => rfl
  | (_, _) :: r => by simp [Ip.encE, encE_len r]; omega
theorem encE_one : ∀ CL : List (Int × Int), ∀ u ∈ Ip.encE CL, u.oneCell' = true
  | [], u, h => by cases h
  | (a, b) :: r, u, h => by
    simp only [Ip.encE, List.mem_cons] at h
    rcases h with rfl | rfl | h
    · rfl
    · rfl
    · exact encE_one r u h
theorem encE_get : ∀ (CL : List (Int × Int)) (k : Nat), k < CL.length → (Ip.encE CL)[k * 2]? = some (.int .i64 (CL.getD k (0, 0)).1) ∧ (Ip.encE CL)[k * 2 + 1]? = some (.int .i64 (CL.getD k (0, 0)).2)
  | [], k, h => absurd h (by simp)
  | (a, b) :: r, 0, _ => ⟨rfl, rfl⟩
  | (a, b) :: r, k + 1, h => by
    have := encE_get r k (by simpa using h)
    rw [show (k + 1) * 2 = k * 2 + 2 by omega]
    simpa [Ip.encE] using this
theorem code_cells {w : World} {b off : Nat} {CL : List (Int × Int)} (h : Ip.IsCode w (some ⟨b, off, none⟩) CL) : ∀ j u, (Ip.encE CL)[j]? = some u → w.cell? ⟨b, off + j, none⟩ = some u := fun j u hu => by
  have hj : j < CL.length * 2 := by rw [← encE_len]; exact (List.getElem?_eq_some_iff.1 hu).1
  obtain ⟨b', off', ha, hc⟩ := h (by omega)
  obtain ⟨rfl, rfl⟩ : b = b' ∧ off = off' := by simpa using ha
  obtain ⟨h1, h2⟩ := hc (j / 2) (by omega)
  obtain ⟨g1, g2⟩ := encE_get CL (j / 2) (by omega)
  rcases Nat.mod_two_eq_zero_or_one j with e | e
  · have e2 : j / 2 * 2 = j := by omega
    rw [e2] at h1 g1
    rw [h1, ← g1, hu]
  · have e2 : j / 2 * 2 + 1 = j := by omega
    rw [Nat.add_assoc, e2] at h2
    rw [e2] at g2
    rw [h2, ← g2, hu]
theorem code_own {w : World} {base n c : Nat} {A : Option Addr} {CL : List (Int × Int)} (ho : w.ownsRow base 51 2 (.slice A n c) n (Ip.encE CL)) (hn : CL.length = n) : Ip.IsCode w A CL := fun hp => by
  rcases ho.2 with ⟨h1, h2⟩ | ⟨g, cap, cur, h1, h2, h3, h4, h5, h6, h7⟩
  · omega
  · injection h1 with h1 _ _
    refine ⟨g, 0, h1, fun j hj => ?_⟩
    have hcell : ∀ j u, (Ip.encE CL)[j]? = some u → w.cell? ⟨g, j, none⟩ = some u := fun j u hu => by
      have := ho.cells (g := g) (by rw [h1]; rfl) j u hu
      rwa [show (⟨g, 0, none⟩ : Addr).add j = ⟨g, j, none⟩ by rw [Go.WideShapes.add_plain, Nat.zero_add]] at this
    obtain ⟨g1, g2⟩ := encE_get CL j hj
    exact ⟨by rw [Nat.zero_add]; exact hcell _ _ g1, by rw [Nat.zero_add]; exact hcell _ _ g2⟩
theorem info51 : (Tryz.prog.info? 51).map (fun i => (i.zero.map (·.cells.size), i.size, i.bytes)) = some (some 2, 2, 16) := by kernel_rfl
theorem clone123 (A : Option Addr) (c : Nat) (CL : List (Int × Int)) (w : World) (hr : Ip.IsCode w A CL) (hs : ∀ a, A = some a → a.spot = none) (hl : CL.length ≤ 1048576) :
    Calls Tryz.prog 123 #[.slice A CL.length c] w fun e w' => ∃ A' c', e = .returned (.slice A' CL.length c') ∧ w'.ownsRow w.heap.size 51 2 (.slice A' CL.length c') CL.length (Ip.encE CL) ∧ Below w.heap.size w w' := by
  cases A with
  | none =>
    obtain rfl : CL = [] := by
      cases CL with
      | nil => rfl
      | cons x r =>
        obtain ⟨b, off, ha, _⟩ := hr (by simp)
        cases ha
    exact (AnyE.slices_Clone_nil Tryz.cl123 0 c w).mono fun e w' q => ⟨none, 0, q.1, own_nil _ _ _ _, q.2 ▸ Below.refl _ _⟩
  | some a =>
    obtain ⟨b, off, sp⟩ := a
    obtain rfl : sp = none := hs _ rfl
    obtain ⟨i0, z0, hi, hz0, hz1, hz2, hz3⟩ := info_big info51
    refine (AnyE.slices_Clone Tryz.cl123 i0 z0 2 16 hi hz0 hz1 hz2 hz3 (by decide) (size_run hi hz1) b off CL.length c (Ip.encE CL) w (encE_len CL) (by unfold maxLen; omega) (by omega) (code_cells hr) (encE_one CL)).mono ?_
    rintro e w' ⟨v, rfl, h1, _, h3⟩
    obtain ⟨A', c', rfl⟩ := own_slice h1
    exact ⟨A', c', rfl, h1, h3⟩
set_option maxRecDepth 100000 in
set_option maxHeartbeats 1000000 in
theorem codecopy (NA KA : Option Addr) (nC kC : Nat) (NL : List ByteArray) (CL : List (Int × Int)) (hn : NL.length ≤ 1000) (hk : CL.length ≤ 1000) (w : World) (hN : ReadsOf Value.string (⟨#[]⟩ : ByteArray) w NA NL.length NL) (hC : Ip.IsCode w KA CL) (hsN : ∀ a, NA = some a → a.spot = none) (hsK : ∀ a, KA = some a → a.spot = none) :
    Calls Tryz.prog 54 #[.agg #[.slice NA NL.length nC, .slice KA CL.length kC]] w fun e w' => ∃ NA' nC' KA' kC', e = .returned (.agg #[.slice NA' NL.length nC', .slice KA' CL.length kC']) ∧ ReadsOf Value.string (⟨#[]⟩ : ByteArray) w' NA' NL.length NL ∧ Ip.IsCode w' KA' CL ∧ (∀ a, NA' = some a → w.heap.size ≤ a.block ∧ a.block < w'.heap.size) ∧ (∀ a, KA' = some a → w.heap.size ≤ a.block ∧ a.block < w'.heap.size) ∧ Below w.heap.size w w' := by
  obtain ⟨pb, hpb⟩ : ∃ b, b = w.heap.size := ⟨_, rfl⟩
  obtain ⟨rb, hrb⟩ : ∃ b, b = w.heap.size + 1 := ⟨_, rfl⟩
  obtain ⟨W1, hW1⟩ : ∃ W, W = (w.alloc (.cells #[.slice NA NL.length nC, .slice KA CL.length kC] 54)).alloc (.cells #[.slice none 0 0, .slice none 0 0] 54) := ⟨_, rfl⟩
  have hb1 : Below w.heap.size w W1 := hW1 ▸ ((Below.refl _ _).alloc (Nat.le_refl _) _).alloc (by simp) _
  have hp1 : Blk W1 pb #[.slice NA NL.length nC, .slice KA CL.length kC] 54 := hW1 ▸ (Blk.newAt hpb).alloc _
  have hr1 : Blk W1 rb #[.slice none 0 0, .slice none 0 0] 54 := hW1 ▸ Blk.newAt (by rw [hrb]; simp)
  have hd : Below W1.heap.size W1 W1.drew := (Below.refl _ _).drew
  have HC1 := Lib.hid (clone122 NA nC NL W1.drew ((hN.below hb1).below hd) hsN (by omega))
  have HP1 := Lib.hid (hp1.below hd)
  have HR1 := Lib.hid (hr1.below hd)
  have HB1 := Lib.hid (hb1.drew)
  have HC := Lib.hid hC
  have HSK := Lib.hid hsK
  have HW1 := Lib.hid hW1
  have HPB := Lib.hid hpb
  have HRB := Lib.hid hrb
  have hs1 : W1.drew.heap.size = w.heap.size + 2 := by rw [hW1]; simp [World.drew]
  have c0 : W1.drew.cell? ⟨pb, 0, none⟩ = some (.slice NA NL.length nC) := HP1.out.cell 0
  have c1 : W1.drew.cell? ⟨pb, 1, none⟩ = some (.slice KA CL.length kC) := HP1.out.cell 1
  clear hN hC hsN hsK hW1 hb1 hp1 hr1 hd hpb hrb
  go_enter Tryz.func54, Tryz.ntmps54
  go_upto_region 1 with fail
  rw [show w.heap.size + 1 = rb from HRB.out.symm, ← HPB.out, ← HW1.out]
  go_region_held3 (fun w' => w'.cell? ⟨pb, 0, none⟩ = some (.slice NA NL.length nC) ∧ w'.cell? ⟨pb, 1, none⟩ = some (.slice KA CL.length kC)) (first | exact ⟨c0, c1⟩ | exact ⟨c0', c1'⟩ | exact ⟨c0'', c1''⟩ | exact HKK.out _ _)
    (first
      | (go_at_call 122
         refine HC1.out.mono ?_
         rintro e w2 ⟨A2, c2, rfl, ho2, hb2⟩
         have HO2 := Lib.hid ho2
         have HB2 := Lib.hid hb2
         have c0' : w2.cell? ⟨pb, 0, none⟩ = some (.slice NA NL.length nC) := (HP1.out.below hb2).cell 0
         have c1' : w2.cell? ⟨pb, 1, none⟩ = some (.slice KA CL.length kC) := (HP1.out.below hb2).cell 1
         clear ho2 hb2)
      | (go_at_call 123
         refine (clone123 KA kC CL w2 (HC.out.below (HB1.out.trans (HB2.out.mono HB1.out.size))) HSK.out (by omega)).mono ?_
         rintro e w3 ⟨A3, c3, rfl, ho3, hb3⟩
         have HO3 := Lib.hid ho3
         have HB3 := Lib.hid hb3
         have hp3 := (HP1.out.below HB2.out).below hb3
         have c0'' : w3.cell? ⟨pb, 0, none⟩ = some (.slice NA NL.length nC) := hp3.cell 0
         have c1'' : w3.cell? ⟨pb, 1, none⟩ = some (.slice KA CL.length kC) := hp3.cell 1
         have hpr : pb ≠ rb := by have := HPB.out; have := HRB.out; omega
         have HKK := Lib.hid (show ∀ v0 v1 : Value, ((w3.setCell ⟨rb, 0, none⟩ v0).setCell ⟨rb, 1, none⟩ v1).cell? ⟨pb, 0, none⟩ = some (.slice NA NL.length nC) ∧ ((w3.setCell ⟨rb, 0, none⟩ v0).setCell ⟨rb, 1, none⟩ v1).cell? ⟨pb, 1, none⟩ = some (.slice KA CL.length kC) from fun v0 v1 => ⟨((hp3.other (a := ⟨rb, 0, none⟩) hpr v0).other (a := ⟨rb, 1, none⟩) hpr v1).cell 0, ((hp3.other (a := ⟨rb, 0, none⟩) hpr v0).other (a := ⟨rb, 1, none⟩) hpr v1).cell 1⟩)
         clear hpr
         have hr3 := (HR1.out.below HB2.out).below hb3
         have ur : ∀ i, w3.cell? ⟨rb, i, none⟩ = _ := fun i => hr3.cell i
         have fr : ∀ i, w3.frozen? ⟨rb, i, none⟩ = false := fun i => hr3.free i
         have lr := hr3.lt
         have HR3 := Lib.hid hr3
         clear ho3 hb3 hp3 hr3))
  rename_i hHeld
  clear hHeld c0 c1 c0' c1' c0'' c1''
  obtain ⟨W4, hW4⟩ : ∃ W, W = (w3.setCell ⟨rb, 0, none⟩ (.slice A2 NL.length c2)).setCell ⟨rb, 1, none⟩ (.slice A3 CL.length c3) := ⟨_, rfl⟩
  rw [← hW4]
  have hf : Blk W4 rb #[.slice A2 NL.length c2, .slice A3 CL.length c3] 54 := by rw [hW4]; simpa using (HR3.out.set 0 (.slice A2 NL.length c2)).set 1 (.slice A3 CL.length c3)
  have hc : Chg (fun k => k = rb) w3 W4 := hW4 ▸ ((Chg.refl (fun k => k = rb) w3).put rb 0 (.inl rfl) _).put rb 1 (.inl rfl) _
  have HF := Lib.hid hf
  have HCC := Lib.hid hc
  clear hW4 hf hc ur fr lr
  go_wp2_with fail
  refine bodyPost_ret (results_single rfl (.cell rb 54 #[.slice A2 NL.length c2, .slice A3 CL.length c3] (0, 0) _ rfl HF.out Tryz.underlying54 rfl (by kernel_rfl) .nil)) rfl ?_
  have hs2 := HB2.out.size
  have hs3 := HB3.out.size
  have hs4 := HCC.out.size
  have erb := HRB.out
  have ho2 := HCC.out.owns (own_below HO2.out HB3.out) (fun k hk e => by have := own_base HO2.out k hk; omega)
  have ho3 := HCC.out.owns HO3.out (fun k hk e => by have := own_base HO3.out k hk; omega)
  have hrd : ReadsOf Value.string (⟨#[]⟩ : ByteArray) W4 A2 NL.length NL := by
    obtain ⟨A', c', he, hle, hr⟩ := own_reads_of_le (d := (⟨#[]⟩ : ByteArray)) ho2
    injection he with he1 he2 he3
    subst he1 he3
    exact hr
  refine ⟨A2, c2, A3, c3, rfl, hrd, code_own ho3 rfl, fun a ha => ⟨by have := own_base ho2 a.block (by rw [ha]; rfl); omega, own_lt ho2 a.block (by rw [ha]; rfl)⟩, fun a ha => ⟨by have := own_base ho3 a.block (by rw [ha]; rfl); omega, own_lt ho3 a.block (by rw [ha]; rfl)⟩, ((HB1.out.trans (HB2.out.mono (by omega))).trans (HB3.out.mono (by omega))).trans (HCC.out.below (fun k hk => by have : k = rb := hk; omega) (by omega))⟩
end Go.Proofs.YtlcdjgpblpodaaaGreatDoor

/- PoiX, RowK -/
import Derived.Test.YtlcdjgpblpodaaaGreatDoorMBR
import Derived.Test.YtlcdjgpblpodaaaGreatDoorMAC
import Derived.Test.YtlcdjgpblpodaaaGreatDoorProg
import Derived.Test.YtlcdjgpblpodaaaGreatDoorRows
import Derived.Deep.Slices
import Derived.WalkKit
import Derived.ProofKit
import Derived.OpenShut
import Derived.ShutString
import Derived.HandedShaped
import Derived.MakeChecks
import Derived.Lay
namespace Go.Proofs.YtlcdjgpblpodaaaGreatDoor
open Go.RowKit Go.Maps Go.Proofs.YtlcdjgpblpodaaaGreatDoorW.PrintWords

set_option maxRecDepth 100000 in
set_option maxHeartbeats 4000000 in
theorem poi_walk (G : World → Prop) (hG : Awake G) (A : Option Addr) (c : Nat) (ks : List Int) (t : Nat) (w : World) (hw : G w) (hk : ReadsOf (Value.int .i64) (0 : Int) w A ks.length ks) (h64 : ∀ x ∈ ks, In64 x) (ht : t ≤ 255) :
    Calls Tryz.prog 5 #[.slice A ks.length c, .int .u8 t] w fun e w' => e = .returned (.bool true) ∧ Below w.heap.size w w' := by
  obtain ⟨i0, hi, hz0, hz1, hz2⟩ := info_parts info2
  have HG := Lib.hid hG
  have HWG := Lib.hid hw
  have HK := Lib.hid hk
  have H64 := Lib.hid h64
  clear hG hw hk h64
  go_enter Tryz.func5, Tryz.ntmps5
  go_wp2_with fail
  refine (HG.out.2 w HWG.out).mono ?_
  rintro e w1 ⟨rfl, hb1⟩
  have HB1 := Lib.hid hb1
  clear hb1
  by_cases hlen : ks.length ≤ 20
  · have t0 : decide ((20 : Int) < (ks.length : Int)) = false := decide_eq_false (by omega)
    have t0' : decide (20 < ks.length) = false := decide_eq_false (by omega)
    go_wp2_with fail
    refine (newdisk 8000 (by omega) w1).mono ?_
    rintro e w2 ⟨db, rfl, hd, hb2⟩
    have HD := Lib.hid hd.lt
    have HB2 := Lib.hid hb2
    clear hd hb2
    go_wp2_with fail
    refine (engopen (fun k => w1.heap.size ≤ k ∧ k < w2.heap.size) db 8000 1 (by omega) (by omega) (by omega) w2 HD.out (fun k hk => hk.2)).mono ?_
    rintro e w3 ⟨eb, reg, rfl, hE, hr, hb3⟩
    have hs1 := HB1.out.size
    have hs2 := HB2.out.size
    have hr0 : ∀ k, k < w.heap.size → reg k = 0 := fun k hk => by
      by_cases h : reg k = 0
      · exact h
      · have := (hr k (by omega) h).1; omega
    have hE3 : EngAt w3 reg eb (engn0 1 2000 db) := hE
    have hs3 := hb3.size
    obtain ⟨kb, hkb⟩ : ∃ b, b = w3.heap.size := ⟨_, rfl⟩
    obtain ⟨W4, hW4⟩ : ∃ W, W = w3.alloc (.cells #[.int .i64 21, .int .i64 0] 51) := ⟨_, rfl⟩
    have hb4 : Below w3.heap.size w3 W4 := hW4 ▸ (Below.refl _ _).alloc (Nat.le_refl _) _
    have hx4 : Blk W4 kb #[.int .i64 21, .int .i64 0] 51 := hW4 ▸ Blk.newAt hkb
    have HTE := Lib.hid (poi_teach reg eb db kb 0 W4 (hE3.below hb4) (hx4.cell 0) (hx4.cell 1) (hE3.new (by omega)) 1)
    have HR0 := Lib.hid hr0
    have HB4 := Lib.hid ((HB1.out.trans (HB2.out.mono hs1)).trans ((hb3.mono (by omega)).trans (hb4.mono (by omega))) : Below w.heap.size w W4)
    have HW4 := Lib.hid hW4
    have HKB := Lib.hid hkb
    clear hE hr hb3 hr0 hE3 hW4 hb4 hx4 hkb
    go_wp2_with fail
    rw [← HKB.out, ← HW4.out]
    refine HTE.out.mono ?_
    rintro e w5 ⟨rfl, E5, hto, hF⟩
    obtain ⟨⟨reg5, hE5, hx5⟩, hc5⟩ := hto
    have hs4 := HB4.out.size
    have hr5 : ∀ k, k < w.heap.size → reg5 k = 0 := fun k hk => (hx5 k (by omega)).trans (HR0.out k hk)
    have hb5 : Below w.heap.size w w5 := HB4.out.trans (hc5.below (fun j hj => by
      rcases Nat.lt_or_ge j w.heap.size with g | g
      · rw [HR0.out j g] at hj; omega
      · exact g) hs4)
    have HS5 := Lib.hid (show PoiS w5 reg5 eb w5 reg5 E5 0 1 0 [] 0 [] none 0 [] from ⟨hE5, fun _ _ => rfl, Chg.refl _ _, hF, own_nil _ _ _ _, fun _ e => by cases e⟩)
    have HR5 := Lib.hid hr5
    have HB5 := Lib.hid hb5
    clear hE5 hx5 hc5 hF hr5 hb5
    go_wp2_with fail
    go_loopw [41, 7] (fun s sp wr => ∃ (k : Nat) (P : Option Addr) (pc : Nat) (xs : List Int) (ps : List Let) (E : Engn) (reg1 : Nat → Nat), s = .int .i64 k ∧ sp = .slice P xs.length pc ∧ k ≤ ks.length ∧ xs.length ≤ 8 ∧ PRel ps xs ∧ PoiS w5 reg5 eb wr reg1 E k (1 + 7 * k) (30 * k) [] 0 ps P pc xs) (fun s _ _ => ks.length - (intOf s).toNat)
    case atStart => exact ⟨0, none, 0, [], [], E5, reg5, rfl, rfl, Nat.zero_le _, Nat.zero_le _, PRel.nil, HS5.out⟩
    case round =>
      obtain ⟨k, P, pc, xs, ps, E, reg1, rfl, rfl, hk, h8, hrl, hS⟩ := hrel
      have k0 : (0 : Int) ≤ (k : Int) := by omega
      have hpl := hrl.1
      have HS := Lib.hid hS
      have HRL := Lib.hid hrl
      clear hS hrl
      by_cases hkl : k < ks.length
      · obtain ⟨ad, had, hcell⟩ := HK.out.2.2 (by omega)
        obtain ⟨b, off, sp⟩ := ad
        obtain rfl : sp = none := by simpa [Addr.add] using World.cell?_spot (hcell 0 (by omega))
        have hcw := hcell k hkl
        rw [show (⟨b, off, none⟩ : Addr).add k = ⟨b, off + k, none⟩ from Go.WideShapes.add_plain _ _ _] at hcw
        have hbl := World.block_lt_of_cell? w _ hcw
        simp only at hbl
        obtain ⟨x, hx⟩ : ∃ x, x = ks.getD k 0 := ⟨_, rfl⟩
        rw [← hx] at hcw
        have hx64 : In64 x := H64.out x (by rw [hx]; simp [List.getD, hkl])
        have HFR := Lib.hid (show ∀ W, Chg (fun j => 2 ≤ reg5 j) w5 W → W.cell? ⟨b, off + k, none⟩ = some (.int .i64 x) from fun W hc => hc.cell (a := ⟨b, off + k, none⟩) (by simp only; rw [HR5.out b hbl]; decide) ((Chg.of_below HB5.out (fun _ => False)).cell (a := ⟨b, off + k, none⟩) (fun h => h) hcw))
        have hcr := HFR.out wr HS.out.ch
        have hblr := World.block_lt_of_cell? wr _ hcr
        simp only at hblr
        have k1 : (k : Int) < (ks.length : Int) := by omega
        have u0 : IntKind.u64.wrap (k : Int) = (k : Int) := by simp [IntKind.wrap, IntKind.bits, IntKind.signed]; omega
        have HOF := Lib.hid (poi_offer reg1 eb E k (1 + 7 * k) (30 * k) ps x wr HS.out.at_ HS.out.F (by omega) (by omega) (by omega) (by unfold U64; omega) hx64)
        subst had
        clear hcell hcw hx hx64
        go_wp2_with fail
        refine HOF.out.mono ?_
        rintro e w6 ⟨rfl, E6, hto, hF⟩
        obtain ⟨reg6, hS6⟩ := HS.out.step hto hF
        have HS6 := Lib.hid hS6
        have HP6 := Lib.hid (poi_again hS6.at_ 0 (by omega) hS6.F (by omega) (by omega) (by omega))
        clear hto hF hS6
        go_wp2_with fail
        refine HP6.out.mono ?_
        rintro e w7 ⟨rfl, E7, hto, hF⟩
        obtain ⟨reg7, hS7⟩ := HS6.out.step hto hF
        have HS7 := Lib.hid hS7
        have HP7 := Lib.hid (poi_again hS7.at_ 1 (by omega) hS7.F (by omega) (by omega) (by omega))
        clear hto hF hS7 hcr
        go_wp2_with fail
        refine HP7.out.mono ?_
        rintro e w8 ⟨rfl, E8, hto, hF⟩
        obtain ⟨reg8, hS8⟩ := HS7.out.step hto hF
        have HS8 := Lib.hid hS8
        have HP8 := Lib.hid (poi_third reg8 eb E8 (k + 1) (1 + 7 * k + 1 + 1 + 1) (30 * k + 3 + 3 + 3) (offL k x []) ps w8 hS8.at_ hS8.F (by omega) (by omega) (by omega))
        clear hto hF hS8
        go_wp2_with fail
        refine HP8.out.mono ?_
        rintro e w9 ⟨po, f2, s2, gg, E9, rfl, hto, hor⟩
        obtain ⟨ob, hob⟩ : ∃ b, b = w9.heap.size := ⟨_, rfl⟩
        obtain ⟨W9, hW9⟩ : ∃ W, W = w9.alloc (.cells #[.bool false, .bool po, .int .i64 f2, .int .i64 s2, .slice none 0 0] 35) := ⟨_, rfl⟩
        have HB9 := Lib.hid (show Below w9.heap.size w9 W9 from hW9 ▸ (Below.refl _ _).alloc (Nat.le_refl _) _)
        have HO9 := Lib.hid (show Blk W9 ob #[.bool false, .bool po, .int .i64 f2, .int .i64 s2, .slice none 0 0] 35 from hW9 ▸ Blk.newAt hob)
        have o1 : W9.cell? ⟨ob, 1, none⟩ = some (.bool po) := HO9.out.cell 1
        have lo := HO9.out.lt
        have HW9 := Lib.hid hW9
        have HOB := Lib.hid hob
        have HTO9 := Lib.hid hto
        have HOR := Lib.hid hor
        clear hto hor hW9 hob
        go_upto_if 72 with fail
        rw [← HW9.out, ← HOB.out]
        go_cut [7, 13, 14, 15, 16] from 72 to 108 (fun v7 v13 v14 v15 v16 wx => Hid (∃ (P' : Option Addr) (c' : Nat) (xs' : List Int) (ps' : List Let) (E' : Engn) (reg' : Nat → Nat), v7 = .slice P' xs'.length c' ∧ xs'.length < 8 ∧ PRel ps' xs' ∧ PoiS w5 reg5 eb wx reg' E' (k + 1) (1 + 7 * k + 6) (30 * k + 18) [] 0 (ps' ++ [offL k x []]) P' c' xs'))
        case first =>
          rcases HOR.out with ⟨hp8, rfl, rfl, hF⟩ | ⟨hp8, rfl, hF⟩
          · have q8 : ((xs.length : Int) == 8) = false := by rw [beq_eq_false_iff_ne]; omega
            obtain ⟨reg9, hS9⟩ := HS8.out.step HTO9.out hF
            have HS9 := Lib.hid (hS9.below HB9.out)
            clear hF hS9
            go_wp2_with fail
            go_meet
            exact Lib.hid ⟨P, pc, xs, ps, E9, reg9, rfl, by omega, HRL.out, HS9.out.more (by omega) (by omega)⟩
          · have q8 : ((xs.length : Int) == 8) = true := by rw [beq_iff_eq]; omega
            obtain ⟨reg9, hS9⟩ := HS8.out.step HTO9.out hF
            have hS9' := hS9.below HB9.out
            have HS9 := Lib.hid hS9'
            have hpd := poi_pardon [offL k x []] 2 hS9'.at_ hS9'.F (by simp) (by omega) (by omega) (.inr (by simp)) (by simp) (by omega) (by omega)
            rw [hp8] at hpd
            have HPD := Lib.hid (show Calls Tryz.prog 16 #[.pointer (some ⟨eb, 0, none⟩), .string kA] W9 fun e w' => e = .returned (.tuple #[.int .i64 8, .int .i64 0]) ∧ ∃ E', EngTo W9 reg9 eb E' w' ∧ PoiE E' (k + 1) (1 + 7 * k + 1 + 1 + 1 + 1 + 1) (30 * k + 3 + 3 + 3 + 3 + 3) [offL k x []] 2 [] from hpd)
            clear hF hS9 hS9' hpd
            go_wp2_with fail
            refine HPD.out.mono ?_
            rintro e w10 ⟨rfl, E10, hto, hF⟩
            obtain ⟨reg10, hS10⟩ := HS9.out.step hto hF
            have HS10 := Lib.hid hS10
            have HPP := Lib.hid (poi_poison hS10.at_ hS10.F (by simp) (by omega) (by omega))
            clear hto hF hS10
            go_wp2_with fail
            refine HPP.out.mono ?_
            rintro e w11 ⟨rfl, E11, hto, hF⟩
            obtain ⟨reg11, hS11⟩ := HS10.out.step hto hF
            have HS11 := Lib.hid hS11
            clear hto hF hS11
            go_wp2_with fail
            go_meet
            exact Lib.hid ⟨none, 0, [], [], E11, reg11, rfl, by simp, PRel.nil, ((HS11.out.below ((Below.refl _ _).alloc (Nat.le_refl _) _)).clear).more (by omega) (by omega)⟩
        case rest =>
          obtain ⟨P', c', xs', ps', E', reg', rfl, hx8, hrl', hS'⟩ := hcut
          have hcr := HFR.out wc hS'.ch
          have hblr := World.block_lt_of_cell? wc _ hcr
          simp only at hblr
          have HSX := Lib.hid hS'
          have HRX := Lib.hid (hrl'.snoc k x)
          have hrs := hS'.ch.size
          have HRW := Lib.hid (hS'.row.alloc (.cells #[.int .i64 x] 2))
          clear hS' hrl' o1 lo hpl
          go_upto_if 119 with (at_builtin; refine wpList_append_lies _ rfl _ _ 22 rfl w5.heap.size 2 i0 (.int .i64 0) 1 8 Tryz.underlying22 hi hz0 hz1 hz2 rfl (by decide) _ xs'.length (encs (Value.int .i64) xs') rfl HRW.out ⟨wc.heap.size, 0, none⟩ 1 1 [.int .i64 x] rfl rfl (cell_one_new _ _ _) (ints_oneCell .i64 [x]) (by decide) (by unfold maxLen; omega) (by omega) (by simp; omega) (wc.heap.size + 1) (by simp) ?_; intro g cap w13 ho13 hg13 hat13 hlt13)
          have HS13 := Lib.hid (HSX.out.push (x := x) hg13 hat13 ho13)
          clear ho13 hg13 hat13 hlt13 hcr
          go_cut [7] from 119 to 121 (fun v7 wx => Hid (∃ (P2 : Option Addr) (c2 : Nat) (xs2 : List Int) (ps2 : List Let) (E2 : Engn) (reg2 : Nat → Nat), v7 = .slice P2 xs2.length c2 ∧ xs2.length ≤ 8 ∧ PRel ps2 xs2 ∧ PoiS w5 reg5 eb wx reg2 E2 (k + 1) (1 + 7 * k + 7) (30 * k + 21) [] 0 ps2 P2 c2 xs2))
          case first =>
            have u1 : IntKind.i64.wrap (t : Int) = (t : Int) := by rw [IntKind.wrap_i64]; omega
            by_cases hkt : k = t
            · have e0 : ((k : Int) == (t : Int)) = true := by rw [hkt]; exact beq_self_eq_true _
              have HPD := Lib.hid (poi_pardon [] 0 HS13.out.at_ HS13.out.F (by simp) (by have := HRX.out.1; simp at this ⊢; omega) (by omega) (.inl rfl) (by simp) (by omega) (by omega))
              clear hkt
              go_wp2_with fail
              refine HPD.out.mono ?_
              rintro e w14 ⟨rfl, E14, hto, hF⟩
              obtain ⟨reg14, hS14⟩ := HS13.out.step hto hF
              have HS14 := Lib.hid hS14
              clear hto hF hS14
              go_wp2_with fail
              go_meet
              exact Lib.hid ⟨none, 0, [], [], E14, reg14, rfl, by simp, PRel.nil, HS14.out.clear.more (by omega) (by omega)⟩
            · have e0 : ((k : Int) == (t : Int)) = false := by rw [beq_eq_false_iff_ne]; omega
              clear hkt
              go_wp2_with fail
              go_meet
              exact Lib.hid ⟨some ⟨g, 0, none⟩, cap, xs' ++ [x], _, E', reg', by rw [List.length_append]; rfl, by rw [List.length_append]; simp; omega, HRX.out, HS13.out.more (by omega) (by omega)⟩
          case rest =>
            obtain ⟨P2, c2, xs2, ps2, E2, reg2, rfl, hx2, hrl2, hS2⟩ := hcut
            have HAC := Lib.hid (actor_any reg2 eb E2 kA wc hS2.at_ kA_ok hS2.F.hls (by have := hS2.F.z; omega))
            have HS2 := Lib.hid hS2
            have HR2 := Lib.hid hrl2
            obtain ⟨n, hn⟩ : ∃ n, n = xs2.length := ⟨_, rfl⟩
            rw [← hn] at hx2 ⊢
            have HN := Lib.hid hn
            clear hS2 hrl2 hn
            go_wp2_with fail
            refine HAC.out.mono ?_
            rintro e w15 ⟨q, rfl, hto, hq⟩
            have hF2 := HS2.out.F
            rw [hF2.act] at hq
            obtain ⟨jb, ib, pob, PA, ppc, XJ, XI, XO, XP, hP⟩ := hq
            obtain ⟨reg15, hS15⟩ := HS2.out.step (i' := k + 1) (q' := 1 + 7 * k + 7) (z' := 30 * k + 22) (ls' := []) (t' := 0) (ps' := ps2) hto ⟨hF2.room, hF2.cnt, hF2.NL, hF2.CL, .inr rfl, hF2.act, hF2.oks, hF2.poks, hF2.win, hF2.q, by show E2.z + 1 ≤ _; have := hF2.z; omega⟩
            have hpn : ps2.length = n := HR2.out.1.trans HN.out.symm
            have q4 : w15.cell? ⟨q, 4, none⟩ = some (.slice PA n ppc) := (hP.blk.cell 4).trans (by show some (Value.slice PA ps2.length ppc) = _; rw [hpn])
            have q1 : w15.cell? ⟨q, 1, none⟩ = some (.pointer (some ⟨ib, 0, none⟩)) := hP.blk.cell 1
            have lq := hP.blk.lt
            have HLN := Lib.hid (show Calls Tryz.prog 12 #[.pointer (some ⟨ib, 0, none⟩)] w15 fun e w' => e = .returned (.int .i64 0) ∧ w15 = w' from len_any XI ib [] w15 hP.inr)
            have HPO := Lib.hid (show LetsAt w15 XP PA ps2 from hP.poi)
            have HS15 := Lib.hid hS15
            have HPN := Lib.hid hpn
            have hrow := hS15.row
            obtain ⟨P3, c3, he, hle, hrd⟩ := own_reads_of_le (d := (0 : Int)) hrow
            injection he with he1 _ he3
            subst he1 he3
            have HRD := Lib.hid hrd
            clear hto hP hF2 hS15 hpn hrow hle hrd
            go_wp2_with fail
            refine HLN.out.mono ?_
            rintro e w16 ⟨rfl, rfl⟩
            go_wp2_with fail
            clear q1
            go_loopw [145] (fun s wr => ∃ m : Nat, s = .int .i64 m ∧ m ≤ n ∧ Below w15.heap.size w15 wr) (fun s _ => n - (intOf s).toNat)
            case atStart => exact ⟨0, rfl, Nat.zero_le _, Below.refl _ _⟩
            case round =>
              obtain ⟨m, rfl, hm, hbm⟩ := hrel
              have m0 : (0 : Int) ≤ (m : Int) := by omega
              have HBM := Lib.hid hbm
              clear hbm
              by_cases hmn : m < n
              · obtain ⟨l, hl⟩ : ∃ l, ps2[m]? = some l := ⟨_, List.getElem?_eq_getElem (by rw [HPN.out]; exact hmn)⟩
                obtain ⟨f1, f2, f3⟩ := HR2.out.2 m l hl
                obtain ⟨b2, off2, hPA, hXb, hcell⟩ := HPO.out (by intro h; rw [h] at hl; simp at hl)
                obtain ⟨AA, ca, y0, y1, y2, y3, -⟩ := hcell m l hl
                rw [f1] at y0
                rw [f2] at y3
                obtain ⟨ad3, had3, hc3⟩ := HRD.out.2.2 (by have := HN.out; omega)
                obtain ⟨b3, off3, sp3⟩ := ad3
                obtain rfl : sp3 = none := by simpa [Addr.add] using World.cell?_spot (hc3 0 (by have := HN.out; omega))
                have y5 := hc3 m (by rw [← HN.out]; exact hmn)
                rw [show (⟨b3, off3, none⟩ : Addr).add m = ⟨b3, off3 + m, none⟩ from Go.WideShapes.add_plain _ _ _, show xs2.getD m 0 = l.kind by simp [List.getD, f3]] at y5
                subst hPA had3
                have m1 : (m : Int) < (n : Int) := by omega
                have KEY := Lib.hid (show ∀ w', Below w15.heap.size w15 w' → w'.cell? ⟨q, 4, none⟩ = some (.slice (some ⟨b2, off2, none⟩) n ppc) ∧ w'.cell? ⟨b2, off2 + m * 4, none⟩ = some (.string ⟨#[]⟩) ∧ w'.cell? ⟨b2, off2 + m * 4 + 1, none⟩ = some (.int .u64 l.serial) ∧ w'.cell? ⟨b2, off2 + m * 4 + 2, none⟩ = some (.int .i64 l.kind) ∧ w'.cell? ⟨b2, off2 + m * 4 + 3, none⟩ = some (.slice AA 0 ca) ∧ w'.cell? ⟨b3, off3 + m, none⟩ = some (.int .i64 l.kind) from fun w' hb => by
                  have hcg := Chg.of_below hb (fun _ => False)
                  exact ⟨hcg.cell (a := ⟨q, 4, none⟩) (fun h => h) q4, hcg.cell (a := ⟨b2, off2 + m * 4, none⟩) (fun h => h) y0, hcg.cell (a := ⟨b2, off2 + m * 4 + 1, none⟩) (fun h => h) y1, hcg.cell (a := ⟨b2, off2 + m * 4 + 2, none⟩) (fun h => h) y2, hcg.cell (a := ⟨b2, off2 + m * 4 + 3, none⟩) (fun h => h) y3, hcg.cell (a := ⟨b3, off3 + m, none⟩) (fun h => h) y5⟩)
                have hbd : Below w15.heap.size w15 wr.drew := HBM.out.drew
                have HBD := Lib.hid hbd
                have lb2 : b2 < wr.drew.heap.size := World.block_lt_of_cell? wr.drew _ (KEY.out _ hbd).2.1
                have lb3 : b3 < wr.drew.heap.size := World.block_lt_of_cell? wr.drew _ (KEY.out _ hbd).2.2.2.2.2
                have lqd : q < wr.drew.heap.size := World.block_lt_of_cell? wr.drew _ (KEY.out _ hbd).1
                clear hl f1 f2 f3 hXb hcell y0 y1 y2 y3 hc3 y5 hbd
                go_upto_region 34 with fail
                go_region_held3 (fun w' => w'.cell? ⟨q, 4, none⟩ = some (.slice (some ⟨b2, off2, none⟩) n ppc) ∧ w'.cell? ⟨b2, off2 + m * 4, none⟩ = some (.string ⟨#[]⟩) ∧ w'.cell? ⟨b2, off2 + m * 4 + 1, none⟩ = some (.int .u64 l.serial) ∧ w'.cell? ⟨b2, off2 + m * 4 + 2, none⟩ = some (.int .i64 l.kind) ∧ w'.cell? ⟨b2, off2 + m * 4 + 3, none⟩ = some (.slice AA 0 ca) ∧ w'.cell? ⟨b3, off3 + m, none⟩ = some (.int .i64 l.kind)) (first | exact KEY.out _ HBD.out | exact KEY.out _ HB17.out)
                  (first
                    | (go_at_call 17
                       refine (same_any l.serial l.kind AA ca wr.drew).mono ?_
                       rintro e w17 ⟨rfl, hb17⟩
                       have HB17 := Lib.hid (HBD.out.trans (hb17.mono HBD.out.size))
                       clear hb17))
                rename_i hHeld
                clear hHeld
                go_wp2_with fail
                go_roundw
                case rel => exact ⟨m + 1, by go_num, by omega, HB17.out⟩
                case measure => simp [intOf]; omega
              · obtain rfl : m = n := by omega
                go_wp2_with fail
                go_roundw
                case rel => exact ⟨k + 1, _, _, xs2, ps2, _, reg15, by go_num, by rw [← HN.out], by omega, by rw [← HN.out]; exact hx2, HR2.out, (HS15.out.below HBM.out).more (by omega) (by omega)⟩
                case measure => simp [intOf]; omega
      · obtain rfl : k = ks.length := by omega
        clear k0
        go_wp2_with fail
        go_ret
        have hs5 := HB5.out.size
        refine ⟨rfl, HB5.out.trans (HS.out.ch.below (fun j hj => ?_) hs5)⟩
        rcases Nat.lt_or_ge j w.heap.size with g | g
        · rw [HR5.out j g] at hj; omega
        · exact g
  · have t0 : decide ((20 : Int) < (ks.length : Int)) = true := decide_eq_true (by omega)
    have t0' : decide (20 < ks.length) = true := decide_eq_true (by omega)
    have HAW := Lib.hid (HG.out.2 w1 (HG.out.1 w w1 HWG.out HB1.out))
    go_wp2_with fail
    refine HAW.out.mono ?_
    rintro e w2 ⟨rfl, hb2⟩
    have HB2 := Lib.hid (HB1.out.trans (hb2.mono HB1.out.size))
    clear hb2
    go_wp2_with fail
    go_ret
    exact ⟨rfl, HB2.out⟩
end Go.Proofs.YtlcdjgpblpodaaaGreatDoor
namespace Go.Proofs.YtlcdjgpblpodaaaGreatDoor.topRow
open Go.Proofs.YtlcdjgpblpodaaaGreatDoorW.PrintWords
open Go.ChangeShapes Go.WideShapes Go.ChangeAt Go.RowKit
open Go.ChangeMaps (open_string shut_string)
set_option linter.unusedVariables false

theorem own : ownKnob Tryz.prog.godebug = none := by kernel_rfl
theorem laidOut : laidOutB Tryz.prog = true := by kernel_rfl
section
variable {H : Type} {enc : TypeId × Value → H} {w : World} {base : Nat} {spare : Nat → Bool} {held : Bool}
theorem open_kinds {fuel : Nat} {A : Option Addr} {len cap : Nat} {x : DataW H × List MemPlace} (h : DataW.trod enc Tryz.prog w base spare held fuel 22 [.slice A len cap] = some x) :
    ∃ ks : List Int, len = ks.length ∧ ReadsOf (Value.int .i64) (0 : Int) w A ks.length ks ∧ ∀ y ∈ ks, In64 y := by
  rcases Go.Deep.open_slice Tryz.underlying22 h with ⟨hcs, _⟩ | ⟨a, l, c, m, n, D, Pl, hcs, _, hl, hm, hmm, _, hx⟩
  · simp at hcs
    obtain ⟨rfl, rfl, rfl⟩ := hcs
    exact ⟨[], rfl, ⟨rfl, by show 0 ≤ _; omega, fun h => absurd h (by simp)⟩, fun y hy => by cases hy⟩
  · simp at hcs
    obtain ⟨rfl, rfl, rfl⟩ := hcs
    rw [show Tryz.prog.cellsOf 2 = 1 by kernel_rfl] at hx
    have hlm : len ≤ m := by rw [hmm]; split <;> omega
    have key : ∀ i, i < len → ∃ q : Int, w.cell? (a.add (i * 1)) = some (.int .i64 q) ∧ In64 q := fun i hi => by
      obtain ⟨cs', h1, h2⟩ := hx i (by omega)
      obtain ⟨_, _, hg⟩ := World.cells?_some h1
      obtain ⟨q, e, _, hw⟩ := DataW.trod_int Tryz.underlying2 h2
      subst e
      exact ⟨q, by simpa [Addr.add] using hg 0 (by omega), by simpa [In64, Lit.wf, IntKind.min, IntKind.max, IntKind.signed, IntKind.bits] using hw⟩
    obtain ⟨q, hq⟩ := Go.Deep.choose_lt key
    refine ⟨(List.range len).map q, by simp, ⟨rfl, by simp; unfold maxLen at hm; omega, fun _ => ⟨a, rfl, fun j hj => ?_⟩⟩, fun y hy => ?_⟩
    · have hj' : j < len := by simpa using hj
      have h1 := (hq j hj').1
      rw [Nat.mul_one] at h1
      rw [h1]
      simp [List.getD_eq_getElem?_getD, hj']
    · obtain ⟨j, hj, rfl⟩ := List.mem_map.1 hy
      exact (hq j (by simpa using hj)).2
end
/-- The wrap: the list's data and the world's shape at once; the data are not read. -/
theorem wrap {H : Type} {enc : TypeId × Value → H} {C : Checked} {os : Os} {f : FuncId} {fn : Func} {s : ChangeSpec} {X : World → Array Value → Prop}
    (own : ownKnob C.prog.godebug = none) (started : os.Started) (noInit : C.prog.inits.idxOf? f = none) (hfn : C.prog.funcs[f]? = some fn)
    (witness : ∃ (w : World) (tape : Tape) (i : Input), w.os = os ∧ (w.forCall tape i).Shaped C.prog ∧ i.vars = [] ∧ Input.okWide C.prog (w.forCall tape i) .any w.heap.size f i ∧
      ((s.pre enc C.prog fn [] false (w.forCall tape i).memory i.args ∧ X (w.forCall tape i).memory i.args) ∧ sizedMet enc C.prog fn (OpenSpec.ofChange s) false (w.forCall tape i).memory i.args) ∧ ({} : Assume).holds C.prog (lone (Frame.enter C.prog f i.args .normal) [] (w.forCall tape i)))
    (contract : ∀ (W : World) (base : Nat) (args : Array Value) (ds gs : List (DataW H)) (before : List MemPlace),
      (∀ (j : Nat) t v, fn.params[j]? = some t → args[j]? = some v → Value.okWide C.prog W .any base t v) →
      DataW.Whole enc C.prog fn.params.toList s.vars false W args.toList ds gs before → W.ShapedOpen C.prog →
      Calls C.prog f args W fun e W' => ∃ v, e = .returned v ∧ s.post enc C.prog fn false true false false W args v W') :
    ReturnsInHanded {} C os f .any (fun w args => (s.pre enc C.prog fn [] false w args ∧ X w args) ∧ sizedMet enc C.prog fn (OpenSpec.ofChange s) false w args) (s.post enc C.prog fn false true false false) := by
  refine returnsInHanded_of_calls own started noInit witness fun w tape i _ hsh _ hok hpre _ => ?_
  obtain ⟨_, _, _, fn', hfn', _, _, _, _, hval⟩ := hok
  obtain rfl : fn' = fn := Option.some.inj (hfn'.symm.trans hfn)
  obtain ⟨⟨⟨ds, gs, before, hw, _⟩, _⟩, _⟩ := hpre
  refine (contract (w.forCall tape i) w.heap.size i.args ds gs before hval (DataW.Whole.of_heap (w' := w.forCall tape i) (by rfl) hw) hsh).mono fun e W' ⟨v, he, hp⟩ => ?_
  subst he
  exact ChangeSpec.post_blind hp
end Go.Proofs.YtlcdjgpblpodaaaGreatDoor.topRow

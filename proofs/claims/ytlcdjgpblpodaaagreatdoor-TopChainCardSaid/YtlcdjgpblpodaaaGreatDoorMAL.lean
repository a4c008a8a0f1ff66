/- Jour2, Jour3 -/
import Derived.Test.YtlcdjgpblpodaaaGreatDoorMAK
import Derived.Deep.RegionWith
namespace Go.Proofs.YtlcdjgpblpodaaaGreatDoor
open Go.RowKit Go.Proofs.YtlcdjgpblpodaaaGreatDoorW.PrintWords

theorem info146 : (Tryz.prog.info? 146).map (fun i => (i.zero.map (·.cells.size), i.size, i.bytes)) = some (some 2, 2, 16) := by kernel_rfl
/-- The base, k registers read. -/
def baseTo (b : List Int) (k : Nat) : List Int := b.take k ++ List.replicate (8 - k) 0
theorem baseTo_len (b : List Int) (h : b.length = 8) (k : Nat) (hk : k ≤ 8) : (baseTo b k).length = 8 := by simp [baseTo, h]; omega
theorem baseTo_all (b : List Int) (h : b.length = 8) : baseTo b 8 = b := by simp [baseTo, List.take_of_length_le (show b.length ≤ 8 by omega)]
theorem baseTo_step (b : List Int) (h : b.length = 8) (k : Nat) (hk : k < 8) : (baseTo b k).set k (b.getD k 0) = baseTo b (k + 1) := by
  unfold baseTo
  have hl : (b.take k).length = k := by simp; omega
  rw [List.set_append_right _ _ (by omega), hl, Nat.sub_self, show 8 - k = (8 - (k + 1)) + 1 by omega, List.replicate_succ, List.set_cons_zero]
  have htk := List.take_append_getElem (l := b) (i := k) (by omega)
  rw [← htk, show b.getD k 0 = b[k] by simp [List.getD, h, hk], List.append_assoc]
  rfl
theorem encEvents_drop (es : List (Nat × Int)) (k : Nat) (e : Nat × Int) (h : es[k]? = some e) : encEvents (es.drop k) = encNum e.1 ++ (encInt e.2 ++ encEvents (es.drop (k + 1))) := by
  have hk : k < es.length := (List.getElem?_eq_some_iff.1 h).1
  rw [List.drop_eq_getElem_cons hk, encEvents, show es[k] = e from (List.getElem?_eq_some_iff.1 h).2]
set_option maxRecDepth 100000 in
set_option maxHeartbeats 2000000 in
theorem jdec_any (A : Option Addr) (c0 : Nat) (jj : Jour) (hj : jj.Ok) (w : World) (hr : ReadsOf (Value.int .u8) (0 : Int) w A (encJour jj).length (encJour jj)) :
    Calls Tryz.prog 85 #[.slice A (encJour jj).length c0] w fun e w' => ∃ jb, e = .returned (.tuple #[.pointer (some ⟨jb, 0, none⟩), .int .i64 0]) ∧ JourAt w' (fun k => w.heap.size ≤ k) jb jj ∧ Below w.heap.size w w' := by
  have hlen := encJour_length jj hj
  have v1 := hj.version
  have v2 := hj.base
  have v3 := hj.few
  have v4 := hj.less
  unfold U64 at v1
  have HN := Lib.hid (RP.new A c0 (encJour jj) w hr (by omega) (encJour_bytes jj hj))
  have HE := Lib.hid hj.each
  have HV := Lib.hid hj.event
  obtain ⟨i0, z0, hi, hz0, hz1, hz2, hz3⟩ := info_big info146
  obtain ⟨N, hN⟩ : ∃ N, N = (encJour jj).length := ⟨_, rfl⟩
  rw [← hN] at HN ⊢
  clear hr hN hj hlen
  go_enter Tryz.func85, Tryz.ntmps85
  go_wp2_with fail
  refine HN.out.mono ?_
  rintro e w1 ⟨rb, rfl, hrb, hp, hb⟩
  have HB0 := Lib.hid hb
  have hrlt := hp.rlt
  have hs1 := hb.size
  obtain ⟨X, hX⟩ : ∃ X : Nat → Prop, X = fun k => w.heap.size ≤ k ∧ k < rb := ⟨_, rfl⟩
  rw [← hX, show encJour jj = encNum jj.version ++ (encInts jj.base ++ (encNum jj.events.length ++ (encEvents jj.events ++ []))) by simp [encJour]] at hp
  have HP := Lib.hid hp
  clear hp hb hX HN
  go_wp2_with fail
  refine (RP.num jj.version v1 HP.out).mono ?_
  rintro e w2 ⟨rfl, h2, _⟩
  have HP2 := Lib.hid h2
  clear h2
  go_wp2_with fail
  obtain ⟨jb, hjb⟩ : ∃ b, b = w2.heap.size := ⟨_, rfl⟩
  obtain ⟨W3, hW3⟩ : ∃ W, W = w2.alloc (.cells #[.int .i64 0, .int .i64 0, .int .i64 0, .int .i64 0, .int .i64 0, .int .i64 0, .int .i64 0, .int .i64 0, .slice none 0 0, .int .u64 jj.version] 144) := ⟨_, rfl⟩
  rw [← hW3, ← hjb]
  have HB3 := Lib.hid (show Blk W3 jb (jcells (baseTo jj.base 0) (.slice none 0 0) (.int .u64 jj.version)) 144 from by rw [hW3, hjb]; exact Blk.new _ _ _)
  have HR3 := Lib.hid (show RP w1 rb X _ W3 from hW3 ▸ HP2.out.alloc _)
  have hjb1 : w1.heap.size ≤ jb := by rw [hjb]; exact HP2.out.chg.size
  have HNE := Lib.hid (show ¬ jb = rb by omega)
  clear hW3 hjb
  go_loopw [15] (fun s wr => ∃ k : Nat, s = .int .i64 k ∧ k ≤ 8 ∧ Blk wr jb (jcells (baseTo jj.base k) (.slice none 0 0) (.int .u64 jj.version)) 144 ∧ RP w1 rb X (encInts (jj.base.drop k) ++ (encNum jj.events.length ++ (encEvents jj.events ++ []))) wr) (fun s _ => 8 - (intOf s).toNat)
  case atStart => exact ⟨0, rfl, by omega, HB3.out, HR3.out⟩
  case round =>
    obtain ⟨k, rfl, hk, hb, hr⟩ := hrel
    by_cases hkl : k < 8
    · rw [encInts_drop jj.base k (by omega), List.append_assoc] at hr
      have H64 := Lib.hid (In64.get HE.out k (by omega))
      have HST := Lib.hid (baseTo_step jj.base v2 k hkl)
      have HBL := Lib.hid (baseTo_len jj.base v2 k hk)
      obtain ⟨Bs, hBs⟩ : ∃ B, B = baseTo jj.base k := ⟨_, rfl⟩
      obtain ⟨x, hx⟩ : ∃ x, x = jj.base.getD k 0 := ⟨_, rfl⟩
      rw [← hx] at hr H64 HST
      rw [← hBs] at hb HST HBL
      have HR := Lib.hid hr.drew
      have HB := Lib.hid hb.drew
      have k0 : (0 : Int) ≤ (k : Int) := by omega
      have k1 : (k : Int) < 8 := by omega
      clear hr hb hx hBs HB3 HR3
      go_upto_region 6 with fail
      go_region_with ((go_at_call 27; refine (RP.int x H64.out HR.out).mono ?_; rintro e w5 ⟨rfl, h5, h5c⟩; have hb5 := h5c.blk HB.out HNE.out; have c5 : w5.cell? ⟨jb, k, none⟩ = some (.int .i64 (Bs.getD k 0)) := (hb5.cell k).trans (jcells_base _ _ _ _ (by have := HBL.out; omega)); have f5 := hb5.free k; have HR5 := Lib.hid h5; have HB5 := Lib.hid hb5; clear h5 h5c hb5))
      all_goals
        go_wp2_with fail
        go_roundw
        case rel => exact ⟨k + 1, by go_num, by omega, by rw [← HST.out, ← jcells_set _ _ _ _ _ (by have := HBL.out; omega)]; exact HB5.out.set k _, HR5.out.step ((Chg.refl _ _).put jb k (.inl hjb1) _)⟩
        case measure => simp [intOf]; omega
    · obtain rfl : k = 8 := by omega
      rw [baseTo_all _ v2] at hb
      rw [List.drop_of_length_le (by omega)] at hr
      have HR := Lib.hid hr
      have c9 : wr.cell? ⟨jb, 9, none⟩ = some (.int .u64 jj.version) := (hb.cell 9).trans (jcells_v _ _ _ v2)
      have HB := Lib.hid hb
      clear hr hb HB3 HR3 c9
      have t0 : decide ((16 : Int) < (jj.events.length : Int)) = false := by simp; omega
      have t1 : decide (jj.version < jj.events.length) = false := by simp; omega
      go_wp2_with fail
      refine (RP.num jj.events.length (by omega) HR.out).mono ?_
      rintro e w4 ⟨rfl, h4, hc4⟩
      have hb4 := hc4.blk HB.out HNE.out
      have c9 : w4.cell? ⟨jb, 9, none⟩ = some (.int .u64 jj.version) := (hb4.cell 9).trans (jcells_v _ _ _ v2)
      have HR4 := Lib.hid h4
      have HB4 := Lib.hid hb4
      clear h4 hc4 hb4
      go_wp2_with fail
      go_loopw [39] (fun s wr => ∃ (k : Nat) (E : Option Addr) (c : Nat), s = .int .u64 k ∧ k ≤ jj.events.length ∧ Blk wr jb (jcells jj.base (.slice E (jj.events.take k).length c) (.int .u64 jj.version)) 144 ∧ wr.ownsRow w1.heap.size 146 2 (.slice E (jj.events.take k).length c) (jj.events.take k).length (evC (jj.events.take k)) ∧ RP w1 rb X (encEvents (jj.events.drop k) ++ []) wr) (fun s _ => jj.events.length - (intOf s).toNat)
      case atStart => exact ⟨0, none, 0, rfl, by omega, by simpa using HB4.out, own_nil _ _ _ _, by simpa using HR4.out⟩
      case round =>
        obtain ⟨k, E, c, rfl, hk2, hb, ho, hr⟩ := hrel
        by_cases hkl2 : k < jj.events.length
        · obtain ⟨ev, hev⟩ : ∃ ev, jj.events[k]? = some ev := ⟨_, List.getElem?_eq_getElem hkl2⟩
          obtain ⟨v8, v64⟩ := HV.out ev (List.mem_of_getElem? hev)
          have htk : jj.events.take (k + 1) = jj.events.take k ++ [ev] := by rw [List.take_add_one, hev]; rfl
          rw [encEvents_drop _ k ev hev, List.append_assoc, List.append_assoc] at hr
          have hlk : (jj.events.take k).length = k := by simp; omega
          obtain ⟨TL, hTL⟩ : ∃ TL, TL = jj.events.take k := ⟨_, rfl⟩
          rw [← hTL] at hb ho htk hlk
          obtain ⟨rg, hrg⟩ : ∃ rg, rg = ev.1 := ⟨_, rfl⟩
          obtain ⟨x, hx⟩ : ∃ x, x = ev.2 := ⟨_, rfl⟩
          have he : ev = (rg, x) := by rw [hrg, hx]
          rw [he] at htk
          rw [← hrg] at v8
          rw [← hx] at v64
          rw [← hrg, ← hx] at hr
          have HTK := Lib.hid htk
          have H64 := Lib.hid v64
          have HJ := Lib.hid (show TL.length ≤ 16 by omega)
          have HNB := Lib.hid (show ∀ k, (Value.slice E TL.length c).ownBlock = some k → ¬ k = rb from fun k hk => by have := own_base ho k hk; omega)
          have HRR := Lib.hid hr
          have HBB := Lib.hid hb
          have HOO := Lib.hid ho
          have k0 : (0 : Int) ≤ (k : Int) := by omega
          have k1 : (k : Int) < (jj.events.length : Int) := by omega
          have g0 : (0 : Int) ≤ (rg : Int) := by omega
          have g1 : (rg : Int) < 8 := by omega
          have g2 : decide ((8 : Int) ≤ (rg : Int)) = false := by simp; omega
          have g3 : IntKind.i64.wrap (rg : Int) = rg := by rw [IntKind.wrap_i64]; omega
          have hrlt8 : rg < 18446744073709551616 := by omega
          clear hr hb ho hTL htk hlk hrg hx he hev v64 c9
          go_wp2_with fail
          refine (RP.num rg hrlt8 HRR.out).mono ?_
          rintro e w4 ⟨rfl, h4, hc4⟩
          have hb4 := hc4.blk HBB.out HNE.out
          have HR := Lib.hid h4.drew
          have HB := Lib.hid hb4.drew
          have HO := Lib.hid (World.ownsRow.drew (hc4.owns HOO.out HNB.out))
          have c8 : w4.drew.cell? ⟨jb, 8, none⟩ = some (.slice E TL.length c) := (hb4.cell 8).trans (jcells_ev _ _ _ v2)
          clear h4 hc4 hb4
          go_upto_region 16 with fail
          obtain ⟨S, hSD⟩ : ∃ S : World → Prop, S = fun w' => w'.cell? ⟨jb, 8, none⟩ = some (.slice E TL.length c) := ⟨_, rfl⟩
          have HSD := Lib.hid hSD
          clear hSD
          refine Held.region S 14 (by kernel_rfl) (by rw [HSD.out]; exact c8) (fun hHeld => ?_)
          refine Held.take (i := 0) (oi := { dst := _, op := _, type := _, pos := _, after := _, guard := _ }) (v := ?vb0) rfl (by kernel_rfl) (by kernel_rfl) (by kernel_rfl) (by kernel_rfl) (fun _ _ _ h => h) (Or.inl ⟨by rfl, ?hyb0⟩) (by assumption) ?restb0
          case hyb0 => (intro w hSw; rw [HSD.out] at hSw; (try dsimp only at hSw); go_simp; (try with_reducible rfl))
          try simp only [Act.put, List.setIfInBounds_toArray, List.set_cons_zero, List.set_cons_succ]
          refine Held.take (i := 1) (oi := { dst := _, op := _, type := _, pos := _, after := _, guard := _ }) (v := ?vb1) rfl (by kernel_rfl) (by kernel_rfl) (by kernel_rfl) (by kernel_rfl) (fun _ _ _ h => h) (Or.inl ⟨by rfl, ?hyb1⟩) (by assumption) ?restb1
          case hyb1 => (intro w hSw; rw [HSD.out] at hSw; (try dsimp only at hSw); go_simp; (try with_reducible rfl))
          try simp only [Act.put, List.setIfInBounds_toArray, List.set_cons_zero, List.set_cons_succ]
          refine Held.take (i := 2) (oi := { dst := _, op := _, type := _, pos := _, after := _, guard := _ }) (v := ?vb2) rfl (by kernel_rfl) (by kernel_rfl) (by kernel_rfl) (by kernel_rfl) (fun _ _ _ h => h) (Or.inl ⟨by rfl, ?hyb2⟩) (by assumption) ?restb2
          case hyb2 => (intro w hSw; rw [HSD.out] at hSw; (try dsimp only at hSw); go_simp; (try with_reducible rfl))
          try simp only [Act.put, List.setIfInBounds_toArray, List.set_cons_zero, List.set_cons_succ]
          refine Held.take (i := 3) (oi := { dst := _, op := _, type := _, pos := _, after := _, guard := _ }) (v := ?vb3) rfl (by kernel_rfl) (by kernel_rfl) (by kernel_rfl) (by kernel_rfl) (fun _ _ _ h => h) (Or.inl ⟨by rfl, ?hyb3⟩) (by assumption) ?restb3
          case hyb3 => (intro w hSw; rw [HSD.out] at hSw; (try dsimp only at hSw); go_simp; (try with_reducible rfl))
          try simp only [Act.put, List.setIfInBounds_toArray, List.set_cons_zero, List.set_cons_succ]
          refine Held.take (i := 4) (oi := { dst := _, op := _, type := _, pos := _, after := _, guard := _ }) (v := ?vb4) rfl (by kernel_rfl) (by kernel_rfl) (by kernel_rfl) (by kernel_rfl) (fun _ _ _ h => h) (Or.inl ⟨by rfl, ?hyb4⟩) (by assumption) ?restb4
          case hyb4 => (intro w hSw; rw [HSD.out] at hSw; (try dsimp only at hSw); go_simp; (try with_reducible rfl))
          try simp only [Act.put, List.setIfInBounds_toArray, List.set_cons_zero, List.set_cons_succ]
          refine Held.take (i := 5) (oi := { dst := _, op := _, type := _, pos := _, after := _, guard := _ }) (v := ?vb5) rfl (by kernel_rfl) (by kernel_rfl) (by kernel_rfl) (by kernel_rfl) (fun _ _ _ h => h) (Or.inl ⟨by rfl, ?hyb5⟩) (by assumption) ?restb5
          case hyb5 => (intro w hSw; rw [HSD.out] at hSw; (try dsimp only at hSw); go_simp; (try with_reducible rfl))
          try simp only [Act.put, List.setIfInBounds_toArray, List.set_cons_zero, List.set_cons_succ]
          refine Held.take (i := 6) (oi := { dst := _, op := _, type := _, pos := _, after := _, guard := _ }) (v := ?vb6) rfl (by kernel_rfl) (by kernel_rfl) (by kernel_rfl) (by kernel_rfl) (fun _ _ _ h => h) (Or.inl ⟨by rfl, ?hyb6⟩) (by assumption) ?restb6
          case hyb6 => (intro w hSw; rw [HSD.out] at hSw; (try dsimp only at hSw); go_simp; (try with_reducible rfl))
          try simp only [Act.put, List.setIfInBounds_toArray, List.set_cons_zero, List.set_cons_succ]
          refine Held.take (i := 7) (oi := { dst := _, op := _, type := _, pos := _, after := _, guard := _ }) (v := ?vb7) rfl (by kernel_rfl) (by kernel_rfl) (by kernel_rfl) (by kernel_rfl) (fun _ _ _ h => h) (Or.inl ⟨by rfl, ?hyb7⟩) (by assumption) ?restb7
          case hyb7 => (intro w hSw; rw [HSD.out] at hSw; (try dsimp only at hSw); go_simp; (try with_reducible rfl))
          try simp only [Act.put, List.setIfInBounds_toArray, List.set_cons_zero, List.set_cons_succ]
          refine Held.one (i := 8) (o := { dst := _, op := _, type := _, pos := _, after := _, guard := _ }) (by kernel_rfl) rfl (fun K hK => ?_)
          go_simp
          refine (RP.int x H64.out HR.out).mono ?_
          rintro e w5 ⟨rfl, h5, h5c⟩
          have hb5 := h5c.blk HB.out HNE.out
          have c5 : w5.cell? ⟨jb, 8, none⟩ = some (.slice E TL.length c) := (hb5.cell 8).trans (jcells_ev _ _ _ v2)
          have ho5 := h5c.owns HO.out HNB.out
          have HR5 := Lib.hid h5
          have HB5 := Lib.hid hb5
          have HO5 := Lib.hid ho5
          clear h5 h5c hb5 ho5
          refine hK.out _ _ (fun _ => ?hSb8) (fun hHeldb1 => ?_)
          case hSb8 => (rw [HSD.out]; exact c5)
          clear hK K
          replace hHeldb1 := hHeldb1 (by decide)
          try simp only [Act.put, List.setIfInBounds_toArray, List.set_cons_zero, List.set_cons_succ]
          refine Held.one (i := 9) (o := { dst := _, op := _, type := _, pos := _, after := _, guard := _ }) (by kernel_rfl) rfl (fun K hK => ?_)
          go_simp
          refine hK.out _ _ (fun _ => hHeldb1) (fun _ => ?_)
          clear hK K
          try simp only [Act.put, List.setIfInBounds_toArray, List.set_cons_zero, List.set_cons_succ]
          refine Held.one (i := 10) (o := { dst := _, op := _, type := _, pos := _, after := _, guard := _ }) (by kernel_rfl) rfl (fun K hK => ?_)
          go_simp
          refine hK.out _ _ (fun _ => ?hSb10) (fun hHeldb2 => ?_)
          case hSb10 => (rw [HSD.out]; exact ((Blk.alloc HB5.out _).cell 8).trans (jcells_ev _ _ _ v2))
          clear hK K
          replace hHeldb2 := hHeldb2 (by decide)
          try simp only [Act.put, List.setIfInBounds_toArray, List.set_cons_zero, List.set_cons_succ]
          refine Held.one (i := 11) (o := { dst := _, op := _, type := _, pos := _, after := _, guard := _ }) (by kernel_rfl) rfl (fun K hK => ?_)
          have HNW := Lib.hid (show ∀ j u, ([.int .i64 rg, .int .i64 x] : List Value)[j]? = some u → (w5.alloc (.cells #[.int .i64 rg, .int .i64 x] 146)).cell? ((⟨w5.heap.size, 0, none⟩ : Addr).add j) = some u from World.news_of_block (Blk.new _ _ _))
          refine step_append_lies _ (by rfl) (.tmp 49) (.tmp 55) 142 (by rfl) w1.heap.size 146 i0 z0 2 16 Tryz.underlying142 hi hz0 hz1 hz2 hz3 (by decide) _ TL.length (evC TL) (by rfl) (World.ownsRow.alloc HO5.out _) ⟨w5.heap.size, 0, none⟩ 1 1 [.int .i64 rg, .int .i64 x] (by rfl) rfl HNW.out (by simp [Value.oneCell']) (by decide) (by unfold maxLen; have := HJ.out; omega) (by have := HJ.out; omega) (by have := HR5.out.chg.size; simp; omega) (w5.heap.size + 1) (by simp) ?_
          intro g cap w6 ho6 hg6 hat6 hlt6
          have hg6' : (w5.alloc (.cells #[.int .i64 rg, .int .i64 x] 146)).grownBy w6 (Value.slice E TL.length c).ownBlock := hg6
          have hb6 : Blk w6 jb (jcells jj.base (.slice E TL.length c) (.int .u64 jj.version)) 144 := (hg6'.block jb (by have := HB5.out.lt; simp; omega) (fun e => own_block_ne HO5.out HB5.out (by decide) e.symm)).trans (HB5.out.alloc _)
          have c6 : w6.cell? ⟨jb, 8, none⟩ = some (.slice E TL.length c) := (hb6.cell 8).trans (jcells_ev _ _ _ v2)
          have f6 : w6.frozen? ⟨jb, 8, none⟩ = false := hb6.free 8
          have HR6 := Lib.hid ((HR5.out.alloc (.cells #[.int .i64 rg, .int .i64 x] 146)).step ((Chg.refl (fun k => w1.heap.size ≤ k) _).grown hg6' (fun k hk => .inl (own_base HO5.out k hk))))
          have HO6 := Lib.hid ho6
          have HB6 := Lib.hid hb6
          clear ho6 hg6 hg6' hat6 hlt6 hb6
          refine hK.out _ _ (fun _ => ?hSb11) (fun hHeldb3 => ?_)
          case hSb11 => (rw [HSD.out]; exact c6)
          clear hK K
          replace hHeldb3 := hHeldb3 (by decide)
          try simp only [Act.put, List.setIfInBounds_toArray, List.set_cons_zero, List.set_cons_succ]
          refine Held.one (i := 12) (o := { dst := _, op := _, type := _, pos := _, after := _, guard := _ }) (by kernel_rfl) rfl (fun K hK => ?_)
          go_simp
          refine hK.out _ _ (fun _ => hHeldb3) (fun _ => ?_)
          clear hK K
          try simp only [Act.put, List.setIfInBounds_toArray, List.set_cons_zero, List.set_cons_succ]
          refine Held.one (i := 13) (o := { dst := _, op := _, type := _, pos := _, after := _, guard := _ }) (by kernel_rfl) rfl (fun K hK => ?_)
          go_simp
          refine hK.out _ _ (fun _ => hHeldb3) (fun _ => ?_)
          clear hK K
          try simp only [Act.put, List.setIfInBounds_toArray, List.set_cons_zero, List.set_cons_succ]
          refine Held.one (i := 14) (o := { dst := _, op := _, type := _, pos := _, after := _, guard := _ }) (by kernel_rfl) rfl (fun K hK => ?_)
          go_simp
          refine hK.out _ _ (fun h => absurd rfl h) (fun _ => ?_)
          clear hK K
          refine Held.done (by kernel_rfl) ?_ _
          refine NoPanic.normal ?_
          go_wp2_with fail
          go_roundw
          case rel =>
            refine ⟨k + 1, some ⟨g, 0, none⟩, cap, by go_num, by omega, ?_, ?_, HR6.out.step ((Chg.refl _ _).put jb 8 (.inl hjb1) _)⟩
            · have := HB6.out.set 8 (.slice (some ⟨g, 0, none⟩) (TL.length + 1) cap)
              rw [jcells_setev _ _ _ _ v2] at this
              rw [HTK.out, List.length_append]
              exact this
            · rw [HTK.out, List.length_append, evC_append]
              exact own_set HO6.out HB6.out (i := 8) (by decide) (.slice (some ⟨g, 0, none⟩) (TL.length + 1) cap)
          case measure => simp [intOf]; omega
        · obtain rfl : k = jj.events.length := by omega
          rw [List.take_of_length_le (Nat.le_refl _)] at hb ho
          rw [List.drop_of_length_le (Nat.le_refl _)] at hr
          have HRR := Lib.hid hr
          have HBB := Lib.hid hb
          have HOO := Lib.hid ho
          clear hr hb ho c9
          go_wp2_with fail
          refine (RP.end_ HRR.out).mono ?_
          rintro e w7 ⟨rfl, rfl⟩
          go_wp2_with fail
          go_ret2
          exact ⟨jb, rfl, ⟨E, c, by omega, HBB.out, own_weaken HOO.out (Nat.zero_le _), fun k hk => by have := own_base HOO.out k hk; omega⟩, HB0.out.trans (HRR.out.chg.below (fun k hk => by omega) hs1)⟩
end Go.Proofs.YtlcdjgpblpodaaaGreatDoor
namespace Go.Proofs.YtlcdjgpblpodaaaGreatDoor
open Go.RowKit Go.Proofs.YtlcdjgpblpodaaaGreatDoorW.PrintWords

def jour0 : Jour := { version := 0, base := [0, 0, 0, 0, 0, 0, 0, 0], events := [] }
theorem newjour (w : World) : Calls Tryz.prog 223 #[] w fun e w' => e = .returned (.pointer (some ⟨w.heap.size, 0, none⟩)) ∧ JourAt w' (fun k => w.heap.size ≤ k) w.heap.size jour0 ∧ Below w.heap.size w w' := by
  go_enter Tryz.func223, Tryz.ntmps223
  go_wp2
  go_ret
  exact ⟨rfl, ⟨none, 0, Nat.le_refl _, Blk.new _ _ _, own_nil _ _ _ _, fun k hk => by cases hk⟩, (Below.refl _ _).alloc (Nat.le_refl _) _⟩
theorem version_any (X : Nat → Prop) (jb : Nat) (j : Jour) (hj : j.base.length = 8) (w : World) (h : JourAt w X jb j) : Calls Tryz.prog 167 #[.pointer (some ⟨jb, 0, none⟩)] w fun e w' => e = .returned (.int .u64 j.version) ∧ w = w' := by
  obtain ⟨E, c, h1, h2, h3, h4⟩ := h
  have c9 : w.cell? ⟨jb, 9, none⟩ = some (.int .u64 j.version) := (h2.cell 9).trans (jcells_v _ _ _ hj)
  clear h1 h2 h3 h4
  go_enter Tryz.func167, Tryz.ntmps167
  go_wp2
  go_ret
  exact ⟨rfl, rfl⟩

def setTo (b : List Int) (es : List (Nat × Int)) : List Int := es.foldl (fun b e => b.set e.1 e.2) b
theorem setTo_len : ∀ (es : List (Nat × Int)) (b : List Int), (setTo b es).length = b.length
  | [], b => rfl
  | e :: r, b => by
    have := setTo_len r (b.set e.1 e.2)
    rw [List.length_set] at this
    exact this
theorem setTo_snoc (b : List Int) (es : List (Nat × Int)) (e : Nat × Int) : setTo b (es ++ [e]) = (setTo b es).set e.1 e.2 := by simp [setTo]
def stateOf (j : Jour) : List Int := setTo j.base j.events
/-- An array of eight. -/
def arrC (b : List Int) : Array Value := (b.map (Value.int .i64)).toArray
theorem arrC_get (b : List Int) (k : Nat) (hk : k < b.length) : (arrC b)[k]? = some (.int .i64 (b.getD k 0)) := by
  simp [arrC, List.getD, hk]
theorem arrC_set (b : List Int) (k : Nat) (x : Int) : (arrC b).setIfInBounds k (.int .i64 x) = arrC (b.set k x) := by simp [arrC, List.map_set]
set_option maxRecDepth 100000 in
set_option maxHeartbeats 1000000 in
theorem state_any (X : Nat → Prop) (jb : Nat) (j : Jour) (hj : j.Ok) (w : World) (h : JourAt w X jb j) :
    Calls Tryz.prog 15 #[.pointer (some ⟨jb, 0, none⟩)] w fun e w' => e = .returned (.agg (arrC (stateOf j))) ∧ Below w.heap.size w w' := by
  obtain ⟨E, c, h1, h2, h3, h4⟩ := h
  have v2 := hj.base
  have v3 := hj.few
  have HV := Lib.hid hj.event
  obtain ⟨x0, x1, x2, x3, x4, x5, x6, x7, hx⟩ := list8 v2
  have b0 : w.cell? ⟨jb, 0, none⟩ = some (.int .i64 x0) := (h2.cell 0).trans (by rw [jcells_base _ _ _ _ (by omega), hx]; rfl)
  have b1 : w.cell? ⟨jb, 1, none⟩ = some (.int .i64 x1) := (h2.cell 1).trans (by rw [jcells_base _ _ _ _ (by omega), hx]; rfl)
  have b2 : w.cell? ⟨jb, 2, none⟩ = some (.int .i64 x2) := (h2.cell 2).trans (by rw [jcells_base _ _ _ _ (by omega), hx]; rfl)
  have b3 : w.cell? ⟨jb, 3, none⟩ = some (.int .i64 x3) := (h2.cell 3).trans (by rw [jcells_base _ _ _ _ (by omega), hx]; rfl)
  have b4 : w.cell? ⟨jb, 4, none⟩ = some (.int .i64 x4) := (h2.cell 4).trans (by rw [jcells_base _ _ _ _ (by omega), hx]; rfl)
  have b5 : w.cell? ⟨jb, 5, none⟩ = some (.int .i64 x5) := (h2.cell 5).trans (by rw [jcells_base _ _ _ _ (by omega), hx]; rfl)
  have b6 : w.cell? ⟨jb, 6, none⟩ = some (.int .i64 x6) := (h2.cell 6).trans (by rw [jcells_base _ _ _ _ (by omega), hx]; rfl)
  have b7 : w.cell? ⟨jb, 7, none⟩ = some (.int .i64 x7) := (h2.cell 7).trans (by rw [jcells_base _ _ _ _ (by omega), hx]; rfl)
  have b8 : w.cell? ⟨jb, 8, none⟩ = some (.slice E j.events.length c) := (h2.cell 8).trans (jcells_ev _ _ _ v2)
  have hlt := h2.lt
  have HX := Lib.hid hx
  have HO := Lib.hid h3
  clear h1 h2 h3 h4 hx hj
  go_enter Tryz.func15, Tryz.ntmps15
  go_wp2_with fail
  obtain ⟨W0, hW0⟩ : ∃ W, W = (w.alloc (.cells #[.int .i64 0, .int .i64 0, .int .i64 0, .int .i64 0, .int .i64 0, .int .i64 0, .int .i64 0, .int .i64 0] 58)).alloc (.cells #[.int .i64 x0, .int .i64 x1, .int .i64 x2, .int .i64 x3, .int .i64 x4, .int .i64 x5, .int .i64 x6, .int .i64 x7] 58) := ⟨_, rfl⟩
  obtain ⟨sb, hsb⟩ : ∃ b, b = w.heap.size + 1 := ⟨_, rfl⟩
  obtain ⟨rb, hrb⟩ : ∃ b, b = w.heap.size := ⟨_, rfl⟩
  rw [← hW0, ← hsb, ← hrb]
  have HB0 := Lib.hid (show Below w.heap.size w W0 from hW0 ▸ ((Below.refl _ _).alloc (Nat.le_refl _) _).alloc (by simp) _)
  have HS0 := Lib.hid (show Blk W0 sb (arrC j.base) 58 from by rw [hW0, HX.out]; exact Blk.newAt (by rw [hsb]; simp))
  have HR0 := Lib.hid (show Blk W0 rb (arrC [0, 0, 0, 0, 0, 0, 0, 0]) 58 from by rw [hW0, hrb]; exact (Blk.new _ _ _).alloc _)
  have hle : w.heap.size ≤ sb := by omega
  have hle2 : w.heap.size ≤ rb := by omega
  have hne : rb ≠ sb := by omega
  clear hW0 hsb hrb b0 b1 b2 b3 b4 b5 b6 b7 b8
  go_loopw [18] (fun s wr => ∃ k : Nat, s = .int .i64 k ∧ k ≤ j.events.length ∧ Blk wr sb (arrC (setTo j.base (j.events.take k))) 58 ∧ Blk wr rb (arrC [0, 0, 0, 0, 0, 0, 0, 0]) 58 ∧ Below w.heap.size w wr) (fun s _ => j.events.length - (intOf s).toNat)
  case atStart => exact ⟨0, rfl, by omega, HS0.out, HR0.out, HB0.out⟩
  case round =>
    obtain ⟨k, rfl, hk, hs, hr, hb⟩ := hrel
    by_cases hkl : k < j.events.length
    · obtain ⟨ev, hev⟩ : ∃ ev, j.events[k]? = some ev := ⟨_, List.getElem?_eq_getElem hkl⟩
      obtain ⟨v8, v64⟩ := HV.out ev (List.mem_of_getElem? hev)
      obtain ⟨g1, g2⟩ := evC_get j.events k ev hev
      obtain ⟨gb, hgE, _, _, hcell⟩ := own_cell (own_below HO.out hb) (by omega)
      have q0 := hcell _ _ g1
      have q1 := hcell _ _ g2
      subst hgE
      have htk : setTo j.base (j.events.take (k + 1)) = (setTo j.base (j.events.take k)).set ev.1 ev.2 := by
        rw [List.take_add_one, hev]
        exact setTo_snoc _ _ _
      have hl8 : (setTo j.base (j.events.take k)).length = 8 := by rw [setTo_len, v2]
      obtain ⟨Bs, hBs⟩ : ∃ B, B = setTo j.base (j.events.take k) := ⟨_, rfl⟩
      rw [← hBs] at hs htk hl8
      obtain ⟨rg, hrg⟩ : ∃ rg, rg = ev.1 := ⟨_, rfl⟩
      obtain ⟨vl, hvl⟩ : ∃ vl, vl = ev.2 := ⟨_, rfl⟩
      rw [← hrg] at v8 q0 htk
      rw [← hvl] at q1 htk
      have c1 : wr.cell? ⟨sb, rg, none⟩ = some (.int .i64 (Bs.getD rg 0)) := (hs.cell rg).trans (arrC_get _ _ (by omega))
      have f1 := hs.free rg
      have HTK := Lib.hid htk
      have HS := Lib.hid hs
      have HR := Lib.hid hr
      have HB := Lib.hid hb
      have k0 : (0 : Int) ≤ (k : Int) := by omega
      have k1 : (k : Int) < (j.events.length : Int) := by omega
      have r0 : (0 : Int) ≤ (rg : Int) := by omega
      have r1 : (rg : Int) < 8 := by omega
      have hgl := World.block_lt_of_cell? wr _ q0
      have hsl := hs.lt
      simp only at hgl
      clear hs hr hb hcell g1 g2 hev hrg hvl v64 htk hBs HS0 HR0 HB0 hl8
      go_wp2_with fail
      go_roundw
      case rel =>
        refine ⟨k + 1, by go_num, by omega, ?_, (HR.out.other (a := ⟨sb, rg, none⟩) hne _).alloc _, (HB.out.setCell (p := ⟨sb, rg, none⟩) hle _).alloc (Nat.le_trans HB.out.size (by simp [World.setCell])) _⟩
        rw [HTK.out, ← arrC_set]
        exact (HS.out.set rg _).alloc _
      case measure => simp [intOf]; omega
    · obtain rfl : k = j.events.length := by omega
      rw [List.take_of_length_le (Nat.le_refl _), show setTo j.base j.events = stateOf j from rfl] at hs
      have hl8 : (stateOf j).length = 8 := by rw [stateOf, setTo_len, v2]
      obtain ⟨y0, y1, y2, y3, y4, y5, y6, y7, hy⟩ := list8 hl8
      rw [hy] at hs
      have a0 : wr.cell? ⟨sb, 0, none⟩ = some (.int .i64 y0) := hs.cell 0
      have a1 : wr.cell? ⟨sb, 1, none⟩ = some (.int .i64 y1) := hs.cell 1
      have a2 : wr.cell? ⟨sb, 2, none⟩ = some (.int .i64 y2) := hs.cell 2
      have a3 : wr.cell? ⟨sb, 3, none⟩ = some (.int .i64 y3) := hs.cell 3
      have a4 : wr.cell? ⟨sb, 4, none⟩ = some (.int .i64 y4) := hs.cell 4
      have a5 : wr.cell? ⟨sb, 5, none⟩ = some (.int .i64 y5) := hs.cell 5
      have a6 : wr.cell? ⟨sb, 6, none⟩ = some (.int .i64 y6) := hs.cell 6
      have a7 : wr.cell? ⟨sb, 7, none⟩ = some (.int .i64 y7) := hs.cell 7
      have d0 : wr.cell? ⟨rb, 0, none⟩ = some (.int .i64 0) := hr.cell 0
      have d1 : wr.cell? ⟨rb, 1, none⟩ = some (.int .i64 0) := hr.cell 1
      have d2 : wr.cell? ⟨rb, 2, none⟩ = some (.int .i64 0) := hr.cell 2
      have d3 : wr.cell? ⟨rb, 3, none⟩ = some (.int .i64 0) := hr.cell 3
      have d4 : wr.cell? ⟨rb, 4, none⟩ = some (.int .i64 0) := hr.cell 4
      have d5 : wr.cell? ⟨rb, 5, none⟩ = some (.int .i64 0) := hr.cell 5
      have d6 : wr.cell? ⟨rb, 6, none⟩ = some (.int .i64 0) := hr.cell 6
      have d7 : wr.cell? ⟨rb, 7, none⟩ = some (.int .i64 0) := hr.cell 7
      have f0 := hr.free 0
      have f1 := hr.free 1
      have f2 := hr.free 2
      have f3 := hr.free 3
      have f4 := hr.free 4
      have f5 := hr.free 5
      have f6 := hr.free 6
      have f7 := hr.free 7
      have HR := Lib.hid hr
      have HB := Lib.hid hb
      have HY := Lib.hid hy
      clear hs hr hb hy HS0 HR0 HB0 hl8
      go_wp2_with fail
      obtain ⟨W4, hW4⟩ : ∃ W, W = (((((((wr.setCell ⟨rb, 0, none⟩ (.int .i64 y0)).setCell ⟨rb, 1, none⟩ (.int .i64 y1)).setCell ⟨rb, 2, none⟩ (.int .i64 y2)).setCell ⟨rb, 3, none⟩ (.int .i64 y3)).setCell ⟨rb, 4, none⟩ (.int .i64 y4)).setCell ⟨rb, 5, none⟩ (.int .i64 y5)).setCell ⟨rb, 6, none⟩ (.int .i64 y6)).setCell ⟨rb, 7, none⟩ (.int .i64 y7) := ⟨_, rfl⟩
      rw [← hW4]
      have hf : Blk W4 rb (arrC (stateOf j)) 58 := by
        rw [hW4, HY.out]
        exact (((((((HR.out.set 0 (.int .i64 y0)).set 1 (.int .i64 y1)).set 2 (.int .i64 y2)).set 3 (.int .i64 y3)).set 4 (.int .i64 y4)).set 5 (.int .i64 y5)).set 6 (.int .i64 y6)).set 7 (.int .i64 y7)
      have hb4 : Below w.heap.size w W4 := hW4 ▸ (((((((HB.out.setCell (p := ⟨rb, 0, none⟩) hle2 _).setCell (p := ⟨rb, 1, none⟩) hle2 _).setCell (p := ⟨rb, 2, none⟩) hle2 _).setCell (p := ⟨rb, 3, none⟩) hle2 _).setCell (p := ⟨rb, 4, none⟩) hle2 _).setCell (p := ⟨rb, 5, none⟩) hle2 _).setCell (p := ⟨rb, 6, none⟩) hle2 _).setCell (p := ⟨rb, 7, none⟩) hle2 _
      have hsz : (Tryz.prog.info? 58).map (·.size) = some (arrC (stateOf j)).size := by
        rw [HY.out]
        kernel_rfl
      exact bodyPost_ret (results_single rfl (.cell rb 58 (arrC (stateOf j)) (0, 0) _ rfl hf Tryz.underlying58 rfl hsz .nil)) rfl ⟨rfl, hb4⟩
end Go.Proofs.YtlcdjgpblpodaaaGreatDoor

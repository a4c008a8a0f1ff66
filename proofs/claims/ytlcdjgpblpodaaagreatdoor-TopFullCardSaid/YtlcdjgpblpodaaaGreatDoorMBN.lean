/- Shell6, Full2, Full3 -/
import Derived.Test.YtlcdjgpblpodaaaGreatDoorMBM
namespace Go.Proofs.YtlcdjgpblpodaaaGreatDoor
open Go.RowKit Go.Proofs.YtlcdjgpblpodaaaGreatDoorW.PrintWords

/-- Under way: the words, the two commands. -/
structure PMid (w0 w : World) (rb sb cb : Nat) (C : Array Value) : Prop where
  below : Below w0.heap.size w0 w
  words : Blk w sb wordsC 9
  res : Blk w rb #[.string ⟨#[]⟩, .slice none 0 0, .int .u64 0, .int .u64 0, .slice none 0 0] 261
  cmd : Blk w cb C 261
  lo : w0.heap.size ≤ rb ∧ w0.heap.size ≤ sb ∧ w0.heap.size ≤ cb
  ne : sb ≠ cb ∧ rb ≠ cb
theorem PMid.on {w0 w w' : World} {rb sb cb : Nat} {C : Array Value} (h : PMid w0 w rb sb cb C) (hb : Below w.heap.size w w') : PMid w0 w' rb sb cb C :=
  ⟨h.below.trans (hb.mono h.below.size), h.words.below hb, h.res.below hb, h.cmd.below hb, h.lo, h.ne⟩
theorem PMid.chg {w0 w w' : World} {rb sb cb : Nat} {C : Array Value} {S : Nat → Prop} (h : PMid w0 w rb sb cb C) (hc : Chg S w w') (hS : ∀ k, S k → w0.heap.size ≤ k ∧ k ≠ sb ∧ k ≠ rb ∧ k ≠ cb) : PMid w0 w' rb sb cb C :=
  ⟨h.below.trans (hc.below (fun k hk => (hS k hk).1) h.below.size), hc.blk h.words (fun e => (hS _ e).2.1 rfl), hc.blk h.res (fun e => (hS _ e).2.2.1 rfl), hc.blk h.cmd (fun e => (hS _ e).2.2.2 rfl), h.lo, h.ne⟩
theorem PMid.put {w0 w : World} {rb sb cb : Nat} {C : Array Value} (h : PMid w0 w rb sb cb C) (i : Nat) (v : Value) : PMid w0 (w.setCell ⟨cb, i, none⟩ v) rb sb cb (C.setIfInBounds i v) :=
  ⟨h.below.setCell (p := ⟨cb, i, none⟩) h.lo.2.2 v, h.words.other h.ne.1 v, h.res.other h.ne.2 v, h.cmd.set i v, h.lo, h.ne⟩
set_option maxRecDepth 100000 in
set_option maxHeartbeats 4000000 in
theorem parse_line (w : World) (h : MaxLenAt w) : Calls Tryz.prog 125 #[.string lineB] w fun e w' => ∃ g1 c1 g2 c2, e = .returned (.tuple #[.agg #[.string offerB, .slice (some ⟨g1, 0, none⟩) 1 c1, .int .u64 1, .int .u64 1, .slice (some ⟨g2, 0, none⟩) 2 c2], .int .i64 0]) ∧
    w'.cell? ⟨g1, 0, none⟩ = some (.string kA) ∧ w'.cell? ⟨g2, 0, none⟩ = some (.int .i64 0) ∧ w'.cell? ⟨g2, 1, none⟩ = some (.int .i64 5) ∧ 2 ≤ c2 ∧ w.heap.size ≤ g1 ∧ w.heap.size ≤ g2 ∧ Below w.heap.size w w' := by
  obtain ⟨i9, hi9, hz9, hs9, hb9⟩ := info_parts info9
  obtain ⟨i2, hi2, hz2, hs2, hb2⟩ := info_parts info2
  obtain ⟨rb, hrb⟩ : ∃ b, b = w.heap.size := ⟨_, rfl⟩
  obtain ⟨W1, hW1⟩ : ∃ W, W = w.alloc (.cells #[.string ⟨#[]⟩, .slice none 0 0, .int .u64 0, .int .u64 0, .slice none 0 0] 261) := ⟨_, rfl⟩
  have hb1 : Below w.heap.size w W1 := hW1 ▸ (Below.refl _ _).alloc (Nat.le_refl _) _
  obtain ⟨sb, hsb⟩ : ∃ b, b = W1.heap.size := ⟨_, rfl⟩
  obtain ⟨W2, hW2⟩ : ∃ W, W = W1.alloc (.cells wordsC 9) := ⟨_, rfl⟩
  obtain ⟨cb, hcb⟩ : ∃ b, b = W2.heap.size := ⟨_, rfl⟩
  obtain ⟨W3, hW3⟩ : ∃ W, W = W2.alloc (.cells #[.string offerB, .slice none 0 0, .int .u64 0, .int .u64 0, .slice none 0 0] 261) := ⟨_, rfl⟩
  have s1 : W1.heap.size = w.heap.size + 1 := by rw [hW1]; simp
  have s2 : W2.heap.size = W1.heap.size + 1 := by rw [hW2]; simp
  have b12 : Below W1.heap.size W1 W2 := hW2 ▸ (Below.refl _ _).alloc (Nat.le_refl _) _
  have b23 : Below W2.heap.size W2 W3 := hW3 ▸ (Below.refl _ _).alloc (Nat.le_refl _) _
  have hwd : Blk W2 sb wordsC 9 := hW2 ▸ Blk.newAt hsb
  have hrs : Blk W1 rb #[.string ⟨#[]⟩, .slice none 0 0, .int .u64 0, .int .u64 0, .slice none 0 0] 261 := hW1 ▸ Blk.newAt hrb
  have HM := Lib.hid (show PMid w W3 rb sb cb #[.string offerB, .slice none 0 0, .int .u64 0, .int .u64 0, .slice none 0 0] from
    ⟨(hb1.trans (b12.mono (by omega))).trans (b23.mono (by omega)), hwd.below b23, (hrs.below b12).below b23, hW3 ▸ Blk.newAt hcb, by omega, by omega⟩)
  have d0 : W2.cell? ⟨sb, 0, none⟩ = some (.string offerB) := hwd.cell 0
  have HSP := Lib.hid (split_line W1 (h.below hb1))
  have HW1 := Lib.hid hW1
  have HW2 := Lib.hid hW2
  have HW3 := Lib.hid hW3
  have HRB := Lib.hid hrb
  have HSB := Lib.hid hsb
  have HCB := Lib.hid hcb
  have hsl : sb < W2.heap.size := hwd.lt
  unfold lineB at *
  have e0 : W3.cell? ⟨cb, 0, none⟩ = some (.string offerB) := HM.out.cmd.cell 0
  have q1 : (({ data := #[99, 115, 107, 105, 105] } : ByteArray)[0]).toNat = 99 := by rfl
  clear h hrb hb1 hsb hcb hW1 hW2 hW3 s1 s2 b12 b23 hwd hrs
  go_enter Tryz.func125, Tryz.ntmps125
  go_upto_region 1 with fail
  rw [← HW1.out, ← HRB.out]
  go_wp2_with fail
  refine HSP.out.mono ?_
  rintro e w2 ⟨rfl, hw2⟩
  rw [← HW2.out] at hw2
  subst hw2
  rw [← HSB.out]
  go_upto_region 5 with fail
  rw [← HW3.out, ← HCB.out]
  go_wp2_with fail
  refine (shape_offer W3).mono ?_
  rintro e w3 ⟨rfl, rfl⟩
  go_wp2_with fail
  refine wp_loop_rounds 6 ?_
  rw [rounds_succ]
  have x0 : W3.cell? ⟨sb, 1, none⟩ = some (.string ⟨#[49]⟩) := HM.out.words.cell 1
  have y0 := HM.out.words.lt
  go_wp2_with fail
  refine (number_one W3).mono ?_
  rintro e v0 ⟨rfl, hv0⟩
  have hm0 := HM.out.on hv0
  obtain ⟨V0, hV0⟩ : ∃ V, V = v0.setCell ⟨cb, 2, none⟩ (.int .u64 1) := ⟨_, rfl⟩
  have HM0 := Lib.hid (hV0 ▸ hm0.put 2 (.int .u64 1))
  have HV0 := Lib.hid hV0
  have p0 : v0.cell? ⟨cb, 2, none⟩ = some (.int .u64 0) := hm0.cmd.cell 2
  have f0 := hm0.cmd.free 2
  have l0 := hm0.cmd.lt
  clear hv0 hm0 hV0 x0 y0
  go_wp2_with fail
  rw [← HV0.out]
  rw [rounds_succ]
  clear p0 f0 l0
  have x1 : V0.cell? ⟨sb, 2, none⟩ = some (.string ⟨#[49]⟩) := HM0.out.words.cell 2
  have y1 := HM0.out.words.lt
  go_wp2_with fail
  refine (number_one V0).mono ?_
  rintro e v1 ⟨rfl, hv1⟩
  have hm1 := HM0.out.on hv1
  obtain ⟨V1, hV1⟩ : ∃ V, V = v1.setCell ⟨cb, 3, none⟩ (.int .u64 1) := ⟨_, rfl⟩
  have HM1 := Lib.hid (hV1 ▸ hm1.put 3 (.int .u64 1))
  have HV1 := Lib.hid hV1
  have p1 : v1.cell? ⟨cb, 3, none⟩ = some (.int .u64 0) := hm1.cmd.cell 3
  have f1 := hm1.cmd.free 3
  have l1 := hm1.cmd.lt
  clear hv1 hm1 hV1 x1 y1
  go_wp2_with fail
  rw [← HV1.out]
  rw [rounds_succ]
  clear p1 f1 l1
  have x2 : V1.cell? ⟨sb, 3, none⟩ = some (.string ⟨#[54, 49]⟩) := HM1.out.words.cell 3
  have y2 := HM1.out.words.lt
  go_wp2_with fail
  refine (unhex_a V1).mono ?_
  rintro e v2 ⟨rfl, hv2⟩
  have HMa := Lib.hid (HM1.out.on hv2)
  have p2 : v2.cell? ⟨cb, 1, none⟩ = some (.slice none 0 0) := HMa.out.cmd.cell 1
  have f2 := HMa.out.cmd.free 1
  have l2 := HMa.out.cmd.lt
  have HNW2 := Lib.hid (show ∀ j u, ([.string kA] : List Value)[j]? = some u → (v2.alloc (.cells #[.string kA] 9)).cell? ((⟨v2.heap.size, 0, none⟩ : Addr).add j) = some u from World.news_of_block (Blk.new _ _ _))
  have hbs2 := HMa.out.below.size
  clear hv2 x2 y2
  go_wp2_with (at_builtin
               refine wpList_append_lies _ rfl (.tmp 68) (.tmp 70) 49 rfl w.heap.size 9 i9 (.string ⟨#[]⟩) 1 16 Tryz.underlying49 hi9 hz9 hs9 hb9 rfl (by decide) _ 0 [] rfl (own_nil _ _ _ _) ⟨v2.heap.size, 0, none⟩ 1 1 [.string kA] rfl rfl HNW2.out (by simp [Value.oneCell']) (by decide) (by unfold maxLen; omega) (by omega) (by simp; omega) (v2.heap.size + 1) (by simp) ?_
               intro g1 k1 u2 ho2 hg2 hat2 hlt2
               have HMb := Lib.hid (HMa.out.on (((Below.refl v2.heap.size v2).alloc (Nat.le_refl _) (.cells #[.string kA] 9)).grown hg2 (by simp) (fun k e => by cases e)))
               have c2' : u2.cell? ⟨cb, 1, none⟩ = some (.slice none 0 0) := HMb.out.cmd.cell 1
               have f2' : u2.frozen? ⟨cb, 1, none⟩ = false := HMb.out.cmd.free 1
               have l2' := HMb.out.cmd.lt
               have HG1 := Lib.hid (show g1 ≠ cb from by
                 rcases hat2 with e | e
                 · cases e
                 · omega)
               have HLO1 := Lib.hid (own_base ho2 g1 rfl)
               have HK1 := Lib.hid (show u2.cell? ⟨g1, 0, none⟩ = some (.string kA) from by
                 have := ho2.cells (g := g1) rfl 0 (.string kA) rfl
                 rwa [show (⟨g1, 0, none⟩ : Addr).add 0 = ⟨g1, 0, none⟩ by rw [Go.WideShapes.add_plain, Nat.zero_add]] at this)
               clear ho2 hg2 hat2 hlt2)
  obtain ⟨V2, hV2⟩ : ∃ V, V = u2.setCell ⟨cb, 1, none⟩ (.slice (some ⟨g1, 0, none⟩) 1 k1) := ⟨_, rfl⟩
  have HM2 := Lib.hid (hV2 ▸ HMb.out.put 1 (.slice (some ⟨g1, 0, none⟩) 1 k1))
  have HK2 := Lib.hid (show V2.cell? ⟨g1, 0, none⟩ = some (.string kA) from hV2 ▸ ((Chg.refl (fun k => k = cb) u2).put cb 1 (.inl rfl) _).cell (a := ⟨g1, 0, none⟩) HG1.out HK1.out)
  have HV2 := Lib.hid hV2
  clear hV2
  rw [← HV2.out]
  rw [rounds_succ]
  clear p2 f2 l2 c2' f2' l2'
  have x3 : V2.cell? ⟨sb, 4, none⟩ = some (.string ⟨#[48]⟩) := HM2.out.words.cell 4
  have y3 := HM2.out.words.lt
  go_wp2_with fail
  refine (int_word ⟨#[48]⟩ 0 (by omega) (by show 1 ≤ 100; omega) (by kernel_rfl) (by kernel_rfl) V2).mono ?_
  rintro e v3 ⟨rfl, hv3⟩
  have HMc := Lib.hid (HM2.out.on hv3)
  have HKc := Lib.hid (pw_cell_below hv3 HK2.out)
  have p3 : v3.cell? ⟨cb, 4, none⟩ = some (.slice none 0 0) := HMc.out.cmd.cell 4
  have f3 := HMc.out.cmd.free 4
  have l3 := HMc.out.cmd.lt
  have HNW3 := Lib.hid (show ∀ j u, ([.int .i64 0] : List Value)[j]? = some u → (v3.alloc (.cells #[.int .i64 0] 2)).cell? ((⟨v3.heap.size, 0, none⟩ : Addr).add j) = some u from World.news_of_block (Blk.new _ _ _))
  have hbs3 := HMc.out.below.size
  clear hv3 x3 y3
  go_wp2_with (at_builtin
               refine wpList_append_lies _ rfl (.tmp 97) (.tmp 99) 22 rfl w.heap.size 2 i2 (.int .i64 0) 1 8 Tryz.underlying22 hi2 hz2 hs2 hb2 rfl (by decide) _ 0 [] rfl (own_nil _ _ _ _) ⟨v3.heap.size, 0, none⟩ 1 1 [.int .i64 0] rfl rfl HNW3.out (by simp [Value.oneCell']) (by decide) (by unfold maxLen; omega) (by omega) (by simp; omega) (v3.heap.size + 1) (by simp) ?_
               intro g2 k2 u3 ho3 hg3 hat3 hlt3
               have hbu3 := ((Below.refl v3.heap.size v3).alloc (Nat.le_refl _) (.cells #[.int .i64 0] 2)).grown hg3 (by simp) (fun k e => by cases e)
               have HMd := Lib.hid (HMc.out.on hbu3)
               have HKd := Lib.hid (pw_cell_below hbu3 HKc.out)
               have c3' : u3.cell? ⟨cb, 4, none⟩ = some (.slice none 0 0) := HMd.out.cmd.cell 4
               have f3' : u3.frozen? ⟨cb, 4, none⟩ = false := HMd.out.cmd.free 4
               have l3' := HMd.out.cmd.lt
               have HG2 := Lib.hid (show g2 = v3.heap.size + 1 from by
                 rcases hat3 with e | e
                 · cases e
                 · exact e)
               have HO3 := Lib.hid (show u3.ownsRow w.heap.size 2 1 (.slice (some ⟨g2, 0, none⟩) 1 k2) 1 [.int .i64 0] from ho3)
               clear ho3 hg3 hat3 hlt3 hbu3)
  obtain ⟨V3, hV3⟩ : ∃ V, V = u3.setCell ⟨cb, 4, none⟩ (.slice (some ⟨g2, 0, none⟩) 1 k2) := ⟨_, rfl⟩
  have HM3 := Lib.hid (hV3 ▸ HMd.out.put 4 (.slice (some ⟨g2, 0, none⟩) 1 k2))
  have HK3 := Lib.hid (show V3.cell? ⟨g1, 0, none⟩ = some (.string kA) from hV3 ▸ ((Chg.refl (fun k => k = cb) u3).put cb 4 (.inl rfl) _).cell (a := ⟨g1, 0, none⟩) HG1.out HKd.out)
  have HO3' := Lib.hid (show V3.ownsRow w.heap.size 2 1 (.slice (some ⟨g2, 0, none⟩) 1 k2) 1 [.int .i64 0] from hV3 ▸ own_setCell HO3.out (by simp [Value.ownBlock]; have := HG2.out; omega) _)
  have HV3 := Lib.hid hV3
  clear hV3
  rw [← HV3.out]
  rw [rounds_succ]
  clear p3 f3 l3 c3' f3' l3'
  have x4 : V3.cell? ⟨sb, 5, none⟩ = some (.string ⟨#[53]⟩) := HM3.out.words.cell 5
  have y4 := HM3.out.words.lt
  go_wp2_with fail
  refine (int_word ⟨#[53]⟩ 5 (by omega) (by show 1 ≤ 100; omega) (by kernel_rfl) (by kernel_rfl) V3).mono ?_
  rintro e v4 ⟨rfl, hv4⟩
  have HMe := Lib.hid (HM3.out.on hv4)
  have HKe := Lib.hid (pw_cell_below hv4 HK3.out)
  have HOe := Lib.hid (own_below HO3'.out hv4)
  have p4 : v4.cell? ⟨cb, 4, none⟩ = some (.slice (some ⟨g2, 0, none⟩) 1 k2) := HMe.out.cmd.cell 4
  have f4 := HMe.out.cmd.free 4
  have l4 := HMe.out.cmd.lt
  have HNW4 := Lib.hid (show ∀ j u, ([.int .i64 5] : List Value)[j]? = some u → (v4.alloc (.cells #[.int .i64 5] 2)).cell? ((⟨v4.heap.size, 0, none⟩ : Addr).add j) = some u from World.news_of_block (Blk.new _ _ _))
  have hbs4 := HMe.out.below.size
  have hgc := HMc.out.cmd.lt
  have hgs := HMc.out.words.lt
  have hgr := HMc.out.res.lt
  have hgk := World.block_lt_of_cell? _ _ HKc.out
  simp only at hgk
  clear hv4 x4 y4
  go_wp2_with (at_builtin
               refine wpList_append_lies _ rfl (.tmp 97) (.tmp 99) 22 rfl w.heap.size 2 i2 (.int .i64 0) 1 8 Tryz.underlying22 hi2 hz2 hs2 hb2 rfl (by decide) _ 1 [.int .i64 0] rfl (World.ownsRow.alloc HOe.out _) ⟨v4.heap.size, 0, none⟩ 1 1 [.int .i64 5] rfl rfl HNW4.out (by simp [Value.oneCell']) (by decide) (by unfold maxLen; omega) (by omega) (by simp; omega) (v4.heap.size + 1) (by simp) ?_
               intro g3 k3 u4 ho4 hg4 hat4 hlt4
               have hcu4 : Chg (fun k => k = g2) v4 u4 := (((Chg.refl (fun k => k = g2) v4).alloc (.cells #[.int .i64 5] 2)).grown hg4 (fun k e => .inl (by injection e with e; exact e.symm)))
               have HMf := Lib.hid (HMe.out.chg hcu4 (fun k e => by have := HG2.out; subst e; exact ⟨by omega, by omega, by omega, by omega⟩))
               have HKf := Lib.hid (hcu4.cell (a := ⟨g1, 0, none⟩) (show ¬ g1 = g2 from fun e => by have := HG2.out; omega) HKe.out)
               have c4' : u4.cell? ⟨cb, 4, none⟩ = some (.slice (some ⟨g2, 0, none⟩) 1 k2) := HMf.out.cmd.cell 4
               have f4' : u4.frozen? ⟨cb, 4, none⟩ = false := HMf.out.cmd.free 4
               have l4' := HMf.out.cmd.lt
               have HG3 := Lib.hid (show g3 ≠ cb from by
                 have := HG2.out
                 rcases hat4 with e | e
                 · injection e with e
                   have e' : g2 = g3 := e
                   omega
                 · omega)
               have HO4 := Lib.hid (show u4.ownsRow w.heap.size 2 1 (.slice (some ⟨g3, 0, none⟩) 2 k3) 2 [.int .i64 0, .int .i64 5] from ho4)
               clear ho4 hg4 hat4 hlt4 hcu4)
  obtain ⟨V4, hV4⟩ : ∃ V, V = u4.setCell ⟨cb, 4, none⟩ (.slice (some ⟨g3, 0, none⟩) 2 k3) := ⟨_, rfl⟩
  have HM4 := Lib.hid (hV4 ▸ HMf.out.put 4 (.slice (some ⟨g3, 0, none⟩) 2 k3))
  have HK4 := Lib.hid (show V4.cell? ⟨g1, 0, none⟩ = some (.string kA) from hV4 ▸ ((Chg.refl (fun k => k = cb) u4).put cb 4 (.inl rfl) _).cell (a := ⟨g1, 0, none⟩) HG1.out HKf.out)
  have HO4' := Lib.hid (show V4.ownsRow w.heap.size 2 1 (.slice (some ⟨g3, 0, none⟩) 2 k3) 2 [.int .i64 0, .int .i64 5] from hV4 ▸ own_setCell HO4.out (by simp [Value.ownBlock]; exact fun e => HG3.out e.symm) _)
  have HV4 := Lib.hid hV4
  clear hV4
  rw [← HV4.out]
  rw [rounds_succ]
  clear p4 f4 l4 c4' f4' l4'
  have uc : ∀ i, V4.cell? ⟨cb, i, none⟩ = _ := fun i => HM4.out.cmd.cell i
  have uo : ∀ i, V4.cell? ⟨rb, i, none⟩ = _ := fun i => HM4.out.res.cell i
  have fo : ∀ i, V4.frozen? ⟨rb, i, none⟩ = false := fun i => HM4.out.res.free i
  have lo := HM4.out.res.lt
  go_wp2_with fail
  refine bodyPost_ret (results_ct rfl _ _ rb 261 _ (0, 0) _ rfl (HM4.out.res.five rfl _ _ _ _ _) Tryz.underlying261 rfl (by kernel_rfl)) rfl ?_
  have hc5 : ∀ v0 v1 v2 v3 v4' : Value, Chg (fun j => j = rb) V4 (((((V4.setCell ⟨rb, 0, none⟩ v0).setCell ⟨rb, 1, none⟩ v1).setCell ⟨rb, 2, none⟩ v2).setCell ⟨rb, 3, none⟩ v3).setCell ⟨rb, 4, none⟩ v4') := fun _ _ _ _ _ => (((((Chg.refl (fun j => j = rb) V4).put rb 0 (.inl rfl) _).put rb 1 (.inl rfl) _).put rb 2 (.inl rfl) _).put rb 3 (.inl rfl) _).put rb 4 (.inl rfl) _
  have r0 := HO4'.out.cells (g := g3) rfl 0 (.int .i64 0) rfl
  have r1 := HO4'.out.cells (g := g3) rfl 1 (.int .i64 5) rfl
  rw [show (⟨g3, 0, none⟩ : Addr).add 0 = ⟨g3, 0, none⟩ by rw [Go.WideShapes.add_plain, Nat.zero_add]] at r0
  rw [show (⟨g3, 0, none⟩ : Addr).add 1 = ⟨g3, 1, none⟩ by rw [Go.WideShapes.add_plain, Nat.zero_add]] at r1
  have n1 : g1 ≠ rb := fun e => by
    have h1 := HK4.out
    rw [e] at h1
    rw [HM4.out.res.cell 0] at h1
    simp [kA] at h1
  have n3 : g3 ≠ rb := fun e => by
    have h1 := r0
    rw [e] at h1
    rw [HM4.out.res.cell 0] at h1
    simp at h1
  refine ⟨g1, k1, g3, k3, rfl, (hc5 _ _ _ _ _).cell (a := ⟨g1, 0, none⟩) n1 HK4.out, (hc5 _ _ _ _ _).cell (a := ⟨g3, 0, none⟩) n3 r0, (hc5 _ _ _ _ _).cell (a := ⟨g3, 1, none⟩) n3 r1, own_le HO4'.out, HLO1.out, own_base HO4'.out g3 rfl, ?_⟩
  have hlo := HM4.out.lo.1
  exact HM4.out.below.trans ((hc5 _ _ _ _ _).below (fun j e => by omega) HM4.out.below.size)
end Go.Proofs.YtlcdjgpblpodaaaGreatDoor
namespace Go.Proofs.YtlcdjgpblpodaaaGreatDoor
open Go.RowKit Go.Maps Go.Proofs.YtlcdjgpblpodaaaGreatDoorW.PrintWords

theorem full_pick (reg : Nat → Nat) (eb : Nat) (E : Engn) (i q z : Nat) (l : Let) (r : List Let) (w : World) (h : EngAt w reg eb E) (hF : FullE E i q z (l :: r)) (h8 : (l :: r).length ≤ 8) (hq : q ≤ 215) (hz : z ≤ 700000) :
    Calls Tryz.prog 10 #[.pointer (some ⟨eb, 0, none⟩), .string kA] w fun e w' => e = .returned (.tuple #[.agg #[.bool true, .bool false, .int .i64 0, .int .i64 0, .slice none 0 0], .int .i64 0]) ∧ ∃ E', EngTo w reg eb E' w' ∧ FullE E' i (q + 1) (z + 3) r := by
  have hoks : ∀ x ∈ r, x.Ok := fun x hx => hF.oks x (List.mem_cons_of_mem _ hx)
  have hr8 : r.length ≤ 8 := by simp at h8; omega
  have hq' := hF.q
  have hz' := hF.z
  have hcn := hF.cnt
  have hlo := hF.oks l (by simp)
  have hst : stateOf (E.act kA).jour = [0, 0, 0, 0, 0, 0, 0, 0] := by rw [hF.act]; rfl
  refine (pick_ok reg eb E kA true false 0 0 (inA r) w h kA_ok hF.hls (fun W X p NA KA nC kC hact hN hC => ?_) (inA_ok r hoks hr8) (by omega) (by omega) (by rw [encChs_one]; have := inA_len r hoks hr8; omega)).mono ?_
  · have ht := take_none NA KA nC kC E.NL E.CL X p (E.act kA) kA l r 0 W hact (h.1.act kA kA_ok) (by rw [hF.act]; rfl) hN hC (by rw [hF.CL]; simp) (by rw [hF.NL, hF.CL]; rfl) (fun W' A c hb hr => ?_)
    · refine ht.mono ?_
      rintro e w' ⟨rfl, h1, h2⟩
      refine ⟨rfl, ?_, h2⟩
      rw [hF.act] at h1
      exact h1
    · have hrn := Ip.run_none { nA := NA, nC := nC, NL := E.NL, kA := KA, kC := kC, CL := E.CL, frm := l.frm, serial := l.serial, kind := l.kind, aA := A, aC := c, AL := l.args, now := 0 } (fun _ => 0) W' ⟨hN.below hb, hr⟩ (hC.below hb) (by rw [hF.CL]; rfl) (by rw [hF.NL, hF.CL]; rfl)
        (by have h1 := hlo.frm; have h2 := hlo.args; simp [Ip.letterB, h1, h2]) (Int.le_refl 0)
      rw [hst]
      exact hrn.mono (fun e w' h => ⟨⟨0, 0, 0, 0, 0, 0, 0, 0, h.1⟩, h.2⟩)
  · rintro e w' ⟨rfl, h2⟩
    refine ⟨rfl, _, h2, ⟨hF.room, hF.cnt, hF.NL, hF.CL, .inr rfl, ?_, hoks, hF.win, by show E.q + 1 ≤ q + 1; omega, by show E.z + 3 ≤ z + 3; omega⟩⟩
    exact upd_same E.act (inA r)
end Go.Proofs.YtlcdjgpblpodaaaGreatDoor
namespace Go.Proofs.YtlcdjgpblpodaaaGreatDoor
open Go.RowKit Go.Maps Go.Proofs.YtlcdjgpblpodaaaGreatDoorW.PrintWords

/-- What awake is. -/
def Awake (G : World → Prop) : Prop := (∀ W W' : World, G W → Below W.heap.size W W' → G W') ∧ ∀ W, G W → Calls Tryz.prog 6 #[] W fun e w' => e = .returned (.bool true) ∧ Below W.heap.size W w'
theorem FullE.mono {E : Engn} {i q z q' z' : Nat} {ls : List Let} (h : FullE E i q z ls) (hq : q ≤ q') (hz : z ≤ z') : FullE E i q' z' ls :=
  ⟨h.room, h.cnt, h.NL, h.CL, h.res, h.act, h.oks, h.win, Nat.le_trans h.q hq, Nat.le_trans h.z hz⟩
theorem EngTo.more {w w1 w2 : World} {reg : Nat → Nat} {eb : Nat} {E1 : Engn} {reg1 : Nat → Nat} (hx : ∀ k, k < w.heap.size → reg1 k = reg k) (hc : Chg (fun k => 2 ≤ reg k) w w1) (h : EngTo w1 reg1 eb E1 w2) : EngTo w reg eb E1 w2 := by
  obtain ⟨⟨r2, k1, k2⟩, kc⟩ := h
  exact ⟨⟨r2, k1, fun j hj => (k2 j (Nat.lt_of_lt_of_le hj hc.size)).trans (hx j hj)⟩, hc.trans kc (fun j hj hr => by rw [hx j hj] at hr; exact hr)⟩
set_option maxRecDepth 100000 in
set_option maxHeartbeats 4000000 in
theorem full_walk (G : World → Prop) (hG : Awake G) (A : Option Addr) (c : Nat) (ks : List Int) (t : Nat) (w : World) (hw : G w) (hk : ReadsOf (Value.int .i64) (0 : Int) w A ks.length ks) (h64 : ∀ x ∈ ks, In64 x) (ht : t ≤ 255) :
    Calls Tryz.prog 3 #[.slice A ks.length c, .int .u8 t] w fun e w' => e = .returned (.bool true) ∧ Below w.heap.size w w' := by
  have HG := Lib.hid hG
  have HWG := Lib.hid hw
  have HK := Lib.hid hk
  have H64 := Lib.hid h64
  clear hG hw hk h64
  go_enter Tryz.func3, Tryz.ntmps3
  go_wp2_with fail
  refine (HG.out.2 w HWG.out).mono ?_
  rintro e w1 ⟨rfl, hb1⟩
  have HB1 := Lib.hid hb1
  clear hb1
  by_cases hlen : ks.length ≤ 40
  · have t0 : decide ((40 : Int) < (ks.length : Int)) = false := decide_eq_false (by omega)
    have t0' : decide (40 < ks.length) = false := decide_eq_false (by omega)
    go_wp2_with fail
    refine (newdisk 8000 (by omega) w1).mono ?_
    rintro e w2 ⟨db, rfl, hd, hb2⟩
    have HD := Lib.hid hd.lt
    have HB2 := Lib.hid hb2
    clear hd hb2
    go_wp2_with fail
    refine (engopen (fun k => w1.heap.size ≤ k ∧ k < w2.heap.size) db 8000 1 (by omega) (by omega) (by omega) w2 HD.out (fun k hk => hk.2)).mono ?_
    rintro e w3 ⟨eb, reg, rfl, hE, hr, hb3⟩
    have hs1 := HB1.out.size
    have hs2 := HB2.out.size
    have hr0 : ∀ k, k < w.heap.size → reg k = 0 := fun k hk => by
      by_cases h : reg k = 0
      · exact h
      · have := (hr k (by omega) h).1; omega
    have HE := Lib.hid (show EngAt w3 reg eb (engn0 1 2000 db) from hE)
    have HR0 := Lib.hid hr0
    have HB3 := Lib.hid ((HB1.out.trans (HB2.out.mono hs1)).trans (hb3.mono (by omega)))
    clear hE hr hb3 hr0
    go_wp2_with fail
    go_loopw [28, 7] (fun s wt wr => ∃ (k : Nat) (ls : List Let) (E : Engn), s = .int .i64 k ∧ wt = .int .i64 ls.length ∧ k ≤ ks.length ∧ ls.length ≤ 8 ∧ FullE E k (5 * k) (30 * k) ls ∧ EngTo w3 reg eb E wr) (fun s _ _ => ks.length - (intOf s).toNat)
    case atStart => exact ⟨0, [], engn0 1 2000 db, rfl, rfl, Nat.zero_le _, Nat.zero_le _, full0 db, EngTo.refl HE.out⟩
    case round =>
      obtain ⟨k, ls, E, rfl, rfl, hk, h8, hF, hTo⟩ := hrel
      obtain ⟨⟨reg1, hE1, hx1⟩, hc1⟩ := hTo
      obtain ⟨n, hn⟩ : ∃ n, n = ls.length := ⟨_, rfl⟩
      have k0 : (0 : Int) ≤ (k : Int) := by omega
      have HE1 := Lib.hid hE1
      have HX1 := Lib.hid hx1
      have HC1 := Lib.hid hc1
      have HF := Lib.hid hF
      have HN := Lib.hid hn
      rw [← hn] at h8 ⊢
      clear hE1 hx1 hc1 hF hn
      by_cases hkl : k < ks.length
      · have hkb := HK.out.2.2 (by omega)
        obtain ⟨ad, had, hcell⟩ := hkb
        obtain ⟨b, off, sp⟩ := ad
        obtain rfl : sp = none := by simpa [Addr.add] using World.cell?_spot (hcell 0 (by omega))
        have hcw := hcell k hkl
        rw [show (⟨b, off, none⟩ : Addr).add k = ⟨b, off + k, none⟩ from Go.WideShapes.add_plain _ _ _] at hcw
        have hbl := World.block_lt_of_cell? w _ hcw
        simp only at hbl
        have hcr := HC1.out.cell (a := ⟨b, off + k, none⟩) (by simp only; rw [HR0.out b hbl]; decide) (((Chg.of_below HB3.out (fun _ => False))).cell (a := ⟨b, off + k, none⟩) (fun h => h) hcw)
        have hblr := World.block_lt_of_cell? wr _ hcr
        simp only at hblr
        obtain ⟨x, hx⟩ : ∃ x, x = ks.getD k 0 := ⟨_, rfl⟩
        rw [← hx] at hcr
        have hx64 : In64 x := H64.out x (by rw [hx]; simp [List.getD, hkl])
        have k1 : (k : Int) < (ks.length : Int) := by omega
        have u0 : IntKind.u64.wrap (k : Int) = (k : Int) := by simp [IntKind.wrap, IntKind.bits, IntKind.signed]; omega
        have HOF := Lib.hid (full_offer reg1 eb E k (5 * k) (30 * k) ls x wr HE1.out HF.out (by rw [← HN.out]; exact h8) (by omega) (by omega) (by unfold U64; omega) hx64)
        have HX64 := Lib.hid hx64
        have HCW := Lib.hid (show w.cell? ⟨b, off + k, none⟩ = some (.int .i64 x) by rw [hx]; exact hcw)
        subst had
        clear hcell hcw hx hx64
        go_wp2_with fail
        refine HOF.out.mono ?_
        rintro e w4 ⟨hyes, hno⟩
        rw [← HN.out] at hyes hno
        by_cases hn8 : n < 8
        · obtain ⟨rfl, E2, hto, hF2⟩ := hyes hn8
          have t1 : decide ((n : Int) < 8) = true := decide_eq_true (by omega)
          have t1' : decide (n < 8) = true := decide_eq_true hn8
          have t2 : IntKind.i64.wrap ((n : Int) + 1) = ((n + 1 : Nat) : Int) := by rw [IntKind.wrap_i64]; omega
          have HTO := Lib.hid (EngTo.more HX1.out HC1.out hto)
          have HF2 := Lib.hid hF2
          clear hyes hno hto hF2
          go_wp2_with fail
          go_roundw
          case rel => exact ⟨k + 1, ls ++ [offL k x []], E2, by go_num, by rw [List.length_append, ← HN.out]; go_num, by omega, by rw [List.length_append, ← HN.out]; simp; omega, HF2.out.mono (by omega) (by omega), HTO.out⟩
          case measure => simp [intOf]; omega
        · obtain ⟨rfl, E2, hto, hF2⟩ := hno hn8
          obtain rfl : n = 8 := by omega
          have HTO := Lib.hid (EngTo.more HX1.out HC1.out hto)
          have HF2 := Lib.hid hF2
          clear hyes hno hto hF2
          obtain ⟨T, hT⟩ : ∃ T, T = 1 + t % 3 := ⟨_, rfl⟩
          have HTT := Lib.hid hT
          have hT3 : 1 ≤ T ∧ T ≤ 3 := by omega
          clear hT
          go_upto_region 13 with fail
          go_cut [65, 66] from 63 to 66 (fun v v66 wx => v = .int .u8 (T : Int) ∧ v66 = .int .u8 0 ∧ wx = w4)
          case first =>
            go_wp2
            go_meet
            refine ⟨?_, rfl, rfl⟩
            congr 1
            have := HTT.out
            omega
          case rest =>
            obtain ⟨rfl, rfl, hwc⟩ := hcut
            subst hwc
            go_wp2_with fail
            go_loopw [66, 7] (fun s wt wr => ∃ (m : Nat) (E3 : Engn), s = .int .u8 m ∧ wt = .int .i64 ((8 - m : Nat) : Int) ∧ m ≤ T ∧ FullE E3 k (5 * k + m) (30 * k + 3 + 3 * m) (ls.drop m) ∧ EngTo w3 reg eb E3 wr) (fun s _ _ => T - (intOf s).toNat)
            case atStart => exact ⟨0, E2, rfl, rfl, Nat.zero_le _, by simpa using HF2.out, HTO.out⟩
            case round =>
              obtain ⟨m, E3, rfl, rfl, hm, hF3, hTo3⟩ := hrel
              obtain ⟨⟨reg3, hE3, hx3⟩, hc3⟩ := hTo3
              have hdl : (ls.drop m).length = 8 - m := by rw [List.length_drop, ← HN.out]
              have HE3 := Lib.hid hE3
              have HX3 := Lib.hid hx3
              have HC3 := Lib.hid hc3
              have HF3 := Lib.hid hF3
              have HDL := Lib.hid hdl
              obtain ⟨d, hd⟩ : ∃ d, d = 8 - m := ⟨_, rfl⟩
              rw [← hd]
              have HD := Lib.hid hd
              clear hE3 hx3 hc3 hF3 hdl hd
              by_cases hmt : m < T
              · obtain ⟨l, r, hlr⟩ : ∃ l r, ls.drop m = l :: r := by
                  have := HDL.out
                  cases h : ls.drop m with
                  | nil => rw [h] at this; simp at this; omega
                  | cons l r => exact ⟨l, r, rfl⟩
                have hdr : ls.drop (m + 1) = r := by rw [← List.tail_drop, hlr]; rfl
                have hr8 : (l :: r).length ≤ 8 := by rw [← hlr, HDL.out]; omega
                have HPK := Lib.hid (full_pick reg3 eb E3 k (5 * k + m) (30 * k + 3 + 3 * m) l r wr HE3.out (hlr ▸ HF3.out) hr8 (by omega) (by omega))
                have t3 : decide ((m : Int) < (T : Int)) = true := decide_eq_true (by omega)
                have t3' : decide (m < T) = true := decide_eq_true hmt
                have u1 : IntKind.u8.wrap ((m : Int) + 1) = ((m + 1 : Nat) : Int) := by simp [IntKind.wrap, IntKind.bits, IntKind.signed]; omega
                have u2 : IntKind.i64.wrap ((d : Int) - 1) = ((8 - (m + 1) : Nat) : Int) := by rw [IntKind.wrap_i64]; have := HD.out; omega
                have HDR := Lib.hid hdr
                clear hlr hdr hr8
                go_wp2_with fail
                refine HPK.out.mono ?_
                rintro e w5 ⟨rfl, E4, hto4, hF4⟩
                have HTO4 := Lib.hid (EngTo.more HX3.out HC3.out hto4)
                have HF4 := Lib.hid hF4
                clear hto4 hF4
                go_wp2_with fail
                go_roundw
                case rel => exact ⟨m + 1, E4, by go_num, by go_num, by omega, by rw [HDR.out]; exact HF4.out.mono (by omega) (by omega), HTO4.out⟩
                case measure => simp [intOf]; omega
              · obtain rfl : m = T := by omega
                have hcr3 := HC3.out.cell (a := ⟨b, off + k, none⟩) (by simp only; rw [HR0.out b hbl]; decide) (((Chg.of_below HB3.out (fun _ => False))).cell (a := ⟨b, off + k, none⟩) (fun h => h) HCW.out)
                have hblr3 := World.block_lt_of_cell? wr _ hcr3
                simp only at hblr3
                have hd8 : d ≤ 7 := by have := HD.out; omega
                have hdlen := HDL.out
                rw [← HD.out] at hdlen
                have HOF3 := Lib.hid (full_offer reg3 eb E3 k (5 * k + m) (30 * k + 3 + 3 * m) (ls.drop m) x wr HE3.out HF3.out (by omega) (by omega) (by omega) (by unfold U64; omega) HX64.out)
                have t3 : decide ((m : Int) < (m : Int)) = false := decide_eq_false (by omega)
                have u2 : IntKind.i64.wrap ((d : Int) + 1) = ((d + 1 : Nat) : Int) := by rw [IntKind.wrap_i64]; omega
                have HDE := Lib.hid hdlen
                clear hdlen
                go_wp2_with fail
                refine HOF3.out.mono ?_
                rintro e w6 ⟨hyes, -⟩
                obtain ⟨rfl, E5, hto5, hF5⟩ := hyes (by rw [HDE.out]; omega)
                have HTO5 := Lib.hid (EngTo.more HX3.out HC3.out hto5)
                have HF5 := Lib.hid hF5
                clear hyes hto5 hF5
                go_wp2_with fail
                go_roundw
                case rel => exact ⟨k + 1, ls.drop m ++ [offL k x []], E5, by go_num, by rw [List.length_append, HDE.out]; go_num, by omega, by rw [List.length_append, HDE.out]; simp; omega, HF5.out.mono (by omega) (by omega), HTO5.out⟩
                case measure => simp [intOf]; omega
      · obtain rfl : k = ks.length := by omega
        clear k0
        have HAC := Lib.hid (actor_any reg1 eb E kA wr HE1.out kA_ok HF.out.hls (by have := HF.out.z; omega))
        go_wp2_with fail
        refine HAC.out.mono ?_
        rintro e w4 ⟨q, rfl, hto, hq⟩
        have hact := HF.out.act
        rw [hact] at hq
        obtain ⟨jb, ib, ob, PA, pc, XJ, XI, XO, XP, hP⟩ := hq
        have q1 : w4.cell? ⟨q, 1, none⟩ = some (.pointer (some ⟨ib, 0, none⟩)) := hP.blk.cell 1
        have HLN := Lib.hid (len_any XI ib ls w4 hP.inr)
        rw [← HN.out] at HLN
        have HTO := Lib.hid hto
        clear hto hP hact
        go_wp2_with fail
        refine HLN.out.mono ?_
        rintro e w5 ⟨rfl, rfl⟩
        go_wp2_with fail
        go_ret
        have h2 := (EngTo.more HX1.out HC1.out HTO.out).2
        have hb3 := HB3.out.size
        refine ⟨?_, HB3.out.trans (h2.below (fun j hj => ?_) hb3)⟩
        · simp
        · rcases Nat.lt_or_ge j w.heap.size with g | g
          · rw [HR0.out j g] at hj; omega
          · exact g
  · have t0 : decide ((40 : Int) < (ks.length : Int)) = true := decide_eq_true (by omega)
    have t0' : decide (40 < ks.length) = true := decide_eq_true (by omega)
    have HAW := Lib.hid (HG.out.2 w1 (HG.out.1 w w1 HWG.out HB1.out))
    go_wp2_with fail
    refine HAW.out.mono ?_
    rintro e w2 ⟨rfl, hb2⟩
    have HB2 := Lib.hid (HB1.out.trans (hb2.mono HB1.out.size))
    clear hb2
    go_wp2_with fail
    go_ret
    exact ⟨rfl, HB2.out⟩
end Go.Proofs.YtlcdjgpblpodaaaGreatDoor

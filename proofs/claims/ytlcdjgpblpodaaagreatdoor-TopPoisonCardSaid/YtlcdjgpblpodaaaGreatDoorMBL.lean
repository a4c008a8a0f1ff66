/- Shell6, AwkD, Shell7, Shell8, Shell9 -/
import Derived.Test.YtlcdjgpblpodaaaGreatDoorMBK
namespace Go.Proofs.YtlcdjgpblpodaaaGreatDoor
open Go.RowKit Go.Proofs.YtlcdjgpblpodaaaGreatDoorW.PrintWords

/-- Under way: the words, the two commands. -/
structure PMid (w0 w : World) (rb sb cb : Nat) (C : Array Value) : Prop where
  below : Below w0.heap.size w0 w
  words : Blk w sb wordsC 9
  res : Blk w rb #[.string ⟨#[]⟩, .slice none 0 0, .int .u64 0, .int .u64 0, .slice none 0 0] 261
  cmd : Blk w cb C 261
  lo : w0.heap.size ≤ rb ∧ w0.heap.size ≤ sb ∧ w0.heap.size ≤ cb
  ne : sb ≠ cb ∧ rb ≠ cb
theorem PMid.on {w0 w w' : World} {rb sb cb : Nat} {C : Array Value} (h : PMid w0 w rb sb cb C) (hb : Below w.heap.size w w') : PMid w0 w' rb sb cb C :=
  ⟨h.below.trans (hb.mono h.below.size), h.words.below hb, h.res.below hb, h.cmd.below hb, h.lo, h.ne⟩
theorem PMid.chg {w0 w w' : World} {rb sb cb : Nat} {C : Array Value} {S : Nat → Prop} (h : PMid w0 w rb sb cb C) (hc : Chg S w w') (hS : ∀ k, S k → w0.heap.size ≤ k ∧ k ≠ sb ∧ k ≠ rb ∧ k ≠ cb) : PMid w0 w' rb sb cb C :=
  ⟨h.below.trans (hc.below (fun k hk => (hS k hk).1) h.below.size), hc.blk h.words (fun e => (hS _ e).2.1 rfl), hc.blk h.res (fun e => (hS _ e).2.2.1 rfl), hc.blk h.cmd (fun e => (hS _ e).2.2.2 rfl), h.lo, h.ne⟩
theorem PMid.put {w0 w : World} {rb sb cb : Nat} {C : Array Value} (h : PMid w0 w rb sb cb C) (i : Nat) (v : Value) : PMid w0 (w.setCell ⟨cb, i, none⟩ v) rb sb cb (C.setIfInBounds i v) :=
  ⟨h.below.setCell (p := ⟨cb, i, none⟩) h.lo.2.2 v, h.words.other h.ne.1 v, h.res.other h.ne.2 v, h.cmd.set i v, h.lo, h.ne⟩
set_option maxRecDepth 100000 in
set_option maxHeartbeats 4000000 in
theorem parse_line (w : World) (h : MaxLenAt w) : Calls Tryz.prog 125 #[.string lineB] w fun e w' => ∃ g1 c1 g2 c2, e = .returned (.tuple #[.agg #[.string offerB, .slice (some ⟨g1, 0, none⟩) 1 c1, .int .u64 1, .int .u64 1, .slice (some ⟨g2, 0, none⟩) 2 c2], .int .i64 0]) ∧
    w'.cell? ⟨g1, 0, none⟩ = some (.string kA) ∧ w'.cell? ⟨g2, 0, none⟩ = some (.int .i64 0) ∧ w'.cell? ⟨g2, 1, none⟩ = some (.int .i64 5) ∧ 2 ≤ c2 ∧ w.heap.size ≤ g1 ∧ w.heap.size ≤ g2 ∧ Below w.heap.size w w' := by
  obtain ⟨i9, hi9, hz9, hs9, hb9⟩ := info_parts info9
  obtain ⟨i2, hi2, hz2, hs2, hb2⟩ := info_parts info2
  obtain ⟨rb, hrb⟩ : ∃ b, b = w.heap.size := ⟨_, rfl⟩
  obtain ⟨W1, hW1⟩ : ∃ W, W = w.alloc (.cells #[.string ⟨#[]⟩, .slice none 0 0, .int .u64 0, .int .u64 0, .slice none 0 0] 261) := ⟨_, rfl⟩
  have hb1 : Below w.heap.size w W1 := hW1 ▸ (Below.refl _ _).alloc (Nat.le_refl _) _
  obtain ⟨sb, hsb⟩ : ∃ b, b = W1.heap.size := ⟨_, rfl⟩
  obtain ⟨W2, hW2⟩ : ∃ W, W = W1.alloc (.cells wordsC 9) := ⟨_, rfl⟩
  obtain ⟨cb, hcb⟩ : ∃ b, b = W2.heap.size := ⟨_, rfl⟩
  obtain ⟨W3, hW3⟩ : ∃ W, W = W2.alloc (.cells #[.string offerB, .slice none 0 0, .int .u64 0, .int .u64 0, .slice none 0 0] 261) := ⟨_, rfl⟩
  have s1 : W1.heap.size = w.heap.size + 1 := by rw [hW1]; simp
  have s2 : W2.heap.size = W1.heap.size + 1 := by rw [hW2]; simp
  have b12 : Below W1.heap.size W1 W2 := hW2 ▸ (Below.refl _ _).alloc (Nat.le_refl _) _
  have b23 : Below W2.heap.size W2 W3 := hW3 ▸ (Below.refl _ _).alloc (Nat.le_refl _) _
  have hwd : Blk W2 sb wordsC 9 := hW2 ▸ Blk.newAt hsb
  have hrs : Blk W1 rb #[.string ⟨#[]⟩, .slice none 0 0, .int .u64 0, .int .u64 0, .slice none 0 0] 261 := hW1 ▸ Blk.newAt hrb
  have HM := Lib.hid (show PMid w W3 rb sb cb #[.string offerB, .slice none 0 0, .int .u64 0, .int .u64 0, .slice none 0 0] from
    ⟨(hb1.trans (b12.mono (by omega))).trans (b23.mono (by omega)), hwd.below b23, (hrs.below b12).below b23, hW3 ▸ Blk.newAt hcb, by omega, by omega⟩)
  have d0 : W2.cell? ⟨sb, 0, none⟩ = some (.string offerB) := hwd.cell 0
  have HSP := Lib.hid (split_line W1 (h.below hb1))
  have HW1 := Lib.hid hW1
  have HW2 := Lib.hid hW2
  have HW3 := Lib.hid hW3
  have HRB := Lib.hid hrb
  have HSB := Lib.hid hsb
  have HCB := Lib.hid hcb
  have hsl : sb < W2.heap.size := hwd.lt
  unfold lineB at *
  have e0 : W3.cell? ⟨cb, 0, none⟩ = some (.string offerB) := HM.out.cmd.cell 0
  have q1 : (({ data := #[99, 115, 107, 105, 105] } : ByteArray)[0]).toNat = 99 := by rfl
  clear h hrb hb1 hsb hcb hW1 hW2 hW3 s1 s2 b12 b23 hwd hrs
  go_enter Tryz.func125, Tryz.ntmps125
  go_upto_region 1 with fail
  rw [← HW1.out, ← HRB.out]
  go_wp2_with fail
  refine HSP.out.mono ?_
  rintro e w2 ⟨rfl, hw2⟩
  rw [← HW2.out] at hw2
  subst hw2
  rw [← HSB.out]
  go_upto_region 5 with fail
  rw [← HW3.out, ← HCB.out]
  go_wp2_with fail
  refine (shape_offer W3).mono ?_
  rintro e w3 ⟨rfl, rfl⟩
  go_wp2_with fail
  refine wp_loop_rounds 6 ?_
  rw [rounds_succ]
  have x0 : W3.cell? ⟨sb, 1, none⟩ = some (.string ⟨#[49]⟩) := HM.out.words.cell 1
  have y0 := HM.out.words.lt
  go_wp2_with fail
  refine (number_one W3).mono ?_
  rintro e v0 ⟨rfl, hv0⟩
  have hm0 := HM.out.on hv0
  obtain ⟨V0, hV0⟩ : ∃ V, V = v0.setCell ⟨cb, 2, none⟩ (.int .u64 1) := ⟨_, rfl⟩
  have HM0 := Lib.hid (hV0 ▸ hm0.put 2 (.int .u64 1))
  have HV0 := Lib.hid hV0
  have p0 : v0.cell? ⟨cb, 2, none⟩ = some (.int .u64 0) := hm0.cmd.cell 2
  have f0 := hm0.cmd.free 2
  have l0 := hm0.cmd.lt
  clear hv0 hm0 hV0 x0 y0
  go_wp2_with fail
  rw [← HV0.out]
  rw [rounds_succ]
  clear p0 f0 l0
  have x1 : V0.cell? ⟨sb, 2, none⟩ = some (.string ⟨#[49]⟩) := HM0.out.words.cell 2
  have y1 := HM0.out.words.lt
  go_wp2_with fail
  refine (number_one V0).mono ?_
  rintro e v1 ⟨rfl, hv1⟩
  have hm1 := HM0.out.on hv1
  obtain ⟨V1, hV1⟩ : ∃ V, V = v1.setCell ⟨cb, 3, none⟩ (.int .u64 1) := ⟨_, rfl⟩
  have HM1 := Lib.hid (hV1 ▸ hm1.put 3 (.int .u64 1))
  have HV1 := Lib.hid hV1
  have p1 : v1.cell? ⟨cb, 3, none⟩ = some (.int .u64 0) := hm1.cmd.cell 3
  have f1 := hm1.cmd.free 3
  have l1 := hm1.cmd.lt
  clear hv1 hm1 hV1 x1 y1
  go_wp2_with fail
  rw [← HV1.out]
  rw [rounds_succ]
  clear p1 f1 l1
  have x2 : V1.cell? ⟨sb, 3, none⟩ = some (.string ⟨#[54, 49]⟩) := HM1.out.words.cell 3
  have y2 := HM1.out.words.lt
  go_wp2_with fail
  refine (unhex_a V1).mono ?_
  rintro e v2 ⟨rfl, hv2⟩
  have HMa := Lib.hid (HM1.out.on hv2)
  have p2 : v2.cell? ⟨cb, 1, none⟩ = some (.slice none 0 0) := HMa.out.cmd.cell 1
  have f2 := HMa.out.cmd.free 1
  have l2 := HMa.out.cmd.lt
  have HNW2 := Lib.hid (show ∀ j u, ([.string kA] : List Value)[j]? = some u → (v2.alloc (.cells #[.string kA] 9)).cell? ((⟨v2.heap.size, 0, none⟩ : Addr).add j) = some u from World.news_of_block (Blk.new _ _ _))
  have hbs2 := HMa.out.below.size
  clear hv2 x2 y2
  go_wp2_with (at_builtin
               refine wpList_append_lies _ rfl (.tmp 68) (.tmp 70) 49 rfl w.heap.size 9 i9 (.string ⟨#[]⟩) 1 16 Tryz.underlying49 hi9 hz9 hs9 hb9 rfl (by decide) _ 0 [] rfl (own_nil _ _ _ _) ⟨v2.heap.size, 0, none⟩ 1 1 [.string kA] rfl rfl HNW2.out (by simp [Value.oneCell']) (by decide) (by unfold maxLen; omega) (by omega) (by simp; omega) (v2.heap.size + 1) (by simp) ?_
               intro g1 k1 u2 ho2 hg2 hat2 hlt2
               have HMb := Lib.hid (HMa.out.on (((Below.refl v2.heap.size v2).alloc (Nat.le_refl _) (.cells #[.string kA] 9)).grown hg2 (by simp) (fun k e => by cases e)))
               have c2' : u2.cell? ⟨cb, 1, none⟩ = some (.slice none 0 0) := HMb.out.cmd.cell 1
               have f2' : u2.frozen? ⟨cb, 1, none⟩ = false := HMb.out.cmd.free 1
               have l2' := HMb.out.cmd.lt
               have HG1 := Lib.hid (show g1 ≠ cb from by
                 rcases hat2 with e | e
                 · cases e
                 · omega)
               have HLO1 := Lib.hid (own_base ho2 g1 rfl)
               have HK1 := Lib.hid (show u2.cell? ⟨g1, 0, none⟩ = some (.string kA) from by
                 have := ho2.cells (g := g1) rfl 0 (.string kA) rfl
                 rwa [show (⟨g1, 0, none⟩ : Addr).add 0 = ⟨g1, 0, none⟩ by rw [Go.WideShapes.add_plain, Nat.zero_add]] at this)
               clear ho2 hg2 hat2 hlt2)
  obtain ⟨V2, hV2⟩ : ∃ V, V = u2.setCell ⟨cb, 1, none⟩ (.slice (some ⟨g1, 0, none⟩) 1 k1) := ⟨_, rfl⟩
  have HM2 := Lib.hid (hV2 ▸ HMb.out.put 1 (.slice (some ⟨g1, 0, none⟩) 1 k1))
  have HK2 := Lib.hid (show V2.cell? ⟨g1, 0, none⟩ = some (.string kA) from hV2 ▸ ((Chg.refl (fun k => k = cb) u2).put cb 1 (.inl rfl) _).cell (a := ⟨g1, 0, none⟩) HG1.out HK1.out)
  have HV2 := Lib.hid hV2
  clear hV2
  rw [← HV2.out]
  rw [rounds_succ]
  clear p2 f2 l2 c2' f2' l2'
  have x3 : V2.cell? ⟨sb, 4, none⟩ = some (.string ⟨#[48]⟩) := HM2.out.words.cell 4
  have y3 := HM2.out.words.lt
  go_wp2_with fail
  refine (int_word ⟨#[48]⟩ 0 (by omega) (by show 1 ≤ 100; omega) (by kernel_rfl) (by kernel_rfl) V2).mono ?_
  rintro e v3 ⟨rfl, hv3⟩
  have HMc := Lib.hid (HM2.out.on hv3)
  have HKc := Lib.hid (pw_cell_below hv3 HK2.out)
  have p3 : v3.cell? ⟨cb, 4, none⟩ = some (.slice none 0 0) := HMc.out.cmd.cell 4
  have f3 := HMc.out.cmd.free 4
  have l3 := HMc.out.cmd.lt
  have HNW3 := Lib.hid (show ∀ j u, ([.int .i64 0] : List Value)[j]? = some u → (v3.alloc (.cells #[.int .i64 0] 2)).cell? ((⟨v3.heap.size, 0, none⟩ : Addr).add j) = some u from World.news_of_block (Blk.new _ _ _))
  have hbs3 := HMc.out.below.size
  clear hv3 x3 y3
  go_wp2_with (at_builtin
               refine wpList_append_lies _ rfl (.tmp 97) (.tmp 99) 22 rfl w.heap.size 2 i2 (.int .i64 0) 1 8 Tryz.underlying22 hi2 hz2 hs2 hb2 rfl (by decide) _ 0 [] rfl (own_nil _ _ _ _) ⟨v3.heap.size, 0, none⟩ 1 1 [.int .i64 0] rfl rfl HNW3.out (by simp [Value.oneCell']) (by decide) (by unfold maxLen; omega) (by omega) (by simp; omega) (v3.heap.size + 1) (by simp) ?_
               intro g2 k2 u3 ho3 hg3 hat3 hlt3
               have hbu3 := ((Below.refl v3.heap.size v3).alloc (Nat.le_refl _) (.cells #[.int .i64 0] 2)).grown hg3 (by simp) (fun k e => by cases e)
               have HMd := Lib.hid (HMc.out.on hbu3)
               have HKd := Lib.hid (pw_cell_below hbu3 HKc.out)
               have c3' : u3.cell? ⟨cb, 4, none⟩ = some (.slice none 0 0) := HMd.out.cmd.cell 4
               have f3' : u3.frozen? ⟨cb, 4, none⟩ = false := HMd.out.cmd.free 4
               have l3' := HMd.out.cmd.lt
               have HG2 := Lib.hid (show g2 = v3.heap.size + 1 from by
                 rcases hat3 with e | e
                 · cases e
                 · exact e)
               have HO3 := Lib.hid (show u3.ownsRow w.heap.size 2 1 (.slice (some ⟨g2, 0, none⟩) 1 k2) 1 [.int .i64 0] from ho3)
               clear ho3 hg3 hat3 hlt3 hbu3)
  obtain ⟨V3, hV3⟩ : ∃ V, V = u3.setCell ⟨cb, 4, none⟩ (.slice (some ⟨g2, 0, none⟩) 1 k2) := ⟨_, rfl⟩
  have HM3 := Lib.hid (hV3 ▸ HMd.out.put 4 (.slice (some ⟨g2, 0, none⟩) 1 k2))
  have HK3 := Lib.hid (show V3.cell? ⟨g1, 0, none⟩ = some (.string kA) from hV3 ▸ ((Chg.refl (fun k => k = cb) u3).put cb 4 (.inl rfl) _).cell (a := ⟨g1, 0, none⟩) HG1.out HKd.out)
  have HO3' := Lib.hid (show V3.ownsRow w.heap.size 2 1 (.slice (some ⟨g2, 0, none⟩) 1 k2) 1 [.int .i64 0] from hV3 ▸ own_setCell HO3.out (by simp [Value.ownBlock]; have := HG2.out; omega) _)
  have HV3 := Lib.hid hV3
  clear hV3
  rw [← HV3.out]
  rw [rounds_succ]
  clear p3 f3 l3 c3' f3' l3'
  have x4 : V3.cell? ⟨sb, 5, none⟩ = some (.string ⟨#[53]⟩) := HM3.out.words.cell 5
  have y4 := HM3.out.words.lt
  go_wp2_with fail
  refine (int_word ⟨#[53]⟩ 5 (by omega) (by show 1 ≤ 100; omega) (by kernel_rfl) (by kernel_rfl) V3).mono ?_
  rintro e v4 ⟨rfl, hv4⟩
  have HMe := Lib.hid (HM3.out.on hv4)
  have HKe := Lib.hid (pw_cell_below hv4 HK3.out)
  have HOe := Lib.hid (own_below HO3'.out hv4)
  have p4 : v4.cell? ⟨cb, 4, none⟩ = some (.slice (some ⟨g2, 0, none⟩) 1 k2) := HMe.out.cmd.cell 4
  have f4 := HMe.out.cmd.free 4
  have l4 := HMe.out.cmd.lt
  have HNW4 := Lib.hid (show ∀ j u, ([.int .i64 5] : List Value)[j]? = some u → (v4.alloc (.cells #[.int .i64 5] 2)).cell? ((⟨v4.heap.size, 0, none⟩ : Addr).add j) = some u from World.news_of_block (Blk.new _ _ _))
  have hbs4 := HMe.out.below.size
  have hgc := HMc.out.cmd.lt
  have hgs := HMc.out.words.lt
  have hgr := HMc.out.res.lt
  have hgk := World.block_lt_of_cell? _ _ HKc.out
  simp only at hgk
  clear hv4 x4 y4
  go_wp2_with (at_builtin
               refine wpList_append_lies _ rfl (.tmp 97) (.tmp 99) 22 rfl w.heap.size 2 i2 (.int .i64 0) 1 8 Tryz.underlying22 hi2 hz2 hs2 hb2 rfl (by decide) _ 1 [.int .i64 0] rfl (World.ownsRow.alloc HOe.out _) ⟨v4.heap.size, 0, none⟩ 1 1 [.int .i64 5] rfl rfl HNW4.out (by simp [Value.oneCell']) (by decide) (by unfold maxLen; omega) (by omega) (by simp; omega) (v4.heap.size + 1) (by simp) ?_
               intro g3 k3 u4 ho4 hg4 hat4 hlt4
               have hcu4 : Chg (fun k => k = g2) v4 u4 := (((Chg.refl (fun k => k = g2) v4).alloc (.cells #[.int .i64 5] 2)).grown hg4 (fun k e => .inl (by injection e with e; exact e.symm)))
               have HMf := Lib.hid (HMe.out.chg hcu4 (fun k e => by have := HG2.out; subst e; exact ⟨by omega, by omega, by omega, by omega⟩))
               have HKf := Lib.hid (hcu4.cell (a := ⟨g1, 0, none⟩) (show ¬ g1 = g2 from fun e => by have := HG2.out; omega) HKe.out)
               have c4' : u4.cell? ⟨cb, 4, none⟩ = some (.slice (some ⟨g2, 0, none⟩) 1 k2) := HMf.out.cmd.cell 4
               have f4' : u4.frozen? ⟨cb, 4, none⟩ = false := HMf.out.cmd.free 4
               have l4' := HMf.out.cmd.lt
               have HG3 := Lib.hid (show g3 ≠ cb from by
                 have := HG2.out
                 rcases hat4 with e | e
                 · injection e with e
                   have e' : g2 = g3 := e
                   omega
                 · omega)
               have HO4 := Lib.hid (show u4.ownsRow w.heap.size 2 1 (.slice (some ⟨g3, 0, none⟩) 2 k3) 2 [.int .i64 0, .int .i64 5] from ho4)
               clear ho4 hg4 hat4 hlt4 hcu4)
  obtain ⟨V4, hV4⟩ : ∃ V, V = u4.setCell ⟨cb, 4, none⟩ (.slice (some ⟨g3, 0, none⟩) 2 k3) := ⟨_, rfl⟩
  have HM4 := Lib.hid (hV4 ▸ HMf.out.put 4 (.slice (some ⟨g3, 0, none⟩) 2 k3))
  have HK4 := Lib.hid (show V4.cell? ⟨g1, 0, none⟩ = some (.string kA) from hV4 ▸ ((Chg.refl (fun k => k = cb) u4).put cb 4 (.inl rfl) _).cell (a := ⟨g1, 0, none⟩) HG1.out HKf.out)
  have HO4' := Lib.hid (show V4.ownsRow w.heap.size 2 1 (.slice (some ⟨g3, 0, none⟩) 2 k3) 2 [.int .i64 0, .int .i64 5] from hV4 ▸ own_setCell HO4.out (by simp [Value.ownBlock]; exact fun e => HG3.out e.symm) _)
  have HV4 := Lib.hid hV4
  clear hV4
  rw [← HV4.out]
  rw [rounds_succ]
  clear p4 f4 l4 c4' f4' l4'
  have uc : ∀ i, V4.cell? ⟨cb, i, none⟩ = _ := fun i => HM4.out.cmd.cell i
  have uo : ∀ i, V4.cell? ⟨rb, i, none⟩ = _ := fun i => HM4.out.res.cell i
  have fo : ∀ i, V4.frozen? ⟨rb, i, none⟩ = false := fun i => HM4.out.res.free i
  have lo := HM4.out.res.lt
  go_wp2_with fail
  refine bodyPost_ret (results_ct rfl _ _ rb 261 _ (0, 0) _ rfl (HM4.out.res.five rfl _ _ _ _ _) Tryz.underlying261 rfl (by kernel_rfl)) rfl ?_
  have hc5 : ∀ v0 v1 v2 v3 v4' : Value, Chg (fun j => j = rb) V4 (((((V4.setCell ⟨rb, 0, none⟩ v0).setCell ⟨rb, 1, none⟩ v1).setCell ⟨rb, 2, none⟩ v2).setCell ⟨rb, 3, none⟩ v3).setCell ⟨rb, 4, none⟩ v4') := fun _ _ _ _ _ => (((((Chg.refl (fun j => j = rb) V4).put rb 0 (.inl rfl) _).put rb 1 (.inl rfl) _).put rb 2 (.inl rfl) _).put rb 3 (.inl rfl) _).put rb 4 (.inl rfl) _
  have r0 := HO4'.out.cells (g := g3) rfl 0 (.int .i64 0) rfl
  have r1 := HO4'.out.cells (g := g3) rfl 1 (.int .i64 5) rfl
  rw [show (⟨g3, 0, none⟩ : Addr).add 0 = ⟨g3, 0, none⟩ by rw [Go.WideShapes.add_plain, Nat.zero_add]] at r0
  rw [show (⟨g3, 0, none⟩ : Addr).add 1 = ⟨g3, 1, none⟩ by rw [Go.WideShapes.add_plain, Nat.zero_add]] at r1
  have n1 : g1 ≠ rb := fun e => by
    have h1 := HK4.out
    rw [e] at h1
    rw [HM4.out.res.cell 0] at h1
    simp [kA] at h1
  have n3 : g3 ≠ rb := fun e => by
    have h1 := r0
    rw [e] at h1
    rw [HM4.out.res.cell 0] at h1
    simp at h1
  refine ⟨g1, k1, g3, k3, rfl, (hc5 _ _ _ _ _).cell (a := ⟨g1, 0, none⟩) n1 HK4.out, (hc5 _ _ _ _ _).cell (a := ⟨g3, 0, none⟩) n3 r0, (hc5 _ _ _ _ _).cell (a := ⟨g3, 1, none⟩) n3 r1, own_le HO4'.out, HLO1.out, own_base HO4'.out g3 rfl, ?_⟩
  have hlo := HM4.out.lo.1
  exact HM4.out.below.trans ((hc5 _ _ _ _ _).below (fun j e => by omega) HM4.out.below.size)
end Go.Proofs.YtlcdjgpblpodaaaGreatDoor
namespace Go.Proofs.YtlcdjgpblpodaaaGreatDoor
open Go.RowKit Go.Maps Go.Proofs.YtlcdjgpblpodaaaGreatDoorW.PrintWords

/-- What awake is. -/
def Awake (G : World → Prop) : Prop := (∀ W W' : World, G W → Below W.heap.size W W' → G W') ∧ ∀ W, G W → Calls Tryz.prog 6 #[] W fun e w' => e = .returned (.bool true) ∧ Below W.heap.size W w'
theorem EngTo.more {w w1 w2 : World} {reg : Nat → Nat} {eb : Nat} {E1 : Engn} {reg1 : Nat → Nat} (hx : ∀ k, k < w.heap.size → reg1 k = reg k) (hc : Chg (fun k => 2 ≤ reg k) w w1) (h : EngTo w1 reg1 eb E1 w2) : EngTo w reg eb E1 w2 := by
  obtain ⟨⟨r2, k1, k2⟩, kc⟩ := h
  exact ⟨⟨r2, k1, fun j hj => (k2 j (Nat.lt_of_lt_of_le hj hc.size)).trans (hx j hj)⟩, hc.trans kc (fun j hj hr => by rw [hx j hj] at hr; exact hr)⟩
end Go.Proofs.YtlcdjgpblpodaaaGreatDoor
namespace Go.Proofs.YtlcdjgpblpodaaaGreatDoor
open Go.RowKit Go.Maps Go.Proofs.YtlcdjgpblpodaaaGreatDoorW.PrintWords

theorem let5_ok : (offL 1 0 [5]).Ok := ⟨by show 0 ≤ 40; omega, by show 1 < 18446744073709551616; omega, by show -9223372036854775808 ≤ (0 : Int) ∧ (0 : Int) ≤ 9223372036854775807; omega, by show 1 ≤ 4; omega, fun x hx => by
  rw [List.mem_singleton.1 hx]; unfold In64; omega⟩
theorem first_offer (reg : Nat → Nat) (eb db g2 c : Nat) (w : World) (h : EngAt w reg eb (engn0 2 50 db)) (hc : 1 ≤ c) (hr : w.cell? ⟨g2, 1, none⟩ = some (.int .i64 5)) :
    Calls Tryz.prog 9 #[.pointer (some ⟨eb, 0, none⟩), .int .u64 1, .int .u64 1, .string kA, .int .i64 0, .slice (some ⟨g2, 1, none⟩) 1 c] w fun e w' =>
      e = .returned (.tuple #[.bool true, .int .i64 0]) ∧ ∃ E', E'.db = db ∧ EngTo w reg eb E' w' := by
  have hl := let5_ok
  have hgot : gotL (actr0 kA) (offL 1 0 [5]) = inA [offL 1 0 [5]] := rfl
  have hW := addW_ok win0 1 1 h.1.win (by unfold U64; omega) (by unfold U64; omega) rfl (fun e he => by cases he)
  have hA : ArgsAt w (fun _ => True) (some ⟨g2, 1, none⟩) c [5] := ⟨⟨rfl, by show 1 ≤ _; omega, fun _ => ⟨_, rfl, fun j hj => by
    obtain rfl : j = 0 := by
      have : j < 1 := hj
      omega
    rw [Go.WideShapes.add_plain]
    exact hr⟩⟩, hc, fun _ _ _ => trivial, fun a ha => by injection ha with ha; rw [← ha]⟩
  refine (offer_any reg eb (engn0 2 50 db) 1 1 kA 0 [5] _ c (fun _ => True) w h hA (by unfold U64; omega) (by unfold U64; omega) kA_ok hl (.inl rfl) rfl (fun e he => by cases he) ⟨by show 9 * (0 + 1) ≤ 50; omega, by show 0 ≤ 5000; omega⟩ (by show 0 ≤ 800000; omega) (fun _ => ?_)).mono ?_
  · show (encChs [chOf (gotL (actr0 kA) (offL 1 0 [5])), winCh (addW win0 1 1)]).length ≤ 2000
    rw [encChs_two, hgot]
    have h1 := inA_len [offL 1 0 [5]] (fun l hm => by rw [List.mem_singleton.1 hm]; exact hl) (by show 1 ≤ 8; omega)
    have h2 := winCh_len _ hW.1
    omega
  · rintro e w' ⟨h1, _⟩
    obtain ⟨rfl, h2⟩ := h1 (by show 0 < 8; omega)
    exact ⟨rfl, _, rfl, h2⟩
set_option maxRecDepth 100000 in
set_option maxHeartbeats 4000000 in
theorem answer_offer (reg : Nat → Nat) (eb db g1 c1 g2 c2 : Nat) (w : World) (h : EngAt w reg eb (engn0 2 50 db)) (r0 : w.cell? ⟨g1, 0, none⟩ = some (.string kA)) (r1 : w.cell? ⟨g2, 0, none⟩ = some (.int .i64 0)) (r2 : w.cell? ⟨g2, 1, none⟩ = some (.int .i64 5)) (hc2 : 2 ≤ c2) (n1 : reg g1 = 0) (n2 : reg g2 = 0) :
    Calls Tryz.prog 126 #[.pointer (some ⟨eb, 0, none⟩), .agg #[.string offerB, .slice (some ⟨g1, 0, none⟩) 1 c1, .int .u64 1, .int .u64 1, .slice (some ⟨g2, 0, none⟩) 2 c2]] w fun e w' =>
      e = .returned (.tuple #[.string ⟨#[116, 97, 107, 101, 110]⟩, .int .i64 0]) ∧ ∃ E', E'.db = db ∧ EngTo w reg eb E' w' := by
  obtain ⟨W1, hW1⟩ : ∃ W, W = w.alloc (.cells #[.string offerB, .slice (some ⟨g1, 0, none⟩) 1 c1, .int .u64 1, .int .u64 1, .slice (some ⟨g2, 0, none⟩) 2 c2] 261) := ⟨_, rfl⟩
  obtain ⟨bx, hbx⟩ : ∃ b, b = w.heap.size := ⟨_, rfl⟩
  have hb1 : Below w.heap.size w W1 := hW1 ▸ (Below.refl _ _).alloc (Nat.le_refl _) _
  have hX : Blk W1 bx #[.string offerB, .slice (some ⟨g1, 0, none⟩) 1 c1, .int .u64 1, .int .u64 1, .slice (some ⟨g2, 0, none⟩) 2 c2] 261 := hW1 ▸ Blk.newAt hbx
  have hxr : reg bx = 0 := by
    by_cases e : reg bx = 0
    · exact e
    · have := h.lt bx e; omega
  have x0 : W1.cell? ⟨bx, 0, none⟩ = some (.string offerB) := hX.cell 0
  have hd : Below W1.heap.size W1 W1.drew := (Below.refl _ _).drew
  have hXd := hX.below hd
  have y1 : W1.drew.cell? ⟨bx, 1, none⟩ = some (.slice (some ⟨g1, 0, none⟩) 1 c1) := hXd.cell 1
  have y2 : W1.drew.cell? ⟨bx, 2, none⟩ = some (.int .u64 1) := hXd.cell 2
  have y3 : W1.drew.cell? ⟨bx, 3, none⟩ = some (.int .u64 1) := hXd.cell 3
  have y4 : W1.drew.cell? ⟨bx, 4, none⟩ = some (.slice (some ⟨g2, 0, none⟩) 2 c2) := hXd.cell 4
  have hb1d := hb1.trans (hd.mono hb1.size)
  have z0 := pw_cell_below hb1d r0
  have z1 := pw_cell_below hb1d r1
  have z2 := pw_cell_below hb1d r2
  have HOF := Lib.hid (first_offer reg eb db g2 (c2 - 1) W1.drew (h.below hb1d) (by omega) z2)
  have HXD := Lib.hid hXd
  have HB := Lib.hid hb1d
  have HLT := Lib.hid h.lt
  have HR := Lib.hid (show reg bx = 0 ∧ reg g1 = 0 ∧ reg g2 = 0 from ⟨hxr, n1, n2⟩)
  have HW1 := Lib.hid hW1
  have HBX := Lib.hid hbx
  have c1' : (1 : Nat) ≤ c2 := by omega
  have c2n : ¬ c2 = 1 := by omega
  have hxl := hX.lt
  clear h hX hxr hd hXd hb1 hb1d hW1 hbx r0 r1 r2 n1 n2
  go_enter Tryz.func126, Tryz.ntmps126
  go_upto_region 1 with fail
  rw [← HW1.out, ← HBX.out]
  unfold offerB at x0
  go_upto_region 3 with fail
  go_region_held3 (fun w' => w'.cell? ⟨bx, 1, none⟩ = some (.slice (some ⟨g1, 0, none⟩) 1 c1) ∧ w'.cell? ⟨bx, 2, none⟩ = some (.int .u64 1) ∧ w'.cell? ⟨bx, 3, none⟩ = some (.int .u64 1) ∧ w'.cell? ⟨bx, 4, none⟩ = some (.slice (some ⟨g2, 0, none⟩) 2 c2) ∧ w'.cell? ⟨g1, 0, none⟩ = some (.string kA) ∧ w'.cell? ⟨g2, 0, none⟩ = some (.int .i64 0)) (first | exact ⟨y1, y2, y3, y4, z0, z1⟩ | exact ⟨y1', y2', y3', y4', z0', z1'⟩)
    (first
      | (go_at_call 9
         refine HOF.out.mono ?_
         rintro e w2 ⟨rfl, E', hE', hT⟩
         have hc := hT.2
         have hx2 := hc.blk HXD.out (fun e => by have := HR.out.1; omega)
         have y1' : w2.cell? ⟨bx, 1, none⟩ = some (.slice (some ⟨g1, 0, none⟩) 1 c1) := hx2.cell 1
         have y2' : w2.cell? ⟨bx, 2, none⟩ = some (.int .u64 1) := hx2.cell 2
         have y3' : w2.cell? ⟨bx, 3, none⟩ = some (.int .u64 1) := hx2.cell 3
         have y4' : w2.cell? ⟨bx, 4, none⟩ = some (.slice (some ⟨g2, 0, none⟩) 2 c2) := hx2.cell 4
         have z0' := hc.cell (a := ⟨g1, 0, none⟩) (fun e => by have := HR.out.2.1; simp only at e; omega) z0
         have z1' := hc.cell (a := ⟨g2, 0, none⟩) (fun e => by have := HR.out.2.2; simp only at e; omega) z1
         have HT := Lib.hid hT
         have HDB := Lib.hid hE'
         clear hx2 hc hT hE'))
  rename_i hHeld
  clear hHeld
  go_wp2_with fail
  go_ret2
  refine ⟨rfl, E', HDB.out, ?_⟩
  exact HT.out.more (fun k _ => rfl) (Chg.of_below HB.out _)
end Go.Proofs.YtlcdjgpblpodaaaGreatDoor
namespace Go.Proofs.YtlcdjgpblpodaaaGreatDoor
open Go.RowKit Go.Maps Go.Proofs.YtlcdjgpblpodaaaGreatDoorW.PrintWords

set_option maxRecDepth 100000 in
set_option maxHeartbeats 4000000 in
theorem do_line (reg : Nat → Nat) (eb db : Nat) (w : World) (hG : MaxLenAt w) (h : EngAt w reg eb (engn0 2 50 db)) :
    Calls Tryz.prog 57 #[.pointer (some ⟨eb, 0, none⟩), .string lineB] w fun e w' => e = .returned (.string ⟨#[116, 97, 107, 101, 110]⟩) ∧ ∃ E', E'.db = db ∧ EngTo w reg eb E' w' := by
  have HP := Lib.hid (parse_line w hG)
  have HE := Lib.hid h
  unfold lineB at *
  clear hG h
  go_enter Tryz.func57, Tryz.ntmps57
  go_wp2_with fail
  refine HP.out.mono ?_
  rintro e w1 ⟨g1, c1, g2, c2, rfl, h1, h2, h3, hc2, hg1, hg2, hb1⟩
  have z : ∀ k, w.heap.size ≤ k → reg k = 0 := fun k hk => by
    by_cases e : reg k = 0
    · exact e
    · have := HE.out.lt k e; omega
  obtain ⟨W2, hW2⟩ : ∃ W, W = w1.alloc (.cells #[.string offerB, .slice (some ⟨g1, 0, none⟩) 1 c1, .int .u64 1, .int .u64 1, .slice (some ⟨g2, 0, none⟩) 2 c2] 261) := ⟨_, rfl⟩
  have hb2 : Below w1.heap.size w1 W2 := hW2 ▸ (Below.refl _ _).alloc (Nat.le_refl _) _
  have hb12 := hb1.trans (hb2.mono hb1.size)
  have HA := Lib.hid (answer_offer reg eb db g1 c1 g2 c2 W2 (HE.out.below hb12) (pw_cell_below hb2 h1) (pw_cell_below hb2 h2) (pw_cell_below hb2 h3) hc2 (z g1 hg1) (z g2 hg2))
  have HB := Lib.hid hb12
  have HW2 := Lib.hid hW2
  clear h1 h2 h3 hc2 hg1 hg2 hb1 z hW2 hb2 hb12
  unfold offerB at *
  go_wp2_with fail
  rw [← HW2.out]
  refine HA.out.mono ?_
  rintro e w3 ⟨rfl, E', hE', hT⟩
  have HT := Lib.hid hT
  have HDB := Lib.hid hE'
  clear hT hE'
  go_wp2_with fail
  go_ret
  refine ⟨rfl, E', HDB.out, ?_⟩
  exact HT.out.more (fun k _ => rfl) (Chg.of_below HB.out _)
end Go.Proofs.YtlcdjgpblpodaaaGreatDoor
namespace Go.Proofs.YtlcdjgpblpodaaaGreatDoor
open Go.RowKit Go.Maps Go.Proofs.YtlcdjgpblpodaaaGreatDoorW.PrintWords

/-- The world, made: a disk and an engine that knows it. -/
structure WldAt (w : World) (reg : Nat → Nat) (wb db eb : Nat) (E : Engn) : Prop where
  blk : Blk w wb #[.pointer (some ⟨db, 0, none⟩), .pointer (some ⟨eb, 0, none⟩), .int .i64 2] 149
  eng : EngAt w reg eb E
  db : E.db = db
  free : reg wb = 0
set_option maxRecDepth 100000 in
set_option maxHeartbeats 4000000 in
theorem new_world (w : World) : Calls Tryz.prog 18 #[.int .i64 200, .int .i64 2] w fun e w' => ∃ wb db eb reg, e = .returned (.tuple #[.pointer (some ⟨wb, 0, none⟩), .int .i64 0]) ∧ WldAt w' reg wb db eb (engn0 2 50 db) ∧ (∀ k, k < w.heap.size → reg k = 0) ∧ w.heap.size ≤ wb ∧ Below w.heap.size w w' := by
  go_enter Tryz.func18, Tryz.ntmps18
  go_wp2_with fail
  refine (newdisk 200 (by omega) w).mono ?_
  rintro e w1 ⟨db, rfl, hd, hb1⟩
  obtain ⟨wb, hwb⟩ : ∃ b, b = w1.heap.size := ⟨_, rfl⟩
  obtain ⟨W2, hW2⟩ : ∃ W, W = w1.alloc (.cells #[.pointer (some ⟨db, 0, none⟩), .pointer none, .int .i64 2] 149) := ⟨_, rfl⟩
  have hb2 : Below w1.heap.size w1 W2 := hW2 ▸ (Below.refl _ _).alloc (Nat.le_refl _) _
  have hX : Blk W2 wb #[.pointer (some ⟨db, 0, none⟩), .pointer none, .int .i64 2] 149 := hW2 ▸ Blk.newAt hwb
  have hs2 : W2.heap.size = w1.heap.size + 1 := by rw [hW2]; simp
  have hs1 := hb1.size
  have HO := Lib.hid (engopen (fun k => w.heap.size ≤ k ∧ k < w1.heap.size) db 200 2 (by omega) (by omega) (by omega) W2 (hd.lt.below hb2) (fun k hk => by omega))
  have HB := Lib.hid (hb1.trans (hb2.mono hb1.size))
  have HX := Lib.hid hX
  have x0 : W2.cell? ⟨wb, 0, none⟩ = some (.pointer (some ⟨db, 0, none⟩)) := hX.cell 0
  have HW2 := Lib.hid hW2
  have HWB := Lib.hid hwb
  have HSZ := Lib.hid (show W2.heap.size = w1.heap.size + 1 ∧ w.heap.size ≤ w1.heap.size from ⟨hs2, hs1⟩)
  clear hd hb1 hwb hW2 hb2 hX hs2 hs1
  go_upto_region 2 with fail
  rw [← HW2.out, ← HWB.out]
  go_wp2_with fail
  refine HO.out.mono ?_
  rintro e w3 ⟨eb, reg, rfl, hE, hr, hb3⟩
  have hx3 := HX.out.below hb3
  have x1 : w3.frozen? ⟨wb, 1, none⟩ = false := hx3.free 1
  have x2 : w3.cell? ⟨wb, 1, none⟩ = some (.pointer none) := hx3.cell 1
  have xl := hx3.lt
  have hrw : reg wb = 0 := by
    by_cases e : reg wb = 0
    · exact e
    · have h1 := hr wb (by have := HX.out.lt; omega) e
      have := HWB.out
      omega
  have hr0 : ∀ k, k < w.heap.size → reg k = 0 := fun k hk => by
    by_cases e : reg k = 0
    · exact e
    · have h1 := hr k (by have := HSZ.out; omega) e
      omega
  have HE := Lib.hid (show EngAt w3 reg eb (engn0 2 50 db) from hE)
  have HX3 := Lib.hid hx3
  have HB3 := Lib.hid (HB.out.trans (hb3.mono (by have := HSZ.out; omega)))
  have HR := Lib.hid hrw
  have HR0 := Lib.hid hr0
  clear hE hr hb3 hx3 hrw hr0
  go_wp2_with fail
  go_ret2
  have hwl : w.heap.size ≤ wb := by have := HWB.out; have := HSZ.out; omega
  have hc : Chg (fun k => k = wb) w3 (w3.setCell ⟨wb, 1, none⟩ (.pointer (some ⟨eb, 0, none⟩))) := (Chg.refl (fun k => k = wb) w3).put wb 1 (.inl rfl) _
  refine ⟨wb, db, eb, reg, rfl, ⟨HX3.out.set 1 _, HE.out.chg hc (fun k hk e => by subst e; exact hk HR.out), rfl, HR.out⟩, HR0.out, hwl, HB3.out.setCell (p := ⟨wb, 1, none⟩) hwl _⟩
end Go.Proofs.YtlcdjgpblpodaaaGreatDoor

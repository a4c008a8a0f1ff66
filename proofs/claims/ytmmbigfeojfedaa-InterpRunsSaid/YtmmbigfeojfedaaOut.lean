/- out: what goes out of the machine. -/
import Derived.Test.YtmmbigfeojfedaaTwo
namespace Go.Proofs.Ytmmbigfeojfedaa
open Go.RowKit Go.Proofs.YtmmbigfeojfedaaW.PrintWords

def sendF (dst : ByteArray) (k x : Int) (s : St) : St :=
  if dst = ⟨#[]⟩ then s else
  if (refuseF (decide ((4 : Int) ≤ s.sent.length)) s).failed = 0 then { refuseF (decide ((4 : Int) ≤ s.sent.length)) s with sent := s.sent ++ [(dst, k, x)] } else refuseF (decide ((4 : Int) ≤ s.sent.length)) s

theorem refuseF_sent (b : Bool) (s : St) : (refuseF b s).sent = s.sent := by unfold refuseF; split <;> rfl
theorem refuseF_tm (b : Bool) (s : St) : (refuseF b s).tm = s.tm := by unfold refuseF; split <;> rfl
theorem refuseF_ev (b : Bool) (s : St) : (refuseF b s).ev = s.ev := by unfold refuseF; split <;> rfl
theorem refuseF_stack (b : Bool) (s : St) : (refuseF b s).stack = s.stack := by unfold refuseF; split <;> rfl
theorem popF_sent (s : St) : (popF s).sent = s.sent := by unfold popF; split; · split <;> rfl
                                                          · rfl
theorem popF_tm (s : St) : (popF s).tm = s.tm := by unfold popF; split; · split <;> rfl
                                                    · rfl
theorem popF_ev (s : St) : (popF s).ev = s.ev := by unfold popF; split; · split <;> rfl
                                                    · rfl

theorem str_ne {s : ByteArray} (h : ¬ s = ⟨#[]⟩) : s.toList.isEmpty = false := by
  rw [ByteArray.toList_eq]
  obtain ⟨⟨x⟩⟩ := s
  cases x with
  | nil => exact absurd rfl h
  | cons a l => rfl

/-- What an environment's texts and numbers are, in memory. -/
def EnvOk (c : Env) (w : World) : Prop := ReadsOf Value.string (⟨#[]⟩ : ByteArray) w c.nA c.NL.length c.NL ∧ ReadsOf (Value.int .i64) (0 : Int) w c.aA c.AL.length c.AL
theorem EnvOk.below {c : Env} {w w' : World} (h : EnvOk c w) (hb : Below w.heap.size w w') : EnvOk c w' := ⟨h.1.below hb, h.2.below hb⟩
theorem EnvOk.name {c : Env} {w : World} (h : EnvOk c w) {k : Nat} (hk : k < c.NL.length) : ∃ b off, c.nA = some ⟨b, off, none⟩ ∧ w.cell? ⟨b, off + k, none⟩ = some (.string (c.NL.getD k ⟨#[]⟩)) := by
  obtain ⟨⟨b, off, sp⟩, ha, hc⟩ := h.1.2.2 (by omega)
  obtain rfl : sp = none := by
    have := hc 0 (by omega)
    simpa [Addr.add] using World.cell?_spot this
  have := hc k hk
  rw [Go.WideShapes.add_plain] at this
  exact ⟨b, off, ha, this⟩
theorem EnvOk.arg {c : Env} {w : World} (h : EnvOk c w) {k : Nat} (hk : k < c.AL.length) : ∃ b off, c.aA = some ⟨b, off, none⟩ ∧ w.cell? ⟨b, off + k, none⟩ = some (.int .i64 (c.AL.getD k 0)) := by
  obtain ⟨⟨b, off, sp⟩, ha, hc⟩ := h.2.2.2 (by omega)
  obtain rfl : sp = none := by
    have := hc 0 (by omega)
    simpa [Addr.add] using World.cell?_spot this
  have := hc k hk
  rw [Go.WideShapes.add_plain] at this
  exact ⟨b, off, ha, this⟩

/-- The letter that the machine would send, in memory. -/
theorem M.send {c : Env} {w0 wb w w1 : World} {mb : Nat} {s : St} {sv ev sn tv v1 : Value} (dst : ByteArray) (k x : Int) (hb : Blk w mb (cellsOf c s sv ev sn tv) 74) (hr : Rws w0 wb w s.stack s.ev s.sent s.tm sv ev sn tv) (hm : w0.heap.size ≤ mb)
    (ho : w1.ownsRow w0.heap.size 66 3 v1 (s.sent.length + 1) (encS s.sent ++ [.string dst, .int .i64 k, .int .i64 x])) (hg : w.grownBy w1 sn.ownBlock) (hB : Below w0.heap.size w0 w1) :
    Blk w1 mb (cellsOf c s sv ev sn tv) 74 ∧ M c w0 wb mb { s with sent := s.sent ++ [(dst, k, x)] } (w1.setCell ⟨mb, 18, none⟩ v1) := by
  have hb1 := blk_grown hb hr.sn (by decide) hg
  have hr1 := hr.grow_sn (sn1 := s.sent ++ [(dst, k, x)]) (by rw [encS_snoc, List.length_append]; exact ho) hg hB
  exact ⟨hb1, sv, ev, v1, tv, by simpa [cellsOf] using hb1.set 18 v1, hr1.put hb1 hm _ _, hm⟩
theorem M.remind {c : Env} {w0 wb w w1 : World} {mb : Nat} {s : St} {sv ev sn tv v1 : Value} (n : ByteArray) (b : Bool) (d p k : Int) (hb : Blk w mb (cellsOf c s sv ev sn tv) 74) (hr : Rws w0 wb w s.stack s.ev s.sent s.tm sv ev sn tv) (hm : w0.heap.size ≤ mb)
    (ho : w1.ownsRow w0.heap.size 58 5 v1 (s.tm.length + 1) (encT s.tm ++ [.string n, .bool b, .int .i64 d, .int .i64 p, .int .i64 k])) (hg : w.grownBy w1 tv.ownBlock) (hB : Below w0.heap.size w0 w1) :
    Blk w1 mb (cellsOf c s sv ev sn tv) 74 ∧ M c w0 wb mb { s with tm := s.tm ++ [(n, b, d, p, k)] } (w1.setCell ⟨mb, 19, none⟩ v1) := by
  have hb1 := blk_grown hb hr.tm (by decide) hg
  have hr1 := hr.grow_tm (tm1 := s.tm ++ [(n, b, d, p, k)]) (by rw [encT_snoc, List.length_append]; exact ho) hg hB
  exact ⟨hb1, sv, ev, sn, v1, by simpa [cellsOf] using hb1.set 19 v1, hr1.put hb1 hm _ _, hm⟩

set_option maxRecDepth 100000 in
set_option maxHeartbeats 1000000 in
theorem out_reply (c : Env) (w0 wb w : World) (mb : Nat) (s : St) (a : Int) (h : M c w0 wb mb s w) (hs : s.stack.length ≤ 16) (hsn : s.sent.length ≤ 1000) :
    Calls Try.prog 36 #[mp mb, .agg #[.int .i64 18, .int .i64 a]] w fun e w' => e = .returned (.tuple #[]) ∧ M c w0 wb mb (sendF c.frm (twoX s) (twoY s) (twoF s)) w' := by
  have HT := Lib.hid (two_any c w0 (w.alloc (.cells #[.int .i64 18, .int .i64 a] 60)) (w.alloc (.cells #[.int .i64 18, .int .i64 a] 60)) mb s (h.alloc _).here hs)
  have HST := Lib.hid (h.alloc (.cells #[.int .i64 18, .int .i64 a] 60)).stay
  have hsn2 : (twoF s).sent.length ≤ 1000 := by unfold twoF; rw [popF_sent, popF_sent]; exact hsn
  obtain ⟨x, hx⟩ : ∃ x, x = twoX s := ⟨_, rfl⟩
  obtain ⟨y, hy⟩ : ∃ y, y = twoY s := ⟨_, rfl⟩
  obtain ⟨s1, hs1⟩ : ∃ s1, s1 = twoF s := ⟨_, rfl⟩
  rw [← hx, ← hy, ← hs1] at HT
  rw [← hx, ← hy, ← hs1]
  rw [← hs1] at hsn2
  obtain ⟨R, hR⟩ : ∃ r, r = sendF c.frm x y s1 := ⟨_, rfl⟩
  rw [← hR]
  clear h hx hy hs1 hsn
  go_enter Try.func36, Try.ntmps36
  go_wp2_with fail
  refine HT.out.mono ?_
  rintro e w1 ⟨rfl, h1⟩
  have hbk := h1.stay.blk (Blk.new w _ 60) (by decide)
  have q0 := hbk.cell 0
  have q1 := hbk.cell 1
  simp at q0 q1
  have H1 := Lib.hid (h1.rebase HST.out)
  obtain ⟨sv, ev, sn, tv, hb, hr, hm⟩ := H1.out
  have c2 := hb.cell 2
  simp [cellsOf] at c2
  clear h1 hbk HT HST hb hr
  by_cases hto : c.frm = ⟨#[]⟩
  · obtain rfl : R = s1 := by rw [hR]; simp [sendF, hto]
    rw [hto] at c2
    clear hR
    go_wp2_with fail
    refine bodyPost_ret (results_none rfl _ _ _) rfl ?_
    exact ⟨rfl, H1.out⟩
  · have t1 := str_ne hto
    obtain ⟨sv', ev', sn', tv', hb, hr, hm'⟩ := H1.out
    obtain ⟨N, nc, rfl⟩ := own_slice hr.sn
    have c18 := hb.cell 18
    simp [cellsOf] at c18
    clear hb hr
    obtain ⟨r, hrr⟩ : ∃ r, r = refuseF (decide ((4 : Int) ≤ s1.sent.length)) s1 := ⟨_, rfl⟩
    have hrs : r.sent = s1.sent := by rw [hrr, refuseF_sent]
    have hR2 : R = if r.failed = 0 then { r with sent := r.sent ++ [(c.frm, x, y)] } else r := by rw [hR, sendF, if_neg hto, ← hrr, hrs]
    go_wp2_with fail
    refine (refuse_any c w0 wb _ mb s1 _ H1.out).mono ?_
    rw [← hrr]
    rintro e w2 ⟨rfl, h2⟩
    have H2 := Lib.hid h2
    clear h2 hrr hR
    by_cases hf : r.failed = 0
    · rw [if_pos hf] at hR2
      have t2 : decide (r.failed ≠ 0) = false := by simp [hf]
      rw [t2]
      obtain ⟨sv2, ev2, sn2, tv2, hb2, hr2, hm2⟩ := H2.out
      obtain ⟨N2, nc2, rfl⟩ := own_slice hr2.sn
      have d18 := hb2.cell 18
      simp [cellsOf] at d18
      have HB2 := Lib.hid hb2
      have HR2 := Lib.hid hr2
      have hl2 : r.sent.length ≤ 1000 := by rw [hrs]; exact hsn2
      clear hb2 hr2 c18 t2 hrs
      go_wp2_with (at_builtin; refine print_append_cells (w0 := w0) w0.heap.size rfl (.tmp 55) (.tmp 60) 34 66 _ 3 32 rfl Try.underlying34 info66 rfl (by omega) (by omega) _ r.sent.length (encS r.sent) [.string c.frm, .int .i64 x, .int .i64 y] rfl rfl rfl (by simp [Value.oneCell']) HR2.out.sn HR2.out.below HR2.out.below.size (by omega) ?_; intro v1 w3 ho hbl hg hat; obtain ⟨V, vn, rfl⟩ := own_slice ho; have HS := Lib.hid (M.send c.frm x y HB2.out HR2.out hm2 ho hg hbl); have f18 := HS.out.1.free 18; have e18 := HS.out.1.cell 18; simp [cellsOf] at e18; clear ho hbl hg hat)
      go_end0
      rw [hR2]
      exact ⟨rfl, HS.out.2⟩
    · rw [if_neg hf] at hR2
      subst hR2
      have t2 : decide (R.failed ≠ 0) = true := by simp [hf]
      rw [t2]
      go_wp2
      refine bodyPost_ret (results_none rfl _ _ _) rfl ?_
      exact ⟨rfl, H2.out⟩

set_option maxRecDepth 100000 in
set_option maxHeartbeats 1000000 in
theorem out_send (c : Env) (w0 wb w : World) (mb : Nat) (s : St) (k : Nat) (h : M c w0 wb mb s w) (hs : s.stack.length ≤ 16) (hsn : s.sent.length ≤ 1000) (hk : k < c.NL.length) (hE : EnvOk c w0) :
    Calls Try.prog 36 #[mp mb, .agg #[.int .i64 17, .int .i64 (k : Int)]] w fun e w' => e = .returned (.tuple #[]) ∧ M c w0 wb mb (sendF (c.NL.getD k ⟨#[]⟩) (twoX s) (twoY s) (twoF s)) w' := by
  have HT := Lib.hid (two_any c w0 (w.alloc (.cells #[.int .i64 17, .int .i64 (k : Int)] 60)) (w.alloc (.cells #[.int .i64 17, .int .i64 (k : Int)] 60)) mb s (h.alloc _).here hs)
  have HST := Lib.hid (h.alloc (.cells #[.int .i64 17, .int .i64 (k : Int)] 60)).stay
  have hsn2 : (twoF s).sent.length ≤ 1000 := by unfold twoF; rw [popF_sent, popF_sent]; exact hsn
  obtain ⟨x, hx⟩ : ∃ x, x = twoX s := ⟨_, rfl⟩
  obtain ⟨y, hy⟩ : ∃ y, y = twoY s := ⟨_, rfl⟩
  obtain ⟨s1, hs1⟩ : ∃ s1, s1 = twoF s := ⟨_, rfl⟩
  rw [← hx, ← hy, ← hs1] at HT
  rw [← hx, ← hy, ← hs1]
  rw [← hs1] at hsn2
  have HE := Lib.hid hE
  have k0 : (0 : Int) ≤ (k : Int) := by omega
  have k1 : (k : Int) < (c.NL.length : Int) := by omega
  obtain ⟨D, hD⟩ : ∃ D, D = c.NL.getD k ⟨#[]⟩ := ⟨_, rfl⟩
  rw [← hD]
  have HD := Lib.hid hD
  clear hE hD
  obtain ⟨R, hR⟩ : ∃ r, r = sendF D x y s1 := ⟨_, rfl⟩
  rw [← hR]
  clear h hx hy hs1 hsn
  go_enter Try.func36, Try.ntmps36
  go_wp2_with fail
  refine HT.out.mono ?_
  rintro e w1 ⟨rfl, h1⟩
  have hbk := h1.stay.blk (Blk.new w _ 60) (by decide)
  have q0 := hbk.cell 0
  have q1 := hbk.cell 1
  simp at q0 q1
  have H1 := Lib.hid (h1.rebase HST.out)
  obtain ⟨sv, ev, sn, tv, hb, hr, hm⟩ := H1.out
  have c2 := hb.cell 2
  obtain ⟨nb, no, hnA, hnc⟩ := (HE.out.below h1.below).name hk
  rw [← HD.out] at hnc
  have c0 := hb.cell 0
  simp [cellsOf] at c0
  rw [hnA] at c0
  simp [cellsOf] at c2
  clear h1 hbk HT HST hb hr
  by_cases hto : D = ⟨#[]⟩
  · obtain rfl : R = s1 := by rw [hR]; simp [sendF, hto]
    rw [hto] at hnc
    clear hR
    go_wp2_with fail
    go_quiet (fail)
    go_wp2
    refine bodyPost_ret (results_none rfl _ _ _) rfl ?_
    exact ⟨rfl, H1.out.drewN _⟩
  · have t1 := str_ne hto
    obtain ⟨sv', ev', sn', tv', hb, hr, hm'⟩ := H1.out
    obtain ⟨N, nc, rfl⟩ := own_slice hr.sn
    have c18 := hb.cell 18
    simp [cellsOf] at c18
    clear hb hr
    obtain ⟨r, hrr⟩ : ∃ r, r = refuseF (decide ((4 : Int) ≤ s1.sent.length)) s1 := ⟨_, rfl⟩
    have hrs : r.sent = s1.sent := by rw [hrr, refuseF_sent]
    have hR2 : R = if r.failed = 0 then { r with sent := r.sent ++ [(D, x, y)] } else r := by rw [hR, sendF, if_neg hto, ← hrr, hrs]
    go_wp2_with fail
    go_quiet (fail)
    go_wp2_with fail
    refine (refuse_any c w0 wb _ mb s1 _ (H1.out.drewN _)).mono ?_
    rw [← hrr]
    rintro e w2 ⟨rfl, h2⟩
    have H2 := Lib.hid h2
    clear h2 hrr hR
    by_cases hf : r.failed = 0
    · rw [if_pos hf] at hR2
      have t2 : decide (r.failed ≠ 0) = false := by simp [hf]
      rw [t2]
      obtain ⟨sv2, ev2, sn2, tv2, hb2, hr2, hm2⟩ := H2.out
      obtain ⟨N2, nc2, rfl⟩ := own_slice hr2.sn
      have d18 := hb2.cell 18
      simp [cellsOf] at d18
      have HB2 := Lib.hid hb2
      have HR2 := Lib.hid hr2
      have hl2 : r.sent.length ≤ 1000 := by rw [hrs]; exact hsn2
      clear hb2 hr2 c18 t2 hrs
      go_wp2_with (at_builtin; refine print_append_cells (w0 := w0) w0.heap.size rfl (.tmp 55) (.tmp 60) 34 66 _ 3 32 rfl Try.underlying34 info66 rfl (by omega) (by omega) _ r.sent.length (encS r.sent) [.string D, .int .i64 x, .int .i64 y] rfl rfl rfl (by simp [Value.oneCell']) HR2.out.sn HR2.out.below HR2.out.below.size (by omega) ?_; intro v1 w3 ho hbl hg hat; obtain ⟨V, vn, rfl⟩ := own_slice ho; have HS := Lib.hid (M.send D x y HB2.out HR2.out hm2 ho hg hbl); have f18 := HS.out.1.free 18; have e18 := HS.out.1.cell 18; simp [cellsOf] at e18; clear ho hbl hg hat)
      go_end0
      rw [hR2]
      exact ⟨rfl, HS.out.2⟩
    · rw [if_neg hf] at hR2
      subst hR2
      have t2 : decide (R.failed ≠ 0) = true := by simp [hf]
      rw [t2]
      go_wp2
      refine bodyPost_ret (results_none rfl _ _ _) rfl ?_
      exact ⟨rfl, H2.out⟩
end Go.Proofs.Ytmmbigfeojfedaa

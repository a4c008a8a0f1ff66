/- IpOut, IpForm0, IpForm1 -/
import Derived.Test.YtlcdjgpblpodaaaGreatDoorMAZ
import Derived.Deep.WholeRow
namespace Go.Proofs.YtlcdjgpblpodaaaGreatDoor.Ip
open Go.RowKit Go.Proofs.YtlcdjgpblpodaaaGreatDoorW.PrintWords

def sendF (dst : ByteArray) (k x : Int) (s : St) : St :=
  if dst = ⟨#[]⟩ then s else
  if (refuseF (decide ((4 : Int) ≤ s.sent.length)) s).failed = 0 then { refuseF (decide ((4 : Int) ≤ s.sent.length)) s with sent := s.sent ++ [(dst, k, x)] } else refuseF (decide ((4 : Int) ≤ s.sent.length)) s

theorem refuseF_sent (b : Bool) (s : St) : (refuseF b s).sent = s.sent := by unfold refuseF; split <;> rfl
theorem refuseF_tm (b : Bool) (s : St) : (refuseF b s).tm = s.tm := by unfold refuseF; split <;> rfl
theorem popF_sent (s : St) : (popF s).sent = s.sent := by unfold popF; split; · split <;> rfl
                                                          · rfl
theorem popF_tm (s : St) : (popF s).tm = s.tm := by unfold popF; split; · split <;> rfl
                                                    · rfl
theorem popF_ev (s : St) : (popF s).ev = s.ev := by unfold popF; split; · split <;> rfl
                                                    · rfl

theorem str_ne {s : ByteArray} (h : ¬ s = ⟨#[]⟩) : s.toList.isEmpty = false := by
  rw [ByteArray.toList_eq]
  obtain ⟨⟨x⟩⟩ := s
  cases x with
  | nil => exact absurd rfl h
  | cons a l => rfl

/-- What an environment's texts and numbers are, in memory. -/
def EnvOk (c : Env) (w : World) : Prop := ReadsOf Value.string (⟨#[]⟩ : ByteArray) w c.nA c.NL.length c.NL ∧ ReadsOf (Value.int .i64) (0 : Int) w c.aA c.AL.length c.AL
theorem EnvOk.below {c : Env} {w w' : World} (h : EnvOk c w) (hb : Below w.heap.size w w') : EnvOk c w' := ⟨h.1.below hb, h.2.below hb⟩
theorem EnvOk.name {c : Env} {w : World} (h : EnvOk c w) {k : Nat} (hk : k < c.NL.length) : ∃ b off, c.nA = some ⟨b, off, none⟩ ∧ w.cell? ⟨b, off + k, none⟩ = some (.string (c.NL.getD k ⟨#[]⟩)) := by
  obtain ⟨⟨b, off, sp⟩, ha, hc⟩ := h.1.2.2 (by omega)
  obtain rfl : sp = none := by
    have := hc 0 (by omega)
    simpa [Addr.add] using World.cell?_spot this
  have := hc k hk
  rw [Go.WideShapes.add_plain] at this
  exact ⟨b, off, ha, this⟩
theorem EnvOk.arg {c : Env} {w : World} (h : EnvOk c w) {k : Nat} (hk : k < c.AL.length) : ∃ b off, c.aA = some ⟨b, off, none⟩ ∧ w.cell? ⟨b, off + k, none⟩ = some (.int .i64 (c.AL.getD k 0)) := by
  obtain ⟨⟨b, off, sp⟩, ha, hc⟩ := h.2.2.2 (by omega)
  obtain rfl : sp = none := by
    have := hc 0 (by omega)
    simpa [Addr.add] using World.cell?_spot this
  have := hc k hk
  rw [Go.WideShapes.add_plain] at this
  exact ⟨b, off, ha, this⟩

/-- The letter that the machine would send, in memory. -/
theorem M.send {c : Env} {w0 wb w w1 : World} {mb : Nat} {s : St} {sv ev sn tv v1 : Value} (dst : ByteArray) (k x : Int) (hb : Blk w mb (cellsOf c s sv ev sn tv) 327) (hr : Rws w0 wb w s.stack s.ev s.sent s.tm sv ev sn tv) (hm : w0.heap.size ≤ mb)
    (ho : w1.ownsRow w0.heap.size 244 3 v1 (s.sent.length + 1) (encS s.sent ++ [.string dst, .int .i64 k, .int .i64 x])) (hg : w.grownBy w1 sn.ownBlock) (hB : Below w0.heap.size w0 w1) :
    Blk w1 mb (cellsOf c s sv ev sn tv) 327 ∧ M c w0 wb mb { s with sent := s.sent ++ [(dst, k, x)] } (w1.setCell ⟨mb, 18, none⟩ v1) := by
  have hb1 := blk_grown hb hr.sn (by decide) hg
  have hr1 := hr.grow_sn (sn1 := s.sent ++ [(dst, k, x)]) (by rw [encS_snoc, List.length_append]; exact ho) hg hB
  exact ⟨hb1, sv, ev, v1, tv, by simpa [cellsOf] using hb1.set 18 v1, hr1.put hb1 hm _ _, hm⟩
theorem M.remind {c : Env} {w0 wb w w1 : World} {mb : Nat} {s : St} {sv ev sn tv v1 : Value} (n : ByteArray) (b : Bool) (d p k : Int) (hb : Blk w mb (cellsOf c s sv ev sn tv) 327) (hr : Rws w0 wb w s.stack s.ev s.sent s.tm sv ev sn tv) (hm : w0.heap.size ≤ mb)
    (ho : w1.ownsRow w0.heap.size 125 5 v1 (s.tm.length + 1) (encT s.tm ++ [.string n, .bool b, .int .i64 d, .int .i64 p, .int .i64 k])) (hg : w.grownBy w1 tv.ownBlock) (hB : Below w0.heap.size w0 w1) :
    Blk w1 mb (cellsOf c s sv ev sn tv) 327 ∧ M c w0 wb mb { s with tm := s.tm ++ [(n, b, d, p, k)] } (w1.setCell ⟨mb, 19, none⟩ v1) := by
  have hb1 := blk_grown hb hr.tm (by decide) hg
  have hr1 := hr.grow_tm (tm1 := s.tm ++ [(n, b, d, p, k)]) (by rw [encT_snoc, List.length_append]; exact ho) hg hB
  exact ⟨hb1, sv, ev, sn, v1, by simpa [cellsOf] using hb1.set 19 v1, hr1.put hb1 hm _ _, hm⟩

set_option maxRecDepth 100000 in
set_option maxHeartbeats 1000000 in
theorem out_reply (c : Env) (w0 wb w : World) (mb : Nat) (s : St) (a : Int) (h : M c w0 wb mb s w) (hs : s.stack.length ≤ 16) (hsn : s.sent.length ≤ 1000) :
    Calls Tryz.prog 232 #[mp mb, .agg #[.int .i64 18, .int .i64 a]] w fun e w' => e = .returned (.tuple #[]) ∧ M c w0 wb mb (sendF c.frm (twoX s) (twoY s) (twoF s)) w' := by
  have HT := Lib.hid (two_any c w0 (w.alloc (.cells #[.int .i64 18, .int .i64 a] 51)) (w.alloc (.cells #[.int .i64 18, .int .i64 a] 51)) mb s (h.alloc _).here hs)
  have HST := Lib.hid (h.alloc (.cells #[.int .i64 18, .int .i64 a] 51)).stay
  have hsn2 : (twoF s).sent.length ≤ 1000 := by unfold twoF; rw [popF_sent, popF_sent]; exact hsn
  obtain ⟨x, hx⟩ : ∃ x, x = twoX s := ⟨_, rfl⟩
  obtain ⟨y, hy⟩ : ∃ y, y = twoY s := ⟨_, rfl⟩
  obtain ⟨s1, hs1⟩ : ∃ s1, s1 = twoF s := ⟨_, rfl⟩
  rw [← hx, ← hy, ← hs1] at HT
  rw [← hx, ← hy, ← hs1]
  rw [← hs1] at hsn2
  obtain ⟨R, hR⟩ : ∃ r, r = sendF c.frm x y s1 := ⟨_, rfl⟩
  rw [← hR]
  clear h hx hy hs1 hsn
  go_enter Tryz.func232, Tryz.ntmps232
  go_wp2_with fail
  refine HT.out.mono ?_
  rintro e w1 ⟨rfl, h1⟩
  have hbk := h1.stay.blk (Blk.new w _ 51) (by decide)
  have q0 := hbk.cell 0
  have q1 := hbk.cell 1
  simp at q0 q1
  have H1 := Lib.hid (h1.rebase HST.out)
  obtain ⟨sv, ev, sn, tv, hb, hr, hm⟩ := H1.out
  have c2 := hb.cell 2
  simp [cellsOf] at c2
  clear h1 hbk HT HST hb hr
  by_cases hto : c.frm = ⟨#[]⟩
  · obtain rfl : R = s1 := by rw [hR]; simp [sendF, hto]
    rw [hto] at c2
    clear hR
    go_wp2_with fail
    refine bodyPost_ret (results_none rfl _ _ _) rfl ?_
    exact ⟨rfl, H1.out⟩
  · have t1 := str_ne hto
    obtain ⟨sv', ev', sn', tv', hb, hr, hm'⟩ := H1.out
    obtain ⟨N, nc, rfl⟩ := own_slice hr.sn
    have c18 := hb.cell 18
    simp [cellsOf] at c18
    clear hb hr
    obtain ⟨r, hrr⟩ : ∃ r, r = refuseF (decide ((4 : Int) ≤ s1.sent.length)) s1 := ⟨_, rfl⟩
    have hrs : r.sent = s1.sent := by rw [hrr, refuseF_sent]
    have hR2 : R = if r.failed = 0 then { r with sent := r.sent ++ [(c.frm, x, y)] } else r := by rw [hR, sendF, if_neg hto, ← hrr, hrs]
    go_wp2_with fail
    refine (refuse_any c w0 wb _ mb s1 _ H1.out).mono ?_
    rw [← hrr]
    rintro e w2 ⟨rfl, h2⟩
    have H2 := Lib.hid h2
    clear h2 hrr hR
    by_cases hf : r.failed = 0
    · rw [if_pos hf] at hR2
      have t2 : decide (r.failed ≠ 0) = false := by simp [hf]
      rw [t2]
      obtain ⟨sv2, ev2, sn2, tv2, hb2, hr2, hm2⟩ := H2.out
      obtain ⟨N2, nc2, rfl⟩ := own_slice hr2.sn
      have d18 := hb2.cell 18
      simp [cellsOf] at d18
      have HB2 := Lib.hid hb2
      have HR2 := Lib.hid hr2
      have hl2 : r.sent.length ≤ 1000 := by rw [hrs]; exact hsn2
      clear hb2 hr2 c18 t2 hrs
      go_wp2_with (at_builtin; refine print_append_cells (w0 := w0) w0.heap.size rfl (.tmp 55) (.tmp 60) 237 244 _ 3 32 rfl Tryz.underlying237 info66 rfl (by omega) (by omega) _ r.sent.length (encS r.sent) [.string c.frm, .int .i64 x, .int .i64 y] rfl rfl rfl (by simp [Value.oneCell']) HR2.out.sn HR2.out.below HR2.out.below.size (by omega) ?_; intro v1 w3 ho hbl hg hat; obtain ⟨V, vn, rfl⟩ := own_slice ho; have HS := Lib.hid (M.send c.frm x y HB2.out HR2.out hm2 ho hg hbl); have f18 := HS.out.1.free 18; have e18 := HS.out.1.cell 18; simp [cellsOf] at e18; clear ho hbl hg hat)
      go_end0
      rw [hR2]
      exact ⟨rfl, HS.out.2⟩
    · rw [if_neg hf] at hR2
      subst hR2
      have t2 : decide (R.failed ≠ 0) = true := by simp [hf]
      rw [t2]
      go_wp2
      refine bodyPost_ret (results_none rfl _ _ _) rfl ?_
      exact ⟨rfl, H2.out⟩

set_option maxRecDepth 100000 in
set_option maxHeartbeats 1000000 in
theorem out_send (c : Env) (w0 wb w : World) (mb : Nat) (s : St) (k : Nat) (h : M c w0 wb mb s w) (hs : s.stack.length ≤ 16) (hsn : s.sent.length ≤ 1000) (hk : k < c.NL.length) (hE : EnvOk c w0) :
    Calls Tryz.prog 232 #[mp mb, .agg #[.int .i64 17, .int .i64 (k : Int)]] w fun e w' => e = .returned (.tuple #[]) ∧ M c w0 wb mb (sendF (c.NL.getD k ⟨#[]⟩) (twoX s) (twoY s) (twoF s)) w' := by
  have HT := Lib.hid (two_any c w0 (w.alloc (.cells #[.int .i64 17, .int .i64 (k : Int)] 51)) (w.alloc (.cells #[.int .i64 17, .int .i64 (k : Int)] 51)) mb s (h.alloc _).here hs)
  have HST := Lib.hid (h.alloc (.cells #[.int .i64 17, .int .i64 (k : Int)] 51)).stay
  have hsn2 : (twoF s).sent.length ≤ 1000 := by unfold twoF; rw [popF_sent, popF_sent]; exact hsn
  obtain ⟨x, hx⟩ : ∃ x, x = twoX s := ⟨_, rfl⟩
  obtain ⟨y, hy⟩ : ∃ y, y = twoY s := ⟨_, rfl⟩
  obtain ⟨s1, hs1⟩ : ∃ s1, s1 = twoF s := ⟨_, rfl⟩
  rw [← hx, ← hy, ← hs1] at HT
  rw [← hx, ← hy, ← hs1]
  rw [← hs1] at hsn2
  have HE := Lib.hid hE
  have k0 : (0 : Int) ≤ (k : Int) := by omega
  have k1 : (k : Int) < (c.NL.length : Int) := by omega
  obtain ⟨D, hD⟩ : ∃ D, D = c.NL.getD k ⟨#[]⟩ := ⟨_, rfl⟩
  rw [← hD]
  have HD := Lib.hid hD
  clear hE hD
  obtain ⟨R, hR⟩ : ∃ r, r = sendF D x y s1 := ⟨_, rfl⟩
  rw [← hR]
  clear h hx hy hs1 hsn
  go_enter Tryz.func232, Tryz.ntmps232
  go_wp2_with fail
  refine HT.out.mono ?_
  rintro e w1 ⟨rfl, h1⟩
  have hbk := h1.stay.blk (Blk.new w _ 51) (by decide)
  have q0 := hbk.cell 0
  have q1 := hbk.cell 1
  simp at q0 q1
  have H1 := Lib.hid (h1.rebase HST.out)
  obtain ⟨sv, ev, sn, tv, hb, hr, hm⟩ := H1.out
  have c2 := hb.cell 2
  obtain ⟨nb, no, hnA, hnc⟩ := (HE.out.below h1.below).name hk
  rw [← HD.out] at hnc
  have c0 := hb.cell 0
  simp [cellsOf] at c0
  rw [hnA] at c0
  simp [cellsOf] at c2
  clear h1 hbk HT HST hb hr
  by_cases hto : D = ⟨#[]⟩
  · obtain rfl : R = s1 := by rw [hR]; simp [sendF, hto]
    rw [hto] at hnc
    clear hR
    go_wp2_with fail
    go_quiet (fail)
    go_wp2
    refine bodyPost_ret (results_none rfl _ _ _) rfl ?_
    exact ⟨rfl, H1.out.drewN _⟩
  · have t1 := str_ne hto
    obtain ⟨sv', ev', sn', tv', hb, hr, hm'⟩ := H1.out
    obtain ⟨N, nc, rfl⟩ := own_slice hr.sn
    have c18 := hb.cell 18
    simp [cellsOf] at c18
    clear hb hr
    obtain ⟨r, hrr⟩ : ∃ r, r = refuseF (decide ((4 : Int) ≤ s1.sent.length)) s1 := ⟨_, rfl⟩
    have hrs : r.sent = s1.sent := by rw [hrr, refuseF_sent]
    have hR2 : R = if r.failed = 0 then { r with sent := r.sent ++ [(D, x, y)] } else r := by rw [hR, sendF, if_neg hto, ← hrr, hrs]
    go_wp2_with fail
    go_quiet (fail)
    go_wp2_with fail
    refine (refuse_any c w0 wb _ mb s1 _ (H1.out.drewN _)).mono ?_
    rw [← hrr]
    rintro e w2 ⟨rfl, h2⟩
    have H2 := Lib.hid h2
    clear h2 hrr hR
    by_cases hf : r.failed = 0
    · rw [if_pos hf] at hR2
      have t2 : decide (r.failed ≠ 0) = false := by simp [hf]
      rw [t2]
      obtain ⟨sv2, ev2, sn2, tv2, hb2, hr2, hm2⟩ := H2.out
      obtain ⟨N2, nc2, rfl⟩ := own_slice hr2.sn
      have d18 := hb2.cell 18
      simp [cellsOf] at d18
      have HB2 := Lib.hid hb2
      have HR2 := Lib.hid hr2
      have hl2 : r.sent.length ≤ 1000 := by rw [hrs]; exact hsn2
      clear hb2 hr2 c18 t2 hrs
      go_wp2_with (at_builtin; refine print_append_cells (w0 := w0) w0.heap.size rfl (.tmp 55) (.tmp 60) 237 244 _ 3 32 rfl Tryz.underlying237 info66 rfl (by omega) (by omega) _ r.sent.length (encS r.sent) [.string D, .int .i64 x, .int .i64 y] rfl rfl rfl (by simp [Value.oneCell']) HR2.out.sn HR2.out.below HR2.out.below.size (by omega) ?_; intro v1 w3 ho hbl hg hat; obtain ⟨V, vn, rfl⟩ := own_slice ho; have HS := Lib.hid (M.send D x y HB2.out HR2.out hm2 ho hg hbl); have f18 := HS.out.1.free 18; have e18 := HS.out.1.cell 18; simp [cellsOf] at e18; clear ho hbl hg hat)
      go_end0
      rw [hR2]
      exact ⟨rfl, HS.out.2⟩
    · rw [if_neg hf] at hR2
      subst hR2
      have t2 : decide (R.failed ≠ 0) = true := by simp [hf]
      rw [t2]
      go_wp2
      refine bodyPost_ret (results_none rfl _ _ _) rfl ?_
      exact ⟨rfl, H2.out⟩
end Go.Proofs.YtlcdjgpblpodaaaGreatDoor.Ip
namespace Go.Proofs.YtlcdjgpblpodaaaGreatDoor.Ip
open Go.RowKit Go.Proofs.YtlcdjgpblpodaaaGreatDoorW.PrintWords

def keyB (s : ByteArray) : Bool := decide (1 ≤ s.size ∧ s.size ≤ 40)
theorem size_zero {s : ByteArray} : s = ⟨#[]⟩ ↔ s.size = 0 := by
  obtain ⟨⟨x⟩⟩ := s
  cases x with
  | nil => exact ⟨fun _ => rfl, fun _ => rfl⟩
  | cons a l => exact ⟨(fun h => by cases h), (fun h => by simp [ByteArray.size] at h)⟩

set_option maxRecDepth 100000 in
theorem key_any (s : ByteArray) (w : World) : Calls Tryz.prog 37 #[.string s] w fun e w' => e = .returned (.bool (keyB s)) ∧ w' = w := by
  by_cases h0 : s = ⟨#[]⟩
  · subst h0
    go_enter Tryz.func37, Tryz.ntmps37
    go_wp2
    go_ret
    exact ⟨rfl, rfl⟩
  · have t1 := str_ne h0
    have h1 : 1 ≤ s.size := by
      have := mt size_zero.2 h0
      omega
    have hk : keyB s = decide ((s.size : Int) ≤ 40) := by
      unfold keyB
      by_cases h : s.size ≤ 40
      · rw [decide_eq_true ⟨h1, h⟩, decide_eq_true (by omega)]
      · rw [decide_eq_false (fun x => h x.2), decide_eq_false (by omega)]
    rw [hk]
    have HT := Lib.hid hk
    clear hk
    go_enter Tryz.func37, Tryz.ntmps37
    go_wp2
    go_ret
    exact ⟨rfl, rfl⟩

def letterB (f : ByteArray) (n : Nat) : Bool := decide (f.size ≤ 40 ∧ n ≤ 4)
set_option maxRecDepth 100000 in
theorem letter_any (f : ByteArray) (sr kd : Int) (A : Option Addr) (n m : Nat) (w : World) :
    Calls Tryz.prog 38 #[.agg #[.string f, .int .u64 sr, .int .i64 kd, .slice A n m]] w fun e w' => e = .returned (.bool (letterB f n)) ∧ w' = w.alloc (.cells #[.string f, .int .u64 sr, .int .i64 kd, .slice A n m] 65) := by
  by_cases h0 : f.size ≤ 40
  · have t0 : decide ((f.size : Int) ≤ 40) = true := decide_eq_true (by omega)
    have hk : letterB f n = decide ((n : Int) ≤ 4) := by
      unfold letterB
      by_cases h : n ≤ 4
      · rw [decide_eq_true ⟨h0, h⟩, decide_eq_true (by omega)]
      · rw [decide_eq_false (fun x => h x.2), decide_eq_false (by omega)]
    rw [hk]
    clear hk
    go_enter Tryz.func38, Tryz.ntmps38
    go_wp2
    go_ret
    exact ⟨rfl, rfl⟩
  · have t0 : decide ((f.size : Int) ≤ 40) = false := decide_eq_false (by omega)
    have hk : letterB f n = false := decide_eq_false (fun x => h0 x.1)
    rw [hk]
    clear hk
    go_enter Tryz.func38, Tryz.ntmps38
    go_wp2
    go_ret
    exact ⟨rfl, rfl⟩

def belowV (nl cl : Nat) (kind : Int) : Int := if kind = 2 then 8 else if kind = 3 then 4 else if kind = 4 then cl + 1 else if kind = 5 then nl else 1
set_option maxRecDepth 100000 in
theorem below_any (nA kA : Option Addr) (nl cl nC kC : Nat) (kind : Int) (hk : kind = 0 ∨ kind = 1 ∨ kind = 2 ∨ kind = 3 ∨ kind = 4 ∨ kind = 5) (hcl : cl ≤ 1000) (w : World) :
    Calls Tryz.prog 147 #[.agg #[.slice nA nl nC, .slice kA cl kC], .int .i64 kind] w fun e w' => e = .returned (.int .i64 (belowV nl cl kind)) ∧ w' = w.alloc (.cells #[.slice nA nl nC, .slice kA cl kC] 54) := by
  rcases hk with rfl | rfl | rfl | rfl | rfl | rfl
  · go_enter Tryz.func147, Tryz.ntmps147
    go_wp2
    go_ret
    exact ⟨rfl, rfl⟩
  · go_enter Tryz.func147, Tryz.ntmps147
    go_wp2
    go_ret
    exact ⟨rfl, rfl⟩
  · go_enter Tryz.func147, Tryz.ntmps147
    go_wp2
    go_ret
    exact ⟨rfl, rfl⟩
  · go_enter Tryz.func147, Tryz.ntmps147
    go_wp2
    go_ret
    exact ⟨rfl, rfl⟩
  · go_enter Tryz.func147, Tryz.ntmps147
    go_wp2
    go_ret
    exact ⟨rfl, rfl⟩
  · go_enter Tryz.func147, Tryz.ntmps147
    go_wp2
    go_ret
    exact ⟨rfl, rfl⟩

/-- What an operation's integer may be: 0 nothing, 1 any, 2 a register, 3 an argument, 4 a place, 5 a name. -/
def kindOf (op : Nat) : Int := [0, 1, 2, 2, 3, 0, 0, 0, 0, 0, 0, 0, 0, 0, 0, 4, 4, 5, 0, 5, 5, 0, 0, 0].getD op 0
end Go.Proofs.YtlcdjgpblpodaaaGreatDoor.Ip
namespace Go.Proofs.YtlcdjgpblpodaaaGreatDoor.Ip
open Go.RowKit Go.Proofs.YtlcdjgpblpodaaaGreatDoorW.PrintWords

def tabL : List Value := [.string { data := #[104, 97, 108, 116] }, .int .i64 0, .string { data := #[112, 117, 115, 104] }, .int .i64 1, .string { data := #[108, 111, 97, 100] }, .int .i64 2, .string { data := #[115, 116, 111, 114, 101] }, .int .i64 2, .string { data := #[97, 114, 103] }, .int .i64 3, .string { data := #[107, 105, 110, 100] }, .int .i64 0, .string { data := #[97, 100, 100] }, .int .i64 0, .string { data := #[115, 117, 98] }, .int .i64 0, .string { data := #[109, 117, 108] }, .int .i64 0, .string { data := #[108, 101, 115, 115] }, .int .i64 0, .string { data := #[101, 113, 117, 97, 108] }, .int .i64 0, .string { data := #[110, 111, 116] }, .int .i64 0, .string { data := #[100, 117, 112] }, .int .i64 0, .string { data := #[100, 114, 111, 112] }, .int .i64 0, .string { data := #[115, 119, 97, 112] }, .int .i64 0, .string { data := #[106, 117, 109, 112] }, .int .i64 4, .string { data := #[106, 117, 109, 112, 122] }, .int .i64 4, .string { data := #[115, 101, 110, 100] }, .int .i64 5, .string { data := #[114, 101, 112, 108, 121] }, .int .i64 0, .string { data := #[114, 101, 109, 105, 110, 100] }, .int .i64 5, .string { data := #[99, 97, 110, 99, 101, 108] }, .int .i64 5, .string { data := #[102, 97, 105, 108] }, .int .i64 0, .string { data := #[110, 111, 119] }, .int .i64 0, .string { data := #[115, 101, 114, 105, 97, 108] }, .int .i64 0]
def zerL : List Value := [.string { data := #[] }, .int .i64 0, .string { data := #[] }, .int .i64 0, .string { data := #[] }, .int .i64 0, .string { data := #[] }, .int .i64 0, .string { data := #[] }, .int .i64 0, .string { data := #[] }, .int .i64 0, .string { data := #[] }, .int .i64 0, .string { data := #[] }, .int .i64 0, .string { data := #[] }, .int .i64 0, .string { data := #[] }, .int .i64 0, .string { data := #[] }, .int .i64 0, .string { data := #[] }, .int .i64 0, .string { data := #[] }, .int .i64 0, .string { data := #[] }, .int .i64 0, .string { data := #[] }, .int .i64 0, .string { data := #[] }, .int .i64 0, .string { data := #[] }, .int .i64 0, .string { data := #[] }, .int .i64 0, .string { data := #[] }, .int .i64 0, .string { data := #[] }, .int .i64 0, .string { data := #[] }, .int .i64 0, .string { data := #[] }, .int .i64 0, .string { data := #[] }, .int .i64 0, .string { data := #[] }, .int .i64 0]
theorem tab_at : ∀ k : Nat, k < 24 → ∃ s : ByteArray, tabL[k * 2]? = some (.string s) ∧ tabL[k * 2 + 1]? = some (.int .i64 (kindOf k))
  | 0, _ | 1, _ | 2, _ | 3, _ | 4, _ | 5, _ | 6, _ | 7, _ | 8, _ | 9, _ | 10, _ | 11, _ => ⟨_, rfl, rfl⟩
  | 12, _ | 13, _ | 14, _ | 15, _ | 16, _ | 17, _ | 18, _ | 19, _ | 20, _ | 21, _ | 22, _ | 23, _ => ⟨_, rfl, rfl⟩
  | _ + 24, h => absurd h (by omega)

/-- What the operation's kind is, and whether there is such an operation. -/
def OpPost (op : Int) (w : World) (e : Ending) (w' : World) : Prop :=
  Below w.heap.size w w' ∧ ∃ s : ByteArray, e = .returned (.tuple #[.string s, .int .i64 (if 0 ≤ op ∧ op < 24 then kindOf op.toNat else 0), .bool (decide (0 ≤ op ∧ op < 24))])

theorem info107 : (Tryz.prog.info? 365).map (·.size) = some 48 := by kernel_rfl
theorem tab_one : tabL.toArray.all (·.oneCell') = true := by kernel_rfl
theorem wpList_store_new {P : Program} {ops : Array Oper} {rest : List Oper} {op : Oper} {a : Act} {w : World} {Q : Exit → Act → World → Prop} (hgd : op.guard = none) (ty : TypeId) (x y : Operand) (ho : op.op = .store ty x y)
    (c c' : Array Value) (hx : a.eval x = .pointer (some ⟨w.heap.size, 0, none⟩)) (hy : a.eval y = .agg c') (hi : (P.info? ty).map (·.size) = some c'.size) (hz : c.size = c'.size) (h1 : c'.all (·.oneCell') = true)
    (h : wpList P ops Q rest (a.put op.dst undef) (w.alloc (.cells c' ty))) : wpList P ops Q (op :: rest) a (w.alloc (.cells c ty)) :=
  wpList_plain hgd fun K hK => by
    unfold Oper.wp execOp
    simp only [ho, hx, hy, Instr.storeAt, Instr.sureAddr, Sem.run_bind, Sem.run_pure, Result.andThen_ok, run_storeVar_new w ty c c' hi hz h1]
    exact hK _ _ h

set_option maxRecDepth 100000 in
set_option maxHeartbeats 4000000 in
theorem operation_any (op : Int) (w : World) : Calls Tryz.prog 146 #[.int .i64 op] w (OpPost op w) := by
  go_enter Tryz.func146, Tryz.ntmps146
  go_upto_region 1 with fail
  go_cut [5] (fun v wx => v = .pointer (some ⟨w.heap.size, 0, none⟩) ∧ wx = w.alloc (.cells tabL.toArray 365))
  case first =>
    refine wp_region_lit ?_
    refine wpList_plain rfl (fun K hK => ?_)
    go_simp
    refine hK _ _ ?_
    clear hK K
    try simp only [Act.put, List.setIfInBounds_toArray, List.set_cons_zero, List.set_cons_succ]
    refine wpList_plain rfl (fun K hK => ?_)
    go_simp
    refine hK _ _ ?_
    clear hK K
    try simp only [Act.put, List.setIfInBounds_toArray, List.set_cons_zero, List.set_cons_succ]
    refine wpList_plain rfl (fun K hK => ?_)
    go_simp
    refine hK _ _ ?_
    clear hK K
    try simp only [Act.put, List.setIfInBounds_toArray, List.set_cons_zero, List.set_cons_succ]
    refine wpList_plain rfl (fun K hK => ?_)
    go_simp
    refine hK _ _ ?_
    clear hK K
    try simp only [Act.put, List.setIfInBounds_toArray, List.set_cons_zero, List.set_cons_succ]
    refine wpList_plain rfl (fun K hK => ?_)
    go_simp
    refine hK _ _ ?_
    clear hK K
    try simp only [Act.put, List.setIfInBounds_toArray, List.set_cons_zero, List.set_cons_succ]
    refine wpList_plain rfl (fun K hK => ?_)
    go_simp
    refine hK _ _ ?_
    clear hK K
    try simp only [Act.put, List.setIfInBounds_toArray, List.set_cons_zero, List.set_cons_succ]
    refine wpList_plain rfl (fun K hK => ?_)
    go_simp
    refine hK _ _ ?_
    clear hK K
    try simp only [Act.put, List.setIfInBounds_toArray, List.set_cons_zero, List.set_cons_succ]
    refine wpList_plain rfl (fun K hK => ?_)
    go_simp
    refine hK _ _ ?_
    clear hK K
    try simp only [Act.put, List.setIfInBounds_toArray, List.set_cons_zero, List.set_cons_succ]
    refine wpList_plain rfl (fun K hK => ?_)
    go_simp
    refine hK _ _ ?_
    clear hK K
    try simp only [Act.put, List.setIfInBounds_toArray, List.set_cons_zero, List.set_cons_succ]
    refine wpList_plain rfl (fun K hK => ?_)
    go_simp
    refine hK _ _ ?_
    clear hK K
    try simp only [Act.put, List.setIfInBounds_toArray, List.set_cons_zero, List.set_cons_succ]
    refine wpList_plain rfl (fun K hK => ?_)
    go_simp
    refine hK _ _ ?_
    clear hK K
    try simp only [Act.put, List.setIfInBounds_toArray, List.set_cons_zero, List.set_cons_succ]
    refine wpList_plain rfl (fun K hK => ?_)
    go_simp
    refine hK _ _ ?_
    clear hK K
    try simp only [Act.put, List.setIfInBounds_toArray, List.set_cons_zero, List.set_cons_succ]
    refine wpList_plain rfl (fun K hK => ?_)
    go_simp
    refine hK _ _ ?_
    clear hK K
    try simp only [Act.put, List.setIfInBounds_toArray, List.set_cons_zero, List.set_cons_succ]
    refine wpList_plain rfl (fun K hK => ?_)
    go_simp
    refine hK _ _ ?_
    clear hK K
    try simp only [Act.put, List.setIfInBounds_toArray, List.set_cons_zero, List.set_cons_succ]
    refine wpList_plain rfl (fun K hK => ?_)
    go_simp
    refine hK _ _ ?_
    clear hK K
    try simp only [Act.put, List.setIfInBounds_toArray, List.set_cons_zero, List.set_cons_succ]
    refine wpList_plain rfl (fun K hK => ?_)
    go_simp
    refine hK _ _ ?_
    clear hK K
    try simp only [Act.put, List.setIfInBounds_toArray, List.set_cons_zero, List.set_cons_succ]
    refine wpList_plain rfl (fun K hK => ?_)
    go_simp
    refine hK _ _ ?_
    clear hK K
    try simp only [Act.put, List.setIfInBounds_toArray, List.set_cons_zero, List.set_cons_succ]
    refine wpList_plain rfl (fun K hK => ?_)
    go_simp
    refine hK _ _ ?_
    clear hK K
    try simp only [Act.put, List.setIfInBounds_toArray, List.set_cons_zero, List.set_cons_succ]
    refine wpList_plain rfl (fun K hK => ?_)
    go_simp
    refine hK _ _ ?_
    clear hK K
    try simp only [Act.put, List.setIfInBounds_toArray, List.set_cons_zero, List.set_cons_succ]
    refine wpList_plain rfl (fun K hK => ?_)
    go_simp
    refine hK _ _ ?_
    clear hK K
    try simp only [Act.put, List.setIfInBounds_toArray, List.set_cons_zero, List.set_cons_succ]
    refine wpList_plain rfl (fun K hK => ?_)
    go_simp
    refine hK _ _ ?_
    clear hK K
    try simp only [Act.put, List.setIfInBounds_toArray, List.set_cons_zero, List.set_cons_succ]
    refine wpList_plain rfl (fun K hK => ?_)
    go_simp
    refine hK _ _ ?_
    clear hK K
    try simp only [Act.put, List.setIfInBounds_toArray, List.set_cons_zero, List.set_cons_succ]
    refine wpList_plain rfl (fun K hK => ?_)
    go_simp
    refine hK _ _ ?_
    clear hK K
    try simp only [Act.put, List.setIfInBounds_toArray, List.set_cons_zero, List.set_cons_succ]
    refine wpList_plain rfl (fun K hK => ?_)
    go_simp
    refine hK _ _ ?_
    clear hK K
    try simp only [Act.put, List.setIfInBounds_toArray, List.set_cons_zero, List.set_cons_succ]
    refine wpList_plain rfl (fun K hK => ?_)
    go_simp
    refine hK _ _ ?_
    clear hK K
    try simp only [Act.put, List.setIfInBounds_toArray, List.set_cons_zero, List.set_cons_succ]
    refine wpList_plain rfl (fun K hK => ?_)
    go_simp
    refine hK _ _ ?_
    clear hK K
    try simp only [Act.put, List.setIfInBounds_toArray, List.set_cons_zero, List.set_cons_succ]
    refine wpList_store_new rfl 365 (.tmp 5) (.tmp 30) rfl zerL.toArray tabL.toArray rfl rfl (by rw [info107]; rfl) rfl tab_one ?_
    refine wpList_nil ?_
    simp only [Act.put]
    go_wp2
    go_meet
    exact ⟨rfl, rfl⟩
  obtain ⟨rfl, hw⟩ := hcut
  have hbel : Below w.heap.size w wc := hw ▸ (Below.refl _ _).alloc (Nat.le_refl _) _
  have hbk : Blk wc w.heap.size tabL.toArray 365 := hw ▸ Blk.new _ _ _
  obtain ⟨tb, htb⟩ : ∃ tb, tb = w.heap.size := ⟨_, rfl⟩
  rw [← htb] at hbk
  rw [← htb]
  have HBL := Lib.hid hbel
  clear hw hbel htb
  by_cases h0 : op < 0
  · have d0 : decide (op < 0) = true := decide_eq_true h0
    go_wp2
    go_ret3
    exact ⟨HBL.out, ⟨#[]⟩, by rw [if_neg (by omega), decide_eq_false (by omega)]; rfl⟩
  · have d0 : decide (op < 0) = false := decide_eq_false h0
    by_cases h1 : op < 24
    · obtain ⟨k, rfl⟩ : ∃ k : Nat, op = (k : Int) := ⟨op.toNat, by omega⟩
      obtain ⟨s, hs1, hs2⟩ := tab_at k (by omega)
      have p0 := hbk.cell (k * 2)
      have p1 := hbk.cell (k * 2 + 1)
      rw [List.getElem?_toArray, hs1] at p0
      rw [List.getElem?_toArray, hs2] at p1
      obtain ⟨kd, hkd⟩ : ∃ kd, kd = kindOf k := ⟨_, rfl⟩
      rw [← hkd] at p1
      have HK := Lib.hid hkd
      have d1 : decide ((k : Int) ≥ 24) = false := decide_eq_false (by omega)
      have d2 : decide ((24 : Int) ≤ (k : Int)) = false := decide_eq_false (by omega)
      have k0 : (0 : Int) ≤ (k : Int) := by omega
      have k1 : (k : Int) < 24 := h1
      clear hbk hs1 hs2 hkd
      go_wp2
      go_quiet (fail)
      go_wp2
      go_ret3
      exact ⟨below_drewN HBL.out _, s, by rw [if_pos ⟨k0, k1⟩, decide_eq_true ⟨k0, k1⟩, Int.toNat_natCast, ← HK.out]; rfl⟩
    · have d1 : decide (op ≥ 24) = true := decide_eq_true (by omega)
      have d2 : decide ((24 : Int) ≤ op) = true := decide_eq_true (by omega)
      go_wp2
      go_ret3
      exact ⟨HBL.out, ⟨#[]⟩, by rw [if_neg (by omega), decide_eq_false (by omega)]; rfl⟩
end Go.Proofs.YtlcdjgpblpodaaaGreatDoor.Ip

/- The team: the starter's steps; behind the join; the run. -/
import Derived.Test.YteffdcpepjjkbaaTeamD
namespace Go.Proofs.Yteffdcpepjjkbaa.Team
open Go.Conc Go.ConcN
open Go.ConcR (KK wgBlock WgAt stA smA rd wr mk Payload DC0 Bk g_of_ofEvents again_blocked ofEvent_loc_mark ofEvent_cell ofEvent_mk loc_of_ofEvent bk_of_mute deafBehind_cons deafBehind_one)
variable [Payload]

section
variable {T : Cfg} {AnchW : Goroutine → World → Prop} {Post : Value → World → Prop} {gs : Array Goroutine} {w w' : World} {sl : Option (Nat × Nat)} {j : Nat} {D : Nat → WD} {E : Nat → Option (List Nat)} {tag tag' : CTag} {f0 f' d0 : Nat} {a a' : Goroutine} {t : Trace} {st sm st' sm' : Int} {es : Array Event}

/-- An idle step of the starter's. -/
theorem idleC (G : T.Geo) (ha : gs[0]? = some a) (hcom : Com T j gs w t D E d0) (hwg : WgAt T.ty T.Wg w st sm) (hmode : ConcN.Mode j D tag st sm)
    (hgo : stepG T.P true a w = .go a' w' es) (hD : DS T j w w' es) (hcs' : SSit T AnchW Post tag j f' d0 a' w') (hf : f' < f0) :
    ∃ m₁ ops μ', runT T.P (crowd gs w sl) 0 = (.next m₁, ops) ∧ Lt2 μ' (phi T.n (Vc j D) tag + Ssum j D + Rk T j E, f0 + 2 * Fsum j D) ∧ Inv T AnchW Post μ' m₁ (t ++ ops) := by
  obtain ⟨hlow, hev⟩ := hD
  have h0 := G.mono 0 j (Nat.zero_le _)
  have h1 := G.hW
  have h2 := G.hC
  have hdf : deafBehind d0 es = d0 := deafBehind_idle (fun e he => ⟨(hev e he).2.1, (hev e he).2.2.1⟩) d0
  exact callerTurn G ha hcom hgo (fun i hi => .of_low G (G.mono _ _ (by omega)) hlow) (e0_of (fun e he => e0_of_lib (hev e he))) (fun e he => (hev e he).2.2.2) (Cfg.Cnt.of_block hcom.cnt (hlow _ (by omega))) (by rw [hdf]; exact hcs') (hwg.of_block (hlow _ (by omega))) hmode (.inr ⟨rfl, hf⟩)

/-- The library's bookkeeping, by the starter. -/
theorem bookC (G : T.Geo) (ha : gs[0]? = some a) (hcom : Com T j gs w t D E d0)
    (hgo : stepG T.P true a w = .go a' w' es) (hAs : Aside T.Wg w w') (hwg' : WgAt T.ty T.Wg w' st' sm') (hbk : ∀ e ∈ es, Bk T.Wg e) (hcs' : SSit T AnchW Post tag' j f' (deafBehind d0 es) a' w')
    (hmode' : ConcN.Mode j D tag' st' sm') (hlt : phi T.n (Vc j D) tag' < phi T.n (Vc j D) tag ∨ (phi T.n (Vc j D) tag' = phi T.n (Vc j D) tag ∧ f' < f0)) :
    ∃ m₁ ops μ', runT T.P (crowd gs w sl) 0 = (.next m₁, ops) ∧ Lt2 μ' (phi T.n (Vc j D) tag + Ssum j D + Rk T j E, f0 + 2 * Fsum j D) ∧ Inv T AnchW Post μ' m₁ (t ++ ops) :=
  callerTurn G ha hcom hgo (fun _ _ => .of_wg G hAs ⟨_, _, hwg'⟩) (ok0_bk hbk) (norel_of_Bk hbk) (Cfg.Cnt.of_block hcom.cnt (hAs.block _ G.hCW)) hcs' hwg' hmode' hlt

/-- The load in Wait. -/
theorem w1Step (G : T.Geo) (hn : T.n < 2147483648) (ha : gs[0]? = some a) (hcom : Com T T.n gs w t D E 1) (hwg : WgAt T.ty T.Wg w st sm) (hmode : ConcN.Mode T.n D .w1 st sm)
    (h : Goes T.P true (T.RS T.n) (DS T T.n) (AtW1 T AnchW Post) f0 a w) :
    ∃ m₁ ops μ', runT T.P (crowd gs w sl) 0 = (.next m₁, ops) ∧ Lt2 μ' (phi T.n (Vc T.n D) .w1 + Ssum T.n D + Rk T T.n E, f0 + 2 * Fsum T.n D) ∧ Inv T AnchW Post μ' m₁ (t ++ ops) := by
  rcases Goes.cases h with hstop | ⟨m', rfl, hstep⟩
  · obtain ⟨_, hall⟩ := hstop w (.refl w)
    obtain ⟨ho, rfl, rfl, _⟩ := hmode.open_inv trivial
    have hV := Vc_le T.n D
    obtain ⟨a', hgo, h0, hne⟩ := hall (Vc T.n D) (by omega) (by simpa [pend] using hwg)
    by_cases hv : Vc T.n D = 0
    · obtain ⟨m₂, hk⟩ := h0 hv
      refine bookC G ha hcom hgo (.refl T.Wg w) hwg bk_rd (tag' := .ke) (.ke hk) ?_ (.inl (by simp only [phi]; omega))
      have e : ((Vc T.n D + pend .w1 : Nat) : Int) * KK = 0 := by rw [hv]; simp [pend]
      rw [e]
      exact .fin trivial (allQuit_of ho hv)
    · obtain ⟨m₂, hk⟩ := hne hv
      exact bookC G ha hcom hgo (.refl T.Wg w) hwg bk_rd (tag' := .w2 (Vc T.n D)) (.w2 hk) (hmode.reopen trivial trivial rfl (fun vs e => by cases e; omega)) (.inl (by simp only [phi]; omega))
  · obtain ⟨a', w', es, hgo, hD, hg'⟩ := hstep w (.refl w)
    exact idleC G ha hcom hwg hmode hgo hD (.w1 hg') (by omega)

set_option maxHeartbeats 1600000 in
/-- The starter's step, ahead of the join. -/
theorem stepCaller (G : T.Geo) (hn : T.n < 2147483648)
    (hAn : ∀ g w, AnchW g w → ∃ m, Goes T.P true (T.RS T.n) (DS T T.n) (AtW1 T AnchW Post) m g w)
    (ha : gs[0]? = some a) (hcs : SSit T AnchW Post tag j f0 d0 a w) (hcom : Com T j gs w t D E d0) (hwg : WgAt T.ty T.Wg w st sm) (hmode : ConcN.Mode j D tag st sm) (hrun : a.status = .running) :
    ∃ m₁ ops μ', runT T.P (crowd gs w sl) 0 = (.next m₁, ops) ∧ Lt2 μ' (phi T.n (Vc j D) tag + Ssum j D + Rk T j E, f0 + 2 * Fsum j D) ∧ InvA T AnchW Post μ' m₁ (t ++ ops) := by
  have hVj := Vc_le j D
  have lift : (∃ m₁ ops μ', runT T.P (crowd gs w sl) 0 = (.next m₁, ops) ∧ Lt2 μ' (phi T.n (Vc j D) tag + Ssum j D + Rk T j E, f0 + 2 * Fsum j D) ∧ Inv T AnchW Post μ' m₁ (t ++ ops)) →
      ∃ m₁ ops μ', runT T.P (crowd gs w sl) 0 = (.next m₁, ops) ∧ Lt2 μ' (phi T.n (Vc j D) tag + Ssum j D + Rk T j E, f0 + 2 * Fsum j D) ∧ InvA T AnchW Post μ' m₁ (t ++ ops) := fun ⟨m₁, ops, μ', h1, h2, h3⟩ => ⟨m₁, ops, μ', h1, h2, .inl h3⟩
  cases hcs with
  | skd hr h =>
    refine lift ?_
    rcases Goes.cases h with hstop | ⟨m', rfl, hstep⟩
    · obtain ⟨_, a', hgo, m₂, hk⟩ := hstop w (.refl w)
      exact bookC G ha hcom hgo (.refl T.Wg w) hwg bk_dis (.sa1 hr hk) (hmode.reopen trivial trivial rfl (by simp)) (.inl (by simp only [phi]; omega))
    · obtain ⟨a', w', es, hgo, hD, hg'⟩ := hstep w (.refl w)
      exact idleC G ha hcom hwg hmode hgo hD (.skd hr hg') (by omega)
  | sa1 hr h =>
    refine lift ?_
    rename_i r
    rcases Goes.cases h with hstop | ⟨m', rfl, hstep⟩
    · obtain ⟨_, hall⟩ := hstop w (.refl w)
      obtain ⟨ho, rfl, rfl, _⟩ := hmode.open_inv trivial
      obtain ⟨a', hgo, m₂, hk⟩ := hall (Vc (T.n - (r + 1)) D) (by omega) (by simpa [pend] using hwg)
      refine bookC G ha hcom hgo (aside_setCell w (stA T.Wg) _) (hwg.setSt _) bk_rw (.ske hr hk) ?_ (.inl (by simp only [phi]; omega))
      have e : (((Vc (T.n - (r + 1)) D : Nat) : Int) + 1) * KK = ((Vc (T.n - (r + 1)) D + pend (.sp r 3) : Nat) : Int) * KK := by simp [pend]
      rw [e]
      exact .opn trivial ho (by simp)
    · obtain ⟨a', w', es, hgo, hD, hg'⟩ := hstep w (.refl w)
      exact idleC G ha hcom hwg hmode hgo hD (.sa1 hr hg') (by omega)
  | ske hr h =>
    refine lift ?_
    rcases Goes.cases h with hstop | ⟨m', rfl, hstep⟩
    · obtain ⟨_, a', hgo, m₂, hk⟩ := hstop w (.refl w)
      exact bookC G ha hcom hgo (.refl T.Wg w) hwg bk_en (.sgo hr hk) (hmode.reopen trivial trivial rfl (by simp)) (.inl (by simp only [phi]; omega))
    · obtain ⟨a', w', es, hgo, hD, hg'⟩ := hstep w (.refl w)
      exact idleC G ha hcom hwg hmode hgo hD (.ske hr hg') (by omega)
  | sgo hr h =>
    refine lift ?_
    rename_i r
    rcases Goes.cases h with hstop | ⟨m', rfl, hstep⟩
    · obtain ⟨_, a', child, hsp, _, hwk0, hnext⟩ := hstop w (.refl w)
      obtain ⟨m₂, hwk⟩ := (script_iff T _ _ _ _).1 hwk0
      obtain ⟨ho, rfl, rfl, _⟩ := hmode.open_inv trivial
      have hrun' := runT_crowd_spawn (P := T.P) (sl := sl) (i := 0) ha (by simpa using hsp)
      rw [hcom.size] at hrun'
      have hjn : T.n - (r + 1) < T.n := by omega
      have hcom' := hcom.spawn G hjn (a' := a') (x := { g := 0, fn := a.frame.fn, pos := a.frame.place, act := .go (T.n - (r + 1) + 1) }) (y := { g := T.n - (r + 1) + 1, fn := child.frame.fn, pos := a.frame.place, act := .start }) ⟨rfl, rfl⟩ ⟨rfl, rfl⟩ hwk
      have eV : Vc (T.n - (r + 1) + 1) (upd D (T.n - (r + 1)) ⟨7, m₂, 0⟩) = Vc (T.n - (r + 1)) D + 1 := by
        simp only [Vc, sumTo, upd_same]
        rw [sumTo_upd_out D _ cnt (Nat.le_refl _)]; rfl
      have eS : Ssum (T.n - (r + 1) + 1) (upd D (T.n - (r + 1)) ⟨7, m₂, 0⟩) = Ssum (T.n - (r + 1)) D + 7 := by
        simp only [Ssum, sumTo, upd_same]
        rw [sumTo_upd_out D _ WD.stage (Nat.le_refl _)]
      have eR := Rk_spawn (E := E) hjn
      have ho' : OpenSt (T.n - (r + 1) + 1) (upd D (T.n - (r + 1)) ⟨7, m₂, 0⟩) := fun i hi => by
        by_cases e : i = T.n - (r + 1)
        · subst e; rw [upd_same]; simp
        · rw [upd_ne D _ e]; exact ho i (by omega)
      have ha' : ((gs.setIfInBounds 0 a').push child)[0]? = some a' := by
        rw [Array.getElem?_push_lt (by simp [hcom.size]), ← Array.getElem?_eq_getElem]
        simp [hcom.size]
      have ej : T.n - (r + 1) + 1 = T.n - r := by omega
      rw [ej] at hrun' hcom' eV eS ho' eR
      have est : ∀ tag', pend tag' = 0 → ((Vc (T.n - (r + 1)) D + pend (.sp r 2) : Nat) : Int) * KK = ((Vc (T.n - r) (upd D (T.n - (r + 1)) ⟨7, m₂, 0⟩) + pend tag' : Nat) : Int) * KK := fun tag' hp => by rw [eV, hp]; simp [pend]
      cases r with
      | zero =>
        obtain ⟨m₃, hk⟩ := hnext
        simp only [Nat.sub_zero] at hrun' hcom' eV eS ho' est eR
        refine ⟨_, _, (phi T.n (Vc T.n (upd D (T.n - (0 + 1)) ⟨7, m₂, 0⟩)) .kd + Ssum T.n (upd D (T.n - (0 + 1)) ⟨7, m₂, 0⟩) + Rk T T.n (upd E (T.n - (0 + 1)) (some (T.adds (T.n - (0 + 1))))), m₃ + 2 * Fsum T.n (upd D (T.n - (0 + 1)) ⟨7, m₂, 0⟩)), hrun', Prod.Lex.left _ _ (by simp only [phi]; omega),
          _, w, sl, T.n, _, _, .kd, m₃, 0, a', _, _, rfl, ha', .kd hk, hcom', hwg, ?_, rfl⟩
        rw [est .kd rfl]
        exact .opn trivial ho' (by simp)
      | succ r' =>
        obtain ⟨m₃, hk⟩ := hnext
        refine ⟨_, _, (phi T.n (Vc (T.n - (r' + 1)) (upd D (T.n - (r' + 1 + 1)) ⟨7, m₂, 0⟩)) (.sp r' 5) + Ssum (T.n - (r' + 1)) (upd D (T.n - (r' + 1 + 1)) ⟨7, m₂, 0⟩) + Rk T (T.n - (r' + 1)) (upd E (T.n - (r' + 1 + 1)) (some (T.adds (T.n - (r' + 1 + 1))))), m₃ + 2 * Fsum (T.n - (r' + 1)) (upd D (T.n - (r' + 1 + 1)) ⟨7, m₂, 0⟩)), hrun', Prod.Lex.left _ _ (by simp only [phi]; omega),
          _, w, sl, T.n - (r' + 1), _, _, .sp r' 5, m₃, 0, a', _, _, rfl, ha', .skd (by omega) hk, hcom', hwg, ?_, rfl⟩
        rw [est (.sp r' 5) rfl]
        exact .opn trivial ho' (by simp)
    · obtain ⟨a', w', es, hgo, hD, hg'⟩ := hstep w (.refl w)
      exact idleC G ha hcom hwg hmode hgo hD (.sgo hr hg') (by omega)
  | kd h =>
    refine lift ?_
    rcases Goes.cases h with hstop | ⟨m', rfl, hstep⟩
    · obtain ⟨_, a', hgo, m₂, hk⟩ := hstop w (.refl w)
      exact bookC G ha hcom hgo (.refl T.Wg w) hwg bk_dis (.anch hk) (hmode.reopen trivial trivial rfl (by simp)) (.inl (by simp only [phi]; omega))
    · obtain ⟨a', w', es, hgo, hD, hg'⟩ := hstep w (.refl w)
      exact idleC G ha hcom hwg hmode hgo hD (.kd hg') (by omega)
  | anch h =>
    refine lift ?_
    rcases Goes.cases h with hstop | ⟨m', rfl, hstep⟩
    · obtain ⟨m₂, hk⟩ := hAn a w (hstop w (.refl w))
      obtain ⟨m₁, ops, μ', h1, h2, h3⟩ := w1Step (sl := sl) G hn ha hcom hwg (hmode.reopen trivial trivial rfl (by simp)) hk
      exact ⟨m₁, ops, μ', h1, lt2_trans h2 (Prod.Lex.left _ _ (by simp only [phi]; omega)), h3⟩
    · obtain ⟨a', w', es, hgo, hD, hg'⟩ := hstep w (.refl w)
      exact idleC G ha hcom hwg hmode hgo hD (.anch hg') (by omega)
  | w1 h => exact lift (w1Step G hn ha hcom hwg hmode h)
  | w2 h =>
    refine lift ?_
    rename_i vs
    rcases Goes.cases h with hstop | ⟨m', rfl, hstep⟩
    · obtain ⟨_, hall⟩ := hstop w (.refl w)
      obtain ⟨ho, rfl, rfl, hw2⟩ := hmode.open_inv trivial
      obtain ⟨hle, h1⟩ := hw2 vs rfl
      obtain ⟨hhit, hmiss⟩ := hall (Vc T.n D) (by omega) (by simpa [pend] using hwg)
      by_cases e : Vc T.n D = vs
      · obtain ⟨a', hgo, m₂, hk⟩ := hhit e
        exact bookC G ha hcom hgo (aside_setCell w (stA T.Wg) _) (hwg.setSt _) bk_rw (.w3 hk) (.reg trivial ho (by omega)) (.inl (by simp only [phi]; omega))
      · obtain ⟨a', hgo, m₂, hk⟩ := hmiss e
        exact bookC G ha hcom hgo (.refl T.Wg w) hwg bk_rd (.anch hk) (hmode.reopen trivial trivial rfl (by simp)) (.inl (by simp only [phi]; omega))
    · obtain ⟨a', w', es, hgo, hD, hg'⟩ := hstep w (.refl w)
      exact idleC G ha hcom hwg hmode hgo hD (.w2 hg') (by omega)
  | w3 h =>
    refine lift ?_
    rcases Goes.cases h with hstop | ⟨m', rfl, hstep⟩
    · obtain ⟨_, hoff, hblk, htake⟩ := hstop w (.refl w)
      cases hmode with
      | opn h1 _ _ => exact h1.elim
      | reg h1 h2 h3 => exact bookC G ha hcom (hblk ⟨_, hwg⟩) (.refl T.Wg w) hwg (by simp) (.blk hstop) (.reg trivial h2 h3) (.inr ⟨rfl, by omega⟩)
      | last L h1 h2 h3 h4 => exact bookC G ha hcom (hblk ⟨_, hwg⟩) (.refl T.Wg w) hwg (by simp) (.blk hstop) (.last L trivial h2 h3 h4) (.inr ⟨rfl, by omega⟩)
      | sema h2 =>
        obtain ⟨a', hgo, m₂, hk⟩ := htake hwg
        exact bookC G ha hcom hgo (aside_setCell w (smA T.Wg) _) (hwg.setSm 0) bk_sem (.w4 hk) (.fin trivial h2) (.inl (by simp only [phi]; omega))
      | fin h1 _ => exact h1.elim
    · obtain ⟨a', w', es, hgo, hD, hg'⟩ := hstep w (.refl w)
      exact idleC G ha hcom hwg hmode hgo hD (.w3 hg') (by omega)
  | blk h => simp at hrun
  | w4 h =>
    refine lift ?_
    rcases Goes.cases h with hstop | ⟨m', rfl, hstep⟩
    · obtain ⟨_, hx⟩ := hstop w (.refl w)
      obtain ⟨hq, rfl, rfl⟩ := hmode.fin_inv trivial
      obtain ⟨a', hgo, m₂, hk⟩ := hx hwg
      exact bookC G ha hcom hgo (.refl T.Wg w) hwg bk_rd (.ke hk) (.fin trivial hq) (.inl (by simp only [phi]; omega))
    · obtain ⟨a', w', es, hgo, hD, hg'⟩ := hstep w (.refl w)
      exact idleC G ha hcom hwg hmode hgo hD (.w4 hg') (by omega)
  | ke h =>
    refine lift ?_
    rcases Goes.cases h with hstop | ⟨m', rfl, hstep⟩
    · obtain ⟨_, a', hgo, m₂, hk⟩ := hstop w (.refl w)
      obtain ⟨hq, rfl, rfl⟩ := hmode.fin_inv trivial
      exact bookC G ha hcom hgo (.refl T.Wg w) hwg bk_en (.acq hk) (.fin trivial hq) (.inl (by simp only [phi]; omega))
    · obtain ⟨a', w', es, hgo, hD, hg'⟩ := hstep w (.refl w)
      exact idleC G ha hcom hwg hmode hgo hD (.ke hg') (by omega)
  | acq h =>
    rcases Goes.cases h with hstop | ⟨m', rfl, hstep⟩
    · obtain ⟨_, a', hgo, hk0⟩ := hstop w (.refl w)
      obtain ⟨hq, rfl, rfl⟩ := hmode.fin_inv trivial
      have hEn : ∀ i, i < T.n → E i = none := fun i hi => by
        cases hE : E i with
        | none => rfl
        | some xs =>
          have h7 := hcom.seven i hi (by rw [hE]; simp)
          have h1 := hq i hi
          omega
      obtain ⟨m₂, hk⟩ := hk0 (by rw [← cur_fin (E := E) (fun i hi => by rw [hEn i hi]; rfl)]; exact hcom.cnt)
      have hrun' := runT_crowd_go (P := T.P) (sl := sl) (i := 0) ha (by simpa using hgo)
      have e1 : MemOp.ofEvents 0 a.frame.fn a.frame.place #[mk (.acquire (stA T.Wg))] = #[{ g := 0, fn := a.frame.fn, pos := a.frame.place, act := .mark (.acquire (stA T.Wg)) }] := by rw [ofEvents_eq]; simp [ofEvent_mk]
      have hy : (t ++ #[({ g := 0, fn := a.frame.fn, pos := a.frame.place, act := .mark (.acquire (stA T.Wg)) } : MemOp)])[t.size]? = some { g := 0, fn := a.frame.fn, pos := a.frame.place, act := .mark (.acquire (stA T.Wg)) } := by simp
      refine ⟨_, _, (0, m₂ + 2 * Fsum T.n D), hrun', Prod.Lex.left _ _ (by simp only [phi]; omega), .inr ⟨_, w, sl, D, m₂, a', rfl, get_map_set_same _ _ _ (by rw [hcom.size]; omega), by simp [hcom.size], hk, fun i hi => ?_, hcom.ct.app0 (apart G) (ok0_quiet (by intro e he; simp at he; subst he; rfl)), hcom.norel.app (norel_of (by intro e he; simp at he; subst he; simp [mk])), ?_, fun i hi => ?_, ?_, rfl⟩⟩
      · obtain ⟨x, hx, hsx⟩ := hcom.wk i hi
        refine ⟨x, by rw [get_map_set _ _ _ _ (by omega), hx, Option.map_some, hsx.woken], ?_⟩
        rw [hEn i hi] at hsx
        cases hsx with
        | tail hw => exact WSit.quits hw (hq i hi)
      · rw [Deaf_own, hcom.deaf0]; rfl
      · rw [Deaf_other t (by omega) _ g_of_ofEvents, hcom.deafW i hi]
      · refine ⟨t.size, by rw [e1, act?_of hy], by rw [e1]; simp [Trace.g?], by rw [e1]; exact ⟨0, by simp [Trace.g?], by rw [deaf_old (Nat.le_refl _)]; exact hcom.deaf0⟩, fun i hi => ?_⟩
        obtain ⟨r, hr⟩ := hcom.rel i hi (by rw [hq i hi]; omega)
        exact ⟨r, hr.appOther g_of_ofEvents (by omega), lt_of_act? hr.act⟩
    · obtain ⟨a', w', es, hgo, hD, hg'⟩ := hstep w (.refl w)
      exact lift (idleC G ha hcom hwg hmode hgo hD (.acq hg') (by omega))

/-! ### Nobody is stuck -/
theorem someone (hAr : ∀ g w, AnchW g w → g.status = .running) (ha : gs[0]? = some a) (hcs : SSit T AnchW Post tag j f0 d0 a w) (hcom : Com T j gs w t D E d0) (hmode : ConcN.Mode j D tag st sm) :
    ∃ (i : Nat) (g : Goroutine), gs[i]? = some g ∧ g.status = .running := by
  rcases hcs.status hAr with ⟨hs, _⟩ | ⟨_, rfl⟩
  · exact ⟨0, a, ha, hs⟩
  · cases hmode with
    | opn h1 _ _ => exact h1.elim
    | reg _ _ h3 =>
      obtain ⟨i, hi, h5⟩ := exists_counted h3
      obtain ⟨g, hg, hs⟩ := hcom.wk i hi
      exact ⟨i + 1, g, hg, hs.running_of (by omega)⟩
    | last L _ h2 h3 _ =>
      obtain ⟨g, hg, hs⟩ := hcom.wk L h2
      exact ⟨L + 1, g, hg, hs.running_of (by omega)⟩
    | fin h1 _ => exact h1.elim
theorem awakeAll (hAr : ∀ g w, AnchW g w → g.status = .running) (ha : gs[0]? = some a) (hcs : SSit T AnchW Post tag j f0 d0 a w) (hcom : Com T j gs w t D E d0) : ∀ g ∈ gs, awake g := by
  intro g hg tm
  obtain ⟨i, hi⟩ := Array.mem_iff_getElem?.1 hg
  cases i with
  | zero =>
    rw [ha] at hi; cases hi
    rcases hcs.status hAr with ⟨hs, _⟩ | ⟨hs, _⟩ <;> rw [hs] <;> simp
  | succ i =>
    have hlt : i < j := by have := (Array.getElem?_eq_some_iff.1 hi).1; rw [hcom.size] at this; omega
    obtain ⟨g', hg', hs⟩ := hcom.wk i hlt
    rw [hi] at hg'; cases hg'
    rcases hs.status with h | h <;> rw [h] <;> simp
end

section
variable {T : Cfg} {AnchW : Goroutine → World → Prop} {Post : Value → World → Prop}
omit [Payload] in
/-- Behind the join. -/
theorem stepF (G : T.Geo) (μ : Nat × Nat) (m : Machine) (t : Trace) (h : InvF T Post μ m t) :
    (∃ o w ops, stepT T.P m = (.ended o w, ops) ∧ Good T.P Post m o w (t ++ ops)) ∨ (∃ m' ops μ', stepT T.P m = (.next m', ops) ∧ Lt2 μ' μ ∧ InvF T Post μ' m' (t ++ ops)) := by
  obtain ⟨gs, w, sl, D, f0, a, rfl, ha, hsz, hgoes, hq, hct, hnr, hd0, hdW, hacq, rfl⟩ := h
  have tr : ∀ x y z, Cfg.RF x y → Cfg.RF y z → Cfg.RF x z := fun _ _ _ h1 h2 => h1.trans h2
  have haw : ∀ g ∈ gs, awake g := by
    intro g hg tm
    obtain ⟨i, hi⟩ := Array.mem_iff_getElem?.1 hg
    cases i with
    | zero =>
      rw [ha] at hi; cases hi
      rw [Goes.running (fun _ _ x => x.1) w (.refl w) hgoes]; simp
    | succ i =>
      have hlt : i < T.n := by have := (Array.getElem?_eq_some_iff.1 hi).1; rw [hsz] at this; omega
      obtain ⟨g', hg', hs⟩ := hq i hlt
      rw [hi] at hg'; cases hg'
      rcases hs.status with h | h <;> rw [h] <;> simp
  obtain ⟨i, g, d, sl', hg, hrun, hstep⟩ := crowd_pick (P := T.P) (w := w) (sl := sl) haw ⟨0, a, ha, Goes.running (fun _ _ x => x.1) w (.refl w) hgoes⟩
  rw [hstep]
  have hgoes' := Goes.rely tr hgoes (Cfg.RF.at w d)
  cases i with
  | zero =>
    rw [ha] at hg; cases hg
    rcases Goes.cases hgoes' with hstop | ⟨m', rfl, hst⟩
    · obtain ⟨_, v, es, hend, hev, hpost⟩ := hstop _ (.refl _)
      have hct' := hct.app0 (apart G) (e0_of (fn := a.frame.fn) (pos := a.frame.place) hev)
      have wkq : ∀ i g, gs[i]? = some g → i ≠ 0 → ∃ i', i = i' + 1 ∧ i' < T.n ∧ QuitsD T.P (D i').fuel (D i').deaf g := by
        intro i g hg hi0
        obtain ⟨i', rfl⟩ : ∃ i', i = i' + 1 := ⟨i - 1, by omega⟩
        have hlt : i' < T.n := by have := (Array.getElem?_eq_some_iff.1 hg).1; rw [hsz] at this; omega
        obtain ⟨g', hg', hs'⟩ := hq i' hlt
        rw [hg] at hg'
        cases hg'
        exact ⟨i', rfl, hlt, hs'⟩
      refine .inl ⟨_, _, _, runT_crowd_ended ha (by simpa using hend), v, rfl, hpost, hct'.nr, ?_, ⟨fun g hg => ?_, rfl⟩, fun i g hg hi0 => ?_⟩
      · obtain ⟨q, h1, h2, h3, h4⟩ := hacq.app (u := MemOp.ofEvents 0 a.frame.fn a.frame.place es) fun i r _ hr => hr.appOther g_of_ofEvents (by omega)
        refine handedOver_all (fun i g hgi hne => ?_) (hnr.app (norel_of fun e he => (hev e he).2.2.2)) h1 h2 h3
        obtain ⟨op, ho, rfl⟩ := Option.map_eq_some_iff.1 hgi
        have := hct'.gs i op ho
        have := h4 (op.g - 1) (by omega)
        rwa [show op.g - 1 + 1 = op.g by omega] at this
      · obtain ⟨i, hi⟩ := List.mem_iff_getElem?.1 hg
        rw [List.getElem?_drop] at hi
        obtain ⟨i', _, _, hqq⟩ := wkq (1 + i) g (by simpa [crowd] using hi) (by omega)
        exact ⟨_, hqq.leaves⟩
      · obtain ⟨i', rfl, hlt, hqq⟩ := wkq i g hg hi0
        refine ⟨(D i').fuel, ?_⟩
        have : (t ++ MemOp.ofEvents 0 a.frame.fn a.frame.place es).deaf (i' + 1) (t ++ MemOp.ofEvents 0 a.frame.fn a.frame.place es).size = (D i').deaf := by
          have := Deaf_other t (g := i' + 1) (g' := 0) (by omega) _ (g_of_ofEvents (fn := a.frame.fn) (pos := a.frame.place) (es := es))
          rw [hdW i' hlt] at this
          exact this
        rw [this]
        exact hqq.hears _
    · obtain ⟨a', w', es, hgo, hD, hg'⟩ := hst _ (.refl _)
      have hrun' := runT_crowd_go (P := T.P) (sl := sl') (i := 0) ha (by simpa using hgo)
      refine .inr ⟨_, _, (0, m' + 2 * Fsum T.n D), hrun', Prod.Lex.right _ (by omega), _, w', sl', D, m', a', rfl, get_map_set_same _ _ _ (by rw [hsz]; omega), by simp [hsz], hg', fun i hi => ?_, hct.app0 (apart G) (e0_of hD), hnr.app (norel_of fun e he => (hD e he).2.2.2), ?_, fun i hi => ?_, hacq.app fun i r _ hr => hr.appOther g_of_ofEvents (by omega), rfl⟩
      · obtain ⟨x, hx, hsx⟩ := hq i hi
        refine ⟨x, ?_, hsx⟩
        rw [get_map_set _ _ _ _ (by omega), hx, Option.map_some]
        unfold Go.Conc.woken
        split
        · rw [again_running _ hsx.status]
        · rfl
      · rw [Deaf_own, hd0]; exact deafBehind_idle (fun e he => ⟨(hD e he).2.1, (hD e he).2.2.1⟩) 0
      · rw [Deaf_other t (by omega) _ g_of_ofEvents, hdW i hi]
  | succ i =>
    have hi : i < T.n := by have := (Array.getElem?_eq_some_iff.1 hg).1; rw [hsz] at this; omega
    obtain ⟨g', hg', hs⟩ := hq i hi
    rw [hg] at hg'; cases hg'
    generalize hfu : (D i).fuel = mf at hs
    generalize hde : (D i).deaf = dd at hs
    cases mf with
    | zero => rw [hs.1] at hrun; cases hrun
    | succ q =>
      rcases hs with ⟨hf, _⟩ | ⟨_, g', es, hmute, hst, hq'⟩
      · rw [hf] at hrun; cases hrun
      · have hbk : ∀ e ∈ es, Bk T.Wg e := fun e he => bk_of_mute (hmute e he)
        have hno : ∀ jx e, es[jx]? = some e → (MemAct.ofEvent e).touch? = none ∨ 0 < deafBehind dd (es.extract 0 jx) := fun jx e he => .inl (by
          rcases bk_of_mute (Wg := T.Wg) (hmute e (Array.mem_of_getElem? he)) with h1 | h1 | ⟨a, wr, rfl, _⟩
          · rw [ofEvent_loc_mark h1]; rfl
          · rw [ofEvent_loc_mark h1]; rfl
          · have := hmute _ (Array.mem_of_getElem? he); simp [Event.mute] at this)
        have hdk : Deaf t (i + 1) = dd := by rw [hdW i hi, hde]
        have hrun' := runT_crowd_go (P := T.P) (sl := sl') (i := i + 1) hg (by simpa using hst (w.at d))
        have e3 := sumTo_upd D (⟨1, q, deafBehind dd es⟩ : WD) WD.fuel hi
        have hlt : f0 + 2 * Fsum T.n (upd D i ⟨1, q, deafBehind dd es⟩) < f0 + 2 * Fsum T.n D := by simp only [Fsum] at *; omega
        refine .inr ⟨_, _, (0, f0 + 2 * Fsum T.n (upd D i ⟨1, q, deafBehind dd es⟩)), hrun', Prod.Lex.right _ hlt, _, w.at d, sl', upd D i ⟨1, q, deafBehind dd es⟩, f0, a, rfl, ?_, by simp [hsz], hgoes', fun i' hi' => ?_, hct.appW (apart G) (by omega) (by omega) (okW_bk hbk), hnr.app (norel_of (norel_of_Bk hbk)), ?_, fun i' hi' => ?_, hacq.app fun i' r hi' hr => ?_, rfl⟩
        · rw [get_map_set _ _ _ _ (by omega), ha, Option.map_some]
          unfold Go.Conc.woken
          split
          · rw [again_running _ (.inl (Goes.running (fun _ _ x => x.1) w (.refl w) hgoes))]
          · rfl
        · by_cases e : i' = i
          · subst e
            exact ⟨g', get_map_set_same _ _ _ (by rw [hsz]; omega), by rw [upd_same]; exact hq'⟩
          · obtain ⟨x, hx, hsx⟩ := hq i' hi'
            refine ⟨x, ?_, by rw [upd_ne D _ e]; exact hsx⟩
            rw [get_map_set _ _ _ _ (by omega), hx, Option.map_some]
            unfold Go.Conc.woken
            split
            · rw [again_running _ hsx.status]
            · rfl
        · rw [Deaf_other t (by omega) _ g_of_ofEvents, hd0]
        · by_cases e : i' = i
          · subst e; rw [Deaf_own, hdk, upd_same]
          · rw [Deaf_other t (by omega) _ g_of_ofEvents, hdW i' hi', upd_ne D _ e]
        · by_cases e' : i' = i
          · subst e'; exact hr.book hdk _ _ hbk hno
          · exact hr.appOther g_of_ofEvents (by omega)

theorem team_step (G : T.Geo) (hn : T.n < 2147483648) (hAr : ∀ g w, AnchW g w → g.status = .running)
    (hAn : ∀ g w, AnchW g w → ∃ m, Goes T.P true (T.RS T.n) (DS T T.n) (AtW1 T AnchW Post) m g w) : ∀ μ m t, InvA T AnchW Post μ m t →
    (∃ o w ops, stepT T.P m = (.ended o w, ops) ∧ Good T.P Post m o w (t ++ ops)) ∨ (∃ m' ops μ', stepT T.P m = (.next m', ops) ∧ Lt2 μ' μ ∧ InvA T AnchW Post μ' m' (t ++ ops)) := by
  rintro μ m t (h | h)
  · obtain ⟨gs, w, sl, j, D, E, tag, f0, d0, a, st, sm, rfl, ha, hcs, hcom, hwg, hmode, rfl⟩ := h
    obtain ⟨i, g, d, sl', hg, hrun, hstep⟩ := crowd_pick (P := T.P) (w := w) (sl := sl) (awakeAll hAr ha hcs hcom) (someone hAr ha hcs hcom hmode)
    rw [hstep]
    have hcs' := hcs.rely (Cfg.RS.at w d)
    have hcom' := hcom.at G d
    have hwg' : WgAt T.ty T.Wg (w.at d) st sm := hwg
    cases i with
    | zero =>
      rw [ha] at hg; cases hg
      exact .inr (stepCaller G hn hAn ha hcs' hcom' hwg' hmode hrun)
    | succ i =>
      have hi : i < j := by have := (Array.getElem?_eq_some_iff.1 hg).1; rw [hcom.size] at this; omega
      obtain ⟨m₁, ops, μ', h1, h2, h3⟩ := stepWorker G hAr hn ha hcs' hcom' hwg' hmode hi hg hrun
      exact .inr ⟨m₁, ops, μ', h1, h2, .inl h3⟩
  · rcases stepF G μ m t h with h1 | ⟨m', ops, μ', h1, h2, h3⟩
    · exact .inl h1
    · exact .inr ⟨m', ops, μ', h1, h2, .inr h3⟩

/-- What a step may list ahead of the loop. -/
def EvL (T : Cfg) (e : Event) : Prop := (∀ x, (MemAct.ofEvent e).touch? = some x → T.Sh x.loc → x.kind ≠ .plain) ∧ e.loc ≠ .mark .disable ∧ e.loc ≠ .mark .enable ∧ e.loc ≠ .mark (.release (stA T.Wg))
omit [Payload] in
theorem CT_lone {Sh : Loc → Prop} {Own Rd : Nat → Loc → Prop} {u : Trace} (h0 : ∀ op ∈ u, op.g = 0) (hq : ∀ op ∈ u, ∀ x, op.act.touch? = some x → Sh x.loc → x.kind ≠ .plain) : CT Sh Own Rd u 0 := by
  have kn : ∀ i a, touchAt u i = some a → Knows u 0 i := fun i a ha => by
    obtain ⟨x, hx, _⟩ := touch_of ha
    have := knows_own hx
    rwa [h0 x (Array.mem_of_getElem? hx)] at this
  refine ⟨fun i op x hi hx hs => ⟨hq op (Array.mem_of_getElem? hi) x hx hs, fun _ => h0 op (Array.mem_of_getElem? hi)⟩, fun k k1 k0 => by omega, fun k k1 k0 => by omega, fun l _ _ i a ha _ => kn i a ha, fun l _ _ i a ha _ _ => kn i a ha, fun said => ?_, fun i op hi => by rw [h0 op (Array.mem_of_getElem? hi)]; exact Nat.le_refl _⟩
  have := noRace_append (t := #[]) (u := u) (g := 0) (noRace_nil said) h0 (fun i a ha => by simp [touchAt, Trace.act?] at ha)
  simpa using this

/-- From the entry to the return, on every tape. -/
theorem team_join (G : T.Geo) (hn : T.n < 2147483648) (hAr : ∀ g w, AnchW g w → g.status = .running)
    (hAn : ∀ g w, AnchW g w → ∃ m, Goes T.P true (T.RS T.n) (DS T T.n) (AtW1 T AnchW Post) m g w) {a : Goroutine} {w : World} {n0 : Nat}
    (h : Goes T.P true Eq (DE (EvL T)) (fun a' w' => Spawns T (Fin T AnchW) T.n a' w' ∧ WgAt T.ty T.Wg w' 0 0 ∧ T.Cnt (fun x => Cfg.wrapU (T.c0 x)) w') n0 a w) :
    ∃ N last o w' t', runNT T.P (N + 1) (solo a w) #[] = (.ended o w', t') ∧ runN T.P N (solo a w) = .next last ∧ step T.P last = .ended o w' ∧ Good T.P Post last o w' t' := by
  obtain ⟨k0, a0, w0, u, r0, ⟨hsp, hwg, hcnt⟩, hu⟩ := solo_goesE #[] h
  have hact : ∀ op ∈ u, ∀ m, op.act = .mark m → ∃ e, EvL T e ∧ e.loc = .mark m := fun op hop m hm => by
    obtain ⟨_, e, he, hoe⟩ := hu op hop
    exact ⟨e, he, loc_of_ofEvent (hoe ▸ hm)⟩
  have hcom : Com T 0 #[a0] w0 (#[] ++ u) (fun _ => ⟨0, 0, 0⟩) (fun _ => none) 0 := by
    have hct : CT T.Sh Cfg.NoOwn T.Rd (#[] ++ u) 0 := by
      have := CT_lone (Sh := T.Sh) (Own := Cfg.NoOwn) (Rd := T.Rd) (fun op hop => (hu op hop).1) (fun op hop x hx => by
        obtain ⟨_, e, he, hoe⟩ := hu op hop
        exact he.1 x (hoe ▸ hx))
      simpa using this
    refine ⟨Nat.zero_le _, rfl, fun i hi => by omega, hct, NoRelease.app (fun i hi => by simp [Trace.act?] at hi) (fun op hop hm => ?_), ?_, fun i hi => by omega, fun i hi => by omega, fun i hi => by omega, ?_⟩
    · obtain ⟨e, he, hl'⟩ := hact op hop _ hm
      exact he.2.2.2 hl'
    · rw [Deaf_still #[] 0 u fun op hop => ⟨fun hm => ?_, fun hm => ?_⟩]
      · rfl
      · obtain ⟨e, he, hl'⟩ := hact op hop _ hm
        exact he.2.1 hl'
      · obtain ⟨e, he, hl'⟩ := hact op hop _ hm
        exact he.2.2.1 hl'
    · have e : cur T 0 (fun _ => none) = fun x => Cfg.wrapU (T.c0 x) := by funext x; simp [cur, sofar, sofar.sumI]
      rw [e]
      exact hcnt
  have hmode : ∀ tag, isOpen tag → pend tag = 0 → (∀ vs, tag ≠ .w2 vs) → ConcN.Mode 0 (fun _ => (⟨0, 0, 0⟩ : WD)) tag 0 0 := fun tag h1 h2 h3 => by
    have := ConcN.Mode.opn (j := 0) (D := fun _ => (⟨0, 0, 0⟩ : WD)) h1 (fun i hi => by omega) (fun vs e => absurd e (h3 vs))
    simpa [Vc, sumTo, h2] using this
  have hInv : ∃ μ, InvA T AnchW Post μ (solo a0 w0) (#[] ++ u) := by
    cases hTn : T.n with
    | zero =>
      rw [hTn] at hsp
      obtain ⟨m, hk⟩ := hsp
      have hc : SSit T AnchW Post .kd T.n m 0 a0 w0 := .kd hk
      rw [hTn] at hc
      exact ⟨_, .inl ⟨#[a0], w0, none, 0, _, _, .kd, m, 0, a0, 0, 0, rfl, rfl, hc, hcom, hwg, hmode .kd trivial rfl (by simp), rfl⟩⟩
    | succ r =>
      rw [hTn] at hsp
      obtain ⟨m, hk⟩ := hsp
      have hc := SSit.skd (Post := Post) (show r < T.n by omega) hk
      rw [show T.n - (r + 1) = 0 by omega] at hc
      exact ⟨_, .inl ⟨#[a0], w0, none, 0, _, _, .sp r 5, m, 0, a0, 0, 0, rfl, rfl, hc, hcom, hwg, hmode (.sp r 5) trivial rfl (by simp), rfl⟩⟩
  obtain ⟨μ, hI⟩ := hInv
  obtain ⟨N, last, o, w'', t', e1, e2, e3, e4⟩ := run_of_inv (r := Lt2) (Prod.lex Nat.lt_wfRel Nat.lt_wfRel).wf (InvA T AnchW Post) (Good T.P Post) (team_step G hn hAr hAn) μ _ _ hI
  refine ⟨k0 + N, last, o, w'', t', ?_, ?_, e3, e4⟩
  · rw [Nat.add_assoc, runNT_add, r0]; exact e1
  · rw [runN_add, ← runNT_fst T.P _ _ #[], r0]; exact e2
end
end Go.Proofs.Yteffdcpepjjkbaa.Team

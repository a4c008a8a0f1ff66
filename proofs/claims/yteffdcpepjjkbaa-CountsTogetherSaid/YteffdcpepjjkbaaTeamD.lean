/- The team: a worker's step. -/
import Derived.Test.YteffdcpepjjkbaaTeamC
namespace Go.Proofs.Yteffdcpepjjkbaa.Team
open Go.Conc Go.ConcN
open Go.ConcR (KK wgBlock WgAt stA smA rd wr mk Payload DC0 Bk g_of_ofEvents again_blocked ofEvent_loc_mark ofEvent_cell ofEvent_mk bk_of_mute deafBehind_cons deafBehind_one)
variable [Payload]

section
variable {T : Cfg} {AnchW : Goroutine → World → Prop} {Post : Value → World → Prop} {gs : Array Goroutine} {w w' : World} {sl : Option (Nat × Nat)} {j : Nat} {D : Nat → WD} {E : Nat → Option (List Nat)} {tag : CTag} {f0 d0 : Nat} {a : Goroutine} {t : Trace} {st sm : Int}

set_option maxHeartbeats 1600000 in
/-- In its tail. -/
theorem stepTail (G : T.Geo) (hAr : ∀ g w, AnchW g w → g.status = .running) (hn : T.n < 2147483648)
    (ha : gs[0]? = some a) (hcs : SSit T AnchW Post tag j f0 d0 a w) (hcom : Com T j gs w t D E d0) (hwg : WgAt T.ty T.Wg w st sm) (hmode : ConcN.Mode j D tag st sm)
    {i : Nat} (hi : i < j) {g : Goroutine} (hg : gs[i + 1]? = some g) (hrun : g.status = .running) {m dd : Nat} {s : Nat} (hst : (D i).stage = s) (hE : (E i = none ∧ (D i).fuel = m) ∨ (E i = some [] ∧ s = 7)) (hde : (D i).deaf = dd) (hs : Tail T i s m dd g w) :
    ∃ m₁ ops μ', runT T.P (crowd gs w sl) (i + 1) = (.next m₁, ops) ∧ Lt2 μ' (phi T.n (Vc j D) tag + Ssum j D + Rk T j E, f0 + 2 * Fsum j D) ∧ Inv T AnchW Post μ' m₁ (t ++ ops) := by
  have hin : i < T.n := Nat.lt_of_lt_of_le hi hcom.jn
  have hb := hcs.bound
  have hVj := Vc_le j D
  have hdk : Deaf t (i + 1) = dd := by rw [hcom.deafW i hi, hde]
  have hcur : cur T j (upd E i none) = cur T j E := cur_congr fun a _ => by
    by_cases e : a = i
    · subst e
      rw [upd_same]
      rcases hE with ⟨h, _⟩ | ⟨h, _⟩ <;> rw [h] <;> rfl
    · rw [upd_ne _ _ e]
  have dec : ∀ {s' m' dd' : Nat}, ((s' < s ∧ cnt ⟨s', m', dd'⟩ ≤ cnt (D i)) ∨ (s' = s ∧ m' + 1 = m)) →
      (s' + rank none < (D i).stage + rank (E i) ∧ cnt ⟨s', m', dd'⟩ ≤ cnt (D i)) ∨ (s' = (D i).stage ∧ rank none = rank (E i) ∧ m' + 1 = (D i).fuel) := by
    intro s' m' dd' h
    rw [hst]
    rcases h with ⟨h1, h2⟩ | ⟨h1, h2⟩
    · exact .inl ⟨by simp only [rank]; omega, h2⟩
    · rcases hE with ⟨h, hf⟩ | ⟨h, h7⟩
      · exact .inr ⟨h1, by rw [h], by omega⟩
      · exact .inl ⟨by rw [h, h1]; simp [rank], by simp [cnt, h1, hst]⟩
  have bookG : ∀ {g' : Goroutine} {w' : World} {es : Array Event} {s' m' dd' : Nat} {st' sm' : Int}, stepG T.P false g w = .go g' w' es → Aside T.Wg w w' → WgAt T.ty T.Wg w' st' sm' → (∀ e ∈ es, Bk T.Wg e) →
      (∀ jx e, es[jx]? = some e → (MemAct.ofEvent e).touch? = none ∨ 0 < deafBehind dd (es.extract 0 jx)) → Tail T i s' m' dd' g' w' → deafBehind dd es = dd' → s ≤ 6 →
      (∀ tag', (tag' = tag ∨ (tag = .blk ∧ tag' = .w3)) → (mayWake T.P g = true → g'.status = .running → tag' ≠ .blk) → ConcN.Mode j (upd D i ⟨s', m', dd'⟩) tag' st' sm') → ((s' < s ∧ cnt ⟨s', m', dd'⟩ ≤ cnt (D i)) ∨ (s' = s ∧ m' + 1 = m)) →
      ∃ m₁ ops μ', runT T.P (crowd gs w sl) (i + 1) = (.next m₁, ops) ∧ Lt2 μ' (phi T.n (Vc j D) tag + Ssum j D + Rk T j E, f0 + 2 * Fsum j D) ∧ Inv T AnchW Post μ' m₁ (t ++ ops) := by
    intro g' w' es s' m' dd' st' sm' hgo hAs hwg' hbk hd hs' hdd h6 hmode' hlt
    exact workerTurn G hAr ha hcs hcom hi hg hgo (.of_wg G hAs ⟨_, _, hwg'⟩) (fun i' _ _ => .of_wg G hAs ⟨_, _, hwg'⟩) (.tail hs') (fun h => absurd rfl h) (okW_bk hbk) (norel_of_Bk hbk) (by rw [hde]; exact hdd)
      (fun _ => let ⟨r, hr⟩ := hcom.rel i hi (by omega); ⟨r, hr.book hdk _ _ hbk hd⟩) (by rw [hcur]; exact Cfg.Cnt.of_block hcom.cnt (hAs.block _ G.hCW)) hwg' hmode' (dec hlt)
  have book : ∀ {g' : Goroutine} {w' : World} {es : Array Event} {s' m' dd' : Nat} {st' sm' : Int}, stepG T.P false g w = .go g' w' es → Aside T.Wg w w' → WgAt T.ty T.Wg w' st' sm' → (∀ e ∈ es, Bk T.Wg e) →
      (∀ jx e, es[jx]? = some e → (MemAct.ofEvent e).touch? = none ∨ 0 < deafBehind dd (es.extract 0 jx)) → Tail T i s' m' dd' g' w' → deafBehind dd es = dd' → s ≤ 6 →
      ConcN.Mode j (upd D i ⟨s', m', dd'⟩) tag st' sm' → ((s' < s ∧ cnt ⟨s', m', dd'⟩ ≤ cnt (D i)) ∨ (s' = s ∧ m' + 1 = m)) →
      ∃ m₁ ops μ', runT T.P (crowd gs w sl) (i + 1) = (.next m₁, ops) ∧ Lt2 μ' (phi T.n (Vc j D) tag + Ssum j D + Rk T j E, f0 + 2 * Fsum j D) ∧ Inv T AnchW Post μ' m₁ (t ++ ops) :=
    fun hgo hAs hwg' hbk hd hs' hdd h6 hmode' hlt => bookG hgo hAs hwg' hbk hd hs' hdd h6 (fun _ ht _ => hmode'.retag ht) hlt
  have idle : ∀ {g' : Goroutine} {m' : Nat}, stepG T.P false g w = .go g' w #[] → Tail T i s m' dd g' w → m' + 1 = m → s ≤ 6 →
      ∃ m₁ ops μ', runT T.P (crowd gs w sl) (i + 1) = (.next m₁, ops) ∧ Lt2 μ' (phi T.n (Vc j D) tag + Ssum j D + Rk T j E, f0 + 2 * Fsum j D) ∧ Inv T AnchW Post μ' m₁ (t ++ ops) := by
    intro g' m' hgo hs' hm h6
    exact book hgo (.refl T.Wg w) hwg (by simp) (by simp) hs' rfl h6 (by have := hmode.same (i := i) m' dd; rwa [hst] at this) (.inr ⟨rfl, hm⟩)
  cases hs with
  | r0 h =>
    rcases Goes.cases h with hstop | ⟨m', rfl, hstep⟩
    · obtain ⟨_, _, g', hgo, m₂, hk⟩ := hstop w (RW.refl w)
      exact workerTurn G hAr ha hcs hcom hi hg hgo (.refl w) (fun _ _ _ => .refl w) (.tail (.k1 hk)) (fun h => absurd rfl h) (okW_quiet (by intro e he; simp at he; subst he; rfl)) (by intro e he; simp at he; subst he; simp [mk]) (by rw [hde]; rfl)
        (fun _ => ⟨t.size, RelBy.new hdk _ _⟩) (by rw [hcur]; exact hcom.cnt) hwg (fun _ ht _ => (hmode.counted hi (by omega) (.inl rfl) _ _).retag ht) (dec (.inl ⟨by omega, by simp [cnt, hst]⟩))
    · obtain ⟨g', w', es, hgo, ⟨hac, hev⟩, hg'⟩ := hstep w (RW.refl w)
      have hac' : AsideCell (T.Ck i) 1 0 w w' := hac
      exact workerTurn G hAr ha hcs hcom hi hg hgo (.of_ck G hin hi hac') (fun i' _ e => .of_ck G hin (Ne.symm e) hac') (.tail (.r0 hg')) (fun h => absurd rfl h) (ew_of (fun e he => ew_of_lib (hev e he))) (fun e he => (hev e he).2.2.2)
        (by rw [hde]; exact deafBehind_idle (fun e he => ⟨(hev e he).2.1, (hev e he).2.2.1⟩) 0) (fun h => absurd h (by decide)) (by rw [hcur]; exact Cfg.Cnt.of_block hcom.cnt (hac'.block _ (Ne.symm (G.hKC i hin)))) (hwg.of_block (hac'.block _ (Ne.symm (G.hKW i hin))))
        (fun _ ht _ => ConcN.Mode.retag (by have := hmode.same (i := i) m' 0; rwa [hst] at this) ht) (dec (.inr ⟨rfl, by omega⟩))
  | k1 h =>
    rcases Goes.cases h with hstop | ⟨m', rfl, hstep⟩
    · obtain ⟨_, g', hgo, m₂, hk⟩ := hstop w (RW.refl w)
      exact book hgo (.refl T.Wg w) hwg (by intro e he; simp at he; subst he; exact .inl rfl) (by intro jx e he; exact .inl (by have := Array.mem_of_getElem? he; simp at this; subst this; rfl)) (.d1 hk) rfl (by omega)
        (hmode.counted hi (by omega) (.inr rfl) _ _) (.inl ⟨by omega, by simp [cnt, hst]⟩)
    · obtain ⟨g', w', es, hgo, ⟨rfl, rfl⟩, hg'⟩ := hstep w (RW.refl w)
      exact idle hgo (.k1 hg') rfl (by omega)
  | d1 h =>
    rcases Goes.cases h with hstop | ⟨m', rfl, hstep⟩
    · obtain ⟨_, hall⟩ := hstop w (RW.refl w)
      have hc1 : cnt (D i) = 1 := by simp [cnt, hst]
      have hV1 : 1 ≤ Vc j D := by have := le_sumTo (f := fun x => cnt (D x)) hi; simp only [Vc]; omega
      have bk2 : ∀ e ∈ #[rd (stA T.Wg), wr (stA T.Wg)], Bk T.Wg e := by intro e he; simp at he; rcases he with rfl | rfl <;> exact bk_cell _ _ rfl
      have df2 : ∀ jx e, (#[rd (stA T.Wg), wr (stA T.Wg)] : Array Event)[jx]? = some e → (MemAct.ofEvent e).touch? = none ∨ 0 < deafBehind 1 ((#[rd (stA T.Wg), wr (stA T.Wg)] : Array Event).extract 0 jx) := by
        intro jx e he
        match jx, he with
        | 0, _ => exact .inr (by simp [deafBehind])
        | 1, _ => exact .inr (by simp [deafBehind, rd])
        | jx + 2, he => simp at he
      have hq0 : ∀ q, cnt (⟨1, q, 1⟩ : WD) = 0 := fun _ => rfl
      have opq : ∀ q, OpenSt j D → OpenSt j (upd D i ⟨1, q, 1⟩) := fun q h a ha => by
        by_cases e : a = i
        · subst e; rw [upd_same]; simp
        · rw [upd_ne D _ e]; exact h a ha
      cases hmode with
      | opn h1 h2 h3 =>
        obtain ⟨v, hv⟩ : ∃ v, Vc j D + pend tag = v + 1 := ⟨Vc j D + pend tag - 1, by omega⟩
        rw [hv] at hwg
        have hw1 : WgAt T.ty T.Wg w (((v : Nat) + 1) * KK + ((0 : Nat) : Int)) 0 := by simpa using hwg
        obtain ⟨g', hgo, _, hq⟩ := hall v 0 (by omega) (by omega) hw1
        obtain ⟨q, hq⟩ := hq (by omega)
        have hv' : Vc j (upd D i ⟨1, q, 1⟩) + pend tag = v := by have := Vc_upd D (⟨1, q, 1⟩ : WD) hi; have := hq0 q; omega
        refine book hgo (aside_setCell w (stA T.Wg) _) (hwg.setSt _) bk2 df2 (.quit hq) rfl (by omega) ?_ (.inl ⟨by omega, by simp [cnt]⟩)
        have e : ((v : Nat) : Int) * KK + ((0 : Nat) : Int) = ((Vc j (upd D i ⟨1, q, 1⟩) + pend tag : Nat) : Int) * KK := by rw [hv']; simp
        rw [e]
        exact .opn h1 (opq q h2) (fun vs ev => by have := h3 vs ev; omega)
      | reg h1 h2 h3 =>
        obtain ⟨v, hv⟩ : ∃ v, Vc j D = v + 1 := ⟨Vc j D - 1, by omega⟩
        rw [hv] at hwg
        have hp : pend tag = 0 := by cases tag <;> first | rfl | exact h1.elim
        have hw1 : WgAt T.ty T.Wg w (((v : Nat) + 1) * KK + ((1 : Nat) : Int)) 0 := by simpa using hwg
        obtain ⟨g', hgo, hl, hq⟩ := hall v 1 (by omega) (by omega) hw1
        by_cases hv0 : v = 0
        · subst hv0
          obtain ⟨m₂, hk⟩ := hl ⟨rfl, rfl⟩
          refine book hgo (aside_setCell w (stA T.Wg) _) (hwg.setSt _) bk2 df2 (.d2 hk) rfl (by omega) ?_ (.inl ⟨by omega, by simp [cnt]⟩)
          have hoth : ∀ a, a < j → a ≠ i → (D a).stage = 1 := fun a ha e => by
            have c0 := others_uncounted hi hv hc1 a ha e
            have := h2 a ha
            simp only [cnt] at c0
            split at c0 <;> omega
          have := ConcN.Mode.last (j := j) (D := upd D i ⟨4, m₂, 1⟩) (tag := tag) i h1 hi (by rw [upd_same]; simp) (fun a ha e => by rw [upd_ne D _ e]; exact hoth a ha e)
          rw [upd_same] at this
          simpa using this
        · obtain ⟨q, hq⟩ := hq (by omega)
          have hv' : Vc j (upd D i ⟨1, q, 1⟩) = v := by have := Vc_upd D (⟨1, q, 1⟩ : WD) hi; have := hq0 q; omega
          refine book hgo (aside_setCell w (stA T.Wg) _) (hwg.setSt _) bk2 df2 (.quit hq) rfl (by omega) ?_ (.inl ⟨by omega, by simp [cnt]⟩)
          have e : ((v : Nat) : Int) * KK + ((1 : Nat) : Int) = ((Vc j (upd D i ⟨1, q, 1⟩) : Nat) : Int) * KK + 1 := by rw [hv']; simp
          rw [e]
          exact .reg h1 (opq q h2) (by omega)
      | last L _ h2 h3 h4 =>
        by_cases e : i = L
        · subst e; omega
        · have := h4 i hi e; omega
      | sema h2 => have := h2 i hi; omega
      | fin _ h2 => have := h2 i hi; omega
    · obtain ⟨g', w', es, hgo, ⟨rfl, rfl⟩, hg'⟩ := hstep w (RW.refl w)
      exact idle hgo (.d1 hg') rfl (by omega)
  | d2 h =>
    rcases Goes.cases h with hstop | ⟨m', rfl, hstep⟩
    · obtain ⟨_, hx⟩ := hstop w (RW.refl w)
      obtain ⟨hW3, hoth, rfl, rfl⟩ := hmode.isLast hi (by omega)
      simp only [hst] at hwg
      obtain ⟨g', hgo, m₂, hk⟩ := hx (by simpa using hwg)
      refine book hgo (.refl T.Wg w) hwg (by intro e he; simp at he; subst he; exact bk_cell _ _ rfl) (by intro jx e he; match jx, he with | 0, _ => exact .inr (by simp [deafBehind]) | jx + 1, he => simp at he) (.d3 hk) rfl (by omega) ?_ (.inl ⟨by omega, by simp [cnt]⟩)
      have := ConcN.Mode.last (j := j) (D := upd D i ⟨3, m₂, 1⟩) (tag := tag) i hW3 hi (by rw [upd_same]; simp) (fun a ha e => by rw [upd_ne D _ e]; exact hoth a ha e)
      rw [upd_same] at this
      simpa using this
    · obtain ⟨g', w', es, hgo, ⟨rfl, rfl⟩, hg'⟩ := hstep w (RW.refl w)
      exact idle hgo (.d2 hg') rfl (by omega)
  | d3 h =>
    rcases Goes.cases h with hstop | ⟨m', rfl, hstep⟩
    · obtain ⟨_, hx⟩ := hstop w (RW.refl w)
      obtain ⟨hW3, hoth, rfl, rfl⟩ := hmode.isLast hi (by omega)
      simp only [hst] at hwg
      obtain ⟨g', hgo, m₂, hk⟩ := hx (by simpa using hwg)
      refine book hgo (aside_setCell w (stA T.Wg) _) (hwg.setSt 0) (by intro e he; simp at he; subst he; exact bk_cell _ _ rfl) (by intro jx e he; match jx, he with | 0, _ => exact .inr (by simp [deafBehind]) | jx + 1, he => simp at he) (.d4 hk) rfl (by omega) ?_ (.inl ⟨by omega, by simp [cnt]⟩)
      have := ConcN.Mode.last (j := j) (D := upd D i ⟨2, m₂, 1⟩) (tag := tag) i hW3 hi (by rw [upd_same]; simp) (fun a ha e => by rw [upd_ne D _ e]; exact hoth a ha e)
      rw [upd_same] at this
      simpa using this
    · obtain ⟨g', w', es, hgo, ⟨rfl, rfl⟩, hg'⟩ := hstep w (RW.refl w)
      exact idle hgo (.d3 hg') rfl (by omega)
  | d4 h =>
    rcases Goes.cases h with hstop | ⟨m', rfl, hstep⟩
    · obtain ⟨_, hmw, hx⟩ := hstop w (RW.refl w)
      obtain ⟨hW3, hoth, rfl, rfl⟩ := hmode.isLast hi (by omega)
      simp only [hst] at hwg
      obtain ⟨g', hgo, q, hq⟩ := hx (by simpa using hwg)
      have hrun' : g'.status = .running := by
        cases q with
        | zero => exact absurd hq.2 (by decide)
        | succ q => exact hq.elim (fun x => absurd x.2 (by decide)) (fun x => x.1)
      refine bookG hgo (aside_setCell w (smA T.Wg) _) (hwg.setSm 1) (es := semEvents (smA T.Wg)) bk_sem ?_ (.quit hq) (by simp [deafBehind, semEvents]) (by omega) ?_ (.inl ⟨by omega, by simp [cnt]⟩)
      · intro jx e he
        match jx, he with
        | 0, he => simp [semEvents] at he; subst he; exact .inl rfl
        | 1, _ => exact .inr (by simp [deafBehind, semEvents])
        | 2, _ => exact .inr (by simp [deafBehind, semEvents])
        | 3, he => simp [semEvents] at he; subst he; exact .inl rfl
        | jx + 4, he => simp [semEvents] at he
      · intro tag' ht hw
        have hnb := hw hmw hrun'
        have e3 : tag' = .w3 := by
          rcases ht with rfl | ⟨_, rfl⟩
          · cases tag' <;> first | rfl | exact hW3.elim | exact absurd rfl hnb
          · rfl
        subst e3
        simp only [if_true]
        exact .sema fun a ha => by
          by_cases e : a = i
          · subst e; rw [upd_same]
          · rw [upd_ne D _ e]; exact hoth a ha e
    · obtain ⟨g', w', es, hgo, ⟨rfl, rfl⟩, hg'⟩ := hstep w (RW.refl w)
      exact idle hgo (.d4 hg') rfl (by omega)
  | quit h =>
    cases m with
    | zero => rw [h.1] at hrun; cases hrun
    | succ q =>
      rcases h with ⟨hf, _⟩ | ⟨_, g', es, hmute, hstep, hq⟩
      · rw [hf] at hrun; cases hrun
      · have hbk : ∀ e ∈ es, Bk T.Wg e := fun e he => bk_of_mute (hmute e he)
        have hno : ∀ jx e, es[jx]? = some e → (MemAct.ofEvent e).touch? = none ∨ 0 < deafBehind dd (es.extract 0 jx) := fun jx e he => .inl (by
          rcases bk_of_mute (Wg := T.Wg) (hmute e (Array.mem_of_getElem? he)) with h1 | h1 | ⟨a, wr, rfl, _⟩
          · rw [ofEvent_loc_mark h1]; rfl
          · rw [ofEvent_loc_mark h1]; rfl
          · have := hmute _ (Array.mem_of_getElem? he); simp [Event.mute] at this)
        exact book (hstep w) (.refl T.Wg w) hwg hbk hno (.quit hq) rfl (by omega) (by have := hmode.same (i := i) q (deafBehind dd es); rwa [hst] at this) (.inr ⟨rfl, rfl⟩)

/-- A worker's step. -/
theorem stepWorker (G : T.Geo) (hAr : ∀ g w, AnchW g w → g.status = .running) (hn : T.n < 2147483648)
    (ha : gs[0]? = some a) (hcs : SSit T AnchW Post tag j f0 d0 a w) (hcom : Com T j gs w t D E d0) (hwg : WgAt T.ty T.Wg w st sm) (hmode : ConcN.Mode j D tag st sm)
    {i : Nat} (hi : i < j) {g : Goroutine} (hg : gs[i + 1]? = some g) (hrun : g.status = .running) :
    ∃ m₁ ops μ', runT T.P (crowd gs w sl) (i + 1) = (.next m₁, ops) ∧ Lt2 μ' (phi T.n (Vc j D) tag + Ssum j D + Rk T j E, f0 + 2 * Fsum j D) ∧ Inv T AnchW Post μ' m₁ (t ++ ops) := by
  have hin : i < T.n := Nat.lt_of_lt_of_le hi hcom.jn
  obtain ⟨g₁, hg₁, hs⟩ := hcom.wk i hi
  obtain rfl : g = g₁ := by rw [hg] at hg₁; exact Option.some.inj hg₁
  generalize hEi : E i = o at hs
  generalize hst : (D i).stage = s at hs
  generalize hfu : (D i).fuel = m at hs
  generalize hde : (D i).deaf = dd at hs
  cases hs with
  | tail h => exact stepTail G hAr hn ha hcs hcom hwg hmode hi hg hrun hst (.inl ⟨hEi, hfu⟩) hde h
  | add hx h =>
    rename_i xs
    rcases Goes.cases h with hstop | ⟨m', rfl, hstep⟩
    · cases xs with
      | nil =>
        obtain ⟨m2, h2⟩ := hstop w (.refl w)
        exact stepTail G hAr hn ha hcs hcom hwg hmode hi hg hrun hst (.inr ⟨hEi, rfl⟩) hde (.r0 h2)
      | cons x xs =>
        obtain ⟨_, hall⟩ := hstop w (.refl w)
        obtain ⟨g', hgo, hnext⟩ := hall _ hcom.cnt
        obtain ⟨m₂, hk⟩ := (script_iff T i xs _ _).1 hnext
        have hx8 := hx x (by simp)
        have hA := aside_setCell w ⟨T.Cb, x, none⟩ (.int .u64 (Cfg.wrapU (cur T j E x + 1)))
        have hcn := hcom.cnt.raise hx8
        exact workerTurn G hAr ha hcs hcom hi hg hgo (.of_cb G hA ⟨_, hcn⟩) (fun _ _ _ => .of_cb G hA ⟨_, hcn⟩) (.add (fun y hy => hx y (by simp [hy])) hk) (fun _ => rfl) (ew_of (ew_add x)) (fun e he => (ew_add (T := T) (k := i + 1) x e he).2.2.2)
          (by rw [hde]; exact deafBehind_idle (fun e he => ⟨(ew_add (T := T) (k := i + 1) x e he).2.1, (ew_add (T := T) (k := i + 1) x e he).2.2.1⟩) 0) (fun h => absurd h (by decide))
          (by rw [cur_add hi hEi]; exact hcn) (hwg.of_block (hA.block _ (Ne.symm G.hCW))) (fun _ ht _ => ConcN.Mode.retag (by have := hmode.same (i := i) m₂ 0; rwa [hst] at this) ht)
          (.inl ⟨by rw [hst, hEi]; simp [rank], by simp [cnt, hst]⟩)
    · obtain ⟨g', w', es, hgo, ⟨hac, hev⟩, hg'⟩ := hstep w (.refl w)
      have hac' : AsideCell (T.Ck i) 1 0 w w' := hac
      have hcur : cur T j (upd E i (some xs)) = cur T j E := cur_congr fun a _ => by
        by_cases e : a = i
        · subst e; rw [upd_same, hEi]
        · rw [upd_ne _ _ e]
      exact workerTurn G hAr ha hcs hcom hi hg hgo (.of_ck G hin hi hac') (fun i' _ e => .of_ck G hin (Ne.symm e) hac') (.add hx hg') (fun _ => rfl) (ew_of (fun e he => ew_of_lib (hev e he))) (fun e he => (hev e he).2.2.2)
        (by rw [hde]; exact deafBehind_idle (fun e he => ⟨(hev e he).2.1, (hev e he).2.2.1⟩) 0) (fun h => absurd h (by decide))
        (by rw [hcur]; exact Cfg.Cnt.of_block hcom.cnt (hac'.block _ (Ne.symm (G.hKC i hin)))) (hwg.of_block (hac'.block _ (Ne.symm (G.hKW i hin))))
        (fun _ ht _ => ConcN.Mode.retag (by have := hmode.same (i := i) m' 0; rwa [hst] at this) ht) (.inr ⟨by rw [hst], by rw [hEi], by omega⟩)
end
end Go.Proofs.Yteffdcpepjjkbaa.Team

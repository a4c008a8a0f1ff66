/- The team: what holds at every moment, and how a step keeps it. -/
import Derived.Test.YteffdcpepjjkbaaTeamB
namespace Go.Proofs.Yteffdcpepjjkbaa.Team
open Go.Conc Go.ConcN
open Go.ConcR (KK wgBlock WgAt stA smA rd wr mk Payload DC0 Bk g_of_ofEvents again_blocked ofEvent_loc_mark ofEvent_cell ofEvent_mk bk_of_mute deafBehind_cons deafBehind_one)
variable [Payload]

section
variable (T : Cfg)
/-- How often x was raised by the first j workers so far. -/
def sofar (j : Nat) (E : Nat → Option (List Nat)) (x : Nat) : Int := sumI j fun i => ((T.adds i).count x : Int) - ((rest (E i)).count x : Int)
where sumI : Nat → (Nat → Int) → Int
  | 0, _ => 0
  | j + 1, f => sumI j f + f j
def cur (j : Nat) (E : Nat → Option (List Nat)) : Nat → Int := fun x => Cfg.wrapU (T.c0 x + sofar T j E x)
/-- Rank of the adds that are still to be made. -/
def Rk (j : Nat) (E : Nat → Option (List Nat)) : Nat := sumTo j (fun i => rank (E i)) + (sumTo T.n (fun i => (T.adds i).length + 1) - sumTo j (fun i => (T.adds i).length + 1))

structure Com (j : Nat) (gs : Array Goroutine) (w : World) (t : Trace) (D : Nat → WD) (E : Nat → Option (List Nat)) (d0 : Nat) : Prop where
  jn : j ≤ T.n
  size : gs.size = j + 1
  wk : ∀ i, i < j → ∃ g, gs[i + 1]? = some g ∧ TSit T i (E i) (D i).stage (D i).fuel (D i).deaf g w
  ct : CT T.Sh Cfg.NoOwn T.Rd t j
  norel : NoRelease (stA T.Wg) t
  deaf0 : Deaf t 0 = d0
  deafW : ∀ i, i < j → Deaf t (i + 1) = (D i).deaf
  rel : ∀ i, i < j → (D i).stage ≤ 6 → ∃ r, RelBy (stA T.Wg) t (i + 1) r
  seven : ∀ i, i < j → E i ≠ none → (D i).stage = 7
  cnt : T.Cnt (cur T j E) w
end

section
variable {T : Cfg} {j i : Nat} {E : Nat → Option (List Nat)}
omit [Payload]
theorem sumI_congr {f g : Nat → Int} : ∀ {j : Nat}, (∀ i, i < j → f i = g i) → sofar.sumI j f = sofar.sumI j g
  | 0, _ => rfl
  | j + 1, h => by rw [sofar.sumI, sofar.sumI, sumI_congr (fun i hi => h i (by omega)), h j (by omega)]
theorem sumI_upd {f : Nat → Int} {i : Nat} (d : Int) : ∀ {j : Nat}, i < j → sofar.sumI j (fun a => if a = i then f a + d else f a) = sofar.sumI j f + d
  | j + 1, h => by
    rcases Nat.lt_or_ge i j with hlt | hge
    · have := sumI_upd (f := f) d hlt
      simp only [sofar.sumI, this, if_neg (show ¬ j = i by omega)]
      omega
    · obtain rfl : i = j := by omega
      simp only [sofar.sumI, if_true]
      rw [sumI_congr (g := f) (fun a ha => by rw [if_neg (by omega)])]
      omega
theorem cur_congr {E' : Nat → Option (List Nat)} (h : ∀ a, a < j → rest (E' a) = rest (E a)) : cur T j E' = cur T j E := by
  funext x
  unfold cur sofar
  rw [sumI_congr (fun i hi => by rw [h i hi])]
/-- An add. -/
theorem cur_add {x : Nat} {xs : List Nat} (hi : i < j) (h : E i = some (x :: xs)) : cur T j (upd E i (some xs)) = Cfg.raise (cur T j E) x := by
  funext y
  have e : sofar T j (upd E i (some xs)) y = sofar T j E y + (if y = x then 1 else 0) := by
    unfold sofar
    rw [← sumI_upd (f := fun i => ((T.adds i).count y : Int) - ((rest (E i)).count y : Int)) (if y = x then 1 else 0) hi]
    refine sumI_congr fun a ha => ?_
    by_cases hai : a = i
    · subst hai
      rw [if_pos rfl, upd_same, h]
      show ((T.adds a).count y : Int) - (xs.count y : Int) = ((T.adds a).count y : Int) - ((x :: xs).count y : Int) + _
      rw [List.count_cons]
      by_cases hyx : y = x
      · subst hyx; simp; omega
      · have : (x == y) = false := by simpa using Ne.symm hyx
        simp [this, hyx]
    · rw [if_neg hai, upd_ne _ _ hai]
  show Cfg.wrapU (T.c0 y + sofar T j (upd E i (some xs)) y) = _
  rw [e]
  unfold Cfg.raise cur Cfg.wrapU
  split
  · omega
  · simp
/-- A worker is started. -/
theorem cur_spawn : cur T (j + 1) (upd E j (some (T.adds j))) = cur T j E := by
  funext x
  unfold cur sofar
  rw [sofar.sumI, sumI_congr (g := fun i => ((T.adds i).count x : Int) - ((rest (E i)).count x : Int)) (fun a ha => by rw [upd_ne _ _ (by omega)]), upd_same]
  show Cfg.wrapU (T.c0 x + (_ + (((T.adds j).count x : Int) - ((T.adds j).count x : Int)))) = _
  congr 1
  omega
theorem sumI_nat {f : Nat → Nat} : ∀ j, sofar.sumI j (fun i => ((f i : Nat) : Int)) = ((sumTo j f : Nat) : Int)
  | 0 => rfl
  | j + 1 => by rw [sofar.sumI, sumTo, sumI_nat j]; simp
/-- All is raised. -/
theorem cur_fin (h : ∀ i, i < T.n → rest (E i) = []) : cur T T.n E = fin T := by
  funext x
  unfold cur fin sofar
  rw [sumI_congr (g := fun i => (((T.adds i).count x : Nat) : Int)) (fun i hi => by rw [h i hi]; simp), sumI_nat]
theorem Rk_upd {o : Option (List Nat)} (hi : i < j) : Rk T j (upd E i o) + rank (E i) = Rk T j E + rank o := by
  have := sumTo_upd E o rank hi
  unfold Rk
  omega
theorem sumTo_mono {f : Nat → Nat} : ∀ {a b : Nat}, a ≤ b → sumTo a f ≤ sumTo b f
  | a, 0, h => by obtain rfl : a = 0 := by omega
                  exact Nat.le_refl _
  | a, b + 1, h => by
    rcases Nat.lt_or_ge a (b + 1) with hlt | hge
    · have := sumTo_mono (f := f) (show a ≤ b by omega)
      simp only [sumTo]
      omega
    · obtain rfl : a = b + 1 := by omega
      exact Nat.le_refl _
theorem Rk_spawn (h : j < T.n) : Rk T (j + 1) (upd E j (some (T.adds j))) = Rk T j E := by
  have h1 := sumTo_mono (f := fun i => (T.adds i).length + 1) (show j + 1 ≤ T.n from h)
  have h2 := sumTo_upd_out E (some (T.adds j)) rank (Nat.le_refl j)
  unfold Rk
  simp only [sumTo, upd_same, rank] at h1 h2 ⊢
  omega
end

section
variable {T : Cfg} {j : Nat} {gs : Array Goroutine} {w w' : World} {t : Trace} {D : Nat → WD} {E : Nat → Option (List Nat)} {d0 : Nat}

theorem Com.at (G : T.Geo) (h : Com T j gs w t D E d0) (d : Nat) : Com T j gs (w.at d) t D E d0 :=
  ⟨h.jn, h.size, fun i hi => let ⟨g, hg, hs⟩ := h.wk i hi; ⟨g, hg, hs.rely G (Nat.lt_of_lt_of_le hi h.jn) (.at w d)⟩, h.ct, h.norel, h.deaf0, h.deafW, h.rel, h.seven, h.cnt⟩
omit [Payload] in
theorem apart (G : T.Geo) : Apart T.Sh Cfg.NoOwn T.Rd := ⟨fun _ _ _ h => h.elim, fun _ _ _ h => h.elim, fun _ _ h => h.elim, G.rdSh⟩

/-- A step of worker i's. -/
theorem Com.stepW (G : T.Geo) (h : Com T j gs w t D E d0) {i : Nat} (hi : i < j) {g g' : Goroutine} {fn : FuncId} {pos : String} {es : Array Event} {s' m' dd' : Nat} {o' : Option (List Nat)}
    (hrw : ∀ i', i' < j → i' ≠ i → T.RT i' w w')
    (hs' : TSit T i o' s' m' dd' g' w') (h7 : o' ≠ none → s' = 7)
    (hok : ∀ op ∈ MemOp.ofEvents (i + 1) fn pos es, OkW T.Sh Cfg.NoOwn T.Rd (i + 1) op) (hnr : ∀ e ∈ es, e.loc ≠ .mark (.release (stA T.Wg)))
    (hdeaf : deafBehind (D i).deaf es = dd')
    (hrel : s' ≤ 6 → ∃ r, RelBy (stA T.Wg) (t ++ MemOp.ofEvents (i + 1) fn pos es) (i + 1) r)
    (hcnt : T.Cnt (cur T j (upd E i o')) w') :
    Com T j ((gs.map (woken T.P g g' w')).setIfInBounds (i + 1) g') w' (t ++ MemOp.ofEvents (i + 1) fn pos es) (upd D i ⟨s', m', dd'⟩) (upd E i o') d0 := by
  refine ⟨h.jn, by simp [h.size], fun i' hi' => ?_, h.ct.appW (apart G) (by omega) (by omega) hok, h.norel.app (norel_of hnr), by rw [Deaf_other t (by omega) _ g_of_ofEvents, h.deaf0], fun i' hi' => ?_, fun i' hi' hst => ?_, fun i' hi' hne => ?_, hcnt⟩
  · by_cases e : i' = i
    · subst e
      exact ⟨g', get_map_set_same _ _ _ (by rw [h.size]; omega), by rw [upd_same, upd_same]; exact hs'⟩
    · obtain ⟨x, hx, hsx⟩ := h.wk i' hi'
      refine ⟨x, by rw [get_map_set _ _ _ _ (by omega), hx, Option.map_some, hsx.woken], ?_⟩
      rw [upd_ne D _ e, upd_ne E _ e]
      exact hsx.rely G (Nat.lt_of_lt_of_le hi' h.jn) (hrw i' hi' e)
  · by_cases e : i' = i
    · subst e; rw [Deaf_own, h.deafW i' hi', upd_same]; exact hdeaf
    · rw [Deaf_other t (by omega) _ g_of_ofEvents, h.deafW i' hi', upd_ne D _ e]
  · by_cases e : i' = i
    · subst e; rw [upd_same] at hst; exact hrel hst
    · rw [upd_ne D _ e] at hst
      obtain ⟨r, hr⟩ := h.rel i' hi' hst
      exact ⟨r, hr.appOther g_of_ofEvents (by omega)⟩
  · by_cases e : i' = i
    · subst e; rw [upd_same] at hne ⊢; exact h7 hne
    · rw [upd_ne E _ e] at hne
      rw [upd_ne D _ e]
      exact h.seven i' hi' hne

/-- A step of the starter's. -/
theorem Com.step0 (G : T.Geo) (h : Com T j gs w t D E d0) {a a' : Goroutine} {fn : FuncId} {pos : String} {es : Array Event}
    (hrw : ∀ i, i < j → T.RT i w w') (hok : ∀ op ∈ MemOp.ofEvents 0 fn pos es, Ok0 T.Sh Cfg.NoOwn T.Rd j op) (hnr : ∀ e ∈ es, e.loc ≠ .mark (.release (stA T.Wg))) (hcnt : T.Cnt (cur T j E) w') :
    Com T j ((gs.map (woken T.P a a' w')).setIfInBounds 0 a') w' (t ++ MemOp.ofEvents 0 fn pos es) D E (deafBehind d0 es) := by
  refine ⟨h.jn, by simp [h.size], fun i hi => ?_, h.ct.app0 (apart G) hok, h.norel.app (norel_of hnr), by rw [Deaf_own, h.deaf0], fun i hi => by rw [Deaf_other t (by omega) _ g_of_ofEvents, h.deafW i hi], fun i hi hst => ?_, h.seven, hcnt⟩
  · obtain ⟨x, hx, hsx⟩ := h.wk i hi
    exact ⟨x, by rw [get_map_set _ _ _ _ (by omega), hx, Option.map_some, hsx.woken], hsx.rely G (Nat.lt_of_lt_of_le hi h.jn) (hrw i hi)⟩
  · obtain ⟨r, hr⟩ := h.rel i hi hst
    exact ⟨r, hr.appOther g_of_ofEvents (by omega)⟩

/-- The go statement. -/
theorem Com.spawn (G : T.Geo) (h : Com T j gs w t D E 0) (hj : j < T.n) {a' child : Goroutine} {x y : MemOp} {m : Nat} (hx : x.g = 0 ∧ x.act = .go (j + 1)) (hy : y.g = j + 1 ∧ y.act = .start)
    (hc : Goes T.P false (T.RT j) (DT T j) (StopA T j (T.adds j)) m child w) :
    Com T (j + 1) ((gs.setIfInBounds 0 a').push child) w (t ++ #[x, y]) (upd D j ⟨7, m, 0⟩) (upd E j (some (T.adds j))) 0 := by
  have hm : ∀ op ∈ #[x, y], op = x ∨ op = y := by intro op hop; simpa using hop
  have hst : ∀ op ∈ #[x, y], op.act ≠ .mark .disable ∧ op.act ≠ .mark .enable := by
    intro op hop
    rcases hm op hop with rfl | rfl
    · rw [hx.2]; exact ⟨by simp, by simp⟩
    · rw [hy.2]; exact ⟨by simp, by simp⟩
  refine ⟨hj, by simp [h.size], fun i hi => ?_, h.ct.fork (apart G) hx hy h.deaf0, h.norel.app fun op hop => ?_, by rw [Deaf_still t 0 _ hst, h.deaf0], fun i hi => ?_, fun i hi hs => ?_, fun i hi hne => ?_, by rw [cur_spawn]; exact h.cnt⟩
  · rcases Nat.lt_or_ge i j with hlt | hge
    · obtain ⟨g, hg, hsg⟩ := h.wk i hlt
      refine ⟨g, ?_, by rw [upd_ne D _ (by omega), upd_ne E _ (by omega)]; exact hsg⟩
      rw [Array.getElem?_push_lt (by simp [h.size]; omega), ← Array.getElem?_eq_getElem, Array.getElem?_setIfInBounds_ne (by omega)]
      exact hg
    · obtain rfl : i = j := by omega
      refine ⟨child, ?_, by rw [upd_same, upd_same]; exact .add (G.hx i) hc⟩
      rw [show i + 1 = (gs.setIfInBounds 0 a').size by simp [h.size], Array.getElem?_push_size]
  · rcases hm op hop with rfl | rfl
    · rw [hx.2]; simp
    · rw [hy.2]; simp
  · rw [Deaf_still t _ _ hst]
    rcases Nat.lt_or_ge i j with hlt | hge
    · rw [h.deafW i hlt, upd_ne D _ (by omega)]
    · obtain rfl : i = j := by omega
      rw [upd_same]
      exact Deaf_absent fun a op ha e => by have := h.ct.gs a op ha; omega
  · rcases Nat.lt_or_ge i j with hlt | hge
    · rw [upd_ne D _ (by omega)] at hs
      obtain ⟨r, hr⟩ := h.rel i hlt hs
      refine ⟨r, hr.appNot fun op hop => ?_⟩
      rcases hm op hop with rfl | rfl
      · rw [hx.1]; omega
      · rw [hy.1]; omega
    · obtain rfl : i = j := by omega
      rw [upd_same] at hs
      simp at hs
  · rcases Nat.lt_or_ge i j with hlt | hge
    · rw [upd_ne E _ (by omega)] at hne
      rw [upd_ne D _ (by omega)]
      exact h.seven i hlt hne
    · obtain rfl : i = j := by omega
      rw [upd_same]
end

/-! ### The invariant -/
section
variable (T : Cfg) (AnchW : Goroutine → World → Prop) (Post : Value → World → Prop)
def Inv (μ : Nat × Nat) (m : Machine) (t : Trace) : Prop :=
  ∃ (gs : Array Goroutine) (w : World) (sl : Option (Nat × Nat)) (j : Nat) (D : Nat → WD) (E : Nat → Option (List Nat)) (tag : CTag) (f0 d0 : Nat) (a : Goroutine) (st sm : Int),
    m = crowd gs w sl ∧ gs[0]? = some a ∧ SSit T AnchW Post tag j f0 d0 a w ∧ Com T j gs w t D E d0 ∧ WgAt T.ty T.Wg w st sm ∧ ConcN.Mode j D tag st sm ∧
    μ = (phi T.n (Vc j D) tag + Ssum j D + Rk T j E, f0 + 2 * Fsum j D)
/-- Behind the join: the starter alone goes on; the others only leave. -/
def InvF (μ : Nat × Nat) (m : Machine) (t : Trace) : Prop :=
  ∃ (gs : Array Goroutine) (w : World) (sl : Option (Nat × Nat)) (D : Nat → WD) (f0 : Nat) (a : Goroutine),
    m = crowd gs w sl ∧ gs[0]? = some a ∧ gs.size = T.n + 1 ∧ Goes T.P true Cfg.RF (DF T) (AtRet T Post) f0 a w ∧
    (∀ i, i < T.n → ∃ g, gs[i + 1]? = some g ∧ QuitsD T.P (D i).fuel (D i).deaf g) ∧ CT T.Sh Cfg.NoOwn T.Rd t T.n ∧ NoRelease (stA T.Wg) t ∧ Deaf t 0 = 0 ∧
    (∀ i, i < T.n → Deaf t (i + 1) = (D i).deaf) ∧ AcqAll T.Wg T.n t ∧ μ = (0, f0 + 2 * Fsum T.n D)
def InvA (μ : Nat × Nat) (m : Machine) (t : Trace) : Prop := Inv T AnchW Post μ m t ∨ InvF T Post μ m t
end

section
variable {T : Cfg} {AnchW : Goroutine → World → Prop} {Post : Value → World → Prop} {gs : Array Goroutine} {w w' : World} {sl : Option (Nat × Nat)} {j : Nat} {D : Nat → WD} {E : Nat → Option (List Nat)} {tag : CTag} {f0 d0 : Nat} {a : Goroutine} {t : Trace}

/-- Whatever step of worker i's. -/
theorem workerTurn (G : T.Geo) (hAr : ∀ g w, AnchW g w → g.status = .running) (ha : gs[0]? = some a) (hcs : SSit T AnchW Post tag j f0 d0 a w) (hcom : Com T j gs w t D E d0)
    {i : Nat} (hi : i < j) {g g' : Goroutine} {es : Array Event} {s' m' dd' : Nat} {o' : Option (List Nat)} {st' sm' : Int} (hg : gs[i + 1]? = some g) (hgo : stepG T.P false g w = .go g' w' es)
    (hA2 : T.RS j w w') (hrw : ∀ i', i' < j → i' ≠ i → T.RT i' w w') (hs' : TSit T i o' s' m' dd' g' w') (h7 : o' ≠ none → s' = 7)
    (hok : ∀ op ∈ MemOp.ofEvents (i + 1) g.frame.fn g.frame.place es, OkW T.Sh Cfg.NoOwn T.Rd (i + 1) op) (hnr : ∀ e ∈ es, e.loc ≠ .mark (.release (stA T.Wg)))
    (hdeaf : deafBehind (D i).deaf es = dd')
    (hrel : s' ≤ 6 → ∃ r, RelBy (stA T.Wg) (t ++ MemOp.ofEvents (i + 1) g.frame.fn g.frame.place es) (i + 1) r)
    (hcnt : T.Cnt (cur T j (upd E i o')) w') (hwg : WgAt T.ty T.Wg w' st' sm')
    (hmode : ∀ tag', (tag' = tag ∨ (tag = .blk ∧ tag' = .w3)) → (mayWake T.P g = true → g'.status = .running → tag' ≠ .blk) → ConcN.Mode j (upd D i ⟨s', m', dd'⟩) tag' st' sm')
    (hlt : (s' + rank o' < (D i).stage + rank (E i) ∧ cnt ⟨s', m', dd'⟩ ≤ cnt (D i)) ∨ (s' = (D i).stage ∧ rank o' = rank (E i) ∧ m' + 1 = (D i).fuel)) :
    ∃ m₁ ops μ', runT T.P (crowd gs w sl) (i + 1) = (.next m₁, ops) ∧ Lt2 μ' (phi T.n (Vc j D) tag + Ssum j D + Rk T j E, f0 + 2 * Fsum j D) ∧ Inv T AnchW Post μ' m₁ (t ++ ops) := by
  obtain ⟨tag', f', hcs', hf', htag, hwk⟩ := hcs.wokenBy hAr hA2 g g'
  have hrun := runT_crowd_go (P := T.P) (sl := sl) (i := i + 1) hg (by simpa using hgo)
  have e1 := sumTo_upd D (⟨s', m', dd'⟩ : WD) cnt hi
  have e2 := sumTo_upd D (⟨s', m', dd'⟩ : WD) WD.stage hi
  have e3 := sumTo_upd D (⟨s', m', dd'⟩ : WD) WD.fuel hi
  have e4 := Rk_upd (T := T) (E := E) (o := o') hi
  refine ⟨_, _, (phi T.n (Vc j (upd D i ⟨s', m', dd'⟩)) tag' + Ssum j (upd D i ⟨s', m', dd'⟩) + Rk T j (upd E i o'), f' + 2 * Fsum j (upd D i ⟨s', m', dd'⟩)), hrun, ?_,
    _, w', sl, j, upd D i ⟨s', m', dd'⟩, upd E i o', tag', f', d0, woken T.P g g' w' a, st', sm', rfl, by rw [get_map_set _ _ _ _ (by omega), ha]; rfl, hcs', hcom.stepW G hi hrw hs' h7 hok hnr hdeaf hrel hcnt, hwg, hmode tag' htag hwk, rfl⟩
  rw [phi_retag T.n _ htag]
  simp only [Vc, Ssum, Fsum] at *
  rcases hlt with ⟨h1, h2⟩ | ⟨h1, h2, h3⟩
  · refine Prod.Lex.left _ _ ?_
    have := phi_mono T.n (v' := sumTo j fun a => cnt (upd D i ⟨s', m', dd'⟩ a)) (v := sumTo j fun a => cnt (D a)) (by omega) tag
    omega
  · have ec : cnt (⟨s', m', dd'⟩ : WD) = cnt (D i) := by simp only [cnt, h1]
    have ev : (sumTo j fun a => cnt (upd D i ⟨s', m', dd'⟩ a)) = sumTo j fun a => cnt (D a) := by omega
    have es' : (sumTo j fun a => (upd D i ⟨s', m', dd'⟩ a).stage) = sumTo j fun a => (D a).stage := by omega
    have er : Rk T j (upd E i o') = Rk T j E := by omega
    rw [ev, es', er]
    refine Prod.Lex.right _ ?_
    omega

/-- Whatever step of the starter's that is neither a go statement nor 'acquire'. -/
theorem callerTurn (G : T.Geo) (ha : gs[0]? = some a) (hcom : Com T j gs w t D E d0)
    {a' : Goroutine} {es : Array Event} {tag' : CTag} {f' : Nat} {st' sm' : Int} (hgo : stepG T.P true a w = .go a' w' es)
    (hrw : ∀ i, i < j → T.RT i w w') (hok : ∀ op ∈ MemOp.ofEvents 0 a.frame.fn a.frame.place es, Ok0 T.Sh Cfg.NoOwn T.Rd j op) (hnr : ∀ e ∈ es, e.loc ≠ .mark (.release (stA T.Wg))) (hcnt : T.Cnt (cur T j E) w')
    (hcs' : SSit T AnchW Post tag' j f' (deafBehind d0 es) a' w') (hwg : WgAt T.ty T.Wg w' st' sm') (hmode : ConcN.Mode j D tag' st' sm')
    (hlt : phi T.n (Vc j D) tag' < phi T.n (Vc j D) tag ∨ (phi T.n (Vc j D) tag' = phi T.n (Vc j D) tag ∧ f' < f0)) :
    ∃ m₁ ops μ', runT T.P (crowd gs w sl) 0 = (.next m₁, ops) ∧ Lt2 μ' (phi T.n (Vc j D) tag + Ssum j D + Rk T j E, f0 + 2 * Fsum j D) ∧ Inv T AnchW Post μ' m₁ (t ++ ops) := by
  have hrun := runT_crowd_go (P := T.P) (sl := sl) (i := 0) ha (by simpa using hgo)
  refine ⟨_, _, (phi T.n (Vc j D) tag' + Ssum j D + Rk T j E, f' + 2 * Fsum j D), hrun, ?_,
    _, w', sl, j, D, E, tag', f', deafBehind d0 es, a', st', sm', rfl, get_map_set_same _ _ _ (by rw [hcom.size]; omega), hcs', hcom.step0 G hrw hok hnr hcnt, hwg, hmode, rfl⟩
  rcases hlt with h | ⟨h1, h2⟩
  · exact Prod.Lex.left _ _ (by omega)
  · rw [h1]; exact Prod.Lex.right _ (by omega)
end
end Go.Proofs.Yteffdcpepjjkbaa.Team

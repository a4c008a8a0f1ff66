/- The run of the law CountsTogether, on every tape. -/
import Derived.Test.YteffdcpepjjkbaaTtK
import Derived.Test.YteffdcpepjjkbaaTtL
import Derived.Test.YteffdcpepjjkbaaTtM
namespace Go.Proofs.Yteffdcpepjjkbaa.Team
open Go.Conc Go.ConcN Go.RowKit Go.Conc.Lib Go.ConcR.Gen Go.ConcN.Gen
open Go.ConcR (KK wgBlock WgAt stA smA rd wr mk Payload Aside2 DC0 ofEvent_cell)
set_option linter.unusedVariables false

theorem least {p : Nat → Prop} (h : ∃ k, p k) : ∃ k, p k ∧ ∀ j, j < k → ¬ p j := by
  obtain ⟨k, hk⟩ := h
  induction k using Nat.strongRecOn with
  | ind k ih =>
    by_cases hj : ∃ j, j < k ∧ p j
    · obtain ⟨j, h1, h2⟩ := hj
      exact ih j h1 h2
    · exact ⟨k, hk, fun j h1 h2 => hj ⟨j, h1, h2⟩⟩
theorem evO_any (N : Nat) : EvO N fun _ => True := ⟨fun _ _ _ _ _ => trivial, fun _ _ => trivial⟩
theorem evOk_any (N hi : Nat) : EvOk N hi fun _ => True := ⟨fun _ _ _ => trivial, fun _ => trivial, fun _ _ _ => trivial⟩
section
variable {N n : Nat} {W : World} {L : Nat → Lst} {c0 bf : Nat → Int}
theorem evO_L : EvO N (EvL (cfg (N + 1) (N + 3) n L c0)) := by
  refine ⟨fun a wr s h1 h2 => ⟨fun x hx hs => ?_, by simp, by simp, by simp⟩, fun a wr => ⟨fun x hx hs => ?_, by simp, by simp, by simp⟩⟩
  · simp only [ofEvent_cell, MemAct.touch?, Option.some.injEq] at hx
    subst hx
    obtain ⟨a', e, hb⟩ := hs
    cases e
    rcases hb with hb | hb
    · exact absurd hb h1
    · exact absurd hb h2
  · simp only [ofEvent_cell, MemAct.touch?, Option.some.injEq] at hx
    subst hx
    simp
theorem evOk_0 : EvOk N (N + 5 + 3 * n) ((cfg (N + 1) (N + 3) n L c0).E0 n) := by
  refine ⟨fun a s h => ⟨fun fn pos => ⟨rfl, fun x hx => ?_⟩, by simp, by simp, by simp⟩, fun i => ⟨fun fn pos => ⟨rfl, fun x hx => ?_⟩, by simp, by simp, by simp⟩, fun a s h => ⟨fun fn pos => ⟨rfl, fun x hx => ?_⟩, by simp, by simp, by simp⟩⟩
  · simp only [ofEvent_cell, MemAct.touch?, Option.some.injEq] at hx
    subst hx
    refine .inr ⟨fun ⟨a', e, hb⟩ => ?_, fun _ _ _ h => h, fun h => by cases h⟩
    cases e
    have hb' : a.block = N + 3 + 1 ∨ a.block = N + 1 := hb
    omega
  · simp only [ofEvent_cell, MemAct.touch?, Option.some.injEq] at hx
    subst hx
    exact .inl ⟨⟨_, rfl, .inr rfl⟩, by simp⟩
  · simp only [ofEvent_cell, MemAct.touch?, Option.some.injEq] at hx
    subst hx
    refine .inr ⟨fun ⟨a', e, hb⟩ => ?_, fun _ _ _ h => h, fun _ k k1 kj ⟨k2, a', e, hb⟩ => ?_⟩
    · cases e
      have hb' : a.block = N + 3 + 1 ∨ a.block = N + 1 := hb
      omega
    · cases e
      omega
theorem fk_of {w : World} (h : FE N n W L c0 bf w ∧ (cfg (N + 1) (N + 3) n L c0).Cnt (fin (cfg (N + 1) (N + 3) n L c0)) w) (hb : vec bf = vec (fin (cfg (N + 1) (N + 3) n L c0))) : FK N (N + 5 + 3 * n) W (fin (cfg (N + 1) (N + 3) n L c0)) w :=
  ⟨h.1.below, by omega, by rw [h.1.size]; omega, h.2, by rw [← hb]; exact h.1.bef⟩
theorem anch_run (g : Goroutine) (w : World) (h : AnchW4 N n W L c0 bf g w) : g.status = .running := by
  obtain ⟨_, _, _, _, _, _, _, hg, _⟩ := h
  rw [hg]
  rfl
theorem anch_round (hb : vec bf = vec (fin (cfg (N + 1) (N + 3) n L c0))) (g : Goroutine) (w : World) (h : AnchW4 N n W L c0 bf g w) :
    ∃ m, GS (N + 1) (N + 3) n L c0 n (AtW1 (cfg (N + 1) (N + 3) n L c0) (AnchW4 N n W L c0 bf) (Post N W)) m g w := by
  obtain ⟨T, hT, t5, t6, hA⟩ := h
  have e72 : (ops20[2]?).bind (·.dst) = some 72 := by kernel_rfl
  have hk : ∀ w, FE N n W L c0 bf w ∧ (cfg (N + 1) (N + 3) n L c0).Cnt (fin (cfg (N + 1) (N + 3) n L c0)) w → Goes Try.prog true Cfg.RF (DF (cfg (N + 1) (N + 3) n L c0)) (AtRet (cfg (N + 1) (N + 3) n L c0) (Post N W)) 2100 (G ((base 4).at ((⟨T, []⟩ : Act).put ((ops20[2]?).bind (·.dst)) (.tuple #[])) (.inRegion ops20 [] :: [.code R21])) []) w := by
    intro w hw
    rw [e72]
    exact tail4 evOk_0 (T.setIfInBounds 72 (.tuple #[])) (by simpa using hT) (by rw [Array.getElem?_setIfInBounds_ne (by decide)]; exact t5) (by rw [Array.getElem?_setIfInBounds_ne (by decide)]; exact t6) w (fk_of hw hb)
  obtain ⟨m, hm⟩ := anW_round (Post := Post N W) (b₄ := base 4) (a₄ := ⟨T, []⟩) (ops₄ := ops20) (i₄ := 2) (rest₄ := []) (k₄ := [.code R21]) (m4 := 2100) hk g w hA
  exact ⟨m, goes_mono (fun _ _ y => w1_mono (fun _ _ z => ⟨T, hT, t5, t6, z⟩) y) hm⟩
end

section
variable {n : Nat} {W : World} {L : Nat → Lst} {la : Option Addr} {lcap : Nat} {d : Int}
theorem the_run (hI : Inp W.heap.size W la n L) (h0 : 0 ≤ d) (h1 : d < 256) :
    ∃ M last o w' t', runNT Try.prog (M + 1) (solo (G (Frame.enter Try.prog 4 #[.slice la n lcap, .int .u8 d] .normal) []) W) #[] = (.ended o w', t') ∧
      runN Try.prog M (solo (G (Frame.enter Try.prog 4 #[.slice la n lcap, .int .u8 d] .normal) []) W) = .next last ∧ step Try.prog last = .ended o w' ∧ Good Try.prog (Post W.heap.size W) last o w' t' := by
  have e : Frame.enter Try.prog 4 #[.slice la n lcap, .int .u8 d] .normal = (base 4).at ⟨#[.slice la n lcap, .int .u8 d, undef, undef, undef, undef, undef, undef, undef, undef, undef, undef, undef, undef, undef, undef, undef, undef, undef, undef, undef, undef, undef, undef, undef, undef, undef, undef, undef, undef, undef, undef, undef, undef, undef, undef, undef, undef, undef, undef, undef, undef, undef, undef, undef, undef, undef, undef, undef, undef, undef, undef, undef, undef, undef, undef, undef, undef, undef, undef, undef, undef, undef, undef, undef, undef, undef, undef, undef, undef, undef, undef, undef, undef, undef, undef, undef], []⟩ [.code body4] := by
    simp [Frame.enter, Frame.at, Try.func4, base, body4, Try.f4]
  rw [e]
  clear e
  generalize hN : W.heap.size = N at hI ⊢
  by_cases h80 : 80 < n
  · exact lone_join (entryMany (evO_any N) h80 hN)
  by_cases hs : ∀ k, k < n → (L k).len ≤ 300
  · by_cases h64 : n ≤ 64
    · have hdec : decide (n ≤ 64) = true := by simpa using h64
      have hw0 : ∀ x, put (fun _ => 0) 1 d x = Cfg.wrapU (put (fun _ => 0) 1 d x) := fun x => by
        simp only [put]
        split <;> simp only [Cfg.wrapU] <;> omega
      have hb : vec (tallyFrom true L 0 n (put (fun _ => 0) 1 d)) = vec (fin (cfg (N + 1) (N + 3) n L (put (fun _ => 0) 1 d))) := vec_congr fun x _ => by
        rw [tallyFrom_true L n 0 _ hw0 x]
        simp only [Nat.zero_add]
        rfl
      obtain ⟨f₁, h₁⟩ := begin (E := EvL (cfg (N + 1) (N + 3) n L (put (fun _ => 0) 1 d))) (lcap := lcap) (c := put (fun _ => 0) 1 d) (bf := tallyFrom true L 0 n (put (fun _ => 0) 1 d)) evO_L (c0 := put (fun _ => 0) 1 d) hI h64 (vec_congr fun x _ => hw0 x)
      obtain ⟨f₂, h₂⟩ := outer (tgt := tallyFrom true L 0 n (put (fun _ => 0) 1 d)) evO_L hI (by omega) (Nat.le_refl n) hs h₁ n 0 (by omega)
      rw [hdec] at h₂
      exact team_join (T := cfg (N + 1) (N + 3) n L (put (fun _ => 0) 1 d)) (geo (by omega)) (by show n < 2147483648; omega) anch_run (anch_round hb) (entryFew evO_L (by omega) hN h0 (by omega) (fun g w hA hF => h₂ _ g w hA hF rfl))
    · have hdec : decide (n ≤ 64) = false := by simpa using h64
      obtain ⟨f₂, h₂⟩ := outer (E := fun _ => True) (tgt := put (fun _ => 0) 1 d) (c := put (fun _ => 0) 1 d) (lcap := lcap) (evO_any N) hI (by omega) (Nat.le_refl n) hs (many (evO_any N) (evOk_any N (N + 4)) (by omega) (by omega) rfl) n 0 (by omega)
      rw [hdec] at h₂
      exact lone_join (entryFew (evO_any N) (by omega) hN h0 (by omega) (fun g w hA hF => h₂ _ g w hA hF (tallyFrom_false _ _ _ _)))
  · have hex : ∃ k, k < n ∧ 300 < (L k).len := by
      apply Classical.byContradiction
      intro hno
      exact hs fun k hk => Nat.le_of_not_lt fun h => hno ⟨k, hk, h⟩
    obtain ⟨k, ⟨hk, hl⟩, hmin⟩ : ∃ k, (k < n ∧ 300 < (L k).len) ∧ ∀ j, j < k → ¬ (j < n ∧ 300 < (L j).len) := least hex
    obtain ⟨f₂, h₂⟩ := outer (E := fun _ => True) (m := k) (tgt := tallyFrom (decide (n ≤ 64)) L 0 k (put (fun _ => 0) 1 d)) (c := put (fun _ => 0) 1 d) (lcap := lcap) (evO_any N) hI (by omega) (by omega) (fun j hj => Nat.le_of_not_lt fun h => hmin j hj ⟨by omega, h⟩) (long (evO_any N) hI (by omega) hk hl) k 0 (by omega)
    exact lone_join (entryFew (evO_any N) (by omega) hN h0 (by omega) (fun g w hA hF => h₂ _ g w hA hF rfl))
end
end Go.Proofs.Yteffdcpepjjkbaa.Team

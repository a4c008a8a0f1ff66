/- The team: what each suffers, where each stands, what holds at every moment. -/
import Derived.Test.YteffdcpepjjkbaaTeamA
namespace Go.Proofs.Yteffdcpepjjkbaa.Team
open Go.Conc Go.ConcN
open Go.ConcR (KK wgBlock WgAt stA smA rd wr mk Payload DC0 Bk g_of_ofEvents again_blocked ofEvent_loc_mark ofEvent_cell bk_of_mute deafBehind_cons deafBehind_one)
variable [Payload]

omit [Payload] in
theorem Goes.imp {P : Program} {main : Bool} {R R' : World → World → Prop} {D D' : World → World → Array Event → Prop} {Stop Stop' : Goroutine → World → Prop} (hR : ∀ a b, R' a b → R a b) (hD : ∀ a b es, D a b es → D' a b es) (hS : ∀ g w, Stop g w → Stop' g w) :
    ∀ {m : Nat} {g : Goroutine} {w : World}, Goes P main R D Stop m g w → Goes P main R' D' Stop' m g w
  | 0, _, _, h => fun w₁ r => hS _ _ (h w₁ (hR _ _ r))
  | m + 1, g, w, h => by
    rcases h with h | ⟨hr, h⟩
    · exact .inl fun w₁ r => hS _ _ (h w₁ (hR _ _ r))
    · refine .inr ⟨hr, fun w₁ r => ?_⟩
      obtain ⟨g', w', es, e, hd, hn⟩ := goes_elim (h w₁ (hR _ _ r))
      rw [e]
      exact ⟨hD _ _ _ hd, Goes.imp hR hD hS hn⟩

section
variable {T : Cfg} {w w₁ w₂ : World} {i j : Nat}
omit [Payload] in
theorem Cfg.Cnt.of_block {c : Nat → Int} (h : T.Cnt c w) (e : w₁.heap[T.Cb]? = w.heap[T.Cb]?) : T.Cnt c w₁ := e.trans h
omit [Payload] in
theorem live_block {ty : TypeId} {Wg : Nat} (h : WgLive ty Wg w) (e : w₁.heap[Wg]? = w.heap[Wg]?) : WgLive ty Wg w₁ := let ⟨st, sm, x⟩ := h; ⟨st, sm, x.of_block e⟩
omit [Payload] in
theorem Cfg.Cnt.raise {c : Nat → Int} {x : Nat} (h : T.Cnt c w) (hx : x < 8) : T.Cnt (Cfg.raise c x) (w.setCell ⟨T.Cb, x, none⟩ (.int .u64 (Cfg.wrapU (c x + 1)))) := by
  have hb : (w.setCell ⟨T.Cb, x, none⟩ (.int .u64 (Cfg.wrapU (c x + 1)))).heap[T.Cb]? = some (.cells ((#[.int .u64 (c 0), .int .u64 (c 1), .int .u64 (c 2), .int .u64 (c 3), .int .u64 (c 4), .int .u64 (c 5), .int .u64 (c 6), .int .u64 (c 7)] : Array Value).setIfInBounds x (.int .u64 (Cfg.wrapU (c x + 1)))) T.tC) := by
    rw [setCell_eq_setRow w T.Cb x _ T.tC (0, 0) _ h, setRow_heap w T.Cb _ _ _ _ h]
  unfold Cfg.Cnt
  rw [hb]
  match x, hx with
  | 0, _ | 1, _ | 2, _ | 3, _ | 4, _ | 5, _ | 6, _ | 7, _ => rfl

omit [Payload] in
theorem Cfg.RT.refl (w : World) : T.RT i w w := ⟨fun _ _ _ _ _ => rfl, id, id⟩
omit [Payload] in
theorem Cfg.RT.trans (h : T.RT i w w₁) (k : T.RT i w₁ w₂) : T.RT i w w₂ := ⟨fun b a1 a2 a3 a4 => (k.keep b a1 a2 a3 a4).trans (h.keep b a1 a2 a3 a4), k.live ∘ h.live, k.cnt ∘ h.cnt⟩
omit [Payload] in
theorem Cfg.RT.at (w : World) (d : Nat) : T.RT i w (w.at d) := ⟨fun _ _ _ _ _ => rfl, id, id⟩
theorem Cfg.RT.of_ck (G : T.Geo) {k : Nat} (hk : k < T.n) (hne : k ≠ i) {m : Nat} (h : AsideCell (T.Ck k) 1 m w w₁) : T.RT i w w₁ :=
  ⟨fun b _ _ _ h4 => h.block b (h4 k hk hne), fun hl => live_block hl (h.block _ (Ne.symm (G.hKW k hk))), fun ⟨c, hc⟩ => ⟨c, Cfg.Cnt.of_block hc (h.block _ (Ne.symm (G.hKC k hk)))⟩⟩
omit [Payload] in
theorem Cfg.RT.of_wg (G : T.Geo) (h : Aside T.Wg w w₁) (hl : WgLive T.ty T.Wg w₁) : T.RT i w w₁ := ⟨fun b _ h2 _ _ => h.block b h2, fun _ => hl, fun ⟨c, hc⟩ => ⟨c, Cfg.Cnt.of_block hc (h.block _ G.hCW)⟩⟩
omit [Payload] in
theorem Cfg.RT.of_cb (G : T.Geo) (h : Aside T.Cb w w₁) (hc : ∃ c, T.Cnt c w₁) : T.RT i w w₁ := ⟨fun b _ _ h3 _ => h.block b h3, fun hl => live_block hl (h.block _ (Ne.symm G.hCW)), fun _ => hc⟩
omit [Payload] in
theorem Cfg.RT.of_low (G : T.Geo) {L : Nat} (hL : T.Lw (i + 1) ≤ L) (h : ∀ b, b < L → w₁.heap[b]? = w.heap[b]?) : T.RT i w w₁ := by
  have h0 := G.mono 0 (i + 1) (by omega)
  have h1 := G.hW
  have h2 := G.hC
  exact ⟨fun b hb _ _ _ => h b (by omega), fun hl => live_block hl (h _ (by omega)), fun ⟨c, hc⟩ => ⟨c, Cfg.Cnt.of_block hc (h _ (by omega))⟩⟩
theorem Cfg.RT.rw (G : T.Geo) (hi : i < T.n) (h : T.RT i w w₁) : RW T.ty T.Wg (T.Ck i) 1 0 (1 - 1) w w₁ := by
  have hb := h.keep (T.Ck i) (G.hK i hi) (G.hKW i hi) (G.hKC i hi) (fun k hk hne => G.hKK i k hi hk (Ne.symm hne))
  exact ⟨fun b hb => absurd hb (by omega), h.live, fun ⟨cs, hc, hn⟩ => ⟨cs, hb.trans hc, hn⟩, cell_of_block hb _⟩

omit [Payload] in
theorem Cfg.RS.refl (w : World) : T.RS j w w := ⟨rfl, rfl, rfl, rfl, fun _ _ _ _ => rfl, id, id⟩
omit [Payload] in
theorem Cfg.RS.trans (h : T.RS j w w₁) (k : T.RS j w₁ w₂) : T.RS j w w₂ := ⟨k.tape.trans h.tape, k.os.trans h.os, k.output.trans h.output, k.size.trans h.size, fun b a1 a2 a3 => (k.block b a1 a2 a3).trans (h.block b a1 a2 a3), k.live ∘ h.live, k.cnt ∘ h.cnt⟩
omit [Payload] in
theorem Cfg.RS.at (w : World) (d : Nat) : T.RS j w (w.at d) := ⟨rfl, rfl, rfl, rfl, fun _ _ _ _ => rfl, id, id⟩
theorem Cfg.RS.of_ck (G : T.Geo) (hi : i < T.n) (hij : i < j) {m : Nat} (h : AsideCell (T.Ck i) 1 m w w₁) : T.RS j w w₁ :=
  ⟨h.tape, h.os, h.output, h.size, fun b _ _ h3 => h.block b (h3 i hij), fun hl => live_block hl (h.block _ (Ne.symm (G.hKW i hi))), fun ⟨c, hc⟩ => ⟨c, Cfg.Cnt.of_block hc (h.block _ (Ne.symm (G.hKC i hi)))⟩⟩
omit [Payload] in
theorem Cfg.RS.of_wg (G : T.Geo) (h : Aside T.Wg w w₁) (hl : WgLive T.ty T.Wg w₁) : T.RS j w w₁ := ⟨h.tape, h.os, h.output, h.size, fun b h2 _ _ => h.block b h2, fun _ => hl, fun ⟨c, hc⟩ => ⟨c, Cfg.Cnt.of_block hc (h.block _ G.hCW)⟩⟩
omit [Payload] in
theorem Cfg.RS.of_cb (G : T.Geo) (h : Aside T.Cb w w₁) (hc : ∃ c, T.Cnt c w₁) : T.RS j w w₁ := ⟨h.tape, h.os, h.output, h.size, fun b _ h3 _ => h.block b h3, fun hl => live_block hl (h.block _ (Ne.symm G.hCW)), fun _ => hc⟩
omit [Payload] in
theorem Cfg.RS.more (h : T.RS j w w₁) : T.RS (j + 1) w w₁ := ⟨h.tape, h.os, h.output, h.size, fun b a1 a2 a3 => h.block b a1 a2 (fun i hi => a3 i (by omega)), h.live, h.cnt⟩
omit [Payload] in
theorem Cfg.RF.refl (w : World) : Cfg.RF w w := ⟨rfl, rfl, rfl, rfl⟩
omit [Payload] in
theorem Cfg.RF.trans (h : Cfg.RF w w₁) (k : Cfg.RF w₁ w₂) : Cfg.RF w w₂ := ⟨k.heap.trans h.heap, k.tape.trans h.tape, k.os.trans h.os, k.output.trans h.output⟩
omit [Payload] in
theorem Cfg.RF.at (w : World) (d : Nat) : Cfg.RF w (w.at d) := ⟨rfl, rfl, rfl, rfl⟩
end

/-! ### What may be listed -/
section
variable {T : Cfg} {k j : Nat} {fn : FuncId} {pos : String} {es : Array Event}
omit [Payload] in
theorem ofEv {g : Nat} {Q : MemOp → Prop} (h : ∀ e ∈ es, Q { g := g, fn, pos, act := .ofEvent e }) : ∀ op ∈ MemOp.ofEvents g fn pos es, Q op := by
  intro op hop
  rw [ofEvents_eq] at hop
  obtain ⟨e, he, rfl⟩ := Array.mem_map.1 hop
  exact h e he
omit [Payload] in
theorem ew_of (h : ∀ e ∈ es, T.EW k e) : ∀ op ∈ MemOp.ofEvents k fn pos es, OkW T.Sh Cfg.NoOwn T.Rd k op := ofEv fun e he => (h e he).1 fn pos
omit [Payload] in
theorem e0_of (h : ∀ e ∈ es, T.E0 j e) : ∀ op ∈ MemOp.ofEvents 0 fn pos es, Ok0 T.Sh Cfg.NoOwn T.Rd j op := ofEv fun e he => (h e he).1 fn pos
omit [Payload] in
/-- The library's words for a worker's idle step, read as the team's. -/
theorem ew_of_lib {i : Nat} {e : Event} (h : EvW T.Wg (fun _ _ => False) (fun _ => T.Rd (i + 1)) 1 e) : T.EW (i + 1) e := by
  refine ⟨fun fn pos => ⟨rfl, fun x hx => ?_⟩, h.2⟩
  rcases (h.1 fn pos).2 x hx with ⟨⟨a, ha, hb⟩, h2, h3⟩ | h1 | ⟨h1, h2⟩
  · exact .inl ⟨⟨a, ha, .inl hb⟩, h2, h3⟩
  · exact h1.elim
  · exact .inr (.inr ⟨h1, h2⟩)
omit [Payload] in
/-- The library's words for the starter's. -/
theorem e0_of_lib {e : Event} (h : Ev0 T.Wg (Own1 T) (Rd1 T) (j + 1) e) : T.E0 j e := by
  refine ⟨fun fn pos => ⟨rfl, fun x hx => ?_⟩, h.2⟩
  rcases (h.1 fn pos).2 x hx with ⟨⟨a, ha, hb⟩, h2⟩ | ⟨h1, h2, h3⟩
  · exact .inl ⟨⟨a, ha, .inl hb⟩, h2⟩
  · refine .inr ⟨fun ⟨a, ha, hb⟩ => ?_, fun _ _ _ h => h, fun hw q q1 qj hr => h3 hw (q + 1) (by omega) (by omega) ⟨by omega, by rw [Nat.add_sub_cancel]; exact hr⟩⟩
    rcases hb with hb | hb
    · exact h1 ⟨a, ha, hb⟩
    · exact h2 1 (by omega) (by omega) ⟨rfl, a, ha, hb⟩
omit [Payload] in
/-- The library's bookkeeping. -/
theorem okW_bk (h : ∀ e ∈ es, Bk T.Wg e) : ∀ op ∈ MemOp.ofEvents k fn pos es, OkW T.Sh Cfg.NoOwn T.Rd k op := ofEv fun e he => by
  refine ⟨rfl, fun x hx => ?_⟩
  rcases h e he with h1 | h1 | ⟨a, wr, rfl, ha⟩
  · simp only [ofEvent_loc_mark h1] at hx; cases hx
  · simp only [ofEvent_loc_mark h1] at hx; cases hx
  · simp only [ofEvent_cell, MemAct.touch?, Option.some.injEq] at hx
    subst hx
    exact .inl ⟨⟨a, rfl, .inl ha⟩, by simp, by simp⟩
omit [Payload] in
theorem ok0_bk (h : ∀ e ∈ es, Bk T.Wg e) : ∀ op ∈ MemOp.ofEvents 0 fn pos es, Ok0 T.Sh Cfg.NoOwn T.Rd j op := ofEv fun e he => by
  refine ⟨rfl, fun x hx => ?_⟩
  rcases h e he with h1 | h1 | ⟨a, wr, rfl, ha⟩
  · simp only [ofEvent_loc_mark h1] at hx; cases hx
  · simp only [ofEvent_loc_mark h1] at hx; cases hx
  · simp only [ofEvent_cell, MemAct.touch?, Option.some.injEq] at hx
    subst hx
    exact .inl ⟨⟨a, rfl, .inl ha⟩, by simp⟩
omit [Payload] in
theorem okW_quiet (h : ∀ e ∈ es, (MemAct.ofEvent e).touch? = none) : ∀ op ∈ MemOp.ofEvents k fn pos es, OkW T.Sh Cfg.NoOwn T.Rd k op := ofEv fun e he => ⟨rfl, fun x hx => by simp only [h e he] at hx; cases hx⟩
omit [Payload] in
theorem ok0_quiet (h : ∀ e ∈ es, (MemAct.ofEvent e).touch? = none) : ∀ op ∈ MemOp.ofEvents 0 fn pos es, Ok0 T.Sh Cfg.NoOwn T.Rd j op := ofEv fun e he => ⟨rfl, fun x hx => by simp only [h e he] at hx; cases hx⟩
omit [Payload] in
/-- An atomic add to a counter. -/
theorem ew_add (x : Nat) : ∀ e ∈ #[rd ⟨T.Cb, x, none⟩, wr ⟨T.Cb, x, none⟩], T.EW k e := by
  intro e he
  simp at he
  have key : ∀ b : Bool, T.EW k ⟨.cell ⟨T.Cb, x, none⟩, b, true⟩ := fun b => by
    refine ⟨fun fn pos => ⟨rfl, fun y hy => ?_⟩, by simp, by simp, by simp⟩
    simp only [ofEvent_cell, MemAct.touch?, Option.some.injEq] at hy
    subst hy
    exact .inl ⟨⟨_, rfl, .inr rfl⟩, by simp, by simp⟩
  rcases he with rfl | rfl
  · exact key _
  · exact key _
end

/-! ### Where each stands -/
section
variable (T : Cfg)
def StopA (i : Nat) : List Nat → Goroutine → World → Prop
  | [] => AtTail T i
  | x :: xs => AtAdd T x (Script T i xs)
theorem script_iff (i : Nat) (xs : List Nat) (g : Goroutine) (w : World) : Script T i xs g w ↔ ∃ m, Goes T.P false (T.RT i) (DT T i) (StopA T i xs) m g w := by cases xs <;> exact Iff.rfl
/-- What worker i still has to raise (none: it is in its tail), stage, fuel, deafness. -/
inductive TSit (i : Nat) : Option (List Nat) → Nat → Nat → Nat → Goroutine → World → Prop
  | add {xs : List Nat} {m : Nat} {g : Goroutine} {w : World} : (∀ x ∈ xs, x < 8) → Goes T.P false (T.RT i) (DT T i) (StopA T i xs) m g w → TSit i (some xs) 7 m 0 g w
  | tail {s m d : Nat} {g : Goroutine} {w : World} : Tail T i s m d g w → TSit i none s m d g w
def rest : Option (List Nat) → List Nat
  | some xs => xs
  | none => []
def rank : Option (List Nat) → Nat
  | some xs => xs.length + 1
  | none => 0

variable (AnchW : Goroutine → World → Prop) (Post : Value → World → Prop)
def Fin (g : Goroutine) (w : World) : Prop := ∃ m, Goes T.P true (T.RS T.n) (DS T T.n) (AtKd T AnchW) m g w
local notation "GP" => Goes T.P true (T.RS T.n) (DS T T.n)
local notation "GS" j => Goes T.P true (T.RS j) (DS T j)
local notation "NX" r => Spawns T (Fin T AnchW) r
/-- tag, how many are started, fuel, deafness. -/
inductive SSit : CTag → Nat → Nat → Nat → Goroutine → World → Prop
  | skd {r m : Nat} {g : Goroutine} {w : World} : r < T.n → (GS (T.n - (r + 1))) (AtKdS T (T.n - (r + 1)) (NX r)) m g w → SSit (.sp r 5) (T.n - (r + 1)) m 0 g w
  | sa1 {r m : Nat} {g : Goroutine} {w : World} : r < T.n → (GS (T.n - (r + 1))) (AtA1 T (T.n - (r + 1)) (NX r)) m g w → SSit (.sp r 4) (T.n - (r + 1)) m 1 g w
  | ske {r m : Nat} {g : Goroutine} {w : World} : r < T.n → (GS (T.n - (r + 1))) (AtKeS T (T.n - (r + 1)) (NX r)) m g w → SSit (.sp r 3) (T.n - (r + 1)) m 1 g w
  | sgo {r m : Nat} {g : Goroutine} {w : World} : r < T.n → (GS (T.n - (r + 1))) (AtGo T (T.n - (r + 1)) (NX r)) m g w → SSit (.sp r 2) (T.n - (r + 1)) m 0 g w
  | kd {m : Nat} {g : Goroutine} {w : World} : GP (AtKd T AnchW) m g w → SSit .kd T.n m 0 g w
  | anch {m : Nat} {g : Goroutine} {w : World} : GP AnchW m g w → SSit .anch T.n m 1 g w
  | w1 {m : Nat} {g : Goroutine} {w : World} : GP (AtW1 T AnchW Post) m g w → SSit .w1 T.n m 1 g w
  | w2 {vs m : Nat} {g : Goroutine} {w : World} : GP (AtW2 T AnchW Post vs) m g w → SSit (.w2 vs) T.n m 1 g w
  | w3 {m : Nat} {g : Goroutine} {w : World} : GP (AtW3 T Post) m g w → SSit .w3 T.n (m + 1) 1 g w
  | blk {g : Goroutine} {w : World} : (∀ w₁, T.RS T.n w w₁ → AtW3 T Post g w₁) → SSit .blk T.n 0 1 { g with status := .blocked } w
  | w4 {m : Nat} {g : Goroutine} {w : World} : GP (AtW4 T Post) m g w → SSit .w4 T.n m 1 g w
  | ke {m : Nat} {g : Goroutine} {w : World} : GP (AtKe T Post) m g w → SSit .ke T.n m 1 g w
  | acq {m : Nat} {g : Goroutine} {w : World} : GP (AtAcq T Post) m g w → SSit .acq T.n m 0 g w
end

section
variable {T : Cfg} {i : Nat} {o : Option (List Nat)} {s m d : Nat} {g : Goroutine} {w w₁ : World}
theorem TSit.rely (G : T.Geo) (hi : i < T.n) (h : TSit T i o s m d g w) (hr : T.RT i w w₁) : TSit T i o s m d g w₁ := by
  have tr : ∀ x y z, T.RT i x y → T.RT i y z → T.RT i x z := fun _ _ _ h1 h2 => h1.trans h2
  cases h with
  | add hx h => exact .add hx (Goes.rely tr h hr)
  | tail h => exact .tail (WSit.rely h (hr.rw G hi))
theorem StopA.running {xs : List Nat} {g : Goroutine} {w : World} (h : StopA T i xs g w) : g.status = .running := by
  cases xs with
  | nil =>
    obtain ⟨m, h⟩ := h
    exact Goes.running (fun _ _ x => x.1) w (RW.refl w) h
  | cons x xs => exact h.1
theorem TSit.status (h : TSit T i o s m d g w) : g.status = .running ∨ g.status = .finished := by
  cases h with
  | add _ h => exact .inl (Goes.running (fun _ _ x => x.running) w (Cfg.RT.refl w) h)
  | tail h => exact WSit.status h
theorem TSit.woken (h : TSit T i o s m d g w) (a a' : Goroutine) (w' : World) : woken T.P a a' w' g = g := by
  unfold Go.Conc.woken
  split
  · exact again_running _ h.status
  · rfl
theorem TSit.running_of (h : TSit T i o s m d g w) (hs : s ≠ 1) : g.status = .running := by
  cases h with
  | add _ h => exact Goes.running (fun _ _ x => x.running) w (Cfg.RT.refl w) h
  | tail h => exact WSit.running_of h hs
variable {AnchW : Goroutine → World → Prop} {Post : Value → World → Prop} {tag : CTag} {j f : Nat} {a : Goroutine} {w' : World}
theorem SSit.rely (h : SSit T AnchW Post tag j f d a w) (hr : T.RS j w w') : SSit T AnchW Post tag j f d a w' := by
  have tr : ∀ x y z, T.RS j x y → T.RS j y z → T.RS j x z := fun _ _ _ h1 h2 => h1.trans h2
  cases h with
  | skd hn h => exact .skd hn (Goes.rely tr h hr)
  | sa1 hn h => exact .sa1 hn (Goes.rely tr h hr)
  | ske hn h => exact .ske hn (Goes.rely tr h hr)
  | sgo hn h => exact .sgo hn (Goes.rely tr h hr)
  | kd h => exact .kd (Goes.rely tr h hr)
  | anch h => exact .anch (Goes.rely tr h hr)
  | w1 h => exact .w1 (Goes.rely tr h hr)
  | w2 h => exact .w2 (Goes.rely tr h hr)
  | w3 h => exact .w3 (Goes.rely tr h hr)
  | blk h => exact .blk (fun w₂ h₂ => h w₂ (hr.trans h₂))
  | w4 h => exact .w4 (Goes.rely tr h hr)
  | ke h => exact .ke (Goes.rely tr h hr)
  | acq h => exact .acq (Goes.rely tr h hr)
theorem SSit.status (hAr : ∀ g w, AnchW g w → g.status = .running) (h : SSit T AnchW Post tag j f d a w) : (a.status = .running ∧ tag ≠ .blk) ∨ (a.status = .blocked ∧ tag = .blk) := by
  cases h with
  | anch h => exact .inl ⟨Goes.running hAr w (.refl w) h, by simp⟩
  | blk h => exact .inr ⟨rfl, rfl⟩
  | skd _ h => exact .inl ⟨Goes.running (fun _ _ x => x.1) w (.refl w) h, by simp⟩
  | sa1 _ h => exact .inl ⟨Goes.running (fun _ _ x => x.1) w (.refl w) h, by simp⟩
  | ske _ h => exact .inl ⟨Goes.running (fun _ _ x => x.1) w (.refl w) h, by simp⟩
  | sgo _ h => exact .inl ⟨Goes.running (fun _ _ x => x.1) w (.refl w) h, by simp⟩
  | kd h => exact .inl ⟨Goes.running (fun _ _ x => x.1) w (.refl w) h, by simp⟩
  | w1 h => exact .inl ⟨Goes.running (fun _ _ x => x.1) w (.refl w) h, by simp⟩
  | w2 h => exact .inl ⟨Goes.running (fun _ _ x => x.1) w (.refl w) h, by simp⟩
  | w3 h => exact .inl ⟨Goes.running (fun _ _ x => x.1) w (.refl w) h, by simp⟩
  | w4 h => exact .inl ⟨Goes.running (fun _ _ x => x.1) w (.refl w) h, by simp⟩
  | ke h => exact .inl ⟨Goes.running (fun _ _ x => x.1) w (.refl w) h, by simp⟩
  | acq h => exact .inl ⟨Goes.running (fun _ _ x => x.1) w (.refl w) h, by simp⟩
/-- Under another's step: as it stood; or, blocked, let try again. -/
theorem SSit.wokenBy (hAr : ∀ g w, AnchW g w → g.status = .running) (h : SSit T AnchW Post tag j f d a w) (hr : T.RS j w w') (g g' : Goroutine) :
    ∃ tag' f', SSit T AnchW Post tag' j f' d (woken T.P g g' w' a) w' ∧ f' ≤ f + 1 ∧ (tag' = tag ∨ (tag = .blk ∧ tag' = .w3)) ∧ (mayWake T.P g = true → g'.status = .running → tag' ≠ .blk) := by
  have h' := h.rely hr
  unfold Go.Conc.woken
  split
  · rcases h'.status hAr with ⟨hs, hne⟩ | ⟨_, rfl⟩
    · exact ⟨tag, f, by rw [again_running _ (.inl hs)]; exact h', by omega, .inl rfl, fun _ _ => hne⟩
    · cases h' with
      | blk hb =>
        have h3 := hb w' (.refl w')
        exact ⟨.w3, 0 + 1, by rw [again_blocked h3.1 h3.2.1]; exact .w3 (Goes.stop hb), by omega, .inr ⟨rfl, rfl⟩, fun _ _ => by simp⟩
  · rename_i hc
    exact ⟨tag, f, h', by omega, .inl rfl, fun h1 h2 => absurd (by simp [h1, h2]) hc⟩
theorem SSit.bound (h : SSit T AnchW Post tag j f d a w) : j + pend tag ≤ T.n := by
  cases h <;> simp only [pend] <;> (try simp) <;> omega
end
end Go.Proofs.Yteffdcpepjjkbaa.Team

/- Together's starter: the loop that starts the workers, into Wait, and back. -/
import Derived.Test.YteffdcpepjjkbaaTsC
namespace Go.Proofs.Yteffdcpepjjkbaa.Team
open Go.Conc Go.ConcN Go.RowKit Go.Conc.Lib Go.ConcR.Gen Go.ConcN.Gen
open Go.ConcR (KK wgBlock WgAt stA smA rd wr mk Payload Aside2 DC0 ofEvent_cell)
set_option linter.unusedVariables false

theorem array24 (T : Array Value) (h : T.size = 24) : ∃ v0 v1 v2 v3 v4 v5 v6 v7 v8 v9 v10 v11 v12 v13 v14 v15 v16 v17 v18 v19 v20 v21 v22 v23 : Value, T = #[v0, v1, v2, v3, v4, v5, v6, v7, v8, v9, v10, v11, v12, v13, v14, v15, v16, v17, v18, v19, v20, v21, v22, v23] := by
  obtain ⟨l⟩ := T
  match l, h with
  | [v0, v1, v2, v3, v4, v5, v6, v7, v8, v9, v10, v11, v12, v13, v14, v15, v16, v17, v18, v19, v20, v21, v22, v23], _ => exact ⟨v0, v1, v2, v3, v4, v5, v6, v7, v8, v9, v10, v11, v12, v13, v14, v15, v16, v17, v18, v19, v20, v21, v22, v23, rfl⟩

theorem nm19 : (Try.f19.name == "runtime.NumGoroutine") = false := by kernel_rfl
theorem nm21 : (Try.f21.name == "runtime.NumGoroutine") = false := by kernel_rfl
theorem nm26 : (Try.f26.name == "runtime.NumGoroutine") = false := by kernel_rfl
noncomputable def body13 : Code := Try.f13.body.getD .skip
noncomputable def L13 : Code := match body13 with | .seq _ (.seq _ (.seq _ (.seq (.seq _ (.block _ (.loop c))) _))) => c | _ => .skip
noncomputable def R13 : Code := match body13 with | .seq _ (.seq _ (.seq _ (.seq _ r))) => r | _ => .skip
noncomputable def ops13 : Array Oper := match R13 with | .region _ ops _ => ops | _ => #[]

/-- THE INPUT: n lists. -/
structure Inp (N : Nat) (W : World) (la : Option Addr) (n : Nat) (L : Nat → Lst) : Prop where
  nil : 0 < n → ∃ ad, la = some ad
  row : ∀ k ad, k < n → la = some ad → ad.block < N ∧ W.cell? (ad.add k) = some (L k).val
  len : ∀ k, k < n → (L k).len = (L k).xs.length
  big : ∀ k, k < n → (L k).len ≤ 9223372036854775807
  nilk : ∀ k, k < n → 0 < (L k).len → ∃ ad, (L k).a = some ad
  el : ∀ k i ad, k < n → i < (L k).len → (L k).a = some ad → ad.block < N ∧ W.cell? (ad.add i) = some (.int .i64 ((L k).xs.getD i 0))

section
variable {T : Cfg} {A A' : Goroutine → World → Prop} {Post : Value → World → Prop} {g : Goroutine} {w : World}
theorem w2_mono (h : ∀ g w, A g w → A' g w) {vs : Nat} (x : AtW2 T A Post vs g w) : AtW2 T A' Post vs g w :=
  ⟨x.1, fun v hv hw => ⟨(x.2 v hv hw).1, fun e => let ⟨g', e1, m, hm⟩ := (x.2 v hv hw).2 e; ⟨g', e1, m, goes_mono h hm⟩⟩⟩
theorem w1_mono (h : ∀ g w, A g w → A' g w) (x : AtW1 T A Post g w) : AtW1 T A' Post g w :=
  ⟨x.1, fun v hv hw => let ⟨g', e1, e2, e3⟩ := x.2 v hv hw; ⟨g', e1, e2, fun e => let ⟨m, hm⟩ := e3 e; ⟨m, goes_mono (fun _ _ y => w2_mono h y) hm⟩⟩⟩
theorem kd_mono (h : ∀ g w, A g w → A' g w) (x : AtKd T A g w) : AtKd T A' g w :=
  ⟨x.1, let ⟨g', e1, m, hm⟩ := x.2; ⟨g', e1, m, goes_mono h hm⟩⟩
end

section
variable (N n : Nat) (W : World) (L : Nat → Lst) (c0 bf : Nat → Int) (c4 : Frame)
/-- What the starter knows once all are started. -/
abbrev FE : World → Prop := SI N n W L c0 bf n 0 none none none
noncomputable def cW (T : Array Value) : Frame := (base 13).at ⟨T, []⟩ [.inRegion ops13 [0]]
def AnW (g : Goroutine) (w : World) : Prop := ∃ T : Array Value, T.size = 24 ∧ AnchWt (N + 3) (FE N n W L c0 bf) (cW T) [c4] g w
abbrev SP (r : Nat) : Goroutine → World → Prop := Spawns (cfg (N + 1) (N + 3) n L c0) (Fin (cfg (N + 1) (N + 3) n L c0) (AnW N n W L c0 bf c4)) r
/-- The next stop, r workers being still to be started. -/
def StopS : Nat → Goroutine → World → Prop
  | 0 => AtKd (cfg (N + 1) (N + 3) n L c0) (AnW N n W L c0 bf c4)
  | r + 1 => AtKdS (cfg (N + 1) (N + 3) n L c0) (n - (r + 1)) (SP N n W L c0 bf c4 r)
theorem spawns_iff (r : Nat) (g : Goroutine) (w : World) : SP N n W L c0 bf c4 r g w ↔ ∃ m, GS (N + 1) (N + 3) n L c0 (n - r) (StopS N n W L c0 bf c4 r) m g w := by cases r <;> exact Iff.rfl
/-- At the head of the loop: j workers are started. -/
def AnchS (la : Option Addr) (lcap j : Nat) (g : Goroutine) : Prop :=
  ∃ T : Array Value, g = G ((base 13).at ⟨T, []⟩ [.code L13, .inLoop L13, .inBlock 0, .code R13]) [c4] ∧ T.size = 24 ∧ T[2]? = some (.pointer (some ⟨N + 3, 0, none⟩)) ∧ T[4]? = some (.pointer (some ⟨N + 4, 0, none⟩)) ∧
    T[14]? = some (.slice la n lcap) ∧ T[15]? = some (.int .i64 n) ∧ T[16]? = some (.int .i64 j)
end

section
variable {N n : Nat} {W : World} {L : Nat → Lst} {c0 bf : Nat → Int} {c4 : Frame}
theorem SI.relyF {w w₁ : World} (h : FE N n W L c0 bf w ∧ (cfg (N + 1) (N + 3) n L c0).Cnt (fin (cfg (N + 1) (N + 3) n L c0)) w) (r : Cfg.RF w w₁) : FE N n W L c0 bf w₁ ∧ (cfg (N + 1) (N + 3) n L c0).Cnt (fin (cfg (N + 1) (N + 3) n L c0)) w₁ := by
  obtain ⟨h, hc⟩ := h
  have e : ∀ b : Nat, w₁.heap[b]? = w.heap[b]? := fun b => by rw [r.heap]
  exact ⟨⟨⟨r.os.trans h.below.os, r.tape.trans h.below.tape, r.output.trans h.below.output, by rw [r.heap]; exact h.below.size, fun k hk => (e k).trans (h.below.block k hk)⟩, by rw [r.heap]; exact h.size,
    (e _).trans h.box, (e _).trans h.bef, live_block h.live (e _), (by obtain ⟨c, hc⟩ := h.cnt; exact ⟨c, Cfg.Cnt.of_block hc (e _)⟩), fun _ e => (by cases e), fun _ e => (by cases e), fun _ e => (by cases e)⟩, Cfg.Cnt.of_block hc (e _)⟩

section
variable {Post : Value → World → Prop} {b₄ : Frame} {a₄ : Act} {ops₄ : Array Oper} {i₄ : Nat} {rest₄ : List Nat} {k₄ : List Item} {m4 : Nat}
/-- FROM THE HEAD OF Wait's LOOP, AND BACK TO THE CALLER. -/
theorem anW_round
    (h4 : ∀ w, FE N n W L c0 bf w ∧ (cfg (N + 1) (N + 3) n L c0).Cnt (fin (cfg (N + 1) (N + 3) n L c0)) w → Goes Try.prog true Cfg.RF (DF (cfg (N + 1) (N + 3) n L c0)) (AtRet (cfg (N + 1) (N + 3) n L c0) Post) m4 (G (b₄.at (a₄.put ((ops₄[i₄]?).bind (·.dst)) (.tuple #[])) (.inRegion ops₄ rest₄ :: k₄)) []) w)
    (g : Goroutine) (w : World) (h : AnW N n W L c0 bf (b₄.at a₄ (.inRegion ops₄ (i₄ :: rest₄) :: k₄)) g w) :
    ∃ m, GS (N + 1) (N + 3) n L c0 n (AtW1 (cfg (N + 1) (N + 3) n L c0) (AnW N n W L c0 bf (b₄.at a₄ (.inRegion ops₄ (i₄ :: rest₄) :: k₄))) Post) m g w := by
  obtain ⟨T, hT, hA⟩ := h
  have hk : ∀ w, FE N n W L c0 bf w ∧ (cfg (N + 1) (N + 3) n L c0).Cnt (fin (cfg (N + 1) (N + 3) n L c0)) w → Goes Try.prog true Cfg.RF (DF (cfg (N + 1) (N + 3) n L c0)) (AtRet (cfg (N + 1) (N + 3) n L c0) Post) (m4 + 3)
      (G ((base 13).at ((⟨T, []⟩ : Act).put ((ops13[0]?).bind (·.dst)) (.tuple #[])) [.inRegion ops13 []]) [b₄.at a₄ (.inRegion ops₄ (i₄ :: rest₄) :: k₄)]) w := by
    intro w hF
    simp only [ops13, R13, body13, Try.f13, Option.getD_some]
    walk_nrm
    u_c stepG_region_end SI.relyF hF
    u_c stepG_end SI.relyF hF
    u_leave0 Try.func13 SI.relyF hF
    exact h4 _ hF
  obtain ⟨m, hm⟩ := waitRound (Cb := N + 1) (B := N + 3) (n := n) (L := L) (c0 := c0) (F := FE N n W L c0 bf) (Post := Post) (b₀ := base 13) (a₀ := ⟨T, []⟩) (ops₀ := ops13) (i₀ := 0) (rest₀ := []) (k₀ := []) (cs := [b₄.at a₄ (.inRegion ops₄ (i₄ :: rest₄) :: k₄)]) (mT := m4 + 3)
    (by omega) (fun h r => SI.rely h r) (fun h => h.live) (fun h r => SI.relyF h r) hk g w hA
  exact ⟨m, goes_mono (fun _ _ y => w1_mono (fun _ _ z => ⟨T, hT, z⟩) y) hm⟩
end
end
end Go.Proofs.Yteffdcpepjjkbaa.Team

/- Several goroutines that raise shared counters by atomic adds, joined by a sync.WaitGroup: what is asked of each of them. -/
import Derived.Conc.CrowdRun
namespace Go.Proofs.Yteffdcpepjjkbaa.Team
open Go.Conc Go.ConcN
open Go.ConcR (KK WgAt stA smA rd wr mk Payload DC0 Bk)
variable [Payload]

/-- Where things lie, and what is to be raised. -/
structure Cfg where
  P : Program
  ty : TypeId
  Wg : Nat
  Cb : Nat
  tC : TypeId
  n : Nat
  Ck : Nat → Nat
  Rd : Nat → Loc → Prop
  Lw : Nat → Nat
  val : Nat → Value
  adds : Nat → List Nat
  c0 : Nat → Int

namespace Cfg
variable (T : Cfg)
omit [Payload]
def Sh (l : Loc) : Prop := ∃ a, l = .cell a ∧ (a.block = T.Wg ∨ a.block = T.Cb)
def NoOwn : Nat → Loc → Prop := fun _ _ => False
/-- The eight counters. -/
def Cnt (c : Nat → Int) (w : World) : Prop :=
  w.heap[T.Cb]? = some (.cells #[.int .u64 (c 0), .int .u64 (c 1), .int .u64 (c 2), .int .u64 (c 3), .int .u64 (c 4), .int .u64 (c 5), .int .u64 (c 6), .int .u64 (c 7)] T.tC)
def wrapU (x : Int) : Int := x % 18446744073709551616
def raise (c : Nat → Int) (x : Nat) : Nat → Int := fun y => if y = x then wrapU (c y + 1) else c y
/-- How the blocks lie. -/
structure Geo : Prop where
  mono : ∀ a b, a ≤ b → T.Lw a ≤ T.Lw b
  hW : T.Wg < T.Lw 0
  hC : T.Cb < T.Lw 0
  hCW : T.Cb ≠ T.Wg
  hK : ∀ i, i < T.n → T.Ck i < T.Lw (i + 1)
  hKW : ∀ i, i < T.n → T.Ck i ≠ T.Wg
  hKC : ∀ i, i < T.n → T.Ck i ≠ T.Cb
  hKK : ∀ i i', i < T.n → i' < T.n → i ≠ i' → T.Ck i ≠ T.Ck i'
  rdSh : ∀ k l, T.Rd k l → ¬ T.Sh l
  hx : ∀ i x, x ∈ T.adds i → x < 8

/-- What worker number i suffers. -/
structure RT (i : Nat) (w w₁ : World) : Prop where
  keep : ∀ b, b < T.Lw (i + 1) → b ≠ T.Wg → b ≠ T.Cb → (∀ i', i' < T.n → i' ≠ i → b ≠ T.Ck i') → w₁.heap[b]? = w.heap[b]?
  live : WgLive T.ty T.Wg w → WgLive T.ty T.Wg w₁
  cnt : (∃ c, T.Cnt c w) → ∃ c, T.Cnt c w₁
/-- What the starter suffers while j workers are started. -/
structure RS (j : Nat) (w w₁ : World) : Prop where
  tape : w₁.tape = w.tape
  os : w₁.os = w.os
  output : w₁.output = w.output
  size : w₁.heap.size = w.heap.size
  block : ∀ b, b ≠ T.Wg → b ≠ T.Cb → (∀ i, i < j → b ≠ T.Ck i) → w₁.heap[b]? = w.heap[b]?
  live : WgLive T.ty T.Wg w → WgLive T.ty T.Wg w₁
  cnt : (∃ c, T.Cnt c w) → ∃ c, T.Cnt c w₁
/-- What the starter suffers behind the join: the draws. -/
structure RF (w w₁ : World) : Prop where
  heap : w₁.heap = w.heap
  tape : w₁.tape = w.tape
  os : w₁.os = w.os
  output : w₁.output = w.output
/-- What a worker's step may list. -/
def EW (k : Nat) (e : Event) : Prop := (∀ fn pos, OkW T.Sh NoOwn T.Rd k { g := k, fn, pos, act := .ofEvent e }) ∧ e.loc ≠ .mark .disable ∧ e.loc ≠ .mark .enable ∧ e.loc ≠ .mark (.release (stA T.Wg))
/-- What the starter's step may list. -/
def E0 (j : Nat) (e : Event) : Prop := (∀ fn pos, Ok0 T.Sh NoOwn T.Rd j { g := 0, fn, pos, act := .ofEvent e }) ∧ e.loc ≠ .mark .disable ∧ e.loc ≠ .mark .enable ∧ e.loc ≠ .mark (.release (stA T.Wg))
end Cfg

section
variable (T : Cfg)
/-- A worker's idle step: its own block alone may turn. -/
abbrev DT (i : Nat) : World → World → Array Event → Prop := DWs T.Wg (fun _ _ => False) (fun _ => T.Rd (i + 1)) (T.Ck i) 1 1
/-- The starter's idle step while j workers are started: the first of the families is nobody's: the counters. -/
def Own1 : Nat → Loc → Prop := fun k l => k = 1 ∧ ∃ a, l = .cell a ∧ a.block = T.Cb
def Rd1 : Nat → Loc → Prop := fun k l => 2 ≤ k ∧ T.Rd (k - 1) l
abbrev DS (j : Nat) : World → World → Array Event → Prop := DP T.Wg (Own1 T) (Rd1 T) (j + 1) (T.Lw j)
def DF (_ _ : World) (es : Array Event) : Prop := ∀ e ∈ es, T.E0 T.n e

/-! ### A worker -/
/-- ITS TAIL: into Add(-1): the library's own stops. -/
abbrev Tail (i s m d : Nat) (g : Goroutine) (w : World) : Prop := WSit T.P T.ty T.Wg (T.Ck i) 1 (fun _ _ => False) (fun _ => T.Rd (i + 1)) 0 1 (T.val i) s m d g w
def AtTail (i : Nat) (g : Goroutine) (w : World) : Prop := ∃ m, Goes T.P false (RW T.ty T.Wg (T.Ck i) 1 0 (1 - 1)) (DT T i) (AtR0 T.P T.ty T.Wg (T.Ck i) 1 0 1 (T.val i)) m g w
/-- AN ATOMIC ADD. -/
def AtAdd (x : Nat) (Next : Goroutine → World → Prop) (g : Goroutine) (w : World) : Prop :=
  g.status = .running ∧ ∀ c, T.Cnt c w → ∃ g', stepG T.P false g w = .go g' (w.setCell ⟨T.Cb, x, none⟩ (.int .u64 (Cfg.wrapU (c x + 1)))) #[rd ⟨T.Cb, x, none⟩, wr ⟨T.Cb, x, none⟩] ∧ Next g' (w.setCell ⟨T.Cb, x, none⟩ (.int .u64 (Cfg.wrapU (c x + 1))))
/-- ITS SCRIPT: these counters are still to be raised. -/
def Script (i : Nat) : List Nat → Goroutine → World → Prop
  | [], g, w => ∃ m, Goes T.P false (T.RT i) (DT T i) (AtTail T i) m g w
  | x :: xs, g, w => ∃ m, Goes T.P false (T.RT i) (DT T i) (AtAdd T x (Script i xs)) m g w

/-! ### The starter, from its end backwards -/
section
variable (AnchW : Goroutine → World → Prop) (Post : Value → World → Prop)
def fin : Nat → Int := fun x => Cfg.wrapU (T.c0 x + (sumTo T.n fun i => (T.adds i).count x : Nat))
def AtRet (g : Goroutine) (w : World) : Prop :=
  g.status = .running ∧ ∃ v es, stepG T.P true g w = .ended (.done v) w es ∧ (∀ e ∈ es, T.E0 T.n e) ∧ Post v w
local notation "GP" => Goes T.P true (T.RS T.n) (DS T T.n)
def AtAcq (g : Goroutine) (w : World) : Prop :=
  g.status = .running ∧ ∃ g', stepG T.P true g w = .go g' w #[mk (.acquire (stA T.Wg))] ∧ (T.Cnt (fin T) w → ∃ m, Goes T.P true Cfg.RF (DF T) (AtRet T Post) m g' w)
def AtKe (g : Goroutine) (w : World) : Prop :=
  g.status = .running ∧ ∃ g', stepG T.P true g w = .go g' w #[mk .enable] ∧ ∃ m, GP (AtAcq T Post) m g' w
def AtW4 (g : Goroutine) (w : World) : Prop :=
  g.status = .running ∧ (WgAt T.ty T.Wg w 0 0 → ∃ g', stepG T.P true g w = .go g' w #[rd (stA T.Wg)] ∧ ∃ m, GP (AtKe T Post) m g' w)
def AtW3 (g : Goroutine) (w : World) : Prop :=
  g.status = .running ∧ g.offers = none ∧
    ((∃ st, WgAt T.ty T.Wg w st 0) → stepG T.P true g w = .go { g with status := .blocked } w #[]) ∧
    (WgAt T.ty T.Wg w 0 1 → ∃ g', stepG T.P true g w = .go g' (w.setCell (smA T.Wg) (.int .u32 0)) (semEvents (smA T.Wg)) ∧ ∃ m, GP (AtW4 T Post) m g' (w.setCell (smA T.Wg) (.int .u32 0)))
def AtW2 (vs : Nat) (g : Goroutine) (w : World) : Prop :=
  g.status = .running ∧ ∀ v : Nat, v < 2147483648 → WgAt T.ty T.Wg w (v * KK) 0 →
    (v = vs → ∃ g', stepG T.P true g w = .go g' (w.setCell (stA T.Wg) (.int .u64 (v * KK + 1))) #[rd (stA T.Wg), wr (stA T.Wg)] ∧ ∃ m, GP (AtW3 T Post) m g' (w.setCell (stA T.Wg) (.int .u64 (v * KK + 1)))) ∧
    (v ≠ vs → ∃ g', stepG T.P true g w = .go g' w #[rd (stA T.Wg)] ∧ ∃ m, GP AnchW m g' w)
def AtW1 (g : Goroutine) (w : World) : Prop :=
  g.status = .running ∧ ∀ v : Nat, v < 2147483648 → WgAt T.ty T.Wg w (v * KK) 0 → ∃ g', stepG T.P true g w = .go g' w #[rd (stA T.Wg)] ∧
    (v = 0 → ∃ m, GP (AtKe T Post) m g' w) ∧ (v ≠ 0 → ∃ m, GP (AtW2 T AnchW Post v) m g' w)
def AtKd (g : Goroutine) (w : World) : Prop :=
  g.status = .running ∧ ∃ g', stepG T.P true g w = .go g' w #[mk .disable] ∧ ∃ m, GP AnchW m g' w
end
section
local notation "GS" j => Goes T.P true (T.RS j) (DS T j)
def AtGo (j : Nat) (Next : Goroutine → World → Prop) (g : Goroutine) (w : World) : Prop :=
  g.status = .running ∧ ∃ g' child, stepG T.P true g w = .spawn g' child w #[] ∧ child.status = .running ∧ Script T j (T.adds j) child w ∧ Next g' w
def AtKeS (j : Nat) (Next : Goroutine → World → Prop) (g : Goroutine) (w : World) : Prop :=
  g.status = .running ∧ ∃ g', stepG T.P true g w = .go g' w #[mk .enable] ∧ ∃ m, (GS j) (AtGo T j Next) m g' w
def AtA1 (j : Nat) (Next : Goroutine → World → Prop) (g : Goroutine) (w : World) : Prop :=
  g.status = .running ∧ ∀ v : Nat, v < 2147483647 → WgAt T.ty T.Wg w (v * KK) 0 →
    ∃ g', stepG T.P true g w = .go g' (w.setCell (stA T.Wg) (.int .u64 ((v + 1) * KK))) #[rd (stA T.Wg), wr (stA T.Wg)] ∧
      ∃ m, (GS j) (AtKeS T j Next) m g' (w.setCell (stA T.Wg) (.int .u64 ((v + 1) * KK)))
def AtKdS (j : Nat) (Next : Goroutine → World → Prop) (g : Goroutine) (w : World) : Prop :=
  g.status = .running ∧ ∃ g', stepG T.P true g w = .go g' w #[mk .disable] ∧ ∃ m, (GS j) (AtA1 T j Next) m g' w
/-- THE STARTER's SCRIPT: r workers are still to be started. -/
def Spawns (Fin : Goroutine → World → Prop) : Nat → Goroutine → World → Prop
  | 0, g, w => Fin g w
  | r + 1, g, w => ∃ m, (GS (T.n - (r + 1))) (AtKdS T (T.n - (r + 1)) (Spawns Fin r)) m g w
end
end
end Go.Proofs.Yteffdcpepjjkbaa.Team

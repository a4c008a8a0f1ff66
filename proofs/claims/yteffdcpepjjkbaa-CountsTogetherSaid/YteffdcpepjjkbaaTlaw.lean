/- Steps of a goroutine that the library's laws do not name: a closure called, a closure deferred, a closure entered on the way out, recover where nothing panics. -/
import Derived.Test.YteffdcpepjjkbaaTlib
import Derived.Conc.WgWords
namespace Go.Proofs.Yteffdcpepjjkbaa.Team
open Go.Conc
variable {P : Program} {main : Bool} {b : Frame} {a : Act} {k : List Item} {cs : List Frame} {w : World}

section
variable {ops : Array Oper} {i : Nat} {rest : List Nat} {o : Oper} {f : FuncId} {fn : Func} {x : Operand} {cap : Array Value} {c : Code} {K : Goroutine → World → Array Event → Prop}

/-- A closure without arguments is called. -/
theorem goes_callV (ho : ops[i]? = some o) (hw : Region.wanted o (yielded ops a.tmps) = true) (hk : b.kind ≠ .early) (hop : o.op = .call { callee := .value x, args := #[], argTypes := #[] }) (hx : a.eval x = .func (.func f) #[] cap)
    (hf : P.funcs[f]? = some fn) (hname : (fn.name == "runtime.NumGoroutine") = false) (hb : fn.body = some c)
    (h : K (G ((base f).at { tmps := cap ++ Array.replicate (fn.ntmps - cap.size) undef, defers := [] } [.code c]) (b.at a (.inRegion ops (i :: rest) :: k) :: cs)) w #[]) :
    (stepG P main (G (b.at a (.inRegion ops (i :: rest) :: k)) cs) w).goes K := by
  have h1 : ¬ fn.name = "runtime.NumGoroutine" := by simpa using hname
  have h2 : ¬ fn.body = none := by rw [hb]; simp
  have hr : (execOp a.eval o).run P w = .ok (.enter f cap) w := by
    unfold execOp
    simp [hop, resolve, Deferred.ofValue, invoke, callFunc, hf, h1, h2, hx]
  have hev : (execOp a.eval o).events P w #[] = #[] := by
    unfold execOp
    simp [hop, resolve, Deferred.ofValue, invoke, callFunc, hf, h1, h2, hx]
  rw [stepG_enter ho hw hk hr, enter_at _ hf hb]
  have : listed P b.fn a o w = #[] := by unfold listed; rw [hev]; exact seen_none P _
  rw [this]
  exact h

/-- A closure is deferred. -/
theorem stepG_deferV (ho : ops[i]? = some o) (hw : Region.wanted o (yielded ops a.tmps) = true) (hk : b.kind ≠ .early)
    (hop : o.op = .defer { callee := .value x, args := #[], argTypes := #[] }) (hx : a.eval x = .func (.func f) #[] cap) :
    stepG P main (G (b.at a (.inRegion ops (i :: rest) :: k)) cs) w = .go (G (b.at (Act.put ⟨a.tmps, { target := .fn (.func f) cap, args := #[] } :: a.defers⟩ o.dst undef) (.inRegion ops rest :: k)) cs) w #[] := by
  have hr : (execOp a.eval o).run P w = .ok (.defer { target := .fn (.func f) cap, args := #[] }) w := by
    unfold execOp
    simp [hop, resolve, Deferred.ofValue, hx]
  have he : (execOp a.eval o).events P w #[] = #[] := by
    unfold execOp
    simp [hop, resolve, Deferred.ofValue, hx]
  have hfin : (b.at ⟨a.tmps, { target := .fn (.func f) cap, args := #[] } :: a.defers⟩ (.inRegion ops (i :: rest) :: k)).finish undef = b.at (Act.put ⟨a.tmps, { target := .fn (.func f) cap, args := #[] } :: a.defers⟩ o.dst undef) (.inRegion ops rest :: k) := by rw [Frame.finish_at, ho]; rfl
  have hk' : (b.kind == CallKind.early) = false := by simpa using hk
  rw [stepG_oper ho hw, ← hfin]
  simp [stepG.apply, hr, he, G, Frame.at, hk', GStep.after, seen_none]

/-- recover() in a deferred call of a frame that returns. -/
theorem stepG_recover_none {r : Frame} (ho : ops[i]? = some o) (hw : Region.wanted o (yielded ops a.tmps) = true) (hk : b.kind = .deferred)
    (hr : (execOp a.eval o).run P w = .ok .recover w) (he : (execOp a.eval o).events P w #[] = #[]) (hm : r.mode = .returning) :
    stepG P main (G (b.at a (.inRegion ops (i :: rest) :: k)) (r :: cs)) w = .go (G (b.at (a.put o.dst .nilIface) (.inRegion ops rest :: k)) (r :: cs)) w #[] := by
  have hfin : (b.at a (.inRegion ops (i :: rest) :: k)).finish .nilIface = b.at (a.put o.dst .nilIface) (.inRegion ops rest :: k) := by rw [Frame.finish_at, ho]; rfl
  rw [stepG_oper ho hw, ← hfin]
  simp [stepG.apply, hr, he, G, Frame.at, GStep.after, seen_none, tryRecover, hk, hm]
end

section
variable {todo : List Item} {ds : List Deferred} {f : FuncId} {fn : Func} {cap : Array Value}
/-- A deferred closure is entered. -/
theorem stepG_unwind_enterV {c : Code} (hd : a.defers = { target := .fn (.func f) cap, args := #[] } :: ds) (hf : P.funcs[f]? = some fn) (hname : (fn.name == "runtime.NumGoroutine") = false) (hb : fn.body = some c) :
    stepG P main (G { b.at a todo with mode := .returning } cs) w =
      .go (G ((baseD f).at { tmps := cap ++ Array.replicate (fn.ntmps - cap.size) undef, defers := [] } [.code c]) ({ b.at ⟨a.tmps, ds⟩ todo with mode := .returning } :: cs)) w #[] := by
  have h1 : ¬ fn.name = "runtime.NumGoroutine" := by simpa using hname
  rw [← enter_atD cap hf hb]
  simp [G, stepG, unwind, callDeferred, Frame.at, hd, invoke, callFunc, hf, h1, hb, GStep.after, seen_none]
end
end Go.Proofs.Yteffdcpepjjkbaa.Team

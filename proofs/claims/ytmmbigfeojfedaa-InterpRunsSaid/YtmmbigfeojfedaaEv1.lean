/- The law InterpEvents: the region of its two calls. -/
import Derived.Test.YtmmbigfeojfedaaTheirs
import Derived.Test.YtmmbigfeojfedaaFew
import Derived.Test.YtmmbigfeojfedaaEv0
namespace Go.Proofs.Ytmmbigfeojfedaa
open Go.RowKit Go.Proofs.YtmmbigfeojfedaaW.PrintWords

theorem loopF_core2 (c : Env) (B : Option Addr) (m : Nat) : ∀ (f : Nat) (s : St), loopF { c with nA := B, nC := m } f s = loopF c f s
  | 0, _ => rfl
  | f + 1, s => by
    unfold loopF
    have e : ∀ op a t, stepF { c with nA := B, nC := m } op a t = stepF c op a t := fun op a t => rfl
    simp only [e, loopF_core2 c B m f]
theorem runF_core2 (c : Env) (B A : Option Addr) (m k : Nat) (reg : Nat → Int) : runF { c with nA := B, nC := m, kA := A, kC := k } reg = runF c reg := by
  rw [show ({ c with nA := B, nC := m, kA := A, kC := k } : Env) = { ({ c with nA := B, nC := m } : Env) with kA := A, kC := k } from rfl, runF_core]
  unfold runF
  rw [loopF_core2]
  rfl
namespace Held
variable {P : Program} {ops : Array Oper} {Q : Exit → Act → World → Prop} {md : Region.Mode} {S : World → Prop} {m : Nat}
/-- Either of the two that may come up comes up. -/
theorem two {i j : Nat} {o p : Oper} {fuel : Nat} {listed : Array Bool} {a : Act} {w : World} (hr : Region.ready md ops listed = [i, j]) (ho : ops[i]? = some o) (hp : ops[j]? = some p)
    (h1 : ∀ K' : Act → World → Prop, Shut (∀ a w, (i ≠ m → S w) → ((i ≠ m → S w) → Till P md ops Q S m fuel (listed.setIfInBounds i true) a w) → K' a w) → if Region.wanted o (yielded ops a.tmps) = true then Oper.wp P o a w K' Q else K' (a.put o.dst undef) w)
    (h2 : ∀ K' : Act → World → Prop, Shut (∀ a w, (j ≠ m → S w) → ((j ≠ m → S w) → Till P md ops Q S m fuel (listed.setIfInBounds j true) a w) → K' a w) → if Region.wanted p (yielded ops a.tmps) = true then Oper.wp P p a w K' Q else K' (a.put p.dst undef) w) :
    Till P md ops Q S m (fuel + 1) listed a w :=
  ⟨(fun h0 => by rw [hr] at h0; cases h0), fun l hl => by
    rw [hr] at hl
    rcases List.mem_cons.1 hl with rfl | hl
    · exact wpOp_step ho (fun K' hK => h1 K' (fun a w hS hW => hK a w ⟨hS, hW hS⟩))
    · obtain rfl : l = j := by simpa using hl
      exact wpOp_step hp (fun K' hK => h2 K' (fun a w hS hW => hK a w ⟨hS, hW hS⟩))⟩
end Held
def evE (NL : List ByteArray) (CL : List (Int × Int)) (frm : ByteArray) (ser kd : Int) (aA : Option Addr) (aC : Nat) (AL : List Int) (now : Int) : Env :=
  { nA := none, nC := 0, NL := NL, kA := none, kC := 0, CL := CL, frm := frm, serial := ser, kind := kd, aA := aA, aC := aC, AL := AL, now := now }
section
variable {NL : List ByteArray} {CL : List (Int × Int)} {frm : ByteArray} {ser kd : Int} {aA : Option Addr} {aC : Nat} {AL : List Int} {now : Int} {reg : Nat → Int}
abbrev evA (NL : List ByteArray) (CL : List (Int × Int)) (frm : ByteArray) (ser kd : Int) (aA : Option Addr) (aC : Nat) (AL : List Int) (now : Int) (reg : Nat → Int) (nA kA : Option Addr) (nC kC : Nat) : Array Value :=
  #[.agg #[.slice nA NL.length nC, .slice kA CL.length kC], .agg (regC reg), .agg #[.string frm, .int .u64 ser, .int .i64 kd, .slice aA AL.length aC], .int .i64 now]
theorem run_evG (W : World) (nA kA : Option Addr) (nC kC : Nat) (R : St) (hR : runF (evE NL CL frm ser kd aA aC AL now) reg = (0, R)) (hN : ReadsOf Value.string (⟨#[]⟩ : ByteArray) W nA NL.length NL) (hA : ReadsOf (Value.int .i64) (0 : Int) W aA AL.length AL) (hC : IsCode W kA CL) (hcl : CL.length ≤ 1000) :
    Calls Try.prog 12 (evA NL CL frm ser kd aA aC AL now reg nA kA nC kC) W (OkPost (fun R' => R' = R) W) := by
  have e := (runF_core2 (evE NL CL frm ser kd aA aC AL now) nA kA nC kC reg).trans hR
  exact run_ok (fun R' => R' = R) { evE NL CL frm ser kd aA aC AL now with nA := nA, nC := nC, kA := kA, kC := kC } reg W ⟨hN, hA⟩ hC hcl (by rw [e]) (by rw [e])
theorem run_evB (W : World) (nA kA : Option Addr) (nC kC : Nat) (R : St) (z : Int) (hz : ¬ z = 0) (hR : runF (evE NL CL frm ser kd aA aC AL now) reg = (z, R)) (hN : ReadsOf Value.string (⟨#[]⟩ : ByteArray) W nA NL.length NL) (hA : ReadsOf (Value.int .i64) (0 : Int) W aA AL.length AL) (hC : IsCode W kA CL) (hcl : CL.length ≤ 1000) :
    Calls Try.prog 12 (evA NL CL frm ser kd aA aC AL now reg nA kA nC kC) W (BadPost z R.steps W) := by
  have e := (runF_core2 (evE NL CL frm ser kd aA aC AL now) nA kA nC kC reg).trans hR
  exact (run_bad { evE NL CL frm ser kd aA aC AL now with nA := nA, nC := nC, kA := kA, kC := kC } reg W ⟨hN, hA⟩ hC hcl (by rw [e]; exact hz)).mono fun e1 w1 ⟨h1, h2⟩ => ⟨by rw [h1, e], h2⟩
end
end Go.Proofs.Ytmmbigfeojfedaa

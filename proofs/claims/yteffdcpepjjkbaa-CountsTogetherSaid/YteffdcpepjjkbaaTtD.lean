/- Behind the join: the law's tail, to the return. -/
import Derived.Test.YteffdcpepjjkbaaTtC
namespace Go.Proofs.Yteffdcpepjjkbaa.Team
open Go.Conc Go.ConcN Go.RowKit Go.Conc.Lib Go.ConcR.Gen Go.ConcN.Gen
open Go.ConcR (KK wgBlock WgAt stA smA rd wr mk Payload Aside2 DC0 ofEvent_cell)
set_option linter.unusedVariables false

/-- Every order that a region may come up in. -/
def orders (ops : Array Oper) : Nat → Array Bool → List Nat → List (List Nat)
  | 0, _, acc => [acc.reverse]
  | fuel + 1, listed, acc =>
    match Region.ready .any ops listed with
    | [] => [acc.reverse]
    | r :: rs => (r :: rs).flatMap fun i => orders ops fuel (listed.setIfInBounds i true) (i :: acc)
theorem orders_mem (ops : Array Oper) : ∀ (fuel t : Nat) (listed : Array Bool) (acc : List Nat), Region.linearise.go .any ops fuel t listed acc ∈ orders ops fuel listed acc
  | 0, t, listed, acc => by simp [Region.linearise.go, orders]
  | fuel + 1, t, listed, acc => by
    simp only [Region.linearise.go]
    change (match (Region.ready .any ops listed)[t % (Region.ready .any ops listed).length]? with
      | some i => Region.linearise.go .any ops fuel (t / (Region.ready .any ops listed).length) (listed.setIfInBounds i true) (i :: acc)
      | none => acc.reverse) ∈ _
    unfold orders
    cases hr : Region.ready .any ops listed with
    | nil => simp
    | cons r rs =>
      have hlt : t % (r :: rs).length < (r :: rs).length := Nat.mod_lt _ (by simp)
      rw [List.getElem?_eq_getElem hlt]
      exact List.mem_flatMap.2 ⟨_, List.getElem_mem hlt, orders_mem ops fuel _ _ _⟩

noncomputable def body4 : Code := Try.f4.body.getD .skip
noncomputable def R20 : Code := match body4 with | .seq _ (.seq _ (.seq _ (.seq _ (.seq _ (.seq _ (.seq _ (.seq r _))))))) => r | _ => .skip
noncomputable def R21 : Code := match body4 with | .seq _ (.seq _ (.seq _ (.seq _ (.seq _ (.seq _ (.seq _ (.seq _ r))))))) => r | _ => .skip
noncomputable def ops20 : Array Oper := match R20 with | .region _ ops _ => ops | _ => #[]
noncomputable def ops21 : Array Oper := match R21 with | .seq (.region _ ops _) _ => ops | _ => #[]
theorem orders21 : orders ops21 5 (Array.replicate 5 false) [] = [[0, 1, 2, 3, 4], [0, 2, 1, 3, 4], [2, 0, 1, 3, 4]] := by kernel_rfl
end Go.Proofs.Yteffdcpepjjkbaa.Team

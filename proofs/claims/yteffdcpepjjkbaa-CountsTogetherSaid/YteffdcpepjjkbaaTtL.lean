/- A run with no goroutine beside the first. -/
import Derived.Test.YteffdcpepjjkbaaTtE
import Derived.LoneHanded
namespace Go.Proofs.Yteffdcpepjjkbaa.Team
open Go.Conc Go.ConcN
theorem lone_join {P : Program} {Post : Value → World → Prop} {E : Event → Prop} {n0 : Nat} {a : Goroutine} {w : World}
    (h : Goes P true Eq (DE E) (fun g w => g.status = .running ∧ ∃ v es, stepG P true g w = .ended (.done v) w es ∧ (∀ e ∈ es, E e) ∧ Post v w) n0 a w) :
    ∃ N last o w' t', runNT P (N + 1) (solo a w) #[] = (.ended o w', t') ∧ runN P N (solo a w) = .next last ∧ step P last = .ended o w' ∧ Good P Post last o w' t' := by
  obtain ⟨k0, a0, w0, u, r0, ⟨hs, v, es, hend, _, hp⟩, hu⟩ := solo_goesE #[] h
  have hst : stepT P (solo a0 w0) = (.ended (.done v) w0, MemOp.ofEvents 0 a0.frame.fn a0.frame.place es) := (stepT_solo hs).trans (by simp [runT, solo, Array.swapAt!, Array.swapAt, hend, GStep.es])
  have h0 : ∀ op ∈ u ++ MemOp.ofEvents 0 a0.frame.fn a0.frame.place es, op.g = 0 := fun op hop => by
    rcases Array.mem_append.1 hop with h1 | h1
    · exact (hu op h1).1
    · rw [ofEvents_eq] at h1
      obtain ⟨e, _, rfl⟩ := Array.mem_map.1 h1
      rfl
  refine ⟨k0, solo a0 w0, .done v, w0, u ++ MemOp.ofEvents 0 a0.frame.fn a0.frame.place es, ?_, ?_, ?_, v, rfl, hp, fun said => ?_, ?_, ⟨fun g hg => ?_, rfl⟩, fun i g hg hi => ?_⟩
  · rw [runNT_add, r0]
    simp [runNT, hst]
  · have := runNT_fst P k0 (solo a w) #[]
    rw [r0] at this
    exact this.symm
  · rw [step, hst]
  · have := noRace_append (t := #[]) (u := u ++ MemOp.ofEvents 0 a0.frame.fn a0.frame.place es) (g := 0) (noRace_nil said) h0 (fun i a ha => by simp [touchAt, Trace.act?] at ha)
    simpa using this
  · exact handedOver_of_allBy (Trace.allBy_of_forall fun op hop => .inr (h0 op hop))
  · simp [solo] at hg
  · cases i with
    | zero => exact absurd rfl hi
    | succ i => simp [solo] at hg
end Go.Proofs.Yteffdcpepjjkbaa.Team

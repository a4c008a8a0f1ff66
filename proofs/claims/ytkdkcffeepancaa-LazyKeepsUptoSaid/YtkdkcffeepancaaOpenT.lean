/- A []string argument, opened under the bound. -/
import Derived.Test.YtkdkcffeepancaaBack
import Derived.Test.YtkdkcffeepancaaUp
import Derived.Deep.Strs
namespace Go.Proofs.Ytkdkcffeepancaa
open Go.RowKit Go.ChangeShapes Go.WideShapes Go.ChangeAt
open Go.Proofs.YtkdkcffeepancaaW.PrintWords

theorem mass_bulk {H : Type} : ∀ ts : List ByteArray, Rows.uptoBulkAll (ts.map fun s => (DataW.lit (.string s.data.toList) : DataW H)) = mass ts
  | [] => rfl
  | s :: r => by
    have e : s.data.toList.length = s.size := by rw [Array.length_toList]; rfl
    simp only [List.map_cons, Rows.uptoBulkAll, Rows.uptoBulk, mass, mass_bulk r, e]

theorem open_texts {H : Type} {enc : TypeId × Value → H} {w : World} {base : Nat} {A : Option Addr} {len cap : Nat} {fuel : Nat} {x : DataW H × List MemPlace}
    (h : DataW.trod enc Try.prog w base (fun _ => true) true fuel 22 [.slice A len cap] = some x) (hb : Rows.uptoBulk x.1 ≤ 1048576) :
    ∃ ts : List ByteArray, len = ts.length ∧ InT w A ts := by
  rcases Go.Deep.open_strs Try.underlying22 Try.underlying9 (by kernel_rfl) h with ⟨hcs, rfl⟩ | ⟨a, l, c, m, Sx, hcs, _, hl, hm, hmm, rfl, hx⟩
  · simp at hcs
    obtain ⟨rfl, rfl, rfl⟩ := hcs
    exact ⟨[], rfl, ⟨rfl, by simp, fun h => by simp at h⟩, by simp [mass]⟩
  · simp at hcs
    obtain ⟨rfl, rfl, rfl⟩ := hcs
    simp only [if_true] at hmm
    have hlen : ((List.range len).map Sx).length = len := by simp
    dsimp only at hb
    simp only [Rows.uptoBulk] at hb
    have e := mass_bulk (H := H) ((List.range len).map Sx)
    rw [List.map_map] at e
    have e' : (List.range len).map ((fun s => (DataW.lit (.string s.data.toList) : DataW H)) ∘ Sx) = (List.range len).map (fun i => DataW.lit (.string (Sx i).data.toList)) := rfl
    rw [e'] at e
    have hms : mass ((List.range len).map Sx) ≤ 1048576 := by omega
    have hln := mass_length ((List.range len).map Sx)
    refine ⟨(List.range len).map Sx, hlen.symm, ⟨rfl, by omega, fun h0 => ⟨a, rfl, fun j hj => ?_⟩⟩, hms⟩
    rw [hlen] at hj
    rw [(hx j (by omega)).1]
    simp [List.getD, hj]
end Go.Proofs.Ytkdkcffeepancaa

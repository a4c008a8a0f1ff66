/- awake: returns true; and Run's contract for programs that are built in a law. -/
import Derived.Test.YtmmbigfeojfedaaRun4
import Derived.Test.YtmmbigfeojfedaaPure1
namespace Go.Proofs.Ytmmbigfeojfedaa
open Go.RowKit Go.Proofs.YtmmbigfeojfedaaW.PrintWords

def flatC : List (Int × Int) → List Value
  | [] => []
  | i :: l => .int .i64 i.1 :: .int .i64 i.2 :: flatC l
theorem flatC_at : ∀ (CL : List (Int × Int)) (j : Nat), j < CL.length → (flatC CL)[j * 2]? = some (.int .i64 (CL.getD j (0, 0)).1) ∧ (flatC CL)[j * 2 + 1]? = some (.int .i64 (CL.getD j (0, 0)).2)
  | [], j, h => absurd h (Nat.not_lt_zero _)
  | i :: l, 0, _ => ⟨rfl, rfl⟩
  | i :: l, j + 1, h => by
    have := flatC_at l j (by simpa using h)
    rw [show (j + 1) * 2 = j * 2 + 1 + 1 by omega]
    exact this
theorem isCode_blk {w : World} {b t : Nat} {C : Array Value} {CL : List (Int × Int)} (h : Blk w b C t) (hC : C = (flatC CL).toArray) : IsCode w (some ⟨b, 0, none⟩) CL := fun _ => by
  refine ⟨b, 0, rfl, fun j hj => ?_⟩
  obtain ⟨h1, h2⟩ := flatC_at CL j hj
  rw [h.cell, h.cell, hC, Nat.zero_add]
  exact ⟨by simpa using h1, by simpa using h2⟩
theorem reads_blk {α : Type} {enc : α → Value} {d : α} {w : World} {b t : Nat} {C : Array Value} {xs : List α} (h : Blk w b C t) (hC : C = (xs.map enc).toArray) (hl : xs.length ≤ 9223372036854775807) : ReadsOf enc d w (some ⟨b, 0, none⟩) xs.length xs := by
  refine ⟨rfl, hl, fun _ => ⟨_, rfl, fun i hi => ?_⟩⟩
  rw [Go.WideShapes.add_plain, h.cell, hC, Nat.zero_add]
  simp [List.getD, hi]

/-- What a run that comes to its end returns. -/
def OkPost (P : St → Prop) (w : World) (e : Ending) (w' : World) : Prop := ∃ R : St, P R ∧ ∃ eA eC sA sC tA tC, e = .returned (.tuple #[.agg (resC R.reg (.slice eA R.ev.length eC) (.slice sA R.sent.length sC) (.slice tA R.tm.length tC) R.steps), .int .i64 0]) ∧ Below w.heap.size w w' ∧
      w'.ownsRow w.heap.size 56 2 (.slice eA R.ev.length eC) R.ev.length (encE R.ev) ∧ w'.ownsRow w.heap.size 66 3 (.slice sA R.sent.length sC) R.sent.length (encS R.sent) ∧ w'.ownsRow w.heap.size 58 5 (.slice tA R.tm.length tC) R.tm.length (encT R.tm)
theorem run_ok (P : St → Prop) (c : Env) (reg : Nat → Int) (w : World) (hE : EnvOk c w) (hC : IsCode w c.kA c.CL) (hcl : c.CL.length ≤ 1000) (h0 : (runF c reg).1 = 0) (hP : P (runF c reg).2) :
    Calls Try.prog 12 #[argP c, .agg (regC reg), argL c, .int .i64 c.now] w (OkPost P w) :=
  (run_any c reg w hE hC hcl).mono fun e w' ⟨hb, h⟩ => by
    rcases h with ⟨_, ev, sn, tv, rfl, o1, o2, o3⟩ | ⟨hn, _⟩
    · obtain ⟨eA, eC, rfl⟩ := own_slice o1
      obtain ⟨sA, sC, rfl⟩ := own_slice o2
      obtain ⟨tA, tC, rfl⟩ := own_slice o3
      exact ⟨_, hP, eA, eC, sA, sC, tA, tC, rfl, hb, o1, o2, o3⟩
    · exact absurd h0 hn
/-- A run that fails. -/
theorem run_bad (c : Env) (reg : Nat → Int) (w : World) (hE : EnvOk c w) (hC : IsCode w c.kA c.CL) (hcl : c.CL.length ≤ 1000) (h0 : (runF c reg).1 ≠ 0) :
    Calls Try.prog 12 #[argP c, .agg (regC reg), argL c, .int .i64 c.now] w (fun e w' => e = .returned (.tuple #[.agg (resC (fun _ => 0) (.slice none 0 0) (.slice none 0 0) (.slice none 0 0) (runF c reg).2.steps), .int .i64 (runF c reg).1]) ∧ Below w.heap.size w w') :=
  (run_any c reg w hE hC hcl).mono fun e w' ⟨hb, h⟩ => by
    rcases h with ⟨hn, _⟩ | ⟨_, rfl⟩
    · exact absurd hn h0
    · exact ⟨rfl, hb⟩

def awE (a b : Nat) : Env := { nA := none, nC := 0, NL := [], kA := some ⟨a, 0, none⟩, kC := 4, CL := [(2, 0), (4, 0), (6, 0), (3, 0)], frm := ⟨#[]⟩, serial := 0, kind := 0, aA := some ⟨b, 0, none⟩, aC := 1, AL := [3], now := 0 }
theorem aw_run (a b : Nat) : (runF (awE a b) awReg).1 = 0 ∧ (runF (awE a b) awReg).2.reg 0 = 8 ∧ (runF (awE a b) awReg).2.steps = 4 :=
  ⟨by kernel_rfl, by kernel_rfl, by kernel_rfl⟩
theorem aw_ok (w : World) (a b : Nat) (hE : EnvOk (awE a b) w) (hC : IsCode w (some ⟨a, 0, none⟩) [(2, 0), (4, 0), (6, 0), (3, 0)]) :
    Calls Try.prog 12 #[.agg #[.slice none 0 0, .slice (some ⟨a, 0, none⟩) 4 4], .agg #[.int .i64 5, .int .i64 0, .int .i64 0, .int .i64 0, .int .i64 0, .int .i64 0, .int .i64 0, .int .i64 0],
      .agg #[.string ⟨#[]⟩, .int .u64 0, .int .i64 0, .slice (some ⟨b, 0, none⟩) 1 1], .int .i64 0] w (OkPost (fun R => R.reg 0 = 8 ∧ R.steps = 4) w) :=
  run_ok (fun R => R.reg 0 = 8 ∧ R.steps = 4) (awE a b) awReg w hE hC (show 4 ≤ 1000 by decide) (aw_run a b).1 (aw_run a b).2

set_option maxRecDepth 100000 in
set_option maxHeartbeats 4000000 in
theorem awake_any (w : World) : Calls Try.prog 10 #[] w (fun e w' => e = .returned (.bool true) ∧ Below w.heap.size w w') := by
  go_enter Try.func10, Try.ntmps10
  have hb1 : Below w.heap.size w (w.alloc (.cells (flatC awL).toArray 60)) := (Below.refl _ _).alloc (Nat.le_refl _) _
  have hb2 := hb1.alloc hb1.size (.cells #[.int .i64 3] 2)
  have HR := Lib.hid (aw_ok ((w.alloc (.cells (flatC awL).toArray 60)).alloc (.cells #[.int .i64 3] 2)) w.heap.size (w.heap.size + 1) ⟨ReadsOf.nil _ _ _, reads_blk (Blk.newAt (by simp)) rfl (show 1 ≤ 9223372036854775807 by decide)⟩ (isCode_blk ((Blk.newAt rfl).alloc _) rfl))
  have HB := Lib.hid hb2
  clear hb1 hb2
  go_wp2_with fail
  refine HR.out.mono ?_
  rintro e w2 ⟨R, ⟨h1, h2⟩, eA, eC, sA, sC, tA, tC, rfl, hb, -⟩
  have HB2 := Lib.hid (HB.out.trans (hb.mono HB.out.size))
  clear hb
  unfold resC
  rw [h1, h2]
  go_wp2
  go_ret
  exact ⟨rfl, HB2.out.alloc HB2.out.size _⟩
end Go.Proofs.Ytmmbigfeojfedaa

/- sync.Once.Do over a list that has not been read, one goroutine. -/
import Derived.Test.YtkdkcffeepancaaOnce
namespace Go.Proofs.Ytkdkcffeepancaa
open Go.RowKit Go.MuLone Go.Proofs.YtkdkcffeepancaaW.PrintWords

/-- What doSlow leaves: what the function left, 'done' stored, the lock let go. -/
def SlowPost (lb : Nat) (Q : World → Prop) (e : Ending) (w' : World) : Prop := e = .returned (.tuple #[]) ∧ ∃ w2, Q w2 ∧ w' = (w2.drew.setCell ⟨lb, 0, none⟩ (.int .u32 1)).setCell ⟨lb, 1, none⟩ (.int .i32 0)

set_option maxRecDepth 100000 in
set_option maxHeartbeats 1600000 in
theorem slow (lb : Nat) (p : Addr) (s raw m tv g : Value) (Q : World → Prop) (w : World) (hb : Blk w lb #[.int .u32 0, .int .i32 0, s, raw, m, tv, g] 56)
    (hf : Calls Try.prog 23 #[.pointer (some p)] (w.setCell ⟨lb, 1, none⟩ (.int .i32 1)) fun e w2 => e = .returned (.tuple #[]) ∧ Q w2)
    (hQ : ∀ w2, Q w2 → ∃ raw m tv g, Blk w2 lb #[.int .u32 0, .int .i32 1, s, raw, m, tv, g] 56) :
    Calls Try.prog 45 #[.pointer (some ⟨lb, 0, none⟩), .func (.func 23) #[] #[.pointer (some p)]] w (SlowPost lb Q) := by
  have hb1 := hb.set 1 (.int .i32 1)
  have c0 := hb.cell 0
  have c1 := hb.cell 1
  have f1 := hb.free 1
  have d0 := hb1.cell 0
  simp at c0 c1 d0
  have HF := Lib.hid hf
  have HQ := Lib.hid hQ
  clear hf hQ hb1 hb
  have hnot : ∀ (x : Bool) (w : World), (Op.unary .not (.bool x)).run Try.prog w = .ok (.bool (!x)) w := fun _ _ => rfl
  go_enter_defers Try.func45, Try.ntmps45
  go_wp2_with (first | (go_at_call 60; refine (lock_free muLib ⟨lb, 1, none⟩ _ c1 f1).mono ?_; rintro e w' ⟨rfl, rfl⟩) | (go_at_call 44; refine (bload _ 0 _ d0).mono ?_; rintro e w' ⟨rfl, rfl⟩) | (go_at_call 23; refine HF.out.mono ?_; rintro e w2 ⟨rfl, hq⟩))
  obtain ⟨raw2, m2, tv2, g2, hb2⟩ := HQ.out _ hq
  refine leaves_cons (f := 62) (args := #[.pointer (some ⟨lb, 0, none⟩), .bool true]) (by simp) (by simp [go_sem]) ?_
  refine (bstore_deferred ⟨lb, 0, none⟩ 0 .returning _ (hb2.cell 0) (hb2.free 0)).mono ?_
  rintro e u' w'' ⟨rfl, rfl, rfl⟩
  have hb3 : Blk (w2.drew.setCell ⟨lb, 0, none⟩ (.int .u32 1)) lb _ 56 := hb2.drew.set 0 (.int .u32 1)
  refine leaves_cons (f := 61) (args := #[.pointer (some ⟨lb, 1, none⟩)]) (by simp [settle]) (by simp [go_sem]) ?_
  refine (unlock_deferred muLib ⟨lb, 1, none⟩ _ _ (hb3.cell 1) (hb3.free 1)).mono ?_
  rintro e u' w'' ⟨rfl, rfl, rfl⟩
  simp [Leaves, settle, results, Try.results45]
  exact ⟨rfl, w2, hq, rfl⟩

theorem do_first (lb : Nat) (p : Addr) (s raw m tv g : Value) (Q : World → Prop) (w : World) (hb : Blk w lb #[.int .u32 0, .int .i32 0, s, raw, m, tv, g] 56)
    (hf : Calls Try.prog 23 #[.pointer (some p)] (w.setCell ⟨lb, 1, none⟩ (.int .i32 1)) fun e w2 => e = .returned (.tuple #[]) ∧ Q w2)
    (hQ : ∀ w2, Q w2 → ∃ raw m tv g, Blk w2 lb #[.int .u32 0, .int .i32 1, s, raw, m, tv, g] 56) :
    Calls Try.prog 22 #[.pointer (some ⟨lb, 0, none⟩), .func (.func 23) #[] #[.pointer (some p)]] w (SlowPost lb Q) := by
  have c0 := hb.cell 0
  simp at c0
  have HF := Lib.hid hf
  have HQ := Lib.hid hQ
  have HB := Lib.hid hb
  clear hf hQ hb
  have hnot : ∀ (x : Bool) (w : World), (Op.unary .not (.bool x)).run Try.prog w = .ok (.bool (!x)) w := fun _ _ => rfl
  go_enter Try.func22, Try.ntmps22
  go_wp2_with (first | (go_at_call 44; refine (bload _ 0 _ c0).mono ?_; rintro e w' ⟨rfl, rfl⟩) | (go_at_call 45; refine (slow lb p s raw m tv g Q _ HB.out HF.out HQ.out).mono ?_; rintro e w' ⟨rfl, hq⟩))
  go_end0
  exact ⟨rfl, hq⟩

theorem do_done (a : Addr) (fv : Value) (w : World) (h0 : w.cell? a = some (.int .u32 1)) :
    Calls Try.prog 22 #[.pointer (some a), fv] w fun e w' => e = .returned (.tuple #[]) ∧ w = w' := by
  have hnot : ∀ (x : Bool) (w : World), (Op.unary .not (.bool x)).run Try.prog w = .ok (.bool (!x)) w := fun _ _ => rfl
  go_enter Try.func22, Try.ntmps22
  go_wp2_with (go_at_call 44; refine (bload _ 1 _ h0).mono ?_; rintro e w' ⟨rfl, rfl⟩)
  go_end0
  exact ⟨rfl, rfl⟩
end Go.Proofs.Ytkdkcffeepancaa

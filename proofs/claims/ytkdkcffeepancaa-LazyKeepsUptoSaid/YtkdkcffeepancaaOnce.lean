/- sync.Once, one goroutine: what Do does, whatever the function handed to it, by that function's own contract. -/
import Derived.Test.YtkdkcffeepancaaBase
import Derived.Test.YtkdkcffeepancaaRows
import Derived.Conc.RwLib
import Derived.Conc.MuLone
import Derived.Defers
import Derived.RegionCalls
namespace Go.Proofs.Ytkdkcffeepancaa
open Go.RowKit Go.MuLone Go.Proofs.YtkdkcffeepancaaW.PrintWords

abbrev muLink : Go.Conc.Locks.MuLink := { lock := 60, unlock := 61, ilock := 66, iunlock := 67, lockSlow := 71, unlockSlow := 72, disable := 34, enable := 36, acquire := 37, relMerge := 49, cas32 := 70, add32 := 46, tMutex := 50, tIMutex := 48, tPMutex := 102, tPIMutex := 105, tPI32 := 72, tUP := 77, tNoCopy := 42, tU32 := 44 }
theorem muLib : Go.Conc.Locks.MuLib Try.prog muLink :=
  ⟨Try.func60, Try.func61, Try.func66, Try.func67, Try.func34, Try.func36, Try.func37, Try.func49, Try.func70, Try.func46, Try.underlying48, Try.runUnderlying48, Try.sizeOf48, Try.isAgg48, Try.zeroValue48, Try.underlying50, Try.runUnderlying50, Try.sizeOf50, Try.isAgg50, Try.zeroValue50, Try.underlying102, Try.runUnderlying102, Try.sizeOf102, Try.isAgg102, Try.zeroValue102, Try.underlying105, Try.runUnderlying105, Try.sizeOf105, Try.isAgg105, Try.zeroValue105, Try.underlying72, Try.runUnderlying72, Try.sizeOf72, Try.isAgg72, Try.zeroValue72, Try.underlying77, Try.runUnderlying77, Try.sizeOf77, Try.isAgg77, Try.zeroValue77, Try.underlying42, Try.runUnderlying42, Try.sizeOf42, Try.isAgg42, Try.zeroValue42, Try.underlying21, Try.runUnderlying21, Try.sizeOf21, Try.isAgg21, Try.zeroValue21, (by kernel_rfl)⟩

theorem bload (a : Addr) (x : Int) (w : World) (hc : w.cell? a = some (.int .u32 x)) :
    Calls Try.prog 44 #[.pointer (some a)] w fun e w' => e = .returned (.bool (x != 0)) ∧ w = w' := by
  have hl := run_call_load (P := Try.prog) Try.func59 (by kernel_rfl) (by kernel_rfl) (by kernel_rfl) .u32 (by kernel_rfl) hc
  go_enter Try.func44, Try.ntmps44
  go_wp2
  go_ret
  exact ⟨rfl, rfl⟩

theorem b32_yes (w : World) : Calls Try.prog 69 #[.bool true] w fun e w' => e = .returned (.int .u32 1) ∧ w = w' := by
  go_enter Try.func69, Try.ntmps69
  go_wp2
  go_ret
  exact ⟨rfl, rfl⟩

set_option maxHeartbeats 1000000 in
theorem bstore_deferred (a : Addr) (x : Int) (u : FrameMode) (w : World) (hc : w.cell? a = some (.int .u32 x)) (hz : w.frozen? a = false) :
    CallsD Try.prog 62 #[.pointer (some a), .bool true] u w fun e u' w' => u' = u ∧ (e = .returned (.tuple #[]) ∧ w' = w.drew.setCell a (.int .u32 1)) := by
  have hl := run_call_store (P := Try.prog) Try.func68 (by kernel_rfl) (by kernel_rfl) (by kernel_rfl) (by kernel_rfl) (y := 1) (k := .u32) (w := w.drew) (a := a) (u := .int .u32 x) (by simpa using hc) (by simpa using hz)
  go_enter_d Try.func62, Try.ntmps62
  go_wp2
  go_region_with (go_at_call 69; refine (b32_yes _).mono ?_; rintro e w' ⟨rfl, rfl⟩)
  go_wp2
  go_end0
  exact ⟨rfl, rfl⟩
end Go.Proofs.Ytkdkcffeepancaa

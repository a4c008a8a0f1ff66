/- Together's workers: the tail (the deferred closure, Done), what comes behind f. -/
import Derived.Test.YteffdcpepjjkbaaTwk
namespace Go.Proofs.Yteffdcpepjjkbaa.Team
open Go.Conc Go.ConcN Go.RowKit Go.Conc.Lib Go.ConcR.Gen Go.ConcN.Gen
open Go.ConcR (KK wgBlock WgAt stA smA rd wr mk Payload Aside2 DC0 ofEvent_cell)
set_option linter.unusedVariables false

theorem nm27 : (Try.f27.name == "runtime.NumGoroutine") = false := by kernel_rfl
theorem nm28 : (Try.f28.name == "runtime.NumGoroutine") = false := by kernel_rfl
theorem nm20 : (Try.f20.name == "runtime.NumGoroutine") = false := by kernel_rfl
theorem nm8 : (Try.f8.name == "runtime.NumGoroutine") = false := by kernel_rfl
theorem nm15 : (Try.f15.name == "runtime.NumGoroutine") = false := by kernel_rfl
theorem nm16 : (Try.f16.name == "runtime.NumGoroutine") = false := by kernel_rfl

/-- Two nil interfaces are compared: nothing is listed. -/
theorem ev_nn (w : World) (es : Array Event) : Sem.events Try.prog (binOp .neq 20 .nilIface .nilIface) w es = es := by
  have h : Sem.events Try.prog (Op.equalIn (9999 + 1) 20 .nilIface .nilIface) w es = es := by
    rw [Op.equalIn]
    simp [Sem.events_bind, go_sem, Try.runUnderlying20]
  have hr : Sem.run Try.prog (Op.equalIn (9999 + 1) 20 .nilIface .nilIface) w = .ok true w := by
    rw [Op.equalIn]
    simp [go_sem, Try.runUnderlying20]
  simp only [binOp, Op.equal, Op.maxDepth, Sem.events_bind, h, hr]
  simp [go_sem]

noncomputable def bot : Frame := { (default : Frame) with fn := Try.prog.funcs.size, defers := [], mode := .panicking [goexitEntry] }
noncomputable def body27 : Code := Try.f27.body.getD .skip
noncomputable def ops27 : Array Oper := match body27 with | .seq _ (.region _ ops _) => ops | _ => #[]
noncomputable def body20 : Code := Try.f20.body.getD .skip
noncomputable def L20 : Code := match body20 with | .seq _ (.block _ (.loop c)) => c | _ => .skip

/-- The call that the i-th go statement holds. -/
def call27 (B i : Nat) : Deferred := { target := .fn (.func 27) #[.pointer (some ⟨B + 3 + 3 * i, 0, none⟩), .pointer (some ⟨B + 4 + 3 * i, 0, none⟩)], args := #[] }
/-- The deferred closure. -/
def def28 (B i : Nat) : Deferred := { target := .fn (.func 28) #[.pointer (some ⟨B + 3 + 3 * i, 0, none⟩)], args := #[] }

/-- The outermost function's way out, once its deferred call has left. -/
theorem quitsTail (T : Array Value) : QuitsD Try.prog 2 0 (G { (baseD 27).at ⟨T, []⟩ [] with mode := .returning } [bot]) := by
  refine QuitsD.ctl (g' := G bot []) rfl (fun w => ?_) ?_
  · simp [G, stepG, unwind, doReturn, results, Frame.at, baseD, bot, Try.func27, Try.f27, seen, GStep.after, goexitEntry]
  refine QuitsD.ctl (g' := { G bot [] with status := .finished }) rfl (fun w => ?_) ⟨rfl, rfl⟩
  simp [G, stepG, unwind, bot, goexitEntry, Frame.catches]
  rfl

section
variable {Cb B n : Nat} {L : Nat → Lst} {c0 : Nat → Int} {i : Nat}
abbrev GT (Cb B n : Nat) (L : Nat → Lst) (c0 : Nat → Int) (i : Nat) (Stop : Goroutine → World → Prop) (m : Nat) (g : Goroutine) (w : World) : Prop := Goes Try.prog false ((cfg Cb B n L c0).RT i) (DT (cfg Cb B n L c0) i) Stop m g w

set_option hygiene false in
macro "v_c " l:term:max : tactic => `(tactic| u_c $l (WK.rely' hB) hF)
set_option hygiene false in
macro "v_reg" : tactic => `(tactic| u_reg (WK.rely' hB) hF)
set_option hygiene false in
macro "v_op" : tactic => `(tactic| u_op (WK.rely' hB) hF)
set_option hygiene false in
macro "v_skip" : tactic => `(tactic| u_skip (WK.rely' hB) hF)
set_option hygiene false in
macro "v_in" : tactic => `(tactic| u_in (WK.rely' hB) hF)
set_option hygiene false in
macro "v_cond " t:term:max : tactic => `(tactic| u_cond $t (WK.rely' hB) hF)

set_option maxRecDepth 100000 in
set_option maxHeartbeats 4000000 in
/-- BEHIND f: the deferred closure; recover; Done. -/
theorem afterF (hB : Cb < B) (hi : i < n) (T : Array Value) (t0 : T = #[.pointer (some ⟨B + 3 + 3 * i, 0, none⟩), .pointer (some ⟨B + 4 + 3 * i, 0, none⟩), .func (.func 28) #[] #[.pointer (some ⟨B + 3 + 3 * i, 0, none⟩)], closure B i, undef]) (w : World) (hF : WK Cb B n L c0 i w) :
    GT Cb B n L c0 i (AtTail (cfg Cb B n L c0) i) 30 (G ((baseD 27).at ((⟨T, [def28 B i]⟩ : Act).put ((ops27[1]?).bind (·.dst)) (.tuple #[])) [.inRegion ops27 []]) [bot]) w := by
  subst t0
  simp only [ops27, body27, Try.f27, Option.getD_some]
  walk_nrm
  u_c stepG_region_end (WK.rely' hB) hF
  u_c stepG_end (WK.rely' hB) hF
  -- the deferred closure is entered
  u_in (WK.rely' hB) hF
  rw [stepG_unwind_enterV (ds := []) rfl Try.func28 nm28 rfl]
  simp only [goes_go]
  refine ⟨by u_nil, ?_⟩
  walk_nrmf Try.f28
  u_c stepG_seq (WK.rely' hB) hF
  u_c stepG_seq (WK.rely' hB) hF
  u_reg (WK.rely' hB) hF
  u_in (WK.rely' hB) hF
  rw [stepG_recover_none rfl rfl rfl (by simp [go_sem]) (by simp [go_sem]) rfl]
  simp only [goes_go]
  refine ⟨by u_nil, ?_⟩
  walk_nrm
  v_op
  v_c stepG_region_end
  v_c stepG_seq
  v_reg
  v_op
  u_in (WK.rely' hB) hF
  refine goes_oper_k rfl rfl (by k_ne) (fun K hK => ?_)
  go_simp
  refine hK _ _ ⟨?_, ?_⟩
  · u_none
    intro e he
    have hm := mem_listed he
    simp [go_sem, ev_nn] at hm
  clear hK K
  v_c stepG_region_end
  v_cond false
  v_c stepG_skip
  v_reg
  g_opw (WK.rely' hB) hF [WK.wb hF] (AsideCell.refl _ _ _ _) (evW_rd _ _ (by simp))
  u_call Try.func29 (nm_done Try.link) Try.f29 (WK.rely' hB) hF
  v_reg
  v_op
  -- Add(-1): THE LIBRARY's, FROM HERE ON
  have hA := fun (b₀ : Frame) (a₀ : Act) (ops₀ : Array Oper) (i₀ : Nat) (rest₀ : List Nat) (k₀ : List Item) (cs : List Frame) (qt : Nat) hT w => @addNegN _ Try.link Try.prog Try.wgLib (fun _ _ => False) (fun _ => (cfg Cb B n L c0).Rd (i + 1)) (B + 1) (B + 2 + 3 * i) 1 0 1 (L i).val b₀ a₀ ops₀ i₀ rest₀ k₀ cs qt hT w
  simp only [body_add, addFn, Option.getD_some] at hA
  v_in
  refine goes_call rfl rfl (by decide) rfl Try.func26 (nm_add Try.link) rfl ⟨by u_nil, ?_⟩
  walk_nrmf Try.f26
  refine Goes.stop (fun w₁ h₁ => ?_)
  replace hF := hF.rely' hB h₁
  clear h₁
  refine ⟨20, hA _ _ _ _ _ _ _ 8 ?_ _ ⟨hF.live, hF.lb⟩⟩
  clear hA
  walk_nrm
  q_c stepG_region_end
  q_c stepG_end
  q_leave0 Try.func29
  q_c stepG_region_end
  q_c stepG_end
  exact QuitsD.leaveD rfl rfl Try.func28 rfl rfl (quitsTail _)
end
end Go.Proofs.Yteffdcpepjjkbaa.Team

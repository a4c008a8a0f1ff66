/- Together's starter: (*WaitGroup).Wait, in company. -/
import Derived.Test.YteffdcpepjjkbaaTsA
namespace Go.Proofs.Yteffdcpepjjkbaa.Team
open Go.Conc Go.ConcN Go.RowKit Go.Conc.Lib Go.ConcR.Gen Go.ConcN.Gen
open Go.ConcR (KK wgBlock WgAt stA smA rd wr mk Payload Aside2 DC0 ofEvent_cell)
set_option linter.unusedVariables false

noncomputable def body21 : Code := Try.f21.body.getD .skip
noncomputable def L21 : Code := match body21 with | .seq _ (.block _ (.loop c)) => c | _ => .skip

theorem df_none {T : Cfg} {w : World} {es : Array Event} (h : ∀ e ∈ es, False) : DF T w w es := fun e he => (h e he).elim
macro_rules | `(tactic| u_none) => `(tactic| refine df_none ?_)

/-- THE ANCHOR: at the head of Wait's loop. -/
def AnchWt (B : Nat) (F : World → Prop) (c : Frame) (cs : List Frame) (g : Goroutine) (w : World) : Prop :=
  ∃ T : Array Value, g = G ((base 21).at ⟨T, []⟩ [.code L21, .inLoop L21, .inBlock 0]) (c :: cs) ∧ T.size = 84 ∧ T[0]? = some (.pointer (some ⟨B + 1, 0, none⟩)) ∧ F w

theorem nm17 : (Try.f17.name == "runtime.NumGoroutine") = false := by kernel_rfl
theorem nm34 : (Try.f34.name == "runtime.NumGoroutine") = false := by kernel_rfl

section
variable {Cb B n : Nat} {L : Nat → Lst} {c0 : Nat → Int} {F : World → Prop} {Post : Value → World → Prop}
  {b₀ : Frame} {a₀ : Act} {ops₀ : Array Oper} {i₀ : Nat} {rest₀ : List Nat} {k₀ : List Item} {cs : List Frame} {mT : Nat}
set_option maxRecDepth 100000 in
set_option maxHeartbeats 8000000 in
/-- FROM Wait's ENTRY TO THE LOOP's HEAD. -/
theorem waitStart (hB : Cb < B) (fl : ∀ {w w'}, F w → (cfg Cb B n L c0).RS n w w' → F w') (w : World) (hF : F w) :
    GS Cb B n L c0 n (AtKd (cfg Cb B n L c0) (AnchWt B F (b₀.at a₀ (.inRegion ops₀ (i₀ :: rest₀) :: k₀)) cs)) 5
      (G ((base 21).at ⟨#[.pointer (some ⟨B + 1, 0, none⟩), undef, undef, undef, undef, undef, undef, undef, undef, undef, undef, undef, undef, undef, undef, undef, undef, undef, undef, undef, undef, undef, undef, undef, undef, undef, undef, undef, undef, undef, undef, undef, undef, undef, undef, undef, undef, undef, undef, undef, undef, undef, undef, undef, undef, undef, undef, undef, undef, undef, undef, undef, undef, undef, undef, undef, undef, undef, undef, undef, undef, undef, undef, undef, undef, undef, undef, undef, undef, undef, undef, undef, undef, undef, undef, undef, undef, undef, undef, undef, undef, undef, undef, undef], []⟩ [.code body21]) (b₀.at a₀ (.inRegion ops₀ (i₀ :: rest₀) :: k₀) :: cs)) w := by
  have H := Try.wgLib
  simp only [body21, Try.f21, Option.getD_some]
  repeat w_go fl
  refine Goes.stop (fun w₁ h₁ => ?_)
  replace hF := fl hF h₁
  clear h₁
  refine ⟨rfl, _, stepG_mark0 .disable (by simp) rfl rfl (by k_ne) rfl H.f_disable (x_disable_n Try.link) (x_disable_b Try.link) (x_disable_x Try.link) (x_disable_f Try.link), 5, ?_⟩
  walk_nrm
  u_c stepG_region_end fl hF
  u_c stepG_block fl hF
  u_c stepG_loop fl hF
  exact Goes.stop (fun w₂ h₂ => ⟨_, rfl, by simp, by simp, fl hF h₂⟩)

set_option maxRecDepth 100000 in
set_option maxHeartbeats 16000000 in
/-- FROM THE LOOP's HEAD. -/
theorem waitRound (hB : Cb < B) (fl : ∀ {w w'}, F w → (cfg Cb B n L c0).RS n w w' → F w') (hFl : ∀ {w}, F w → WgLive 57 (B + 1) w) (fr : ∀ {w w'}, F w ∧ (cfg Cb B n L c0).Cnt (fin (cfg Cb B n L c0)) w → Cfg.RF w w' → F w' ∧ (cfg Cb B n L c0).Cnt (fin (cfg Cb B n L c0)) w')
    (hT : ∀ w, F w ∧ (cfg Cb B n L c0).Cnt (fin (cfg Cb B n L c0)) w → Goes Try.prog true Cfg.RF (DF (cfg Cb B n L c0)) (AtRet (cfg Cb B n L c0) Post) mT (G (b₀.at (a₀.put ((ops₀[i₀]?).bind (·.dst)) (.tuple #[])) (.inRegion ops₀ rest₀ :: k₀)) cs) w)
    (g : Goroutine) (w : World) (h : AnchWt B F (b₀.at a₀ (.inRegion ops₀ (i₀ :: rest₀) :: k₀)) cs g w) :
    ∃ m, GS Cb B n L c0 n (AtW1 (cfg Cb B n L c0) (AnchWt B F (b₀.at a₀ (.inRegion ops₀ (i₀ :: rest₀) :: k₀)) cs) Post) m g w := by
  have H := Try.wgLib
  obtain ⟨T, rfl, hT84, t0, hF⟩ := h
  obtain ⟨v0, v1, v2, v3, v4, v5, v6, v7, v8, v9, v10, v11, v12, v13, v14, v15, v16, v17, v18, v19, v20, v21, v22, v23, v24, v25, v26, v27, v28, v29, v30, v31, v32, v33, v34, v35, v36, v37, v38, v39, v40, v41, v42, v43, v44, v45, v46, v47, v48, v49, v50, v51, v52, v53, v54, v55, v56, v57, v58, v59, v60, v61, v62, v63, v64, v65, v66, v67, v68, v69, v70, v71, v72, v73, v74, v75, v76, v77, v78, v79, v80, v81, v82, v83, rfl⟩ := array84 T hT84
  simp only [List.getElem?_toArray, List.getElem?_cons_zero, Option.some.injEq] at t0
  subst t0
  clear hT84
  refine ⟨30, ?_⟩
  simp only [L21, body21, Try.f21, Option.getD_some]
  repeat w_go fl
  u_call Try.func17 nm17 Try.f17 fl hF
  repeat w_go fl
  refine Goes.stop (fun w₁ h₁ => ?_)
  replace hF := fl hF h₁
  clear h₁
  refine ⟨rfl, fun v hv hw => ?_⟩
  replace hw : WgAt 57 (B + 1) w₁ (v * KK) 0 := hw
  rcases Nat.eq_zero_or_pos v with rfl | hvp
  · -- THE LOAD READS 0: THE JOIN IS SEEN
    replace hw : WgAt 57 (B + 1) w₁ 0 0 := by simpa using hw
    refine ⟨_, stepG_load_atomic (v := 0) rfl rfl (by k_ne) rfl H.f_loadU64 (x_loadU64_n Try.link) (x_loadU64_b Try.link) (x_loadU64_x Try.link) .u64 (x_loadU64_f Try.link) rfl hw.cellSt, fun _ => ⟨60, ?_⟩, fun h => absurd rfl h⟩
    clear hw
    walk_nrm
    repeat w_go fl
    u_leave1 Try.func17 fl hF
    repeat w_go fl
    refine Goes.stop (fun w₅ h₅ => ?_)
    replace hF := fl hF h₅
    clear h₅
    refine ⟨rfl, _, stepG_mark0 .enable (by simp) rfl rfl (by k_ne) rfl H.f_enable (x_enable_n Try.link) (x_enable_b Try.link) (x_enable_x Try.link) (x_enable_f Try.link), 20, ?_⟩
    walk_nrm
    repeat w_go fl
    m_convG Try.prog H.underlying_tUP H.underlying_tWgP H.room_tWg (WgLive.cell0 (hFl hF)).choose_spec fl hF
    refine Goes.stop (fun w₆ h₆ => ?_)
    replace hF := fl hF h₆
    clear h₆
    refine ⟨rfl, _, stepG_markAt .acquire (by simp) rfl rfl (by k_ne) rfl H.f_acquire (x_acquire_n Try.link) (x_acquire_b Try.link) (x_acquire_x Try.link) (x_acquire_f Try.link) (by simp [Act.eval, stA]), fun hfin => ⟨mT + 30, ?_⟩⟩
    replace hF := And.intro hF hfin
    clear hfin
    walk_nrm
    repeat w_go fr
    u_leave0 H.f_wait fr hF
    exact goes_upto (hT _ hF) (by omega)
  · -- THE LOAD READS v * 2^32, v > 0
    obtain ⟨S, hS⟩ : ∃ S : Int, (v : Int) * KK = S := ⟨_, rfl⟩
    have a1 : S / 4294967296 = (v : Int) := by rw [← hS]; simp only [KK]; omega
    have b1 : bits .and .u64 S 2147483648 = 0 := by rw [← hS]; have := st_flag v 0 (by omega) (by omega); simpa [KK] using this
    have b2 : bits .and .u64 S 2147483647 = 0 := by rw [← hS]; have := st_waiters v 0 (by omega) (by omega); simpa [KK] using this
    have c1 : IntKind.i32.wrap (v : Int) = (v : Int) := by rw [IntKind.wrap_i32]; omega
    have w1 : IntKind.u64.wrap (S + 1) = S + 1 := by rw [IntKind.wrap_u64, ← hS]; simp only [KK]; omega
    have q3 : decide ((v : Int) < 0) = false := decide_eq_false (by omega)
    have q4 : decide (0 < (v : Int)) = true := decide_eq_true (by omega)
    have q5 : ((v : Int) == 0) = false := by simp; omega
    have q6 : decide ((v : Int) = 0) = false := decide_eq_false (by omega)
    have q7 : decide (v = 0) = false := decide_eq_false (by omega)
    rw [hS] at hw
    refine ⟨_, stepG_load_atomic (v := S) rfl rfl (by k_ne) rfl H.f_loadU64 (x_loadU64_n Try.link) (x_loadU64_b Try.link) (x_loadU64_x Try.link) .u64 (x_loadU64_f Try.link) rfl hw.cellSt, fun h0 => absurd h0 (by omega), fun _ => ⟨80, ?_⟩⟩
    clear hw
    walk_nrm
    repeat w_go fl
    u_leave1 Try.func17 fl hF
    repeat w_go fl
    u_call Try.func34 nm34 Try.f34 fl hF
    repeat w_go fl
    refine Goes.stop (fun w₂ h₂ => ?_)
    replace hF := fl hF h₂
    clear h₂
    refine ⟨rfl, fun v' hv' hw => ⟨fun e => ?_, fun e => ?_⟩⟩
    · -- THE CompareAndSwap HITS: REGISTERED
      subst e
      replace hw : WgAt 57 (B + 1) w₂ (v' * KK) 0 := hw
      rw [hS] at hw ⊢
      refine ⟨_, (stepG_cas_hit (v := S) (n := S + 1) rfl rfl (by k_ne) rfl H.f_casU64 (x_casU64_n Try.link) (x_casU64_b Try.link) (x_casU64_x Try.link) .u64 (x_casU64_f Try.link) rfl rfl rfl hw.cellSt (hw.thaw 0)).trans (by rfl), 90, ?_⟩
      replace hF : F (w₂.setCell (stA (B + 1)) (.int .u64 (S + 1))) := fl hF (Cfg.RS.of_wg (geo hB) (aside_setCell w₂ (stA (B + 1)) _) ⟨_, _, hw.setSt _⟩)
      clear hw
      walk_nrm
      repeat w_go fl
      u_leave1 Try.func34 fl hF
      repeat w_go fl
      m_convG Try.prog H.underlying_tUP H.underlying_tPU32 H.room_tU32 (WgLive.cell1 (hFl hF)).choose_spec fl hF
      u_in fl hF
      rw [stepG_markAt .write (by simp) rfl rfl (by k_ne) rfl H.f_raceWrite (x_raceWrite_n Try.link) (x_raceWrite_b Try.link) (x_raceWrite_x Try.link) (x_raceWrite_f Try.link) (ad := ⟨B + 1, 1, none⟩) (by simp [Act.eval])]
      simp only [goes_go]
      refine ⟨⟨fun _ _ => rfl, fun e he => ?_⟩, ?_⟩
      · rw [Array.mem_singleton] at he
        subst he
        exact ev0_said_write _ rfl
      walk_nrm
      repeat w_go fl
      refine Goes.stop (fun w₃ h₃ => ?_)
      replace hF := fl hF h₃
      clear h₃
      refine ⟨rfl, rfl, fun ⟨st, hw⟩ => stepG_semacquire_wait rfl rfl rfl H.f_semacquire (x_semacquire_n Try.link) (x_semacquire_b Try.link) (x_semacquire_x Try.link) (x_semacquire_f Try.link) (by simp [Act.eval, smA]) hw.cellSm, fun hf => ?_⟩
      refine ⟨_, (stepG_semacquire (n := 1) rfl rfl (by k_ne) rfl H.f_semacquire (x_semacquire_n Try.link) (x_semacquire_b Try.link) (x_semacquire_x Try.link) (x_semacquire_f Try.link) (by simp [Act.eval, smA]) hf.cellSm (by k_ne) (hf.thaw 1)).trans (by rfl), 40, ?_⟩
      replace hF : F (w₃.setCell (smA (B + 1)) (.int .u32 0)) := fl hF (Cfg.RS.of_wg (geo hB) (aside_setCell w₃ (smA (B + 1)) _) ⟨_, _, hf.setSm 0⟩)
      clear hf
      walk_nrm
      repeat w_go fl
      u_call Try.func17 nm17 Try.f17 fl hF
      repeat w_go fl
      refine Goes.stop (fun w₄ h₄ => ?_)
      replace hF := fl hF h₄
      clear h₄
      refine ⟨rfl, fun hw => ⟨_, stepG_load_atomic (v := 0) rfl rfl (by k_ne) rfl H.f_loadU64 (x_loadU64_n Try.link) (x_loadU64_b Try.link) (x_loadU64_x Try.link) .u64 (x_loadU64_f Try.link) rfl hw.cellSt, 40, ?_⟩⟩
      clear hw
      walk_nrm
      repeat w_go fl
      u_leave1 Try.func17 fl hF
      repeat w_go fl
      refine Goes.stop (fun w₅ h₅ => ?_)
      replace hF := fl hF h₅
      clear h₅
      refine ⟨rfl, _, stepG_mark0 .enable (by simp) rfl rfl (by k_ne) rfl H.f_enable (x_enable_n Try.link) (x_enable_b Try.link) (x_enable_x Try.link) (x_enable_f Try.link), 20, ?_⟩
      walk_nrm
      repeat w_go fl
      m_convG Try.prog H.underlying_tUP H.underlying_tWgP H.room_tWg (WgLive.cell0 (hFl hF)).choose_spec fl hF
      refine Goes.stop (fun w₆ h₆ => ?_)
      replace hF := fl hF h₆
      clear h₆
      refine ⟨rfl, _, stepG_markAt .acquire (by simp) rfl rfl (by k_ne) rfl H.f_acquire (x_acquire_n Try.link) (x_acquire_b Try.link) (x_acquire_x Try.link) (x_acquire_f Try.link) (by simp [Act.eval, stA]), fun hfin => ⟨mT + 30, ?_⟩⟩
      replace hF := And.intro hF hfin
      clear hfin
      walk_nrm
      repeat w_go fr
      u_leave0 H.f_wait fr hF
      exact goes_upto (hT _ hF) (by omega)
    · -- IT MISSES: BACK TO THE LOOP's HEAD
      refine ⟨_, stepG_cas_miss (v := (v' : Int) * KK) (old := S) (n := S + 1) rfl rfl (by k_ne) rfl H.f_casU64 (x_casU64_n Try.link) (x_casU64_b Try.link) (x_casU64_x Try.link) .u64 (x_casU64_f Try.link) rfl rfl rfl hw.cellSt (hw.thaw 0) (by rw [← hS]; simp only [KK]; omega), 30, ?_⟩
      clear hw
      walk_nrm
      repeat w_go fl
      u_leave1 Try.func34 fl hF
      repeat w_but "code.block" fl
      refine Goes.stop (fun w₃ h₃ => ?_)
      replace hF := fl hF h₃
      exact ⟨_, rfl, by simp, by simp, hF⟩
end
end Go.Proofs.Yteffdcpepjjkbaa.Team

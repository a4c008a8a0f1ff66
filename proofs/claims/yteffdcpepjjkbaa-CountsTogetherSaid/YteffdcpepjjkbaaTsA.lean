/- Together's starter: (*WaitGroup).Add(1), in company. -/
import Derived.Test.YteffdcpepjjkbaaTwC
import Derived.Conc.MuWords
namespace Go.Proofs.Yteffdcpepjjkbaa.Team
open Go.Conc Go.ConcN Go.RowKit Go.Conc.Lib Go.ConcR.Gen Go.ConcN.Gen
open Go.ConcR (KK wgBlock WgAt stA smA rd wr mk Payload Aside2 DC0 ofEvent_cell)
set_option linter.unusedVariables false

noncomputable def body26 : Code := Try.f26.body.getD .skip

section
variable {Cb B n : Nat} {L : Nat → Lst} {c0 : Nat → Int} {j : Nat} {Next : Goroutine → World → Prop} {F : World → Prop}
  {b₀ : Frame} {a₀ : Act} {ops₀ : Array Oper} {i₀ : Nat} {rest₀ : List Nat} {k₀ : List Item} {cs : List Frame} {mT : Nat}
abbrev GS (Cb B n : Nat) (L : Nat → Lst) (c0 : Nat → Int) (j : Nat) (Stop : Goroutine → World → Prop) (m : Nat) (g : Goroutine) (w : World) : Prop := Goes Try.prog true ((cfg Cb B n L c0).RS j) (DS (cfg Cb B n L c0) j) Stop m g w

/-- What the starter says of the group's words. -/
theorem ev0_said (a : Addr) (h : a.block = B + 1) (l : Mark) (hl : l = .read a ∨ l = .write a) : Ev0 (B + 1) (Own1 (cfg Cb B n L c0)) (Rd1 (cfg Cb B n L c0)) (j + 1) ⟨.mark l, false, true⟩ := by
  rcases hl with rfl | rfl
  · exact ev0_said_read a h
  · exact ev0_said_write a h

set_option maxRecDepth 100000 in
set_option maxHeartbeats 8000000 in
theorem addPos (hB : Cb < B) (fl : ∀ {w w'}, F w → (cfg Cb B n L c0).RS j w w' → F w') (hFl : ∀ {w}, F w → WgLive 57 (B + 1) w)
    (hT : ∀ w, F w → GS Cb B n L c0 j (AtGo (cfg Cb B n L c0) j Next) mT (G (b₀.at (a₀.put ((ops₀[i₀]?).bind (·.dst)) (.tuple #[])) (.inRegion ops₀ rest₀ :: k₀)) cs) w)
    (w : World) (hF : F w) :
    GS Cb B n L c0 j (AtKdS (cfg Cb B n L c0) j Next) 20
      (G ((base 26).at ⟨#[.pointer (some ⟨B + 1, 0, none⟩), .int .i64 1, undef, undef, undef, undef, undef, undef, undef, undef, undef, undef, undef, undef, undef, undef, undef, undef, undef, undef, undef, undef, undef, undef, undef, undef, undef, undef, undef, undef, undef, undef, undef, undef, undef, undef, undef, undef, undef, undef, undef, undef, undef, undef, undef, undef, undef, undef, undef, undef, undef, undef, undef, undef, undef, undef, undef, undef, undef, undef, undef, undef, undef, undef, undef, undef, undef, undef, undef, undef, undef, undef, undef, undef, undef, undef, undef, undef, undef, undef, undef, undef, undef, undef, undef, undef, undef, undef, undef, undef, undef, undef, undef, undef, undef, undef, undef, undef, undef, undef, undef, undef, undef, undef, undef, undef, undef, undef, undef, undef, undef, undef, undef, undef, undef, undef, undef], []⟩ [.code body26]) (b₀.at a₀ (.inRegion ops₀ (i₀ :: rest₀) :: k₀) :: cs)) w := by
  have H := Try.wgLib
  simp only [body26, Try.f26, Option.getD_some]
  repeat w_go fl
  refine Goes.stop (fun w₁ h₁ => ?_)
  replace hF := fl hF h₁
  clear h₁
  refine ⟨rfl, _, stepG_mark0 .disable (by simp) rfl rfl (by k_ne) rfl H.f_disable (x_disable_n Try.link) (x_disable_b Try.link) (x_disable_x Try.link) (x_disable_f Try.link), 60, ?_⟩
  walk_nrm
  w_go fl
  w_go fl
  u_in fl hF
  rw [stepG_defer rfl rfl (by k_ne) rfl]
  simp only [goes_go]
  refine ⟨by u_nil, ?_⟩
  walk_nrm
  repeat w_go fl
  u_in fl hF
  rw [stepG_entry_pure (.bool false) rfl rfl (by k_ne) rfl H.f_inBubble (x_inBubble_n Try.link) (x_inBubble_b Try.link) (x_inBubble_x Try.link) (x_inBubble_f Try.link)]
  simp only [goes_go]
  refine ⟨by u_nil, ?_⟩
  walk_nrm
  repeat w_go fl
  u_call Try.func16 nm16 Try.f16 fl hF
  repeat w_go fl
  -- THE ATOMIC ADD
  refine Goes.stop (fun w₂ h₂ => ?_)
  replace hF := fl hF h₂
  clear h₂
  refine ⟨rfl, fun v hv hw => ?_⟩
  replace hw : WgAt 57 (B + 1) w₂ (v * KK) 0 := hw
  rcases Nat.eq_zero_or_pos v with rfl | hvp
  · -- THE COUNT IS NOW 1
    replace hw : WgAt 57 (B + 1) w₂ 0 0 := by simpa using hw
    have z : (((0 : Nat) : Int) + 1) * KK = KK := by simp
    rw [z]
    have e0 : IntKind.u64.wrap (0 + 4294967296) = KK := by decide
    refine ⟨_, (stepG_add_atomic rfl rfl (by k_ne) rfl H.f_addU64 (x_addU64_n Try.link) (x_addU64_b Try.link) (x_addU64_x Try.link) .u64 (x_addU64_f Try.link) rfl rfl hw.cellSt (hw.thaw 0)).trans (by rw [e0]; rfl), mT + 140, ?_⟩
    replace hF : F (w₂.setCell (stA (B + 1)) (.int .u64 KK)) := fl hF (Cfg.RS.of_wg (geo hB) (aside_setCell w₂ (stA (B + 1)) _) ⟨_, _, hw.setSt _⟩)
    clear hw
    simp only [KK] at hF ⊢
    walk_nrm
    repeat w_go fl
    u_leave1 Try.func16 fl hF
    repeat w_go fl
    m_convG Try.prog H.underlying_tUP H.underlying_tPU32 H.room_tU32 (WgLive.cell1 (hFl hF)).choose_spec fl hF
    u_in fl hF
    rw [stepG_markAt .read (by simp) rfl rfl (by k_ne) rfl H.f_raceRead (x_raceRead_n Try.link) (x_raceRead_b Try.link) (x_raceRead_x Try.link) (x_raceRead_f Try.link) (ad := ⟨B + 1, 1, none⟩) (by simp [Act.eval])]
    simp only [goes_go]
    refine ⟨⟨fun _ _ => rfl, fun e he => ?_⟩, ?_⟩
    · rw [Array.mem_singleton] at he
      subst he
      exact ev0_said_read _ rfl
    walk_nrm
    repeat w_go fl
    refine Goes.stop (fun w₃ h₃ => ?_)
    replace hF := fl hF h₃
    clear h₃
    refine ⟨rfl, _, stepG_unwind_entry (v := .tuple #[]) (evs := #[mk .enable]) rfl H.f_enable (x_enable_n Try.link) (x_enable_b Try.link) (x_enable_x Try.link) (x_enable_f Try.link) (by simp [Extern.Race.none_]) (by simp [mk]) (by simp [mk]), mT + 1, ?_⟩
    u_leave0 H.f_add fl hF
    exact hT _ hF
  · -- IT IS MORE
    obtain ⟨V, hV⟩ : ∃ V : Int, V = (v : Int) + 1 := ⟨_, rfl⟩
    obtain ⟨S, hS⟩ : ∃ S : Int, S = V * KK := ⟨_, rfl⟩
    have eS : IntKind.u64.wrap ((v : Int) * KK + 4294967296) = S := by rw [IntKind.wrap_u64, hS, hV]; simp only [KK]; omega
    rw [← hV, ← hS]
    have a1 : S / 4294967296 = V := by rw [hS]; simp only [KK]; omega
    have b1 : bits .and .u64 S 2147483648 = 0 := by rw [hS, hV]; have := st_flag (v + 1) 0 (by omega) (by omega); simpa [KK] using this
    have b2 : bits .and .u64 S 2147483647 = 0 := by rw [hS, hV]; have := st_waiters (v + 1) 0 (by omega) (by omega); simpa [KK] using this
    have c1 : IntKind.i32.wrap V = V := by rw [IntKind.wrap_i32]; omega
    have q1 : (V == 1) = false := by simp; omega
    have q2 : decide (V = 1) = false := decide_eq_false (by omega)
    have q3 : decide (V < 0) = false := decide_eq_false (by omega)
    have q4 : decide (0 < V) = true := decide_eq_true (by omega)
    have q5 : (V == 0) = false := by simp; omega
    have q6 : decide (V = 0) = false := decide_eq_false (by omega)
    refine ⟨_, (stepG_add_atomic rfl rfl (by k_ne) rfl H.f_addU64 (x_addU64_n Try.link) (x_addU64_b Try.link) (x_addU64_x Try.link) .u64 (x_addU64_f Try.link) rfl rfl hw.cellSt (hw.thaw 0)).trans (by rw [eS]; rfl), mT + 140, ?_⟩
    replace hF : F (w₂.setCell (stA (B + 1)) (.int .u64 S)) := fl hF (Cfg.RS.of_wg (geo hB) (aside_setCell w₂ (stA (B + 1)) _) ⟨_, _, hw.setSt _⟩)
    clear hw hS hV eS
    walk_nrm
    repeat w_go fl
    u_leave1 Try.func16 fl hF
    repeat w_go fl
    refine Goes.stop (fun w₃ h₃ => ?_)
    replace hF := fl hF h₃
    clear h₃
    refine ⟨rfl, _, stepG_unwind_entry (v := .tuple #[]) (evs := #[mk .enable]) rfl H.f_enable (x_enable_n Try.link) (x_enable_b Try.link) (x_enable_x Try.link) (x_enable_f Try.link) (by simp [Extern.Race.none_]) (by simp [mk]) (by simp [mk]), mT + 1, ?_⟩
    u_leave0 H.f_add fl hF
    exact hT _ hF
end
end Go.Proofs.Yteffdcpepjjkbaa.Team

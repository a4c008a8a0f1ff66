/- Together's workers: the whole script of one. -/
import Derived.Test.YteffdcpepjjkbaaTwB
namespace Go.Proofs.Yteffdcpepjjkbaa.Team
open Go.Conc Go.ConcN Go.RowKit Go.Conc.Lib Go.ConcR.Gen Go.ConcN.Gen
open Go.ConcR (KK wgBlock WgAt stA smA rd wr mk Payload Aside2 DC0 ofEvent_cell)
set_option linter.unusedVariables false

theorem born_step (B i : Nat) (w : World) : stepG Try.prog false (born Try.prog (call27 B i)) w =
    .go (G ((baseD 27).at ⟨#[.pointer (some ⟨B + 3 + 3 * i, 0, none⟩), .pointer (some ⟨B + 4 + 3 * i, 0, none⟩), undef, undef, undef], []⟩ [.code body27]) [bot]) w #[] := by
  simp [born, call27, stepG, unwind, callDeferred, invoke, callFunc, Try.func27, Try.f27, seen, GStep.after, G, Frame.enter, Frame.at, baseD, bot, body27]

section
variable {Cb B n : Nat} {L : Nat → Lst} {c0 : Nat → Int} {i : Nat}
set_option maxRecDepth 100000 in
set_option maxHeartbeats 8000000 in
/-- A WORKER's WHOLE SCRIPT. -/
theorem works (hB : Cb < B) (hi : i < n) (hlen : (L i).len = (L i).xs.length) (hbig : (L i).len ≤ 9223372036854775807) (hnil : 0 < (L i).len → ∃ ad, (L i).a = some ad) {w : World} (hF : WK Cb B n L c0 i w) :
    Script (cfg Cb B n L c0) i ((cfg Cb B n L c0).adds i) (born Try.prog (call27 B i)) w := by
  obtain ⟨f₁, h₁⟩ := loop20 (c0 := c0) hB hi hlen hbig hnil (L i).len 0 (by omega)
  have e0 : (L i).xs.drop 0 = (L i).xs := rfl
  rw [e0] at h₁
  clear e0 hlen
  refine (stop20_iff _ _ _).2 ⟨f₁ + 40, Goes.step rfl fun w₁ hr => ?_⟩
  replace hF := hF.rely' hB hr
  clear hr
  rw [born_step]
  refine ⟨by u_nil, ?_⟩
  simp only [body27, Try.f27, Option.getD_some]
  v_c stepG_seq
  v_reg
  v_op
  v_in
  rw [stepG_deferV (cap := #[.pointer (some ⟨B + 3 + 3 * i, 0, none⟩)]) rfl rfl (by k_ne) rfl rfl]
  simp only [goes_go]
  refine ⟨by u_nil, ?_⟩
  walk_nrm
  v_c stepG_region_end
  v_reg
  g_opw (WK.rely' hB) hF [WK.fb hF] (AsideCell.refl _ _ _ _) (evW_rd _ _ (by simp))
  v_in
  refine goes_callV (cap := #[.pointer (some ⟨B + 2 + 3 * i, 0, none⟩), .pointer (some ⟨B, 0, none⟩)]) rfl rfl (by k_ne) rfl rfl Try.func20 nm20 rfl ⟨by u_nil, ?_⟩
  walk_nrmf Try.f20
  v_c stepG_seq
  v_reg
  g_opw (WK.rely' hB) hF [WK.lb hF] (AsideCell.refl _ _ _ _) (evW_rd _ _ (by simp))
  simp only [Lst.val]
  v_op
  v_op
  v_c stepG_region_end
  v_c stepG_block
  v_c stepG_loop
  exact goes_upto (h₁ _ _ ⟨_, rfl, by simp, by simp, by simp, by simp [Lst.val], by simp, by simp⟩ hF) (by omega)
end
end Go.Proofs.Yteffdcpepjjkbaa.Team

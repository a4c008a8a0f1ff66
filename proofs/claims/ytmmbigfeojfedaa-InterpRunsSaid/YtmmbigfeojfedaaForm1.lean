/- An operation's kind, by the program's table. -/
import Derived.Test.YtmmbigfeojfedaaForm0
import Derived.Deep.WholeRow
namespace Go.Proofs.Ytmmbigfeojfedaa
open Go.RowKit Go.Proofs.YtmmbigfeojfedaaW.PrintWords

def tabL : List Value := [.string { data := #[104, 97, 108, 116] }, .int .i64 0, .string { data := #[112, 117, 115, 104] }, .int .i64 1, .string { data := #[108, 111, 97, 100] }, .int .i64 2, .string { data := #[115, 116, 111, 114, 101] }, .int .i64 2, .string { data := #[97, 114, 103] }, .int .i64 3, .string { data := #[107, 105, 110, 100] }, .int .i64 0, .string { data := #[97, 100, 100] }, .int .i64 0, .string { data := #[115, 117, 98] }, .int .i64 0, .string { data := #[109, 117, 108] }, .int .i64 0, .string { data := #[108, 101, 115, 115] }, .int .i64 0, .string { data := #[101, 113, 117, 97, 108] }, .int .i64 0, .string { data := #[110, 111, 116] }, .int .i64 0, .string { data := #[100, 117, 112] }, .int .i64 0, .string { data := #[100, 114, 111, 112] }, .int .i64 0, .string { data := #[115, 119, 97, 112] }, .int .i64 0, .string { data := #[106, 117, 109, 112] }, .int .i64 4, .string { data := #[106, 117, 109, 112, 122] }, .int .i64 4, .string { data := #[115, 101, 110, 100] }, .int .i64 5, .string { data := #[114, 101, 112, 108, 121] }, .int .i64 0, .string { data := #[114, 101, 109, 105, 110, 100] }, .int .i64 5, .string { data := #[99, 97, 110, 99, 101, 108] }, .int .i64 5, .string { data := #[102, 97, 105, 108] }, .int .i64 0, .string { data := #[110, 111, 119] }, .int .i64 0, .string { data := #[115, 101, 114, 105, 97, 108] }, .int .i64 0]
def zerL : List Value := [.string { data := #[] }, .int .i64 0, .string { data := #[] }, .int .i64 0, .string { data := #[] }, .int .i64 0, .string { data := #[] }, .int .i64 0, .string { data := #[] }, .int .i64 0, .string { data := #[] }, .int .i64 0, .string { data := #[] }, .int .i64 0, .string { data := #[] }, .int .i64 0, .string { data := #[] }, .int .i64 0, .string { data := #[] }, .int .i64 0, .string { data := #[] }, .int .i64 0, .string { data := #[] }, .int .i64 0, .string { data := #[] }, .int .i64 0, .string { data := #[] }, .int .i64 0, .string { data := #[] }, .int .i64 0, .string { data := #[] }, .int .i64 0, .string { data := #[] }, .int .i64 0, .string { data := #[] }, .int .i64 0, .string { data := #[] }, .int .i64 0, .string { data := #[] }, .int .i64 0, .string { data := #[] }, .int .i64 0, .string { data := #[] }, .int .i64 0, .string { data := #[] }, .int .i64 0, .string { data := #[] }, .int .i64 0]
theorem tab_at : ∀ k : Nat, k < 24 → ∃ s : ByteArray, tabL[k * 2]? = some (.string s) ∧ tabL[k * 2 + 1]? = some (.int .i64 (kindOf k))
  | 0, _ | 1, _ | 2, _ | 3, _ | 4, _ | 5, _ | 6, _ | 7, _ | 8, _ | 9, _ | 10, _ | 11, _ => ⟨_, rfl, rfl⟩
  | 12, _ | 13, _ | 14, _ | 15, _ | 16, _ | 17, _ | 18, _ | 19, _ | 20, _ | 21, _ | 22, _ | 23, _ => ⟨_, rfl, rfl⟩
  | _ + 24, h => absurd h (by omega)

/-- What the operation's kind is, and whether there is such an operation. -/
def OpPost (op : Int) (w : World) (e : Ending) (w' : World) : Prop :=
  Below w.heap.size w w' ∧ ∃ s : ByteArray, e = .returned (.tuple #[.string s, .int .i64 (if 0 ≤ op ∧ op < 24 then kindOf op.toNat else 0), .bool (decide (0 ≤ op ∧ op < 24))])

theorem info107 : (Try.prog.info? 107).map (·.size) = some 48 := by kernel_rfl
theorem tab_one : tabL.toArray.all (·.oneCell') = true := by kernel_rfl
theorem wpList_store_new {P : Program} {ops : Array Oper} {rest : List Oper} {op : Oper} {a : Act} {w : World} {Q : Exit → Act → World → Prop} (hgd : op.guard = none) (ty : TypeId) (x y : Operand) (ho : op.op = .store ty x y)
    (c c' : Array Value) (hx : a.eval x = .pointer (some ⟨w.heap.size, 0, none⟩)) (hy : a.eval y = .agg c') (hi : (P.info? ty).map (·.size) = some c'.size) (hz : c.size = c'.size) (h1 : c'.all (·.oneCell') = true)
    (h : wpList P ops Q rest (a.put op.dst undef) (w.alloc (.cells c' ty))) : wpList P ops Q (op :: rest) a (w.alloc (.cells c ty)) :=
  wpList_plain hgd fun K hK => by
    unfold Oper.wp execOp
    simp only [ho, hx, hy, Instr.storeAt, Instr.sureAddr, Sem.run_bind, Sem.run_pure, Result.andThen_ok, run_storeVar_new w ty c c' hi hz h1]
    exact hK _ _ h

set_option maxRecDepth 100000 in
set_option maxHeartbeats 4000000 in
theorem operation_any (op : Int) (w : World) : Calls Try.prog 28 #[.int .i64 op] w (OpPost op w) := by
  go_enter Try.func28, Try.ntmps28
  go_upto_region 1 with fail
  go_cut [5] (fun v wx => v = .pointer (some ⟨w.heap.size, 0, none⟩) ∧ wx = w.alloc (.cells tabL.toArray 107))
  case first =>
    refine wp_region_lit ?_
    refine wpList_plain rfl (fun K hK => ?_)
    go_simp
    refine hK _ _ ?_
    clear hK K
    try simp only [Act.put, List.setIfInBounds_toArray, List.set_cons_zero, List.set_cons_succ]
    refine wpList_plain rfl (fun K hK => ?_)
    go_simp
    refine hK _ _ ?_
    clear hK K
    try simp only [Act.put, List.setIfInBounds_toArray, List.set_cons_zero, List.set_cons_succ]
    refine wpList_plain rfl (fun K hK => ?_)
    go_simp
    refine hK _ _ ?_
    clear hK K
    try simp only [Act.put, List.setIfInBounds_toArray, List.set_cons_zero, List.set_cons_succ]
    refine wpList_plain rfl (fun K hK => ?_)
    go_simp
    refine hK _ _ ?_
    clear hK K
    try simp only [Act.put, List.setIfInBounds_toArray, List.set_cons_zero, List.set_cons_succ]
    refine wpList_plain rfl (fun K hK => ?_)
    go_simp
    refine hK _ _ ?_
    clear hK K
    try simp only [Act.put, List.setIfInBounds_toArray, List.set_cons_zero, List.set_cons_succ]
    refine wpList_plain rfl (fun K hK => ?_)
    go_simp
    refine hK _ _ ?_
    clear hK K
    try simp only [Act.put, List.setIfInBounds_toArray, List.set_cons_zero, List.set_cons_succ]
    refine wpList_plain rfl (fun K hK => ?_)
    go_simp
    refine hK _ _ ?_
    clear hK K
    try simp only [Act.put, List.setIfInBounds_toArray, List.set_cons_zero, List.set_cons_succ]
    refine wpList_plain rfl (fun K hK => ?_)
    go_simp
    refine hK _ _ ?_
    clear hK K
    try simp only [Act.put, List.setIfInBounds_toArray, List.set_cons_zero, List.set_cons_succ]
    refine wpList_plain rfl (fun K hK => ?_)
    go_simp
    refine hK _ _ ?_
    clear hK K
    try simp only [Act.put, List.setIfInBounds_toArray, List.set_cons_zero, List.set_cons_succ]
    refine wpList_plain rfl (fun K hK => ?_)
    go_simp
    refine hK _ _ ?_
    clear hK K
    try simp only [Act.put, List.setIfInBounds_toArray, List.set_cons_zero, List.set_cons_succ]
    refine wpList_plain rfl (fun K hK => ?_)
    go_simp
    refine hK _ _ ?_
    clear hK K
    try simp only [Act.put, List.setIfInBounds_toArray, List.set_cons_zero, List.set_cons_succ]
    refine wpList_plain rfl (fun K hK => ?_)
    go_simp
    refine hK _ _ ?_
    clear hK K
    try simp only [Act.put, List.setIfInBounds_toArray, List.set_cons_zero, List.set_cons_succ]
    refine wpList_plain rfl (fun K hK => ?_)
    go_simp
    refine hK _ _ ?_
    clear hK K
    try simp only [Act.put, List.setIfInBounds_toArray, List.set_cons_zero, List.set_cons_succ]
    refine wpList_plain rfl (fun K hK => ?_)
    go_simp
    refine hK _ _ ?_
    clear hK K
    try simp only [Act.put, List.setIfInBounds_toArray, List.set_cons_zero, List.set_cons_succ]
    refine wpList_plain rfl (fun K hK => ?_)
    go_simp
    refine hK _ _ ?_
    clear hK K
    try simp only [Act.put, List.setIfInBounds_toArray, List.set_cons_zero, List.set_cons_succ]
    refine wpList_plain rfl (fun K hK => ?_)
    go_simp
    refine hK _ _ ?_
    clear hK K
    try simp only [Act.put, List.setIfInBounds_toArray, List.set_cons_zero, List.set_cons_succ]
    refine wpList_plain rfl (fun K hK => ?_)
    go_simp
    refine hK _ _ ?_
    clear hK K
    try simp only [Act.put, List.setIfInBounds_toArray, List.set_cons_zero, List.set_cons_succ]
    refine wpList_plain rfl (fun K hK => ?_)
    go_simp
    refine hK _ _ ?_
    clear hK K
    try simp only [Act.put, List.setIfInBounds_toArray, List.set_cons_zero, List.set_cons_succ]
    refine wpList_plain rfl (fun K hK => ?_)
    go_simp
    refine hK _ _ ?_
    clear hK K
    try simp only [Act.put, List.setIfInBounds_toArray, List.set_cons_zero, List.set_cons_succ]
    refine wpList_plain rfl (fun K hK => ?_)
    go_simp
    refine hK _ _ ?_
    clear hK K
    try simp only [Act.put, List.setIfInBounds_toArray, List.set_cons_zero, List.set_cons_succ]
    refine wpList_plain rfl (fun K hK => ?_)
    go_simp
    refine hK _ _ ?_
    clear hK K
    try simp only [Act.put, List.setIfInBounds_toArray, List.set_cons_zero, List.set_cons_succ]
    refine wpList_plain rfl (fun K hK => ?_)
    go_simp
    refine hK _ _ ?_
    clear hK K
    try simp only [Act.put, List.setIfInBounds_toArray, List.set_cons_zero, List.set_cons_succ]
    refine wpList_plain rfl (fun K hK => ?_)
    go_simp
    refine hK _ _ ?_
    clear hK K
    try simp only [Act.put, List.setIfInBounds_toArray, List.set_cons_zero, List.set_cons_succ]
    refine wpList_plain rfl (fun K hK => ?_)
    go_simp
    refine hK _ _ ?_
    clear hK K
    try simp only [Act.put, List.setIfInBounds_toArray, List.set_cons_zero, List.set_cons_succ]
    refine wpList_plain rfl (fun K hK => ?_)
    go_simp
    refine hK _ _ ?_
    clear hK K
    try simp only [Act.put, List.setIfInBounds_toArray, List.set_cons_zero, List.set_cons_succ]
    refine wpList_plain rfl (fun K hK => ?_)
    go_simp
    refine hK _ _ ?_
    clear hK K
    try simp only [Act.put, List.setIfInBounds_toArray, List.set_cons_zero, List.set_cons_succ]
    refine wpList_store_new rfl 107 (.tmp 5) (.tmp 30) rfl zerL.toArray tabL.toArray rfl rfl (by rw [info107]; rfl) rfl tab_one ?_
    refine wpList_nil ?_
    simp only [Act.put]
    go_wp2
    go_meet
    exact ⟨rfl, rfl⟩
  obtain ⟨rfl, hw⟩ := hcut
  have hbel : Below w.heap.size w wc := hw ▸ (Below.refl _ _).alloc (Nat.le_refl _) _
  have hbk : Blk wc w.heap.size tabL.toArray 107 := hw ▸ Blk.new _ _ _
  obtain ⟨tb, htb⟩ : ∃ tb, tb = w.heap.size := ⟨_, rfl⟩
  rw [← htb] at hbk
  rw [← htb]
  have HBL := Lib.hid hbel
  clear hw hbel htb
  by_cases h0 : op < 0
  · have d0 : decide (op < 0) = true := decide_eq_true h0
    go_wp2
    go_ret3
    exact ⟨HBL.out, ⟨#[]⟩, by rw [if_neg (by omega), decide_eq_false (by omega)]; rfl⟩
  · have d0 : decide (op < 0) = false := decide_eq_false h0
    by_cases h1 : op < 24
    · obtain ⟨k, rfl⟩ : ∃ k : Nat, op = (k : Int) := ⟨op.toNat, by omega⟩
      obtain ⟨s, hs1, hs2⟩ := tab_at k (by omega)
      have p0 := hbk.cell (k * 2)
      have p1 := hbk.cell (k * 2 + 1)
      rw [List.getElem?_toArray, hs1] at p0
      rw [List.getElem?_toArray, hs2] at p1
      obtain ⟨kd, hkd⟩ : ∃ kd, kd = kindOf k := ⟨_, rfl⟩
      rw [← hkd] at p1
      have HK := Lib.hid hkd
      have d1 : decide ((k : Int) ≥ 24) = false := decide_eq_false (by omega)
      have d2 : decide ((24 : Int) ≤ (k : Int)) = false := decide_eq_false (by omega)
      have k0 : (0 : Int) ≤ (k : Int) := by omega
      have k1 : (k : Int) < 24 := h1
      clear hbk hs1 hs2 hkd
      go_wp2
      go_quiet (fail)
      go_wp2
      go_ret3
      exact ⟨below_drewN HBL.out _, s, by rw [if_pos ⟨k0, k1⟩, decide_eq_true ⟨k0, k1⟩, Int.toNat_natCast, ← HK.out]; rfl⟩
    · have d1 : decide (op ≥ 24) = true := decide_eq_true (by omega)
      have d2 : decide ((24 : Int) ≤ op) = true := decide_eq_true (by omega)
      go_wp2
      go_ret3
      exact ⟨HBL.out, ⟨#[]⟩, by rw [if_neg (by omega), decide_eq_false (by omega)]; rfl⟩
end Go.Proofs.Ytmmbigfeojfedaa

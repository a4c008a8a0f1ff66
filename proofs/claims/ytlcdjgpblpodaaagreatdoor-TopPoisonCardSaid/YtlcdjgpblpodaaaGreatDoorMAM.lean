/- Jour5, Map1, Lib4, Out1, Out2 -/
import Derived.Test.YtlcdjgpblpodaaaGreatDoorMAL
import Derived.Shelf.GgClosure.Gives
import Derived.Maps.OwnSet
import Derived.Maps.OwnOps
import Derived.Test.YtlcdjgpblpodaaaGreatDoorProg
import Derived.Shelf.SlGeneric
import Derived.Shelf.SlIter.Nil
import Derived.Shelf.SlIter.Sorted
import Derived.Shelf.Sort.Plain
import Derived.Shelf.Slices.In.SortNone
import Derived.Ground.GgzProg
import Derived.Test.YtlcdjgpblpodaaaGreatDoorMAA
namespace Go.Proofs.YtlcdjgpblpodaaaGreatDoor
open Go.RowKit Go.Proofs.YtlcdjgpblpodaaaGreatDoorW.PrintWords

/-- An append of whatever is read, to a row of one's own. -/
theorem append_any {P : Program} {w : World} {base t ty e size bytes : Nat} {i : TypeInfo} {z : Value} (ht : P.underlying t = some (.slice e)) (hi : P.info? e = some i) (hz : i.zero = some z) (hsize : i.size = size) (hby : i.bytes = bytes) (hzs : z.cells.size = size) (hsz : 0 < size)
    {v : Value} {n : Nat} {xs : List Value} (hown : w.ownsRow base e size v n xs) {A : Option Addr} {m c : Nat} {news : List Value} (hl : news.length = m * size) (hcells : ∀ j u, news[j]? = some u → ∃ ad, A = some ad ∧ w.cell? (ad.add j) = some u) (h1 : ∀ u ∈ news, u.oneCell' = true)
    (hA : A = none → c = 0) (hn : n + m ≤ 1048576) (hb : bytes ≤ 1024) (hbase : base ≤ w.heap.size) :
    ∃ v' w', (Builtin.append_ #[t, t] ty #[v, .slice A m c]).run P w = .ok v' w' ∧ w'.ownsRow base e size v' (n + m) (xs ++ news) ∧ w.grownBy w' v.ownBlock ∧ (v'.ownBlock = v.ownBlock ∨ v'.ownBlock = some w.heap.size) := by
  cases A with
  | none =>
    have hnn : news = [] := by
      cases news with
      | nil => rfl
      | cons u r =>
        obtain ⟨ad, h, _⟩ := hcells 0 u rfl
        cases h
    subst hnn
    have hm : m = 0 := by
      rcases Nat.eq_zero_or_pos m with h | h
      · exact h
      · have := Nat.mul_pos h hsz
        simp at hl
        omega
    subst hm
    obtain rfl := hA rfl
    refine ⟨v, w, ?_, by simpa using hown, World.grownBy.refl w _, .inl rfl⟩
    rcases hown.2 with ⟨rfl, rfl⟩ | ⟨g, cap, cur, rfl, _, _, hnc, _⟩
    · simp [Builtin.append_, run_underlying ht, sizeOf, typeInfo, hi, Builtin.lenOf, Builtin.firstCells]
    · simp [Builtin.append_, run_underlying ht, sizeOf, typeInfo, hi, Builtin.lenOf, Builtin.firstCells, hnc, storeCells]
  | some ad =>
    have hm : (n + m) * bytes ≤ 1048576 * 1024 := Nat.mul_le_mul hn hb
    obtain ⟨v', w', hrun, h2, h3, _, h5⟩ := run_append_own_at (P := P) w base t ty e i z size bytes ht hi hz hsize hby hzs hsz v n xs hown ad m c news hl (fun j u hu => by
      obtain ⟨a, ha, hc⟩ := hcells j u hu
      injection ha with ha
      subst ha
      exact hc) h1 (by unfold maxLen; omega) (by omega) hbase
    exact ⟨v', w', hrun, h2, h3, h5⟩
theorem wpList_append_any {P : Program} {w : World} {ops : Array Oper} {rest : List Oper} {o : Oper} {a : Go.Act} {Q : Exit → Go.Act → World → Prop} (hgd : o.guard = none) (s x : Operand) (t : TypeId)
    (ho : o.op = .call { callee := .builtin .append, args := #[s, x], argTypes := #[t, t] }) {base e size bytes : Nat} {i : TypeInfo} {z : Value} (ht : P.underlying t = some (.slice e)) (hi : P.info? e = some i) (hz : i.zero = some z) (hsize : i.size = size) (hby : i.bytes = bytes) (hzs : z.cells.size = size) (hsz : 0 < size)
    {v : Value} {n : Nat} {xs : List Value} (hs : a.eval s = v) (hown : w.ownsRow base e size v n xs) {A : Option Addr} {m c : Nat} {news : List Value} (hx : a.eval x = .slice A m c) (hl : news.length = m * size) (hcells : ∀ j u, news[j]? = some u → ∃ ad, A = some ad ∧ w.cell? (ad.add j) = some u) (h1 : ∀ u ∈ news, u.oneCell' = true)
    (hA : A = none → c = 0) (hn : n + m ≤ 1048576) (hb : bytes ≤ 1024) (hbase : base ≤ w.heap.size)
    (h : ∀ v' w', w'.ownsRow base e size v' (n + m) (xs ++ news) → w.grownBy w' v.ownBlock → (v'.ownBlock = v.ownBlock ∨ v'.ownBlock = some w.heap.size) → wpList P ops Q rest (a.put o.dst v') w') : wpList P ops Q (o :: rest) a w := by
  refine wpList_plain hgd fun K hK => ?_
  obtain ⟨v', w', hr, h2, h3, h4⟩ := append_any (ty := o.type) ht hi hz hsize hby hzs hsz hown hl hcells h1 hA hn hb hbase
  unfold Oper.wp execOp
  simp only [ho, resolve, invoke, builtin, Sem.run_bind, Sem.run_pure, Result.andThen_ok, List.map_toArray, List.map_cons, List.map_nil, hs, hx, hr]
  exact hK _ _ (h v' w' h2 h3 h4)
end Go.Proofs.YtlcdjgpblpodaaaGreatDoor
namespace Go.Proofs.YtlcdjgpblpodaaaGreatDoor
open Go.RowKit Go.Maps Go.Proofs.YtlcdjgpblpodaaaGreatDoorW.PrintWords

/-- An element read as it stands. -/
def rawR (v : Value) : Option (DataW Value × List MemPlace) := some (.held v, [])
theorem string_law : Keyed Tryz.prog 9 := string_keyed Tryz.underlying9
theorem u64_law : Keyed Tryz.prog 32 := int_keyed Tryz.underlying32
/-- Block b is a map of at most n entries, keys of type K, that holds f. -/
def MapAt (w : World) (K b n : Nat) (f : Lit → Option Value) : Prop := ∃ D : DataW Value, w.ownsMap Tryz.prog K rawR b n D ∧ ∀ l, (∃ v, keyOf Tryz.prog K v = some l) → Maps.has D l = (f l).isSome ∧ ∀ z, D.atKey l (.held z) = .held ((f l).getD z)
theorem MapAt.lt {w : World} {K b n : Nat} {f : Lit → Option Value} (h : MapAt w K b n f) : b < w.heap.size := by
  obtain ⟨D, h, _⟩ := h
  exact h.lt
theorem MapAt.chg {S : Nat → Prop} {w w' : World} {K b n : Nat} {f : Lit → Option Value} (h : MapAt w K b n f) (hc : Chg S w w') (hn : ¬ S b) : MapAt w' K b n f := by
  obtain ⟨D, ⟨es, clock, hb, h2⟩, h3⟩ := h
  exact ⟨D, ⟨es, clock, hc.at_ hn hb, h2⟩, h3⟩
theorem MapAt.below {w w' : World} {K b n : Nat} {f : Lit → Option Value} (h : MapAt w K b n f) (hb : Below w.heap.size w w') : MapAt w' K b n f := h.chg (Chg.of_below hb (fun _ => False)) (fun h => h)
theorem MapAt.new (w : World) (K : Nat) : MapAt (w.alloc (.map #[] 0)) K w.heap.size 0 (fun _ => none) := ⟨.map [], World.ownsMap_made _ _ _ _, fun _ _ => ⟨rfl, fun _ => rfl⟩⟩
section
variable {w : World} {K b n : Nat} {f : Lit → Option Value}
theorem MapAt.look {t e : Nat} (h : MapAt w K b n f) (law : Keyed Tryz.prog K) (ht : Tryz.prog.underlying t = some (.map K e)) {z : Value} (hz : ∀ w, (zeroValue e).run Tryz.prog w = .ok z w) {key : Value} {l : Lit} (hk : keyOf Tryz.prog K key = some l) :
    (Instr.lookup t (.map (some b)) key false).run Tryz.prog w = .ok ((f l).getD z) w := by
  obtain ⟨D, h1, h2⟩ := h
  obtain ⟨v, ps, hrun, hv⟩ := h1.lookup law ht (hz w) (zd := .held z) (zp := []) rfl hk
  rw [(h2 l ⟨key, hk⟩).2 z] at hv
  simp [rawR] at hv
  rw [hrun, hv.1]
theorem MapAt.look_ok {t e : Nat} (h : MapAt w K b n f) (law : Keyed Tryz.prog K) (ht : Tryz.prog.underlying t = some (.map K e)) {z : Value} (hz : ∀ w, (zeroValue e).run Tryz.prog w = .ok z w) {key : Value} {l : Lit} (hk : keyOf Tryz.prog K key = some l) :
    (Instr.lookup t (.map (some b)) key true).run Tryz.prog w = .ok (.tuple #[(f l).getD z, .bool (f l).isSome]) w := by
  obtain ⟨D, h1, h2⟩ := h
  obtain ⟨v, ps, hrun, hv⟩ := h1.look_ok law ht (hz w) (zd := .held z) (zp := []) rfl hk
  rw [(h2 l ⟨key, hk⟩).2 z] at hv
  simp [rawR] at hv
  rw [hrun, hv.1, (h2 l ⟨key, hk⟩).1]
open Classical in
/-- f with v at l. -/
noncomputable def putF (f : Lit → Option Value) (l : Lit) (v : Value) : Lit → Option Value := fun x => if x = l then some v else f x
open Classical in
/-- f without l. -/
noncomputable def delF (f : Lit → Option Value) (l : Lit) : Lit → Option Value := fun x => if x = l then none else f x
theorem putF_same (f : Lit → Option Value) (l : Lit) (v : Value) : putF f l v l = some v := if_pos rfl
theorem putF_other (f : Lit → Option Value) {l x : Lit} (v : Value) (h : x ≠ l) : putF f l v x = f x := if_neg h
theorem delF_same (f : Lit → Option Value) (l : Lit) : delF f l l = none := if_pos rfl
theorem delF_other (f : Lit → Option Value) {l x : Lit} (h : x ≠ l) : delF f l x = f x := if_neg h
theorem MapAt.put {t e : Nat} (h : MapAt w K b n f) (law : Keyed Tryz.prog K) (ht : Tryz.prog.underlying t = some (.map K e)) (hn : n < 1000000) {key v : Value} {l : Lit} (hk : keyOf Tryz.prog K key = some l) :
    ∃ w', (Instr.mapUpdate t (.map (some b)) key v).run Tryz.prog w = .ok () w' ∧ MapAt w' K b (n + 1) (putF f l v) ∧ Chg (fun k => k = b) w w' := by
  obtain ⟨D, h1, h2⟩ := h
  obtain ⟨w', hrun, h3, h4⟩ := h1.store law ht (by unfold maxLen; omega) (val := v) hk (d := .held v) (ps := []) rfl
  refine ⟨w', hrun, ⟨D.put l (.held v), h3, fun l' hl' => ?_⟩, ?_⟩
  · by_cases he : l' = l
    · subst he
      rw [putF_same]
      exact ⟨by rw [has_put_same h1.isMap (law.key hk)]; rfl, fun z => by rw [atKey_put_same h1.isMap (law.key hk)]; rfl⟩
    · rw [has_put_other he, putF_other f v he]
      exact ⟨(h2 l' hl').1, fun z => by rw [atKey_put_other he]; exact (h2 l' hl').2 z⟩
  · have hg := h4.grown
    exact ⟨hg.os, hg.tape, hg.output, hg.size, fun k hk' hn => hg.block k hk' (fun e => hn (Option.some.inj e))⟩
theorem MapAt.del {t e : Nat} (h : MapAt w K b n f) (law : Keyed Tryz.prog K) (ht : Tryz.prog.underlying t = some (.map K e)) {key : Value} {l : Lit} (hk : keyOf Tryz.prog K key = some l) (ty : Nat) :
    ∃ w', (Builtin.delete_ #[t, K] ty #[.map (some b), key]).run Tryz.prog w = .ok (.tuple #[]) w' ∧ MapAt w' K b n (delF f l) ∧ Chg (fun k => k = b) w w' := by
  obtain ⟨D, h1, h2⟩ := h
  obtain ⟨w', hrun, h3, h4⟩ := h1.drop law ht hk ty
  refine ⟨w', hrun, ⟨D.del l, h3, fun l' hl' => ?_⟩, ?_⟩
  · by_cases he : l' = l
    · subst he
      rw [delF_same]
      exact ⟨by rw [has_del_same]; rfl, fun z => by rw [atKey_del_same]; rfl⟩
    · rw [has_del_other he, delF_other f he]
      exact ⟨(h2 l' hl').1, fun z => by rw [atKey_del_other he]; exact (h2 l' hl').2 z⟩
  · have hg := h4.grown
    exact ⟨hg.os, hg.tape, hg.output, hg.size, fun k hk' hn => hg.block k hk' (fun e => hn (Option.some.inj e))⟩
end
section
variable {w : World} {K b n : Nat} {f : Lit → Option Value} {ops : Array Oper} {rest : List Oper} {o : Oper} {a : Go.Act} {Q : Exit → Go.Act → World → Prop}
theorem wpList_map_put (hg : o.guard = none) (m x v : Operand) (t : Nat) (hop : o.op = Op.mapUpdate t m x v) (h : MapAt w K b n f) (law : Keyed Tryz.prog K) {e : Nat} (ht : Tryz.prog.underlying t = some (.map K e)) (hn : n < 1000000)
    (hm : a.eval m = .map (some b)) {key val : Value} {l : Lit} (hx : a.eval x = key) (hv : a.eval v = val) (hk : keyOf Tryz.prog K key = some l)
    (hK : ∀ w', MapAt w' K b (n + 1) (putF f l val) → Chg (fun k => k = b) w w' → wpList Tryz.prog ops Q rest (a.put o.dst undef) w') : wpList Tryz.prog ops Q (o :: rest) a w := by
  refine wpList_plain hg fun K' hK' => ?_
  obtain ⟨w', hrun, r1, r2⟩ := h.put law ht hn (v := val) hk
  unfold Oper.wp
  simp [execOp, hop, hm, hx, hv, hrun, Result.andThen]
  exact hK' _ _ (hK w' r1 r2)
theorem wpList_map_ok (hg : o.guard = none) (m x : Operand) (t : Nat) (hop : o.op = Op.lookup t m x true) (h : MapAt w K b n f) (law : Keyed Tryz.prog K) {e : Nat} (ht : Tryz.prog.underlying t = some (.map K e)) {z : Value} (hz : ∀ w, (zeroValue e).run Tryz.prog w = .ok z w)
    (hm : a.eval m = .map (some b)) {key : Value} {l : Lit} (hx : a.eval x = key) (hk : keyOf Tryz.prog K key = some l) {r : Value} {ok : Bool} (hr : (f l).getD z = r) (hok : (f l).isSome = ok)
    (hK : wpList Tryz.prog ops Q rest (a.put o.dst (.tuple #[r, .bool ok])) w) : wpList Tryz.prog ops Q (o :: rest) a w := by
  refine wpList_plain hg fun K' hK' => ?_
  unfold Oper.wp
  simp [execOp, hop, hm, hx, h.look_ok law ht hz hk, Result.andThen, hr, hok]
  exact hK' _ _ hK
end
end Go.Proofs.YtlcdjgpblpodaaaGreatDoor
namespace Go.Proofs
open Go.RowKit Go.Maps Go.Sort Go.Shelf
theorem Tryz.sortsA (m : Nat) : AnyZ.SortsIn Tryz.prog Tryz.sortedA_ren Fence.wide m :=
  ⟨fun blk off cap ss W hH hblk hsz => callsIn_wide.2 (Any.slices_Sort_string Tryz.sortA blk off cap ss W hH hblk hsz),
   fun p cap W => callsIn_wide.2 (Any.slices_Sort_string_none Tryz.sortA p cap W)⟩
namespace YtlcdjgpblpodaaaGreatDoor
theorem keys174 (mb : Option Nat) (W : World) : Calls Tryz.prog 174 #[.map mb] W fun e w' => e = .returned (.func (.func 233) #[] #[.pointer (some ⟨W.heap.size, 0, none⟩)]) ∧ w' = W.alloc (.cells #[.map mb] 257) := callsIn_wide.1 (AnyZ.keys_in Tryz.keysA Fence.wide 5 trivial rfl mb W)
theorem keys155 (mb : Option Nat) (W : World) : Calls Tryz.prog 155 #[.map mb] W fun e w' => e = .returned (.func (.func 219) #[] #[.pointer (some ⟨W.heap.size, 0, none⟩)]) ∧ w' = W.alloc (.cells #[.map mb] 160) := callsIn_wide.1 (AnyZ.keys_in Tryz.keysB Fence.wide 5 trivial rfl mb W)
theorem sorted174 {H : Type} (b nn : Nat) (D0 : DataW H) (R : Value → Option (DataW H × List MemPlace)) (w : World) (kb : Nat) (hk : w.heap[kb]? = some (.cells #[.map (some b)] 257 (0, 0))) (hown : w.ownsMap Tryz.prog 9 R b nn D0) (hmax : Maps.size D0 ≤ 1000000) :
    Calls Tryz.prog 154 #[.func (.func 233) #[] #[.pointer (some ⟨kb, 0, none⟩)]] w fun e w' => ∃ (v : Value) (ss : List (List UInt8)), e = .returned v ∧ ss.Perm (strKeys D0) ∧
      w'.ownsRow w.heap.size 9 1 v ss.length ((ss.mergeSort (fun x y => decide (x ≤ y))).map encStr) ∧ (v = .slice none 0 0 ↔ ss = []) ∧ Below w.heap.size w w' := by
  have hseq : SeqGives Fence.wide 2 Tryz.prog 233 #[.pointer (some ⟨kb, 0, none⟩)] encStr (fun ss => ss.Perm (strKeys D0)) (Maps.size D0) w :=
    AnyZ.keys_gives (ρ := Tryz.keysA_ren) { Tryz.keysA with } Fence.wide _ trivial rfl (by omega) kb b nn D0 _ (lt_of_block hk) (by simp [World.cell?, hk]) hown
  have cS := AnyZ.sorted_in Tryz.sortedA Fence.wide 5 trivial trivial trivial trivial rfl (by omega) (Tryz.sortsA _) (enters_of Tryz.func218 (by kernel_rfl) rfl) 233 #[.pointer (some ⟨kb, 0, none⟩)] trivial (enters_of Tryz.func233 (by kernel_rfl) rfl) _ _ (by unfold maxLen; omega) (by omega) _ hseq
  exact callsIn_wide.1 cS
theorem sorted155 {H : Type} (b nn : Nat) (D0 : DataW H) (R : Value → Option (DataW H × List MemPlace)) (w : World) (kb : Nat) (hk : w.heap[kb]? = some (.cells #[.map (some b)] 160 (0, 0))) (hown : w.ownsMap Tryz.prog 9 R b nn D0) (hmax : Maps.size D0 ≤ 1000000) :
    Calls Tryz.prog 154 #[.func (.func 219) #[] #[.pointer (some ⟨kb, 0, none⟩)]] w fun e w' => ∃ (v : Value) (ss : List (List UInt8)), e = .returned v ∧ ss.Perm (strKeys D0) ∧
      w'.ownsRow w.heap.size 9 1 v ss.length ((ss.mergeSort (fun x y => decide (x ≤ y))).map encStr) ∧ (v = .slice none 0 0 ↔ ss = []) ∧ Below w.heap.size w w' := by
  have hseq : SeqGives Fence.wide 2 Tryz.prog 219 #[.pointer (some ⟨kb, 0, none⟩)] encStr (fun ss => ss.Perm (strKeys D0)) (Maps.size D0) w :=
    AnyZ.keys_gives (ρ := Tryz.keysB_ren) { Tryz.keysB with } Fence.wide _ trivial rfl (by omega) kb b nn D0 _ (lt_of_block hk) (by simp [World.cell?, hk]) hown
  have cS := AnyZ.sorted_in Tryz.sortedA Fence.wide 5 trivial trivial trivial trivial rfl (by omega) (Tryz.sortsA _) (enters_of Tryz.func218 (by kernel_rfl) rfl) 219 #[.pointer (some ⟨kb, 0, none⟩)] trivial (enters_of Tryz.func219 (by kernel_rfl) rfl) _ _ (by unfold maxLen; omega) (by omega) _ hseq
  exact callsIn_wide.1 cS
end YtlcdjgpblpodaaaGreatDoor
end Go.Proofs
namespace Go.Proofs.YtlcdjgpblpodaaaGreatDoor
open Go.RowKit Go.Maps Go.Proofs.YtlcdjgpblpodaaaGreatDoorW.PrintWords

/-- Letters on their way out, in a row. -/
def OutsAt (w : World) (X : Nat → Prop) (A : Option Addr) (os : List (ByteArray × Let)) : Prop :=
  os ≠ [] → ∃ b off, A = some ⟨b, off, none⟩ ∧ X b ∧ ∀ i e, os[i]? = some e → w.cell? ⟨b, off + i * 5, none⟩ = some (.string e.1) ∧ LetAt w X b (off + i * 5 + 1) e.2
theorem OutsAt.chg {S X : Nat → Prop} {w w' : World} {A : Option Addr} {os : List (ByteArray × Let)} (h : OutsAt w X A os) (hc : Chg S w w') (hX : ∀ k, X k → ¬ S k) : OutsAt w' X A os := fun hn => by
  obtain ⟨b, off, h1, h2, h3⟩ := h hn
  exact ⟨b, off, h1, h2, fun i e he => ⟨hc.cell (hX b h2) (h3 i e he).1, (h3 i e he).2.chg hc hX h2⟩⟩
theorem OutsAt.mono {X X' : Nat → Prop} {w : World} {A : Option Addr} {os : List (ByteArray × Let)} (h : OutsAt w X A os) (hX : ∀ k, X k → X' k) : OutsAt w X' A os := fun hn => by
  obtain ⟨b, off, h1, h2, h3⟩ := h hn
  exact ⟨b, off, h1, hX _ h2, fun i e he => ⟨(h3 i e he).1, (h3 i e he).2.mono hX⟩⟩
/-- The serials, as a map's datum. -/
def serD (ss : List (ByteArray × Nat)) : DataW Value := .map (ss.map fun e => (.string e.1.data.toList, .held (.int .u64 e.2)))
/-- An outbox; fr: a list that is empty is nil. -/
def OutbAt (fr : Bool) (w : World) (X : Nat → Prop) (ob : Nat) (o : Outb) : Prop :=
  ∃ A c mb n, X ob ∧ X mb ∧ Blk w ob #[.string o.owner, .slice A o.list.length c, .map (some mb)] 259 ∧ OutsAt w (fun k => X k ∧ k ≠ ob ∧ k ≠ mb) A o.list ∧ o.list.length ≤ c ∧ w.ownsMap Tryz.prog 9 rawR mb n (serD o.serials) ∧ n ≤ 1000 ∧ (fr = true → o.list = [] → A = none ∧ c = 0)
theorem ownsMap_chg {S : Nat → Prop} {w w' : World} {K b n : Nat} {D : DataW Value} (h : w.ownsMap Tryz.prog K rawR b n D) (hc : Chg S w w') (hn : ¬ S b) : w'.ownsMap Tryz.prog K rawR b n D := by
  obtain ⟨es, clock, hb, h2⟩ := h
  exact ⟨es, clock, hc.at_ hn hb, h2⟩
theorem OutbAt.chg {fr : Bool} {S X : Nat → Prop} {w w' : World} {ob : Nat} {o : Outb} (h : OutbAt fr w X ob o) (hc : Chg S w w') (hX : ∀ k, X k → ¬ S k) : OutbAt fr w' X ob o := by
  obtain ⟨A, c, mb, n, h1, h2, h3, h4, h5, h6, h7, h8⟩ := h
  exact ⟨A, c, mb, n, h1, h2, hc.blk h3 (hX _ h1), h4.chg hc (fun k hk => hX _ hk.1), h5, ownsMap_chg h6 hc (hX _ h2), h7, h8⟩
theorem OutbAt.mono {fr : Bool} {X X' : Nat → Prop} {w : World} {ob : Nat} {o : Outb} (h : OutbAt fr w X ob o) (hX : ∀ k, X k → X' k) : OutbAt fr w X' ob o := by
  obtain ⟨A, c, mb, n, h1, h2, h3, h4, h5, h6, h7, h8⟩ := h
  exact ⟨A, c, mb, n, hX _ h1, hX _ h2, h3, h4.mono (fun k hk => ⟨hX _ hk.1, hk.2⟩), h5, h6, h7, h8⟩
theorem OutbAt.rd {fr : Bool} {X : Nat → Prop} {w : World} {ob : Nat} {o : Outb} (h : OutbAt fr w X ob o) : OutbAt false w X ob o := by
  obtain ⟨A, c, mb, n, h1, h2, h3, h4, h5, h6, h7, h8⟩ := h
  exact ⟨A, c, mb, n, h1, h2, h3, h4, h5, h6, h7, fun h => by cases h⟩
def outb0 (owner : ByteArray) : Outb := { owner := owner, serials := [], list := [] }

theorem newout (s : ByteArray) (hs : KeyOk s) (w : World) : Calls Tryz.prog 156 #[.string s] w fun e w' => ∃ ob, e = .returned (.tuple #[.pointer (some ⟨ob, 0, none⟩), .int .i64 0]) ∧ OutbAt true w' (fun k => w.heap.size ≤ k) ob (outb0 s) ∧ Below w.heap.size w w' := by
  have hmm := @run_makeMap Tryz.prog
  go_enter Tryz.func156, Tryz.ntmps156
  go_wp2_with fail
  refine (key_any s hs w).mono ?_
  rintro e w1 ⟨rfl, rfl⟩
  go_wp2_with fail
  go_ret2
  have hbl : Below w.heap.size w ((w.alloc (.map #[] 0)).alloc (.cells #[.string s, .slice none 0 0, .map (some w.heap.size)] 259)) := ((Below.refl _ _).alloc (Nat.le_refl _) _).alloc (by simp) _
  refine ⟨w.heap.size + 1, by simp, ⟨none, 0, w.heap.size, 0, by omega, Nat.le_refl _, Blk.newAt (by simp), fun h => absurd rfl h, Nat.le_refl _, (World.ownsMap_made w _ _ _).alloc _, by omega, fun _ _ => ⟨rfl, rfl⟩⟩, hbl⟩
set_option maxRecDepth 100000 in
theorem none_any {fr : Bool} (X : Nat → Prop) (ob : Nat) (o : Outb) (ho : KeyOk o.owner) (w : World) (h : OutbAt fr w X ob o) : Calls Tryz.prog 173 #[.pointer (some ⟨ob, 0, none⟩)] w fun e w' => e = .returned (.bool false) ∧ w = w' := by
  obtain ⟨A, c, mb, n, h1, h2, h3, h4, h5, h6, h7, h8⟩ := h
  have c0 : w.cell? ⟨ob, 0, none⟩ = some (.string o.owner) := h3.cell 0
  have h0 : o.owner ≠ ⟨#[]⟩ := mt size_zero.1 (by have := ho.1; omega)
  have t1 := str_ne h0
  clear h1 h2 h3 h4 h5 h6 h7 h8
  go_enter Tryz.func173, Tryz.ntmps173
  go_wp2
  go_ret
  exact ⟨rfl, rfl⟩
theorem owner_any {fr : Bool} (X : Nat → Prop) (ob : Nat) (o : Outb) (w : World) (h : OutbAt fr w X ob o) : Calls Tryz.prog 90 #[.pointer (some ⟨ob, 0, none⟩)] w fun e w' => e = .returned (.string o.owner) ∧ w = w' := by
  obtain ⟨A, c, mb, n, h1, h2, h3, h4, h5, h6, h7, h8⟩ := h
  have c0 : w.cell? ⟨ob, 0, none⟩ = some (.string o.owner) := h3.cell 0
  clear h1 h2 h3 h4 h5 h6 h7 h8
  go_enter Tryz.func90, Tryz.ntmps90
  go_wp2
  go_ret
  exact ⟨rfl, rfl⟩
theorem size_serD (ss : List (ByteArray × Nat)) : Maps.size (serD ss) = ss.length := by simp [serD, Maps.size]
set_option maxRecDepth 100000 in
theorem fresh_any {fr : Bool} (X : Nat → Prop) (ob : Nat) (o : Outb) (ho : KeyOk o.owner) (w : World) (h : OutbAt fr w X ob o) : Calls Tryz.prog 168 #[.pointer (some ⟨ob, 0, none⟩)] w fun e w' => e = .returned (.bool (o.serials.isEmpty && o.list.isEmpty)) ∧ w = w' := by
  have HN := Lib.hid (none_any X ob o ho w h)
  obtain ⟨A, c, mb, n, h1, h2, h3, h4, h5, h6, h7, h8⟩ := h
  have c1 : w.cell? ⟨ob, 1, none⟩ = some (.slice A o.list.length c) := h3.cell 1
  have c2 : w.cell? ⟨ob, 2, none⟩ = some (.map (some mb)) := h3.cell 2
  have hlen : ∀ ty, (Builtin.len_ #[257] ty #[.map (some mb)]).run Tryz.prog w = .ok (.int .i64 o.serials.length) w := fun ty => by rw [h6.len Tryz.underlying257 ty, size_serD]
  clear h1 h2 h3 h4 h5 h6 h7 h8
  cases hs : o.serials with
  | nil =>
    rw [hs] at hlen
    cases hl : o.list with
    | nil =>
      rw [hl] at c1
      clear hs hl
      go_enter Tryz.func168, Tryz.ntmps168
      go_wp2_with fail
      refine HN.out.mono ?_
      rintro e w1 ⟨rfl, rfl⟩
      go_wp2_with fail
      go_ret
      exact ⟨rfl, rfl⟩
    | cons x r =>
      have t0 : ((o.list.length : Int) == 0) = false := by rw [hl]; simp; omega
      clear hs hl
      go_enter Tryz.func168, Tryz.ntmps168
      go_wp2_with fail
      refine HN.out.mono ?_
      rintro e w1 ⟨rfl, rfl⟩
      go_wp2_with fail
      go_ret
      exact ⟨rfl, rfl⟩
  | cons x r =>
    have t0 : ((o.serials.length : Int) == 0) = false := by rw [hs]; simp; omega
    clear hs
    go_enter Tryz.func168, Tryz.ntmps168
    go_wp2_with fail
    refine HN.out.mono ?_
    rintro e w1 ⟨rfl, rfl⟩
    go_wp2_with fail
    go_ret
    exact ⟨rfl, rfl⟩
set_option maxRecDepth 100000 in
theorem outenc0 {fr : Bool} (X : Nat → Prop) (ob : Nat) (s : ByteArray) (hs : KeyOk s) (w : World) (h : OutbAt fr w X ob (outb0 s)) :
    Calls Tryz.prog 110 #[.pointer (some ⟨ob, 0, none⟩)] w fun e w' => ∃ A c, e = .returned (.slice A (encOutb (outb0 s)).length c) ∧ w'.ownsRow w.heap.size 5 1 (.slice A (encOutb (outb0 s)).length c) (encOutb (outb0 s)).length (encs (Value.int .u8) (encOutb (outb0 s))) ∧ Below w.heap.size w w' := by
  have HN := Lib.hid (none_any X ob (outb0 s) hs w h)
  obtain ⟨A, c, mb, n, h1, h2, h3, h4, h5, h6, h7, h8⟩ := h
  obtain ⟨W0, hW0⟩ : ∃ W, W = w.alloc (.cells #[.slice none 0 0] 319) := ⟨_, rfl⟩
  have hb0 : Below w.heap.size w W0 := hW0 ▸ (Below.refl _ _).alloc (Nat.le_refl _) _
  have HB0 := Lib.hid hb0
  have HP := Lib.hid (show WP W0 w.heap.size (fun k => k = w.heap.size) [] W0 from hW0 ▸ WP.new w)
  have HC := Lib.hid (newwriter w)
  rw [← hW0] at HC
  have HS0 : w.heap.size ≤ W0.heap.size := hb0.size
  obtain ⟨wb, hwb⟩ : ∃ b, b = w.heap.size := ⟨_, rfl⟩
  rw [← hwb] at HP HC
  have HBK := Lib.hid (show Blk W0 ob #[.string s, .slice A 0 c, .map (some mb)] 259 from h3.below hb0)
  have HMB := Lib.hid (ownsMap_chg h6 (Chg.of_below hb0 (fun _ => False)) (fun h => h))
  have HNB := Lib.hid (show ¬ ob = wb from by have := h3.lt; omega)
  have HNM := Lib.hid (show ¬ mb = wb from by have := h6.lt; omega)
  have HWB := Lib.hid hwb
  have HE := Lib.hid (show encOutb (outb0 s) = encText s ++ encNum 0 ++ encNum 0 by simp [encOutb, outb0, encSerials, encOuts])
  have e1 := encText_length s (by have := hs.2; omega)
  have s1 := hs.2
  clear h1 h2 h3 h4 h5 h6 h7 h8 hb0 hW0 hwb
  rw [HE.out]
  obtain ⟨B, hB⟩ : ∃ B, B = encText s ++ encNum 0 ++ encNum 0 := ⟨_, rfl⟩
  have HBE := Lib.hid hB
  rw [← hB]
  clear hB
  go_enter Tryz.func110, Tryz.ntmps110
  go_wp2_with fail
  refine HN.out.mono ?_
  rintro e w1 ⟨rfl, rfl⟩
  go_wp2_with fail
  refine HC.out.mono ?_
  rintro e w1 ⟨rfl, rfl⟩
  have c0 : w1.cell? ⟨ob, 0, none⟩ = some (.string s) := HBK.out.cell 0
  go_wp2_with fail
  refine (WP.text s (by omega) (by simp) HP.out).mono ?_
  rintro e w2 ⟨rfl, h1⟩
  rw [List.nil_append] at h1
  have hb2 := h1.chg.blk HBK.out HNB.out
  have hm2 := ownsMap_chg HMB.out h1.chg HNM.out
  have c2 : w2.cell? ⟨ob, 2, none⟩ = some (.map (some mb)) := hb2.cell 2
  have hlen : ∀ ty, (Builtin.len_ #[257] ty #[.map (some mb)]).run Tryz.prog w2 = .ok (.int .i64 0) w2 := fun ty => by rw [hm2.len Tryz.underlying257 ty, size_serD]; rfl
  have H2 := Lib.hid h1
  clear h1 hb2 hm2 c0
  go_wp2_with fail
  refine (WP.num 0 (by omega) (by omega) H2.out).mono ?_
  rintro e w3 ⟨rfl, h1⟩
  have hb2 := h1.chg.blk HBK.out HNB.out
  have c2' : w3.cell? ⟨ob, 2, none⟩ = some (.map (some mb)) := hb2.cell 2
  have HM3 := Lib.hid (ownsMap_chg HMB.out h1.chg HNM.out)
  have HB3 := Lib.hid hb2
  have H3 := Lib.hid h1
  clear h1 hb2 c2 hlen
  go_wp2_with fail
  refine (keys174 (some mb) w3).mono ?_
  rintro e w4 ⟨rfl, rfl⟩
  go_wp2_with fail
  refine (sorted174 mb n _ rawR _ w3.heap.size (Blk.new _ _ _) (HM3.out.alloc _) (by rw [size_serD]; simp [outb0])).mono ?_
  rintro e w5 ⟨v, ss, rfl, hperm, hrow, hnil, hb5⟩
  obtain rfl : ss = [] := List.Perm.eq_nil (by simpa [outb0, serD, strKeys] using hperm)
  obtain rfl := hnil.2 rfl
  have H5 := Lib.hid (H3.out.later (((Below.refl _ _).alloc (Nat.le_refl _) _).trans (hb5.mono (by simp))))
  have c1 : w5.cell? ⟨ob, 1, none⟩ = some (.slice A 0 c) := ((HB3.out.alloc _).below hb5).cell 1
  clear hperm hrow hnil hb5 c2'
  go_wp2_with fail
  refine wp_loop_rounds 1 ?_
  rw [rounds_succ]
  go_wp2_with fail
  refine (WP.num 0 (by omega) (by rw [List.length_append]; have : (encNum 0).length = 1 := rfl; omega) H5.out).mono ?_
  rintro e w6 ⟨rfl, h1⟩
  rw [← HBE.out] at h1
  have hb6 := h1.chg.blk HBK.out HNB.out
  have c1' : w6.cell? ⟨ob, 1, none⟩ = some (.slice A 0 c) := hb6.cell 1
  have H6 := Lib.hid h1
  clear h1 hb6 c1
  go_wp2_with fail
  refine wp_loop_rounds 1 ?_
  rw [rounds_succ]
  go_wp2_with fail
  refine (WP.bytes (by rw [HBE.out]; simp only [List.length_append]; have : (encNum 0).length = 1 := rfl; omega) H6.out).mono ?_
  rintro e w7 ⟨A', c', rfl, h6, h7⟩
  have H8 := Lib.hid (own_weaken h6 (Nat.le_trans HS0 H6.out.chg.size))
  have H7 := Lib.hid (show Below w.heap.size w w7 from (HB0.out.trans (H6.out.chg.below (fun k hk => by rw [hk, HWB.out]; omega) HS0)).trans (h7.mono (Nat.le_trans HS0 H6.out.chg.size)))
  clear h6 h7
  go_wp2_with fail
  go_ret
  exact ⟨A', c', rfl, H8.out, H7.out⟩
end Go.Proofs.YtlcdjgpblpodaaaGreatDoor
namespace Go.Proofs.YtlcdjgpblpodaaaGreatDoor
open Go.RowKit Go.Maps Go.Proofs.YtlcdjgpblpodaaaGreatDoorW.PrintWords

theorem outb0_ok (s : ByteArray) (hs : KeyOk s) : (outb0 s).Ok := ⟨hs, fun e he => by simp [outb0] at he, fun e he => by simp [outb0] at he, .inl ⟨rfl, rfl⟩⟩
set_option maxRecDepth 100000 in
set_option maxHeartbeats 1000000 in
theorem outdec0 (A : Option Addr) (c0 : Nat) (s : ByteArray) (hs : KeyOk s) (w : World) (hr : ReadsOf (Value.int .u8) (0 : Int) w A (encOutb (outb0 s)).length (encOutb (outb0 s))) :
    Calls Tryz.prog 87 #[.slice A (encOutb (outb0 s)).length c0] w fun e w' => ∃ ob, e = .returned (.tuple #[.pointer (some ⟨ob, 0, none⟩), .int .i64 0]) ∧ OutbAt true w' (fun k => w.heap.size ≤ k) ob (outb0 s) ∧ Below w.heap.size w w' := by
  have hok := outb0_ok s hs
  have hlen := encOutb_length _ hok
  simp only [outb0, List.length_nil] at hlen
  have HN := Lib.hid (RP.new A c0 _ w hr (by simp only [outb0]; omega) (encOutb_bytes _ hok))
  have HE : encOutb (outb0 s) = encText s ++ (encNum 0 ++ (encNum 0 ++ [])) := by simp [encOutb, outb0, encSerials, encOuts]
  obtain ⟨N, hN⟩ : ∃ N, N = (encOutb (outb0 s)).length := ⟨_, rfl⟩
  rw [← hN] at HN ⊢
  rw [HE] at HN
  have s1 := hs.2
  have hmm := @run_makeMap Tryz.prog
  clear hr hN hok hlen HE
  go_enter Tryz.func87, Tryz.ntmps87
  go_wp2_with fail
  refine HN.out.mono ?_
  rintro e w1 ⟨rb, rfl, hrb, hp, hb⟩
  have HB0 := Lib.hid hb
  have hrlt := hp.rlt
  have hs1 := hb.size
  obtain ⟨X, hX⟩ : ∃ X : Nat → Prop, X = fun k => w.heap.size ≤ k ∧ k < rb := ⟨_, rfl⟩
  rw [← hX] at hp
  have HP := Lib.hid hp
  clear hp hb hX HN
  go_wp2_with fail
  refine (RP.text s (by omega) HP.out).mono ?_
  rintro e w2 ⟨rfl, h2, _⟩
  have HP2 := Lib.hid h2
  clear h2
  go_wp2_with fail
  refine (newout s hs w2).mono ?_
  rintro e w3 ⟨ob, rfl, ho, hb⟩
  have HP3 := Lib.hid (HP2.out.below hb)
  have HO3 := Lib.hid ho
  have hrlt2 := HP2.out.chg.size
  clear ho hb
  go_wp2_with fail
  refine (RP.num 0 (by omega) HP3.out).mono ?_
  rintro e w4 ⟨rfl, h2, hc⟩
  have HP4 := Lib.hid h2
  have HO4 := Lib.hid (HO3.out.chg hc (fun k hk => by omega))
  clear h2 hc
  go_wp2_with fail
  refine wp_loop_rounds 1 ?_
  rw [rounds_succ]
  go_wp2_with fail
  refine (RP.num 0 (by omega) HP4.out).mono ?_
  rintro e w5 ⟨rfl, h2, hc⟩
  have HP5 := Lib.hid (h2.alloc (.map #[] 0))
  have HO5 := Lib.hid ((HO4.out.chg hc (fun k hk => by omega)).chg ((Chg.refl (fun _ => False) w5).alloc (.map #[] 0)) (fun _ _ h => h))
  clear h2 hc
  go_wp2_with fail
  refine wp_loop_rounds 1 ?_
  rw [rounds_succ]
  obtain ⟨W6, hW6⟩ : ∃ W, W = w5.alloc (.map #[] 0) := ⟨_, rfl⟩
  rw [← hW6] at HP5 HO5 ⊢
  obtain ⟨A', c', mb, n, h1, h2, h3, h4, h5, h6, h7, h8⟩ := HO5.out
  obtain ⟨rfl, rfl⟩ := h8 rfl rfl
  have c1 : W6.cell? ⟨ob, 1, none⟩ = some (.slice none 0 0) := h3.cell 1
  clear h1 h2 h3 h4 h5 h6 h7 h8 hW6
  go_wp2_with fail
  refine wp_loop_rounds 1 ?_
  rw [rounds_succ]
  go_wp2_with fail
  refine (RP.end_ HP5.out).mono ?_
  rintro e w7 ⟨rfl, rfl⟩
  go_wp2_with fail
  go_ret2
  exact ⟨ob, rfl, HO5.out.mono (fun k hk => by omega), HB0.out.trans (HP5.out.chg.below (fun k hk => by omega) hs1)⟩
end Go.Proofs.YtlcdjgpblpodaaaGreatDoor

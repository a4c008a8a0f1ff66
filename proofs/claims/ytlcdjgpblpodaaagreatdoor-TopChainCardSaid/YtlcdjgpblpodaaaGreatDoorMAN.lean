/- Lib4, Out1, Out2, Act1 -/
import Derived.Test.YtlcdjgpblpodaaaGreatDoorProg
import Derived.Shelf.SlGeneric
import Derived.Shelf.SlIter.Nil
import Derived.Shelf.SlIter.Sorted
import Derived.Shelf.Sort.Plain
import Derived.Shelf.Slices.In.SortNone
import Derived.Ground.GgzProg
import Derived.Test.YtlcdjgpblpodaaaGreatDoorMAA
import Derived.Test.YtlcdjgpblpodaaaGreatDoorMAM
import Derived.Lib.ConvBytes
namespace Go.Proofs
open Go.RowKit Go.Maps Go.Sort Go.Shelf
theorem Tryz.sortsA (m : Nat) : AnyZ.SortsIn Tryz.prog Tryz.sortedA_ren Fence.wide m :=
  ⟨fun blk off cap ss W hH hblk hsz => callsIn_wide.2 (Any.slices_Sort_string Tryz.sortA blk off cap ss W hH hblk hsz),
   fun p cap W => callsIn_wide.2 (Any.slices_Sort_string_none Tryz.sortA p cap W)⟩
namespace YtlcdjgpblpodaaaGreatDoor
theorem keys174 (mb : Option Nat) (W : World) : Calls Tryz.prog 174 #[.map mb] W fun e w' => e = .returned (.func (.func 233) #[] #[.pointer (some ⟨W.heap.size, 0, none⟩)]) ∧ w' = W.alloc (.cells #[.map mb] 257) := callsIn_wide.1 (AnyZ.keys_in Tryz.keysA Fence.wide 5 trivial rfl mb W)
theorem keys155 (mb : Option Nat) (W : World) : Calls Tryz.prog 155 #[.map mb] W fun e w' => e = .returned (.func (.func 219) #[] #[.pointer (some ⟨W.heap.size, 0, none⟩)]) ∧ w' = W.alloc (.cells #[.map mb] 160) := callsIn_wide.1 (AnyZ.keys_in Tryz.keysB Fence.wide 5 trivial rfl mb W)
theorem sorted174 {H : Type} (b nn : Nat) (D0 : DataW H) (R : Value → Option (DataW H × List MemPlace)) (w : World) (kb : Nat) (hk : w.heap[kb]? = some (.cells #[.map (some b)] 257 (0, 0))) (hown : w.ownsMap Tryz.prog 9 R b nn D0) (hmax : Maps.size D0 ≤ 1000000) :
    Calls Tryz.prog 154 #[.func (.func 233) #[] #[.pointer (some ⟨kb, 0, none⟩)]] w fun e w' => ∃ (v : Value) (ss : List (List UInt8)), e = .returned v ∧ ss.Perm (strKeys D0) ∧
      w'.ownsRow w.heap.size 9 1 v ss.length ((ss.mergeSort (fun x y => decide (x ≤ y))).map encStr) ∧ (v = .slice none 0 0 ↔ ss = []) ∧ Below w.heap.size w w' := by
  have hseq : SeqGives Fence.wide 2 Tryz.prog 233 #[.pointer (some ⟨kb, 0, none⟩)] encStr (fun ss => ss.Perm (strKeys D0)) (Maps.size D0) w :=
    AnyZ.keys_gives (ρ := Tryz.keysA_ren) { Tryz.keysA with } Fence.wide _ trivial rfl (by omega) kb b nn D0 _ (lt_of_block hk) (by simp [World.cell?, hk]) hown
  have cS := AnyZ.sorted_in Tryz.sortedA Fence.wide 5 trivial trivial trivial trivial rfl (by omega) (Tryz.sortsA _) (enters_of Tryz.func218 (by kernel_rfl) rfl) 233 #[.pointer (some ⟨kb, 0, none⟩)] trivial (enters_of Tryz.func233 (by kernel_rfl) rfl) _ _ (by unfold maxLen; omega) (by omega) _ hseq
  exact callsIn_wide.1 cS
theorem sorted155 {H : Type} (b nn : Nat) (D0 : DataW H) (R : Value → Option (DataW H × List MemPlace)) (w : World) (kb : Nat) (hk : w.heap[kb]? = some (.cells #[.map (some b)] 160 (0, 0))) (hown : w.ownsMap Tryz.prog 9 R b nn D0) (hmax : Maps.size D0 ≤ 1000000) :
    Calls Tryz.prog 154 #[.func (.func 219) #[] #[.pointer (some ⟨kb, 0, none⟩)]] w fun e w' => ∃ (v : Value) (ss : List (List UInt8)), e = .returned v ∧ ss.Perm (strKeys D0) ∧
      w'.ownsRow w.heap.size 9 1 v ss.length ((ss.mergeSort (fun x y => decide (x ≤ y))).map encStr) ∧ (v = .slice none 0 0 ↔ ss = []) ∧ Below w.heap.size w w' := by
  have hseq : SeqGives Fence.wide 2 Tryz.prog 219 #[.pointer (some ⟨kb, 0, none⟩)] encStr (fun ss => ss.Perm (strKeys D0)) (Maps.size D0) w :=
    AnyZ.keys_gives (ρ := Tryz.keysB_ren) { Tryz.keysB with } Fence.wide _ trivial rfl (by omega) kb b nn D0 _ (lt_of_block hk) (by simp [World.cell?, hk]) hown
  have cS := AnyZ.sorted_in Tryz.sortedA Fence.wide 5 trivial trivial trivial trivial rfl (by omega) (Tryz.sortsA _) (enters_of Tryz.func218 (by kernel_rfl) rfl) 219 #[.pointer (some ⟨kb, 0, none⟩)] trivial (enters_of Tryz.func219 (by kernel_rfl) rfl) _ _ (by unfold maxLen; omega) (by omega) _ hseq
  exact callsIn_wide.1 cS
end YtlcdjgpblpodaaaGreatDoor
end Go.Proofs
namespace Go.Proofs.YtlcdjgpblpodaaaGreatDoor
open Go.RowKit Go.Maps Go.Proofs.YtlcdjgpblpodaaaGreatDoorW.PrintWords

/-- Letters on their way out, in a row. -/
def OutsAt (w : World) (X : Nat → Prop) (A : Option Addr) (os : List (ByteArray × Let)) : Prop :=
  os ≠ [] → ∃ b off, A = some ⟨b, off, none⟩ ∧ X b ∧ ∀ i e, os[i]? = some e → w.cell? ⟨b, off + i * 5, none⟩ = some (.string e.1) ∧ LetAt w X b (off + i * 5 + 1) e.2
theorem OutsAt.chg {S X : Nat → Prop} {w w' : World} {A : Option Addr} {os : List (ByteArray × Let)} (h : OutsAt w X A os) (hc : Chg S w w') (hX : ∀ k, X k → ¬ S k) : OutsAt w' X A os := fun hn => by
  obtain ⟨b, off, h1, h2, h3⟩ := h hn
  exact ⟨b, off, h1, h2, fun i e he => ⟨hc.cell (hX b h2) (h3 i e he).1, (h3 i e he).2.chg hc hX h2⟩⟩
theorem OutsAt.mono {X X' : Nat → Prop} {w : World} {A : Option Addr} {os : List (ByteArray × Let)} (h : OutsAt w X A os) (hX : ∀ k, X k → X' k) : OutsAt w X' A os := fun hn => by
  obtain ⟨b, off, h1, h2, h3⟩ := h hn
  exact ⟨b, off, h1, hX _ h2, fun i e he => ⟨(h3 i e he).1, (h3 i e he).2.mono hX⟩⟩
/-- The serials, as a map's datum. -/
def serD (ss : List (ByteArray × Nat)) : DataW Value := .map (ss.map fun e => (.string e.1.data.toList, .held (.int .u64 e.2)))
/-- An outbox; fr: a list that is empty is nil. -/
def OutbAt (fr : Bool) (w : World) (X : Nat → Prop) (ob : Nat) (o : Outb) : Prop :=
  ∃ A c mb n, X ob ∧ X mb ∧ Blk w ob #[.string o.owner, .slice A o.list.length c, .map (some mb)] 259 ∧ OutsAt w (fun k => X k ∧ k ≠ ob ∧ k ≠ mb) A o.list ∧ o.list.length ≤ c ∧ w.ownsMap Tryz.prog 9 rawR mb n (serD o.serials) ∧ n ≤ 1000 ∧ (fr = true → o.list = [] → A = none ∧ c = 0)
theorem ownsMap_chg {S : Nat → Prop} {w w' : World} {K b n : Nat} {D : DataW Value} (h : w.ownsMap Tryz.prog K rawR b n D) (hc : Chg S w w') (hn : ¬ S b) : w'.ownsMap Tryz.prog K rawR b n D := by
  obtain ⟨es, clock, hb, h2⟩ := h
  exact ⟨es, clock, hc.at_ hn hb, h2⟩
theorem OutbAt.chg {fr : Bool} {S X : Nat → Prop} {w w' : World} {ob : Nat} {o : Outb} (h : OutbAt fr w X ob o) (hc : Chg S w w') (hX : ∀ k, X k → ¬ S k) : OutbAt fr w' X ob o := by
  obtain ⟨A, c, mb, n, h1, h2, h3, h4, h5, h6, h7, h8⟩ := h
  exact ⟨A, c, mb, n, h1, h2, hc.blk h3 (hX _ h1), h4.chg hc (fun k hk => hX _ hk.1), h5, ownsMap_chg h6 hc (hX _ h2), h7, h8⟩
theorem OutbAt.mono {fr : Bool} {X X' : Nat → Prop} {w : World} {ob : Nat} {o : Outb} (h : OutbAt fr w X ob o) (hX : ∀ k, X k → X' k) : OutbAt fr w X' ob o := by
  obtain ⟨A, c, mb, n, h1, h2, h3, h4, h5, h6, h7, h8⟩ := h
  exact ⟨A, c, mb, n, hX _ h1, hX _ h2, h3, h4.mono (fun k hk => ⟨hX _ hk.1, hk.2⟩), h5, h6, h7, h8⟩
theorem OutbAt.rd {fr : Bool} {X : Nat → Prop} {w : World} {ob : Nat} {o : Outb} (h : OutbAt fr w X ob o) : OutbAt false w X ob o := by
  obtain ⟨A, c, mb, n, h1, h2, h3, h4, h5, h6, h7, h8⟩ := h
  exact ⟨A, c, mb, n, h1, h2, h3, h4, h5, h6, h7, fun h => by cases h⟩
def outb0 (owner : ByteArray) : Outb := { owner := owner, serials := [], list := [] }

theorem newout (s : ByteArray) (hs : KeyOk s) (w : World) : Calls Tryz.prog 156 #[.string s] w fun e w' => ∃ ob, e = .returned (.tuple #[.pointer (some ⟨ob, 0, none⟩), .int .i64 0]) ∧ OutbAt true w' (fun k => w.heap.size ≤ k) ob (outb0 s) ∧ Below w.heap.size w w' := by
  have hmm := @run_makeMap Tryz.prog
  go_enter Tryz.func156, Tryz.ntmps156
  go_wp2_with fail
  refine (key_any s hs w).mono ?_
  rintro e w1 ⟨rfl, rfl⟩
  go_wp2_with fail
  go_ret2
  have hbl : Below w.heap.size w ((w.alloc (.map #[] 0)).alloc (.cells #[.string s, .slice none 0 0, .map (some w.heap.size)] 259)) := ((Below.refl _ _).alloc (Nat.le_refl _) _).alloc (by simp) _
  refine ⟨w.heap.size + 1, by simp, ⟨none, 0, w.heap.size, 0, by omega, Nat.le_refl _, Blk.newAt (by simp), fun h => absurd rfl h, Nat.le_refl _, (World.ownsMap_made w _ _ _).alloc _, by omega, fun _ _ => ⟨rfl, rfl⟩⟩, hbl⟩
set_option maxRecDepth 100000 in
theorem none_any {fr : Bool} (X : Nat → Prop) (ob : Nat) (o : Outb) (ho : KeyOk o.owner) (w : World) (h : OutbAt fr w X ob o) : Calls Tryz.prog 173 #[.pointer (some ⟨ob, 0, none⟩)] w fun e w' => e = .returned (.bool false) ∧ w = w' := by
  obtain ⟨A, c, mb, n, h1, h2, h3, h4, h5, h6, h7, h8⟩ := h
  have c0 : w.cell? ⟨ob, 0, none⟩ = some (.string o.owner) := h3.cell 0
  have h0 : o.owner ≠ ⟨#[]⟩ := mt size_zero.1 (by have := ho.1; omega)
  have t1 := str_ne h0
  clear h1 h2 h3 h4 h5 h6 h7 h8
  go_enter Tryz.func173, Tryz.ntmps173
  go_wp2
  go_ret
  exact ⟨rfl, rfl⟩
theorem owner_any {fr : Bool} (X : Nat → Prop) (ob : Nat) (o : Outb) (w : World) (h : OutbAt fr w X ob o) : Calls Tryz.prog 90 #[.pointer (some ⟨ob, 0, none⟩)] w fun e w' => e = .returned (.string o.owner) ∧ w = w' := by
  obtain ⟨A, c, mb, n, h1, h2, h3, h4, h5, h6, h7, h8⟩ := h
  have c0 : w.cell? ⟨ob, 0, none⟩ = some (.string o.owner) := h3.cell 0
  clear h1 h2 h3 h4 h5 h6 h7 h8
  go_enter Tryz.func90, Tryz.ntmps90
  go_wp2
  go_ret
  exact ⟨rfl, rfl⟩
theorem size_serD (ss : List (ByteArray × Nat)) : Maps.size (serD ss) = ss.length := by simp [serD, Maps.size]
set_option maxRecDepth 100000 in
theorem fresh_any {fr : Bool} (X : Nat → Prop) (ob : Nat) (o : Outb) (ho : KeyOk o.owner) (w : World) (h : OutbAt fr w X ob o) : Calls Tryz.prog 168 #[.pointer (some ⟨ob, 0, none⟩)] w fun e w' => e = .returned (.bool (o.serials.isEmpty && o.list.isEmpty)) ∧ w = w' := by
  have HN := Lib.hid (none_any X ob o ho w h)
  obtain ⟨A, c, mb, n, h1, h2, h3, h4, h5, h6, h7, h8⟩ := h
  have c1 : w.cell? ⟨ob, 1, none⟩ = some (.slice A o.list.length c) := h3.cell 1
  have c2 : w.cell? ⟨ob, 2, none⟩ = some (.map (some mb)) := h3.cell 2
  have hlen : ∀ ty, (Builtin.len_ #[257] ty #[.map (some mb)]).run Tryz.prog w = .ok (.int .i64 o.serials.length) w := fun ty => by rw [h6.len Tryz.underlying257 ty, size_serD]
  clear h1 h2 h3 h4 h5 h6 h7 h8
  cases hs : o.serials with
  | nil =>
    rw [hs] at hlen
    cases hl : o.list with
    | nil =>
      rw [hl] at c1
      clear hs hl
      go_enter Tryz.func168, Tryz.ntmps168
      go_wp2_with fail
      refine HN.out.mono ?_
      rintro e w1 ⟨rfl, rfl⟩
      go_wp2_with fail
      go_ret
      exact ⟨rfl, rfl⟩
    | cons x r =>
      have t0 : ((o.list.length : Int) == 0) = false := by rw [hl]; simp; omega
      clear hs hl
      go_enter Tryz.func168, Tryz.ntmps168
      go_wp2_with fail
      refine HN.out.mono ?_
      rintro e w1 ⟨rfl, rfl⟩
      go_wp2_with fail
      go_ret
      exact ⟨rfl, rfl⟩
  | cons x r =>
    have t0 : ((o.serials.length : Int) == 0) = false := by rw [hs]; simp; omega
    clear hs
    go_enter Tryz.func168, Tryz.ntmps168
    go_wp2_with fail
    refine HN.out.mono ?_
    rintro e w1 ⟨rfl, rfl⟩
    go_wp2_with fail
    go_ret
    exact ⟨rfl, rfl⟩
set_option maxRecDepth 100000 in
theorem outenc0 {fr : Bool} (X : Nat → Prop) (ob : Nat) (s : ByteArray) (hs : KeyOk s) (w : World) (h : OutbAt fr w X ob (outb0 s)) :
    Calls Tryz.prog 110 #[.pointer (some ⟨ob, 0, none⟩)] w fun e w' => ∃ A c, e = .returned (.slice A (encOutb (outb0 s)).length c) ∧ w'.ownsRow w.heap.size 5 1 (.slice A (encOutb (outb0 s)).length c) (encOutb (outb0 s)).length (encs (Value.int .u8) (encOutb (outb0 s))) ∧ Below w.heap.size w w' := by
  have HN := Lib.hid (none_any X ob (outb0 s) hs w h)
  obtain ⟨A, c, mb, n, h1, h2, h3, h4, h5, h6, h7, h8⟩ := h
  obtain ⟨W0, hW0⟩ : ∃ W, W = w.alloc (.cells #[.slice none 0 0] 319) := ⟨_, rfl⟩
  have hb0 : Below w.heap.size w W0 := hW0 ▸ (Below.refl _ _).alloc (Nat.le_refl _) _
  have HB0 := Lib.hid hb0
  have HP := Lib.hid (show WP W0 w.heap.size (fun k => k = w.heap.size) [] W0 from hW0 ▸ WP.new w)
  have HC := Lib.hid (newwriter w)
  rw [← hW0] at HC
  have HS0 : w.heap.size ≤ W0.heap.size := hb0.size
  obtain ⟨wb, hwb⟩ : ∃ b, b = w.heap.size := ⟨_, rfl⟩
  rw [← hwb] at HP HC
  have HBK := Lib.hid (show Blk W0 ob #[.string s, .slice A 0 c, .map (some mb)] 259 from h3.below hb0)
  have HMB := Lib.hid (ownsMap_chg h6 (Chg.of_below hb0 (fun _ => False)) (fun h => h))
  have HNB := Lib.hid (show ¬ ob = wb from by have := h3.lt; omega)
  have HNM := Lib.hid (show ¬ mb = wb from by have := h6.lt; omega)
  have HWB := Lib.hid hwb
  have HE := Lib.hid (show encOutb (outb0 s) = encText s ++ encNum 0 ++ encNum 0 by simp [encOutb, outb0, encSerials, encOuts])
  have e1 := encText_length s (by have := hs.2; omega)
  have s1 := hs.2
  clear h1 h2 h3 h4 h5 h6 h7 h8 hb0 hW0 hwb
  rw [HE.out]
  obtain ⟨B, hB⟩ : ∃ B, B = encText s ++ encNum 0 ++ encNum 0 := ⟨_, rfl⟩
  have HBE := Lib.hid hB
  rw [← hB]
  clear hB
  go_enter Tryz.func110, Tryz.ntmps110
  go_wp2_with fail
  refine HN.out.mono ?_
  rintro e w1 ⟨rfl, rfl⟩
  go_wp2_with fail
  refine HC.out.mono ?_
  rintro e w1 ⟨rfl, rfl⟩
  have c0 : w1.cell? ⟨ob, 0, none⟩ = some (.string s) := HBK.out.cell 0
  go_wp2_with fail
  refine (WP.text s (by omega) (by simp) HP.out).mono ?_
  rintro e w2 ⟨rfl, h1⟩
  rw [List.nil_append] at h1
  have hb2 := h1.chg.blk HBK.out HNB.out
  have hm2 := ownsMap_chg HMB.out h1.chg HNM.out
  have c2 : w2.cell? ⟨ob, 2, none⟩ = some (.map (some mb)) := hb2.cell 2
  have hlen : ∀ ty, (Builtin.len_ #[257] ty #[.map (some mb)]).run Tryz.prog w2 = .ok (.int .i64 0) w2 := fun ty => by rw [hm2.len Tryz.underlying257 ty, size_serD]; rfl
  have H2 := Lib.hid h1
  clear h1 hb2 hm2 c0
  go_wp2_with fail
  refine (WP.num 0 (by omega) (by omega) H2.out).mono ?_
  rintro e w3 ⟨rfl, h1⟩
  have hb2 := h1.chg.blk HBK.out HNB.out
  have c2' : w3.cell? ⟨ob, 2, none⟩ = some (.map (some mb)) := hb2.cell 2
  have HM3 := Lib.hid (ownsMap_chg HMB.out h1.chg HNM.out)
  have HB3 := Lib.hid hb2
  have H3 := Lib.hid h1
  clear h1 hb2 c2 hlen
  go_wp2_with fail
  refine (keys174 (some mb) w3).mono ?_
  rintro e w4 ⟨rfl, rfl⟩
  go_wp2_with fail
  refine (sorted174 mb n _ rawR _ w3.heap.size (Blk.new _ _ _) (HM3.out.alloc _) (by rw [size_serD]; simp [outb0])).mono ?_
  rintro e w5 ⟨v, ss, rfl, hperm, hrow, hnil, hb5⟩
  obtain rfl : ss = [] := List.Perm.eq_nil (by simpa [outb0, serD, strKeys] using hperm)
  obtain rfl := hnil.2 rfl
  have H5 := Lib.hid (H3.out.later (((Below.refl _ _).alloc (Nat.le_refl _) _).trans (hb5.mono (by simp))))
  have c1 : w5.cell? ⟨ob, 1, none⟩ = some (.slice A 0 c) := ((HB3.out.alloc _).below hb5).cell 1
  clear hperm hrow hnil hb5 c2'
  go_wp2_with fail
  refine wp_loop_rounds 1 ?_
  rw [rounds_succ]
  go_wp2_with fail
  refine (WP.num 0 (by omega) (by rw [List.length_append]; have : (encNum 0).length = 1 := rfl; omega) H5.out).mono ?_
  rintro e w6 ⟨rfl, h1⟩
  rw [← HBE.out] at h1
  have hb6 := h1.chg.blk HBK.out HNB.out
  have c1' : w6.cell? ⟨ob, 1, none⟩ = some (.slice A 0 c) := hb6.cell 1
  have H6 := Lib.hid h1
  clear h1 hb6 c1
  go_wp2_with fail
  refine wp_loop_rounds 1 ?_
  rw [rounds_succ]
  go_wp2_with fail
  refine (WP.bytes (by rw [HBE.out]; simp only [List.length_append]; have : (encNum 0).length = 1 := rfl; omega) H6.out).mono ?_
  rintro e w7 ⟨A', c', rfl, h6, h7⟩
  have H8 := Lib.hid (own_weaken h6 (Nat.le_trans HS0 H6.out.chg.size))
  have H7 := Lib.hid (show Below w.heap.size w w7 from (HB0.out.trans (H6.out.chg.below (fun k hk => by rw [hk, HWB.out]; omega) HS0)).trans (h7.mono (Nat.le_trans HS0 H6.out.chg.size)))
  clear h6 h7
  go_wp2_with fail
  go_ret
  exact ⟨A', c', rfl, H8.out, H7.out⟩
end Go.Proofs.YtlcdjgpblpodaaaGreatDoor
namespace Go.Proofs.YtlcdjgpblpodaaaGreatDoor
open Go.RowKit Go.Maps Go.Proofs.YtlcdjgpblpodaaaGreatDoorW.PrintWords

theorem outb0_ok (s : ByteArray) (hs : KeyOk s) : (outb0 s).Ok := ⟨hs, fun e he => by simp [outb0] at he, fun e he => by simp [outb0] at he, .inl ⟨rfl, rfl⟩⟩
set_option maxRecDepth 100000 in
set_option maxHeartbeats 1000000 in
theorem outdec0 (A : Option Addr) (c0 : Nat) (s : ByteArray) (hs : KeyOk s) (w : World) (hr : ReadsOf (Value.int .u8) (0 : Int) w A (encOutb (outb0 s)).length (encOutb (outb0 s))) :
    Calls Tryz.prog 87 #[.slice A (encOutb (outb0 s)).length c0] w fun e w' => ∃ ob, e = .returned (.tuple #[.pointer (some ⟨ob, 0, none⟩), .int .i64 0]) ∧ OutbAt true w' (fun k => w.heap.size ≤ k) ob (outb0 s) ∧ Below w.heap.size w w' := by
  have hok := outb0_ok s hs
  have hlen := encOutb_length _ hok
  simp only [outb0, List.length_nil] at hlen
  have HN := Lib.hid (RP.new A c0 _ w hr (by simp only [outb0]; omega) (encOutb_bytes _ hok))
  have HE : encOutb (outb0 s) = encText s ++ (encNum 0 ++ (encNum 0 ++ [])) := by simp [encOutb, outb0, encSerials, encOuts]
  obtain ⟨N, hN⟩ : ∃ N, N = (encOutb (outb0 s)).length := ⟨_, rfl⟩
  rw [← hN] at HN ⊢
  rw [HE] at HN
  have s1 := hs.2
  have hmm := @run_makeMap Tryz.prog
  clear hr hN hok hlen HE
  go_enter Tryz.func87, Tryz.ntmps87
  go_wp2_with fail
  refine HN.out.mono ?_
  rintro e w1 ⟨rb, rfl, hrb, hp, hb⟩
  have HB0 := Lib.hid hb
  have hrlt := hp.rlt
  have hs1 := hb.size
  obtain ⟨X, hX⟩ : ∃ X : Nat → Prop, X = fun k => w.heap.size ≤ k ∧ k < rb := ⟨_, rfl⟩
  rw [← hX] at hp
  have HP := Lib.hid hp
  clear hp hb hX HN
  go_wp2_with fail
  refine (RP.text s (by omega) HP.out).mono ?_
  rintro e w2 ⟨rfl, h2, _⟩
  have HP2 := Lib.hid h2
  clear h2
  go_wp2_with fail
  refine (newout s hs w2).mono ?_
  rintro e w3 ⟨ob, rfl, ho, hb⟩
  have HP3 := Lib.hid (HP2.out.below hb)
  have HO3 := Lib.hid ho
  have hrlt2 := HP2.out.chg.size
  clear ho hb
  go_wp2_with fail
  refine (RP.num 0 (by omega) HP3.out).mono ?_
  rintro e w4 ⟨rfl, h2, hc⟩
  have HP4 := Lib.hid h2
  have HO4 := Lib.hid (HO3.out.chg hc (fun k hk => by omega))
  clear h2 hc
  go_wp2_with fail
  refine wp_loop_rounds 1 ?_
  rw [rounds_succ]
  go_wp2_with fail
  refine (RP.num 0 (by omega) HP4.out).mono ?_
  rintro e w5 ⟨rfl, h2, hc⟩
  have HP5 := Lib.hid (h2.alloc (.map #[] 0))
  have HO5 := Lib.hid ((HO4.out.chg hc (fun k hk => by omega)).chg ((Chg.refl (fun _ => False) w5).alloc (.map #[] 0)) (fun _ _ h => h))
  clear h2 hc
  go_wp2_with fail
  refine wp_loop_rounds 1 ?_
  rw [rounds_succ]
  obtain ⟨W6, hW6⟩ : ∃ W, W = w5.alloc (.map #[] 0) := ⟨_, rfl⟩
  rw [← hW6] at HP5 HO5 ⊢
  obtain ⟨A', c', mb, n, h1, h2, h3, h4, h5, h6, h7, h8⟩ := HO5.out
  obtain ⟨rfl, rfl⟩ := h8 rfl rfl
  have c1 : W6.cell? ⟨ob, 1, none⟩ = some (.slice none 0 0) := h3.cell 1
  clear h1 h2 h3 h4 h5 h6 h7 h8 hW6
  go_wp2_with fail
  refine wp_loop_rounds 1 ?_
  rw [rounds_succ]
  go_wp2_with fail
  refine (RP.end_ HP5.out).mono ?_
  rintro e w7 ⟨rfl, rfl⟩
  go_wp2_with fail
  go_ret2
  exact ⟨ob, rfl, HO5.out.mono (fun k hk => by omega), HB0.out.trans (HP5.out.chg.below (fun k hk => by omega) hs1)⟩
end Go.Proofs.YtlcdjgpblpodaaaGreatDoor
namespace Go.Proofs.YtlcdjgpblpodaaaGreatDoor
open Go.RowKit Go.Maps Go.Proofs.YtlcdjgpblpodaaaGreatDoorW.PrintWords

theorem jour_lt {X : Nat → Prop} {w : World} {jb : Nat} {j : Jour} (h : JourAt w X jb j) : JourAt w (fun k => X k ∧ k < w.heap.size) jb j := by
  obtain ⟨E, c, h1, h2, h3, h4⟩ := h
  exact ⟨E, c, ⟨h1, h2.lt⟩, h2, h3, fun k hk => ⟨h4 k hk, own_lt h3 k hk⟩⟩
theorem letsc_lt {X : Nat → Prop} {w : World} {cs : List Value} {ls : List Let} (h : LetsC w X cs ls) : LetsC w (fun k => X k ∧ k < w.heap.size) cs ls := fun i l hl => by
  obtain ⟨A, c, h1, h2, h3, h4, h5⟩ := h i l hl
  exact ⟨A, c, h1, h2, h3, h4, h5.lt⟩
theorem inbat_lt {X : Nat → Prop} {w : World} {ib : Nat} {ls : List Let} (h : InbAt w X ib ls) : InbAt w (fun k => X k ∧ k < w.heap.size) ib ls := by
  obtain ⟨A, c, cs, h1, h2, h3, h4, h5⟩ := h
  exact ⟨A, c, cs, ⟨h1, h2.lt⟩, h2, h3, (letsc_lt h4).mono (fun k hk => ⟨⟨hk.1.1, hk.2⟩, hk.1.2⟩), fun k hk => ⟨h5 k hk, own_lt h3 k hk⟩⟩
theorem outsat_lt {X : Nat → Prop} {w : World} {A : Option Addr} {os : List (ByteArray × Let)} (h : OutsAt w X A os) : OutsAt w (fun k => X k ∧ k < w.heap.size) A os := fun hn => by
  obtain ⟨b, off, h1, h2, h3⟩ := h hn
  have h0 : ∃ e, os[0]? = some e := by cases os with | nil => exact absurd rfl hn | cons e r => exact ⟨e, rfl⟩
  obtain ⟨e, he⟩ := h0
  exact ⟨b, off, h1, ⟨h2, by simpa using World.block_lt_of_cell? w _ (h3 0 e he).1⟩, fun i e he => ⟨(h3 i e he).1, (h3 i e he).2.lt⟩⟩
theorem outb_lt {fr : Bool} {X : Nat → Prop} {w : World} {ob : Nat} {o : Outb} (h : OutbAt fr w X ob o) : OutbAt fr w (fun k => X k ∧ k < w.heap.size) ob o := by
  obtain ⟨A, c, mb, n, h1, h2, h3, h4, h5, h6, h7, h8⟩ := h
  exact ⟨A, c, mb, n, ⟨h1, h3.lt⟩, ⟨h2, h6.lt⟩, h3, (outsat_lt h4).mono (fun k hk => ⟨⟨hk.1.1, hk.2⟩, hk.1.2⟩), h5, h6, h7, h8⟩

/-- An actor's parts, each in blocks of its own; fr: it may be written. -/
structure ActP (fr : Bool) (w : World) (X : Nat → Prop) (p : Nat) (a : Actr) (jb ib ob : Nat) (PA : Option Addr) (pc : Nat) (XJ XI XO XP : Nat → Prop) : Prop where
  pin : X p
  blk : Blk w p #[.pointer (some ⟨jb, 0, none⟩), .pointer (some ⟨ib, 0, none⟩), .pointer (some ⟨ob, 0, none⟩), .int .i64 a.tries, .slice PA a.poison.length pc] 46
  jour : JourAt w XJ jb a.jour
  inr : InbRd w XI ib a.inbox
  inw : fr = true → InbAt w XI ib a.inbox
  outb : OutbAt fr w XO ob a.outb
  poi : LetsAt w XP PA a.poison
  sub : ∀ k, XJ k ∨ XI k ∨ XO k ∨ XP k → X k ∧ k ≠ p ∧ k < w.heap.size
  dji : ∀ k, XJ k → ¬ XI k
  djo : ∀ k, XJ k → ¬ XO k
  djp : ∀ k, XJ k → ¬ XP k
  dio : ∀ k, XI k → ¬ XO k
  dip : ∀ k, XI k → ¬ XP k
  dop : ∀ k, XO k → ¬ XP k
def ActAt (fr : Bool) (w : World) (X : Nat → Prop) (p : Nat) (a : Actr) : Prop := ∃ jb ib ob PA pc XJ XI XO XP, ActP fr w X p a jb ib ob PA pc XJ XI XO XP
section
variable {fr : Bool} {w w' : World} {S X X' : Nat → Prop} {p jb ib ob pc : Nat} {a : Actr} {PA : Option Addr} {XJ XI XO XP : Nat → Prop}
theorem ActP.chg (h : ActP fr w X p a jb ib ob PA pc XJ XI XO XP) (hc : Chg S w w') (hX : ∀ k, X k → ¬ S k) : ActP fr w' X p a jb ib ob PA pc XJ XI XO XP :=
  ⟨h.pin, hc.blk h.blk (hX _ h.pin), h.jour.chg hc (fun k hk => hX _ (h.sub k (.inl hk)).1), h.inr.chg hc (fun k hk => hX _ (h.sub k (.inr (.inl hk))).1), fun e => (h.inw e).chg hc (fun k hk => hX _ (h.sub k (.inr (.inl hk))).1),
    h.outb.chg hc (fun k hk => hX _ (h.sub k (.inr (.inr (.inl hk)))).1), h.poi.chg hc (fun k hk => hX _ (h.sub k (.inr (.inr (.inr hk)))).1), fun k hk => ⟨(h.sub k hk).1, (h.sub k hk).2.1, Nat.lt_of_lt_of_le (h.sub k hk).2.2 hc.size⟩, h.dji, h.djo, h.djp, h.dio, h.dip, h.dop⟩
theorem ActP.below (h : ActP fr w X p a jb ib ob PA pc XJ XI XO XP) (hb : Below w.heap.size w w') : ActP fr w' X p a jb ib ob PA pc XJ XI XO XP := h.chg (Chg.of_below hb (fun _ => False)) (fun _ _ h => h)
theorem ActP.mono (h : ActP fr w X p a jb ib ob PA pc XJ XI XO XP) (hX : ∀ k, X k → X' k) : ActP fr w X' p a jb ib ob PA pc XJ XI XO XP :=
  ⟨hX _ h.pin, h.blk, h.jour, h.inr, h.inw, h.outb, h.poi, fun k hk => ⟨hX _ (h.sub k hk).1, (h.sub k hk).2⟩, h.dji, h.djo, h.djp, h.dio, h.dip, h.dop⟩
theorem ActP.rd (h : ActP fr w X p a jb ib ob PA pc XJ XI XO XP) : ActP false w X p a jb ib ob PA pc XJ XI XO XP := ⟨h.pin, h.blk, h.jour, h.inr, nofun, h.outb.rd, h.poi, h.sub, h.dji, h.djo, h.djp, h.dio, h.dip, h.dop⟩
theorem ActP.plt (h : ActP fr w X p a jb ib ob PA pc XJ XI XO XP) : p < w.heap.size := h.blk.lt
end
theorem ActAt.chg {fr : Bool} {w w' : World} {S X : Nat → Prop} {p : Nat} {a : Actr} (h : ActAt fr w X p a) (hc : Chg S w w') (hX : ∀ k, X k → ¬ S k) : ActAt fr w' X p a := by
  obtain ⟨jb, ib, ob, PA, pc, XJ, XI, XO, XP, h⟩ := h
  exact ⟨jb, ib, ob, PA, pc, XJ, XI, XO, XP, h.chg hc hX⟩
theorem ActAt.below {fr : Bool} {w w' : World} {X : Nat → Prop} {p : Nat} {a : Actr} (h : ActAt fr w X p a) (hb : Below w.heap.size w w') : ActAt fr w' X p a := h.chg (Chg.of_below hb (fun _ => False)) (fun _ _ h => h)
theorem ActAt.mono {fr : Bool} {w : World} {X X' : Nat → Prop} {p : Nat} {a : Actr} (h : ActAt fr w X p a) (hX : ∀ k, X k → X' k) : ActAt fr w X' p a := by
  obtain ⟨jb, ib, ob, PA, pc, XJ, XI, XO, XP, h⟩ := h
  exact ⟨jb, ib, ob, PA, pc, XJ, XI, XO, XP, h.mono hX⟩
theorem ActAt.rd {fr : Bool} {w : World} {X : Nat → Prop} {p : Nat} {a : Actr} (h : ActAt fr w X p a) : ActAt false w X p a := by
  obtain ⟨jb, ib, ob, PA, pc, XJ, XI, XO, XP, h⟩ := h
  exact ⟨jb, ib, ob, PA, pc, XJ, XI, XO, XP, h.rd⟩
theorem ActAt.lt {fr : Bool} {w : World} {X : Nat → Prop} {p : Nat} {a : Actr} (h : ActAt fr w X p a) : ActAt fr w (fun k => X k ∧ k < w.heap.size) p a := by
  obtain ⟨jb, ib, ob, PA, pc, XJ, XI, XO, XP, h⟩ := h
  exact ⟨jb, ib, ob, PA, pc, XJ, XI, XO, XP, ⟨⟨h.pin, h.plt⟩, h.blk, h.jour, h.inr, h.inw, h.outb, h.poi, fun k hk => ⟨⟨(h.sub k hk).1, (h.sub k hk).2.2⟩, (h.sub k hk).2⟩, h.dji, h.djo, h.djp, h.dio, h.dip, h.dop⟩⟩

theorem actkey {fr : Bool} (X : Nat → Prop) (p : Nat) (a : Actr) (w : World) (h : ActAt fr w X p a) : Calls Tryz.prog 34 #[.pointer (some ⟨p, 0, none⟩)] w fun e w' => e = .returned (.string a.outb.owner) ∧ w = w' := by
  obtain ⟨jb, ib, ob, PA, pc, XJ, XI, XO, XP, h⟩ := h
  have HO := Lib.hid (owner_any XO ob a.outb w h.outb)
  have c2 : w.cell? ⟨p, 2, none⟩ = some (.pointer (some ⟨ob, 0, none⟩)) := h.blk.cell 2
  clear h
  go_enter Tryz.func34, Tryz.ntmps34
  go_wp2_with fail
  refine HO.out.mono ?_
  rintro e w1 ⟨rfl, rfl⟩
  go_wp2_with fail
  go_ret
  exact ⟨rfl, rfl⟩
def actr0 (k : ByteArray) : Actr := { jour := jour0, inbox := [], outb := outb0 k, tries := 0, poison := [] }
theorem newact (s : ByteArray) (hs : KeyOk s) (w : World) : Calls Tryz.prog 164 #[.string s] w fun e w' => ∃ p, e = .returned (.tuple #[.pointer (some ⟨p, 0, none⟩), .int .i64 0]) ∧ ActAt true w' (fun k => w.heap.size ≤ k) p (actr0 s) ∧ Below w.heap.size w w' := by
  go_enter Tryz.func164, Tryz.ntmps164
  go_wp2_with fail
  refine (newout s hs w).mono ?_
  rintro e w1 ⟨ob, rfl, ho, hb⟩
  go_wp2_with fail
  refine (newjour w1).mono ?_
  rintro e w2 ⟨rfl, hj, hb2⟩
  go_wp2_with fail
  refine (newinbox w2).mono ?_
  rintro e w3 ⟨rfl, rfl⟩
  go_wp2_with fail
  go_ret2
  have s1 := hb.size
  have s2 := hb2.size
  have hib := InbAt.new w2
  obtain ⟨W3, hW3⟩ : ∃ W, W = w2.alloc (.cells #[.slice none 0 0] 131) := ⟨_, rfl⟩
  have hb3 : Below w2.heap.size w2 W3 := hW3 ▸ (Below.refl _ _).alloc (Nat.le_refl _) _
  rw [← hW3] at hib ⊢
  have s3 : W3.heap.size = w2.heap.size + 1 := by rw [hW3]; simp
  have hb4 : ∀ o, Below W3.heap.size W3 (W3.alloc o) := fun o => (Below.refl _ _).alloc (Nat.le_refl _) o
  have hbl : Below w.heap.size w w2 := hb.trans (hb2.mono s1)
  refine ⟨w2.heap.size + 1, rfl, ⟨w1.heap.size, w2.heap.size, ob, none, 0, fun k => w1.heap.size ≤ k ∧ k < w2.heap.size, fun k => w2.heap.size ≤ k ∧ k < W3.heap.size, fun k => w.heap.size ≤ k ∧ k < w1.heap.size, fun _ => False, ?_⟩, ?_⟩
  · refine ⟨by omega, Blk.newAt s3.symm, ((jour_lt hj).chg (Chg.of_below hb3 (fun _ => False)) (fun _ _ h => h)).chg (Chg.of_below (hb4 _) (fun _ => False)) (fun _ _ h => h), ?_, fun _ => ?_, ?_, LetsAt.nil _ _ _, fun k hk => ?_, fun k hk hk' => ?_, fun k hk hk' => ?_, fun k hk hk' => ?_, fun k hk hk' => ?_, fun k hk hk' => ?_, fun k hk hk' => ?_⟩
    · exact (inbat_lt hib).rd.chg (Chg.of_below (hb4 _) (fun _ => False)) (fun _ _ h => h)
    · exact (inbat_lt hib).chg (Chg.of_below (hb4 _) (fun _ => False)) (fun _ _ h => h)
    · exact (((outb_lt ho).chg (Chg.of_below hb2 (fun _ => False)) (fun _ _ h => h)).chg (Chg.of_below hb3 (fun _ => False)) (fun _ _ h => h)).chg (Chg.of_below (hb4 _) (fun _ => False)) (fun _ _ h => h)
    · have : W3.heap.size < (W3.alloc (.cells #[.pointer (some ⟨w1.heap.size, 0, none⟩), .pointer (some ⟨w2.heap.size, 0, none⟩), .pointer (some ⟨ob, 0, none⟩), .int .i64 0, .slice none 0 0] 46)).heap.size := by simp
      have hk' : w.heap.size ≤ k ∧ k < W3.heap.size := by
        rcases hk with ⟨h1, h2⟩ | ⟨h1, h2⟩ | ⟨h1, h2⟩ | h
        · omega
        · omega
        · omega
        · exact h.elim
      exact ⟨hk'.1, by omega, by omega⟩
    all_goals omega
  · exact (hbl.trans (hb3.mono (by omega))).trans ((hb4 _).mono (by omega))
end Go.Proofs.YtlcdjgpblpodaaaGreatDoor

/- The reference's text encoder (function 7), and the law's loop over a list of texts. -/
import Derived.Test.YtkdkcffeepancaaEnc
import Derived.Test.YtkdkcffeepancaaAwake
import Derived.Test.YtkdkcffeepancaaList
import Derived.Test.YtkdkcffeepancaaWGuard
namespace Go.Proofs.Ytkdkcffeepancaa
open Go.RowKit Go.Proofs.YtkdkcffeepancaaW.PrintWords Go.Proofs.YtkdkcffeepancaaW.PrintMore

/-- The bytes that a run has made from the world W on. -/
def Bytes (W w : World) (v : Value) (bs : List Int) : Prop := w.ownsRow W.heap.size 5 1 v bs.length (encs (Value.int .u8) bs) ∧ Below W.heap.size W w

theorem number_any (v : Value) (bs : List Int) (n : Nat) (W w : World) (h : Bytes W w v bs) (hn : n ≤ 1048576) (hl : bs.length ≤ 1073741824) :
    Calls Try.prog 14 #[v, .int .u64 n] w fun e w' => ∃ v', e = .returned v' ∧ Bytes W w' v' (bs ++ encNum n) := by
  refine (PNum.reeveref01_Number.calls 12 (fun _ => True) v bs n _ W w h.2 (Kd.R_of_own h.1 (fun _ _ => trivial)) (number_f n hn bs hl)).mono ?_
  rintro e w' ⟨v', he, hr, hb, _⟩
  exact ⟨v', he, Kd.own_of_R hr, hb⟩

set_option maxRecDepth 100000 in
theorem text_enc (v : Value) (bs : List Int) (s : ByteArray) (W w : World) (h : Bytes W w v bs) (hn : s.size ≤ 1048576) (hl : bs.length ≤ 536870912) :
    Calls Try.prog 7 #[v, .string s] w fun e w' => ∃ v', e = .returned v' ∧ Bytes W w' v' (bs ++ encText s) := by
  obtain ⟨A, c, rfl, _⟩ := own_reads_of (d := (0 : Int)) h.1
  have HB := Lib.hid h
  clear h
  go_enter Try.func7, Try.ntmps7
  go_wp2_with fail
  refine (number_any _ bs s.size W _ HB.out hn (by omega)).mono ?_
  rintro e w1 ⟨v1, rfl, h1⟩
  have H1 := Lib.hid h1
  have hen := encNum_length s.size
  clear h1
  go_wp2_with (at_builtin; refine print_append_str (w0 := W) W.heap.size rfl (.tmp 9) (.tmp 10) 24 9 5 rfl Try.underlying24 Try.underlying9 PNum.info5 v1 (bs ++ encNum s.size) s rfl rfl H1.out.1 H1.out.2 H1.out.2.size (by rw [List.length_append]; omega) ?_; intro v2 w2 ho hb hg; have H2 := Lib.hid (show Bytes W w2 v2 ((bs ++ encNum s.size) ++ bytesOf s) from ⟨ho, hb⟩); clear ho hb hg)
  go_ret
  refine ⟨v2, rfl, ?_⟩
  have := H2.out
  unfold encText
  rw [← List.append_assoc]
  exact this
end Go.Proofs.Ytkdkcffeepancaa

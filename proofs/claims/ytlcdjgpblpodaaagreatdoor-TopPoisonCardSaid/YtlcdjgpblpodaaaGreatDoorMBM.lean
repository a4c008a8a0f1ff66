/- ShellA, ShellB, PoiL, Poi1, Poi2, Poi3, HeldB -/
import Derived.Test.YtlcdjgpblpodaaaGreatDoorMBL
import Derived.Test.YtlcdjgpblpodaaaGreatDoorMBK
import Derived.Test.YtlcdjgpblpodaaaGreatDoorMBI
import Derived.Deep.RegionHeld3
namespace Go.Proofs.YtlcdjgpblpodaaaGreatDoor
open Go.RowKit Go.Maps Go.Proofs.YtlcdjgpblpodaaaGreatDoorW.PrintWords

theorem assert_line (W : World) (v : Value) : (Instr.typeAssert (.iface 73 v) 151 73 true).run Tryz.prog W = .ok (.tuple #[v, .bool true]) W := by kernel_rfl
theorem EngAt.disk {w : World} {reg : Nat → Nat} {eb : Nat} {E : Engn} (h : EngAt w reg eb E) : ∃ N m, DiskAt false w (fun k => reg k = 3) E.db N m := by
  obtain ⟨_, v, rfl, hC, hL⟩ := h
  exact ⟨_, _, hL.db ▸ hC.book.disk⟩
theorem Blk.triple {w : World} {b t : Nat} {C : Array Value} (h : Blk w b C t) (hC : C.size = 3) (v0 v1 v2 : Value) :
    Blk (((w.setCell ⟨b, 0, none⟩ v0).setCell ⟨b, 1, none⟩ v1).setCell ⟨b, 2, none⟩ v2) b #[v0, v1, v2] t := by
  obtain ⟨l⟩ := C
  match l, hC with
  | [a0, a1, a2], _ => simpa using ((h.set 0 v0).set 1 v1).set 2 v2
set_option maxRecDepth 100000 in
set_option maxHeartbeats 4000000 in
theorem world_do (reg : Nat → Nat) (wb db eb : Nat) (w : World) (hG : MaxLenAt w) (h : WldAt w reg wb db eb (engn0 2 50 db)) (w00 : World) (hbw : Below w00.heap.size w00 w) (hr00 : ∀ k, k < w00.heap.size → reg k = 0) :
    Calls Tryz.prog 19 #[.pointer (some ⟨wb, 0, none⟩), .iface 73 (.agg #[.string lineB])] w fun e w' => e = .returned (.agg #[.string ⟨#[116, 97, 107, 101, 110]⟩, .int .i64 0, .bool false]) ∧ Below w00.heap.size w00 w' := by
  obtain ⟨W1, hW1⟩ : ∃ W, W = w.alloc (.cells #[.string ⟨#[]⟩, .int .i64 0, .bool false] 70) := ⟨_, rfl⟩
  obtain ⟨ab, hab⟩ : ∃ b, b = w.heap.size := ⟨_, rfl⟩
  obtain ⟨W2, hW2⟩ : ∃ W, W = W1.alloc (.cells #[.string lineB] 73) := ⟨_, rfl⟩
  obtain ⟨lb, hlb⟩ : ∃ b, b = W1.heap.size := ⟨_, rfl⟩
  have hb1 : Below w.heap.size w W1 := hW1 ▸ (Below.refl _ _).alloc (Nat.le_refl _) _
  have hb2 : Below W1.heap.size W1 W2 := hW2 ▸ (Below.refl _ _).alloc (Nat.le_refl _) _
  have hd : Below W2.heap.size W2 W2.drew := (Below.refl _ _).drew
  have hb1d := hb2.trans (hd.mono hb2.size)
  have hbd := hb1.trans (hb1d.mono hb1.size)
  have hA : Blk W1 ab #[.string ⟨#[]⟩, .int .i64 0, .bool false] 70 := hW1 ▸ Blk.newAt hab
  have hL : Blk W2 lb #[.string lineB] 73 := hW2 ▸ Blk.newAt hlb
  have hs1 : W1.heap.size = w.heap.size + 1 := by rw [hW1]; simp
  have hwl := h.blk.lt
  have hrz : ∀ k, w.heap.size ≤ k → reg k = 0 := fun k hk => by
    by_cases e : reg k = 0
    · exact e
    · have := h.eng.lt k e; omega
  have HAD := Lib.hid (hA.below hb1d)
  have HLD := Lib.hid (hL.below hd)
  have HWD := Lib.hid (h.blk.below hbd)
  have HDO := Lib.hid (do_line reg eb db W2.drew (hG.below hbd) (h.eng.below hbd))
  have HB0 := Lib.hid (hbw.trans (hbd.mono hbw.size))
  have y0 : W2.drew.cell? ⟨wb, 1, none⟩ = some (.pointer (some ⟨eb, 0, none⟩)) := HWD.out.cell 1
  have y1 : W2.drew.cell? ⟨lb, 0, none⟩ = some (.string lineB) := HLD.out.cell 0
  have HRZ := Lib.hid (show reg ab = 0 ∧ reg lb = 0 ∧ reg wb = 0 from ⟨hrz ab (by omega), hrz lb (by omega), h.free⟩)
  have HNE := Lib.hid (show ab ≠ wb ∧ ab ≠ lb ∧ w00.heap.size ≤ ab from ⟨by omega, by omega, by have := hbw.size; omega⟩)
  have HR00 := Lib.hid hr00
  have hty := assert_line
  have HW1 := Lib.hid hW1
  have HAB := Lib.hid hab
  have HW2 := Lib.hid hW2
  have HLB := Lib.hid hlb
  clear hG h hbw hr00 hW1 hab hW2 hlb hb1 hb2 hd hb1d hbd hA hL hs1 hwl hrz
  go_enter Tryz.func19, Tryz.ntmps19
  go_upto_region 1 with fail
  rw [← HW1.out, ← HAB.out]
  go_upto_region 6 with fail
  rw [← HW2.out, ← HLB.out]
  go_region_held3 (fun w' => w'.cell? ⟨wb, 1, none⟩ = some (.pointer (some ⟨eb, 0, none⟩)) ∧ w'.cell? ⟨lb, 0, none⟩ = some (.string lineB)) (first | exact ⟨y0, y1⟩ | exact ⟨y0', y1'⟩ | exact ⟨y0'' _, y1'' _⟩)
    (first
      | (go_at_call 57
         refine HDO.out.mono ?_
         rintro e w6 ⟨rfl, E', hE', hT⟩
         have hc := hT.2
         have hA6 := hc.blk HAD.out (fun e => by have := HRZ.out; omega)
         have hL6 := hc.blk HLD.out (fun e => by have := HRZ.out; omega)
         have hW6 := hc.blk HWD.out (fun e => by have := HRZ.out; omega)
         have y0' : w6.cell? ⟨wb, 1, none⟩ = some (.pointer (some ⟨eb, 0, none⟩)) := hW6.cell 1
         have y1' : w6.cell? ⟨lb, 0, none⟩ = some (.string lineB) := hL6.cell 0
         have y0'' : ∀ v, (w6.setCell ⟨ab, 0, none⟩ v).cell? ⟨wb, 1, none⟩ = some (.pointer (some ⟨eb, 0, none⟩)) := fun v => (hW6.other (a := ⟨ab, 0, none⟩) (fun e => HNE.out.1 e.symm) v).cell 1
         have y1'' : ∀ v, (w6.setCell ⟨ab, 0, none⟩ v).cell? ⟨lb, 0, none⟩ = some (.string lineB) := fun v => (hL6.other (a := ⟨ab, 0, none⟩) (fun e => HNE.out.2.1 e.symm) v).cell 0
         have a0 : w6.cell? ⟨ab, 0, none⟩ = some (.string ⟨#[]⟩) := hA6.cell 0
         have af : w6.frozen? ⟨ab, 0, none⟩ = false := hA6.free 0
         have al := hA6.lt
         have HA6 := Lib.hid hA6
         have HW6 := Lib.hid hW6
         have HT := Lib.hid hT
         have HDB := Lib.hid hE'
         clear hc hA6 hL6 hW6 hT hE'))
  rename_i hHeld
  clear hHeld
  obtain ⟨W7, hW7⟩ : ∃ W, W = w6.setCell ⟨ab, 0, none⟩ (.string ⟨#[116, 97, 107, 101, 110]⟩) := ⟨_, rfl⟩
  have hA7 : Blk W7 ab #[.string ⟨#[116, 97, 107, 101, 110]⟩, .int .i64 0, .bool false] 70 := hW7 ▸ HA6.out.set 0 _
  have hW7' : Blk W7 wb #[.pointer (some ⟨db, 0, none⟩), .pointer (some ⟨eb, 0, none⟩), .int .i64 2] 149 := hW7 ▸ HW6.out.other (a := ⟨ab, 0, none⟩) (fun e => HNE.out.1 e.symm) _
  have hc7 : Chg (fun k => k = ab) w6 W7 := hW7 ▸ (Chg.refl (fun k => k = ab) w6).put ab 0 (.inl rfl) _
  obtain ⟨⟨reg6, hE6, hx6⟩, hc6⟩ := HT.out
  have hdk := hE6.disk
  rw [HDB.out] at hdk
  obtain ⟨nn, mm, hdk⟩ := hdk
  have hab6 : reg6 ab = 0 := (hx6 ab HAD.out.lt).trans HRZ.out.1
  have HDN := Lib.hid (down_any _ db nn mm W7 (hdk.chg hc7 (fun k hk e => by subst e; omega)))
  have y0 : W7.cell? ⟨wb, 0, none⟩ = some (.pointer (some ⟨db, 0, none⟩)) := hW7'.cell 0
  have HB7 := Lib.hid (show Below w00.heap.size w00 W7 from
    (HB0.out.trans (hc6.below (fun k hk => by
      by_cases e : w00.heap.size ≤ k
      · exact e
      · have := HR00.out k (by omega); omega) HB0.out.size)).trans (hc7.below (fun k hk => by subst hk; exact HNE.out.2.2) (by have := HB0.out.size; have := hc6.size; omega)))
  have HA7 := Lib.hid hA7
  have u0 : ∀ i, W7.cell? ⟨ab, i, none⟩ = _ := fun i => hA7.cell i
  have uf : ∀ i, W7.frozen? ⟨ab, i, none⟩ = false := fun i => hA7.free i
  have ul := hA7.lt
  rw [← hW7]
  clear hW7 hA7 hW7' hc7 hE6 hx6 hc6 hdk hab6 y0' y1' y0'' y1'' a0 af al
  go_wp2_with fail
  refine HDN.out.mono ?_
  rintro e w8 ⟨rfl, rfl⟩
  go_wp2_with fail
  refine bodyPost_ret (results_cell_row rfl _ _ ab 70 _ (0, 0) _ rfl (HA7.out.triple rfl _ _ _) Tryz.underlying70 rfl (by kernel_rfl)) rfl ?_
  have hab := HNE.out.2.2
  exact ⟨rfl, ((HB7.out.setCell (p := ⟨ab, 0, none⟩) hab _).setCell (p := ⟨ab, 1, none⟩) hab _).setCell (p := ⟨ab, 2, none⟩) hab _⟩
end Go.Proofs.YtlcdjgpblpodaaaGreatDoor
namespace Go.Proofs.YtlcdjgpblpodaaaGreatDoor
open Go.RowKit Go.Maps Go.Proofs.YtlcdjgpblpodaaaGreatDoorW.PrintWords

theorem field_text (W : World) (a b c : Value) : (Instr.field 70 (.agg #[a, b, c]) 0).run Tryz.prog W = .ok a W := by kernel_rfl
set_option maxRecDepth 100000 in
set_option maxHeartbeats 4000000 in
theorem awake_line (w : World) (hG : MaxLenAt w) : Calls Tryz.prog 6 #[] w fun e w' => e = .returned (.bool true) ∧ Below w.heap.size w w' := by
  have HN := Lib.hid (new_world w)
  have HG := Lib.hid hG
  have hft := field_text
  clear hG
  go_enter Tryz.func6, Tryz.ntmps6
  go_wp2_with fail
  refine HN.out.mono ?_
  rintro e w1 ⟨wb, db, eb, reg, rfl, hW, hr, hwb, hb1⟩
  have HD := Lib.hid (world_do reg wb db eb w1 (HG.out.below hb1) hW w hb1 hr)
  unfold lineB at HD
  clear hW hr hb1 hwb
  go_wp2_with fail
  refine HD.out.mono ?_
  rintro e w2 ⟨rfl, hb2⟩
  have HB2 := Lib.hid hb2
  clear hb2
  go_wp2_with fail
  go_ret
  exact ⟨rfl, HB2.out⟩
theorem awake_max : Awake MaxLenAt := ⟨fun _ _ h hb => h.below hb, awake_line⟩
end Go.Proofs.YtlcdjgpblpodaaaGreatDoor
namespace Go.Proofs.YtlcdjgpblpodaaaGreatDoor
open Go.RowKit Go.Maps Go.Proofs.YtlcdjgpblpodaaaGreatDoorW.PrintWords

/-- The actor, with letters that wait, tries, and letters that are poison. -/
def poiA (ls : List Let) (t : Nat) (ps : List Let) : Actr := { actr0 kA with inbox := ls, tries := t, poison := ps }
theorem poiA_ok (ls ps : List Let) (t : Nat) (h : ∀ l ∈ ls, l.Ok) (h8 : ls.length ≤ 8) (hp : ∀ l ∈ ps, l.Ok) (hp8 : ps.length ≤ 8) (ht : t < 3) (ht0 : t = 0 ∨ ls ≠ []) : ActOk kA (poiA ls t ps) := by
  obtain ⟨h1, h2, h3, h4, _⟩ := actr0_ok kA kA_ok
  refine ⟨⟨h1.jour, h, h8, h1.outb, ht, ht0, hp, hp8⟩, h2, h3, h4, fun hf => ?_⟩
  have : ls = [] ∧ t = 0 ∧ ps = [] := by
    have h' := hf
    simp [freshA, poiA, actr0, jour0, outb0] at h'
    exact ⟨h'.1, of_decide_eq_true h'.2.1, h'.2.2⟩
  obtain ⟨rfl, rfl, rfl⟩ := this
  rfl
theorem poiA_len (ls ps : List Let) (t : Nat) (h : ActOk kA (poiA ls t ps)) : (encChn (chOf (poiA ls t ps))).length ≤ 290 + 112 * ls.length + 112 * ps.length := by
  have h1 := (encChn_length _ (chOf_ok (poiA ls t ps) h.1 kA_ok)).2
  have h2 := encAct_length (poiA ls t ps) h.1
  have e1 : (chOf (poiA ls t ps)).key.size = 2 := by show (akey kA).size = 2; rw [akey_size]; rfl
  have e2 : (chOf (poiA ls t ps)).val.length = (encAct (poiA ls t ps)).length := rfl
  have e3 : (poiA ls t ps).jour.events.length = 0 := rfl
  have e4 : (poiA ls t ps).inbox.length = ls.length := rfl
  have e5 : (poiA ls t ps).outb.serials.length = 0 := rfl
  have e6 : (poiA ls t ps).poison.length = ps.length := rfl
  omega
/-- What the law knows of the engine: behind the offers below i. -/
structure PoiE (E : Engn) (i q z : Nat) (ls : List Let) (t : Nat) (ps : List Let) : Prop where
  room : E.room = 1
  cnt : E.cnt = 2000
  NL : E.NL = []
  CL : E.CL = [(21, 0)]
  res : E.ls = [] ∨ E.ls = [kA]
  act : E.act kA = poiA ls t ps
  oks : ∀ l ∈ ls, l.Ok
  poks : ∀ l ∈ ps, l.Ok
  win : ∀ e ∈ E.win.rows, e.1 = 2 ∧ ∀ x ∈ e.2, x < i
  q : E.q ≤ q
  z : E.z ≤ z
theorem PoiE.hls {E : Engn} {i q z t : Nat} {ls ps : List Let} (h : PoiE E i q z ls t ps) : E.ls = [] ∨ E.ls = [kA] ∨ ∃ j, E.ls = [j] ∧ j ≠ kA ∧ E.room = 1 := h.res.elim .inl (fun e => .inr (.inl e))
theorem PoiE.mono {E : Engn} {i q z q' z' t : Nat} {ls ps : List Let} (h : PoiE E i q z ls t ps) (hq : q ≤ q') (hz : z ≤ z') : PoiE E i q' z' ls t ps :=
  ⟨h.room, h.cnt, h.NL, h.CL, h.res, h.act, h.oks, h.poks, h.win, Nat.le_trans h.q hq, Nat.le_trans h.z hz⟩
theorem poi_offer (reg : Nat → Nat) (eb : Nat) (E : Engn) (i q z : Nat) (ps : List Let) (kind : Int) (w : World) (h : EngAt w reg eb E) (hF : PoiE E i q z [] 0 ps) (h8 : ps.length ≤ 8) (hq : q ≤ 215) (hz : z ≤ 700000) (hi : U64 i) (hk : In64 kind) :
    Calls Tryz.prog 9 #[.pointer (some ⟨eb, 0, none⟩), .int .u64 (2 : Nat), .int .u64 i, .string kA, .int .i64 kind, .slice none 0 0] w fun e w' =>
      e = .returned (.tuple #[.bool true, .int .i64 0]) ∧ ∃ E', EngTo w reg eb E' w' ∧ PoiE E' (i + 1) (q + 1) (z + 3) [offL i kind []] 0 ps := by
  have hl := offL_ok i kind hi hk
  have hs := seen_none E.win i 2 hF.win
  have hq' := hF.q
  have hz' := hF.z
  have hcn := hF.cnt
  have hgot : gotL (E.act kA) (offL i kind []) = poiA [offL i kind []] 0 ps := by rw [hF.act]; rfl
  have hoks : ∀ l ∈ [offL i kind []], l.Ok := fun l hm => by rw [List.mem_singleton.1 hm]; exact hl
  have hW := addW_ok E.win 2 i h.1.win (by unfold U64; omega) hi hs (fun e he => (hF.win e he).1)
  have hin : (E.act kA).inbox.length < 8 := by rw [hF.act]; show 0 < 8; omega
  have hlen : (encChs [chOf (gotL (E.act kA) (offL i kind [])), winCh (addW E.win 2 i)]).length ≤ 2000 := by
    rw [encChs_two, hgot]
    have h1 := poiA_len _ ps 0 (poiA_ok [offL i kind []] ps 0 hoks (by simp) hF.poks h8 (by omega) (.inl rfl))
    have h2 := winCh_len _ hW.1
    simp only [List.length_singleton] at h1
    omega
  refine (offer_any reg eb E 2 i kA kind [] none 0 (fun _ => False) w h ⟨ReadsOf.nil _ _ _, Nat.le_refl _, fun e => absurd rfl e, (fun a ha => by cases ha)⟩ (by unfold U64; omega) hi kA_ok hl hF.hls hs (fun e he => (hF.win e he).1) (by omega) (by omega) (fun _ => hlen)).mono ?_
  rintro e w' ⟨h1, _⟩
  obtain ⟨rfl, h2⟩ := h1 hin
  exact ⟨rfl, _, h2, ⟨hF.room, hF.cnt, hF.NL, hF.CL, .inr rfl, by
    show upd E.act (gotL (E.act kA) (offL i kind [])) kA = _
    have := upd_same E.act (gotL (E.act kA) (offL i kind []))
    rw [show (gotL (E.act kA) (offL i kind [])).outb.owner = kA by rw [hgot]; rfl] at this
    rw [this, hgot], hoks, hF.poks, addW_lt E.win 2 i hF.win, by show E.q + 1 ≤ q + 1; omega, by show E.z + 3 ≤ z + 3; omega⟩⟩
end Go.Proofs.YtlcdjgpblpodaaaGreatDoor
namespace Go.Proofs.YtlcdjgpblpodaaaGreatDoor.Ip
open Go.RowKit Go.Proofs.YtlcdjgpblpodaaaGreatDoorW.PrintWords

theorem runF_stop (c : Env) (reg : Nat → Int) (hCL : c.CL = [(21, 0)]) (hok : okIn c = true) : (runF c reg).1 = 12 ∧ (runF c reg).2.steps = 1 := by
  unfold runF
  rw [if_pos hok]
  unfold loopF
  rw [hCL]
  constructor <;> simp [st0, stepF, refuseF]
theorem formed_stop : formedB [] [(21, 0)] = true := by rfl
theorem run_stop (c : Env) (reg : Nat → Int) (w : World) (hE : EnvOk c w) (hC : IsCode w c.kA c.CL) (hCL : c.CL = [(21, 0)]) (hNL : c.NL = []) (hL : letterB c.frm c.AL.length = true) (hn : 0 ≤ c.now) :
    Calls Tryz.prog 108 #[argP c, .agg (regC reg), argL c, .int .i64 c.now] w fun e w' => e = .returned (.tuple #[.agg (resC (fun _ => 0) (.slice none 0 0) (.slice none 0 0) (.slice none 0 0) 1), .int .i64 12]) ∧ Below w.heap.size w w' := by
  have hok : okIn c = true := by
    unfold okIn
    rw [hCL, hNL, formed_stop, hL]
    simpa using hn
  obtain ⟨h1, h2⟩ := runF_stop c reg hCL hok
  refine (run_any c reg w hE hC (by rw [hCL]; show 1 ≤ 1000; omega)).mono ?_
  rintro e w' ⟨hb, h | ⟨_, he⟩⟩
  · rw [h1] at h
    exact absurd h.1 (by decide)
  · rw [h1, h2] at he
    exact ⟨he, hb⟩
end Go.Proofs.YtlcdjgpblpodaaaGreatDoor.Ip
namespace Go.Proofs.YtlcdjgpblpodaaaGreatDoor
open Go.RowKit Go.Maps Go.Proofs.YtlcdjgpblpodaaaGreatDoorW.PrintWords

/-- An outcome in memory. -/
def outC (dn po : Bool) (fl st : Int) : Array Value := #[.bool dn, .bool po, .int .i64 fl, .int .i64 st, .slice none 0 0]
theorem ActP.setTries {fr : Bool} {w : World} {X : Nat → Prop} {p jb ib ob pc : Nat} {a : Actr} {PA : Option Addr} {XJ XI XO XP : Nat → Prop} (h : ActP fr w X p a jb ib ob PA pc XJ XI XO XP) (n : Nat) :
    ActP fr (w.setCell ⟨p, 3, none⟩ (.int .i64 n)) X p { a with tries := n } jb ib ob PA pc XJ XI XO XP := by
  have hc : Chg (fun k => k = p) w (w.setCell ⟨p, 3, none⟩ (.int .i64 n)) := (Chg.refl (fun k => k = p) w).put p 3 (.inl rfl) _
  have ne : ∀ k, XJ k ∨ XI k ∨ XO k ∨ XP k → ¬ k = p := fun k hk => (h.sub k hk).2.1
  exact ⟨h.pin, h.blk.set 3 _, h.jour.chg hc (fun k hk => ne k (.inl hk)), h.inr.chg hc (fun k hk => ne k (.inr (.inl hk))), fun e => (h.inw e).chg hc (fun k hk => ne k (.inr (.inl hk))),
    h.outb.chg hc (fun k hk => ne k (.inr (.inr (.inl hk)))), h.poi.chg hc (fun k hk => ne k (.inr (.inr (.inr hk)))), fun k hk => ⟨(h.sub k hk).1, (h.sub k hk).2.1, Nat.lt_of_lt_of_le (h.sub k hk).2.2 hc.size⟩, h.dji, h.djo, h.djp, h.dio, h.dip, h.dop⟩
end Go.Proofs.YtlcdjgpblpodaaaGreatDoor
namespace Go.Proofs.YtlcdjgpblpodaaaGreatDoor
open Go.RowKit Go.Maps Go.Proofs.YtlcdjgpblpodaaaGreatDoorW.PrintWords

set_option maxRecDepth 100000 in
set_option maxHeartbeats 2000000 in
theorem fail_again (X : Nat → Prop) (p jb ib ob pc : Nat) (a : Actr) (PA : Option Addr) (XJ XI XO XP : Nat → Prop) (fl st : Int) (w : World) (h : ActP true w X p a jb ib ob PA pc XJ XI XO XP) (ht : a.tries + 1 < 3) (hX : ∀ k, X k → k < w.heap.size) :
    Calls Tryz.prog 109 #[.pointer (some ⟨p, 0, none⟩), .agg (outC false false fl st)] w fun e w' => e = .returned (.tuple #[.agg (outC false false fl st), .int .i64 0]) ∧ ActP true w' X p { a with tries := a.tries + 1 } jb ib ob PA pc XJ XI XO XP ∧ Chg (fun k => k = p) w w' := by
  have HXL := Lib.hid hX
  clear hX
  unfold outC
  obtain ⟨W1, hW1⟩ : ∃ W, W = w.alloc (.cells #[.bool false, .bool false, .int .i64 fl, .int .i64 st, .slice none 0 0] 35) := ⟨_, rfl⟩
  obtain ⟨W2, hW2⟩ : ∃ W, W = W1.alloc (.cells #[.bool false, .bool false, .int .i64 0, .int .i64 0, .slice none 0 0] 35) := ⟨_, rfl⟩
  have hb1 : Below w.heap.size w W1 := hW1 ▸ (Below.refl _ _).alloc (Nat.le_refl _) _
  have hb2 : Below W1.heap.size W1 W2 := hW2 ▸ (Below.refl _ _).alloc (Nat.le_refl _) _
  have hb12 := hb1.trans (hb2.mono hb1.size)
  have h2 := h.below hb12
  have hs1 : W1.heap.size = w.heap.size + 1 := by rw [hW1]; simp
  have c3 : W2.cell? ⟨p, 3, none⟩ = some (.int .i64 a.tries) := h2.blk.cell 3
  have f3 : W2.frozen? ⟨p, 3, none⟩ = false := h2.blk.free 3
  have hpl := h2.blk.lt
  have hbx : Blk W2 w.heap.size #[.bool false, .bool false, .int .i64 fl, .int .i64 st, .slice none 0 0] 35 := (show Blk W1 w.heap.size _ 35 from hW1 ▸ Blk.new _ _ _).below hb2
  have hb4 : Blk W2 (w.heap.size + 1) #[.bool false, .bool false, .int .i64 0, .int .i64 0, .slice none 0 0] 35 := hs1 ▸ (hW2 ▸ Blk.new _ _ _)
  obtain ⟨W3, hW3⟩ : ∃ W, W = W2.setCell ⟨p, 3, none⟩ (.int .i64 ((a.tries : Int) + 1)) := ⟨_, rfl⟩
  have hpw := h.blk.lt
  have hx3 : Blk W3 w.heap.size _ 35 := hW3 ▸ hbx.other (a := ⟨p, 3, none⟩) (show w.heap.size ≠ p by omega) _
  have h43 : Blk W3 (w.heap.size + 1) _ 35 := hW3 ▸ hb4.other (a := ⟨p, 3, none⟩) (show w.heap.size + 1 ≠ p by omega) _
  have ux : ∀ i, W3.cell? ⟨w.heap.size, i, none⟩ = _ := fun i => hx3.cell i
  have u4 : ∀ i, W3.cell? ⟨w.heap.size + 1, i, none⟩ = _ := fun i => h43.cell i
  have f4 : ∀ i, W3.frozen? ⟨w.heap.size + 1, i, none⟩ = false := fun i => h43.free i
  have l4 := h43.lt
  have wr : wrap64 ((a.tries : Int) + 1) = (a.tries : Int) + 1 := by unfold wrap64; omega
  have H43 := Lib.hid h43
  have HW3 := Lib.hid hW3
  clear hW3 hbx hb4 hx3 h43
  have HS2 := Lib.hid (show W2.heap.size = w.heap.size + 2 by rw [hW2]; simp [hs1])
  have HW1 := Lib.hid hW1
  have HW2 := Lib.hid hW2
  have H2 := Lib.hid h2
  have HB := Lib.hid hb12
  have HT := Lib.hid ht
  have t0 : decide ((a.tries : Int) + 1 < 3) = true := decide_eq_true (by omega)
  clear hW1 hW2 h h2 hb1 hb2 hb12 ht
  go_enter Tryz.func109, Tryz.ntmps109
  go_upto_region 1 with fail
  rw [← HW1.out, ← HW2.out]
  go_upto_region 3 with fail
  rw [← HW3.out]
  go_wp2_with fail
  refine bodyPost_ret (results_ct rfl _ _ (w.heap.size + 1) 35 _ (0, 0) _ rfl (H43.out.five rfl _ _ _ _ _) Tryz.underlying35 rfl (by kernel_rfl)) rfl ?_
  have e3 := HW3.out
  have hs2 : W2.heap.size = w.heap.size + 2 := HS2.out
  have hc3 : Chg (fun k => k = p) w W3 := e3 ▸ (Chg.of_below HB.out (fun k => k = p)).trans ((Chg.refl (fun k => k = p) W2).put p 3 (.inl rfl) _) (fun _ _ h => h)
  have hs3 : W3.heap.size = w.heap.size + 2 := by rw [e3]; simpa using hs2
  have hA3 : ActP true W3 X p { a with tries := a.tries + 1 } jb ib ob PA pc XJ XI XO XP := by rw [e3]; exact H2.out.setTries (a.tries + 1)
  have hput : ∀ v0 v1 v2 v3 v4 : Value, Chg (fun j => j = w.heap.size + 1) W3 (((((W3.setCell ⟨w.heap.size + 1, 0, none⟩ v0).setCell ⟨w.heap.size + 1, 1, none⟩ v1).setCell ⟨w.heap.size + 1, 2, none⟩ v2).setCell ⟨w.heap.size + 1, 3, none⟩ v3).setCell ⟨w.heap.size + 1, 4, none⟩ v4) := fun _ _ _ _ _ => (((((Chg.refl (fun j => j = w.heap.size + 1) W3).put (w.heap.size + 1) 0 (.inl rfl) _).put (w.heap.size + 1) 1 (.inl rfl) _).put (w.heap.size + 1) 2 (.inl rfl) _).put (w.heap.size + 1) 3 (.inl rfl) _).put (w.heap.size + 1) 4 (.inl rfl) _
  exact ⟨rfl, hA3.chg (hput _ _ _ _ _) (fun k hk e => by have := HXL.out k hk; omega), hc3.trans (hput _ _ _ _ _) (fun j hj e => by omega)⟩
end Go.Proofs.YtlcdjgpblpodaaaGreatDoor
namespace Go.Proofs.YtlcdjgpblpodaaaGreatDoor.HeldB
open Go

section
variable {P : Program} {ops : Array Oper} {Q : Exit → Act → World → Prop} {md : Region.Mode} {S : World → Prop} {m : Nat}

/-- Whatever order is picked from here on; S holds as long as number m has not come. -/
def Till (P : Program) (md : Region.Mode) (ops : Array Oper) (Q : Exit → Act → World → Prop) (S : World → Prop) (m : Nat) : Nat → Array Bool → Act → World → Prop
  | 0, listed, a, w => Region.ready md ops listed = [] ∧ Q .normal a w
  | fuel + 1, listed, a, w =>
    (Region.ready md ops listed = [] → Q .normal a w) ∧
    ∀ i ∈ Region.ready md ops listed, wpOp P ops Q i (fun a' w' => ((listed.setIfInBounds i true).getD m true = false → S w') ∧ Till P md ops Q S m fuel (listed.setIfInBounds i true) a' w') a w

theorem any_of_till : ∀ (fuel : Nat) (listed : Array Bool) (a : Act) (w : World), Till P md ops Q S m fuel listed a w → wpAny P md ops Q fuel listed a w
  | 0, _, _, _, h => h
  | fuel + 1, _, _, _, h => ⟨h.1, fun i hi => wpOp_mono (fun _ _ h' => any_of_till fuel _ _ _ h'.2) (h.2 i hi)⟩

/-- Number i waits till m: m is not ready while i has not come up. -/
def before (md : Region.Mode) (ops : Array Oper) (i m : Nat) : Bool :=
  match ops[m]? with
  | some o => o.after.any fun e => Region.binds md e && e.on == i
  | none => false
theorem before_spec {i : Nat} (h : before md ops i m = true) {listed : Array Bool} (hi : listed.getD i true = false) : m ∉ Region.ready md ops listed := fun hm => by
  unfold before at h
  obtain ⟨_, om, hom, hall⟩ := mem_ready.1 hm
  rw [hom] at h
  obtain ⟨e, he, hb⟩ := Array.any_eq_true'.1 h
  simp only [Bool.and_eq_true, beq_iff_eq] at hb
  have h1 := hall e he hb.1
  rw [hb.2] at h1
  rcases Nat.lt_or_ge i listed.size with h' | h'
  · simp [h'] at hi h1; rw [hi] at h1; cases h1
  · simp [Array.getElem?_eq_none h'] at h1

theorem first {i : Nat} {oi : Oper} {v : Value} (hi : ops[i]? = some oi) (hsel : ∀ (j : Nat) (o : Oper) cs b, ops[j]? = some o → o.op ≠ .select cs b) (hbm : before md ops i m = true)
    (hQ : ∀ c a w, Q (.panic c) (a.put oi.dst v) w → Q (.panic c) a w) :
    ∀ (fuel : Nat) (listed : Array Bool) (a : Act) (w : World),
      (∀ j oj, ops[j]? = some oj → j ≠ i → listed.getD j true = false → (∀ e ∈ oj.after, Region.binds md e = true → e.on ≠ i) → oi.apart ops oj = true) →
      i ∈ Region.ready md ops listed → YieldsIf P ops S oi v a → S w → listed.getD m true = false →
      Till P md ops Q S m fuel (listed.setIfInBounds i true) (a.put oi.dst v) w → Till P md ops Q S m (fuel + 1) listed a w := by
  intro fuel
  induction fuel with
  | zero =>
    intro listed a w _ hr hy hS hm H
    refine ⟨fun h => (by rw [h] at hr; cases hr), fun j hj => ?_⟩
    by_cases hji : j = i
    · subst hji; exact hy.wpOp hi hS ⟨fun _ => hS, H⟩
    · have := ready_mono hj hji
      rw [H.1] at this
      cases this
  | succ fuel ih =>
    intro listed a w hfree hr hy hS hm H
    have hiun := (mem_ready.1 hr).1
    have hmn := before_spec hbm hiun
    refine ⟨fun h => (by rw [h] at hr; cases hr), fun j hj => ?_⟩
    by_cases hji : j = i
    · subst hji; exact hy.wpOp hi hS ⟨fun _ => hS, H⟩
    · have hjm : j ≠ m := fun e => hmn (e ▸ hj)
      have h1 := H.2 j (ready_mono hj hji)
      obtain ⟨hjun, oj, hoj, hall⟩ := mem_ready.1 hj
      have hnot : ∀ e ∈ oj.after, Region.binds md e = true → e.on ≠ i := fun e he hb heq => by
        have h2 := hall e he hb
        rw [heq] at h2
        rcases Nat.lt_or_ge i listed.size with h' | h'
        · simp [h'] at hiun h2; rw [hiun] at h2; cases h2
        · simp [Array.getElem?_eq_none h'] at h2
      have h2 := wpOp_putIf hoj (hfree j oj hoj hji hjun hnot) (fun cs b => hsel i oi cs b hi) (fun cs b => hsel j oj cs b hoj) hQ hy h1
      have hfree' : ∀ k ok, ops[k]? = some ok → k ≠ i → (listed.setIfInBounds j true).getD k true = false →
          (∀ e ∈ ok.after, Region.binds md e = true → e.on ≠ i) → oi.apart ops ok = true := fun k ok hk hki hun hno => by
        refine hfree k ok hk hki ?_ hno
        by_cases hjk : j = k
        · subst hjk; exact hjun
        · rw [getD_set_ne true hjk] at hun; exact hun
      have hm' : (listed.setIfInBounds j true).getD m true = false := by rw [getD_set_ne true hjm]; exact hm
      have hm2 : ((listed.setIfInBounds i true).setIfInBounds j true).getD m true = false := by
        rw [getD_set_ne true hjm]
        have him : i ≠ m := fun e => hmn (e ▸ hr)
        rw [getD_set_ne true him]; exact hm
      refine wpOp_mono (fun a' w' h3 => ⟨fun _ => h3.2.1 hm2, ih (listed.setIfInBounds j true) a' w' hfree' (ready_mono hr (Ne.symm hji)) h3.1 (h3.2.1 hm2) hm' ?_⟩) h2
      rw [Array.setIfInBounds_comm _ _ hji]
      exact h3.2.2

theorem firstP {i : Nat} {oi : Oper} {v : Value} (him : i ≠ m) (hi : ops[i]? = some oi) (hsel : ∀ (j : Nat) (o : Oper) cs b, ops[j]? = some o → o.op ≠ .select cs b)
    (hQ : ∀ c a w, Q (.panic c) (a.put oi.dst v) w → Q (.panic c) a w) :
    ∀ (fuel : Nat) (listed : Array Bool) (a : Act) (w : World),
      (∀ j oj, ops[j]? = some oj → j ≠ i → listed.getD j true = false → (∀ e ∈ oj.after, Region.binds md e = true → e.on ≠ i) → oi.apart ops oj = true) →
      i ∈ Region.ready md ops listed → YieldsIf P ops (fun _ => True) oi v a → (listed.getD m true = false → S w) →
      Till P md ops Q S m fuel (listed.setIfInBounds i true) (a.put oi.dst v) w → Till P md ops Q S m (fuel + 1) listed a w := by
  intro fuel
  induction fuel with
  | zero =>
    intro listed a w _ hr hy hS H
    refine ⟨fun h => (by rw [h] at hr; cases hr), fun j hj => ?_⟩
    by_cases hji : j = i
    · subst hji; exact hy.wpOp hi trivial ⟨fun hm => hS (by rw [getD_set_ne true him] at hm; exact hm), H⟩
    · have := ready_mono hj hji
      rw [H.1] at this
      cases this
  | succ fuel ih =>
    intro listed a w hfree hr hy hS H
    have hiun := (mem_ready.1 hr).1
    refine ⟨fun h => (by rw [h] at hr; cases hr), fun j hj => ?_⟩
    by_cases hji : j = i
    · subst hji; exact hy.wpOp hi trivial ⟨fun hm => hS (by rw [getD_set_ne true him] at hm; exact hm), H⟩
    · have h1 := H.2 j (ready_mono hj hji)
      obtain ⟨hjun, oj, hoj, hall⟩ := mem_ready.1 hj
      have hnot : ∀ e ∈ oj.after, Region.binds md e = true → e.on ≠ i := fun e he hb heq => by
        have h2 := hall e he hb
        rw [heq] at h2
        rcases Nat.lt_or_ge i listed.size with h' | h'
        · simp [h'] at hiun h2; rw [hiun] at h2; cases h2
        · simp [Array.getElem?_eq_none h'] at h2
      have h2 := wpOp_putIf hoj (hfree j oj hoj hji hjun hnot) (fun cs b => hsel i oi cs b hi) (fun cs b => hsel j oj cs b hoj) hQ hy h1
      have hfree' : ∀ k ok, ops[k]? = some ok → k ≠ i → (listed.setIfInBounds j true).getD k true = false →
          (∀ e ∈ ok.after, Region.binds md e = true → e.on ≠ i) → oi.apart ops ok = true := fun k ok hk hki hun hno => by
        refine hfree k ok hk hki ?_ hno
        by_cases hjk : j = k
        · subst hjk; exact hjun
        · rw [getD_set_ne true hjk] at hun; exact hun
      have hx : (listed.setIfInBounds j true).getD m true = false → ((listed.setIfInBounds i true).setIfInBounds j true).getD m true = false := fun hm => by
        rw [Array.setIfInBounds_comm _ _ (Ne.symm hji), getD_set_ne true him]; exact hm
      refine wpOp_mono (fun a' w' h3 => ⟨fun hm => h3.2.1 (hx hm), ih (listed.setIfInBounds j true) a' w' hfree' (ready_mono hr (Ne.symm hji)) h3.1 (fun hm => h3.2.1 (hx hm)) ?_⟩) h2
      rw [Array.setIfInBounds_comm _ _ hji]
      exact h3.2.2

/-- Take number i first: what it gives hangs on S. -/
theorem take {i : Nat} {oi : Oper} {v : Value} {fuel : Nat} {listed : Array Bool} {a : Act} {w : World} (hi : ops[i]? = some oi)
    (hs : Region.noSelect ops = true) (hf : Region.free md ops listed i = true) (hr : (Region.ready md ops listed).contains i = true) (hbm : before md ops i m = true) (hm : listed.getD m true = false)
    (hQ : ∀ c a w, Q (.panic c) (a.put oi.dst v) w → Q (.panic c) a w) (hy : YieldsIf P ops S oi v a) (hS : S w)
    (h : Till P md ops Q S m fuel (listed.setIfInBounds i true) (a.put oi.dst v) w) : Till P md ops Q S m (fuel + 1) listed a w :=
  first hi (Region.noSelect_spec hs) hbm hQ fuel listed a w (Region.free_spec hi hf) (by simpa using hr) hy hS hm h
/-- Take number i first: what it gives hangs on nothing. -/
theorem takeP {i : Nat} {oi : Oper} {v : Value} {fuel : Nat} {listed : Array Bool} {a : Act} {w : World} (him : i ≠ m) (hi : ops[i]? = some oi)
    (hs : Region.noSelect ops = true) (hf : Region.free md ops listed i = true) (hr : (Region.ready md ops listed).contains i = true)
    (hQ : ∀ c a w, Q (.panic c) (a.put oi.dst v) w → Q (.panic c) a w) (hy : YieldsIf P ops (fun _ => True) oi v a) (hS : listed.getD m true = false → S w)
    (h : Till P md ops Q S m fuel (listed.setIfInBounds i true) (a.put oi.dst v) w) : Till P md ops Q S m (fuel + 1) listed a w :=
  firstP him hi (Region.noSelect_spec hs) hQ fuel listed a w (Region.free_spec hi hf) (by simpa using hr) hy hS h

/-- The one that may come up comes up. -/
theorem one {i : Nat} {o : Oper} {fuel : Nat} {listed : Array Bool} {a : Act} {w : World} (hr : Region.ready md ops listed = [i]) (ho : ops[i]? = some o)
    (h : ∀ K' : Act → World → Prop, Shut (∀ a w, ((listed.setIfInBounds i true).getD m true = false → S w) → (((listed.setIfInBounds i true).getD m true = false → S w) → Till P md ops Q S m fuel (listed.setIfInBounds i true) a w) → K' a w) → if Region.wanted o (yielded ops a.tmps) = true then Oper.wp P o a w K' Q else K' (a.put o.dst undef) w) :
    Till P md ops Q S m (fuel + 1) listed a w :=
  ⟨(fun h0 => by rw [hr] at h0; cases h0), fun j hj => by
    rw [hr] at hj
    obtain rfl : j = i := by simpa using hj
    exact wpOp_step ho (fun K' hK => h K' (fun a w hS hW => hK a w ⟨hS, hW hS⟩))⟩
/-- One of two that may come up. -/
theorem two {i j : Nat} {o o2 : Oper} {fuel : Nat} {listed : Array Bool} {a : Act} {w : World} (hr : Region.ready md ops listed = [i, j]) (ho : ops[i]? = some o) (ho2 : ops[j]? = some o2)
    (h : ∀ K' : Act → World → Prop, Shut (∀ a w, ((listed.setIfInBounds i true).getD m true = false → S w) → (((listed.setIfInBounds i true).getD m true = false → S w) → Till P md ops Q S m fuel (listed.setIfInBounds i true) a w) → K' a w) → if Region.wanted o (yielded ops a.tmps) = true then Oper.wp P o a w K' Q else K' (a.put o.dst undef) w)
    (h2 : ∀ K' : Act → World → Prop, Shut (∀ a w, ((listed.setIfInBounds j true).getD m true = false → S w) → (((listed.setIfInBounds j true).getD m true = false → S w) → Till P md ops Q S m fuel (listed.setIfInBounds j true) a w) → K' a w) → if Region.wanted o2 (yielded ops a.tmps) = true then Oper.wp P o2 a w K' Q else K' (a.put o2.dst undef) w) :
    Till P md ops Q S m (fuel + 1) listed a w :=
  ⟨(fun h0 => by rw [hr] at h0; cases h0), fun k hk => by
    rw [hr] at hk
    rcases List.mem_cons.1 hk with rfl | hk
    · exact wpOp_step ho (fun K' hK => h K' (fun a w hS hW => hK a w ⟨hS, hW hS⟩))
    · obtain rfl : k = j := by simpa using hk
      exact wpOp_step ho2 (fun K' hK => h2 K' (fun a w hS hW => hK a w ⟨hS, hW hS⟩))⟩

theorem done {listed : Array Bool} {a : Act} {w : World} (hr : Region.ready md ops listed = []) (h : Q .normal a w) :
    ∀ fuel, Till P md ops Q S m fuel listed a w
  | 0 => ⟨hr, h⟩
  | _ + 1 => ⟨fun _ => h, by rw [hr]; simp⟩

theorem region (S : World → Prop) (m : Nat) {id : Nat} {a : Act} {w : World} (hm : P.follows .mixedOrders = true)
    (hS : S w.drew) (h : S w.drew → Till P .any ops (NoPanic Q) S m ops.size (Array.replicate ops.size false) a w.drew) : (Code.region id ops true).wp P Q a w :=
  wp_region_noPanic (wp_region_any hm (any_of_till _ _ _ _ (h hS)))
end
end Go.Proofs.YtlcdjgpblpodaaaGreatDoor.HeldB

/-
  strong.newPlay.
  simul.Above of a system that is not right.
  Maps keyed by api.Step: how the keys read.
  witness: the closure that notes a step; plain: what a state does by classes.
-/
import Derived.Test.YtfakdgljilmpkaaGreatDoorG34
import Derived.Test.YtfakdgljilmpkaaGreatDoorAs
import Derived.Test.YtfakdgljilmpkaaGreatDoorG21
import Derived.Test.YtfakdgljilmpkaaGreatDoorG25
import Derived.Test.YtfakdgljilmpkaaGreatDoorG8
import Derived.Test.YtfakdgljilmpkaaGreatDoorG22
import Derived.Lib.SmallJoins
import Derived.MapViews
import Derived.Test.YtfakdgljilmpkaaGreatDoorG16
import Derived.Test.YtfakdgljilmpkaaGreatDoorG6
import Derived.Deep.RegionHeld3
import Derived.Deep.QuietTactic
import Derived.BigQuiet
namespace Go.Proofs.YtfakdgljilmpkaaGreatDoor
open Go.RowKit Pl

def strName : ByteArray := ⟨#[115, 116, 114, 111, 110, 103]⟩
/-- A fault of this layer over one of the layer system. -/
def FaultS (w : World) (p : Addr) (v : Value) : Prop :=
  ∃ vi, FaultAt w v strName vi ∧ FaultAt w vi sysName (.iface 275 (.pointer (some p)))
theorem FaultS.below {w w' : World} {p : Addr} {v : Value} (h : FaultS w p v) (hB : Below w.heap.size w w') : FaultS w' p v := by
  obtain ⟨vi, h1, h2⟩ := h
  exact ⟨vi, h1.below hB, h2.below hB⟩

set_option maxRecDepth 100000 in
theorem newPlayNo_any {p : Addr} {s : Lts} (h : ¬ s.Right) {a : Option Addr} {b off c : Nat} {w : World} (hG : GErr 0 p w) (hT : ErrType w) (hS : SlAt encE 3 w a b off s.es) :
    Calls Tryz.prog 47 #[.agg #[.int .i64 s.st, .int .i64 s.lb, .int .i64 s.s0, .slice a s.es.length c]] w fun e w' =>
      ∃ v, e = .returned (.tuple #[.pointer none, v]) ∧ FaultS w' p v ∧ Below w.heap.size w w' := by
  have hB0 := (Below.refl w.heap.size w).alloc (Nat.le_refl _) (Obj.cells #[.int .i64 s.st, .int .i64 s.lb, .int .i64 s.s0, .slice a s.es.length c] 24)
  have hN := new_no (c := c) h (hG.below hB0) (hS.below hB0 (Nat.le_refl _))
  have HN := Lib.hid hN; have HT := Lib.hid (hT.below hB0); have HB0 := Lib.hid hB0
  clear hN hT hB0 hS hG h
  go_enter Tryz.func47, Tryz.ntmps47
  go_wp2_with fail
  refine HN.out.mono ?_
  rintro e w1 ⟨v, rfl, hF, hB1⟩
  have HF := Lib.hid hF
  obtain ⟨fb, rfl, hfb⟩ := hF.ex
  have HT1 := Lib.hid (HT.out.below hB1)
  have HA := Lib.hid (faultAs_any strName HT1.out hfb)
  have HB1 := Lib.hid (HB0.out.trans (hB1.mono (by simp)))
  clear hB1 hfb hF
  go_wp2_with fail
  refine HA.out.mono ?_
  rintro e w2 ⟨v, rfl, hF2, hB2⟩
  have hf3 := HF.out.below hB2
  have HR : RowKit.Hid (FaultS w2 p v) := Lib.hid ⟨_, hF2, hf3⟩
  have HB2 := Lib.hid (HB1.out.trans (hB2.mono HB1.out.size))
  clear hF2 hf3 hB2
  go_wp2
  go_ret2
  exact ⟨v, rfl, HR.out, HB2.out⟩

/-- What newPlay answers of a right system that has states. -/
def PlayPost (s : Lts) (n : Nat) (w : World) (e : Ending) (w' : World) : Prop :=
  ∃ (w0 : World) (K : PK) (S : SK), e = .returned (.tuple #[.pointer (some ⟨S.xb, 0, none⟩), .nilIface]) ∧ SW w0 w' s.norm K S n id id z0 [(0, n, 0)] z0 z0 [] [] [] ∧ Below w.heap.size w w0

set_option maxRecDepth 100000 in
set_option maxHeartbeats 2000000 in
theorem newPlayYes_any {p : Addr} {s : Lts} {n : Nat} (h : s.Right) (hn : s.st = (n : Int)) (hn0 : 0 < n) {a : Option Addr} {b off c : Nat} {w : World} (hG : GErr 0 p w) (hS : SlAt encE 3 w a b off s.es) :
    Calls Tryz.prog 47 #[.agg #[.int .i64 s.st, .int .i64 s.lb, .int .i64 s.s0, .slice a s.es.length c]] w (PlayPost s n w) := by
  have hst := h.st0
  have hn1 : n ≤ 1000 := by omega
  have hB0 := (Below.refl w.heap.size w).alloc (Nat.le_refl _) (Obj.cells #[.int .i64 s.st, .int .i64 s.lb, .int .i64 s.s0, .slice a s.es.length c] 24)
  have hN := new_ok (c := c) h (hG.below hB0) (hS.below hB0 (Nat.le_refl _))
  have hmk := run_make_row' (P := Tryz.prog) 33 3 (.int .i64 0) 8 Tryz.underlying33 (by kernel_rfl) rfl .i64 .i64 n (by omega) (by omega)
  have HN := Lib.hid hN; have HB0 := Lib.hid hB0; have HNN := Lib.hid hn
  have hnn : s.norm.st = (n : Int) := hn
  have HNM := Lib.hid hnn
  clear hN hB0 hS hG h hn hst hnn
  go_enter Tryz.func47, Tryz.ntmps47
  go_wp2_with fail
  refine HN.out.mono ?_
  rintro e w0 ⟨gb, rfl, hGr, hB1, _⟩
  have HGR := Lib.hid hGr
  have HW0 := Lib.hid (HB0.out.trans (hB1.mono (by simp)))
  have hs1 := getStates_any hGr
  rw [HNM.out] at hs1
  have HS1 := Lib.hid hs1
  clear hGr hB1 hs1 HN HB0
  go_wp2_with fail
  refine HS1.out.mono ?_
  rintro e w1 ⟨rfl, hB1⟩
  have hr1 := ((Rws.nil hB1).addLit (madeCells #[.int .i64 0] n) 3 (k := 1) (n := n) (by unfold maxLen; omega) (by simp [size_madeCells])).addLit #[.pointer (some ⟨gb, 0, none⟩), .pointer none, .slice (some ⟨w1.heap.size, 0, none⟩) n n, .slice none 0 0, .slice none 0 0, .slice none 0 0, .slice none 0 0] 90 (k := 7) (n := 1) (by unfold maxLen; omega) rfl
  rw [madeI] at hr1
  have hz1 : (w1.alloc (.cells (madeCells #[.int .i64 0] n) 3)).heap.size = w1.heap.size + 1 := by simp
  rw [hz1] at hr1
  have HR1 := Lib.hid hr1
  clear hr1 hz1 hB1 HS1
  go_upto_region 5 with fail
  obtain ⟨V, hV⟩ : ∃ V, V = (w1.alloc (.cells (madeCells #[.int .i64 0] n) 3)).alloc (.cells #[.pointer (some ⟨gb, 0, none⟩), .pointer none, .slice (some ⟨w1.heap.size, 0, none⟩) n n, .slice none 0 0, .slice none 0 0, .slice none 0 0, .slice none 0 0] 90) := ⟨_, rfl⟩
  obtain ⟨hb, hhb⟩ : ∃ hb, hb = w1.heap.size := ⟨_, rfl⟩
  obtain ⟨xb, hxb⟩ : ∃ xb, xb = w1.heap.size + 1 := ⟨_, rfl⟩
  rw [← hV] at HR1 ⊢
  rw [← hhb] at HR1 hxb ⊢
  rw [← hxb] at HR1 ⊢
  clear hV hhb hxb
  have hs2 := getStates_any (HGR.out.below HR1.out.bel)
  rw [HNM.out] at hs2
  have HS2 := Lib.hid hs2
  clear hs2
  go_wp2_with fail
  refine HS2.out.mono ?_
  rintro e w2 ⟨rfl, hB2⟩
  have HNEW := Lib.hid (parNew_any (HR1.out.call hB2) hn0 hn1)
  clear hB2 HS2
  go_wp2_with fail
  refine HNEW.out.mono ?_
  rintro e w3 ⟨K, rfl, hpw⟩
  have HPW := Lib.hid hpw
  have x1 := hpw.rws.cell (i := 5) rfl (j := 1) rfl
  have xf := hpw.rws.fz (i := 5) rfl 1
  have xl := (hpw.rws.lt (i := 5) rfl).2
  have hr4 := ((hpw.rws.set 5 rfl 1 (.pointer (some ⟨K.pb, 0, none⟩))).addNil 33 1).addNil 3 1
  have HR4 := Lib.hid hr4
  clear hpw hr4 HNEW HR1
  go_upto_region 6 with fail
  obtain ⟨Y, hY⟩ : ∃ Y, Y = w3.setCell ⟨xb, 1, none⟩ (.pointer (some ⟨K.pb, 0, none⟩)) := ⟨_, rfl⟩
  rw [← hY] at HR4 ⊢
  clear hY x1 xf xl
  have hs3 := getStates_any (HGR.out.below HR4.out.bel)
  rw [HNM.out] at hs3
  have HS3 := Lib.hid hs3
  clear hs3
  go_wp2_with fail
  refine HS3.out.mono ?_
  rintro e w5 ⟨rfl, hB5⟩
  have hr5 := HR4.out.call hB5
  have x6 := hr5.cell (i := 7) rfl (j := 6) rfl
  have xf := hr5.fz (i := 7) rfl 6
  have xl := (hr5.lt (i := 7) rfl).2
  have hr6 := (hr5.set 7 rfl 6 (.slice (some ⟨w5.heap.size, 0, none⟩) n n)).addLit (madeCells #[.int .i64 0] n) 3 (k := 1) (n := n) (by unfold maxLen; omega) (by simp [size_madeCells])
  rw [madeI, size_setCell] at hr6
  have hr7 := hr6.perm (List.perm_append_comm (l₁ := [_, _, _]))
  have hsw : SW w0 ((w5.setCell ⟨xb, 6, none⟩ (.slice (some ⟨w5.heap.size, 0, none⟩) n n)).alloc (.cells (madeCells #[.int .i64 0] n) 3)) s.norm K ⟨xb, gb, hb, w5.heap.size, none, 0, none, 0⟩ n id id z0 [(0, n, 0)] z0 z0 [] [] [] := ⟨⟨hr7, HPW.out.pi, hn1⟩, HGR.out, HNM.out⟩
  have HSW := Lib.hid hsw
  clear hB5 hr5 hr6 hr7 hsw HS3
  go_wp2_with fail
  go_ret2
  exact ⟨w0, K, _, rfl, HSW.out, HW0.out⟩
end Go.Proofs.YtfakdgljilmpkaaGreatDoor

namespace Go.Proofs.YtfakdgljilmpkaaGreatDoor
open Go.RowKit Pl

def simName : ByteArray := ⟨#[115, 105, 109, 117, 108]⟩

set_option maxRecDepth 100000 in
set_option maxHeartbeats 1000000 in
theorem aboveNo_any {p : Addr} {s : Lts} (h : ¬ s.Right) {a : Option Addr} {b off c : Nat} {w : World} (hG : GErr 0 p w) (hT : ErrType w) (hS : SlAt encE 3 w a b off s.es) :
    Calls Tryz.prog 78 #[.agg #[.int .i64 s.st, .int .i64 s.lb, .int .i64 s.s0, .slice a s.es.length c]] w fun e w' =>
      ∃ fb, e = .returned (.tuple #[.slice none 0 0, .iface 160 (.pointer (some ⟨fb, 0, none⟩))]) ∧ Below w.heap.size w w' := by
  have hB0 := (Below.refl w.heap.size w).alloc (Nat.le_refl _) (Obj.cells #[.int .i64 s.st, .int .i64 s.lb, .int .i64 s.s0, .slice a s.es.length c] 24)
  have hN := new_no (c := c) h (hG.below hB0) (hS.below hB0 (Nat.le_refl _))
  have HN := Lib.hid hN; have HT := Lib.hid (hT.below hB0); have HB0 := Lib.hid hB0
  clear hN hT hB0 hS hG h
  go_enter Tryz.func78, Tryz.ntmps78
  go_wp2_with fail
  go_step3
  go_wp2_with fail
  refine HN.out.mono ?_
  rintro e w1 ⟨v, rfl, hF, hB1⟩
  obtain ⟨fb, rfl, hfb⟩ := hF.ex
  have HT1 := Lib.hid (HT.out.below hB1)
  have HA := Lib.hid (faultAs_any simName HT1.out hfb)
  have HB1 := Lib.hid (HB0.out.trans (hB1.mono (by simp)))
  clear hB1 hfb hF
  go_wp2_with fail
  refine HA.out.mono ?_
  rintro e w2 ⟨v, rfl, hF2, hB2⟩
  have HB2 := Lib.hid (HB1.out.trans (hB2.mono HB1.out.size))
  obtain ⟨fc, rfl, _⟩ := hF2.ex
  clear hF2 hB2
  go_wp2_with fail
  rw [Exit.noGoto_ret]
  go_ret2
  exact ⟨fc, rfl, HB2.out⟩

set_option maxRecDepth 100000 in
set_option maxHeartbeats 1000000 in
theorem aboveLNo_any {p : Addr} {s : Lts} (h : ¬ s.Right) {a : Option Addr} {b off c : Nat} {w : World} (hG : GErr 0 p w) (hT : ErrType w) (hS : SlAt encE 3 w a b off s.es) :
    Calls Tryz.prog 41 #[.agg #[.int .i64 s.st, .int .i64 s.lb, .int .i64 s.s0, .slice a s.es.length c]] w fun e w' =>
      ∃ fb, e = .returned (.tuple #[.slice none 0 0, .iface 160 (.pointer (some ⟨fb, 0, none⟩))]) ∧ Below w.heap.size w w' := by
  have hB0 := (Below.refl w.heap.size w).alloc (Nat.le_refl _) (Obj.cells #[.int .i64 s.st, .int .i64 s.lb, .int .i64 s.s0, .slice a s.es.length c] 24)
  have HA := Lib.hid (aboveNo_any (c := c) h (hG.below hB0) (hT.below hB0) (hS.below hB0 (Nat.le_refl _)))
  have HB0 := Lib.hid hB0
  clear hT hB0 hS hG h
  go_enter Tryz.func41, Tryz.ntmps41
  go_wp2_with fail
  refine HA.out.mono ?_
  rintro e w1 ⟨fb, rfl, hB1⟩
  have HB1 := Lib.hid (HB0.out.trans (hB1.mono (by simp)))
  clear hB1
  go_wp2_with fail
  go_ret2
  exact ⟨fb, rfl, HB1.out⟩
end Go.Proofs.YtfakdgljilmpkaaGreatDoor

namespace Go.Proofs.YtfakdgljilmpkaaGreatDoor
open Go.RowKit Go.ChangeShapes Pl

def encSv (x : S) : Value := .agg #[.int .i64 x.1, .int .i64 x.2]
def okS (x : S) : Prop := (Lit.int .i64 x.1).wf = true ∧ (Lit.int .i64 x.2).wf = true

theorem laidOutK : laidOutB Tryz.prog = true := by kernel_rfl
theorem rowStep : (101 : TypeId) < Tryz.prog.types.size := of_decide_eq_true (by kernel_rfl)
theorem wideStep : (match Tryz.prog.underlying 101 with | some (.array _ _) | some (.struct _) => true | _ => false) = true := by rw [Tryz.underlying101]
set_option maxRecDepth 100000 in
theorem lawStep : Go.WideMaps.KeyLaw Tryz.prog 101 := deep_law_laid laidOutK (m := 2) (by omega) rowStep (by kernel_rfl) wideStep
theorem deepStep : Tryz.prog.keyTypeAt (Tryz.prog.types.size + 1) 101 = true := by kernel_rfl
theorem cellsStep : Tryz.prog.cellsOf 101 = 2 := by kernel_rfl
theorem formedStep (c0 c1 : Value) : (Value.agg #[c0, c1]).formed Tryz.prog 101 = true := by simp [Value.formed, Tryz.underlying101, cellsStep]

set_option maxRecDepth 100000 in
theorem keyStep (x : S) (h : okS x) : ∃ l, keyOf Tryz.prog 101 (encSv x) = some l := by
  have t0 := shut_int (H := Unit) (enc := fun _ => ()) (P := Tryz.prog) (w := default) (base := 0) (spare := fun _ => true) (held := true) Tryz.underlying3 h.1
  have t1 := shut_int (H := Unit) (enc := fun _ => ()) (P := Tryz.prog) (w := default) (base := 0) (spare := fun _ => true) (held := true) Tryz.underlying3 h.2
  have h2 := Go.Joins.shut_agg2 (y0 := (.lit (.int .i64 x.1), [])) (y1 := (.lit (.int .i64 x.2), [])) Tryz.underlying101 (by kernel_rfl) cellsStep t0 t1
  exact ⟨_, (keyOf_asKey deepStep wideStep (formedStep _ _) h2).1⟩

theorem encStep : KeyEnc Tryz.prog 101 encSv okS where
  K := Go.Maps.Keyed.of_law lawStep
  key := keyStep
  inj x y h := by
    obtain ⟨x1, x2⟩ := x; obtain ⟨y1, y2⟩ := y
    unfold encSv at h
    simp only [Value.agg.injEq, Array.mk.injEq, List.cons.injEq, Value.int.injEq, true_and, and_true] at h
    rw [h.1, h.2]

def encU (_ : Unit) : Value := .agg #[]
theorem zeroUnit (w : World) : (zeroValue 119).run Tryz.prog w = .ok (.agg #[]) w := by kernel_rfl
end Go.Proofs.YtfakdgljilmpkaaGreatDoor

namespace Go.Proofs.YtfakdgljilmpkaaGreatDoor
open Go.RowKit Pl

set_option maxRecDepth 100000 in
/-- The closure of walk: notes one step. -/
theorem note_any {w : World} {pb mb n : Nat} {f : S → Option Unit} (hp : w.cell? ⟨pb, 0, none⟩ = some (.map (some mb))) (hM : OMap w mb encSv okS encU f n) (l c : Int) (hok : okS (l, c)) :
    Calls Tryz.prog 110 #[.int .i64 l, .int .i64 c, .pointer (some ⟨pb, 0, none⟩)] w fun e w' => e = .returned (.tuple #[]) ∧
      (∃ n', OMap w' mb encSv okS encU (fun z => if z = (l, c) then some () else f z) n') ∧ w.grownBy w' (some mb) := by
  have hpl := World.block_lt_of_cell? _ _ hp
  have HM := Lib.hid hM
  clear hM
  go_enter Tryz.func110, Tryz.ntmps110
  go_wp2_with (at_mapUpdate; refine wpList_oput rfl _ _ _ 177 rfl encStep Tryz.underlying177 rfl HM.out ((l, c) : S) hok rfl () rfl ?_; intro w1 hM1 hg1 hf1 hs1)
  go_end0
  exact ⟨rfl, ⟨_, hM1⟩, hg1⟩

/-- What state q does by classes, plainly. -/
def plainD (s : Lts) (C : List Int) (q : Int) : List S := (s.outs q).map (fun x => (x.1, atL C x.2))

/-- More steps are noted. -/
def addU (f : S → Option Unit) (L : List S) (z : S) : Option Unit := if z ∈ L then some () else f z
theorem addU_nil (f : S → Option Unit) (z : S) : addU f [] z = f z := by simp [addU]
theorem addU_snoc (f : S → Option Unit) (L : List S) (x z : S) : (if z = x then some () else addU f L z) = addU f (L ++ [x]) z := by
  unfold addU
  by_cases h : z = x
  · simp [h]
  · simp [h]
theorem addU_app (f : S → Option Unit) (L M : List S) (z : S) : addU (addU f L) M z = addU f (L ++ M) z := by
  unfold addU
  by_cases h : z ∈ M <;> by_cases h2 : z ∈ L <;> simp [h, h2]

/-- The world while steps are noted in the map mb, of which pb tells. -/
structure Noting (w0 w wr : World) (pb mb : Nat) (f : S → Option Unit) : Prop where
  bel : Below w0.heap.size w0 wr
  grown : w.grownBy wr (some mb)
  cell : wr.cell? ⟨pb, 0, none⟩ = some (.map (some mb))
  map : ∃ n, OMap wr mb encSv okS encU f n
  mlt : w0.heap.size ≤ mb
  pne : pb ≠ mb
theorem Noting.plt {w0 w wr : World} {pb mb : Nat} {f : S → Option Unit} (h : Noting w0 w wr pb mb f) : pb < wr.heap.size := World.block_lt_of_cell? _ _ h.cell
theorem Noting.call {w0 w wr w' : World} {pb mb : Nat} {f : S → Option Unit} (h : Noting w0 w wr pb mb f) (hB : Below wr.heap.size wr w') : Noting w0 w w' pb mb f := by
  obtain ⟨n, hm⟩ := h.map
  exact ⟨h.bel.trans (hB.mono h.bel.size), h.grown.trans ⟨hB.os, hB.tape, hB.output, hB.size, fun i hi _ => hB.block i hi⟩, by rw [hB.cell (p := ⟨pb, 0, none⟩) h.plt]; exact h.cell, ⟨n, hm.of_block (hB.block _ hm.lt)⟩, h.mlt, h.pne⟩
theorem Noting.note {w0 w wr w' : World} {pb mb : Nat} {f g : S → Option Unit} (h : Noting w0 w wr pb mb f) (hg : wr.grownBy w' (some mb)) (hm : ∃ n, OMap w' mb encSv okS encU g n) : Noting w0 w w' pb mb g :=
  ⟨h.bel.grown hg h.bel.size (fun k hk => by cases hk; exact h.mlt), h.grown.trans hg, by
    rw [World.cell?_of_block (w := wr) (a := ⟨pb, 0, none⟩) (hg.block pb h.plt (fun e => h.pne (Option.some.inj e)))]; exact h.cell, hm, h.mlt, h.pne⟩
theorem Noting.congr {w0 w wr : World} {pb mb : Nat} {f g : S → Option Unit} (h : Noting w0 w wr pb mb f) (e : ∀ z, f z = g z) : Noting w0 w wr pb mb g := by
  obtain ⟨n, hm⟩ := h.map
  exact ⟨h.bel, h.grown, h.cell, ⟨n, hm.congr e⟩, h.mlt, h.pne⟩

/-- Classes: a number of each state. -/
structure Cls (s : Lts) (n : Nat) (C : List Int) : Prop where
  len : C.length = n
  st : s.st = (n : Int)
  ok : ∀ x ∈ C, (Lit.int .i64 x).wf = true

set_option maxRecDepth 100000 in
set_option maxHeartbeats 2000000 in
theorem plain_any {w0 w : World} {gb : Nat} {s : Lts} (h : GraphAt w0 gb s) {n : Nat} {C : List Int} (hC : Cls s n C) {ca : Option Addr} {cb co cc : Nat} (hS : SlAt encI 1 w0 ca cb co C) {pb mb : Nat} {f : S → Option Unit} (hN : Noting w0 w w pb mb f) (q : Int) :
    Calls Tryz.prog 75 #[.pointer (some ⟨gb, 0, none⟩), .slice ca n cc, .int .i64 q, .func (.func 110) #[] #[.pointer (some ⟨pb, 0, none⟩)]] w fun e w' => e = .returned (.tuple #[]) ∧ Noting w0 w w' pb mb (addU f (plainD s C q)) := by
  have hea := each_any h hN.bel q
  have HEA := Lib.hid hea; have HH := Lib.hid h; have HS := Lib.hid hS; have HN := Lib.hid hN; have HC := Lib.hid hC
  have hn : n ≤ 1000 := by have := h.right.st0; have := hC.st; omega
  clear h hS hN hC hea
  go_enter Tryz.func75, Tryz.ntmps75
  go_wp2_with fail
  refine (HEA.out).mono ?_
  rintro e wb ⟨⟨a2, c2, b2, off2, rfl, hc2, hm2, hss⟩, hBb⟩
  have HN1 := Lib.hid (HN.out.call hBb)
  have HSS := Lib.hid hss
  have hsl : (s.outs q).length ≤ 10000 := outs_len HH.out.right q
  clear hss hBb hc2 hm2 HN HEA
  go_wp2_with fail
  go_loopw [9, 14] (fun _ v14 wr => ∃ k : Nat, v14 = .int .i64 k ∧ k ≤ (s.outs q).length ∧ Noting w0 w wr pb mb (addU f ((plainD s C q).take k))) (fun _ v14 _ => (s.outs q).length - (intOf v14).toNat)
  case atStart => exact ⟨0, rfl, Nat.zero_le _, HN1.out.congr (fun z => by rw [List.take_zero, addU_nil])⟩
  case round =>
    obtain ⟨k, rfl, hk, hnr⟩ := hrel
    have HNR := Lib.hid hnr
    have hpl := hnr.plt
    have hpc := hnr.cell
    clear hnr HN1
    by_cases hlt : k < (s.outs q).length
    · obtain ⟨y, hy⟩ := getElem?_of_lt hlt
      have hss := HSS.out.below HNR.out.bel (Nat.le_refl _)
      obtain rfl := hss.ad (by omega)
      have d0 := hss.s0 hy; have d1 := hss.s1 hy
      have dl := hss.lt (by omega)
      have hyr := offB_false.1 (HH.out.right.edges _ (mem_outs.1 (List.mem_of_getElem? hy)))
      have hD : (plainD s C q)[k]? = some (y.1, atL C y.2) := by unfold plainD; rw [List.getElem?_map, hy]; rfl
      have hlb := HH.out.right.st0
      obtain ⟨y1, y2⟩ := y
      simp only at hyr d0 d1 hD
      obtain ⟨t, rfl⟩ := Int.eq_ofNat_of_zero_le hyr.2.2.2.2.1
      have hst := HC.out.st
      have htn : t < n := by omega
      have htI : (t : Int) < (n : Int) := by omega
      have hcs := HS.out.below HNR.out.bel (Nat.le_refl _)
      have hcl := HC.out.len
      obtain rfl := hcs.ad (by omega)
      obtain ⟨x, hx⟩ := getElem?_of_lt (xs := C) (i := t) (by omega)
      have hcx := hcs.ci hx
      have hcbl := hcs.lt (by omega)
      have hax : atL C (t : Int) = x := by unfold atL; rw [List.getD_eq_getElem?_getD]; simp [hx]
      rw [hax] at hD
      have hok : okS (y1, x) := ⟨WalkArith.wf_i64 (by omega), HC.out.ok x (List.mem_of_getElem? hx)⟩
      have hkI : (k : Int) < ((s.outs q).length : Int) := by omega
      have HD := Lib.hid hD; have HOK := Lib.hid hok
      have hm := HNR.out.mlt
      have hcm : cb ≠ mb := by have := HS.out.lt (by omega); omega
      clear hy hss hyr hD hlb hst hcs hcl hx hax hok
      go_wp2_with fail
      obtain ⟨W, hW⟩ : ∃ W, W = wr.alloc (.cells #[.int .i64 y1, .int .i64 t] 101) := ⟨_, rfl⟩
      have hBW : Below wr.heap.size wr W := by rw [hW]; exact (Below.refl _ _).alloc (Nat.le_refl _) _
      have hmr : mb < wr.heap.size := by obtain ⟨_, hm⟩ := HNR.out.map; exact hm.lt
      have hws : wr.heap.size < W.heap.size := by rw [hW]; simp
      have s0 : W.cell? ⟨wr.heap.size, 0, none⟩ = some (.int .i64 y1) := by rw [hW]; simp
      have s1 : W.cell? ⟨wr.heap.size, 1, none⟩ = some (.int .i64 t) := by rw [hW]; simp
      have s2 : W.cell? ⟨cb, co + t, none⟩ = some (.int .i64 x) := by rw [hBW.cell (p := ⟨cb, co + t, none⟩) hcbl]; exact hcx
      have hNW := HNR.out.call hBW
      rw [← hW]
      have hkeep : ∀ w' : World, (∀ b, b < W.heap.size → b ≠ mb → w'.heap[b]? = W.heap[b]?) → (w'.cell? ⟨wr.heap.size, 0, none⟩ = some (.int .i64 y1) ∧ w'.cell? ⟨wr.heap.size, 1, none⟩ = some (.int .i64 t) ∧ w'.cell? ⟨cb, co + t, none⟩ = some (.int .i64 x)) := fun w' hb =>
        ⟨(World.cell?_of_block (a := ⟨wr.heap.size, 0, none⟩) (hb wr.heap.size hws (by omega))).trans s0, (World.cell?_of_block (a := ⟨wr.heap.size, 1, none⟩) (hb wr.heap.size hws (by omega))).trans s1, (World.cell?_of_block (a := ⟨cb, co + t, none⟩) (hb cb (by omega) hcm)).trans s2⟩
      have HK := Lib.hid hkeep; have HNW := Lib.hid (hNW.call (w' := W.drew) (Below.refl _ _).drew)
      clear hkeep hNW hW hBW HNR hcx d0 d1 dl hpc hpl
      have hz : W.drew.heap.size = W.heap.size := rfl
      go_region_held3 (fun w' => w'.cell? ⟨wr.heap.size, 0, none⟩ = some (.int .i64 y1) ∧ w'.cell? ⟨wr.heap.size, 1, none⟩ = some (.int .i64 t) ∧ w'.cell? ⟨cb, co + t, none⟩ = some (.int .i64 x))
        (first | exact HK.out _ (fun _ _ _ => rfl) | exact HK.out _ (by assumption))
        ((go_at_call 110; refine (note_any HNW.out.cell HNW.out.map.choose_spec y1 x HOK.out).mono ?_; rintro e w7 ⟨rfl, hm7, hg7⟩; have hb7 : ∀ b, b < W.heap.size → b ≠ mb → w7.heap[b]? = W.heap[b]? := fun b hb hne => hg7.block b hb (fun e => hne (Option.some.inj e))))
      have hn7 := (HNW.out.note hg7 hm7).congr (g := addU f ((plainD s C q).take (k + 1))) (fun z => by rw [take_snoc HD.out]; exact addU_snoc f _ _ z)
      have HN7 := Lib.hid hn7
      clear hn7 hm7 hg7 hb7 HK HNW
      go_wp2_with fail
      go_roundw
      case rel => exact ⟨k + 1, by go_num, by omega, HN7.out⟩
      case measure => simp [intOf]; omega
    · have hkk : (s.outs q).length = k := by omega
      subst hkk
      have hfin : Noting w0 w wr pb mb (addU f (plainD s C q)) := HNR.out.congr (fun z => by rw [List.take_of_length_le (by unfold plainD; simp)])
      have HF := Lib.hid hfin
      clear hfin HNR hpc
      go_wp2_with fail
      go_end0
      exact ⟨rfl, HF.out⟩
end Go.Proofs.YtfakdgljilmpkaaGreatDoor

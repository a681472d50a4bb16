/-
  witness.asked; witness.Strong and Branching.
-/
import Derived.Test.YtbbjmompbmgnmaaDoorWitD
import Derived.Test.YtbbjmompbmgnmaaDoorWitF
import Derived.Test.YtbbjmompbmgnmaaDoorG38
import Derived.Test.YtbbjmompbmgnmaaDoorAs
import Derived.Test.YtbbjmompbmgnmaaDoorG22
namespace Go.Proofs.YtbbjmompbmgnmaaDoor
open Go.RowKit Pl

/-- A fault of a layer over one of the layer system. -/
def FaultOn (nm : ByteArray) (w : World) (p : Addr) (v : Value) : Prop :=
  ∃ vi, FaultAt w v nm vi ∧ FaultAt w vi sysName (.iface 208 (.pointer (some p)))
theorem FaultAt.belowW {w w' : World} {v : Value} {l : ByteArray} {i : Value} (h : FaultAt w v l i) (hB : Below w.heap.size w w') : FaultAt w' v l i := by
  obtain ⟨b, h1, h2⟩ := h.ex
  exact ⟨⟨b, h1, (hB.block b (Array.getElem?_eq_some_iff.1 h2).1).trans h2⟩⟩
theorem FaultOn.below {nm : ByteArray} {w w' : World} {p : Addr} {v : Value} (h : FaultOn nm w p v) (hB : Below w.heap.size w w') : FaultOn nm w' p v := by
  obtain ⟨vi, h1, h2⟩ := h
  exact ⟨vi, h1.belowW hB, h2.belowW hB⟩
theorem FaultAt.set4 {w : World} {v : Value} {l : ByteArray} {i : Value} {B : Nat} {c : Array Value} (h : FaultAt w v l i) (hr : w.heap[B]? = some (.cells c 29 (0, 0))) (x0 x1 x2 x3 : Value) :
    FaultAt ((((w.setCell ⟨B, 0, none⟩ x0).setCell ⟨B, 1, none⟩ x1).setCell ⟨B, 2, none⟩ x2).setCell ⟨B, 3, none⟩ x3) v l i := by
  obtain ⟨b, h1, h2⟩ := h.ex
  have hne : b ≠ B := fun e => by subst e; rw [h2] at hr; simp at hr
  exact ⟨⟨b, h1, by rw [Below.heap_setCell _ _ _ _ hne, Below.heap_setCell _ _ _ _ hne, Below.heap_setCell _ _ _ _ hne, Below.heap_setCell _ _ _ _ hne]; exact h2⟩⟩
def witName : ByteArray := ⟨#[119, 105, 116, 110, 101, 115, 115]⟩

set_option maxRecDepth 100000 in
theorem askedNo_any {p : Addr} {s : Lts} (h : ¬ s.Right) {a : Option Addr} {b off c : Nat} {w : World} (hG : GErr 0 p w) (hT : ErrType w) (hS : SlAt encE 3 w a b off s.es) (cv : Value) :
    Calls Tryd.prog 35 #[.agg #[.int .i64 s.st, .int .i64 s.lb, .int .i64 s.s0, .slice a s.es.length c], cv] w fun e w' =>
      ∃ v, e = .returned (.tuple #[.pointer none, v]) ∧ FaultOn witName w' p v ∧ Below w.heap.size w w' := by
  have hB0 := (Below.refl w.heap.size w).alloc (Nat.le_refl _) (Obj.cells #[.int .i64 s.st, .int .i64 s.lb, .int .i64 s.s0, .slice a s.es.length c] 24)
  have hN := new_no (c := c) h (hG.below hB0) (hS.below hB0 (Nat.le_refl _))
  have HN := Lib.hid hN; have HT := Lib.hid (hT.below hB0); have HB0 := Lib.hid hB0
  clear hN hT hB0 hS hG h
  go_enter Tryd.func35, Tryd.ntmps35
  go_wp2_with fail
  refine HN.out.mono ?_
  rintro e w1 ⟨v, rfl, hF, hB1⟩
  have HF := Lib.hid hF
  obtain ⟨fb, rfl, hfb⟩ := hF.ex
  have HT1 := Lib.hid (HT.out.below hB1)
  have HA := Lib.hid (faultAs_any witName HT1.out hfb)
  have HB1 := Lib.hid (HB0.out.trans (hB1.mono (by simp)))
  clear hB1 hfb hF
  go_wp2_with fail
  refine HA.out.mono ?_
  rintro e w2 ⟨v, rfl, hF2, hB2⟩
  have hf3 := HF.out.belowW hB2
  have HR : RowKit.Hid (FaultOn witName w2 p v) := Lib.hid ⟨_, hF2, hf3⟩
  have HB2 := Lib.hid (HB1.out.trans (hB2.mono HB1.out.size))
  clear hF2 hf3 hB2
  go_wp2
  go_ret2
  exact ⟨v, rfl, HR.out, HB2.out⟩

/-- These classes are none of s. -/
def NoCls (w : World) (s : Lts) (ev cv : Value) : Prop := ∀ W, Below w.heap.size w W → Calls Tryd.prog 74 #[.agg #[.int .i64 s.st, .int .i64 s.lb, .int .i64 s.s0, ev], cv] W fun e w' => e = .returned (.bool false) ∧ Below W.heap.size W w'
theorem NoCls.below {w w' : World} {s : Lts} {ev cv : Value} (h : NoCls w s ev cv) (hB : Below w.heap.size w w') : NoCls w' s ev cv := fun W hW => h W (hB.trans (hW.mono hB.size))
theorem noCls_of {w : World} {s : Lts} {ev : Value} {C : List Int} (hc : clB s.st C = false) {ca : Option Addr} {cb co cc : Nat} (hCS : SlAt encI 1 w ca cb co C) (hwf : ∀ x ∈ C, (Lit.int .i64 x).wf = true) (hn : C.length ≤ 1000000) : NoCls w s ev (.slice ca C.length cc) := fun W hW => by
  have h := classes_any (c := cc) s.st s.lb s.s0 ev (hCS.below hW (Nat.le_refl _)) hn hwf
  rw [hc] at h
  exact h
set_option maxRecDepth 100000 in
theorem noCls_len {w : World} {s : Lts} {ev : Value} {m : Nat} (hc : ¬ ((m : Int) = s.st)) {ca : Option Addr} {cc : Nat} : NoCls w s ev (.slice ca m cc) := fun W hW => by
  have hb : ((m : Int) == s.st) = false := by simp [hc]
  clear hc hW
  go_enter Tryd.func74, Tryd.ntmps74
  go_wp2
  go_ret
  exact ⟨rfl, (Below.refl _ _).alloc (Nat.le_refl _) _⟩

set_option maxRecDepth 100000 in
theorem askedBad_any {p pc : Addr} {s : Lts} (h : s.Right) {C : List Int} {a : Option Addr} {b off c : Nat} {ca : Option Addr} {cc : Nat} {w : World} (hG : GErr 0 p w) (hE : GErr 1 pc w) (hS : SlAt encE 3 w a b off s.es)
    (hq : NoCls w s (.slice a s.es.length c) (.slice ca C.length cc)) :
    Calls Tryd.prog 35 #[.agg #[.int .i64 s.st, .int .i64 s.lb, .int .i64 s.s0, .slice a s.es.length c], .slice ca C.length cc] w fun e w' =>
      ∃ v, e = .returned (.tuple #[.pointer none, v]) ∧ FaultAt w' v witName (.iface 208 (.pointer (some pc))) ∧ Below w.heap.size w w' := by
  have hB0 := (Below.refl w.heap.size w).alloc (Nat.le_refl _) (Obj.cells #[.int .i64 s.st, .int .i64 s.lb, .int .i64 s.s0, .slice a s.es.length c] 24)
  have hbx := heap_alloc_new w (Obj.cells #[.int .i64 s.st, .int .i64 s.lb, .int .i64 s.s0, .slice a s.es.length c] 24)
  have hN := new_ok (c := c) h (hG.below hB0) (hS.below hB0 (Nat.le_refl _))
  have HN := Lib.hid hN; have HB0 := Lib.hid hB0; have HE := Lib.hid hE; have HQ := Lib.hid hq; have HBX := Lib.hid hbx
  clear hN hB0 hS hG h hE hq hbx
  go_enter Tryd.func35, Tryd.ntmps35
  go_wp2_with fail
  refine HN.out.mono ?_
  rintro e w1 ⟨gb, rfl, hGr, hB1, _⟩
  have HB1 := Lib.hid (HB0.out.trans (hB1.mono (by simp)))
  have hx1 := (hB1.block w.heap.size (by simp)).trans HBX.out
  have x0 : w1.cell? ⟨w.heap.size, 0, none⟩ = some (.int .i64 s.st) := by simp [World.cell?, hx1]
  have x1 : w1.cell? ⟨w.heap.size, 1, none⟩ = some (.int .i64 s.lb) := by simp [World.cell?, hx1]
  have x2 : w1.cell? ⟨w.heap.size, 2, none⟩ = some (.int .i64 s.s0) := by simp [World.cell?, hx1]
  have x3 : w1.cell? ⟨w.heap.size, 3, none⟩ = some (.slice a s.es.length c) := by simp [World.cell?, hx1]
  have xl := (Array.getElem?_eq_some_iff.1 hx1).1
  clear hB1 hGr hx1 HBX
  go_wp2_with fail
  refine (HQ.out _ HB1.out).mono ?_
  rintro e w2 ⟨rfl, hB2⟩
  have HB2 := Lib.hid (HB1.out.trans (hB2.mono HB1.out.size))
  have hg := (HE.out.below HB2.out).cell
  have hgl := (HE.out.below HB2.out).lt
  clear hB2 x0 x1 x2 x3 xl
  go_wp2_with fail
  refine (faultNew_any _ _ _ _).mono ?_
  rintro e w3 ⟨rfl, rfl⟩
  go_wp2
  go_ret2
  exact ⟨_, rfl, ⟨⟨_, rfl, heap_alloc_new w2 _⟩⟩, HB2.out.alloc HB2.out.size _⟩

set_option maxRecDepth 100000 in
theorem askedYes_any {p : Addr} {s : Lts} (h : s.Right) {C : List Int} (hc : clB s.st C = true) {a : Option Addr} {b off c : Nat} {ca : Option Addr} {cb co cc : Nat} {w : World} (hG : GErr 0 p w) (hS : SlAt encE 3 w a b off s.es)
    (hCS : SlAt encI 1 w ca cb co C) (hn : C.length ≤ 1000000) (hwf : ∀ x ∈ C, (Lit.int .i64 x).wf = true) :
    Calls Tryd.prog 35 #[.agg #[.int .i64 s.st, .int .i64 s.lb, .int .i64 s.s0, .slice a s.es.length c], .slice ca C.length cc] w fun e w' =>
      ∃ gb, e = .returned (.tuple #[.pointer (some ⟨gb, 0, none⟩), .nilIface]) ∧ GraphAt w' gb s.norm ∧ Below w.heap.size w w' := by
  have hB0 := (Below.refl w.heap.size w).alloc (Nat.le_refl _) (Obj.cells #[.int .i64 s.st, .int .i64 s.lb, .int .i64 s.s0, .slice a s.es.length c] 24)
  have hbx := heap_alloc_new w (Obj.cells #[.int .i64 s.st, .int .i64 s.lb, .int .i64 s.s0, .slice a s.es.length c] 24)
  have hN := new_ok (c := c) h (hG.below hB0) (hS.below hB0 (Nat.le_refl _))
  have HN := Lib.hid hN; have HB0 := Lib.hid hB0; have HCS := Lib.hid hCS; have HWF := Lib.hid hwf; have HC := Lib.hid hc; have HBX := Lib.hid hbx
  clear hN hB0 hS hG h hCS hwf hc hbx
  go_enter Tryd.func35, Tryd.ntmps35
  go_wp2_with fail
  refine HN.out.mono ?_
  rintro e w1 ⟨gb, rfl, hGr, hB1, _⟩
  have HB1 := Lib.hid (HB0.out.trans (hB1.mono (by simp)))
  have HGR := Lib.hid hGr
  have hx1 := (hB1.block w.heap.size (by simp)).trans HBX.out
  have x0 : w1.cell? ⟨w.heap.size, 0, none⟩ = some (.int .i64 s.st) := by simp [World.cell?, hx1]
  have x1 : w1.cell? ⟨w.heap.size, 1, none⟩ = some (.int .i64 s.lb) := by simp [World.cell?, hx1]
  have x2 : w1.cell? ⟨w.heap.size, 2, none⟩ = some (.int .i64 s.s0) := by simp [World.cell?, hx1]
  have x3 : w1.cell? ⟨w.heap.size, 3, none⟩ = some (.slice a s.es.length c) := by simp [World.cell?, hx1]
  have xl := (Array.getElem?_eq_some_iff.1 hx1).1
  clear hB1 hGr hx1 HBX
  go_wp2_with fail
  refine (classes_any s.st s.lb s.s0 (.slice a s.es.length c) (HCS.out.below HB1.out (Nat.le_refl _)) hn HWF.out).mono ?_
  rintro e w2 ⟨rfl, hB2⟩
  rw [HC.out]
  have HB2 := Lib.hid (HB1.out.trans (hB2.mono HB1.out.size))
  have HG2 := Lib.hid (HGR.out.below hB2)
  clear hB2 x0 x1 x2 x3 xl HGR
  go_wp2
  go_ret2
  exact ⟨gb, rfl, HG2.out, HB2.out⟩
end Go.Proofs.YtbbjmompbmgnmaaDoor

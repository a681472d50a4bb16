/-
  Lemmas.
-/
import Derived.Test.YtffjcehopoaboaaGreatDoorGWitF
import Derived.Shelf.Abstract
namespace Go.Proofs.YtffjcehopoaboaaGreatDoor
open Go.RowKit Pl
open Lib (hid)
theorem WalkE.shape {s : Lts} {n : Nat} {C : List Int} {D : Nat → List S} {e : Ending} (h : WalkE s n C D e) : ∃ (a b c d : Int) (r : Bool), e = .returned (.tuple #[.agg #[.int .i64 a, .int .i64 b, .int .i64 c, .int .i64 d], .bool r, .nilIface]) := by
  rcases h with ⟨p, q, x, _, _, _, _, _, rfl⟩ | ⟨_, rfl⟩
  · exact ⟨_, _, _, _, _, rfl⟩
  · exact ⟨_, _, _, _, _, rfl⟩
theorem cls_of {s : Lts} {C : List Int} (hc : clB s.st C = true) (hwf : ∀ x ∈ C, (Lit.int .i64 x).wf = true) : Cls s.norm C.length C :=
  ⟨rfl, by unfold clB at hc; simp at hc; exact hc.1.symm, hwf⟩
set_option maxRecDepth 100000 in
theorem strongNo_any {p : Addr} {s : Lts} {C : List Int} (h : ¬ s.Right) {a : Option Addr} {b off c : Nat} {ca : Option Addr} {cc : Nat} {w : World} (hG : GErr 16 p w) (hT : ErrType w) (hS : SlAt encE 3 w a b off s.es) :
    Calls Tryz.prog 26 #[.agg #[.int .i64 s.st, .int .i64 s.lb, .int .i64 s.s0, .slice a s.es.length c], .slice ca C.length cc] w fun e w' => ∃ v, e = .returned (.tuple #[.agg #[.int .i64 0, .int .i64 0, .int .i64 0, .int .i64 0], .bool false, v]) ∧ FaultOn witName w' p v ∧ Below w.heap.size w w' := by
  have hB0 := ((Below.refl w.heap.size w).alloc (Nat.le_refl _) (Obj.cells #[.int .i64 s.st, .int .i64 s.lb, .int .i64 s.s0, .slice a s.es.length c] 24)).alloc (by simp) (Obj.cells #[.int .i64 0, .int .i64 0, .int .i64 0, .int .i64 0] 67)
  have hz0 := heap_alloc_new (w.alloc (Obj.cells #[.int .i64 s.st, .int .i64 s.lb, .int .i64 s.s0, .slice a s.es.length c] 24)) (Obj.cells #[.int .i64 0, .int .i64 0, .int .i64 0, .int .i64 0] 67)
  rw [show (w.alloc (Obj.cells #[.int .i64 s.st, .int .i64 s.lb, .int .i64 s.s0, .slice a s.es.length c] 24)).heap.size = w.heap.size + 1 by simp] at hz0
  have HA := hid (askedNo_any (c := c) h (hG.below hB0) (hT.below hB0) (hS.below hB0 (Nat.le_refl _)) (.slice ca C.length cc))
  have HB0 := hid hB0; have HZ0 := hid hz0
  clear hB0 hz0 hG hS h hT
  go_enter Tryz.func26, Tryz.ntmps26
  go_wp2_with fail
  refine HA.out.mono ?_
  rintro e w1 ⟨v, rfl, hF, hB1⟩
  obtain ⟨vi, hF1, hF2⟩ := id hF
  obtain ⟨fb, rfl, hfb⟩ := hF1.ex
  have hr := (hB1.block (w.heap.size + 1) (by simp)).trans HZ0.out
  have f0 : w1.cell? ⟨w.heap.size + 1, 0, none⟩ = some (.int .i64 0) := by simp [World.cell?, hr]
  have f1 : w1.cell? ⟨w.heap.size + 1, 1, none⟩ = some (.int .i64 0) := by simp [World.cell?, hr]
  have f2 : w1.cell? ⟨w.heap.size + 1, 2, none⟩ = some (.int .i64 0) := by simp [World.cell?, hr]
  have f3 : w1.cell? ⟨w.heap.size + 1, 3, none⟩ = some (.int .i64 0) := by simp [World.cell?, hr]
  have z0 : w1.frozen? ⟨w.heap.size + 1, 0, none⟩ = false := by simp [World.frozen?, hr]
  have z1 : w1.frozen? ⟨w.heap.size + 1, 1, none⟩ = false := by simp [World.frozen?, hr]
  have z2 : w1.frozen? ⟨w.heap.size + 1, 2, none⟩ = false := by simp [World.frozen?, hr]
  have z3 : w1.frozen? ⟨w.heap.size + 1, 3, none⟩ = false := by simp [World.frozen?, hr]
  have fl := (Array.getElem?_eq_some_iff.1 hr).1
  have HB1 := hid (HB0.out.trans (hB1.mono (by simp; omega)))
  have HF := hid hF; have HR := hid hr
  clear hB1 hr hF hfb hF1 hF2 HA HZ0
  go_wp2_with fail
  refine bodyPost_ret (v := .tuple #[.agg #[.int .i64 0, .int .i64 0, .int .i64 0, .int .i64 0], .bool false, .iface 95 (.pointer (some ⟨fb, 0, none⟩))]) (by simp [results, Tryz.results26, go_sem, f0, f1, f2, f3]) rfl ⟨_, rfl, ?_, ?_⟩
  · obtain ⟨vi, h1, h2⟩ := HF.out
    exact ⟨vi, h1.set4 HR.out _ _ _ _, h2.set4 HR.out _ _ _ _⟩
  · exact (((HB1.out.setCell (Nat.le_succ _) _).setCell (Nat.le_succ _) _).setCell (Nat.le_succ _) _).setCell (Nat.le_succ _) _
set_option maxRecDepth 100000 in
theorem strongBad_any {p pc : Addr} {s : Lts} {C : List Int} (h : s.Right) {a : Option Addr} {b off c : Nat} {ca : Option Addr} {cc : Nat} {w : World} (hG : GErr 16 p w) (hE : GErr 11 pc w) (hS : SlAt encE 3 w a b off s.es) (hq : NoCls w s (.slice a s.es.length c) (.slice ca C.length cc)) :
    Calls Tryz.prog 26 #[.agg #[.int .i64 s.st, .int .i64 s.lb, .int .i64 s.s0, .slice a s.es.length c], .slice ca C.length cc] w fun e w' => ∃ v, e = .returned (.tuple #[.agg #[.int .i64 0, .int .i64 0, .int .i64 0, .int .i64 0], .bool false, v]) ∧ FaultAt w' v witName (.iface 304 (.pointer (some pc))) ∧ Below w.heap.size w w' := by
  have hB0 := ((Below.refl w.heap.size w).alloc (Nat.le_refl _) (Obj.cells #[.int .i64 s.st, .int .i64 s.lb, .int .i64 s.s0, .slice a s.es.length c] 24)).alloc (by simp) (Obj.cells #[.int .i64 0, .int .i64 0, .int .i64 0, .int .i64 0] 67)
  have hz0 := heap_alloc_new (w.alloc (Obj.cells #[.int .i64 s.st, .int .i64 s.lb, .int .i64 s.s0, .slice a s.es.length c] 24)) (Obj.cells #[.int .i64 0, .int .i64 0, .int .i64 0, .int .i64 0] 67)
  rw [show (w.alloc (Obj.cells #[.int .i64 s.st, .int .i64 s.lb, .int .i64 s.s0, .slice a s.es.length c] 24)).heap.size = w.heap.size + 1 by simp] at hz0
  have HA := hid (askedBad_any (c := c) (cc := cc) h (hG.below hB0) (hE.below hB0) (hS.below hB0 (Nat.le_refl _)) (hq.below hB0))
  have HB0 := hid hB0; have HZ0 := hid hz0
  clear hB0 hz0 hG hS h hE hq
  go_enter Tryz.func26, Tryz.ntmps26
  go_wp2_with fail
  refine HA.out.mono ?_
  rintro e w1 ⟨v, rfl, hF, hB1⟩
  obtain ⟨fb, rfl, hfb⟩ := hF.ex
  have hr := (hB1.block (w.heap.size + 1) (by simp)).trans HZ0.out
  have f0 : w1.cell? ⟨w.heap.size + 1, 0, none⟩ = some (.int .i64 0) := by simp [World.cell?, hr]
  have f1 : w1.cell? ⟨w.heap.size + 1, 1, none⟩ = some (.int .i64 0) := by simp [World.cell?, hr]
  have f2 : w1.cell? ⟨w.heap.size + 1, 2, none⟩ = some (.int .i64 0) := by simp [World.cell?, hr]
  have f3 : w1.cell? ⟨w.heap.size + 1, 3, none⟩ = some (.int .i64 0) := by simp [World.cell?, hr]
  have z0 : w1.frozen? ⟨w.heap.size + 1, 0, none⟩ = false := by simp [World.frozen?, hr]
  have z1 : w1.frozen? ⟨w.heap.size + 1, 1, none⟩ = false := by simp [World.frozen?, hr]
  have z2 : w1.frozen? ⟨w.heap.size + 1, 2, none⟩ = false := by simp [World.frozen?, hr]
  have z3 : w1.frozen? ⟨w.heap.size + 1, 3, none⟩ = false := by simp [World.frozen?, hr]
  have fl := (Array.getElem?_eq_some_iff.1 hr).1
  have HB1 := hid (HB0.out.trans (hB1.mono (by simp; omega)))
  have HF := hid hF; have HR := hid hr
  clear hB1 hr hF hfb HA HZ0
  go_wp2_with fail
  refine bodyPost_ret (v := .tuple #[.agg #[.int .i64 0, .int .i64 0, .int .i64 0, .int .i64 0], .bool false, .iface 95 (.pointer (some ⟨fb, 0, none⟩))]) (by simp [results, Tryz.results26, go_sem, f0, f1, f2, f3]) rfl ⟨_, rfl, ?_, ?_⟩
  · exact HF.out.set4 HR.out _ _ _ _
  · exact (((HB1.out.setCell (Nat.le_succ _) _).setCell (Nat.le_succ _) _).setCell (Nat.le_succ _) _).setCell (Nat.le_succ _) _
set_option maxRecDepth 100000 in
theorem strongYes_any {p : Addr} {s : Lts} {C : List Int} (h : s.Right) (hc : clB s.st C = true) {a : Option Addr} {b off c : Nat} {ca : Option Addr} {cb co cc : Nat} {w : World} (hG : GErr 16 p w) (hS : SlAt encE 3 w a b off s.es) (hCS : SlAt encI 1 w ca cb co C) (hn : C.length ≤ 1000000) (hwf : ∀ x ∈ C, (Lit.int .i64 x).wf = true) :
    Calls Tryz.prog 26 #[.agg #[.int .i64 s.st, .int .i64 s.lb, .int .i64 s.s0, .slice a s.es.length c], .slice ca C.length cc] w fun e w' => WalkE s.norm C.length C (fun q => plainD s.norm C (q : Int)) e ∧ Below w.heap.size w w' := by
  have hB0 := ((Below.refl w.heap.size w).alloc (Nat.le_refl _) (Obj.cells #[.int .i64 s.st, .int .i64 s.lb, .int .i64 s.s0, .slice a s.es.length c] 24)).alloc (by simp) (Obj.cells #[.int .i64 0, .int .i64 0, .int .i64 0, .int .i64 0] 67)
  have hz0 := heap_alloc_new (w.alloc (Obj.cells #[.int .i64 s.st, .int .i64 s.lb, .int .i64 s.s0, .slice a s.es.length c] 24)) (Obj.cells #[.int .i64 0, .int .i64 0, .int .i64 0, .int .i64 0] 67)
  rw [show (w.alloc (Obj.cells #[.int .i64 s.st, .int .i64 s.lb, .int .i64 s.s0, .slice a s.es.length c] 24)).heap.size = w.heap.size + 1 by simp] at hz0
  have HA := hid (askedYes_any (c := c) (cc := cc) h hc (hG.below hB0) (hS.below hB0 (Nat.le_refl _)) (hCS.below hB0 (Nat.le_refl _)) hn hwf)
  have HB0 := hid hB0; have HZ0 := hid hz0; have HCS := hid hCS; have HCL := hid (cls_of hc hwf)
  clear hB0 hz0 hG hS h hc hCS hn hwf
  go_enter Tryz.func26, Tryz.ntmps26
  go_wp2_with fail
  refine HA.out.mono ?_
  rintro e w1 ⟨gb, rfl, hGr, hB1⟩
  have hr := (hB1.block (w.heap.size + 1) (by simp)).trans HZ0.out
  have HB1 := hid (HB0.out.trans (hB1.mono (by simp; omega)))
  have HH := hid hGr; have HR := hid hr
  clear hB1 hr hGr HA HZ0
  go_wp2_with fail
  have hwk : Calls Tryz.prog 100 #[.pointer (some ⟨gb, 0, none⟩), .slice ca C.length cc, .func (.func 101) #[] #[]] w1 fun e w' => WalkE s.norm C.length C (fun q => plainD s.norm C (q : Int)) e ∧ Below w1.heap.size w1 w' :=
    walk_any HH.out HCL.out (HCS.out.below HB1.out (Nat.le_refl _)) (enters_of Tryz.func101 (by kernel_rfl) rfl) (fun W q hq pb mb f hnt => by
      have hcl := HCL.out
      have hcs := HCS.out.below HB1.out (Nat.le_refl _)
      exact plain_any HH.out hcl hcs hnt (q : Int))
  refine hwk.mono ?_
  rintro e w2 ⟨hW, hB2⟩
  obtain ⟨a0, a1, a2, a3, r, rfl⟩ := hW.shape
  have HW := hid hW
  have hr2 := (hB2.block (w.heap.size + 1) (Array.getElem?_eq_some_iff.1 HR.out).1).trans HR.out
  have f0 : w2.cell? ⟨w.heap.size + 1, 0, none⟩ = some (.int .i64 0) := by simp [World.cell?, hr2]
  have f1 : w2.cell? ⟨w.heap.size + 1, 1, none⟩ = some (.int .i64 0) := by simp [World.cell?, hr2]
  have f2 : w2.cell? ⟨w.heap.size + 1, 2, none⟩ = some (.int .i64 0) := by simp [World.cell?, hr2]
  have f3 : w2.cell? ⟨w.heap.size + 1, 3, none⟩ = some (.int .i64 0) := by simp [World.cell?, hr2]
  have z0 : w2.frozen? ⟨w.heap.size + 1, 0, none⟩ = false := by simp [World.frozen?, hr2]
  have z1 : w2.frozen? ⟨w.heap.size + 1, 1, none⟩ = false := by simp [World.frozen?, hr2]
  have z2 : w2.frozen? ⟨w.heap.size + 1, 2, none⟩ = false := by simp [World.frozen?, hr2]
  have z3 : w2.frozen? ⟨w.heap.size + 1, 3, none⟩ = false := by simp [World.frozen?, hr2]
  have fl := (Array.getElem?_eq_some_iff.1 hr2).1
  have HB2 := hid (HB1.out.trans (hB2.mono HB1.out.size))
  clear hW hB2 hr2 hwk
  go_wp2_with fail
  refine bodyPost_ret (v := .tuple #[.agg #[.int .i64 a0, .int .i64 a1, .int .i64 a2, .int .i64 a3], .bool r, .nilIface]) (by simp [results, Tryz.results26, go_sem, f0, f1, f2, f3]) rfl ⟨HW.out, ?_⟩
  exact (((HB2.out.setCell (Nat.le_succ _) _).setCell (Nat.le_succ _) _).setCell (Nat.le_succ _) _).setCell (Nat.le_succ _) _
set_option maxRecDepth 100000 in
theorem branchingNo_any {p : Addr} {s : Lts} {C : List Int} (h : ¬ s.Right) {a : Option Addr} {b off c : Nat} {ca : Option Addr} {cc : Nat} {w : World} (hG : GErr 16 p w) (hT : ErrType w) (hS : SlAt encE 3 w a b off s.es) :
    Calls Tryz.prog 27 #[.agg #[.int .i64 s.st, .int .i64 s.lb, .int .i64 s.s0, .slice a s.es.length c], .slice ca C.length cc] w fun e w' => ∃ v, e = .returned (.tuple #[.agg #[.int .i64 0, .int .i64 0, .int .i64 0, .int .i64 0], .bool false, v]) ∧ FaultOn witName w' p v ∧ Below w.heap.size w w' := by
  have hB0 := ((Below.refl w.heap.size w).alloc (Nat.le_refl _) (Obj.cells #[.int .i64 s.st, .int .i64 s.lb, .int .i64 s.s0, .slice a s.es.length c] 24)).alloc (by simp) (Obj.cells #[.int .i64 0, .int .i64 0, .int .i64 0, .int .i64 0] 67)
  have hz0 := heap_alloc_new (w.alloc (Obj.cells #[.int .i64 s.st, .int .i64 s.lb, .int .i64 s.s0, .slice a s.es.length c] 24)) (Obj.cells #[.int .i64 0, .int .i64 0, .int .i64 0, .int .i64 0] 67)
  rw [show (w.alloc (Obj.cells #[.int .i64 s.st, .int .i64 s.lb, .int .i64 s.s0, .slice a s.es.length c] 24)).heap.size = w.heap.size + 1 by simp] at hz0
  have HA := hid (askedNo_any (c := c) h (hG.below hB0) (hT.below hB0) (hS.below hB0 (Nat.le_refl _)) (.slice ca C.length cc))
  have HB0 := hid hB0; have HZ0 := hid hz0
  clear hB0 hz0 hG hS h hT
  go_enter Tryz.func27, Tryz.ntmps27
  go_wp2_with fail
  refine HA.out.mono ?_
  rintro e w1 ⟨v, rfl, hF, hB1⟩
  obtain ⟨vi, hF1, hF2⟩ := id hF
  obtain ⟨fb, rfl, hfb⟩ := hF1.ex
  have hr := (hB1.block (w.heap.size + 1) (by simp)).trans HZ0.out
  have f0 : w1.cell? ⟨w.heap.size + 1, 0, none⟩ = some (.int .i64 0) := by simp [World.cell?, hr]
  have f1 : w1.cell? ⟨w.heap.size + 1, 1, none⟩ = some (.int .i64 0) := by simp [World.cell?, hr]
  have f2 : w1.cell? ⟨w.heap.size + 1, 2, none⟩ = some (.int .i64 0) := by simp [World.cell?, hr]
  have f3 : w1.cell? ⟨w.heap.size + 1, 3, none⟩ = some (.int .i64 0) := by simp [World.cell?, hr]
  have z0 : w1.frozen? ⟨w.heap.size + 1, 0, none⟩ = false := by simp [World.frozen?, hr]
  have z1 : w1.frozen? ⟨w.heap.size + 1, 1, none⟩ = false := by simp [World.frozen?, hr]
  have z2 : w1.frozen? ⟨w.heap.size + 1, 2, none⟩ = false := by simp [World.frozen?, hr]
  have z3 : w1.frozen? ⟨w.heap.size + 1, 3, none⟩ = false := by simp [World.frozen?, hr]
  have fl := (Array.getElem?_eq_some_iff.1 hr).1
  have HB1 := hid (HB0.out.trans (hB1.mono (by simp; omega)))
  have HF := hid hF; have HR := hid hr
  clear hB1 hr hF hfb hF1 hF2 HA HZ0
  go_wp2_with fail
  refine bodyPost_ret (v := .tuple #[.agg #[.int .i64 0, .int .i64 0, .int .i64 0, .int .i64 0], .bool false, .iface 95 (.pointer (some ⟨fb, 0, none⟩))]) (by simp [results, Tryz.results27, go_sem, f0, f1, f2, f3]) rfl ⟨_, rfl, ?_, ?_⟩
  · obtain ⟨vi, h1, h2⟩ := HF.out
    exact ⟨vi, h1.set4 HR.out _ _ _ _, h2.set4 HR.out _ _ _ _⟩
  · exact (((HB1.out.setCell (Nat.le_succ _) _).setCell (Nat.le_succ _) _).setCell (Nat.le_succ _) _).setCell (Nat.le_succ _) _
set_option maxRecDepth 100000 in
theorem branchingBad_any {p pc : Addr} {s : Lts} {C : List Int} (h : s.Right) {a : Option Addr} {b off c : Nat} {ca : Option Addr} {cc : Nat} {w : World} (hG : GErr 16 p w) (hE : GErr 11 pc w) (hS : SlAt encE 3 w a b off s.es) (hq : NoCls w s (.slice a s.es.length c) (.slice ca C.length cc)) :
    Calls Tryz.prog 27 #[.agg #[.int .i64 s.st, .int .i64 s.lb, .int .i64 s.s0, .slice a s.es.length c], .slice ca C.length cc] w fun e w' => ∃ v, e = .returned (.tuple #[.agg #[.int .i64 0, .int .i64 0, .int .i64 0, .int .i64 0], .bool false, v]) ∧ FaultAt w' v witName (.iface 304 (.pointer (some pc))) ∧ Below w.heap.size w w' := by
  have hB0 := ((Below.refl w.heap.size w).alloc (Nat.le_refl _) (Obj.cells #[.int .i64 s.st, .int .i64 s.lb, .int .i64 s.s0, .slice a s.es.length c] 24)).alloc (by simp) (Obj.cells #[.int .i64 0, .int .i64 0, .int .i64 0, .int .i64 0] 67)
  have hz0 := heap_alloc_new (w.alloc (Obj.cells #[.int .i64 s.st, .int .i64 s.lb, .int .i64 s.s0, .slice a s.es.length c] 24)) (Obj.cells #[.int .i64 0, .int .i64 0, .int .i64 0, .int .i64 0] 67)
  rw [show (w.alloc (Obj.cells #[.int .i64 s.st, .int .i64 s.lb, .int .i64 s.s0, .slice a s.es.length c] 24)).heap.size = w.heap.size + 1 by simp] at hz0
  have HA := hid (askedBad_any (c := c) (cc := cc) h (hG.below hB0) (hE.below hB0) (hS.below hB0 (Nat.le_refl _)) (hq.below hB0))
  have HB0 := hid hB0; have HZ0 := hid hz0
  clear hB0 hz0 hG hS h hE hq
  go_enter Tryz.func27, Tryz.ntmps27
  go_wp2_with fail
  refine HA.out.mono ?_
  rintro e w1 ⟨v, rfl, hF, hB1⟩
  obtain ⟨fb, rfl, hfb⟩ := hF.ex
  have hr := (hB1.block (w.heap.size + 1) (by simp)).trans HZ0.out
  have f0 : w1.cell? ⟨w.heap.size + 1, 0, none⟩ = some (.int .i64 0) := by simp [World.cell?, hr]
  have f1 : w1.cell? ⟨w.heap.size + 1, 1, none⟩ = some (.int .i64 0) := by simp [World.cell?, hr]
  have f2 : w1.cell? ⟨w.heap.size + 1, 2, none⟩ = some (.int .i64 0) := by simp [World.cell?, hr]
  have f3 : w1.cell? ⟨w.heap.size + 1, 3, none⟩ = some (.int .i64 0) := by simp [World.cell?, hr]
  have z0 : w1.frozen? ⟨w.heap.size + 1, 0, none⟩ = false := by simp [World.frozen?, hr]
  have z1 : w1.frozen? ⟨w.heap.size + 1, 1, none⟩ = false := by simp [World.frozen?, hr]
  have z2 : w1.frozen? ⟨w.heap.size + 1, 2, none⟩ = false := by simp [World.frozen?, hr]
  have z3 : w1.frozen? ⟨w.heap.size + 1, 3, none⟩ = false := by simp [World.frozen?, hr]
  have fl := (Array.getElem?_eq_some_iff.1 hr).1
  have HB1 := hid (HB0.out.trans (hB1.mono (by simp; omega)))
  have HF := hid hF; have HR := hid hr
  clear hB1 hr hF hfb HA HZ0
  go_wp2_with fail
  refine bodyPost_ret (v := .tuple #[.agg #[.int .i64 0, .int .i64 0, .int .i64 0, .int .i64 0], .bool false, .iface 95 (.pointer (some ⟨fb, 0, none⟩))]) (by simp [results, Tryz.results27, go_sem, f0, f1, f2, f3]) rfl ⟨_, rfl, ?_, ?_⟩
  · exact HF.out.set4 HR.out _ _ _ _
  · exact (((HB1.out.setCell (Nat.le_succ _) _).setCell (Nat.le_succ _) _).setCell (Nat.le_succ _) _).setCell (Nat.le_succ _) _
set_option maxRecDepth 100000 in
theorem branchingYes_any {p : Addr} {s : Lts} {C : List Int} (h : s.Right) (hc : clB s.st C = true) {a : Option Addr} {b off c : Nat} {ca : Option Addr} {cb co cc : Nat} {w : World} (hG : GErr 16 p w) (hS : SlAt encE 3 w a b off s.es) (hCS : SlAt encI 1 w ca cb co C) (hn : C.length ≤ 1000000) (hwf : ∀ x ∈ C, (Lit.int .i64 x).wf = true) :
    Calls Tryz.prog 27 #[.agg #[.int .i64 s.st, .int .i64 s.lb, .int .i64 s.s0, .slice a s.es.length c], .slice ca C.length cc] w fun e w' => WalkE s.norm C.length C (fun q => lateD s.norm C q) e ∧ Below w.heap.size w w' := by
  have hB0 := ((Below.refl w.heap.size w).alloc (Nat.le_refl _) (Obj.cells #[.int .i64 s.st, .int .i64 s.lb, .int .i64 s.s0, .slice a s.es.length c] 24)).alloc (by simp) (Obj.cells #[.int .i64 0, .int .i64 0, .int .i64 0, .int .i64 0] 67)
  have hz0 := heap_alloc_new (w.alloc (Obj.cells #[.int .i64 s.st, .int .i64 s.lb, .int .i64 s.s0, .slice a s.es.length c] 24)) (Obj.cells #[.int .i64 0, .int .i64 0, .int .i64 0, .int .i64 0] 67)
  rw [show (w.alloc (Obj.cells #[.int .i64 s.st, .int .i64 s.lb, .int .i64 s.s0, .slice a s.es.length c] 24)).heap.size = w.heap.size + 1 by simp] at hz0
  have HA := hid (askedYes_any (c := c) (cc := cc) h hc (hG.below hB0) (hS.below hB0 (Nat.le_refl _)) (hCS.below hB0 (Nat.le_refl _)) hn hwf)
  have HB0 := hid hB0; have HZ0 := hid hz0; have HCS := hid hCS; have HCL := hid (cls_of hc hwf)
  clear hB0 hz0 hG hS h hc hCS hn hwf
  go_enter Tryz.func27, Tryz.ntmps27
  go_wp2_with fail
  refine HA.out.mono ?_
  rintro e w1 ⟨gb, rfl, hGr, hB1⟩
  have hr := (hB1.block (w.heap.size + 1) (by simp)).trans HZ0.out
  have HB1 := hid (HB0.out.trans (hB1.mono (by simp; omega)))
  have HH := hid hGr; have HR := hid hr
  clear hB1 hr hGr HA HZ0
  go_wp2_with fail
  have hwk : Calls Tryz.prog 100 #[.pointer (some ⟨gb, 0, none⟩), .slice ca C.length cc, .func (.func 102) #[] #[]] w1 fun e w' => WalkE s.norm C.length C (fun q => lateD s.norm C q) e ∧ Below w1.heap.size w1 w' :=
    walk_any HH.out HCL.out (HCS.out.below HB1.out (Nat.le_refl _)) (enters_of Tryz.func102 (by kernel_rfl) rfl) (fun W q hq pb mb f hnt => by
      have hcl := HCL.out
      have hcs := HCS.out.below HB1.out (Nat.le_refl _)
      exact late_any HH.out hcl hcs hnt hq)
  refine hwk.mono ?_
  rintro e w2 ⟨hW, hB2⟩
  obtain ⟨a0, a1, a2, a3, r, rfl⟩ := hW.shape
  have HW := hid hW
  have hr2 := (hB2.block (w.heap.size + 1) (Array.getElem?_eq_some_iff.1 HR.out).1).trans HR.out
  have f0 : w2.cell? ⟨w.heap.size + 1, 0, none⟩ = some (.int .i64 0) := by simp [World.cell?, hr2]
  have f1 : w2.cell? ⟨w.heap.size + 1, 1, none⟩ = some (.int .i64 0) := by simp [World.cell?, hr2]
  have f2 : w2.cell? ⟨w.heap.size + 1, 2, none⟩ = some (.int .i64 0) := by simp [World.cell?, hr2]
  have f3 : w2.cell? ⟨w.heap.size + 1, 3, none⟩ = some (.int .i64 0) := by simp [World.cell?, hr2]
  have z0 : w2.frozen? ⟨w.heap.size + 1, 0, none⟩ = false := by simp [World.frozen?, hr2]
  have z1 : w2.frozen? ⟨w.heap.size + 1, 1, none⟩ = false := by simp [World.frozen?, hr2]
  have z2 : w2.frozen? ⟨w.heap.size + 1, 2, none⟩ = false := by simp [World.frozen?, hr2]
  have z3 : w2.frozen? ⟨w.heap.size + 1, 3, none⟩ = false := by simp [World.frozen?, hr2]
  have fl := (Array.getElem?_eq_some_iff.1 hr2).1
  have HB2 := hid (HB1.out.trans (hB2.mono HB1.out.size))
  clear hW hB2 hr2 hwk
  go_wp2_with fail
  refine bodyPost_ret (v := .tuple #[.agg #[.int .i64 a0, .int .i64 a1, .int .i64 a2, .int .i64 a3], .bool r, .nilIface]) (by simp [results, Tryz.results27, go_sem, f0, f1, f2, f3]) rfl ⟨HW.out, ?_⟩
  exact (((HB2.out.setCell (Nat.le_succ _) _).setCell (Nat.le_succ _) _).setCell (Nat.le_succ _) _).setCell (Nat.le_succ _) _
end Go.Proofs.YtffjcehopoaboaaGreatDoor

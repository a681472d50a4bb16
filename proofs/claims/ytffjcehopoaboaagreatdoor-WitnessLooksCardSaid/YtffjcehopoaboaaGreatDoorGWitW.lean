/-
  Lemmas.
-/
import Derived.Test.YtffjcehopoaboaaGreatDoorWitH
import Derived.Test.YtffjcehopoaboaaGreatDoorGWitLp
import Derived.Test.YtffjcehopoaboaaGreatDoorRefLook
import Derived.Test.YtffjcehopoaboaaGreatDoorGRefGd19
import Derived.Test.YtffjcehopoaboaaGreatDoorTold
import Derived.Test.YtffjcehopoaboaaGreatDoorGLent
namespace Go.Proofs.YtffjcehopoaboaaGreatDoor
open Go.RowKit Pl
open Lib (hid)
set_option maxRecDepth 100000 in
theorem weakNo_any {p : Addr} {s : Lts} {C : List Int} (h : ¬ s.Right) {a : Option Addr} {b off c : Nat} {ca : Option Addr} {cc : Nat} {w : World} (hG : GErr 16 p w) (hT : ErrType w) (hS : SlAt encE 3 w a b off s.es) :
    Calls Tryz.prog 28 #[.agg #[.int .i64 s.st, .int .i64 s.lb, .int .i64 s.s0, .slice a s.es.length c], .slice ca C.length cc] w fun e w' => ∃ v, e = .returned (.tuple #[.agg #[.int .i64 0, .int .i64 0, .int .i64 0, .int .i64 0], .bool false, v]) ∧ FaultOn witName w' p v ∧ Below w.heap.size w w' := by
  have hB0 := ((Below.refl w.heap.size w).alloc (Nat.le_refl _) (Obj.cells #[.int .i64 s.st, .int .i64 s.lb, .int .i64 s.s0, .slice a s.es.length c] 24)).alloc (by simp) (Obj.cells #[.int .i64 0, .int .i64 0, .int .i64 0, .int .i64 0] 67)
  have hz0 := heap_alloc_new (w.alloc (Obj.cells #[.int .i64 s.st, .int .i64 s.lb, .int .i64 s.s0, .slice a s.es.length c] 24)) (Obj.cells #[.int .i64 0, .int .i64 0, .int .i64 0, .int .i64 0] 67)
  rw [show (w.alloc (Obj.cells #[.int .i64 s.st, .int .i64 s.lb, .int .i64 s.s0, .slice a s.es.length c] 24)).heap.size = w.heap.size + 1 by simp] at hz0
  have HA := hid (askedNo_any (c := c) h (hG.below hB0) (hT.below hB0) (hS.below hB0 (Nat.le_refl _)) (.slice ca C.length cc))
  have HB0 := hid hB0; have HZ0 := hid hz0
  clear hB0 hz0 hG hS h hT
  go_enter Tryz.func28, Tryz.ntmps28
  go_wp2_with fail
  refine HA.out.mono ?_
  rintro e w1 ⟨v, rfl, hF, hB1⟩
  obtain ⟨vi, hF1, hF2⟩ := id hF
  obtain ⟨fb, rfl, hfb⟩ := hF1.ex
  have hr := (hB1.block (w.heap.size + 1) (by simp)).trans HZ0.out
  have f0 : w1.cell? ⟨w.heap.size + 1, 0, none⟩ = some (.int .i64 0) := by simp [World.cell?, hr]
  have f1 : w1.cell? ⟨w.heap.size + 1, 1, none⟩ = some (.int .i64 0) := by simp [World.cell?, hr]
  have f2 : w1.cell? ⟨w.heap.size + 1, 2, none⟩ = some (.int .i64 0) := by simp [World.cell?, hr]
  have f3 : w1.cell? ⟨w.heap.size + 1, 3, none⟩ = some (.int .i64 0) := by simp [World.cell?, hr]
  have z0 : w1.frozen? ⟨w.heap.size + 1, 0, none⟩ = false := by simp [World.frozen?, hr]
  have z1 : w1.frozen? ⟨w.heap.size + 1, 1, none⟩ = false := by simp [World.frozen?, hr]
  have z2 : w1.frozen? ⟨w.heap.size + 1, 2, none⟩ = false := by simp [World.frozen?, hr]
  have z3 : w1.frozen? ⟨w.heap.size + 1, 3, none⟩ = false := by simp [World.frozen?, hr]
  have fl := (Array.getElem?_eq_some_iff.1 hr).1
  have HB1 := hid (HB0.out.trans (hB1.mono (by simp; omega)))
  have HF := hid hF; have HR := hid hr
  clear hB1 hr hF hfb hF1 hF2 HA HZ0
  go_wp2_with fail
  refine bodyPost_ret (v := .tuple #[.agg #[.int .i64 0, .int .i64 0, .int .i64 0, .int .i64 0], .bool false, .iface 95 (.pointer (some ⟨fb, 0, none⟩))]) (by simp [results, Tryz.results28, go_sem, f0, f1, f2, f3]) rfl ⟨_, rfl, ?_, ?_⟩
  · obtain ⟨vi, h1, h2⟩ := HF.out
    exact ⟨vi, h1.set4 HR.out _ _ _ _, h2.set4 HR.out _ _ _ _⟩
  · exact (((HB1.out.setCell (Nat.le_succ _) _).setCell (Nat.le_succ _) _).setCell (Nat.le_succ _) _).setCell (Nat.le_succ _) _
set_option maxRecDepth 100000 in
theorem weakBad_any {p pc : Addr} {s : Lts} {C : List Int} (h : s.Right) {a : Option Addr} {b off c : Nat} {ca : Option Addr} {cc : Nat} {w : World} (hG : GErr 16 p w) (hE : GErr 11 pc w) (hS : SlAt encE 3 w a b off s.es) (hq : NoCls w s (.slice a s.es.length c) (.slice ca C.length cc)) :
    Calls Tryz.prog 28 #[.agg #[.int .i64 s.st, .int .i64 s.lb, .int .i64 s.s0, .slice a s.es.length c], .slice ca C.length cc] w fun e w' => ∃ v, e = .returned (.tuple #[.agg #[.int .i64 0, .int .i64 0, .int .i64 0, .int .i64 0], .bool false, v]) ∧ FaultAt w' v witName (.iface 304 (.pointer (some pc))) ∧ Below w.heap.size w w' := by
  have hB0 := ((Below.refl w.heap.size w).alloc (Nat.le_refl _) (Obj.cells #[.int .i64 s.st, .int .i64 s.lb, .int .i64 s.s0, .slice a s.es.length c] 24)).alloc (by simp) (Obj.cells #[.int .i64 0, .int .i64 0, .int .i64 0, .int .i64 0] 67)
  have hz0 := heap_alloc_new (w.alloc (Obj.cells #[.int .i64 s.st, .int .i64 s.lb, .int .i64 s.s0, .slice a s.es.length c] 24)) (Obj.cells #[.int .i64 0, .int .i64 0, .int .i64 0, .int .i64 0] 67)
  rw [show (w.alloc (Obj.cells #[.int .i64 s.st, .int .i64 s.lb, .int .i64 s.s0, .slice a s.es.length c] 24)).heap.size = w.heap.size + 1 by simp] at hz0
  have HA := hid (askedBad_any (c := c) (cc := cc) h (hG.below hB0) (hE.below hB0) (hS.below hB0 (Nat.le_refl _)) (hq.below hB0))
  have HB0 := hid hB0; have HZ0 := hid hz0
  clear hB0 hz0 hG hS h hE hq
  go_enter Tryz.func28, Tryz.ntmps28
  go_wp2_with fail
  refine HA.out.mono ?_
  rintro e w1 ⟨v, rfl, hF, hB1⟩
  obtain ⟨fb, rfl, hfb⟩ := hF.ex
  have hr := (hB1.block (w.heap.size + 1) (by simp)).trans HZ0.out
  have f0 : w1.cell? ⟨w.heap.size + 1, 0, none⟩ = some (.int .i64 0) := by simp [World.cell?, hr]
  have f1 : w1.cell? ⟨w.heap.size + 1, 1, none⟩ = some (.int .i64 0) := by simp [World.cell?, hr]
  have f2 : w1.cell? ⟨w.heap.size + 1, 2, none⟩ = some (.int .i64 0) := by simp [World.cell?, hr]
  have f3 : w1.cell? ⟨w.heap.size + 1, 3, none⟩ = some (.int .i64 0) := by simp [World.cell?, hr]
  have z0 : w1.frozen? ⟨w.heap.size + 1, 0, none⟩ = false := by simp [World.frozen?, hr]
  have z1 : w1.frozen? ⟨w.heap.size + 1, 1, none⟩ = false := by simp [World.frozen?, hr]
  have z2 : w1.frozen? ⟨w.heap.size + 1, 2, none⟩ = false := by simp [World.frozen?, hr]
  have z3 : w1.frozen? ⟨w.heap.size + 1, 3, none⟩ = false := by simp [World.frozen?, hr]
  have fl := (Array.getElem?_eq_some_iff.1 hr).1
  have HB1 := hid (HB0.out.trans (hB1.mono (by simp; omega)))
  have HF := hid hF; have HR := hid hr
  clear hB1 hr hF hfb HA HZ0
  go_wp2_with fail
  refine bodyPost_ret (v := .tuple #[.agg #[.int .i64 0, .int .i64 0, .int .i64 0, .int .i64 0], .bool false, .iface 95 (.pointer (some ⟨fb, 0, none⟩))]) (by simp [results, Tryz.results28, go_sem, f0, f1, f2, f3]) rfl ⟨_, rfl, ?_, ?_⟩
  · exact HF.out.set4 HR.out _ _ _ _
  · exact (((HB1.out.setCell (Nat.le_succ _) _).setCell (Nat.le_succ _) _).setCell (Nat.le_succ _) _).setCell (Nat.le_succ _) _
set_option maxRecDepth 100000 in
theorem weakYes_any {p : Addr} {s : Lts} {C : List Int} (h : s.Right) (h300 : s.st ≤ 300) (hc : clB s.st C = true) {a : Option Addr} {b off c : Nat} {ca : Option Addr} {cb co cc : Nat} {w : World} (hG : GErr 16 p w) (hS : SlAt encE 3 w a b off s.es) (hCS : SlAt encI 1 w ca cb co C) (hn : C.length ≤ 1000000) (hwf : ∀ x ∈ C, (Lit.int .i64 x).wf = true) :
    Calls Tryz.prog 28 #[.agg #[.int .i64 s.st, .int .i64 s.lb, .int .i64 s.s0, .slice a s.es.length c], .slice ca C.length cc] w fun e w' => WalkE s.norm C.length C (fun q => looseD s.norm C q) e ∧ Below w.heap.size w w' := by
  have hB0 := ((Below.refl w.heap.size w).alloc (Nat.le_refl _) (Obj.cells #[.int .i64 s.st, .int .i64 s.lb, .int .i64 s.s0, .slice a s.es.length c] 24)).alloc (by simp) (Obj.cells #[.int .i64 0, .int .i64 0, .int .i64 0, .int .i64 0] 67)
  have hz0 := heap_alloc_new (w.alloc (Obj.cells #[.int .i64 s.st, .int .i64 s.lb, .int .i64 s.s0, .slice a s.es.length c] 24)) (Obj.cells #[.int .i64 0, .int .i64 0, .int .i64 0, .int .i64 0] 67)
  rw [show (w.alloc (Obj.cells #[.int .i64 s.st, .int .i64 s.lb, .int .i64 s.s0, .slice a s.es.length c] 24)).heap.size = w.heap.size + 1 by simp] at hz0
  have hx0 := (Below.heap_alloc (w.alloc (Obj.cells #[.int .i64 s.st, .int .i64 s.lb, .int .i64 s.s0, .slice a s.es.length c] 24)) (Obj.cells #[.int .i64 0, .int .i64 0, .int .i64 0, .int .i64 0] 67) w.heap.size (by simp)).trans (heap_alloc_new w (Obj.cells #[.int .i64 s.st, .int .i64 s.lb, .int .i64 s.s0, .slice a s.es.length c] 24))
  have HX0 := hid hx0
  have hd3 : decide (300 < s.st) = false := by simp; omega
  have HA := hid (askedYes_any (c := c) (cc := cc) h hc (hG.below hB0) (hS.below hB0 (Nat.le_refl _)) (hCS.below hB0 (Nat.le_refl _)) hn hwf)
  have HB0 := hid hB0; have HZ0 := hid hz0; have HCS := hid hCS; have HCL := hid (cls_of hc hwf)
  clear h300 hx0 hB0 hz0 hG hS h hc hCS hn hwf
  go_enter Tryz.func28, Tryz.ntmps28
  go_wp2_with fail
  refine HA.out.mono ?_
  rintro e w1 ⟨gb, rfl, hGr, hB1⟩
  have hr := (hB1.block (w.heap.size + 1) (by simp)).trans HZ0.out
  have hx1 := (hB1.block w.heap.size (by simp; omega)).trans HX0.out
  have x0 : w1.cell? ⟨w.heap.size, 0, none⟩ = some (.int .i64 s.st) := by simp [World.cell?, hx1]
  have xl := (Array.getElem?_eq_some_iff.1 hx1).1
  have HB1 := hid (HB0.out.trans (hB1.mono (by simp; omega)))
  have HH := hid hGr; have HR := hid hr
  clear hB1 hr hx1 hGr HA HZ0 HX0
  go_wp2_with fail
  have hwk : Calls Tryz.prog 100 #[.pointer (some ⟨gb, 0, none⟩), .slice ca C.length cc, .func (.func 103) #[] #[]] w1 fun e w' => WalkE s.norm C.length C (fun q => looseD s.norm C q) e ∧ Below w1.heap.size w1 w' :=
    walk_any HH.out HCL.out (HCS.out.below HB1.out (Nat.le_refl _)) (enters_of Tryz.func103 (by kernel_rfl) rfl) (fun W q hq pb mb f hnt => by
      have hcl := HCL.out
      have hcs := HCS.out.below HB1.out (Nat.le_refl _)
      exact loose_any HH.out hcl hcs hnt hq)
  refine hwk.mono ?_
  rintro e w2 ⟨hW, hB2⟩
  obtain ⟨a0, a1, a2, a3, r, rfl⟩ := hW.shape
  have HW := hid hW
  have hr2 := (hB2.block (w.heap.size + 1) (Array.getElem?_eq_some_iff.1 HR.out).1).trans HR.out
  have f0 : w2.cell? ⟨w.heap.size + 1, 0, none⟩ = some (.int .i64 0) := by simp [World.cell?, hr2]
  have f1 : w2.cell? ⟨w.heap.size + 1, 1, none⟩ = some (.int .i64 0) := by simp [World.cell?, hr2]
  have f2 : w2.cell? ⟨w.heap.size + 1, 2, none⟩ = some (.int .i64 0) := by simp [World.cell?, hr2]
  have f3 : w2.cell? ⟨w.heap.size + 1, 3, none⟩ = some (.int .i64 0) := by simp [World.cell?, hr2]
  have z0 : w2.frozen? ⟨w.heap.size + 1, 0, none⟩ = false := by simp [World.frozen?, hr2]
  have z1 : w2.frozen? ⟨w.heap.size + 1, 1, none⟩ = false := by simp [World.frozen?, hr2]
  have z2 : w2.frozen? ⟨w.heap.size + 1, 2, none⟩ = false := by simp [World.frozen?, hr2]
  have z3 : w2.frozen? ⟨w.heap.size + 1, 3, none⟩ = false := by simp [World.frozen?, hr2]
  have fl := (Array.getElem?_eq_some_iff.1 hr2).1
  have HB2 := hid (HB1.out.trans (hB2.mono HB1.out.size))
  clear hW hB2 hr2 hwk
  go_wp2_with fail
  refine bodyPost_ret (v := .tuple #[.agg #[.int .i64 a0, .int .i64 a1, .int .i64 a2, .int .i64 a3], .bool r, .nilIface]) (by simp [results, Tryz.results28, go_sem, f0, f1, f2, f3]) rfl ⟨HW.out, ?_⟩
  exact (((HB2.out.setCell (Nat.le_succ _) _).setCell (Nat.le_succ _) _).setCell (Nat.le_succ _) _).setCell (Nat.le_succ _) _
end Go.Proofs.YtffjcehopoaboaaGreatDoor
namespace Go.Proofs.YtffjcehopoaboaaGreatDoor
open Go.RowKit Pl
def AnsL (s : Lts) (n : Nat) (C : List Int) (D : Nat → List S) (fa fb fc fd : Int) (ok : Bool) : Prop :=
  ∀ e, LookE s n C D e → e = .returned (.tuple #[.agg #[.int .i64 fa, .int .i64 fb, .int .i64 fc, .int .i64 fd], .bool ok])
theorem WalkE.ans {s : Lts} {n : Nat} {C : List Int} {D : Nat → List S} {e : Ending} (h : WalkE s n C D e) :
    ∃ (fa fb fc fd : Int) (ok : Bool), e = .returned (.tuple #[.agg #[.int .i64 fa, .int .i64 fb, .int .i64 fc, .int .i64 fd], .bool ok, .nilIface]) ∧ AnsL s n C D fa fb fc fd ok := by
  rcases h with ⟨p, q, x, hp, hq, hc, hf, hno, rfl⟩ | ⟨hno, rfl⟩
  · refine ⟨_, _, _, _, _, rfl, ?_⟩
    rintro e (⟨p', q', x', hp', hq', hc', hf', hno', rfl⟩ | ⟨hno', rfl⟩)
    · rcases Nat.lt_trichotomy p p' with h | h | h
      · rw [hno' p q hp hq (.inl h) hc] at hf; cases hf
      · subst h
        rcases Nat.lt_trichotomy q q' with h | h | h
        · rw [hno' p q hp hq (.inr ⟨rfl, h⟩) hc] at hf; cases hf
        · subst h; rw [hf] at hf'; cases hf'; rfl
        · rw [hno p q' hp' hq' (.inr ⟨rfl, h⟩) hc'] at hf'; cases hf'
      · rw [hno p' q' hp' hq' (.inl h) hc'] at hf'; cases hf'
    · rw [hno' p q hp hq hc] at hf; cases hf
  · refine ⟨_, _, _, _, _, rfl, ?_⟩
    rintro e (⟨p', q', x', hp', hq', hc', hf', hno', rfl⟩ | ⟨hno', rfl⟩)
    · rw [hno p' q' hp' hq' hc'] at hf'; cases hf'
    · rfl
def LkP (Q : World → Value → Prop) (A : Int → Int → Int → Int → Bool → Prop) (w : World) (e : Ending) (w' : World) : Prop :=
  ∃ (fa fb fc fd : Int) (ok : Bool) (v : Value), e = .returned (.tuple #[.agg #[.int .i64 fa, .int .i64 fb, .int .i64 fc, .int .i64 fd], .bool ok, v]) ∧ Q w' v ∧ A fa fb fc fd ok ∧ Below w.heap.size w w'
theorem lkP_walk {s : Lts} {n : Nat} {C : List Int} {D : Nat → List S} {w w' : World} {e : Ending} (h : WalkE s n C D e ∧ Below w.heap.size w w') : LkP (fun _ v => v = .nilIface) (AnsL s n C D) w e w' := by
  obtain ⟨fa, fb, fc, fd, ok, he, ha⟩ := h.1.ans
  exact ⟨fa, fb, fc, fd, ok, _, he, rfl, ha, h.2⟩
def NoFail (fa fb fc fd : Int) (ok : Bool) : Prop := fa = 0 ∧ fb = 0 ∧ fc = 0 ∧ fd = 0 ∧ ok = false
theorem lkP_err {Q : World → Value → Prop} {w w' : World} {e : Ending} (h : ∃ v, e = .returned (.tuple #[.agg #[.int .i64 0, .int .i64 0, .int .i64 0, .int .i64 0], .bool false, v]) ∧ Q w' v ∧ Below w.heap.size w w') : LkP Q NoFail w e w' := by
  obtain ⟨v, he, hq, hB⟩ := h
  exact ⟨0, 0, 0, 0, false, v, he, hq, ⟨rfl, rfl, rfl, rfl, rfl⟩, hB⟩
theorem FaultAt.setF {w : World} {v vi : Value} {l : ByteArray} {R : Nat} {c : Array Value} (h : FaultAt w v l vi) (hR : w.heap[R]? = some (.cells c 67 (0, 0))) (x0 x1 x2 x3 : Value) :
    FaultAt ((((w.setCell ⟨R, 0, none⟩ x0).setCell ⟨R, 1, none⟩ x1).setCell ⟨R, 2, none⟩ x2).setCell ⟨R, 3, none⟩ x3) v l vi := by
  obtain ⟨b, hv, hb⟩ := h
  have n1 : b ≠ R := fun e => by subst e; rw [hb] at hR; simp at hR
  exact ⟨b, hv, by rw [Below.heap_setCell _ _ _ _ n1, Below.heap_setCell _ _ _ _ n1, Below.heap_setCell _ _ _ _ n1, Below.heap_setCell _ _ _ _ n1]; exact hb⟩
def SetF (Q : World → Value → Prop) : Prop := ∀ (w : World) (v : Value) (R : Nat) (c : Array Value) (x0 x1 x2 x3 : Value), Q w v → w.heap[R]? = some (.cells c 67 (0, 0)) → Q ((((w.setCell ⟨R, 0, none⟩ x0).setCell ⟨R, 1, none⟩ x1).setCell ⟨R, 2, none⟩ x2).setCell ⟨R, 3, none⟩ x3) v
theorem looks_pk {w : World} {p pc : Addr} (hE : ErrsK 14 p w) (hE2 : ErrsK 15 pc w) (hT : ErrType w) {s : Lts} (hlt : s.Right → s.st ≤ 30) {a : Option Addr} {b off c : Nat} (hS : SlAt encE 3 w a b off s.es) (hc : s.es.length ≤ c) (hcm : c ≤ maxLen)
    {C : List Int} {ca : Option Addr} {cb co cc : Nat} (hC : SlAt encI 1 w ca cb co C) (hn : C.length ≤ 1000000) (hwf : ∀ x ∈ C, (Lit.int .i64 x).wf = true) :
    ∃ (k : Int) (x : ByteArray) (Q : World → Value → Prop) (A : Int → Int → Int → Int → Int → Bool → Prop), (∀ w w' v, Q w v → Below w.heap.size w w' → Q w' v) ∧ SetF Q ∧
      (∀ V la lb lc da db dc, Below w.heap.size w V → SlAt encE 3 V la lb 0 s.es → SlAt encI 1 V da db 0 C → Calls Tryz.prog 26 #[.agg #[.int .i64 s.st, .int .i64 s.lb, .int .i64 s.s0, .slice la s.es.length lc], .slice da C.length dc] V (LkP Q (A 1) V)) ∧
      (∀ V la lb lc da db dc, Below w.heap.size w V → SlAt encE 3 V la lb 0 s.es → SlAt encI 1 V da db 0 C → Calls Tryz.prog 27 #[.agg #[.int .i64 s.st, .int .i64 s.lb, .int .i64 s.s0, .slice la s.es.length lc], .slice da C.length dc] V (LkP Q (A 2) V)) ∧
      (∀ V la lb lc da db dc, Below w.heap.size w V → SlAt encE 3 V la lb 0 s.es → SlAt encI 1 V da db 0 C → Calls Tryz.prog 28 #[.agg #[.int .i64 s.st, .int .i64 s.lb, .int .i64 s.s0, .slice la s.es.length lc], .slice da C.length dc] V (LkP Q (A 3) V)) ∧
      (∀ V (kd : Int), Below w.heap.size w V → Calls Tryz.prog 29 #[.agg #[.int .i64 s.st, .int .i64 s.lb, .int .i64 s.s0, .slice a s.es.length c], .slice ca C.length cc, .int .i64 kd] V fun e w' => e = .returned (.agg #[.int .i64 k, .int .i64 0, .int .i64 0, .string x]) ∧ Below V.heap.size V w') ∧
      (∀ V v, Below w.heap.size w V → Q V v → Calls Tryz.prog 13 #[v, .agg #[.int .i64 k, .int .i64 0, .int .i64 0, .string x]] V fun e w' => e = .returned (.bool true) ∧ Below V.heap.size V w') ∧
      ((k ≠ 0 ∧ ∀ kd fa fb fc fd ok, A kd fa fb fc fd ok → NoFail fa fb fc fd ok) ∨
       (k = 0 ∧ ∀ V (kd : Int), 1 ≤ kd → kd ≤ 3 → Below w.heap.size w V → Calls Tryz.prog 32 #[.agg #[.int .i64 s.st, .int .i64 s.lb, .int .i64 s.s0, .slice a s.es.length c], .slice ca C.length cc, .int .i64 kd] V fun e w' => (∀ fa fb fc fd ok, A kd fa fb fc fd ok → e = .returned (.tuple #[.agg #[.int .i64 fa, .int .i64 fb, .int .i64 fc, .int .i64 fd], .bool ok])) ∧ Below V.heap.size V w')) := by
  by_cases hr : s.Right
  case neg =>
    refine ⟨14, witName ++ ⟨#[32]⟩ ++ sysName ++ ⟨#[32]⟩, fun w v => FaultOn witName w p v, fun _ => NoFail, fun w w' v h hB => ?_, fun w v R c x0 x1 x2 x3 h hR => ?_, fun V la lb lc da db dc hV h1 h2 => ?_, fun V la lb lc da db dc hV h1 h2 => ?_, fun V la lb lc da db dc hV h1 h2 => ?_, fun V kd hV => ?_, fun V v hV h => ?_, .inl ⟨by decide, fun _ _ _ _ _ _ h => h⟩⟩
    · obtain ⟨vi, h1, h2⟩ := h
      exact ⟨vi, h1.below hB, h2.below hB⟩
    · obtain ⟨vi, h1, h2⟩ := h
      exact ⟨vi, h1.setF hR _ _ _ _, h2.setF hR _ _ _ _⟩
    · exact (strongNo_any hr (hE.sys.below hV) (hT.below hV) h1).mono (fun _ _ h => lkP_err h)
    · exact (branchingNo_any hr (hE.sys.below hV) (hT.below hV) h1).mono (fun _ _ h => lkP_err h)
    · exact (weakNo_any hr (hE.sys.below hV) (hT.below hV) h1).mono (fun _ _ h => lkP_err h)
    · exact guard19_no hr (hS.below hV (Nat.le_refl _)) kd
    · obtain ⟨vi, h1, h2⟩ := h
      exact told_two (k := 14) (by unfold CodeIn; omega) (hE.below hV) h1 h2 (by decide) (by decide)
  case pos =>
  have h30 := hlt hr
  by_cases hcl : clB s.st C = true
  case neg =>
    have hcf : clB s.st C = false := by simpa using hcl
    refine ⟨15, witName ++ ⟨#[32]⟩, fun w v => FaultAt w v witName (.iface 304 (.pointer (some pc))), fun _ => NoFail, fun w w' v h hB => h.below hB, fun w v R c x0 x1 x2 x3 h hR => h.setF hR _ _ _ _, fun V la lb lc da db dc hV h1 h2 => ?_, fun V la lb lc da db dc hV h1 h2 => ?_, fun V la lb lc da db dc hV h1 h2 => ?_, fun V kd hV => ?_, fun V v hV h => ?_, .inl ⟨by decide, fun _ _ _ _ _ _ h => h⟩⟩
    · exact (strongBad_any hr (hE.sys.below hV) (hE2.sys.below hV) h1 (noCls_of hcf h2 hwf hn)).mono (fun _ _ h => lkP_err h)
    · exact (branchingBad_any hr (hE.sys.below hV) (hE2.sys.below hV) h1 (noCls_of hcf h2 hwf hn)).mono (fun _ _ h => lkP_err h)
    · exact (weakBad_any hr (hE.sys.below hV) (hE2.sys.below hV) h1 (noCls_of hcf h2 hwf hn)).mono (fun _ _ h => lkP_err h)
    · refine (guard19_ok hr (by omega) (hS.below hV (Nat.le_refl _)) (hC.below hV (Nat.le_refl _)) hn kd).mono ?_
      rintro e w' ⟨he, hB⟩
      rw [hcf] at he
      exact ⟨he, hB⟩
    · exact told_one (k := 15) (by unfold CodeIn; omega) (hE2.below hV) h (by decide)
  case pos =>
  have hst := hr.st0
  obtain ⟨n, hn'⟩ : ∃ n : Nat, s.st = (n : Int) := ⟨s.st.toNat, by omega⟩
  have hCn : C.length = n := by
    have := (cls_of hcl hwf).st
    have e : s.norm.st = s.st := rfl
    omega
  refine ⟨0, ⟨#[]⟩, fun _ v => v = .nilIface, fun kd => AnsL s.norm C.length C (DL kd s.norm C), fun w w' v h _ => h, fun w v R c x0 x1 x2 x3 h _ => h, fun V la lb lc da db dc hV h1 h2 => ?_, fun V la lb lc da db dc hV h1 h2 => ?_, fun V la lb lc da db dc hV h1 h2 => ?_, fun V kd hV => ?_, fun V v hV h => ?_, .inr ⟨rfl, fun V kd hk1 hk3 hV => ?_⟩⟩
  · refine (strongYes_any hr hcl (hE.sys.below hV) h1 h2 hn hwf).mono (fun _ _ h => ?_)
    show LkP _ (AnsL s.norm C.length C (DL 1 s.norm C)) _ _ _
    rw [dl1]; exact lkP_walk h
  · refine (branchingYes_any hr hcl (hE.sys.below hV) h1 h2 hn hwf).mono (fun _ _ h => ?_)
    show LkP _ (AnsL s.norm C.length C (DL 2 s.norm C)) _ _ _
    rw [dl2]; exact lkP_walk h
  · refine (weakYes_any hr (by omega) hcl (hE.sys.below hV) h1 h2 hn hwf).mono (fun _ _ h => ?_)
    show LkP _ (AnsL s.norm C.length C (DL 3 s.norm C)) _ _ _
    rw [dl3]; exact lkP_walk h
  · refine (guard19_ok hr (by omega) (hS.below hV (Nat.le_refl _)) (hC.below hV (Nat.le_refl _)) hn kd).mono ?_
    rintro e w' ⟨he, hB⟩
    rw [hcl] at he
    exact ⟨he, hB⟩
  · subst h; exact told_nil 0 0 ⟨#[]⟩ V
  · refine (refLook_any hr hn' (by omega) (hS.below hV (Nat.le_refl _)) hc hcm hCn (hC.below hV (Nat.le_refl _)) hk1 hk3).mono ?_
    rintro e w' ⟨he, hB⟩
    rw [hCn]
    exact ⟨fun fa fb fc fd ok h => h e he, hB⟩
end Go.Proofs.YtffjcehopoaboaaGreatDoor
namespace Go.Proofs.YtffjcehopoaboaaGreatDoor
open Go.RowKit Pl
theorem sysG {w : World} {B : Nat} {x y z : Int} {v : Value} (h : w.heap[B]? = some (.cells #[.int .i64 x, .int .i64 y, .int .i64 z, v] 24 (0, 0))) :
    w.cell? ⟨B, 0, none⟩ = some (.int .i64 x) ∧ w.cell? ⟨B, 1, none⟩ = some (.int .i64 y) ∧ w.cell? ⟨B, 2, none⟩ = some (.int .i64 z) ∧ w.cell? ⟨B, 3, none⟩ = some v := by
  refine ⟨?_, ?_, ?_, ?_⟩ <;> simp [World.cell?, h]
end Go.Proofs.YtffjcehopoaboaaGreatDoor

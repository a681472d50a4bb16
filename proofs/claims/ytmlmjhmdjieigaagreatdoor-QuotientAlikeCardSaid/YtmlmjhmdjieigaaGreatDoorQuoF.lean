/-
  quotient.Strong, quotient.Branching and law14.made of no right system: the fault wraps api.ErrSystem.
-/
import Derived.Test.YtmlmjhmdjieigaaGreatDoorGQuoY
namespace Go.Proofs.YtmlmjhmdjieigaaGreatDoor
open Go.RowKit Pl

/-- A fault of this layer over one of the layer system. -/
def FaultQ (w : World) (p : Addr) (v : Value) : Prop :=
  ∃ vi, FaultAt w v quoName vi ∧ FaultAt w vi sysName (.iface 244 (.pointer (some p)))
theorem FaultQ.below {w w' : World} {p : Addr} {v : Value} (h : FaultQ w p v) (hB : Below w.heap.size w w') : FaultQ w' p v := by
  obtain ⟨vi, h1, h2⟩ := h
  exact ⟨vi, h1.below hB, h2.below hB⟩
theorem faultAt_sets {w : World} {v : Value} {l : ByteArray} {i : Value} {k : Nat} {cs : Array Value} (h : FaultAt w v l i) (hk : w.heap[k]? = some (.cells cs 24 (0, 0))) (x0 x1 x2 x3 : Value) : FaultAt ((((w.setCell ⟨k, 0, none⟩ x0).setCell ⟨k, 1, none⟩ x1).setCell ⟨k, 2, none⟩ x2).setCell ⟨k, 3, none⟩ x3) v l i := by
  obtain ⟨b, rfl, hb⟩ := h.ex
  have hne : b ≠ k := fun e => by rw [e, hk] at hb; simp at hb
  exact ⟨b, rfl, by rw [Below.heap_setCell _ _ _ _ hne, Below.heap_setCell _ _ _ _ hne, Below.heap_setCell _ _ _ _ hne, Below.heap_setCell _ _ _ _ hne]; exact hb⟩
theorem FaultQ.sets {w : World} {p : Addr} {v : Value} {k : Nat} {cs : Array Value} (h : FaultQ w p v) (hk : w.heap[k]? = some (.cells cs 24 (0, 0))) (x0 x1 x2 x3 : Value) : FaultQ ((((w.setCell ⟨k, 0, none⟩ x0).setCell ⟨k, 1, none⟩ x1).setCell ⟨k, 2, none⟩ x2).setCell ⟨k, 3, none⟩ x3) p v := by
  obtain ⟨vi, h1, h2⟩ := h
  exact ⟨vi, faultAt_sets h1 hk x0 x1 x2 x3, faultAt_sets h2 hk x0 x1 x2 x3⟩

/-- What a maker of quotients answers of no right system. -/
def QuoNoF (p : Addr) (w : World) (e : Ending) (w' : World) : Prop :=
  ∃ fb : Nat, e = .returned (.tuple #[.agg #[.int .i64 0, .int .i64 0, .int .i64 0, .slice none 0 0], .slice none 0 0, .iface 92 (.pointer (some ⟨fb, 0, none⟩))]) ∧ FaultQ w' p (.iface 92 (.pointer (some ⟨fb, 0, none⟩))) ∧ Below w.heap.size w w'

set_option maxRecDepth 100000 in
set_option maxHeartbeats 4000000 in
theorem quoByNoFS_any {p : Addr} {s : Lts} (h : ¬ s.Right) {a : Option Addr} {b off c : Nat} {w : World} {kind : Value} (hG : GErr 10 p w) (hT : ErrType w) (hS : SlAt encE 3 w a b off s.es) :
    Calls Tryz.prog 71 #[.agg #[.int .i64 s.st, .int .i64 s.lb, .int .i64 s.s0, .slice a s.es.length c], kind, .bool false] w (QuoNoF p w) := by
  have hB0 := ((Below.refl w.heap.size w).alloc (Nat.le_refl _) (Obj.cells #[.int .i64 s.st, .int .i64 s.lb, .int .i64 s.s0, .slice a s.es.length c] 24)).alloc (by simp) (Obj.cells #[.int .i64 0, .int .i64 0, .int .i64 0, .slice none 0 0] 24)
  have hy0 := heap_alloc_at (w.alloc (Obj.cells #[.int .i64 s.st, .int .i64 s.lb, .int .i64 s.s0, .slice a s.es.length c] 24)) (Obj.cells #[.int .i64 0, .int .i64 0, .int .i64 0, .slice none 0 0] 24) (w.heap.size + 1) (by simp)
  have HCK := Lib.hid (check_no h a b off c _ (hG.below hB0) (hS.below hB0 (Nat.le_refl _)))
  have HB0 := Lib.hid hB0; have HY0 := Lib.hid hy0; have HT := Lib.hid hT
  clear hB0 hy0 hS hG hT h
  go_enter Tryz.func71, Tryz.ntmps71
  go_wp2_with fail
  refine HCK.out.mono ?_
  rintro e w1 ⟨v, rfl, hF, hB1⟩
  have HF := Lib.hid hF
  obtain ⟨fb, rfl, hfb⟩ := hF.ex
  have HB1 := Lib.hid (HB0.out.trans (hB1.mono (by simp; omega)))
  have HA := Lib.hid (faultAs_any quoName (HT.out.below HB1.out) hfb)
  have HY1 := Lib.hid ((hB1.block (w.heap.size + 1) (by simp)).trans HY0.out)
  clear hB1 hfb hF HY0 HB0 HCK
  unfold quoName at HA
  go_wp2_with fail
  refine HA.out.mono ?_
  rintro e w2 ⟨v, rfl, hF2, hB2⟩
  have HFQ : RowKit.Hid (FaultQ w2 p v) := Lib.hid ⟨_, hF2, HF.out.below hB2⟩
  obtain ⟨fb, rfl, hfb⟩ := hF2.ex
  have HB2 := Lib.hid (HB1.out.trans (hB2.mono HB1.out.size))
  have hy2 := (hB2.block (w.heap.size + 1) (Array.getElem?_eq_some_iff.1 HY1.out).1).trans HY1.out
  obtain ⟨y0, y1, y2, y3, y4⟩ := sys9 hy2
  have yf0 : w2.frozen? ⟨w.heap.size + 1, 0, none⟩ = false := by simp [World.frozen?, hy2]
  have yf1 : w2.frozen? ⟨w.heap.size + 1, 1, none⟩ = false := by simp [World.frozen?, hy2]
  have yf2 : w2.frozen? ⟨w.heap.size + 1, 2, none⟩ = false := by simp [World.frozen?, hy2]
  have yf3 : w2.frozen? ⟨w.heap.size + 1, 3, none⟩ = false := by simp [World.frozen?, hy2]
  have HFS := Lib.hid (fun x0 x1 x2 x3 => HFQ.out.sets hy2 x0 x1 x2 x3)
  clear hF2 hfb hB2 hy2 HY1 HB1 HA HFQ HF
  go_wp2_with fail
  refine bodyPost_ret (v := .tuple #[.agg #[.int .i64 0, .int .i64 0, .int .i64 0, .slice none 0 0], .slice none 0 0, .iface 92 (.pointer (some ⟨fb, 0, none⟩))]) (by simp [results, Tryz.results71, go_sem, y0, y1, y2, y3]) rfl ⟨fb, rfl, HFS.out _ _ _ _, ?_⟩
  exact (((HB2.out.setCell (by show w.heap.size ≤ w.heap.size + 1; omega) _).setCell (by show w.heap.size ≤ w.heap.size + 1; omega) _).setCell (by show w.heap.size ≤ w.heap.size + 1; omega) _).setCell (by show w.heap.size ≤ w.heap.size + 1; omega) _

set_option maxRecDepth 100000 in
set_option maxHeartbeats 4000000 in
theorem quoByNoFB_any {p : Addr} {s : Lts} (h : ¬ s.Right) {a : Option Addr} {b off c : Nat} {w : World} {kind : Value} (hG : GErr 10 p w) (hT : ErrType w) (hS : SlAt encE 3 w a b off s.es) :
    Calls Tryz.prog 71 #[.agg #[.int .i64 s.st, .int .i64 s.lb, .int .i64 s.s0, .slice a s.es.length c], kind, .bool true] w (QuoNoF p w) := by
  have hB0 := ((Below.refl w.heap.size w).alloc (Nat.le_refl _) (Obj.cells #[.int .i64 s.st, .int .i64 s.lb, .int .i64 s.s0, .slice a s.es.length c] 24)).alloc (by simp) (Obj.cells #[.int .i64 0, .int .i64 0, .int .i64 0, .slice none 0 0] 24)
  have hy0 := heap_alloc_at (w.alloc (Obj.cells #[.int .i64 s.st, .int .i64 s.lb, .int .i64 s.s0, .slice a s.es.length c] 24)) (Obj.cells #[.int .i64 0, .int .i64 0, .int .i64 0, .slice none 0 0] 24) (w.heap.size + 1) (by simp)
  have HCK := Lib.hid (check_no h a b off c _ (hG.below hB0) (hS.below hB0 (Nat.le_refl _)))
  have HB0 := Lib.hid hB0; have HY0 := Lib.hid hy0; have HT := Lib.hid hT
  clear hB0 hy0 hS hG hT h
  go_enter Tryz.func71, Tryz.ntmps71
  go_wp2_with fail
  refine HCK.out.mono ?_
  rintro e w1 ⟨v, rfl, hF, hB1⟩
  have HF := Lib.hid hF
  obtain ⟨fb, rfl, hfb⟩ := hF.ex
  have HB1 := Lib.hid (HB0.out.trans (hB1.mono (by simp; omega)))
  have HA := Lib.hid (faultAs_any quoName (HT.out.below HB1.out) hfb)
  have HY1 := Lib.hid ((hB1.block (w.heap.size + 1) (by simp)).trans HY0.out)
  clear hB1 hfb hF HY0 HB0 HCK
  unfold quoName at HA
  go_wp2_with fail
  refine HA.out.mono ?_
  rintro e w2 ⟨v, rfl, hF2, hB2⟩
  have HFQ : RowKit.Hid (FaultQ w2 p v) := Lib.hid ⟨_, hF2, HF.out.below hB2⟩
  obtain ⟨fb, rfl, hfb⟩ := hF2.ex
  have HB2 := Lib.hid (HB1.out.trans (hB2.mono HB1.out.size))
  have hy2 := (hB2.block (w.heap.size + 1) (Array.getElem?_eq_some_iff.1 HY1.out).1).trans HY1.out
  obtain ⟨y0, y1, y2, y3, y4⟩ := sys9 hy2
  have yf0 : w2.frozen? ⟨w.heap.size + 1, 0, none⟩ = false := by simp [World.frozen?, hy2]
  have yf1 : w2.frozen? ⟨w.heap.size + 1, 1, none⟩ = false := by simp [World.frozen?, hy2]
  have yf2 : w2.frozen? ⟨w.heap.size + 1, 2, none⟩ = false := by simp [World.frozen?, hy2]
  have yf3 : w2.frozen? ⟨w.heap.size + 1, 3, none⟩ = false := by simp [World.frozen?, hy2]
  have HFS := Lib.hid (fun x0 x1 x2 x3 => HFQ.out.sets hy2 x0 x1 x2 x3)
  clear hF2 hfb hB2 hy2 HY1 HB1 HA HFQ HF
  go_wp2_with fail
  refine bodyPost_ret (v := .tuple #[.agg #[.int .i64 0, .int .i64 0, .int .i64 0, .slice none 0 0], .slice none 0 0, .iface 92 (.pointer (some ⟨fb, 0, none⟩))]) (by simp [results, Tryz.results71, go_sem, y0, y1, y2, y3]) rfl ⟨fb, rfl, HFS.out _ _ _ _, ?_⟩
  exact (((HB2.out.setCell (by show w.heap.size ≤ w.heap.size + 1; omega) _).setCell (by show w.heap.size ≤ w.heap.size + 1; omega) _).setCell (by show w.heap.size ≤ w.heap.size + 1; omega) _).setCell (by show w.heap.size ≤ w.heap.size + 1; omega) _

set_option maxRecDepth 100000 in
set_option maxHeartbeats 4000000 in
theorem quoStrongNoF_any {p : Addr} {s : Lts} (h : ¬ s.Right) {a : Option Addr} {b off c : Nat} {w : World} (hG : GErr 10 p w) (hT : ErrType w) (hS : SlAt encE 3 w a b off s.es) :
    Calls Tryz.prog 34 #[.agg #[.int .i64 s.st, .int .i64 s.lb, .int .i64 s.s0, .slice a s.es.length c]] w (QuoNoF p w) := by
  have hB0 := ((Below.refl w.heap.size w).alloc (Nat.le_refl _) (Obj.cells #[.int .i64 s.st, .int .i64 s.lb, .int .i64 s.s0, .slice a s.es.length c] 24)).alloc (by simp) (Obj.cells #[.int .i64 0, .int .i64 0, .int .i64 0, .slice none 0 0] 24)
  have hy0 := heap_alloc_at (w.alloc (Obj.cells #[.int .i64 s.st, .int .i64 s.lb, .int .i64 s.s0, .slice a s.es.length c] 24)) (Obj.cells #[.int .i64 0, .int .i64 0, .int .i64 0, .slice none 0 0] 24) (w.heap.size + 1) (by simp)
  have HBY := Lib.hid (quoByNoFS_any (c := c) (kind := .func (.func 36) #[] #[]) h (hG.below hB0) (hT.below hB0) (hS.below hB0 (Nat.le_refl _)))
  have HB0 := Lib.hid hB0; have HY0 := Lib.hid hy0
  clear hB0 hy0 hS hG hT h
  go_enter Tryz.func34, Tryz.ntmps34
  go_wp2_with fail
  refine HBY.out.mono ?_
  rintro e w2 ⟨fb, rfl, hFQ, hB2⟩
  have HB2 := Lib.hid (HB0.out.trans (hB2.mono (by simp; omega)))
  have hy2 := (hB2.block (w.heap.size + 1) (by simp)).trans HY0.out
  obtain ⟨y0, y1, y2, y3, y4⟩ := sys9 hy2
  have yf0 : w2.frozen? ⟨w.heap.size + 1, 0, none⟩ = false := by simp [World.frozen?, hy2]
  have yf1 : w2.frozen? ⟨w.heap.size + 1, 1, none⟩ = false := by simp [World.frozen?, hy2]
  have yf2 : w2.frozen? ⟨w.heap.size + 1, 2, none⟩ = false := by simp [World.frozen?, hy2]
  have yf3 : w2.frozen? ⟨w.heap.size + 1, 3, none⟩ = false := by simp [World.frozen?, hy2]
  have HFS := Lib.hid (fun x0 x1 x2 x3 => hFQ.sets hy2 x0 x1 x2 x3)
  clear hB2 hy2 HY0 HB0 HBY hFQ
  go_wp2_with fail
  refine bodyPost_ret (v := .tuple #[.agg #[.int .i64 0, .int .i64 0, .int .i64 0, .slice none 0 0], .slice none 0 0, .iface 92 (.pointer (some ⟨fb, 0, none⟩))]) (by simp [results, Tryz.results34, go_sem, y0, y1, y2, y3]) rfl ⟨fb, rfl, HFS.out _ _ _ _, ?_⟩
  exact (((HB2.out.setCell (by show w.heap.size ≤ w.heap.size + 1; omega) _).setCell (by show w.heap.size ≤ w.heap.size + 1; omega) _).setCell (by show w.heap.size ≤ w.heap.size + 1; omega) _).setCell (by show w.heap.size ≤ w.heap.size + 1; omega) _
set_option maxRecDepth 100000 in
set_option maxHeartbeats 4000000 in
theorem quoBranchingNoF_any {p : Addr} {s : Lts} (h : ¬ s.Right) {a : Option Addr} {b off c : Nat} {w : World} (hG : GErr 10 p w) (hT : ErrType w) (hS : SlAt encE 3 w a b off s.es) :
    Calls Tryz.prog 35 #[.agg #[.int .i64 s.st, .int .i64 s.lb, .int .i64 s.s0, .slice a s.es.length c]] w (QuoNoF p w) := by
  have hB0 := ((Below.refl w.heap.size w).alloc (Nat.le_refl _) (Obj.cells #[.int .i64 s.st, .int .i64 s.lb, .int .i64 s.s0, .slice a s.es.length c] 24)).alloc (by simp) (Obj.cells #[.int .i64 0, .int .i64 0, .int .i64 0, .slice none 0 0] 24)
  have hy0 := heap_alloc_at (w.alloc (Obj.cells #[.int .i64 s.st, .int .i64 s.lb, .int .i64 s.s0, .slice a s.es.length c] 24)) (Obj.cells #[.int .i64 0, .int .i64 0, .int .i64 0, .slice none 0 0] 24) (w.heap.size + 1) (by simp)
  have HBY := Lib.hid (quoByNoFB_any (c := c) (kind := .func (.func 9) #[] #[]) h (hG.below hB0) (hT.below hB0) (hS.below hB0 (Nat.le_refl _)))
  have HB0 := Lib.hid hB0; have HY0 := Lib.hid hy0
  clear hB0 hy0 hS hG hT h
  go_enter Tryz.func35, Tryz.ntmps35
  go_wp2_with fail
  refine HBY.out.mono ?_
  rintro e w2 ⟨fb, rfl, hFQ, hB2⟩
  have HB2 := Lib.hid (HB0.out.trans (hB2.mono (by simp; omega)))
  have hy2 := (hB2.block (w.heap.size + 1) (by simp)).trans HY0.out
  obtain ⟨y0, y1, y2, y3, y4⟩ := sys9 hy2
  have yf0 : w2.frozen? ⟨w.heap.size + 1, 0, none⟩ = false := by simp [World.frozen?, hy2]
  have yf1 : w2.frozen? ⟨w.heap.size + 1, 1, none⟩ = false := by simp [World.frozen?, hy2]
  have yf2 : w2.frozen? ⟨w.heap.size + 1, 2, none⟩ = false := by simp [World.frozen?, hy2]
  have yf3 : w2.frozen? ⟨w.heap.size + 1, 3, none⟩ = false := by simp [World.frozen?, hy2]
  have HFS := Lib.hid (fun x0 x1 x2 x3 => hFQ.sets hy2 x0 x1 x2 x3)
  clear hB2 hy2 HY0 HB0 HBY hFQ
  go_wp2_with fail
  refine bodyPost_ret (v := .tuple #[.agg #[.int .i64 0, .int .i64 0, .int .i64 0, .slice none 0 0], .slice none 0 0, .iface 92 (.pointer (some ⟨fb, 0, none⟩))]) (by simp [results, Tryz.results35, go_sem, y0, y1, y2, y3]) rfl ⟨fb, rfl, HFS.out _ _ _ _, ?_⟩
  exact (((HB2.out.setCell (by show w.heap.size ≤ w.heap.size + 1; omega) _).setCell (by show w.heap.size ≤ w.heap.size + 1; omega) _).setCell (by show w.heap.size ≤ w.heap.size + 1; omega) _).setCell (by show w.heap.size ≤ w.heap.size + 1; omega) _
set_option maxRecDepth 100000 in
set_option maxHeartbeats 4000000 in
theorem madeFS_no {p : Addr} {s : Lts} (h : ¬ s.Right) {a : Option Addr} {b off c : Nat} {w : World} (hG : GErr 10 p w) (hT : ErrType w) (hS : SlAt encE 3 w a b off s.es) :
    Calls Tryz.prog 14 #[.agg #[.int .i64 s.st, .int .i64 s.lb, .int .i64 s.s0, .slice a s.es.length c], .bool true] w (QuoNoF p w) := by
  have hB0 := ((Below.refl w.heap.size w).alloc (Nat.le_refl _) (Obj.cells #[.int .i64 s.st, .int .i64 s.lb, .int .i64 s.s0, .slice a s.es.length c] 24)).alloc (by simp) (Obj.cells #[.int .i64 0, .int .i64 0, .int .i64 0, .slice none 0 0] 24)
  have hy0 := heap_alloc_at (w.alloc (Obj.cells #[.int .i64 s.st, .int .i64 s.lb, .int .i64 s.s0, .slice a s.es.length c] 24)) (Obj.cells #[.int .i64 0, .int .i64 0, .int .i64 0, .slice none 0 0] 24) (w.heap.size + 1) (by simp)
  have HBY := Lib.hid (quoStrongNoF_any (c := c) h (hG.below hB0) (hT.below hB0) (hS.below hB0 (Nat.le_refl _)))
  have HB0 := Lib.hid hB0; have HY0 := Lib.hid hy0
  clear hB0 hy0 hS hG hT h
  go_enter Tryz.func14, Tryz.ntmps14
  go_wp2_with fail
  refine HBY.out.mono ?_
  rintro e w2 ⟨fb, rfl, hFQ, hB2⟩
  have HB2 := Lib.hid (HB0.out.trans (hB2.mono (by simp; omega)))
  have hy2 := (hB2.block (w.heap.size + 1) (by simp)).trans HY0.out
  obtain ⟨y0, y1, y2, y3, y4⟩ := sys9 hy2
  have yf0 : w2.frozen? ⟨w.heap.size + 1, 0, none⟩ = false := by simp [World.frozen?, hy2]
  have yf1 : w2.frozen? ⟨w.heap.size + 1, 1, none⟩ = false := by simp [World.frozen?, hy2]
  have yf2 : w2.frozen? ⟨w.heap.size + 1, 2, none⟩ = false := by simp [World.frozen?, hy2]
  have yf3 : w2.frozen? ⟨w.heap.size + 1, 3, none⟩ = false := by simp [World.frozen?, hy2]
  have HFS := Lib.hid (fun x0 x1 x2 x3 => hFQ.sets hy2 x0 x1 x2 x3)
  clear hB2 hy2 HY0 HB0 HBY hFQ
  go_wp2_with fail
  refine bodyPost_ret (v := .tuple #[.agg #[.int .i64 0, .int .i64 0, .int .i64 0, .slice none 0 0], .slice none 0 0, .iface 92 (.pointer (some ⟨fb, 0, none⟩))]) (by simp [results, Tryz.results14, go_sem, y0, y1, y2, y3]) rfl ⟨fb, rfl, HFS.out _ _ _ _, ?_⟩
  exact (((HB2.out.setCell (by show w.heap.size ≤ w.heap.size + 1; omega) _).setCell (by show w.heap.size ≤ w.heap.size + 1; omega) _).setCell (by show w.heap.size ≤ w.heap.size + 1; omega) _).setCell (by show w.heap.size ≤ w.heap.size + 1; omega) _
set_option maxRecDepth 100000 in
set_option maxHeartbeats 4000000 in
theorem madeFB_no {p : Addr} {s : Lts} (h : ¬ s.Right) {a : Option Addr} {b off c : Nat} {w : World} (hG : GErr 10 p w) (hT : ErrType w) (hS : SlAt encE 3 w a b off s.es) :
    Calls Tryz.prog 14 #[.agg #[.int .i64 s.st, .int .i64 s.lb, .int .i64 s.s0, .slice a s.es.length c], .bool false] w (QuoNoF p w) := by
  have hB0 := ((Below.refl w.heap.size w).alloc (Nat.le_refl _) (Obj.cells #[.int .i64 s.st, .int .i64 s.lb, .int .i64 s.s0, .slice a s.es.length c] 24)).alloc (by simp) (Obj.cells #[.int .i64 0, .int .i64 0, .int .i64 0, .slice none 0 0] 24)
  have hy0 := heap_alloc_at (w.alloc (Obj.cells #[.int .i64 s.st, .int .i64 s.lb, .int .i64 s.s0, .slice a s.es.length c] 24)) (Obj.cells #[.int .i64 0, .int .i64 0, .int .i64 0, .slice none 0 0] 24) (w.heap.size + 1) (by simp)
  have HBY := Lib.hid (quoBranchingNoF_any (c := c) h (hG.below hB0) (hT.below hB0) (hS.below hB0 (Nat.le_refl _)))
  have HB0 := Lib.hid hB0; have HY0 := Lib.hid hy0
  clear hB0 hy0 hS hG hT h
  go_enter Tryz.func14, Tryz.ntmps14
  go_wp2_with fail
  refine HBY.out.mono ?_
  rintro e w2 ⟨fb, rfl, hFQ, hB2⟩
  have HB2 := Lib.hid (HB0.out.trans (hB2.mono (by simp; omega)))
  have hy2 := (hB2.block (w.heap.size + 1) (by simp)).trans HY0.out
  obtain ⟨y0, y1, y2, y3, y4⟩ := sys9 hy2
  have yf0 : w2.frozen? ⟨w.heap.size + 1, 0, none⟩ = false := by simp [World.frozen?, hy2]
  have yf1 : w2.frozen? ⟨w.heap.size + 1, 1, none⟩ = false := by simp [World.frozen?, hy2]
  have yf2 : w2.frozen? ⟨w.heap.size + 1, 2, none⟩ = false := by simp [World.frozen?, hy2]
  have yf3 : w2.frozen? ⟨w.heap.size + 1, 3, none⟩ = false := by simp [World.frozen?, hy2]
  have HFS := Lib.hid (fun x0 x1 x2 x3 => hFQ.sets hy2 x0 x1 x2 x3)
  clear hB2 hy2 HY0 HB0 HBY hFQ
  go_wp2_with fail
  refine bodyPost_ret (v := .tuple #[.agg #[.int .i64 0, .int .i64 0, .int .i64 0, .slice none 0 0], .slice none 0 0, .iface 92 (.pointer (some ⟨fb, 0, none⟩))]) (by simp [results, Tryz.results14, go_sem, y0, y1, y2, y3]) rfl ⟨fb, rfl, HFS.out _ _ _ _, ?_⟩
  exact (((HB2.out.setCell (by show w.heap.size ≤ w.heap.size + 1; omega) _).setCell (by show w.heap.size ≤ w.heap.size + 1; omega) _).setCell (by show w.heap.size ≤ w.heap.size + 1; omega) _).setCell (by show w.heap.size ≤ w.heap.size + 1; omega) _

theorem madeF_no {p : Addr} {s : Lts} (h : ¬ s.Right) {a : Option Addr} {b off c : Nat} {w : World} (hG : GErr 10 p w) (hT : ErrType w) (hS : SlAt encE 3 w a b off s.es) (kind : Bool) :
    Calls Tryz.prog 14 #[.agg #[.int .i64 s.st, .int .i64 s.lb, .int .i64 s.s0, .slice a s.es.length c], .bool kind] w (QuoNoF p w) := by
  cases kind with
  | true => exact madeFS_no h hG hT hS
  | false => exact madeFB_no h hG hT hS
end Go.Proofs.YtmlmjhmdjieigaaGreatDoor

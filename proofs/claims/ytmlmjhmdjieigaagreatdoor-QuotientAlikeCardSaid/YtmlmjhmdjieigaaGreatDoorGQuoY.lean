/-
  quotient.by, Strong and Branching of a right system without states.
  law14.made: hands on what Strong or Branching answers.
  quotient.Branching and law14.made of no right system.
  law14.small, law14.alive.
-/
import Derived.Test.YtmlmjhmdjieigaaGreatDoorGQuoK
import Derived.Test.YtmlmjhmdjieigaaGreatDoorGQuoB
import Derived.Test.YtmlmjhmdjieigaaGreatDoorGBrV
import Derived.Test.YtmlmjhmdjieigaaGreatDoorGQuoN
import Derived.Test.YtmlmjhmdjieigaaGreatDoorGQuoE
namespace Go.Proofs.YtmlmjhmdjieigaaGreatDoor
open Go.RowKit Pl

set_option maxRecDepth 100000 in
set_option maxHeartbeats 4000000 in
theorem quoByZStr_any {p : Addr} {s : Lts} (h : s.Right) (hn : s.st = 0) {a : Option Addr} {b off c : Nat} {w : World} (hG : GErr 10 p w) (hS : SlAt encE 3 w a b off s.es) :
    Calls Tryz.prog 71 #[.agg #[.int .i64 s.st, .int .i64 s.lb, .int .i64 s.s0, .slice a s.es.length c], .func (.func 36) #[] #[], .bool false] w (QuoZero s.lb w) := by
  have hB0 := ((Below.refl w.heap.size w).alloc (Nat.le_refl _) (Obj.cells #[.int .i64 s.st, .int .i64 s.lb, .int .i64 s.s0, .slice a s.es.length c] 24)).alloc (by simp) (Obj.cells #[.int .i64 0, .int .i64 0, .int .i64 0, .slice none 0 0] 24)
  have hx0 := (((Below.refl _ _).alloc (Nat.le_refl _) (Obj.cells #[.int .i64 0, .int .i64 0, .int .i64 0, .slice none 0 0] 24)).block w.heap.size (by simp)).trans (heap_alloc_new w (Obj.cells #[.int .i64 s.st, .int .i64 s.lb, .int .i64 s.s0, .slice a s.es.length c] 24))
  have hy0 := heap_alloc_at (w.alloc (Obj.cells #[.int .i64 s.st, .int .i64 s.lb, .int .i64 s.s0, .slice a s.es.length c] 24)) (Obj.cells #[.int .i64 0, .int .i64 0, .int .i64 0, .slice none 0 0] 24) (w.heap.size + 1) (by simp)
  have HCK := Lib.hid (check_ok h a b off c _ (hG.below hB0) (hS.below hB0 (Nat.le_refl _)))
  have hel : s.es.length ≤ 900 := by rw [right_zero h hn]; simp
  have HB0 := Lib.hid hB0; have HX0 := Lib.hid hx0; have HY0 := Lib.hid hy0
  have HCL := Lib.hid (fun (W : World) (hB : Below w.heap.size w W) => strClasses_any (n := 0) (c := c) h hn (hG.below hB) (hS.below hB (Nat.le_refl _)))
  have HOF := Lib.hid (fun (W : World) (hB : Below w.heap.size w W) (ca : Option Addr) (cc : Nat) => quoOfZero_any (c := c) h hn (hG.below hB) (hS.below hB (Nat.le_refl _)) ca cc false)
  clear hB0 hx0 hy0 hS hG h hn hel
  go_enter Tryz.func71, Tryz.ntmps71
  go_wp2_with fail
  refine HCK.out.mono ?_
  rintro e w1 ⟨rfl, hB1⟩
  have hx1 := (hB1.block w.heap.size (by simp; omega)).trans HX0.out
  have HB1 := Lib.hid (HB0.out.trans (hB1.mono (by simp; omega))); have HX1 := Lib.hid hx1
  have HY1 := Lib.hid ((hB1.block (w.heap.size + 1) (by simp)).trans HY0.out)
  obtain ⟨x0, x1, x2, x3, x4⟩ := sys9 hx1
  clear hB1 hx1 HB0 HX0 HY0 HCK
  go_wp2_with fail
  refine (HCL.out _ HB1.out).mono ?_
  unfold StrClasses
  rintro e w2 ⟨inn, ca, cc, hbig, rfl, hown, hB2⟩
  have hx2 := (hB2.block w.heap.size x4).trans HX1.out
  have hb2 := HB1.out.trans (hB2.mono HB1.out.size)
  have HY2 := Lib.hid ((hB2.block (w.heap.size + 1) (Array.getElem?_eq_some_iff.1 HY1.out).1).trans HY1.out)
  have HOF2 := Lib.hid (HOF.out _ hb2 ca cc)
  have HB2 := Lib.hid hb2
  clear x0 x1 x2 x3 x4
  obtain ⟨x0, x1, x2, x3, x4⟩ := sys9 hx2
  clear hB2 hx2 hb2 hown HB1 HX1 HY1 HCL HOF
  go_wp2_with fail
  refine HOF2.out.mono ?_
  unfold QuoZero
  rintro e w3 ⟨ea, ta, ec, tc, rfl, hB3⟩
  have hy3 := (hB3.block (w.heap.size + 1) (Array.getElem?_eq_some_iff.1 HY2.out).1).trans HY2.out
  have HB3 := Lib.hid (HB2.out.trans (hB3.mono HB2.out.size))
  obtain ⟨y0, y1, y2, y3, y4⟩ := sys9 hy3
  have yf0 : w3.frozen? ⟨w.heap.size + 1, 0, none⟩ = false := by simp [World.frozen?, hy3]
  have yf1 : w3.frozen? ⟨w.heap.size + 1, 1, none⟩ = false := by simp [World.frozen?, hy3]
  have yf2 : w3.frozen? ⟨w.heap.size + 1, 2, none⟩ = false := by simp [World.frozen?, hy3]
  have yf3 : w3.frozen? ⟨w.heap.size + 1, 3, none⟩ = false := by simp [World.frozen?, hy3]
  clear hB3 hy3 HOF2 HY2 HB2 x0 x1 x2 x3 x4
  go_wp2_with fail
  refine bodyPost_ret (v := .tuple #[.agg #[.int .i64 0, .int .i64 s.lb, .int .i64 0, .slice ea 0 ec], .slice ta 0 tc, .nilIface]) (by simp [results, Tryz.results71, go_sem, y0, y1, y2, y3]) rfl ⟨ea, ta, ec, tc, rfl, ?_⟩
  exact (((HB3.out.setCell (by show w.heap.size ≤ w.heap.size + 1; omega) _).setCell (by show w.heap.size ≤ w.heap.size + 1; omega) _).setCell (by show w.heap.size ≤ w.heap.size + 1; omega) _).setCell (by show w.heap.size ≤ w.heap.size + 1; omega) _

set_option maxRecDepth 100000 in
set_option maxHeartbeats 4000000 in
theorem quoZStr_any {p : Addr} {s : Lts} (h : s.Right) (hn : s.st = 0) {a : Option Addr} {b off c : Nat} {w : World} (hG : GErr 10 p w) (hS : SlAt encE 3 w a b off s.es) :
    Calls Tryz.prog 34 #[.agg #[.int .i64 s.st, .int .i64 s.lb, .int .i64 s.s0, .slice a s.es.length c]] w (QuoZero s.lb w) := by
  have hB0 := ((Below.refl w.heap.size w).alloc (Nat.le_refl _) (Obj.cells #[.int .i64 s.st, .int .i64 s.lb, .int .i64 s.s0, .slice a s.es.length c] 24)).alloc (by simp) (Obj.cells #[.int .i64 0, .int .i64 0, .int .i64 0, .slice none 0 0] 24)
  have hy0 := heap_alloc_at (w.alloc (Obj.cells #[.int .i64 s.st, .int .i64 s.lb, .int .i64 s.s0, .slice a s.es.length c] 24)) (Obj.cells #[.int .i64 0, .int .i64 0, .int .i64 0, .slice none 0 0] 24) (w.heap.size + 1) (by simp)
  have HBY := Lib.hid (quoByZStr_any (c := c) h hn (hG.below hB0) (hS.below hB0 (Nat.le_refl _)))
  have HB0 := Lib.hid hB0; have HY0 := Lib.hid hy0
  clear hB0 hy0 hS hG h hn
  go_enter Tryz.func34, Tryz.ntmps34
  go_wp2_with fail
  refine HBY.out.mono ?_
  unfold QuoZero
  rintro e w3 ⟨ea, ta, ec, tc, rfl, hB3⟩
  have hy3 := (hB3.block (w.heap.size + 1) (by simp)).trans HY0.out
  have HB3 := Lib.hid (HB0.out.trans (hB3.mono (by simp; omega)))
  obtain ⟨y0, y1, y2, y3, y4⟩ := sys9 hy3
  have yf0 : w3.frozen? ⟨w.heap.size + 1, 0, none⟩ = false := by simp [World.frozen?, hy3]
  have yf1 : w3.frozen? ⟨w.heap.size + 1, 1, none⟩ = false := by simp [World.frozen?, hy3]
  have yf2 : w3.frozen? ⟨w.heap.size + 1, 2, none⟩ = false := by simp [World.frozen?, hy3]
  have yf3 : w3.frozen? ⟨w.heap.size + 1, 3, none⟩ = false := by simp [World.frozen?, hy3]
  clear hB3 hy3 HBY HY0 HB0
  go_wp2_with fail
  refine bodyPost_ret (v := .tuple #[.agg #[.int .i64 0, .int .i64 s.lb, .int .i64 0, .slice ea 0 ec], .slice ta 0 tc, .nilIface]) (by simp [results, Tryz.results34, go_sem, y0, y1, y2, y3]) rfl ⟨ea, ta, ec, tc, rfl, ?_⟩
  exact (((HB3.out.setCell (by show w.heap.size ≤ w.heap.size + 1; omega) _).setCell (by show w.heap.size ≤ w.heap.size + 1; omega) _).setCell (by show w.heap.size ≤ w.heap.size + 1; omega) _).setCell (by show w.heap.size ≤ w.heap.size + 1; omega) _

set_option maxRecDepth 100000 in
set_option maxHeartbeats 4000000 in
theorem quoByZBra_any {p : Addr} {s : Lts} (h : s.Right) (hn : s.st = 0) {a : Option Addr} {b off c : Nat} {w : World} (hG : GErr 10 p w) (htab : Lib.TabIs Tryz.prog w "internal/strconv.uint64pow10" .u64 Lib.pow10Tab) (hS : SlAt encE 3 w a b off s.es) :
    Calls Tryz.prog 71 #[.agg #[.int .i64 s.st, .int .i64 s.lb, .int .i64 s.s0, .slice a s.es.length c], .func (.func 9) #[] #[], .bool true] w (QuoZero s.lb w) := by
  have hB0 := ((Below.refl w.heap.size w).alloc (Nat.le_refl _) (Obj.cells #[.int .i64 s.st, .int .i64 s.lb, .int .i64 s.s0, .slice a s.es.length c] 24)).alloc (by simp) (Obj.cells #[.int .i64 0, .int .i64 0, .int .i64 0, .slice none 0 0] 24)
  have hx0 := (((Below.refl _ _).alloc (Nat.le_refl _) (Obj.cells #[.int .i64 0, .int .i64 0, .int .i64 0, .slice none 0 0] 24)).block w.heap.size (by simp)).trans (heap_alloc_new w (Obj.cells #[.int .i64 s.st, .int .i64 s.lb, .int .i64 s.s0, .slice a s.es.length c] 24))
  have hy0 := heap_alloc_at (w.alloc (Obj.cells #[.int .i64 s.st, .int .i64 s.lb, .int .i64 s.s0, .slice a s.es.length c] 24)) (Obj.cells #[.int .i64 0, .int .i64 0, .int .i64 0, .slice none 0 0] 24) (w.heap.size + 1) (by simp)
  have HCK := Lib.hid (check_ok h a b off c _ (hG.below hB0) (hS.below hB0 (Nat.le_refl _)))
  have hel : s.es.length ≤ 900 := by rw [right_zero h hn]; simp
  have HB0 := Lib.hid hB0; have HX0 := Lib.hid hx0; have HY0 := Lib.hid hy0
  have HCL := Lib.hid (fun (W : World) (hB : Below w.heap.size w W) => brClasses_any (n := 0) (c := c) h hn hel (hG.below hB) (Lib.tabBelow_of_tabIs htab _ hB) (hS.below hB (Nat.le_refl _)))
  have HOF := Lib.hid (fun (W : World) (hB : Below w.heap.size w W) (ca : Option Addr) (cc : Nat) => quoOfZero_any (c := c) h hn (hG.below hB) (hS.below hB (Nat.le_refl _)) ca cc true)
  clear hB0 hx0 hy0 hS hG h hn hel htab
  go_enter Tryz.func71, Tryz.ntmps71
  go_wp2_with fail
  refine HCK.out.mono ?_
  rintro e w1 ⟨rfl, hB1⟩
  have hx1 := (hB1.block w.heap.size (by simp; omega)).trans HX0.out
  have HB1 := Lib.hid (HB0.out.trans (hB1.mono (by simp; omega))); have HX1 := Lib.hid hx1
  have HY1 := Lib.hid ((hB1.block (w.heap.size + 1) (by simp)).trans HY0.out)
  obtain ⟨x0, x1, x2, x3, x4⟩ := sys9 hx1
  clear hB1 hx1 HB0 HX0 HY0 HCK
  go_wp2_with fail
  refine (HCL.out _ HB1.out).mono ?_
  unfold BrPost
  rintro e w2 ⟨R, ca, cb, cc, hres, rfl, hown, hos, hB2⟩
  have hx2 := (hB2.block w.heap.size x4).trans HX1.out
  have hb2 := HB1.out.trans (hB2.mono HB1.out.size)
  have HY2 := Lib.hid ((hB2.block (w.heap.size + 1) (Array.getElem?_eq_some_iff.1 HY1.out).1).trans HY1.out)
  have HOF2 := Lib.hid (HOF.out _ hb2 ca cc)
  have HB2 := Lib.hid hb2
  clear x0 x1 x2 x3 x4
  obtain ⟨x0, x1, x2, x3, x4⟩ := sys9 hx2
  clear hB2 hx2 hb2 hown HB1 HX1 HY1 HCL HOF
  go_wp2_with fail
  refine HOF2.out.mono ?_
  unfold QuoZero
  rintro e w3 ⟨ea, ta, ec, tc, rfl, hB3⟩
  have hy3 := (hB3.block (w.heap.size + 1) (Array.getElem?_eq_some_iff.1 HY2.out).1).trans HY2.out
  have HB3 := Lib.hid (HB2.out.trans (hB3.mono HB2.out.size))
  obtain ⟨y0, y1, y2, y3, y4⟩ := sys9 hy3
  have yf0 : w3.frozen? ⟨w.heap.size + 1, 0, none⟩ = false := by simp [World.frozen?, hy3]
  have yf1 : w3.frozen? ⟨w.heap.size + 1, 1, none⟩ = false := by simp [World.frozen?, hy3]
  have yf2 : w3.frozen? ⟨w.heap.size + 1, 2, none⟩ = false := by simp [World.frozen?, hy3]
  have yf3 : w3.frozen? ⟨w.heap.size + 1, 3, none⟩ = false := by simp [World.frozen?, hy3]
  clear hB3 hy3 HOF2 HY2 HB2 x0 x1 x2 x3 x4
  go_wp2_with fail
  refine bodyPost_ret (v := .tuple #[.agg #[.int .i64 0, .int .i64 s.lb, .int .i64 0, .slice ea 0 ec], .slice ta 0 tc, .nilIface]) (by simp [results, Tryz.results71, go_sem, y0, y1, y2, y3]) rfl ⟨ea, ta, ec, tc, rfl, ?_⟩
  exact (((HB3.out.setCell (by show w.heap.size ≤ w.heap.size + 1; omega) _).setCell (by show w.heap.size ≤ w.heap.size + 1; omega) _).setCell (by show w.heap.size ≤ w.heap.size + 1; omega) _).setCell (by show w.heap.size ≤ w.heap.size + 1; omega) _

set_option maxRecDepth 100000 in
set_option maxHeartbeats 4000000 in
theorem quoZBra_any {p : Addr} {s : Lts} (h : s.Right) (hn : s.st = 0) {a : Option Addr} {b off c : Nat} {w : World} (hG : GErr 10 p w) (htab : Lib.TabIs Tryz.prog w "internal/strconv.uint64pow10" .u64 Lib.pow10Tab) (hS : SlAt encE 3 w a b off s.es) :
    Calls Tryz.prog 35 #[.agg #[.int .i64 s.st, .int .i64 s.lb, .int .i64 s.s0, .slice a s.es.length c]] w (QuoZero s.lb w) := by
  have hB0 := ((Below.refl w.heap.size w).alloc (Nat.le_refl _) (Obj.cells #[.int .i64 s.st, .int .i64 s.lb, .int .i64 s.s0, .slice a s.es.length c] 24)).alloc (by simp) (Obj.cells #[.int .i64 0, .int .i64 0, .int .i64 0, .slice none 0 0] 24)
  have hy0 := heap_alloc_at (w.alloc (Obj.cells #[.int .i64 s.st, .int .i64 s.lb, .int .i64 s.s0, .slice a s.es.length c] 24)) (Obj.cells #[.int .i64 0, .int .i64 0, .int .i64 0, .slice none 0 0] 24) (w.heap.size + 1) (by simp)
  have HBY := Lib.hid (quoByZBra_any (c := c) h hn (hG.below hB0) (Lib.tabBelow_of_tabIs htab _ hB0) (hS.below hB0 (Nat.le_refl _)))
  have HB0 := Lib.hid hB0; have HY0 := Lib.hid hy0
  clear hB0 hy0 hS hG h hn htab
  go_enter Tryz.func35, Tryz.ntmps35
  go_wp2_with fail
  refine HBY.out.mono ?_
  unfold QuoZero
  rintro e w3 ⟨ea, ta, ec, tc, rfl, hB3⟩
  have hy3 := (hB3.block (w.heap.size + 1) (by simp)).trans HY0.out
  have HB3 := Lib.hid (HB0.out.trans (hB3.mono (by simp; omega)))
  obtain ⟨y0, y1, y2, y3, y4⟩ := sys9 hy3
  have yf0 : w3.frozen? ⟨w.heap.size + 1, 0, none⟩ = false := by simp [World.frozen?, hy3]
  have yf1 : w3.frozen? ⟨w.heap.size + 1, 1, none⟩ = false := by simp [World.frozen?, hy3]
  have yf2 : w3.frozen? ⟨w.heap.size + 1, 2, none⟩ = false := by simp [World.frozen?, hy3]
  have yf3 : w3.frozen? ⟨w.heap.size + 1, 3, none⟩ = false := by simp [World.frozen?, hy3]
  clear hB3 hy3 HBY HY0 HB0
  go_wp2_with fail
  refine bodyPost_ret (v := .tuple #[.agg #[.int .i64 0, .int .i64 s.lb, .int .i64 0, .slice ea 0 ec], .slice ta 0 tc, .nilIface]) (by simp [results, Tryz.results35, go_sem, y0, y1, y2, y3]) rfl ⟨ea, ta, ec, tc, rfl, ?_⟩
  exact (((HB3.out.setCell (by show w.heap.size ≤ w.heap.size + 1; omega) _).setCell (by show w.heap.size ≤ w.heap.size + 1; omega) _).setCell (by show w.heap.size ≤ w.heap.size + 1; omega) _).setCell (by show w.heap.size ≤ w.heap.size + 1; omega) _
end Go.Proofs.YtmlmjhmdjieigaaGreatDoor

namespace Go.Proofs.YtmlmjhmdjieigaaGreatDoor
open Go.RowKit Pl

/-- What a maker of quotients answers: a system, the states' numbers, an error. -/
def Q3 (φ : Lts → List Int → Value → Prop) (w : World) (e : Ending) (w' : World) : Prop :=
  ∃ (Q : Lts) (T : List Int) (ev : Value) (ea ta : Option Addr) (eb ec tb tc : Nat), e = .returned (.tuple #[.agg #[.int .i64 Q.st, .int .i64 Q.lb, .int .i64 Q.s0, .slice ea Q.es.length ec], .slice ta T.length tc, ev]) ∧ φ Q T ev ∧ SlAt encE 3 w' ea eb 0 Q.es ∧ SlAt encI 1 w' ta tb 0 T ∧ (0 < Q.es.length → w.heap.size ≤ eb) ∧ (0 < T.length → w.heap.size ≤ tb) ∧ Below w.heap.size w w'
/-- .. of a right system that has states. -/
def phiYes (kind : Bool) (s : Lts) (n : Nat) (Q : Lts) (T : List Int) (ev : Value) : Prop :=
  ∃ C : Nat → Int, KBig kind s n C ∧ Q = quoSI (!kind) s.norm (fl n C) ∧ T = fl n (fun j => toI (quoD s.norm (fl n C)) (C j)) ∧ ev = .nilIface
def phiZero (s : Lts) (Q : Lts) (T : List Int) (ev : Value) : Prop := Q = ⟨0, s.lb, 0, []⟩ ∧ T = [] ∧ ev = .nilIface
def phiNo (Q : Lts) (T : List Int) (ev : Value) : Prop := Q = ⟨0, 0, 0, []⟩ ∧ T = [] ∧ ∃ fb : Nat, ev = .iface 92 (.pointer (some ⟨fb, 0, none⟩))

theorem q3_zero {s : Lts} {w : World} {e : Ending} {w' : World} (h : QuoZero s.lb w e w') : Q3 (phiZero s) w e w' := by
  obtain ⟨ea, ta, ec, tc, rfl, hB⟩ := h
  exact ⟨⟨0, s.lb, 0, []⟩, [], .nilIface, ea, ta, 0, ec, 0, tc, rfl, ⟨rfl, rfl, rfl⟩, slAt_nil _ _ _ _, slAt_nil _ _ _ _, fun h => by simp at h, fun h => by simp at h, hB⟩
theorem q3_no {w : World} {e : Ending} {w' : World} (h : QuoNo w e w') : Q3 phiNo w e w' := by
  obtain ⟨fb, rfl, hB⟩ := h
  exact ⟨⟨0, 0, 0, []⟩, [], .iface 92 (.pointer (some ⟨fb, 0, none⟩)), none, none, 0, 0, 0, 0, rfl, ⟨rfl, rfl, fb, rfl⟩, slAt_nil _ _ _ _, slAt_nil _ _ _ _, fun h => by simp at h, fun h => by simp at h, hB⟩
theorem q3_str {s : Lts} {n : Nat} {w : World} {e : Ending} {w' : World} (h : QuoStr s n w e w') : Q3 (phiYes true s n) w e w' := by
  obtain ⟨C, hb, ea, ta, eb, ec, tb, tc, rfl, h1, h2, h3, h4, hB⟩ := h
  refine ⟨quoS s.norm (fl n C), fl n (fun j => toI (quoD s.norm (fl n C)) (C j)), .nilIface, ea, ta, eb, ec, tb, tc, by rw [fl_len], ⟨C, ⟨hb.1, hb.2⟩, (quoSI_false _ _).symm, rfl, rfl⟩, h1, h2, h3, fun h => h4 (by rwa [fl_len] at h), hB⟩
theorem q3_bra {s : Lts} {n : Nat} {w : World} {e : Ending} {w' : World} (h : QuoBra s n w e w') : Q3 (phiYes false s n) w e w' := by
  obtain ⟨C, hb, ea, ta, eb, ec, tb, tc, rfl, h1, h2, h3, h4, hB⟩ := h
  refine ⟨quoSI true s.norm (fl n C), fl n (fun j => toI (quoD s.norm (fl n C)) (C j)), .nilIface, ea, ta, eb, ec, tb, tc, by rw [fl_len], ⟨C, ⟨hb.1, hb.2⟩, rfl, rfl, rfl⟩, h1, h2, h3, fun h => h4 (by rwa [fl_len] at h), hB⟩

set_option maxRecDepth 100000 in
set_option maxHeartbeats 4000000 in
theorem madeStr_any {w : World} {st lb s0 : Int} {v : Value} {φ : Lts → List Int → Value → Prop} (H : ∀ W, Below w.heap.size w W → Calls Tryz.prog 34 #[.agg #[.int .i64 st, .int .i64 lb, .int .i64 s0, v]] W (Q3 φ W)) :
    Calls Tryz.prog 14 #[.agg #[.int .i64 st, .int .i64 lb, .int .i64 s0, v], .bool true] w (Q3 φ w) := by
  have hB0 := ((Below.refl w.heap.size w).alloc (Nat.le_refl _) (Obj.cells #[.int .i64 st, .int .i64 lb, .int .i64 s0, v] 24)).alloc (by simp) (Obj.cells #[.int .i64 0, .int .i64 0, .int .i64 0, .slice none 0 0] 24)
  have hy0 := heap_alloc_at (w.alloc (Obj.cells #[.int .i64 st, .int .i64 lb, .int .i64 s0, v] 24)) (Obj.cells #[.int .i64 0, .int .i64 0, .int .i64 0, .slice none 0 0] 24) (w.heap.size + 1) (by simp)
  have HBY := Lib.hid (H _ hB0)
  have HB0 := Lib.hid hB0; have HY0 := Lib.hid hy0
  clear hB0 hy0 H
  go_enter Tryz.func14, Tryz.ntmps14
  go_wp2_with fail
  refine HBY.out.mono ?_
  unfold Q3
  rintro e w3 ⟨Q, T, ev, ea, ta, eb, ec, tb, tc, rfl, hphi, hes, hto, heb, htb, hB3⟩
  have hy3 := (hB3.block (w.heap.size + 1) (by simp)).trans HY0.out
  have hb3 := HB0.out.trans (hB3.mono (by simp; omega))
  simp only [World.size_alloc] at heb htb
  have HES := Lib.hid hes; have HTO := Lib.hid hto; have HB3 := Lib.hid hb3; have HY3 := Lib.hid hy3; have HPH := Lib.hid hphi
  obtain ⟨y0, y1, y2, y3, y4⟩ := sys9 hy3
  have yf0 : w3.frozen? ⟨w.heap.size + 1, 0, none⟩ = false := by simp [World.frozen?, hy3]
  have yf1 : w3.frozen? ⟨w.heap.size + 1, 1, none⟩ = false := by simp [World.frozen?, hy3]
  have yf2 : w3.frozen? ⟨w.heap.size + 1, 2, none⟩ = false := by simp [World.frozen?, hy3]
  have yf3 : w3.frozen? ⟨w.heap.size + 1, 3, none⟩ = false := by simp [World.frozen?, hy3]
  have HEB := Lib.hid heb; have HTB := Lib.hid htb
  clear hes hto hB3 hb3 hy3 hphi heb htb HBY HY0 HB0
  go_wp2_with fail
  have hEB : 0 < Q.es.length → eb ≠ w.heap.size + 1 := fun h => by have := HEB.out h; omega
  have hTB : 0 < T.length → tb ≠ w.heap.size + 1 := fun h => by have := HTB.out h; omega
  refine bodyPost_ret (v := .tuple #[.agg #[.int .i64 Q.st, .int .i64 Q.lb, .int .i64 Q.s0, .slice ea Q.es.length ec], .slice ta T.length tc, ev]) (by simp [results, Tryz.results14, go_sem, y0, y1, y2, y3]) rfl ⟨Q, T, ev, ea, ta, eb, ec, tb, tc, rfl, HPH.out, ?_, ?_, fun h => ?_, fun h => ?_, ?_⟩
  · exact (((HES.out.setOther hEB _).setOther hEB _).setOther hEB _).setOther hEB _
  · exact (((HTO.out.setOther hTB _).setOther hTB _).setOther hTB _).setOther hTB _
  · have := HEB.out h; omega
  · have := HTB.out h; omega
  · exact (((HB3.out.setCell (by show w.heap.size ≤ w.heap.size + 1; omega) _).setCell (by show w.heap.size ≤ w.heap.size + 1; omega) _).setCell (by show w.heap.size ≤ w.heap.size + 1; omega) _).setCell (by show w.heap.size ≤ w.heap.size + 1; omega) _

set_option maxRecDepth 100000 in
set_option maxHeartbeats 4000000 in
theorem madeBra_any {w : World} {st lb s0 : Int} {v : Value} {φ : Lts → List Int → Value → Prop} (H : ∀ W, Below w.heap.size w W → Calls Tryz.prog 35 #[.agg #[.int .i64 st, .int .i64 lb, .int .i64 s0, v]] W (Q3 φ W)) :
    Calls Tryz.prog 14 #[.agg #[.int .i64 st, .int .i64 lb, .int .i64 s0, v], .bool false] w (Q3 φ w) := by
  have hB0 := ((Below.refl w.heap.size w).alloc (Nat.le_refl _) (Obj.cells #[.int .i64 st, .int .i64 lb, .int .i64 s0, v] 24)).alloc (by simp) (Obj.cells #[.int .i64 0, .int .i64 0, .int .i64 0, .slice none 0 0] 24)
  have hy0 := heap_alloc_at (w.alloc (Obj.cells #[.int .i64 st, .int .i64 lb, .int .i64 s0, v] 24)) (Obj.cells #[.int .i64 0, .int .i64 0, .int .i64 0, .slice none 0 0] 24) (w.heap.size + 1) (by simp)
  have HBY := Lib.hid (H _ hB0)
  have HB0 := Lib.hid hB0; have HY0 := Lib.hid hy0
  clear hB0 hy0 H
  go_enter Tryz.func14, Tryz.ntmps14
  go_wp2_with fail
  refine HBY.out.mono ?_
  unfold Q3
  rintro e w3 ⟨Q, T, ev, ea, ta, eb, ec, tb, tc, rfl, hphi, hes, hto, heb, htb, hB3⟩
  have hy3 := (hB3.block (w.heap.size + 1) (by simp)).trans HY0.out
  have hb3 := HB0.out.trans (hB3.mono (by simp; omega))
  simp only [World.size_alloc] at heb htb
  have HES := Lib.hid hes; have HTO := Lib.hid hto; have HB3 := Lib.hid hb3; have HY3 := Lib.hid hy3; have HPH := Lib.hid hphi
  obtain ⟨y0, y1, y2, y3, y4⟩ := sys9 hy3
  have yf0 : w3.frozen? ⟨w.heap.size + 1, 0, none⟩ = false := by simp [World.frozen?, hy3]
  have yf1 : w3.frozen? ⟨w.heap.size + 1, 1, none⟩ = false := by simp [World.frozen?, hy3]
  have yf2 : w3.frozen? ⟨w.heap.size + 1, 2, none⟩ = false := by simp [World.frozen?, hy3]
  have yf3 : w3.frozen? ⟨w.heap.size + 1, 3, none⟩ = false := by simp [World.frozen?, hy3]
  have HEB := Lib.hid heb; have HTB := Lib.hid htb
  clear hes hto hB3 hb3 hy3 hphi heb htb HBY HY0 HB0
  go_wp2_with fail
  have hEB : 0 < Q.es.length → eb ≠ w.heap.size + 1 := fun h => by have := HEB.out h; omega
  have hTB : 0 < T.length → tb ≠ w.heap.size + 1 := fun h => by have := HTB.out h; omega
  refine bodyPost_ret (v := .tuple #[.agg #[.int .i64 Q.st, .int .i64 Q.lb, .int .i64 Q.s0, .slice ea Q.es.length ec], .slice ta T.length tc, ev]) (by simp [results, Tryz.results14, go_sem, y0, y1, y2, y3]) rfl ⟨Q, T, ev, ea, ta, eb, ec, tb, tc, rfl, HPH.out, ?_, ?_, fun h => ?_, fun h => ?_, ?_⟩
  · exact (((HES.out.setOther hEB _).setOther hEB _).setOther hEB _).setOther hEB _
  · exact (((HTO.out.setOther hTB _).setOther hTB _).setOther hTB _).setOther hTB _
  · have := HEB.out h; omega
  · have := HTB.out h; omega
  · exact (((HB3.out.setCell (by show w.heap.size ≤ w.heap.size + 1; omega) _).setCell (by show w.heap.size ≤ w.heap.size + 1; omega) _).setCell (by show w.heap.size ≤ w.heap.size + 1; omega) _).setCell (by show w.heap.size ≤ w.heap.size + 1; omega) _

/-- made, of whatever kind. -/
theorem made_yes {p : Addr} {s : Lts} {n : Nat} (h : s.Right) (hn : s.st = (n : Int)) (hn0 : 0 < n) (hb : n * s.es.length ≤ 10000) (hel : s.es.length ≤ 900) {a : Option Addr} {b off c : Nat} {w : World} (hG : GErr 10 p w) (htab : Lib.TabIs Tryz.prog w "internal/strconv.uint64pow10" .u64 Lib.pow10Tab) (hS : SlAt encE 3 w a b off s.es) (kind : Bool) :
    Calls Tryz.prog 14 #[.agg #[.int .i64 s.st, .int .i64 s.lb, .int .i64 s.s0, .slice a s.es.length c], .bool kind] w (Q3 (phiYes kind s n) w) := by
  cases kind with
  | true => exact madeStr_any (fun W hB => (quoStrong_any (c := c) h hn hn0 hb (hG.below hB) (hS.below hB (Nat.le_refl _))).mono (fun _ _ h => q3_str h))
  | false => exact madeBra_any (fun W hB => (quoBranching_any (c := c) h hn hn0 hb (hG.below hB) (Lib.tabBelow_of_tabIs htab _ hB) hel (hS.below hB (Nat.le_refl _))).mono (fun _ _ h => q3_bra h))
theorem made_zero {p : Addr} {s : Lts} (h : s.Right) (hn : s.st = 0) {a : Option Addr} {b off c : Nat} {w : World} (hG : GErr 10 p w) (htab : Lib.TabIs Tryz.prog w "internal/strconv.uint64pow10" .u64 Lib.pow10Tab) (hS : SlAt encE 3 w a b off s.es) (kind : Bool) :
    Calls Tryz.prog 14 #[.agg #[.int .i64 s.st, .int .i64 s.lb, .int .i64 s.s0, .slice a s.es.length c], .bool kind] w (Q3 (phiZero s) w) := by
  cases kind with
  | true => exact madeStr_any (fun W hB => (quoZStr_any (c := c) h hn (hG.below hB) (hS.below hB (Nat.le_refl _))).mono (fun _ _ h => q3_zero h))
  | false => exact madeBra_any (fun W hB => (quoZBra_any (c := c) h hn (hG.below hB) (Lib.tabBelow_of_tabIs htab _ hB) (hS.below hB (Nat.le_refl _))).mono (fun _ _ h => q3_zero h))
end Go.Proofs.YtmlmjhmdjieigaaGreatDoor

namespace Go.Proofs.YtmlmjhmdjieigaaGreatDoor
open Go.RowKit Pl

set_option maxRecDepth 100000 in
set_option maxHeartbeats 4000000 in
theorem quoByNoB_any {p : Addr} {s : Lts} (h : ¬ s.Right) {a : Option Addr} {b off c : Nat} {w : World} {kind : Value} (hG : GErr 10 p w) (hT : ErrType w) (hS : SlAt encE 3 w a b off s.es) :
    Calls Tryz.prog 71 #[.agg #[.int .i64 s.st, .int .i64 s.lb, .int .i64 s.s0, .slice a s.es.length c], kind, .bool true] w (QuoNo w) := by
  have hB0 := ((Below.refl w.heap.size w).alloc (Nat.le_refl _) (Obj.cells #[.int .i64 s.st, .int .i64 s.lb, .int .i64 s.s0, .slice a s.es.length c] 24)).alloc (by simp) (Obj.cells #[.int .i64 0, .int .i64 0, .int .i64 0, .slice none 0 0] 24)
  have hy0 := heap_alloc_at (w.alloc (Obj.cells #[.int .i64 s.st, .int .i64 s.lb, .int .i64 s.s0, .slice a s.es.length c] 24)) (Obj.cells #[.int .i64 0, .int .i64 0, .int .i64 0, .slice none 0 0] 24) (w.heap.size + 1) (by simp)
  have HCK := Lib.hid (check_no h a b off c _ (hG.below hB0) (hS.below hB0 (Nat.le_refl _)))
  have HB0 := Lib.hid hB0; have HY0 := Lib.hid hy0; have HT := Lib.hid hT
  clear hB0 hy0 hS hG hT h
  go_enter Tryz.func71, Tryz.ntmps71
  go_wp2_with fail
  refine HCK.out.mono ?_
  rintro e w1 ⟨v, rfl, hF, hB1⟩
  obtain ⟨fb, rfl, hfb⟩ := hF.ex
  have HB1 := Lib.hid (HB0.out.trans (hB1.mono (by simp; omega)))
  have HA := Lib.hid (faultAs_any quoName (HT.out.below HB1.out) hfb)
  have HY1 := Lib.hid ((hB1.block (w.heap.size + 1) (by simp)).trans HY0.out)
  clear hB1 hfb hF HY0 HB0 HCK
  unfold quoName at HA
  go_wp2_with fail
  refine HA.out.mono ?_
  rintro e w2 ⟨v, rfl, hF2, hB2⟩
  obtain ⟨fb, rfl, hfb⟩ := hF2.ex
  have HB2 := Lib.hid (HB1.out.trans (hB2.mono HB1.out.size))
  have hy2 := (hB2.block (w.heap.size + 1) (Array.getElem?_eq_some_iff.1 HY1.out).1).trans HY1.out
  obtain ⟨y0, y1, y2, y3, y4⟩ := sys9 hy2
  have yf0 : w2.frozen? ⟨w.heap.size + 1, 0, none⟩ = false := by simp [World.frozen?, hy2]
  have yf1 : w2.frozen? ⟨w.heap.size + 1, 1, none⟩ = false := by simp [World.frozen?, hy2]
  have yf2 : w2.frozen? ⟨w.heap.size + 1, 2, none⟩ = false := by simp [World.frozen?, hy2]
  have yf3 : w2.frozen? ⟨w.heap.size + 1, 3, none⟩ = false := by simp [World.frozen?, hy2]
  clear hF2 hfb hB2 hy2 HY1 HB1 HA
  go_wp2_with fail
  refine bodyPost_ret (v := .tuple #[.agg #[.int .i64 0, .int .i64 0, .int .i64 0, .slice none 0 0], .slice none 0 0, .iface 92 (.pointer (some ⟨fb, 0, none⟩))]) (by simp [results, Tryz.results71, go_sem, y0, y1, y2, y3]) rfl ⟨fb, rfl, ?_⟩
  exact (((HB2.out.setCell (by show w.heap.size ≤ w.heap.size + 1; omega) _).setCell (by show w.heap.size ≤ w.heap.size + 1; omega) _).setCell (by show w.heap.size ≤ w.heap.size + 1; omega) _).setCell (by show w.heap.size ≤ w.heap.size + 1; omega) _

set_option maxRecDepth 100000 in
set_option maxHeartbeats 4000000 in
theorem quoBranchingNo_any {p : Addr} {s : Lts} (h : ¬ s.Right) {a : Option Addr} {b off c : Nat} {w : World} (hG : GErr 10 p w) (hT : ErrType w) (hS : SlAt encE 3 w a b off s.es) :
    Calls Tryz.prog 35 #[.agg #[.int .i64 s.st, .int .i64 s.lb, .int .i64 s.s0, .slice a s.es.length c]] w (QuoNo w) := by
  have hB0 := ((Below.refl w.heap.size w).alloc (Nat.le_refl _) (Obj.cells #[.int .i64 s.st, .int .i64 s.lb, .int .i64 s.s0, .slice a s.es.length c] 24)).alloc (by simp) (Obj.cells #[.int .i64 0, .int .i64 0, .int .i64 0, .slice none 0 0] 24)
  have hy0 := heap_alloc_at (w.alloc (Obj.cells #[.int .i64 s.st, .int .i64 s.lb, .int .i64 s.s0, .slice a s.es.length c] 24)) (Obj.cells #[.int .i64 0, .int .i64 0, .int .i64 0, .slice none 0 0] 24) (w.heap.size + 1) (by simp)
  have HBY := Lib.hid (quoByNoB_any (c := c) (kind := .func (.func 9) #[] #[]) h (hG.below hB0) (hT.below hB0) (hS.below hB0 (Nat.le_refl _)))
  have HB0 := Lib.hid hB0; have HY0 := Lib.hid hy0
  clear hB0 hy0 hS hG hT h
  go_enter Tryz.func35, Tryz.ntmps35
  go_wp2_with fail
  refine HBY.out.mono ?_
  rintro e w2 ⟨fb, rfl, hB2⟩
  have HB2 := Lib.hid (HB0.out.trans (hB2.mono (by simp; omega)))
  have hy2 := (hB2.block (w.heap.size + 1) (by simp)).trans HY0.out
  obtain ⟨y0, y1, y2, y3, y4⟩ := sys9 hy2
  have yf0 : w2.frozen? ⟨w.heap.size + 1, 0, none⟩ = false := by simp [World.frozen?, hy2]
  have yf1 : w2.frozen? ⟨w.heap.size + 1, 1, none⟩ = false := by simp [World.frozen?, hy2]
  have yf2 : w2.frozen? ⟨w.heap.size + 1, 2, none⟩ = false := by simp [World.frozen?, hy2]
  have yf3 : w2.frozen? ⟨w.heap.size + 1, 3, none⟩ = false := by simp [World.frozen?, hy2]
  clear hB2 hy2 HY0 HB0 HBY
  go_wp2_with fail
  refine bodyPost_ret (v := .tuple #[.agg #[.int .i64 0, .int .i64 0, .int .i64 0, .slice none 0 0], .slice none 0 0, .iface 92 (.pointer (some ⟨fb, 0, none⟩))]) (by simp [results, Tryz.results35, go_sem, y0, y1, y2, y3]) rfl ⟨fb, rfl, ?_⟩
  exact (((HB2.out.setCell (by show w.heap.size ≤ w.heap.size + 1; omega) _).setCell (by show w.heap.size ≤ w.heap.size + 1; omega) _).setCell (by show w.heap.size ≤ w.heap.size + 1; omega) _).setCell (by show w.heap.size ≤ w.heap.size + 1; omega) _

theorem made_no {p : Addr} {s : Lts} (h : ¬ s.Right) {a : Option Addr} {b off c : Nat} {w : World} (hG : GErr 10 p w) (hT : ErrType w) (hS : SlAt encE 3 w a b off s.es) (kind : Bool) :
    Calls Tryz.prog 14 #[.agg #[.int .i64 s.st, .int .i64 s.lb, .int .i64 s.s0, .slice a s.es.length c], .bool kind] w (Q3 phiNo w) := by
  cases kind with
  | true => exact madeStr_any (fun W hB => (quoStrongNo_any (c := c) h (hG.below hB) (hT.below hB) (hS.below hB (Nat.le_refl _))).mono (fun _ _ h => q3_no h))
  | false => exact madeBra_any (fun W hB => (quoBranchingNo_any (c := c) h (hG.below hB) (hT.below hB) (hS.below hB (Nat.le_refl _))).mono (fun _ _ h => q3_no h))
end Go.Proofs.YtmlmjhmdjieigaaGreatDoor

namespace Go.Proofs.YtmlmjhmdjieigaaGreatDoor
open Go.RowKit Pl

theorem small14_any (s0 st lb : Int) (a : Option Addr) (m c : Nat) (w : World) :
    Calls Tryz.prog 12 #[.agg #[.int .i64 st, .int .i64 lb, .int .i64 s0, .slice a m c]] w fun e w' => e = .returned (.bool (decide (st ≤ 40) && decide (m ≤ 250))) ∧ Below w.heap.size w w' := by
  have hb := (Below.refl w.heap.size w).alloc (Nat.le_refl _) (.cells #[.int .i64 st, .int .i64 lb, .int .i64 s0, .slice a m c] 24)
  by_cases h1 : st ≤ 40
  · have e1 : decide (st ≤ 40) = true := by simp [h1]
    have HE1 := Lib.hid e1
    by_cases h2 : m ≤ 250
    · have e2 : decide (m ≤ 250) = true := by simp [h2]
      have HE2 := Lib.hid e2
      have h2' : (m : Int) ≤ 250 := by omega
      clear e1 e2
      rw [HE1.out, HE2.out]
      go_enter Tryz.func12, Tryz.ntmps12
      go_wp2
      go_ret
      exact ⟨rfl, hb⟩
    · have e2 : decide (m ≤ 250) = false := by simp [h2]
      have HE2 := Lib.hid e2
      have h2' : ¬ (m : Int) ≤ 250 := by omega
      clear e1 e2
      rw [HE1.out, HE2.out]
      go_enter Tryz.func12, Tryz.ntmps12
      go_wp2
      go_ret
      exact ⟨rfl, hb⟩
  · have e1 : decide (st ≤ 40) = false := by simp [h1]
    rw [e1, Bool.false_and]
    clear e1
    go_enter Tryz.func12, Tryz.ntmps12
    go_wp2
    go_ret
    exact ⟨rfl, hb⟩

namespace Pl
def al14 : Lts := ⟨3, 2, 0, [(0, 1, 1), (0, 1, 2)]⟩
theorem al14_right : al14.Right := ⟨by unfold HeadBad al14; simp, by decide⟩
theorem al14_norm : al14.norm = al14 := by
  unfold Lts.norm
  have : nf ltE al14.es = al14.es := by decide
  rw [this]
theorem al14_big {C : Nat → Int} (h : Big al14 3 C) : C 0 ≠ C 1 ∧ C 1 = C 2 := by
  have hs : ∀ p l t, stp al14 p l t ↔ l = 1 ∧ p = 0 ∧ (t = 1 ∨ t = 2) := fun p l t => by
    unfold stp al14
    simp only [List.mem_cons, Prod.mk.injEq, List.not_mem_nil, or_false]
    omega
  constructor
  · intro e
    obtain ⟨u, _, h1, _⟩ := (h.bis 0 1 (by omega) (by omega) e).1 1 1 (by omega) ((hs _ _ _).2 (by omega))
    rw [hs] at h1; omega
  · exact h.all (fun p q => p = q ∨ (p = 1 ∧ q = 2) ∨ (p = 2 ∧ q = 1)) (fun p q hp hq hr => by
      refine ⟨fun l t ht hst => ?_, fun l t ht hst => ?_⟩
      · rw [hs] at hst
        rcases hr with rfl | ⟨rfl, rfl⟩ | ⟨rfl, rfl⟩
        · exact ⟨t, ht, (hs _ _ _).2 hst, .inl rfl⟩
        · omega
        · omega
      · rw [hs] at hst
        rcases hr with rfl | ⟨rfl, rfl⟩ | ⟨rfl, rfl⟩
        · exact ⟨t, ht, (hs _ _ _).2 hst, .inl rfl⟩
        · omega
        · omega) 1 2 (by omega) (by omega) (.inr (.inl ⟨rfl, rfl⟩))
theorem al14_reach : reachL al14 = [0, 1, 2] := by
  have h0 : Rch al14 0 := Rch.start al14
  have h1 : Rch al14 1 := h0.step (l := 1) (by decide)
  have h2 : Rch al14 2 := h0.step (l := 1) (by decide)
  unfold reachL
  show List.filter _ [(0 : Int), 1, 2] = _
  simp [h0, h1, h2]
theorem al14_quo {C : Nat → Int} (h : Big al14 3 C) : quoS al14 (fl 3 C) = ⟨2, 2, 0, [(0, 1, 1)]⟩ ∧ fl 3 (fun j => toI (quoD al14 (fl 3 C)) (C j)) = [0, 1, 1] := by
  obtain ⟨h1, h2⟩ := al14_big h
  have a0 : atL (fl 3 C) 0 = C 0 := atLF (n := 3) (f := C) (t := 0) (by omega)
  have a1 : atL (fl 3 C) 1 = C 1 := atLF (n := 3) (f := C) (t := 1) (by omega)
  have a2 : atL (fl 3 C) 2 = C 2 := atLF (n := 3) (f := C) (t := 2) (by omega)
  have hd : quoD al14 (fl 3 C) = [C 0, C 1] := by
    unfold quoD clsL
    rw [al14_reach]
    simp only [List.map_cons, List.map_nil, a0, a1, a2, ← h2]
    have e : ([C 0, C 1, C 1] : List Int) = [] ++ [C 0] ++ [C 1] ++ [C 1] := rfl
    rw [e, dist_snoc, dist_snoc, dist_snoc]
    unfold addN
    simp [dist, Ne.symm h1]
  have t0 : toI [C 0, C 1] (C 0) = 0 := by unfold toI; simp
  have t1 : toI [C 0, C 1] (C 1) = 1 := by
    have e : (C 0 == C 1) = false := by simp [h1]
    unfold toI
    simp [List.idxOf_cons, e]
  have o0 : al14.outs 0 = [(1, 1), (1, 2)] := by decide
  have o1 : al14.outs 1 = [] := by decide
  have o2 : al14.outs 2 = [] := by decide
  have he : quoE al14 (fl 3 C) [C 0, C 1] [0, 1, 2] = [(0, 1, 1), (0, 1, 1)] := by
    unfold quoE
    simp [o0, o1, o2, a0, a1, a2, ← h2, t0, t1]
  constructor
  · unfold quoS
    rw [hd, al14_reach, he]
    have : nf ltE [((0 : Int), (1 : Int), (1 : Int)), (0, 1, 1)] = [(0, 1, 1)] := by decide
    rw [this]
    have : al14.s0 = 0 := rfl
    rw [this, a0, t0]
    rfl
  · rw [hd]
    unfold fl
    show [toI [C 0, C 1] (C 0), toI [C 0, C 1] (C 1), toI [C 0, C 1] (C 2)] = _
    rw [← h2, t0, t1]
end Pl

set_option maxRecDepth 100000 in
set_option maxHeartbeats 4000000 in
theorem alive14_any {w : World} {p : Addr} (hG : GErr 10 p w) :
    Calls Tryz.prog 13 #[] w fun e w' => e = .returned (.bool true) ∧ Below w.heap.size w w' := by
  have HG := Lib.hid hG
  clear hG
  go_enter Tryz.func13, Tryz.ntmps13
  go_wp2_with fail
  have hS : SlAt encE 3 (w.alloc (.cells #[.int .i64 0, .int .i64 1, .int .i64 1, .int .i64 0, .int .i64 1, .int .i64 2] 54)) (some ⟨w.heap.size, 0, none⟩) w.heap.size 0 al14.es := by
    have h := ((Rws.nil (Below.refl w.heap.size w)).addLit #[.int .i64 0, .int .i64 1, .int .i64 1, .int .i64 0, .int .i64 1, .int .i64 2] 54 (k := 3) (n := 2) (by decide) rfl).slO (enc := encE) (i := 0) (ys := al14.es) rfl lenE rfl
    exact h
  have hB0 := ((Below.refl w.heap.size w).alloc (Nat.le_refl _) (.cells #[.int .i64 0, .int .i64 1, .int .i64 1, .int .i64 0, .int .i64 1, .int .i64 2] 54)).alloc (by simp) (.cells #[.int .i64 3, .int .i64 2, .int .i64 0, .slice (some ⟨w.heap.size, 0, none⟩) 2 2] 24)
  have hS1 := hS.below ((Below.refl _ _).alloc (Nat.le_refl _) (.cells #[.int .i64 3, .int .i64 2, .int .i64 0, .slice (some ⟨w.heap.size, 0, none⟩) 2 2] 24)) (Nat.le_refl _)
  have HQ := Lib.hid (quoStrong_any (s := al14) (n := 3) (c := 2) al14_right rfl (by omega) (by decide) (HG.out.below hB0) hS1)
  have HB0 := Lib.hid hB0
  clear hS hS1 hB0 HG
  refine HQ.out.mono ?_
  unfold QuoStr QuoPost
  rintro e w1 ⟨C, ⟨hbig, hz9⟩, ea, ta, eb, ec, tb, tc, rfl, hes, hto, heb, htb, hB1⟩
  clear hz9
  rw [al14_norm, (al14_quo hbig).1] at hes
  rw [al14_norm, (al14_quo hbig).2] at hto
  rw [al14_norm, (al14_quo hbig).1]
  obtain rfl := hto.ad (by decide)
  have l3 := hto.ci (i := 2) (x := 1) rfl
  have ll := hto.lt (by decide)
  simp only [Nat.zero_add] at l3
  have HB1 := Lib.hid ((HB0.out.trans (hB1.mono (by simp; omega))).alloc (by have := hB1.size; simp at this; omega) (.cells #[.int .i64 2, .int .i64 2, .int .i64 0, .slice ea 1 ec] 24))
  clear hbig hes hto heb htb hB1 HQ HB0
  go_wp2_with fail
  go_ret
  exact ⟨rfl, HB1.out⟩
end Go.Proofs.YtmlmjhmdjieigaaGreatDoor

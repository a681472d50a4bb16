/-
  semblanceref7.Right: is it a system?
  semblanceref1.On, semblanceref7.Check, semblanceref7.Handed, semblanceref13.Guard.
  law13.light.
  A row of lists of numbers that grow one by one, all of them rows of the call's own.
  Plain: numbering by first occurrence, by whatever key.
-/
import Derived.Test.YtdhloijdefnkpaaGreatDoorRefSort2
import Derived.Test.YtdhloijdefnkpaaGreatDoorGLaidWcl
import Derived.Test.YtdhloijdefnkpaaGreatDoorGWkC
import Derived.Test.YtdhloijdefnkpaaGreatDoorTauI
import Derived.Test.YtdhloijdefnkpaaGreatDoorGKeyS
import Derived.Test.YtdhloijdefnkpaaGreatDoorGPl10
import Derived.Test.YtdhloijdefnkpaaGreatDoorGBrT
namespace Go.Proofs.YtdhloijdefnkpaaGreatDoor
open Go.RowKit Pl

set_option maxRecDepth 100000 in
set_option maxHeartbeats 1000000 in
theorem right_head (st lb s0 : Int) (a : Option Addr) (n c : Nat) (w : World) (h : HeadBad st lb s0 n) :
    Calls Tryz.prog 37 #[.agg #[.int .i64 st, .int .i64 lb, .int .i64 s0, .slice a n c]] w fun e w' => e = .returned (.bool false) ∧ Below w.heap.size w w' := by
  have key : (st < 0) ∨ (¬ st < 0 ∧ 1000 < st) ∨ (¬ st < 0 ∧ ¬ 1000 < st ∧ lb < 1) ∨ (¬ st < 0 ∧ ¬ 1000 < st ∧ ¬ lb < 1 ∧ 201 < lb) ∨ (¬ st < 0 ∧ ¬ 1000 < st ∧ ¬ lb < 1 ∧ ¬ 201 < lb ∧ (10000 : Int) < (n : Int)) ∨
      (¬ st < 0 ∧ ¬ 1000 < st ∧ ¬ lb < 1 ∧ ¬ 201 < lb ∧ ¬ (10000 : Int) < (n : Int) ∧ (st == 0) = true ∧ (s0 != 0) = true) ∨
      (¬ st < 0 ∧ ¬ 1000 < st ∧ ¬ lb < 1 ∧ ¬ 201 < lb ∧ ¬ (10000 : Int) < (n : Int) ∧ (st == 0) = false ∧ 0 < st ∧ s0 < 0) ∨
      (¬ st < 0 ∧ ¬ 1000 < st ∧ ¬ lb < 1 ∧ ¬ 201 < lb ∧ ¬ (10000 : Int) < (n : Int) ∧ (st == 0) = false ∧ 0 < st ∧ ¬ s0 < 0 ∧ st ≤ s0) := by
    unfold HeadBad at h
    simp only [beq_iff_eq, bne_iff_ne, beq_eq_false_iff_ne]
    omega
  clear h
  rcases key with h1 | ⟨h1, h2⟩ | ⟨h1, h2, h3⟩ | ⟨h1, h2, h3, h4⟩ | ⟨h1, h2, h3, h4, h5⟩ | ⟨h1, h2, h3, h4, h5, h6, h7⟩ | ⟨h1, h2, h3, h4, h5, h6, h7, h8⟩ | ⟨h1, h2, h3, h4, h5, h6, h7, h8, h9⟩
  all_goals
    go_enter Tryz.func37, Tryz.ntmps37
    go_wp2
    go_ret
    exact ⟨rfl, (Below.refl _ _).alloc (Nat.le_refl _) _⟩

set_option maxRecDepth 100000 in
set_option maxHeartbeats 2000000 in
theorem right_body {st lb s0 : Int} {xs : List E} (hh : ¬ HeadBad st lb s0 xs.length) {a : Option Addr} {b off c : Nat} {w : World} (hS : SlAt encE 3 w a b off xs) :
    Calls Tryz.prog 37 #[.agg #[.int .i64 st, .int .i64 lb, .int .i64 s0, .slice a xs.length c]] w fun e w' => e = .returned (.bool (xs.all fun x => !offB st lb x)) ∧ Below w.heap.size w w' := by
  unfold HeadBad at hh
  obtain ⟨h1, h2, h3, h4, h5, h6, h7⟩ : ¬ st < 0 ∧ ¬ 1000 < st ∧ ¬ lb < 1 ∧ ¬ 201 < lb ∧ ¬ s0 < 0 ∧ (s0 = 0 ∨ s0 < st) ∧ ¬ (10000 : Int) < (xs.length : Int) := by omega
  have key : ((st == 0) = true ∧ (s0 != 0) = false ∧ ¬ 0 < st) ∨ ((st == 0) = false ∧ 0 < st ∧ ¬ st ≤ s0) := by
    simp only [beq_iff_eq, bne_eq_false_iff_eq, beq_eq_false_iff_ne]
    omega
  have HS := Lib.hid hS
  clear hh h6 hS
  obtain ⟨C, hC⟩ : ∃ C, C = Obj.cells #[.int .i64 st, .int .i64 lb, .int .i64 s0, .slice a xs.length c] 24 := ⟨_, rfl⟩
  have HC := Lib.hid hC
  clear hC
  rcases key with ⟨k1, k2, k3⟩ | ⟨k1, k2, k3⟩
  · obtain rfl : st = 0 := by simpa using k1
    obtain rfl : s0 = 0 := by simpa using k2
    clear k1 k2 k3 h1 h2 h5
    go_enter Tryz.func37, Tryz.ntmps37
    go_wp2
    rw [← HC.out]
    go_loopw [3, 4] (fun i _ wr => ∃ k : Nat, k ≤ xs.length ∧ i = .int .i64 k ∧ (∀ j x, j < k → xs[j]? = some x → offB 0 lb x = false) ∧ Below (w.heap.size + 1) (w.alloc C) wr)
      (fun i _ _ => xs.length - (intOf i).toNat)
    case atStart => exact ⟨0, Nat.zero_le _, rfl, by intro j x hj; omega, Below.refl _ _⟩
    case round =>
      obtain ⟨k, hk, rfl, hz, hB⟩ := hrel
      have HZ := Lib.hid hz; clear hz
      have hsz : w.heap.size + 1 ≤ wr.heap.size := by simpa using hB.size
      have q0 : wr.heap[w.heap.size]? = some C := by
        rw [hB.block _ (by omega), heap_alloc_new]
      rw [HC.out] at q0
      have s0' : wr.cell? ⟨w.heap.size, 0, none⟩ = some (.int .i64 0) := by simp [World.cell?, q0]
      have s1' : wr.cell? ⟨w.heap.size, 1, none⟩ = some (.int .i64 lb) := by simp [World.cell?, q0]
      have s2' : wr.cell? ⟨w.heap.size, 2, none⟩ = some (.int .i64 0) := by simp [World.cell?, q0]
      have s3' : wr.cell? ⟨w.heap.size, 3, none⟩ = some (.slice a xs.length c) := by simp [World.cell?, q0]
      have hBw : Below w.heap.size w wr := ((Below.refl _ _).alloc (Nat.le_refl _) C).trans (hB.mono (by omega))
      have hltr : w.heap.size < wr.heap.size := by omega
      have HB := Lib.hid hB; have HBW := Lib.hid hBw
      clear q0 hB hBw
      by_cases hlt2 : k < xs.length
      · obtain ⟨x, hx⟩ := getElem?_of_lt hlt2
        have hS' := HS.out.below HBW.out (Nat.le_refl _)
        obtain rfl := hS'.ad (by omega)
        have c0 := hS'.e0 hx; have c1 := hS'.e1 hx; have c2 := hS'.e2 hx
        have hbl := hS'.lt (by omega)
        have hik : (k : Int) < (xs.length : Int) := by omega
        have HX := Lib.hid hx
        clear hx hS'
        obtain ⟨x1, x2, x3⟩ := x
        simp only at c0 c1 c2
        by_cases ho : offB 0 lb (x1, x2, x3) = true
        · have HO := Lib.hid ho
          have hall : xs.all (fun x => !offB 0 lb x) = false := by
            rw [List.all_eq_false]
            exact ⟨_, List.mem_of_getElem? HX.out, by simp [HO.out]⟩
          have HALL := Lib.hid hall
          have key2 : (x1 < 0) ∨ (¬ x1 < 0 ∧ 0 ≤ x1) := by
            simp only [offB, Bool.or_eq_true, decide_eq_true_eq] at ho
            omega
          clear ho hall
          rcases key2 with g1 | ⟨g1, g2⟩
          all_goals
            go_wp2
            go_ret
            exact ⟨ret_b (a := false) HALL.out.symm, ((HBW.out).alloc (by omega) _)⟩
        · exact absurd (by simp only [offB, Bool.or_eq_true, decide_eq_true_eq]; omega) ho
      · go_wp2
        go_ret
        have hall : xs.all (fun x => !offB 0 lb x) = true := by
          rw [List.all_eq_true]
          intro x hx
          obtain ⟨j, hj, rfl⟩ := List.getElem_of_mem hx
          simp [HZ.out j _ (by omega) (List.getElem?_eq_getElem hj)]
        exact ⟨ret_b (a := true) hall.symm, HBW.out⟩
  · go_enter Tryz.func37, Tryz.ntmps37
    go_wp2
    rw [← HC.out]
    go_loopw [3, 4] (fun i _ wr => ∃ k : Nat, k ≤ xs.length ∧ i = .int .i64 k ∧ (∀ j x, j < k → xs[j]? = some x → offB st lb x = false) ∧ Below (w.heap.size + 1) (w.alloc C) wr)
      (fun i _ _ => xs.length - (intOf i).toNat)
    case atStart => exact ⟨0, Nat.zero_le _, rfl, by intro j x hj; omega, Below.refl _ _⟩
    case round =>
      obtain ⟨k, hk, rfl, hz, hB⟩ := hrel
      have HZ := Lib.hid hz; clear hz
      have hsz : w.heap.size + 1 ≤ wr.heap.size := by simpa using hB.size
      have q0 : wr.heap[w.heap.size]? = some C := by
        rw [hB.block _ (by omega), heap_alloc_new]
      rw [HC.out] at q0
      have s0' : wr.cell? ⟨w.heap.size, 0, none⟩ = some (.int .i64 st) := by simp [World.cell?, q0]
      have s1' : wr.cell? ⟨w.heap.size, 1, none⟩ = some (.int .i64 lb) := by simp [World.cell?, q0]
      have s2' : wr.cell? ⟨w.heap.size, 2, none⟩ = some (.int .i64 s0) := by simp [World.cell?, q0]
      have s3' : wr.cell? ⟨w.heap.size, 3, none⟩ = some (.slice a xs.length c) := by simp [World.cell?, q0]
      have hBw : Below w.heap.size w wr := ((Below.refl _ _).alloc (Nat.le_refl _) C).trans (hB.mono (by omega))
      have hltr : w.heap.size < wr.heap.size := by omega
      have HB := Lib.hid hB; have HBW := Lib.hid hBw
      clear q0 hB hBw
      by_cases hlt2 : k < xs.length
      · obtain ⟨x, hx⟩ := getElem?_of_lt hlt2
        have hS' := HS.out.below HBW.out (Nat.le_refl _)
        obtain rfl := hS'.ad (by omega)
        have c0 := hS'.e0 hx; have c1 := hS'.e1 hx; have c2 := hS'.e2 hx
        have hbl := hS'.lt (by omega)
        have hik : (k : Int) < (xs.length : Int) := by omega
        have HX := Lib.hid hx
        clear hx hS'
        obtain ⟨x1, x2, x3⟩ := x
        simp only at c0 c1 c2
        by_cases ho : offB st lb (x1, x2, x3) = true
        · have HO := Lib.hid ho
          have hall : xs.all (fun x => !offB st lb x) = false := by
            rw [List.all_eq_false]
            exact ⟨_, List.mem_of_getElem? HX.out, by simp [HO.out]⟩
          have HALL := Lib.hid hall
          have key2 : (x1 < 0) ∨ (¬ x1 < 0 ∧ st ≤ x1) ∨ (¬ x1 < 0 ∧ ¬ st ≤ x1 ∧ x3 < 0) ∨ (¬ x1 < 0 ∧ ¬ st ≤ x1 ∧ ¬ x3 < 0 ∧ st ≤ x3) ∨ (¬ x1 < 0 ∧ ¬ st ≤ x1 ∧ ¬ x3 < 0 ∧ ¬ st ≤ x3 ∧ x2 < 0) ∨ (¬ x1 < 0 ∧ ¬ st ≤ x1 ∧ ¬ x3 < 0 ∧ ¬ st ≤ x3 ∧ ¬ x2 < 0 ∧ lb ≤ x2) := by
            simp only [offB, Bool.or_eq_true, decide_eq_true_eq] at ho
            omega
          clear ho hall
          rcases key2 with g1 | ⟨g1, g2⟩ | ⟨g1, g2, g3⟩ | ⟨g1, g2, g3, g4⟩ | ⟨g1, g2, g3, g4, g5⟩ | ⟨g1, g2, g3, g4, g5, g6⟩
          all_goals
            go_wp2
            go_ret
            exact ⟨ret_b (a := false) HALL.out.symm, ((HBW.out).alloc (by omega) _)⟩
        · have ho' : offB st lb (x1, x2, x3) = false := by simpa using ho
          have HO := Lib.hid ho'
          obtain ⟨g1, g2, g3, g4, g5, g6⟩ : ¬ x1 < 0 ∧ ¬ st ≤ x1 ∧ ¬ x3 < 0 ∧ ¬ st ≤ x3 ∧ ¬ x2 < 0 ∧ ¬ lb ≤ x2 := by
            simp only [offB, Bool.or_eq_true, decide_eq_true_eq] at ho
            omega
          clear ho ho'
          go_wp2
          go_roundw
          case rel => exact ⟨k + 1, by omega, by go_num, by
            intro j y hj hy
            by_cases hjk : j = k
            · subst hjk
              rw [HX.out] at hy
              simp at hy; subst hy
              exact HO.out
            · exact HZ.out j y (by omega) hy, HB.out.alloc (by omega) _⟩
          case measure => simp [intOf]; omega
      · go_wp2
        go_ret
        have hall : xs.all (fun x => !offB st lb x) = true := by
          rw [List.all_eq_true]
          intro x hx
          obtain ⟨j, hj, rfl⟩ := List.getElem_of_mem hx
          simp [HZ.out j _ (by omega) (List.getElem?_eq_getElem hj)]
        exact ⟨ret_b (a := true) hall.symm, HBW.out⟩

theorem right_yes {s : Lts} (h : s.Right) {a : Option Addr} {b off c : Nat} {w : World} (hS : SlAt encE 3 w a b off s.es) :
    Calls Tryz.prog 37 #[.agg #[.int .i64 s.st, .int .i64 s.lb, .int .i64 s.s0, .slice a s.es.length c]] w fun e w' => e = .returned (.bool true) ∧ Below w.heap.size w w' := by
  refine (right_body h.head hS).mono ?_
  rintro e w' ⟨rfl, hB⟩
  have : s.es.all (fun x => !offB s.st s.lb x) = true := by rw [List.all_eq_true]; intro x hx; simp [h.edges x hx]
  exact ⟨by rw [this], hB⟩
theorem right_no {s : Lts} (h : ¬ s.Right) {a : Option Addr} {b off c : Nat} {w : World} (hS : SlAt encE 3 w a b off s.es) :
    Calls Tryz.prog 37 #[.agg #[.int .i64 s.st, .int .i64 s.lb, .int .i64 s.s0, .slice a s.es.length c]] w fun e w' => e = .returned (.bool false) ∧ Below w.heap.size w w' := by
  by_cases hh : HeadBad s.st s.lb s.s0 s.es.length
  · exact right_head s.st s.lb s.s0 a s.es.length c w hh
  · refine (right_body hh hS).mono ?_
    rintro e w' ⟨rfl, hB⟩
    have : s.es.all (fun x => !offB s.st s.lb x) = false := by
      rw [Bool.eq_false_iff]; intro ha; rw [List.all_eq_true] at ha
      exact h ⟨hh, fun x hx => by simpa using ha x hx⟩
    exact ⟨by rw [this], hB⟩
end Go.Proofs.YtdhloijdefnkpaaGreatDoor

namespace Go.Proofs.YtdhloijdefnkpaaGreatDoor
open Go.RowKit Pl

theorem refOn_any (l x : ByteArray) (hl : l.size ≤ 1000) (hx : x.size ≤ 1000) {k : Int} (hk : k ≠ 0) (i j : Int) (w : World) : Calls Tryz.prog 71 #[.string l, .agg #[.int .i64 k, .int .i64 i, .int .i64 j, .string x]] w fun e w' => e = .returned (.agg #[.int .i64 k, .int .i64 i, .int .i64 j, .string (l ++ ⟨#[32]⟩ ++ x)]) ∧ Below w.heap.size w w' := by
  have hz1 : ¬ 9223372036854775807 < l.size + 1 := by omega
  have hz2 : ¬ 9223372036854775807 < l.size + 1 + x.size := by omega
  have hk1 : (k == 0) = false := by simp [hk]
  go_enter Tryz.func71, Tryz.ntmps71
  go_wp2_with fail
  refine bodyPost_ret (v := .agg #[.int .i64 k, .int .i64 i, .int .i64 j, .string (l ++ ⟨#[32]⟩ ++ x)]) (by simp [results, Tryz.results71, go_sem]) rfl ⟨rfl, ((Below.refl _ _).alloc (Nat.le_refl _) _).alloc (by simp) _⟩

theorem errC {w : World} {B : Nat} {x y z : Int} {u : ByteArray} (h : w.heap[B]? = some (.cells #[.int .i64 x, .int .i64 y, .int .i64 z, .string u] 43 (0, 0))) :
    (w.cell? ⟨B, 0, none⟩ = some (.int .i64 x) ∧ w.cell? ⟨B, 1, none⟩ = some (.int .i64 y) ∧ w.cell? ⟨B, 2, none⟩ = some (.int .i64 z) ∧ w.cell? ⟨B, 3, none⟩ = some (.string u)) ∧ (w.frozen? ⟨B, 0, none⟩ = false ∧ w.frozen? ⟨B, 1, none⟩ = false ∧ w.frozen? ⟨B, 2, none⟩ = false ∧ w.frozen? ⟨B, 3, none⟩ = false) ∧ B < w.heap.size := by
  refine ⟨⟨?_, ?_, ?_, ?_⟩, ⟨?_, ?_, ?_, ?_⟩, (Array.getElem?_eq_some_iff.1 h).1⟩ <;> simp [World.cell?, World.frozen?, h]
theorem errW (w : World) (o : Obj) : Below w.heap.size w ((w.alloc o).alloc (Obj.cells #[.int .i64 0, .int .i64 0, .int .i64 0, .string ⟨#[]⟩] 43)) ∧ ((w.alloc o).alloc (Obj.cells #[.int .i64 0, .int .i64 0, .int .i64 0, .string ⟨#[]⟩] 43)).heap[w.heap.size + 1]? = some (.cells #[.int .i64 0, .int .i64 0, .int .i64 0, .string ⟨#[]⟩] 43 (0, 0)) := by
  refine ⟨((Below.refl _ _).alloc (Nat.le_refl _) _).alloc (by simp) _, ?_⟩
  have h := heap_alloc_new (w.alloc o) (Obj.cells #[.int .i64 0, .int .i64 0, .int .i64 0, .string ⟨#[]⟩] 43)
  rw [show (w.alloc o).heap.size = w.heap.size + 1 by simp] at h
  exact h
theorem errS {w w' : World} (h : Below w.heap.size w w') (a b c d : Value) : Below w.heap.size w ((((w'.setCell ⟨w.heap.size + 1, 0, none⟩ a).setCell ⟨w.heap.size + 1, 1, none⟩ b).setCell ⟨w.heap.size + 1, 2, none⟩ c).setCell ⟨w.heap.size + 1, 3, none⟩ d) :=
  (((h.setCell (by show w.heap.size ≤ w.heap.size + 1; omega) _).setCell (by show w.heap.size ≤ w.heap.size + 1; omega) _).setCell (by show w.heap.size ≤ w.heap.size + 1; omega) _).setCell (by show w.heap.size ≤ w.heap.size + 1; omega) _

set_option maxRecDepth 100000 in
theorem refCheck_no {s : Lts} (h : ¬ s.Right) {a : Option Addr} {b off c : Nat} {w : World} (hS : SlAt encE 3 w a b off s.es) :
    Calls Tryz.prog 72 #[.agg #[.int .i64 s.st, .int .i64 s.lb, .int .i64 s.s0, .slice a s.es.length c]] w fun e w' => e = .returned (.agg #[.int .i64 14, .int .i64 0, .int .i64 0, .string (sysName ++ ⟨#[32]⟩)]) ∧ Below w.heap.size w w' := by
  have hbd := bad_any sysName (by decide) 14
  obtain ⟨el, hel⟩ : ∃ el, el = s.es.length := ⟨_, rfl⟩
  have hR : ∀ V, Below w.heap.size w V → _ := fun V (hV : Below w.heap.size w V) => right_no (c := c) h (hS.below hV (Nat.le_refl _))
  rw [← hel] at hR ⊢
  obtain ⟨hB0, hE0⟩ := errW w (Obj.cells #[.int .i64 s.st, .int .i64 s.lb, .int .i64 s.s0, .slice a el c] 24)
  have HR := Lib.hid (hR _ hB0); have HB0 := Lib.hid hB0; have HE0 := Lib.hid hE0
  unfold sysName at hbd ⊢
  clear hS h hel hR hB0 hE0
  go_enter Tryz.func72, Tryz.ntmps72
  go_wp2_with fail
  refine HR.out.mono ?_
  rintro e w2 ⟨rfl, hB2⟩
  have hx2 := (hB2.block (w.heap.size + 1) (by simp)).trans HE0.out
  have hb2 := HB0.out.trans (hB2.mono HB0.out.size)
  have HX2 := Lib.hid hx2; have HB2 := Lib.hid hb2
  clear hx2 hb2 hB2 HR HB0 HE0
  go_wp2_with fail
  refine (hbd _).mono ?_
  rintro e w3 ⟨rfl, hB3⟩
  have hx3 := (hB3.block _ (Array.getElem?_eq_some_iff.1 HX2.out).1).trans HX2.out
  have HB3 := Lib.hid (HB2.out.trans (hB3.mono HB2.out.size))
  obtain ⟨⟨z0, z1, z2, z3⟩, ⟨f0, f1, f2, f3⟩, zl⟩ := errC hx3
  clear hx3 hB3 HX2 HB2 hbd
  go_wp2_with fail
  refine bodyPost_ret (v := .agg #[.int .i64 14, .int .i64 0, .int .i64 0, .string (⟨#[115, 121, 115, 116, 101, 109]⟩ ++ ⟨#[32]⟩)]) (by simp [results, Tryz.results72, go_sem, z0, z1, z2, z3]) rfl ⟨rfl, errS HB3.out _ _ _ _⟩

set_option maxRecDepth 100000 in
theorem refHanded_no (l : ByteArray) (hl : l.size ≤ 900) {s : Lts} (h : ¬ s.Right) {a : Option Addr} {b off c : Nat} {w : World} (hS : SlAt encE 3 w a b off s.es) :
    Calls Tryz.prog 38 #[.string l, .agg #[.int .i64 s.st, .int .i64 s.lb, .int .i64 s.s0, .slice a s.es.length c]] w fun e w' => e = .returned (.agg #[.int .i64 14, .int .i64 0, .int .i64 0, .string (l ++ ⟨#[32]⟩ ++ sysName ++ ⟨#[32]⟩)]) ∧ Below w.heap.size w w' := by
  obtain ⟨hB0, hE0⟩ := errW w (Obj.cells #[.int .i64 s.st, .int .i64 s.lb, .int .i64 s.s0, .slice a s.es.length c] 24)
  have HCK := Lib.hid (refCheck_no (c := c) h (hS.below hB0 (Nat.le_refl _)))
  have hon := refOn_any l (sysName ++ ⟨#[32]⟩) (by omega) (by decide) (k := 14) (by decide) 0 0
  rw [← ByteArray.append_assoc] at hon
  obtain ⟨el, hel⟩ : ∃ el, el = s.es.length := ⟨_, rfl⟩
  rw [← hel] at HCK hB0 hE0 ⊢
  have HB0 := Lib.hid hB0; have HE0 := Lib.hid hE0
  obtain ⟨sx, hsx⟩ : ∃ sx, sx = sysName ++ ⟨#[32]⟩ := ⟨_, rfl⟩
  obtain ⟨rx, hrx⟩ : ∃ rx, rx = l ++ ⟨#[32]⟩ ++ sysName ++ ⟨#[32]⟩ := ⟨_, rfl⟩
  rw [← hsx] at HCK
  rw [← hrx] at hon ⊢
  rw [← hsx] at hon
  clear hS h hel hB0 hE0 hsx hrx
  go_enter Tryz.func38, Tryz.ntmps38
  go_wp2_with fail
  refine HCK.out.mono ?_
  rintro e w2 ⟨rfl, hB2⟩
  have hx2 := (hB2.block (w.heap.size + 1) (by simp)).trans HE0.out
  have hb2 := HB0.out.trans (hB2.mono HB0.out.size)
  have HX2 := Lib.hid hx2; have HB2 := Lib.hid hb2
  clear hx2 hb2 hB2 HCK HB0 HE0
  go_wp2_with fail
  refine (hon _).mono ?_
  rintro e w3 ⟨rfl, hB3⟩
  have hx3 := (hB3.block _ (Array.getElem?_eq_some_iff.1 HX2.out).1).trans HX2.out
  have HB3 := Lib.hid (HB2.out.trans (hB3.mono HB2.out.size))
  obtain ⟨⟨z0, z1, z2, z3⟩, ⟨f0, f1, f2, f3⟩, zl⟩ := errC hx3
  clear hx3 hB3 HX2 HB2 hon
  go_wp2_with fail
  refine bodyPost_ret (v := .agg #[.int .i64 14, .int .i64 0, .int .i64 0, .string rx]) (by simp [results, Tryz.results38, go_sem, z0, z1, z2, z3]) rfl ⟨rfl, errS HB3.out _ _ _ _⟩

set_option maxRecDepth 100000 in
theorem refGuard_no {s : Lts} (h : ¬ s.Right) {a : Option Addr} {b off c : Nat} {w : World} (hS : SlAt encE 3 w a b off s.es) :
    Calls Tryz.prog 17 #[.agg #[.int .i64 s.st, .int .i64 s.lb, .int .i64 s.s0, .slice a s.es.length c]] w fun e w' => e = .returned (.agg #[.int .i64 14, .int .i64 0, .int .i64 0, .string (weakName ++ ⟨#[32]⟩ ++ sysName ++ ⟨#[32]⟩)]) ∧ Below w.heap.size w w' := by
  obtain ⟨hB0, hE0⟩ := errW w (Obj.cells #[.int .i64 s.st, .int .i64 s.lb, .int .i64 s.s0, .slice a s.es.length c] 24)
  have HR := Lib.hid (right_no (c := c) h (hS.below hB0 (Nat.le_refl _)))
  have HHA : RowKit.Hid (∀ V, Below w.heap.size w V → Calls Tryz.prog 38 #[.string ⟨#[119, 101, 97, 107]⟩, .agg #[.int .i64 s.st, .int .i64 s.lb, .int .i64 s.s0, .slice a s.es.length c]] V fun e w' => e = .returned (.agg #[.int .i64 14, .int .i64 0, .int .i64 0, .string (weakName ++ ⟨#[32]⟩ ++ sysName ++ ⟨#[32]⟩)]) ∧ Below V.heap.size V w') := Lib.hid (fun V hV => refHanded_no weakName (by decide) h (hS.below hV (Nat.le_refl _)))
  obtain ⟨rx, hrx⟩ : ∃ rx, rx = weakName ++ ⟨#[32]⟩ ++ sysName ++ ⟨#[32]⟩ := ⟨_, rfl⟩
  rw [← hrx] at HHA ⊢
  obtain ⟨el, hel⟩ : ∃ el, el = s.es.length := ⟨_, rfl⟩
  rw [← hel] at HR HHA hB0 hE0 ⊢
  have HB0 := Lib.hid hB0; have HE0 := Lib.hid hE0
  have hbx : ((w.alloc (Obj.cells #[.int .i64 s.st, .int .i64 s.lb, .int .i64 s.s0, .slice a el c] 24)).alloc (Obj.cells #[.int .i64 0, .int .i64 0, .int .i64 0, .string ⟨#[]⟩] 43)).heap[w.heap.size]? = some (Obj.cells #[.int .i64 s.st, .int .i64 s.lb, .int .i64 s.s0, .slice a el c] 24) := by
    rw [((Below.refl (w.alloc (Obj.cells #[.int .i64 s.st, .int .i64 s.lb, .int .i64 s.s0, .slice a el c] 24)).heap.size _).alloc (Nat.le_refl _) (Obj.cells #[.int .i64 0, .int .i64 0, .int .i64 0, .string ⟨#[]⟩] 43)).block _ (by simp)]
    exact heap_alloc_new w _
  have HBX := Lib.hid hbx
  clear hS h hel hB0 hE0 hrx hbx
  go_enter Tryz.func17, Tryz.ntmps17
  go_wp2_with fail
  refine HR.out.mono ?_
  rintro e w2 ⟨rfl, hB2⟩
  have hx2 := (hB2.block (w.heap.size + 1) (by simp)).trans HE0.out
  obtain ⟨y0, y1, y2, y3, y4⟩ := sysC ((hB2.block w.heap.size (by simp; omega)).trans HBX.out)
  have hb2 := HB0.out.trans (hB2.mono HB0.out.size)
  have HX2 := Lib.hid hx2; have HB2 := Lib.hid hb2
  clear hx2 hb2 hB2 HR HB0 HE0 HBX
  go_wp2_with fail
  refine (HHA.out _ HB2.out).mono ?_
  rintro e w3 ⟨rfl, hB3⟩
  have hx3 := (hB3.block _ (Array.getElem?_eq_some_iff.1 HX2.out).1).trans HX2.out
  have HB3 := Lib.hid (HB2.out.trans (hB3.mono HB2.out.size))
  obtain ⟨⟨z0, z1, z2, z3⟩, ⟨f0, f1, f2, f3⟩, zl⟩ := errC hx3
  clear hx3 hB3 HX2 HB2 HHA y0 y1 y2 y3 y4
  go_wp2_with fail
  refine bodyPost_ret (v := .agg #[.int .i64 14, .int .i64 0, .int .i64 0, .string rx]) (by simp [results, Tryz.results17, go_sem, z0, z1, z2, z3]) rfl ⟨rfl, errS HB3.out _ _ _ _⟩

set_option maxRecDepth 100000 in
theorem refGuard_yes {s : Lts} (h : s.Right) {a : Option Addr} {b off c : Nat} {w : World} (hS : SlAt encE 3 w a b off s.es) :
    Calls Tryz.prog 17 #[.agg #[.int .i64 s.st, .int .i64 s.lb, .int .i64 s.s0, .slice a s.es.length c]] w fun e w' => e = .returned (if 300 < s.st then .agg #[.int .i64 2, .int .i64 0, .int .i64 0, .string (weakName ++ ⟨#[32]⟩)] else .agg #[.int .i64 0, .int .i64 0, .int .i64 0, .string ⟨#[]⟩]) ∧ Below w.heap.size w w' := by
  obtain ⟨hB0, hE0⟩ := errW w (Obj.cells #[.int .i64 s.st, .int .i64 s.lb, .int .i64 s.s0, .slice a s.es.length c] 24)
  have HR := Lib.hid (right_yes (c := c) h (hS.below hB0 (Nat.le_refl _)))
  have hbd := bad_any weakName (by decide) 2
  unfold weakName at hbd ⊢
  obtain ⟨gv, hgv⟩ : ∃ gv, gv = (if 300 < s.st then Value.agg #[.int .i64 2, .int .i64 0, .int .i64 0, .string ((⟨#[119, 101, 97, 107]⟩ : ByteArray) ++ ⟨#[32]⟩)] else .agg #[.int .i64 0, .int .i64 0, .int .i64 0, .string ⟨#[]⟩]) := ⟨_, rfl⟩
  rw [← hgv]
  obtain ⟨el, hel⟩ : ∃ el, el = s.es.length := ⟨_, rfl⟩
  rw [← hel] at HR hB0 hE0 ⊢
  have HB0 := Lib.hid hB0; have HE0 := Lib.hid hE0
  have hbx : ((w.alloc (Obj.cells #[.int .i64 s.st, .int .i64 s.lb, .int .i64 s.s0, .slice a el c] 24)).alloc (Obj.cells #[.int .i64 0, .int .i64 0, .int .i64 0, .string ⟨#[]⟩] 43)).heap[w.heap.size]? = some (Obj.cells #[.int .i64 s.st, .int .i64 s.lb, .int .i64 s.s0, .slice a el c] 24) := by
    rw [((Below.refl (w.alloc (Obj.cells #[.int .i64 s.st, .int .i64 s.lb, .int .i64 s.s0, .slice a el c] 24)).heap.size _).alloc (Nat.le_refl _) (Obj.cells #[.int .i64 0, .int .i64 0, .int .i64 0, .string ⟨#[]⟩] 43)).block _ (by simp)]
    exact heap_alloc_new w _
  have HBX := Lib.hid hbx
  clear hS h hel hB0 hE0 hbx
  go_enter Tryz.func17, Tryz.ntmps17
  go_wp2_with fail
  refine HR.out.mono ?_
  rintro e w2 ⟨rfl, hB2⟩
  have hx2 := (hB2.block (w.heap.size + 1) (by simp)).trans HE0.out
  obtain ⟨y0, y1, y2, y3, y4⟩ := sysC ((hB2.block w.heap.size (by simp; omega)).trans HBX.out)
  have hb2 := HB0.out.trans (hB2.mono HB0.out.size)
  have HX2 := Lib.hid hx2; have HB2 := Lib.hid hb2
  clear hx2 hb2 hB2 HR HB0 HE0 HBX
  by_cases hg : 300 < s.st
  · have hg1 : decide (300 < s.st) = true := by simp [hg]
    rw [if_pos hg] at hgv
    go_wp2_with fail
    refine (hbd _).mono ?_
    rintro e w3 ⟨rfl, hB3⟩
    have hx3 := (hB3.block _ (Array.getElem?_eq_some_iff.1 HX2.out).1).trans HX2.out
    have HB3 := Lib.hid (HB2.out.trans (hB3.mono HB2.out.size))
    obtain ⟨⟨z0, z1, z2, z3⟩, ⟨f0, f1, f2, f3⟩, zl⟩ := errC hx3
    clear hx3 hB3 HX2 HB2 hbd y0 y1 y2 y3 y4
    go_wp2_with fail
    refine bodyPost_ret (v := .agg #[.int .i64 2, .int .i64 0, .int .i64 0, .string (⟨#[119, 101, 97, 107]⟩ ++ ⟨#[32]⟩)]) (by simp [results, Tryz.results17, go_sem, z0, z1, z2, z3]) rfl ⟨by rw [hgv], errS HB3.out _ _ _ _⟩
  · have hg1 : decide (300 < s.st) = false := by simp [hg]
    rw [if_neg hg] at hgv
    obtain ⟨⟨z0, z1, z2, z3⟩, ⟨f0, f1, f2, f3⟩, zl⟩ := errC HX2.out
    go_wp2_with fail
    refine bodyPost_ret (v := .agg #[.int .i64 0, .int .i64 0, .int .i64 0, .string ⟨#[]⟩]) (by simp [results, Tryz.results17, go_sem, z0, z1, z2, z3]) rfl ⟨by rw [hgv], errS HB2.out _ _ _ _⟩
end Go.Proofs.YtdhloijdefnkpaaGreatDoor

namespace Go.Proofs.YtdhloijdefnkpaaGreatDoor
open Go.RowKit Pl

set_option maxRecDepth 100000 in
theorem light_any {s : Lts} {a : Option Addr} {b off c : Nat} {w : World} (hS : SlAt encE 3 w a b off s.es) :
    Calls Tryz.prog 16 #[.agg #[.int .i64 s.st, .int .i64 s.lb, .int .i64 s.s0, .slice a s.es.length c]] w fun e w' => ∃ bv : Bool, e = .returned (.bool bv) ∧ (bv = true → s.st ≤ 40 ∨ ¬ s.Right ∨ 300 < s.st) ∧ Below w.heap.size w w' := by
  obtain ⟨W, hW⟩ : ∃ W, W = w.alloc (Obj.cells #[.int .i64 s.st, .int .i64 s.lb, .int .i64 s.s0, .slice a s.es.length c] 24) := ⟨_, rfl⟩
  have hB0 : Below w.heap.size w W := by rw [hW]; exact (Below.refl w.heap.size w).alloc (Nat.le_refl _) _
  have hbx := heap_alloc_new w (Obj.cells #[.int .i64 s.st, .int .i64 s.lb, .int .i64 s.s0, .slice a s.es.length c] 24)
  rw [← hW] at hbx
  have hRY : s.Right → _ := fun h => right_yes (c := c) h (hS.below hB0 (Nat.le_refl _))
  have hRN : ¬ s.Right → _ := fun h => right_no (c := c) h (hS.below hB0 (Nat.le_refl _))
  obtain ⟨el, hel⟩ : ∃ el, el = s.es.length := ⟨_, rfl⟩
  rw [← hel] at hRY hRN hbx hW ⊢
  have HRY := Lib.hid hRY; have HRN := Lib.hid hRN; have HB0 := Lib.hid hB0; have HW := Lib.hid hW; have HBX := Lib.hid hbx
  obtain ⟨x0, x1, x2, x3, x4⟩ := sysC hbx
  clear hS hel hRY hRN hB0 hW hbx
  by_cases h1 : s.st ≤ 40
  · by_cases h2 : (el : Int) ≤ 300
    · have e1 : decide (s.st ≤ 40) = true := by simp [h1]
      have e2 : decide ((el : Int) ≤ 300) = true := by simp [h2]
      go_enter Tryz.func16, Tryz.ntmps16
      go_wp2_with fail
      rw [← HW.out]
      go_wp2_with fail
      go_ret
      exact ⟨_, rfl, fun _ => .inl h1, HB0.out⟩
    · have e1 : decide (s.st ≤ 40) = true := by simp [h1]
      have e2 : decide ((el : Int) ≤ 300) = false := by simp [h2]
      by_cases hr : s.Right
      · have HR := Lib.hid (HRY.out hr)
        clear HRY HRN
        go_enter Tryz.func16, Tryz.ntmps16
        go_wp2_with fail
        rw [← HW.out]
        go_wp2_with fail
        refine HR.out.mono ?_
        rintro e w2 ⟨rfl, hB2⟩
        obtain ⟨y0, y1, y2, y3, y4⟩ := sysC ((hB2.block w.heap.size x4).trans HBX.out)
        have HB2 := Lib.hid (HB0.out.trans (hB2.mono HB0.out.size))
        have e3 : decide (300 < s.st) = false := by simp; omega
        clear hB2 x0 x1 x2 x3 x4 HW HBX HB0 HR
        go_wp2_with fail
        go_ret
        exact ⟨_, rfl, fun _ => .inl h1, HB2.out⟩
      · have HR := Lib.hid (HRN.out hr)
        clear HRY HRN
        go_enter Tryz.func16, Tryz.ntmps16
        go_wp2_with fail
        rw [← HW.out]
        go_wp2_with fail
        refine HR.out.mono ?_
        rintro e w2 ⟨rfl, hB2⟩
        obtain ⟨y0, y1, y2, y3, y4⟩ := sysC ((hB2.block w.heap.size x4).trans HBX.out)
        have HB2 := Lib.hid (HB0.out.trans (hB2.mono HB0.out.size))
        clear hB2 x0 x1 x2 x3 x4 HW HBX HB0 HR
        go_wp2_with fail
        go_ret
        exact ⟨_, rfl, fun _ => .inr (.inl hr), HB2.out⟩
  · have e1 : decide (s.st ≤ 40) = false := by simp [h1]
    by_cases hr : s.Right
    · have HR := Lib.hid (HRY.out hr)
      clear HRY HRN
      by_cases h3 : 300 < s.st
      · have e3 : decide (300 < s.st) = true := by simp [h3]
        go_enter Tryz.func16, Tryz.ntmps16
        go_wp2_with fail
        rw [← HW.out]
        go_wp2_with fail
        refine HR.out.mono ?_
        rintro e w2 ⟨rfl, hB2⟩
        obtain ⟨y0, y1, y2, y3, y4⟩ := sysC ((hB2.block w.heap.size x4).trans HBX.out)
        have HB2 := Lib.hid (HB0.out.trans (hB2.mono HB0.out.size))
        clear hB2 x0 x1 x2 x3 x4 HW HBX HB0 HR
        go_wp2_with fail
        go_ret
        exact ⟨_, rfl, fun _ => .inr (.inr h3), HB2.out⟩
      · have e3 : decide (300 < s.st) = false := by simp [h3]
        go_enter Tryz.func16, Tryz.ntmps16
        go_wp2_with fail
        rw [← HW.out]
        go_wp2_with fail
        refine HR.out.mono ?_
        rintro e w2 ⟨rfl, hB2⟩
        obtain ⟨y0, y1, y2, y3, y4⟩ := sysC ((hB2.block w.heap.size x4).trans HBX.out)
        have HB2 := Lib.hid (HB0.out.trans (hB2.mono HB0.out.size))
        clear hB2 x0 x1 x2 x3 x4 HW HBX HB0 HR
        go_wp2_with fail
        go_ret
        exact ⟨_, rfl, fun h => by simp at h, HB2.out⟩
    · have HR := Lib.hid (HRN.out hr)
      clear HRY HRN
      go_enter Tryz.func16, Tryz.ntmps16
      go_wp2_with fail
      rw [← HW.out]
      go_wp2_with fail
      refine HR.out.mono ?_
      rintro e w2 ⟨rfl, hB2⟩
      obtain ⟨y0, y1, y2, y3, y4⟩ := sysC ((hB2.block w.heap.size x4).trans HBX.out)
      have HB2 := Lib.hid (HB0.out.trans (hB2.mono HB0.out.size))
      clear hB2 x0 x1 x2 x3 x4 HW HBX HB0 HR
      go_wp2_with fail
      go_ret
      exact ⟨_, rfl, fun _ => .inr (.inl hr), HB2.out⟩
end Go.Proofs.YtdhloijdefnkpaaGreatDoor

namespace Go.Proofs.YtdhloijdefnkpaaGreatDoor
open Go.RowKit Pl

/-- The row ob of m slices; the l-th owns the list f l. -/
def FR (ob m : Nat) (vs : Nat → Value) (f : Nat → List Int) : List Rw :=
  ⟨33, 1, .slice (some ⟨ob, 0, none⟩) m m, m, (List.range m).map vs⟩ :: (List.range m).map (fun l => (⟨3, 1, vs l, (f l).length, (f l).flatMap encI⟩ : Rw))

theorem range_map_set {α : Type} {m l : Nat} (g : Nat → α) (x : α) : ((List.range m).map g).set l x = (List.range m).map (upd g l x) := by
  apply List.ext_getElem?
  intro i
  rw [List.getElem?_set]
  by_cases h : i < m
  · by_cases e : l = i
    · subst e; simp [h, upd]
    · rw [if_neg e]
      simp [h, upd, show ¬ i = l from fun e2 => e e2.symm]
  · by_cases e : l = i
    · subst e; simp [h]
    · rw [if_neg e]; simp [h]

theorem FR.set {ob m l : Nat} {vs : Nat → Value} {f : Nat → List Int} (v : Value) (ys : List Int) (rest : List Rw) (hl : l < m) :
    (((FR ob m vs f ++ rest).set (l + 1) ⟨3, 1, v, ys.length, ys.flatMap encI⟩).set 0 ⟨33, 1, .slice (some ⟨ob, 0, none⟩) m m, m, ((List.range m).map vs).set l v⟩) = FR ob m (upd vs l v) (upd f l ys) ++ rest := by
  unfold FR
  rw [List.cons_append, List.set_cons_succ, List.set_cons_zero, List.set_append_left _ _ (by simpa using hl), range_map_set, range_map_set, List.cons_append]
  congr 2
  apply List.map_congr_left
  intro i _
  unfold upd
  split <;> rfl

section
variable {w0 w w' w1 w2 : World} {rest : List Rw} {ob m : Nat} {vs : Nat → Value} {f : Nat → List Int}

theorem Rws.frMade (h : Rws w0 w rest) (hm : m ≤ maxLen) : Rws w0 (w.alloc (.cells (madeCells #[.slice none 0 0] m) 33)) (FR w.heap.size m (fun _ => .slice none 0 0) (fun _ => []) ++ rest) := by
  have key : ∀ k, Rws w0 w ((List.range k).map (fun _ => (⟨3, 1, .slice none 0 0, 0, []⟩ : Rw)) ++ rest) := fun k => by
    induction k with
    | zero => exact h
    | succ k ih =>
      rw [List.range_succ_eq_map, List.map_cons, List.map_map]
      exact ih.addNil _ _
  have h2 := (key m).addLit (madeCells #[.slice none 0 0] m) 33 (k := 1) (n := m) hm (by simp [size_madeCells])
  have e : (madeCells #[.slice none 0 0] m).toList = (List.range m).map (fun _ => (.slice none 0 0 : Value)) := by
    rw [toList_madeCells_one]
    apply List.ext_getElem?
    intro i
    by_cases hi : i < m <;> simp [hi]
  rw [e] at h2
  exact h2

theorem Rws.frCell (h : Rws w0 w (FR ob m vs f ++ rest)) {l : Nat} (hl : l < m) : w.cell? ⟨ob, l, none⟩ = some (vs l) ∧ w.frozen? ⟨ob, l, none⟩ = false ∧ ob < w.heap.size ∧ w0.heap.size ≤ ob :=
  ⟨h.cell (i := 0) rfl (by simp [hl]), h.fz (i := 0) rfl l, (h.lt (i := 0) rfl).2, (h.lt (i := 0) rfl).1⟩
theorem Rws.frOwn (h : Rws w0 w (FR ob m vs f ++ rest)) {l : Nat} (hl : l < m) : w.ownsRow w0.heap.size 3 1 (vs l) (f l).length ((f l).flatMap encI) :=
  h.get (i := l + 1) (r := ⟨3, 1, vs l, (f l).length, (f l).flatMap encI⟩) (by unfold FR; rw [List.cons_append, List.getElem?_cons_succ, List.getElem?_append_left (by simpa using hl)]; simp [hl])
/-- An append to the l-th list: behind it, and behind the store. -/
theorem Rws.frGrow {w2 : World} (h : Rws w0 w (FR ob m vs f ++ rest)) (hB2 : Below w.heap.size w w2) {l : Nat} (hl : l < m) {v' : Value} {ys : List Int} (ho : w1.ownsRow w0.heap.size 3 1 v' ys.length (ys.flatMap encI)) (hg : w2.grownBy w1 (vs l).ownBlock)
    (hh : ∀ g, v'.ownBlock = some g → (vs l).ownBlock = some g ∨ w.heap.size ≤ g) :
    w1.cell? ⟨ob, l, none⟩ = some (vs l) ∧ w1.frozen? ⟨ob, l, none⟩ = false ∧ ob < w1.heap.size ∧ Rws w0 (w1.setCell ⟨ob, l, none⟩ v') (FR ob m (upd vs l v') (upd f l ys) ++ rest) := by
  have hi : (FR ob m vs f ++ rest)[l + 1]? = some (⟨3, 1, vs l, (f l).length, (f l).flatMap encI⟩ : Rw) := by
    unfold FR; rw [List.cons_append, List.getElem?_cons_succ, List.getElem?_append_left (by simpa using hl)]; simp [hl]
  have hs := h.grown hB2 (l + 1) hi ho hg hh
  have h0 : ((FR ob m vs f ++ rest).set (l + 1) ⟨3, 1, v', ys.length, ys.flatMap encI⟩)[0]? = some (⟨33, 1, .slice (some ⟨ob, 0, none⟩) m m, m, (List.range m).map vs⟩ : Rw) := by
    unfold FR; rw [List.cons_append, List.set_cons_succ]; rfl
  have h2 := hs.set 0 h0 l v'
  rw [FR.set v' ys rest hl] at h2
  exact ⟨hs.cell h0 (by simp [hl]), hs.fz h0 l, (hs.lt h0).2, h2⟩
end
end Go.Proofs.YtdhloijdefnkpaaGreatDoor

namespace Go.Proofs.YtdhloijdefnkpaaGreatDoor
namespace Pl
section
variable {κ : Type} [DecidableEq κ] {key : Nat → κ} {n : Nat}
/-- The first one of the same key. -/
def rep (key : Nat → κ) (i : Nat) : Nat := ((List.range (i + 1)).find? (fun j => decide (key j = key i))).getD i
theorem rep_some (key : Nat → κ) (i : Nat) : (List.range (i + 1)).find? (fun j => decide (key j = key i)) = some (rep key i) := by
  unfold rep
  cases h : (List.range (i + 1)).find? (fun j => decide (key j = key i)) with
  | none =>
    have := List.find?_eq_none.1 h i (List.mem_range.2 (by omega))
    simp at this
  | some j => rfl
theorem rep_le (key : Nat → κ) (i : Nat) : rep key i ≤ i := by
  have := List.mem_range.1 (List.mem_of_find?_eq_some (rep_some key i)); omega
theorem rep_key (key : Nat → κ) (i : Nat) : key (rep key i) = key i := by
  have := List.find?_some (rep_some key i)
  simpa using this
theorem rep_min {i j : Nat} (h : key j = key i) : rep key i ≤ j := by
  rcases Nat.lt_or_ge i j with h1 | h1
  · exact Nat.le_trans (rep_le key i) (by omega)
  · refine Nat.le_of_not_lt (fun hlt => ?_)
    have h2 := rep_some key i
    rw [List.find?_range_eq_some] at h2
    have := h2.2.2 j hlt
    simp [h] at this
theorem rep_iff {i j : Nat} : rep key i = rep key j ↔ key i = key j := by
  constructor
  · intro h
    have h1 := rep_key key i
    have h2 := rep_key key j
    rw [h] at h1
    exact h1.symm.trans h2
  · intro h
    exact Nat.le_antisymm (rep_min ((rep_key key j).trans h.symm)) (rep_min ((rep_key key i).trans h))
theorem rep_rep (i : Nat) : rep key (rep key i) = rep key i := rep_iff.2 (rep_key key i)
/-- The list of the firsts. -/
def repL (key : Nat → κ) (n : Nat) : List Int := fl n (fun i => (rep key i : Int))
theorem repL_get {i : Nat} (h : i < n) : (repL key n)[i]? = some (rep key i : Int) := fl_get _ h
theorem repL_take {i : Nat} (h : i ≤ n) : (repL key n).take i = repL key i := by
  apply List.ext_getElem?
  intro j
  rw [List.getElem?_take]
  by_cases hj : j < i
  · rw [if_pos hj, repL_get (by omega), repL_get hj]
  · rw [if_neg hj, List.getElem?_eq_none (by unfold repL; rw [fl_len]; omega)]
theorem mem_rep {i : Nat} {x : Int} : x ∈ dist (repL key i) ↔ ∃ q, q < i ∧ x = (q : Int) ∧ rep key q = q := by
  unfold repL
  rw [mem_dist_fl]
  constructor
  · rintro ⟨p, hp, rfl⟩
    exact ⟨rep key p, Nat.lt_of_le_of_lt (rep_le key p) hp, rfl, rep_rep p⟩
  · rintro ⟨q, hq, rfl, h⟩
    exact ⟨q, hq, by rw [h]⟩
theorem rep_found {i k q : Nat} (hk : (dist (repL key i))[k]? = some (q : Int)) (h : key q = key i) : (rep key i : Int) ∈ dist (repL key i) ∧ (dist (repL key i)).idxOf (rep key i : Int) = k := by
  have hm := List.mem_of_getElem? hk
  obtain ⟨q', hq, e, hr⟩ := mem_rep.1 hm
  obtain rfl : q = q' := by omega
  have h1 : rep key i = q := by rw [← hr]; exact rep_iff.2 h.symm
  rw [h1]
  refine ⟨hm, ?_⟩
  obtain ⟨h2, h3⟩ := List.getElem?_eq_some_iff.1 hk
  rw [← h3]
  exact (nodup_dist (repL key i)).idxOf_getElem k h2
theorem rep_new {i : Nat} (h : ∀ k q : Nat, (dist (repL key i))[k]? = some (q : Int) → key q ≠ key i) : rep key i = i ∧ (rep key i : Int) ∉ dist (repL key i) := by
  have hn : (rep key i : Int) ∉ dist (repL key i) := fun hm => by
    obtain ⟨k, hk⟩ := List.getElem?_of_mem hm
    exact h k _ hk (rep_key key i)
  refine ⟨?_, hn⟩
  rcases Nat.eq_or_lt_of_le (rep_le key i) with e | e
  · exact e
  · exact absurd (mem_rep.2 ⟨rep key i, e, rfl, rep_rep i⟩) hn
end
end Pl
end Go.Proofs.YtdhloijdefnkpaaGreatDoor

/-
  Lemmas.
-/
import Derived.Test.YtbaccmlfnbgehaaGreatDoorRefSort2
import Derived.Test.YtbaccmlfnbgehaaGreatDoorGLentS
import Derived.Test.YtbaccmlfnbgehaaGreatDoorGCanon
import Derived.Test.YtbaccmlfnbgehaaGreatDoorGPl4
import Derived.Test.YtbaccmlfnbgehaaGreatDoorGBkRow
import Derived.Test.YtbaccmlfnbgehaaGreatDoorGRwsB
namespace Go.Proofs.YtbaccmlfnbgehaaGreatDoor
open Go.RowKit Pl
open Lib (hid)
set_option maxRecDepth 100000 in
set_option maxHeartbeats 1000000 in
theorem right_head (st lb s0 : Int) (a : Option Addr) (n c : Nat) (w : World) (h : HeadBad st lb s0 n) :
    Calls Tryz.prog 31 #[.agg #[.int .i64 st, .int .i64 lb, .int .i64 s0, .slice a n c]] w fun e w' => e = .returned (.bool false) ∧ Below w.heap.size w w' := by
  have key : (st < 0) ∨ (¬ st < 0 ∧ 1000 < st) ∨ (¬ st < 0 ∧ ¬ 1000 < st ∧ lb < 1) ∨ (¬ st < 0 ∧ ¬ 1000 < st ∧ ¬ lb < 1 ∧ 201 < lb) ∨ (¬ st < 0 ∧ ¬ 1000 < st ∧ ¬ lb < 1 ∧ ¬ 201 < lb ∧ (10000 : Int) < (n : Int)) ∨
      (¬ st < 0 ∧ ¬ 1000 < st ∧ ¬ lb < 1 ∧ ¬ 201 < lb ∧ ¬ (10000 : Int) < (n : Int) ∧ (st == 0) = true ∧ (s0 != 0) = true) ∨
      (¬ st < 0 ∧ ¬ 1000 < st ∧ ¬ lb < 1 ∧ ¬ 201 < lb ∧ ¬ (10000 : Int) < (n : Int) ∧ (st == 0) = false ∧ 0 < st ∧ s0 < 0) ∨
      (¬ st < 0 ∧ ¬ 1000 < st ∧ ¬ lb < 1 ∧ ¬ 201 < lb ∧ ¬ (10000 : Int) < (n : Int) ∧ (st == 0) = false ∧ 0 < st ∧ ¬ s0 < 0 ∧ st ≤ s0) := by
    unfold HeadBad at h
    simp only [beq_iff_eq, bne_iff_ne, beq_eq_false_iff_ne]
    omega
  clear h
  rcases key with h1 | ⟨h1, h2⟩ | ⟨h1, h2, h3⟩ | ⟨h1, h2, h3, h4⟩ | ⟨h1, h2, h3, h4, h5⟩ | ⟨h1, h2, h3, h4, h5, h6, h7⟩ | ⟨h1, h2, h3, h4, h5, h6, h7, h8⟩ | ⟨h1, h2, h3, h4, h5, h6, h7, h8, h9⟩
  all_goals
    go_enter Tryz.func31, Tryz.ntmps31
    go_wp2
    go_ret
    exact ⟨rfl, (Below.refl _ _).alloc (Nat.le_refl _) _⟩
set_option maxRecDepth 100000 in
set_option maxHeartbeats 2000000 in
theorem right_body {st lb s0 : Int} {xs : List E} (hh : ¬ HeadBad st lb s0 xs.length) {a : Option Addr} {b off c : Nat} {w : World} (hS : SlAt encE 3 w a b off xs) :
    Calls Tryz.prog 31 #[.agg #[.int .i64 st, .int .i64 lb, .int .i64 s0, .slice a xs.length c]] w fun e w' => e = .returned (.bool (xs.all fun x => !offB st lb x)) ∧ Below w.heap.size w w' := by
  unfold HeadBad at hh
  obtain ⟨h1, h2, h3, h4, h5, h6, h7⟩ : ¬ st < 0 ∧ ¬ 1000 < st ∧ ¬ lb < 1 ∧ ¬ 201 < lb ∧ ¬ s0 < 0 ∧ (s0 = 0 ∨ s0 < st) ∧ ¬ (10000 : Int) < (xs.length : Int) := by omega
  have key : ((st == 0) = true ∧ (s0 != 0) = false ∧ ¬ 0 < st) ∨ ((st == 0) = false ∧ 0 < st ∧ ¬ st ≤ s0) := by
    simp only [beq_iff_eq, bne_eq_false_iff_eq, beq_eq_false_iff_ne]
    omega
  have HS := hid hS
  clear hh h6 hS
  obtain ⟨C, hC⟩ : ∃ C, C = Obj.cells #[.int .i64 st, .int .i64 lb, .int .i64 s0, .slice a xs.length c] 24 := ⟨_, rfl⟩
  have HC := hid hC
  clear hC
  rcases key with ⟨k1, k2, k3⟩ | ⟨k1, k2, k3⟩
  · obtain rfl : st = 0 := by simpa using k1
    obtain rfl : s0 = 0 := by simpa using k2
    clear k1 k2 k3 h1 h2 h5
    go_enter Tryz.func31, Tryz.ntmps31
    go_wp2
    rw [← HC.out]
    go_loopw [3, 4] (fun i _ wr => ∃ k : Nat, k ≤ xs.length ∧ i = .int .i64 k ∧ (∀ j x, j < k → xs[j]? = some x → offB 0 lb x = false) ∧ Below (w.heap.size + 1) (w.alloc C) wr)
      (fun i _ _ => xs.length - (intOf i).toNat)
    case atStart => exact ⟨0, Nat.zero_le _, rfl, by intro j x hj; omega, Below.refl _ _⟩
    case round =>
      obtain ⟨k, hk, rfl, hz, hB⟩ := hrel
      have HZ := hid hz; clear hz
      have hsz : w.heap.size + 1 ≤ wr.heap.size := by simpa using hB.size
      have q0 : wr.heap[w.heap.size]? = some C := by
        rw [hB.block _ (by omega), heap_alloc_new]
      rw [HC.out] at q0
      have s0' : wr.cell? ⟨w.heap.size, 0, none⟩ = some (.int .i64 0) := by simp [World.cell?, q0]
      have s1' : wr.cell? ⟨w.heap.size, 1, none⟩ = some (.int .i64 lb) := by simp [World.cell?, q0]
      have s2' : wr.cell? ⟨w.heap.size, 2, none⟩ = some (.int .i64 0) := by simp [World.cell?, q0]
      have s3' : wr.cell? ⟨w.heap.size, 3, none⟩ = some (.slice a xs.length c) := by simp [World.cell?, q0]
      have hBw : Below w.heap.size w wr := ((Below.refl _ _).alloc (Nat.le_refl _) C).trans (hB.mono (by omega))
      have hltr : w.heap.size < wr.heap.size := by omega
      have HB := hid hB; have HBW := hid hBw
      clear q0 hB hBw
      by_cases hlt2 : k < xs.length
      · obtain ⟨x, hx⟩ := getElem?_of_lt hlt2
        have hS' := HS.out.below HBW.out (Nat.le_refl _)
        obtain rfl := hS'.ad (by omega)
        have c0 := hS'.e0 hx; have c1 := hS'.e1 hx; have c2 := hS'.e2 hx
        have hbl := hS'.lt (by omega)
        have hik : (k : Int) < (xs.length : Int) := by omega
        have HX := hid hx
        clear hx hS'
        obtain ⟨x1, x2, x3⟩ := x
        simp only at c0 c1 c2
        by_cases ho : offB 0 lb (x1, x2, x3) = true
        · have HO := hid ho
          have hall : xs.all (fun x => !offB 0 lb x) = false := by
            rw [List.all_eq_false]
            exact ⟨_, List.mem_of_getElem? HX.out, by simp [HO.out]⟩
          have HALL := hid hall
          have key2 : (x1 < 0) ∨ (¬ x1 < 0 ∧ 0 ≤ x1) := by
            simp only [offB, Bool.or_eq_true, decide_eq_true_eq] at ho
            omega
          clear ho hall
          rcases key2 with g1 | ⟨g1, g2⟩
          all_goals
            go_wp2
            go_ret
            exact ⟨ret_b (a := false) HALL.out.symm, ((HBW.out).alloc (by omega) _)⟩
        · exact absurd (by simp only [offB, Bool.or_eq_true, decide_eq_true_eq]; omega) ho
      · go_wp2
        go_ret
        have hall : xs.all (fun x => !offB 0 lb x) = true := by
          rw [List.all_eq_true]
          intro x hx
          obtain ⟨j, hj, rfl⟩ := List.getElem_of_mem hx
          simp [HZ.out j _ (by omega) (List.getElem?_eq_getElem hj)]
        exact ⟨ret_b (a := true) hall.symm, HBW.out⟩
  · go_enter Tryz.func31, Tryz.ntmps31
    go_wp2
    rw [← HC.out]
    go_loopw [3, 4] (fun i _ wr => ∃ k : Nat, k ≤ xs.length ∧ i = .int .i64 k ∧ (∀ j x, j < k → xs[j]? = some x → offB st lb x = false) ∧ Below (w.heap.size + 1) (w.alloc C) wr)
      (fun i _ _ => xs.length - (intOf i).toNat)
    case atStart => exact ⟨0, Nat.zero_le _, rfl, by intro j x hj; omega, Below.refl _ _⟩
    case round =>
      obtain ⟨k, hk, rfl, hz, hB⟩ := hrel
      have HZ := hid hz; clear hz
      have hsz : w.heap.size + 1 ≤ wr.heap.size := by simpa using hB.size
      have q0 : wr.heap[w.heap.size]? = some C := by
        rw [hB.block _ (by omega), heap_alloc_new]
      rw [HC.out] at q0
      have s0' : wr.cell? ⟨w.heap.size, 0, none⟩ = some (.int .i64 st) := by simp [World.cell?, q0]
      have s1' : wr.cell? ⟨w.heap.size, 1, none⟩ = some (.int .i64 lb) := by simp [World.cell?, q0]
      have s2' : wr.cell? ⟨w.heap.size, 2, none⟩ = some (.int .i64 s0) := by simp [World.cell?, q0]
      have s3' : wr.cell? ⟨w.heap.size, 3, none⟩ = some (.slice a xs.length c) := by simp [World.cell?, q0]
      have hBw : Below w.heap.size w wr := ((Below.refl _ _).alloc (Nat.le_refl _) C).trans (hB.mono (by omega))
      have hltr : w.heap.size < wr.heap.size := by omega
      have HB := hid hB; have HBW := hid hBw
      clear q0 hB hBw
      by_cases hlt2 : k < xs.length
      · obtain ⟨x, hx⟩ := getElem?_of_lt hlt2
        have hS' := HS.out.below HBW.out (Nat.le_refl _)
        obtain rfl := hS'.ad (by omega)
        have c0 := hS'.e0 hx; have c1 := hS'.e1 hx; have c2 := hS'.e2 hx
        have hbl := hS'.lt (by omega)
        have hik : (k : Int) < (xs.length : Int) := by omega
        have HX := hid hx
        clear hx hS'
        obtain ⟨x1, x2, x3⟩ := x
        simp only at c0 c1 c2
        by_cases ho : offB st lb (x1, x2, x3) = true
        · have HO := hid ho
          have hall : xs.all (fun x => !offB st lb x) = false := by
            rw [List.all_eq_false]
            exact ⟨_, List.mem_of_getElem? HX.out, by simp [HO.out]⟩
          have HALL := hid hall
          have key2 : (x1 < 0) ∨ (¬ x1 < 0 ∧ st ≤ x1) ∨ (¬ x1 < 0 ∧ ¬ st ≤ x1 ∧ x3 < 0) ∨ (¬ x1 < 0 ∧ ¬ st ≤ x1 ∧ ¬ x3 < 0 ∧ st ≤ x3) ∨ (¬ x1 < 0 ∧ ¬ st ≤ x1 ∧ ¬ x3 < 0 ∧ ¬ st ≤ x3 ∧ x2 < 0) ∨ (¬ x1 < 0 ∧ ¬ st ≤ x1 ∧ ¬ x3 < 0 ∧ ¬ st ≤ x3 ∧ ¬ x2 < 0 ∧ lb ≤ x2) := by
            simp only [offB, Bool.or_eq_true, decide_eq_true_eq] at ho
            omega
          clear ho hall
          rcases key2 with g1 | ⟨g1, g2⟩ | ⟨g1, g2, g3⟩ | ⟨g1, g2, g3, g4⟩ | ⟨g1, g2, g3, g4, g5⟩ | ⟨g1, g2, g3, g4, g5, g6⟩
          all_goals
            go_wp2
            go_ret
            exact ⟨ret_b (a := false) HALL.out.symm, ((HBW.out).alloc (by omega) _)⟩
        · have ho' : offB st lb (x1, x2, x3) = false := by simpa using ho
          have HO := hid ho'
          obtain ⟨g1, g2, g3, g4, g5, g6⟩ : ¬ x1 < 0 ∧ ¬ st ≤ x1 ∧ ¬ x3 < 0 ∧ ¬ st ≤ x3 ∧ ¬ x2 < 0 ∧ ¬ lb ≤ x2 := by
            simp only [offB, Bool.or_eq_true, decide_eq_true_eq] at ho
            omega
          clear ho ho'
          go_wp2
          go_roundw
          case rel => exact ⟨k + 1, by omega, by go_num, by
            intro j y hj hy
            by_cases hjk : j = k
            · subst hjk
              rw [HX.out] at hy
              simp at hy; subst hy
              exact HO.out
            · exact HZ.out j y (by omega) hy, HB.out.alloc (by omega) _⟩
          case measure => simp [intOf]; omega
      · go_wp2
        go_ret
        have hall : xs.all (fun x => !offB st lb x) = true := by
          rw [List.all_eq_true]
          intro x hx
          obtain ⟨j, hj, rfl⟩ := List.getElem_of_mem hx
          simp [HZ.out j _ (by omega) (List.getElem?_eq_getElem hj)]
        exact ⟨ret_b (a := true) hall.symm, HBW.out⟩
theorem right_yes {s : Lts} (h : s.Right) {a : Option Addr} {b off c : Nat} {w : World} (hS : SlAt encE 3 w a b off s.es) :
    Calls Tryz.prog 31 #[.agg #[.int .i64 s.st, .int .i64 s.lb, .int .i64 s.s0, .slice a s.es.length c]] w fun e w' => e = .returned (.bool true) ∧ Below w.heap.size w w' := by
  refine (right_body h.head hS).mono ?_
  rintro e w' ⟨rfl, hB⟩
  have : s.es.all (fun x => !offB s.st s.lb x) = true := by rw [List.all_eq_true]; intro x hx; simp [h.edges x hx]
  exact ⟨by rw [this], hB⟩
theorem right_no {s : Lts} (h : ¬ s.Right) {a : Option Addr} {b off c : Nat} {w : World} (hS : SlAt encE 3 w a b off s.es) :
    Calls Tryz.prog 31 #[.agg #[.int .i64 s.st, .int .i64 s.lb, .int .i64 s.s0, .slice a s.es.length c]] w fun e w' => e = .returned (.bool false) ∧ Below w.heap.size w w' := by
  by_cases hh : HeadBad s.st s.lb s.s0 s.es.length
  · exact right_head s.st s.lb s.s0 a s.es.length c w hh
  · refine (right_body hh hS).mono ?_
    rintro e w' ⟨rfl, hB⟩
    have : s.es.all (fun x => !offB s.st s.lb x) = false := by
      rw [Bool.eq_false_iff]; intro ha; rw [List.all_eq_true] at ha
      exact h ⟨hh, fun x hx => by simpa using ha x hx⟩
    exact ⟨by rw [this], hB⟩
end Go.Proofs.YtbaccmlfnbgehaaGreatDoor
namespace Go.Proofs.YtbaccmlfnbgehaaGreatDoor
open Go.RowKit Pl
open Lib (hid)
theorem refOn_any (l x : ByteArray) (hl : l.size ≤ 1000) (hx : x.size ≤ 1000) {k : Int} (hk : k ≠ 0) (i j : Int) (w : World) : Calls Tryz.prog 95 #[.string l, .agg #[.int .i64 k, .int .i64 i, .int .i64 j, .string x]] w fun e w' => e = .returned (.agg #[.int .i64 k, .int .i64 i, .int .i64 j, .string (l ++ ⟨#[32]⟩ ++ x)]) ∧ Below w.heap.size w w' := by
  have hz1 : ¬ 9223372036854775807 < l.size + 1 := by omega
  have hz2 : ¬ 9223372036854775807 < l.size + 1 + x.size := by omega
  have hk1 : (k == 0) = false := by simp [hk]
  go_enter Tryz.func95, Tryz.ntmps95
  go_wp2_with fail
  refine bodyPost_ret (v := .agg #[.int .i64 k, .int .i64 i, .int .i64 j, .string (l ++ ⟨#[32]⟩ ++ x)]) (by simp [results, Tryz.results95, go_sem]) rfl ⟨rfl, ((Below.refl _ _).alloc (Nat.le_refl _) _).alloc (by simp) _⟩
theorem errC {w : World} {B : Nat} {x y z : Int} {u : ByteArray} (h : w.heap[B]? = some (.cells #[.int .i64 x, .int .i64 y, .int .i64 z, .string u] 29 (0, 0))) :
    (w.cell? ⟨B, 0, none⟩ = some (.int .i64 x) ∧ w.cell? ⟨B, 1, none⟩ = some (.int .i64 y) ∧ w.cell? ⟨B, 2, none⟩ = some (.int .i64 z) ∧ w.cell? ⟨B, 3, none⟩ = some (.string u)) ∧ (w.frozen? ⟨B, 0, none⟩ = false ∧ w.frozen? ⟨B, 1, none⟩ = false ∧ w.frozen? ⟨B, 2, none⟩ = false ∧ w.frozen? ⟨B, 3, none⟩ = false) ∧ B < w.heap.size := by
  refine ⟨⟨?_, ?_, ?_, ?_⟩, ⟨?_, ?_, ?_, ?_⟩, (Array.getElem?_eq_some_iff.1 h).1⟩ <;> simp [World.cell?, World.frozen?, h]
theorem errW (w : World) (o : Obj) : Below w.heap.size w ((w.alloc o).alloc (Obj.cells #[.int .i64 0, .int .i64 0, .int .i64 0, .string ⟨#[]⟩] 29)) ∧ ((w.alloc o).alloc (Obj.cells #[.int .i64 0, .int .i64 0, .int .i64 0, .string ⟨#[]⟩] 29)).heap[w.heap.size + 1]? = some (.cells #[.int .i64 0, .int .i64 0, .int .i64 0, .string ⟨#[]⟩] 29 (0, 0)) := by
  refine ⟨((Below.refl _ _).alloc (Nat.le_refl _) _).alloc (by simp) _, ?_⟩
  have h := heap_alloc_new (w.alloc o) (Obj.cells #[.int .i64 0, .int .i64 0, .int .i64 0, .string ⟨#[]⟩] 29)
  rw [show (w.alloc o).heap.size = w.heap.size + 1 by simp] at h
  exact h
theorem errS {w w' : World} (h : Below w.heap.size w w') (a b c d : Value) : Below w.heap.size w ((((w'.setCell ⟨w.heap.size + 1, 0, none⟩ a).setCell ⟨w.heap.size + 1, 1, none⟩ b).setCell ⟨w.heap.size + 1, 2, none⟩ c).setCell ⟨w.heap.size + 1, 3, none⟩ d) :=
  (((h.setCell (by show w.heap.size ≤ w.heap.size + 1; omega) _).setCell (by show w.heap.size ≤ w.heap.size + 1; omega) _).setCell (by show w.heap.size ≤ w.heap.size + 1; omega) _).setCell (by show w.heap.size ≤ w.heap.size + 1; omega) _
set_option maxRecDepth 100000 in
theorem refCheck_no {s : Lts} (h : ¬ s.Right) {a : Option Addr} {b off c : Nat} {w : World} (hS : SlAt encE 3 w a b off s.es) :
    Calls Tryz.prog 96 #[.agg #[.int .i64 s.st, .int .i64 s.lb, .int .i64 s.s0, .slice a s.es.length c]] w fun e w' => e = .returned (.agg #[.int .i64 14, .int .i64 0, .int .i64 0, .string (sysName ++ ⟨#[32]⟩)]) ∧ Below w.heap.size w w' := by
  have hbd := bad_any sysName (by decide) 14
  obtain ⟨el, hel⟩ : ∃ el, el = s.es.length := ⟨_, rfl⟩
  have hR : ∀ V, Below w.heap.size w V → _ := fun V (hV : Below w.heap.size w V) => right_no (c := c) h (hS.below hV (Nat.le_refl _))
  rw [← hel] at hR ⊢
  obtain ⟨hB0, hE0⟩ := errW w (Obj.cells #[.int .i64 s.st, .int .i64 s.lb, .int .i64 s.s0, .slice a el c] 24)
  have HR := hid (hR _ hB0); have HB0 := hid hB0; have HE0 := hid hE0
  unfold sysName at hbd ⊢
  clear hS h hel hR hB0 hE0
  go_enter Tryz.func96, Tryz.ntmps96
  go_wp2_with fail
  refine HR.out.mono ?_
  rintro e w2 ⟨rfl, hB2⟩
  have hx2 := (hB2.block (w.heap.size + 1) (by simp)).trans HE0.out
  have hb2 := HB0.out.trans (hB2.mono HB0.out.size)
  have HX2 := hid hx2; have HB2 := hid hb2
  clear hx2 hb2 hB2 HR HB0 HE0
  go_wp2_with fail
  refine (hbd _).mono ?_
  rintro e w3 ⟨rfl, hB3⟩
  have hx3 := (hB3.block _ (Array.getElem?_eq_some_iff.1 HX2.out).1).trans HX2.out
  have HB3 := hid (HB2.out.trans (hB3.mono HB2.out.size))
  obtain ⟨⟨z0, z1, z2, z3⟩, ⟨f0, f1, f2, f3⟩, zl⟩ := errC hx3
  clear hx3 hB3 HX2 HB2 hbd
  go_wp2_with fail
  refine bodyPost_ret (v := .agg #[.int .i64 14, .int .i64 0, .int .i64 0, .string (⟨#[115, 121, 115, 116, 101, 109]⟩ ++ ⟨#[32]⟩)]) (by simp [results, Tryz.results96, go_sem, z0, z1, z2, z3]) rfl ⟨rfl, errS HB3.out _ _ _ _⟩
set_option maxRecDepth 100000 in
theorem refHanded_no (l : ByteArray) (hl : l.size ≤ 900) {s : Lts} (h : ¬ s.Right) {a : Option Addr} {b off c : Nat} {w : World} (hS : SlAt encE 3 w a b off s.es) :
    Calls Tryz.prog 32 #[.string l, .agg #[.int .i64 s.st, .int .i64 s.lb, .int .i64 s.s0, .slice a s.es.length c]] w fun e w' => e = .returned (.agg #[.int .i64 14, .int .i64 0, .int .i64 0, .string (l ++ ⟨#[32]⟩ ++ sysName ++ ⟨#[32]⟩)]) ∧ Below w.heap.size w w' := by
  obtain ⟨hB0, hE0⟩ := errW w (Obj.cells #[.int .i64 s.st, .int .i64 s.lb, .int .i64 s.s0, .slice a s.es.length c] 24)
  have HCK := hid (refCheck_no (c := c) h (hS.below hB0 (Nat.le_refl _)))
  have hon := refOn_any l (sysName ++ ⟨#[32]⟩) (by omega) (by decide) (k := 14) (by decide) 0 0
  rw [← ByteArray.append_assoc] at hon
  obtain ⟨el, hel⟩ : ∃ el, el = s.es.length := ⟨_, rfl⟩
  rw [← hel] at HCK hB0 hE0 ⊢
  have HB0 := hid hB0; have HE0 := hid hE0
  obtain ⟨sx, hsx⟩ : ∃ sx, sx = sysName ++ ⟨#[32]⟩ := ⟨_, rfl⟩
  obtain ⟨rx, hrx⟩ : ∃ rx, rx = l ++ ⟨#[32]⟩ ++ sysName ++ ⟨#[32]⟩ := ⟨_, rfl⟩
  rw [← hsx] at HCK
  rw [← hrx] at hon ⊢
  rw [← hsx] at hon
  clear hS h hel hB0 hE0 hsx hrx
  go_enter Tryz.func32, Tryz.ntmps32
  go_wp2_with fail
  refine HCK.out.mono ?_
  rintro e w2 ⟨rfl, hB2⟩
  have hx2 := (hB2.block (w.heap.size + 1) (by simp)).trans HE0.out
  have hb2 := HB0.out.trans (hB2.mono HB0.out.size)
  have HX2 := hid hx2; have HB2 := hid hb2
  clear hx2 hb2 hB2 HCK HB0 HE0
  go_wp2_with fail
  refine (hon _).mono ?_
  rintro e w3 ⟨rfl, hB3⟩
  have hx3 := (hB3.block _ (Array.getElem?_eq_some_iff.1 HX2.out).1).trans HX2.out
  have HB3 := hid (HB2.out.trans (hB3.mono HB2.out.size))
  obtain ⟨⟨z0, z1, z2, z3⟩, ⟨f0, f1, f2, f3⟩, zl⟩ := errC hx3
  clear hx3 hB3 HX2 HB2 hon
  go_wp2_with fail
  refine bodyPost_ret (v := .agg #[.int .i64 14, .int .i64 0, .int .i64 0, .string rx]) (by simp [results, Tryz.results32, go_sem, z0, z1, z2, z3]) rfl ⟨rfl, errS HB3.out _ _ _ _⟩
end Go.Proofs.YtbaccmlfnbgehaaGreatDoor
namespace Go.Proofs.YtbaccmlfnbgehaaGreatDoor
open Go.RowKit Pl
structure OG (w1 wr : World) (ob n : Nat) (f : Nat → List Int) : Prop where
  rows : OwnRows encI 1 3 50 wr w1.heap.size ob n f
  bel : Below ob w1 wr
  oth : ∀ b, b < w1.heap.size → b ≠ ob → wr.heap[b]? = w1.heap[b]?
theorem OG.sl {α : Type} {enc : α → List Value} {m : Nat} {w1 wr : World} {ob n : Nat} {f : Nat → List Int} {a : Option Addr} {b off : Nat} {xs : List α} (h : OG w1 wr ob n f) (hS : SlAt enc m w1 a b off xs) (hb : 0 < xs.length → b ≠ ob) : SlAt enc m wr a b off xs :=
  ⟨hS.ad, fun hp => Nat.lt_of_lt_of_le (hS.lt hp) h.bel.size, fun i x hx j u hu => by
    have hp : 0 < xs.length := by have := (List.getElem?_eq_some_iff.1 hx).1; omega
    rw [World.cell?_of_block (w := w1) (a := ⟨b, off + i * m + j, none⟩) (h.oth b (hS.lt hp) (hb hp))]
    exact hS.cell i x hx j u hu⟩
theorem OG.congr {w1 wr : World} {ob n : Nat} {f f' : Nat → List Int} (h : OG w1 wr ob n f) (e : ∀ i, f i = f' i) : OG w1 wr ob n f' := by
  have : f = f' := funext e
  rw [← this]; exact h
theorem OG.open {w1 wr : World} {ob n : Nat} {f : Nat → List Int} (h : OG w1 wr ob n f) {p : Nat} (hp : p < n) : ∃ v, wr.cell? ⟨ob, p, none⟩ = some v ∧ wr.frozen? ⟨ob, p, none⟩ = false ∧ wr.ownsRow w1.heap.size 3 1 v (f p).length ((f p).flatMap encI) ∧
    ∀ (w2 w3 : World) (g cap : Nat) (ys : List Int), Below wr.heap.size wr w2 → w3.ownsRow w1.heap.size 3 1 (.slice (some ⟨g, 0, none⟩) ys.length cap) ys.length (ys.flatMap encI) → w2.grownBy w3 v.ownBlock → (v.ownBlock = some g ∨ wr.heap.size ≤ g) →
      w3.cell? ⟨ob, p, none⟩ = some v ∧ w3.frozen? ⟨ob, p, none⟩ = false ∧
      OG w1 (w3.setCell ⟨ob, p, none⟩ (.slice (some ⟨g, 0, none⟩) ys.length cap)) ob n (fun i => if i = p then ys else f i) := by
  obtain ⟨v, h1, h2, h3, h4⟩ := h.rows.open hp
  refine ⟨v, h1, h2, h3, fun w2 w3 g cap ys hB hown hg hgg => ?_⟩
  have hs := h.bel.size
  have hob := h.rows.lt
  obtain ⟨h5, h6, h7⟩ := h4 w2 w3 g cap ys hB (Nat.le_trans hs hB.size) hown hg hgg
  have hv : ∀ b, b < w1.heap.size → some b ≠ v.ownBlock := fun b hb e => by have := (h3.lt b e.symm).1; omega
  refine ⟨h5, h6, h7, ((h.bel.trans (hB.mono (by omega))).grown hg (by have := hB.size; omega) (fun k hk => by have := (h3.lt k hk).1; omega)).setCell (Nat.le_refl _) _, fun b hb hne => ?_⟩
  rw [Below.heap_setCell _ _ _ _ hne, hg.block b (by have := hB.size; omega) (hv b hb), hB.block b (by omega)]
  exact h.oth b hb hne
def memK (C : List Int) (k : Nat) (c : Int) : List Int := ((List.range k).filter (fun x => decide (C[x]? = some c))).map Int.ofNat
end Go.Proofs.YtbaccmlfnbgehaaGreatDoor
namespace Go.Proofs.YtbaccmlfnbgehaaGreatDoor
open Go.RowKit Pl
section
variable {t : Lts}
def W8 (t : Lts) (D : List Nat) (j : Nat) : Int := if j ∈ D then -1 else (Wt t D j : Int)
def W9 (t : Lts) (D : List Nat) (k : Nat) (L : List Int) (j : Nat) : Int := (if j = k then -1 else W8 t D j) - (L.count (j : Int) : Int)
end
structure OQ (W wr : World) (M : Nat) (f : Nat → Int) : Prop where
  rows : wr.rowIs W.heap.size 3 M (fun j => .int .i64 (f j))
  bel : Below W.heap.size W wr
theorem OQ.call {W wr w' : World} {M : Nat} {f : Nat → Int} (h : OQ W wr M f) (hB : Below wr.heap.size wr w') : OQ W w' M f :=
  ⟨h.rows.of_block (hB.block _ h.rows.lt), h.bel.trans (hB.mono h.bel.size)⟩
theorem OQ.set {W wr : World} {M : Nat} {f : Nat → Int} (h : OQ W wr M f) (i : Nat) (x : Int) : OQ W (wr.setCell ⟨W.heap.size, i, none⟩ (.int .i64 x)) M (fun j => if j = i then x else f j) :=
  ⟨(h.rows.set i (.int .i64 x)).congr (fun j _ => by by_cases e : j = i <;> simp [e]), h.bel.setCell (Nat.le_refl _) _⟩
theorem OQ.congr {W wr : World} {M : Nat} {f g : Nat → Int} (h : OQ W wr M f) (e : ∀ j, j < M → f j = g j) : OQ W wr M g :=
  ⟨h.rows.congr (fun j hj => by rw [e j hj]), h.bel⟩
theorem OQ.grown {W wr w' : World} {M : Nat} {f : Nat → Int} {v : Value} {e : TypeId} {k n : Nat} {xs : List Value} (h : OQ W wr M f) (ho : wr.ownsRow (W.heap.size + 1) e k v n xs) (hg : wr.grownBy w' v.ownBlock) : OQ W w' M f :=
  ⟨h.rows.of_block (hg.block _ h.rows.lt (fun e => by have := (ho.lt _ e.symm).1; omega)), h.bel.grown hg h.bel.size (fun k hk => by have := (ho.lt k hk).1; omega)⟩
def clsM (C : List Int) (n : Nat) (k : Nat) : List Nat := (List.range n).filter (fun x => decide (C[x]? = some (k : Int)))
theorem memK_N (C : List Int) (n k : Nat) : memK C n (k : Int) = (clsM C n k).map Int.ofNat := rfl
theorem mem_clsM {C : List Int} {n k x : Nat} : x ∈ clsM C n k ↔ x < n ∧ C[x]? = some (k : Int) := by simp [clsM]
theorem flat_N (C : List Int) (n : Nat) (D : List Nat) : (D.flatMap fun k : Nat => memK C n (k : Int)) = (D.flatMap (clsM C n)).map Int.ofNat := by
  induction D with
  | nil => rfl
  | cons k D ih => rw [List.flatMap_cons, List.flatMap_cons, List.map_append, ih, memK_N]
theorem flatN_nodup (C : List Int) (n : Nat) {D : List Nat} (h : D.Nodup) : (D.flatMap (clsM C n)).Nodup := by
  unfold List.Nodup
  rw [List.pairwise_flatMap]
  refine ⟨fun k _ => List.Nodup.sublist List.filter_sublist List.nodup_range, List.Pairwise.imp ?_ h⟩
  intro a b hab x hx y hy e
  subst e
  have h1 := (mem_clsM.1 hx).2; have h2 := (mem_clsM.1 hy).2
  rw [h1] at h2
  simp only [Option.some.injEq] at h2
  exact hab (by omega)
theorem flat_le (C : List Int) (n : Nat) {D : List Nat} (h : D.Nodup) : (D.flatMap fun k : Nat => memK C n (k : Int)).length ≤ n := by
  rw [flat_N, List.length_map]
  have := nodup_sub _ (List.range n) (flatN_nodup C n h) (fun x hx => by
    obtain ⟨k, _, hk⟩ := List.mem_flatMap.1 hx
    exact List.mem_range.2 (mem_clsM.1 hk).1)
  rwa [List.length_range] at this
theorem flat_all {C : List Int} {n M : Nat} (hC : ∀ x, x < n → ∃ k : Nat, k < M ∧ C[x]? = some (k : Int)) {D : List Nat} (hD : ∀ k, k < M → k ∈ D) : n ≤ (D.flatMap fun k : Nat => memK C n (k : Int)).length := by
  rw [flat_N, List.length_map]
  have := nodup_sub (List.range n) (D.flatMap (clsM C n)) List.nodup_range (fun x hx => by
    have hx := List.mem_range.1 hx
    obtain ⟨k, hk, hc⟩ := hC x hx
    exact List.mem_flatMap.2 ⟨k, hD k hk, mem_clsM.2 ⟨hx, hc⟩⟩)
  rwa [List.length_range] at this
theorem cls_in {n : Nat} {f : Nat → Int} {x : Nat} (hx : x < n) : ∃ k : Nat, k < (dist (fl n f)).length ∧ (fl n (clf n f))[x]? = some (k : Int) := by
  have h := clf_rng (f := f) hx
  obtain ⟨k, hk⟩ := Int.eq_ofNat_of_zero_le h.1
  exact ⟨k, by omega, by rw [fl_get _ hx, hk]⟩
end Go.Proofs.YtbaccmlfnbgehaaGreatDoor
namespace Go.Proofs.YtbaccmlfnbgehaaGreatDoor
open Go.RowKit Pl
def OrdPost (s : Lts) (n : Nat) (w : World) (e : Ending) (w' : World) : Prop :=
  ∃ (f : Nat → Int) (D : List Nat) (v : Value), Cyc s n f ∧ OrdL (col s (fl n (clf n f))) (dist (fl n (clf n f))).length D ∧ (∀ k, k < (dist (fl n (clf n f))).length → k ∈ D) ∧ e = .returned (.tuple #[v, .nilIface]) ∧
    w'.ownsRow w.heap.size 3 1 v n ((D.flatMap fun k : Nat => memK (fl n (clf n f)) n (k : Int)).flatMap encI) ∧ Below w.heap.size w w'
end Go.Proofs.YtbaccmlfnbgehaaGreatDoor

/-
  Lemmas.
-/
import Derived.Test.YtffjcehopoaboaaGreatDoorRefSort2
namespace Go.Proofs.YtffjcehopoaboaaGreatDoor
open Go.RowKit Pl
open Lib (hid)
set_option maxRecDepth 100000 in
set_option maxHeartbeats 1000000 in
theorem right_head (st lb s0 : Int) (a : Option Addr) (n c : Nat) (w : World) (h : HeadBad st lb s0 n) :
    Calls Tryz.prog 42 #[.agg #[.int .i64 st, .int .i64 lb, .int .i64 s0, .slice a n c]] w fun e w' => e = .returned (.bool false) ∧ Below w.heap.size w w' := by
  have key : (st < 0) ∨ (¬ st < 0 ∧ 1000 < st) ∨ (¬ st < 0 ∧ ¬ 1000 < st ∧ lb < 1) ∨ (¬ st < 0 ∧ ¬ 1000 < st ∧ ¬ lb < 1 ∧ 201 < lb) ∨ (¬ st < 0 ∧ ¬ 1000 < st ∧ ¬ lb < 1 ∧ ¬ 201 < lb ∧ (10000 : Int) < (n : Int)) ∨
      (¬ st < 0 ∧ ¬ 1000 < st ∧ ¬ lb < 1 ∧ ¬ 201 < lb ∧ ¬ (10000 : Int) < (n : Int) ∧ (st == 0) = true ∧ (s0 != 0) = true) ∨
      (¬ st < 0 ∧ ¬ 1000 < st ∧ ¬ lb < 1 ∧ ¬ 201 < lb ∧ ¬ (10000 : Int) < (n : Int) ∧ (st == 0) = false ∧ 0 < st ∧ s0 < 0) ∨
      (¬ st < 0 ∧ ¬ 1000 < st ∧ ¬ lb < 1 ∧ ¬ 201 < lb ∧ ¬ (10000 : Int) < (n : Int) ∧ (st == 0) = false ∧ 0 < st ∧ ¬ s0 < 0 ∧ st ≤ s0) := by
    unfold HeadBad at h
    simp only [beq_iff_eq, bne_iff_ne, beq_eq_false_iff_ne]
    omega
  clear h
  rcases key with h1 | ⟨h1, h2⟩ | ⟨h1, h2, h3⟩ | ⟨h1, h2, h3, h4⟩ | ⟨h1, h2, h3, h4, h5⟩ | ⟨h1, h2, h3, h4, h5, h6, h7⟩ | ⟨h1, h2, h3, h4, h5, h6, h7, h8⟩ | ⟨h1, h2, h3, h4, h5, h6, h7, h8, h9⟩
  all_goals
    go_enter Tryz.func42, Tryz.ntmps42
    go_wp2
    go_ret
    exact ⟨rfl, (Below.refl _ _).alloc (Nat.le_refl _) _⟩
set_option maxRecDepth 100000 in
set_option maxHeartbeats 2000000 in
theorem right_body {st lb s0 : Int} {xs : List E} (hh : ¬ HeadBad st lb s0 xs.length) {a : Option Addr} {b off c : Nat} {w : World} (hS : SlAt encE 3 w a b off xs) :
    Calls Tryz.prog 42 #[.agg #[.int .i64 st, .int .i64 lb, .int .i64 s0, .slice a xs.length c]] w fun e w' => e = .returned (.bool (xs.all fun x => !offB st lb x)) ∧ Below w.heap.size w w' := by
  unfold HeadBad at hh
  obtain ⟨h1, h2, h3, h4, h5, h6, h7⟩ : ¬ st < 0 ∧ ¬ 1000 < st ∧ ¬ lb < 1 ∧ ¬ 201 < lb ∧ ¬ s0 < 0 ∧ (s0 = 0 ∨ s0 < st) ∧ ¬ (10000 : Int) < (xs.length : Int) := by omega
  have key : ((st == 0) = true ∧ (s0 != 0) = false ∧ ¬ 0 < st) ∨ ((st == 0) = false ∧ 0 < st ∧ ¬ st ≤ s0) := by
    simp only [beq_iff_eq, bne_eq_false_iff_eq, beq_eq_false_iff_ne]
    omega
  have HS := hid hS
  clear hh h6 hS
  obtain ⟨C, hC⟩ : ∃ C, C = Obj.cells #[.int .i64 st, .int .i64 lb, .int .i64 s0, .slice a xs.length c] 24 := ⟨_, rfl⟩
  have HC := hid hC
  clear hC
  rcases key with ⟨k1, k2, k3⟩ | ⟨k1, k2, k3⟩
  · obtain rfl : st = 0 := by simpa using k1
    obtain rfl : s0 = 0 := by simpa using k2
    clear k1 k2 k3 h1 h2 h5
    go_enter Tryz.func42, Tryz.ntmps42
    go_wp2
    rw [← HC.out]
    go_loopw [3, 4] (fun i _ wr => ∃ k : Nat, k ≤ xs.length ∧ i = .int .i64 k ∧ (∀ j x, j < k → xs[j]? = some x → offB 0 lb x = false) ∧ Below (w.heap.size + 1) (w.alloc C) wr)
      (fun i _ _ => xs.length - (intOf i).toNat)
    case atStart => exact ⟨0, Nat.zero_le _, rfl, by intro j x hj; omega, Below.refl _ _⟩
    case round =>
      obtain ⟨k, hk, rfl, hz, hB⟩ := hrel
      have HZ := hid hz; clear hz
      have hsz : w.heap.size + 1 ≤ wr.heap.size := by simpa using hB.size
      have q0 : wr.heap[w.heap.size]? = some C := by
        rw [hB.block _ (by omega), heap_alloc_new]
      rw [HC.out] at q0
      have s0' : wr.cell? ⟨w.heap.size, 0, none⟩ = some (.int .i64 0) := by simp [World.cell?, q0]
      have s1' : wr.cell? ⟨w.heap.size, 1, none⟩ = some (.int .i64 lb) := by simp [World.cell?, q0]
      have s2' : wr.cell? ⟨w.heap.size, 2, none⟩ = some (.int .i64 0) := by simp [World.cell?, q0]
      have s3' : wr.cell? ⟨w.heap.size, 3, none⟩ = some (.slice a xs.length c) := by simp [World.cell?, q0]
      have hBw : Below w.heap.size w wr := ((Below.refl _ _).alloc (Nat.le_refl _) C).trans (hB.mono (by omega))
      have hltr : w.heap.size < wr.heap.size := by omega
      have HB := hid hB; have HBW := hid hBw
      clear q0 hB hBw
      by_cases hlt2 : k < xs.length
      · obtain ⟨x, hx⟩ := getElem?_of_lt hlt2
        have hS' := HS.out.below HBW.out (Nat.le_refl _)
        obtain rfl := hS'.ad (by omega)
        have c0 := hS'.e0 hx; have c1 := hS'.e1 hx; have c2 := hS'.e2 hx
        have hbl := hS'.lt (by omega)
        have hik : (k : Int) < (xs.length : Int) := by omega
        have HX := hid hx
        clear hx hS'
        obtain ⟨x1, x2, x3⟩ := x
        simp only at c0 c1 c2
        by_cases ho : offB 0 lb (x1, x2, x3) = true
        · have HO := hid ho
          have hall : xs.all (fun x => !offB 0 lb x) = false := by
            rw [List.all_eq_false]
            exact ⟨_, List.mem_of_getElem? HX.out, by simp [HO.out]⟩
          have HALL := hid hall
          have key2 : (x1 < 0) ∨ (¬ x1 < 0 ∧ 0 ≤ x1) := by
            simp only [offB, Bool.or_eq_true, decide_eq_true_eq] at ho
            omega
          clear ho hall
          rcases key2 with g1 | ⟨g1, g2⟩
          all_goals
            go_wp2
            go_ret
            exact ⟨ret_b (a := false) HALL.out.symm, ((HBW.out).alloc (by omega) _)⟩
        · exact absurd (by simp only [offB, Bool.or_eq_true, decide_eq_true_eq]; omega) ho
      · go_wp2
        go_ret
        have hall : xs.all (fun x => !offB 0 lb x) = true := by
          rw [List.all_eq_true]
          intro x hx
          obtain ⟨j, hj, rfl⟩ := List.getElem_of_mem hx
          simp [HZ.out j _ (by omega) (List.getElem?_eq_getElem hj)]
        exact ⟨ret_b (a := true) hall.symm, HBW.out⟩
  · go_enter Tryz.func42, Tryz.ntmps42
    go_wp2
    rw [← HC.out]
    go_loopw [3, 4] (fun i _ wr => ∃ k : Nat, k ≤ xs.length ∧ i = .int .i64 k ∧ (∀ j x, j < k → xs[j]? = some x → offB st lb x = false) ∧ Below (w.heap.size + 1) (w.alloc C) wr)
      (fun i _ _ => xs.length - (intOf i).toNat)
    case atStart => exact ⟨0, Nat.zero_le _, rfl, by intro j x hj; omega, Below.refl _ _⟩
    case round =>
      obtain ⟨k, hk, rfl, hz, hB⟩ := hrel
      have HZ := hid hz; clear hz
      have hsz : w.heap.size + 1 ≤ wr.heap.size := by simpa using hB.size
      have q0 : wr.heap[w.heap.size]? = some C := by
        rw [hB.block _ (by omega), heap_alloc_new]
      rw [HC.out] at q0
      have s0' : wr.cell? ⟨w.heap.size, 0, none⟩ = some (.int .i64 st) := by simp [World.cell?, q0]
      have s1' : wr.cell? ⟨w.heap.size, 1, none⟩ = some (.int .i64 lb) := by simp [World.cell?, q0]
      have s2' : wr.cell? ⟨w.heap.size, 2, none⟩ = some (.int .i64 s0) := by simp [World.cell?, q0]
      have s3' : wr.cell? ⟨w.heap.size, 3, none⟩ = some (.slice a xs.length c) := by simp [World.cell?, q0]
      have hBw : Below w.heap.size w wr := ((Below.refl _ _).alloc (Nat.le_refl _) C).trans (hB.mono (by omega))
      have hltr : w.heap.size < wr.heap.size := by omega
      have HB := hid hB; have HBW := hid hBw
      clear q0 hB hBw
      by_cases hlt2 : k < xs.length
      · obtain ⟨x, hx⟩ := getElem?_of_lt hlt2
        have hS' := HS.out.below HBW.out (Nat.le_refl _)
        obtain rfl := hS'.ad (by omega)
        have c0 := hS'.e0 hx; have c1 := hS'.e1 hx; have c2 := hS'.e2 hx
        have hbl := hS'.lt (by omega)
        have hik : (k : Int) < (xs.length : Int) := by omega
        have HX := hid hx
        clear hx hS'
        obtain ⟨x1, x2, x3⟩ := x
        simp only at c0 c1 c2
        by_cases ho : offB st lb (x1, x2, x3) = true
        · have HO := hid ho
          have hall : xs.all (fun x => !offB st lb x) = false := by
            rw [List.all_eq_false]
            exact ⟨_, List.mem_of_getElem? HX.out, by simp [HO.out]⟩
          have HALL := hid hall
          have key2 : (x1 < 0) ∨ (¬ x1 < 0 ∧ st ≤ x1) ∨ (¬ x1 < 0 ∧ ¬ st ≤ x1 ∧ x3 < 0) ∨ (¬ x1 < 0 ∧ ¬ st ≤ x1 ∧ ¬ x3 < 0 ∧ st ≤ x3) ∨ (¬ x1 < 0 ∧ ¬ st ≤ x1 ∧ ¬ x3 < 0 ∧ ¬ st ≤ x3 ∧ x2 < 0) ∨ (¬ x1 < 0 ∧ ¬ st ≤ x1 ∧ ¬ x3 < 0 ∧ ¬ st ≤ x3 ∧ ¬ x2 < 0 ∧ lb ≤ x2) := by
            simp only [offB, Bool.or_eq_true, decide_eq_true_eq] at ho
            omega
          clear ho hall
          rcases key2 with g1 | ⟨g1, g2⟩ | ⟨g1, g2, g3⟩ | ⟨g1, g2, g3, g4⟩ | ⟨g1, g2, g3, g4, g5⟩ | ⟨g1, g2, g3, g4, g5, g6⟩
          all_goals
            go_wp2
            go_ret
            exact ⟨ret_b (a := false) HALL.out.symm, ((HBW.out).alloc (by omega) _)⟩
        · have ho' : offB st lb (x1, x2, x3) = false := by simpa using ho
          have HO := hid ho'
          obtain ⟨g1, g2, g3, g4, g5, g6⟩ : ¬ x1 < 0 ∧ ¬ st ≤ x1 ∧ ¬ x3 < 0 ∧ ¬ st ≤ x3 ∧ ¬ x2 < 0 ∧ ¬ lb ≤ x2 := by
            simp only [offB, Bool.or_eq_true, decide_eq_true_eq] at ho
            omega
          clear ho ho'
          go_wp2
          go_roundw
          case rel => exact ⟨k + 1, by omega, by go_num, by
            intro j y hj hy
            by_cases hjk : j = k
            · subst hjk
              rw [HX.out] at hy
              simp at hy; subst hy
              exact HO.out
            · exact HZ.out j y (by omega) hy, HB.out.alloc (by omega) _⟩
          case measure => simp [intOf]; omega
      · go_wp2
        go_ret
        have hall : xs.all (fun x => !offB st lb x) = true := by
          rw [List.all_eq_true]
          intro x hx
          obtain ⟨j, hj, rfl⟩ := List.getElem_of_mem hx
          simp [HZ.out j _ (by omega) (List.getElem?_eq_getElem hj)]
        exact ⟨ret_b (a := true) hall.symm, HBW.out⟩
theorem right_yes {s : Lts} (h : s.Right) {a : Option Addr} {b off c : Nat} {w : World} (hS : SlAt encE 3 w a b off s.es) :
    Calls Tryz.prog 42 #[.agg #[.int .i64 s.st, .int .i64 s.lb, .int .i64 s.s0, .slice a s.es.length c]] w fun e w' => e = .returned (.bool true) ∧ Below w.heap.size w w' := by
  refine (right_body h.head hS).mono ?_
  rintro e w' ⟨rfl, hB⟩
  have : s.es.all (fun x => !offB s.st s.lb x) = true := by rw [List.all_eq_true]; intro x hx; simp [h.edges x hx]
  exact ⟨by rw [this], hB⟩
theorem right_no {s : Lts} (h : ¬ s.Right) {a : Option Addr} {b off c : Nat} {w : World} (hS : SlAt encE 3 w a b off s.es) :
    Calls Tryz.prog 42 #[.agg #[.int .i64 s.st, .int .i64 s.lb, .int .i64 s.s0, .slice a s.es.length c]] w fun e w' => e = .returned (.bool false) ∧ Below w.heap.size w w' := by
  by_cases hh : HeadBad s.st s.lb s.s0 s.es.length
  · exact right_head s.st s.lb s.s0 a s.es.length c w hh
  · refine (right_body hh hS).mono ?_
    rintro e w' ⟨rfl, hB⟩
    have : s.es.all (fun x => !offB s.st s.lb x) = false := by
      rw [Bool.eq_false_iff]; intro ha; rw [List.all_eq_true] at ha
      exact h ⟨hh, fun x hx => by simpa using ha x hx⟩
    exact ⟨by rw [this], hB⟩
end Go.Proofs.YtffjcehopoaboaaGreatDoor

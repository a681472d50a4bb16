/-
  semblanceref7.Right: is it a system?
  system.rows.row, and the graph in memory: Each, Back, own, States, Labels, Start.
-/
import Derived.Test.YtclannenknhfpaaGreatDoorRefSort2
import Derived.Test.YtclannenknhfpaaGreatDoorGKit
import Derived.Outline
import Derived.Deep.QuietTactic
import Derived.BigQuiet
import Derived.IntWalk
namespace Go.Proofs.YtclannenknhfpaaGreatDoor
open Go.RowKit Pl

set_option maxRecDepth 100000 in
set_option maxHeartbeats 1000000 in
theorem right_head (st lb s0 : Int) (a : Option Addr) (n c : Nat) (w : World) (h : HeadBad st lb s0 n) :
    Calls Tryz.prog 42 #[.agg #[.int .i64 st, .int .i64 lb, .int .i64 s0, .slice a n c]] w fun e w' => e = .returned (.bool false) ∧ Below w.heap.size w w' := by
  have key : (st < 0) ∨ (¬ st < 0 ∧ 1000 < st) ∨ (¬ st < 0 ∧ ¬ 1000 < st ∧ lb < 1) ∨ (¬ st < 0 ∧ ¬ 1000 < st ∧ ¬ lb < 1 ∧ 201 < lb) ∨ (¬ st < 0 ∧ ¬ 1000 < st ∧ ¬ lb < 1 ∧ ¬ 201 < lb ∧ (10000 : Int) < (n : Int)) ∨
      (¬ st < 0 ∧ ¬ 1000 < st ∧ ¬ lb < 1 ∧ ¬ 201 < lb ∧ ¬ (10000 : Int) < (n : Int) ∧ (st == 0) = true ∧ (s0 != 0) = true) ∨
      (¬ st < 0 ∧ ¬ 1000 < st ∧ ¬ lb < 1 ∧ ¬ 201 < lb ∧ ¬ (10000 : Int) < (n : Int) ∧ (st == 0) = false ∧ 0 < st ∧ s0 < 0) ∨
      (¬ st < 0 ∧ ¬ 1000 < st ∧ ¬ lb < 1 ∧ ¬ 201 < lb ∧ ¬ (10000 : Int) < (n : Int) ∧ (st == 0) = false ∧ 0 < st ∧ ¬ s0 < 0 ∧ st ≤ s0) := by
    unfold HeadBad at h
    simp only [beq_iff_eq, bne_iff_ne, beq_eq_false_iff_ne]
    omega
  clear h
  rcases key with h1 | ⟨h1, h2⟩ | ⟨h1, h2, h3⟩ | ⟨h1, h2, h3, h4⟩ | ⟨h1, h2, h3, h4, h5⟩ | ⟨h1, h2, h3, h4, h5, h6, h7⟩ | ⟨h1, h2, h3, h4, h5, h6, h7, h8⟩ | ⟨h1, h2, h3, h4, h5, h6, h7, h8, h9⟩
  all_goals
    go_enter Tryz.func42, Tryz.ntmps42
    go_wp2
    go_ret
    exact ⟨rfl, (Below.refl _ _).alloc (Nat.le_refl _) _⟩

set_option maxRecDepth 100000 in
set_option maxHeartbeats 2000000 in
theorem right_body {st lb s0 : Int} {xs : List E} (hh : ¬ HeadBad st lb s0 xs.length) {a : Option Addr} {b off c : Nat} {w : World} (hS : SlAt encE 3 w a b off xs) :
    Calls Tryz.prog 42 #[.agg #[.int .i64 st, .int .i64 lb, .int .i64 s0, .slice a xs.length c]] w fun e w' => e = .returned (.bool (xs.all fun x => !offB st lb x)) ∧ Below w.heap.size w w' := by
  unfold HeadBad at hh
  obtain ⟨h1, h2, h3, h4, h5, h6, h7⟩ : ¬ st < 0 ∧ ¬ 1000 < st ∧ ¬ lb < 1 ∧ ¬ 201 < lb ∧ ¬ s0 < 0 ∧ (s0 = 0 ∨ s0 < st) ∧ ¬ (10000 : Int) < (xs.length : Int) := by omega
  have key : ((st == 0) = true ∧ (s0 != 0) = false ∧ ¬ 0 < st) ∨ ((st == 0) = false ∧ 0 < st ∧ ¬ st ≤ s0) := by
    simp only [beq_iff_eq, bne_eq_false_iff_eq, beq_eq_false_iff_ne]
    omega
  have HS := Lib.hid hS
  clear hh h6 hS
  obtain ⟨C, hC⟩ : ∃ C, C = Obj.cells #[.int .i64 st, .int .i64 lb, .int .i64 s0, .slice a xs.length c] 24 := ⟨_, rfl⟩
  have HC := Lib.hid hC
  clear hC
  rcases key with ⟨k1, k2, k3⟩ | ⟨k1, k2, k3⟩
  · obtain rfl : st = 0 := by simpa using k1
    obtain rfl : s0 = 0 := by simpa using k2
    clear k1 k2 k3 h1 h2 h5
    go_enter Tryz.func42, Tryz.ntmps42
    go_wp2
    rw [← HC.out]
    go_loopw [3, 4] (fun i _ wr => ∃ k : Nat, k ≤ xs.length ∧ i = .int .i64 k ∧ (∀ j x, j < k → xs[j]? = some x → offB 0 lb x = false) ∧ Below (w.heap.size + 1) (w.alloc C) wr)
      (fun i _ _ => xs.length - (intOf i).toNat)
    case atStart => exact ⟨0, Nat.zero_le _, rfl, by intro j x hj; omega, Below.refl _ _⟩
    case round =>
      obtain ⟨k, hk, rfl, hz, hB⟩ := hrel
      have HZ := Lib.hid hz; clear hz
      have hsz : w.heap.size + 1 ≤ wr.heap.size := by simpa using hB.size
      have q0 : wr.heap[w.heap.size]? = some C := by
        rw [hB.block _ (by omega), heap_alloc_new]
      rw [HC.out] at q0
      have s0' : wr.cell? ⟨w.heap.size, 0, none⟩ = some (.int .i64 0) := by simp [World.cell?, q0]
      have s1' : wr.cell? ⟨w.heap.size, 1, none⟩ = some (.int .i64 lb) := by simp [World.cell?, q0]
      have s2' : wr.cell? ⟨w.heap.size, 2, none⟩ = some (.int .i64 0) := by simp [World.cell?, q0]
      have s3' : wr.cell? ⟨w.heap.size, 3, none⟩ = some (.slice a xs.length c) := by simp [World.cell?, q0]
      have hBw : Below w.heap.size w wr := ((Below.refl _ _).alloc (Nat.le_refl _) C).trans (hB.mono (by omega))
      have hltr : w.heap.size < wr.heap.size := by omega
      have HB := Lib.hid hB; have HBW := Lib.hid hBw
      clear q0 hB hBw
      by_cases hlt2 : k < xs.length
      · obtain ⟨x, hx⟩ := getElem?_of_lt hlt2
        have hS' := HS.out.below HBW.out (Nat.le_refl _)
        obtain rfl := hS'.ad (by omega)
        have c0 := hS'.e0 hx; have c1 := hS'.e1 hx; have c2 := hS'.e2 hx
        have hbl := hS'.lt (by omega)
        have hik : (k : Int) < (xs.length : Int) := by omega
        have HX := Lib.hid hx
        clear hx hS'
        obtain ⟨x1, x2, x3⟩ := x
        simp only at c0 c1 c2
        by_cases ho : offB 0 lb (x1, x2, x3) = true
        · have HO := Lib.hid ho
          have hall : xs.all (fun x => !offB 0 lb x) = false := by
            rw [List.all_eq_false]
            exact ⟨_, List.mem_of_getElem? HX.out, by simp [HO.out]⟩
          have HALL := Lib.hid hall
          have key2 : (x1 < 0) ∨ (¬ x1 < 0 ∧ 0 ≤ x1) := by
            simp only [offB, Bool.or_eq_true, decide_eq_true_eq] at ho
            omega
          clear ho hall
          rcases key2 with g1 | ⟨g1, g2⟩
          all_goals
            go_wp2
            go_ret
            exact ⟨ret_b (a := false) HALL.out.symm, ((HBW.out).alloc (by omega) _)⟩
        · exact absurd (by simp only [offB, Bool.or_eq_true, decide_eq_true_eq]; omega) ho
      · go_wp2
        go_ret
        have hall : xs.all (fun x => !offB 0 lb x) = true := by
          rw [List.all_eq_true]
          intro x hx
          obtain ⟨j, hj, rfl⟩ := List.getElem_of_mem hx
          simp [HZ.out j _ (by omega) (List.getElem?_eq_getElem hj)]
        exact ⟨ret_b (a := true) hall.symm, HBW.out⟩
  · go_enter Tryz.func42, Tryz.ntmps42
    go_wp2
    rw [← HC.out]
    go_loopw [3, 4] (fun i _ wr => ∃ k : Nat, k ≤ xs.length ∧ i = .int .i64 k ∧ (∀ j x, j < k → xs[j]? = some x → offB st lb x = false) ∧ Below (w.heap.size + 1) (w.alloc C) wr)
      (fun i _ _ => xs.length - (intOf i).toNat)
    case atStart => exact ⟨0, Nat.zero_le _, rfl, by intro j x hj; omega, Below.refl _ _⟩
    case round =>
      obtain ⟨k, hk, rfl, hz, hB⟩ := hrel
      have HZ := Lib.hid hz; clear hz
      have hsz : w.heap.size + 1 ≤ wr.heap.size := by simpa using hB.size
      have q0 : wr.heap[w.heap.size]? = some C := by
        rw [hB.block _ (by omega), heap_alloc_new]
      rw [HC.out] at q0
      have s0' : wr.cell? ⟨w.heap.size, 0, none⟩ = some (.int .i64 st) := by simp [World.cell?, q0]
      have s1' : wr.cell? ⟨w.heap.size, 1, none⟩ = some (.int .i64 lb) := by simp [World.cell?, q0]
      have s2' : wr.cell? ⟨w.heap.size, 2, none⟩ = some (.int .i64 s0) := by simp [World.cell?, q0]
      have s3' : wr.cell? ⟨w.heap.size, 3, none⟩ = some (.slice a xs.length c) := by simp [World.cell?, q0]
      have hBw : Below w.heap.size w wr := ((Below.refl _ _).alloc (Nat.le_refl _) C).trans (hB.mono (by omega))
      have hltr : w.heap.size < wr.heap.size := by omega
      have HB := Lib.hid hB; have HBW := Lib.hid hBw
      clear q0 hB hBw
      by_cases hlt2 : k < xs.length
      · obtain ⟨x, hx⟩ := getElem?_of_lt hlt2
        have hS' := HS.out.below HBW.out (Nat.le_refl _)
        obtain rfl := hS'.ad (by omega)
        have c0 := hS'.e0 hx; have c1 := hS'.e1 hx; have c2 := hS'.e2 hx
        have hbl := hS'.lt (by omega)
        have hik : (k : Int) < (xs.length : Int) := by omega
        have HX := Lib.hid hx
        clear hx hS'
        obtain ⟨x1, x2, x3⟩ := x
        simp only at c0 c1 c2
        by_cases ho : offB st lb (x1, x2, x3) = true
        · have HO := Lib.hid ho
          have hall : xs.all (fun x => !offB st lb x) = false := by
            rw [List.all_eq_false]
            exact ⟨_, List.mem_of_getElem? HX.out, by simp [HO.out]⟩
          have HALL := Lib.hid hall
          have key2 : (x1 < 0) ∨ (¬ x1 < 0 ∧ st ≤ x1) ∨ (¬ x1 < 0 ∧ ¬ st ≤ x1 ∧ x3 < 0) ∨ (¬ x1 < 0 ∧ ¬ st ≤ x1 ∧ ¬ x3 < 0 ∧ st ≤ x3) ∨ (¬ x1 < 0 ∧ ¬ st ≤ x1 ∧ ¬ x3 < 0 ∧ ¬ st ≤ x3 ∧ x2 < 0) ∨ (¬ x1 < 0 ∧ ¬ st ≤ x1 ∧ ¬ x3 < 0 ∧ ¬ st ≤ x3 ∧ ¬ x2 < 0 ∧ lb ≤ x2) := by
            simp only [offB, Bool.or_eq_true, decide_eq_true_eq] at ho
            omega
          clear ho hall
          rcases key2 with g1 | ⟨g1, g2⟩ | ⟨g1, g2, g3⟩ | ⟨g1, g2, g3, g4⟩ | ⟨g1, g2, g3, g4, g5⟩ | ⟨g1, g2, g3, g4, g5, g6⟩
          all_goals
            go_wp2
            go_ret
            exact ⟨ret_b (a := false) HALL.out.symm, ((HBW.out).alloc (by omega) _)⟩
        · have ho' : offB st lb (x1, x2, x3) = false := by simpa using ho
          have HO := Lib.hid ho'
          obtain ⟨g1, g2, g3, g4, g5, g6⟩ : ¬ x1 < 0 ∧ ¬ st ≤ x1 ∧ ¬ x3 < 0 ∧ ¬ st ≤ x3 ∧ ¬ x2 < 0 ∧ ¬ lb ≤ x2 := by
            simp only [offB, Bool.or_eq_true, decide_eq_true_eq] at ho
            omega
          clear ho ho'
          go_wp2
          go_roundw
          case rel => exact ⟨k + 1, by omega, by go_num, by
            intro j y hj hy
            by_cases hjk : j = k
            · subst hjk
              rw [HX.out] at hy
              simp at hy; subst hy
              exact HO.out
            · exact HZ.out j y (by omega) hy, HB.out.alloc (by omega) _⟩
          case measure => simp [intOf]; omega
      · go_wp2
        go_ret
        have hall : xs.all (fun x => !offB st lb x) = true := by
          rw [List.all_eq_true]
          intro x hx
          obtain ⟨j, hj, rfl⟩ := List.getElem_of_mem hx
          simp [HZ.out j _ (by omega) (List.getElem?_eq_getElem hj)]
        exact ⟨ret_b (a := true) hall.symm, HBW.out⟩

theorem right_yes {s : Lts} (h : s.Right) {a : Option Addr} {b off c : Nat} {w : World} (hS : SlAt encE 3 w a b off s.es) :
    Calls Tryz.prog 42 #[.agg #[.int .i64 s.st, .int .i64 s.lb, .int .i64 s.s0, .slice a s.es.length c]] w fun e w' => e = .returned (.bool true) ∧ Below w.heap.size w w' := by
  refine (right_body h.head hS).mono ?_
  rintro e w' ⟨rfl, hB⟩
  have : s.es.all (fun x => !offB s.st s.lb x) = true := by rw [List.all_eq_true]; intro x hx; simp [h.edges x hx]
  exact ⟨by rw [this], hB⟩
theorem right_no {s : Lts} (h : ¬ s.Right) {a : Option Addr} {b off c : Nat} {w : World} (hS : SlAt encE 3 w a b off s.es) :
    Calls Tryz.prog 42 #[.agg #[.int .i64 s.st, .int .i64 s.lb, .int .i64 s.s0, .slice a s.es.length c]] w fun e w' => e = .returned (.bool false) ∧ Below w.heap.size w w' := by
  by_cases hh : HeadBad s.st s.lb s.s0 s.es.length
  · exact right_head s.st s.lb s.s0 a s.es.length c w hh
  · refine (right_body hh hS).mono ?_
    rintro e w' ⟨rfl, hB⟩
    have : s.es.all (fun x => !offB s.st s.lb x) = false := by
      rw [Bool.eq_false_iff]; intro ha; rw [List.all_eq_true] at ha
      exact h ⟨hh, fun x hx => by simpa using ha x hx⟩
    exact ⟨by rw [this], hB⟩
end Go.Proofs.YtclannenknhfpaaGreatDoor

namespace Go.Proofs.YtclannenknhfpaaGreatDoor
open Go.RowKit Pl

theorem slAt_sub {α : Type} {enc : α → List Value} {k : Nat} {w : World} {a : Option Addr} {b off : Nat} {xs : List α} (h : SlAt enc k w a b off xs) (lo m : Nat) :
    SlAt enc k w (some ⟨b, off + lo * k, none⟩) b (off + lo * k) ((xs.drop lo).take m) where
  ad _ := rfl
  lt hl := h.lt (by simp at hl; omega)
  cell i x hx j u hu := by
    rw [List.getElem?_take] at hx
    split at hx
    · rw [List.getElem?_drop] at hx
      have := h.cell (lo + i) x hx j u hu
      rw [Nat.add_mul] at this
      rw [show off + lo * k + i * k + j = off + (lo * k + i * k) + j by omega]
      exact this
    · cases hx

/-- The rows of a graph, in memory: all the steps, and from where on each row lies. -/
structure RowsAt (w : World) (va vf : Value) (n : Nat) (all : List S) (fr : Nat → Nat) : Prop where
  alls : ∃ a c b off, va = .slice a all.length c ∧ all.length ≤ c ∧ c ≤ maxLen ∧ SlAt encS 2 w a b off all
  from_ : ∃ b, vf = .slice (some ⟨b, 0, none⟩) (n + 1) (n + 1) ∧ b < w.heap.size ∧ ∀ i, i ≤ n → w.cell? ⟨b, i, none⟩ = some (.int .i64 (fr i))
  mono : ∀ i, i < n → fr i ≤ fr (i + 1)
  top : ∀ i, i ≤ n → fr i ≤ all.length
  small : all.length ≤ 10000
  n_le : n ≤ 1000

def rowOf (all : List S) (fr : Nat → Nat) (i : Nat) : List S := (all.drop (fr i)).take (fr (i + 1) - fr i)

theorem RowsAt.below {w w' : World} {va vf : Value} {n : Nat} {all : List S} {fr : Nat → Nat} (h : RowsAt w va vf n all fr) (hB : Below w.heap.size w w') : RowsAt w' va vf n all fr := by
  obtain ⟨a, c, b, off, h1, h2, h3, h4⟩ := h.alls
  obtain ⟨b', h5, h6, h7⟩ := h.from_
  exact ⟨⟨a, c, b, off, h1, h2, h3, h4.below hB (Nat.le_refl _)⟩, ⟨b', h5, Nat.lt_of_lt_of_le h6 hB.size, fun i hi => by rw [hB.cell (p := ⟨b', i, none⟩) h6]; exact h7 i hi⟩, h.mono, h.top, h.small, h.n_le⟩

/-- What a call answers: a list of steps that is read at some place. -/
def StepsRet (w' : World) (e : Ending) (ss : List S) : Prop := ∃ a c b off, e = .returned (.slice a ss.length c) ∧ ss.length ≤ c ∧ c ≤ maxLen ∧ SlAt encS 2 w' a b off ss

theorem stepsRet_nil {w' : World} : StepsRet w' (.returned (.slice none 0 0)) [] := ⟨none, 0, 0, 0, rfl, Nat.le_refl _, by unfold maxLen; omega, slAt_nil _ _ _ _⟩

set_option maxRecDepth 100000 in
theorem row_out {w0 w : World} (va vf : Value) {n : Nat} {all : List S} {fr : Nat → Nat} (h : RowsAt w0 va vf n all fr) (_hB : Below w0.heap.size w0 w) (i : Int) (hi : i < 0 ∨ (n : Int) ≤ i) :
    Calls Tryz.prog 91 #[.agg #[va, vf], .int .i64 i] w fun e w' => StepsRet w0 e [] ∧ Below w.heap.size w w' := by
  obtain ⟨a, c, b, off, rfl, h2, h3, h4⟩ := h.alls
  obtain ⟨b', rfl, h6, h7⟩ := h.from_
  have hn := h.n_le
  clear h h4 h7 _hB
  rcases hi with hi | hi
  · go_enter Tryz.func91, Tryz.ntmps91
    go_wp2
    go_ret
    exact ⟨stepsRet_nil, (Below.refl _ _).alloc (Nat.le_refl _) _⟩
  · have hi0 : ¬ i < 0 := by omega
    go_enter Tryz.func91, Tryz.ntmps91
    go_wp2
    go_ret
    exact ⟨stepsRet_nil, (Below.refl _ _).alloc (Nat.le_refl _) _⟩

set_option maxRecDepth 100000 in
theorem row_in {w0 w : World} (va vf : Value) {n : Nat} {all : List S} {fr : Nat → Nat} (h : RowsAt w0 va vf n all fr) (hB : Below w0.heap.size w0 w) (i : Nat) (hi : i < n) :
    Calls Tryz.prog 91 #[.agg #[va, vf], .int .i64 i] w fun e w' => StepsRet w0 e (rowOf all fr i) ∧ Below w.heap.size w w' := by
  obtain ⟨a, c, b, off, rfl, h2, h3, h4⟩ := h.alls
  obtain ⟨b', rfl, h6, h7⟩ := h.from_
  have hn := h.n_le
  have c0 : w.cell? ⟨b', i, none⟩ = _ := (hB.cell (p := ⟨b', i, none⟩) h6).trans (h7 i (by omega))
  have c1 : w.cell? ⟨b', i + 1, none⟩ = _ := (hB.cell (p := ⟨b', i + 1, none⟩) h6).trans (h7 (i + 1) (by omega))
  replace h6 : b' < w.heap.size := Nat.lt_of_lt_of_le h6 hB.size
  have hm := h.mono i hi
  have ht := h.top (i + 1) (by omega)
  have hs := h.small
  unfold rowOf
  generalize fr i = lo at *
  generalize fr (i + 1) = hi' at *
  have hlen : ((all.drop lo).take (hi' - lo)).length = hi' - lo := by simp; omega
  have k1 : (i : Int) < (n : Int) := by omega
  have k2 : (0 : Int) ≤ (i : Int) + 1 := by omega
  have k6 : (i : Int) < (n : Int) + 1 := by omega
  have k3 : IntKind.i64.wrap ((i : Int) + 1) = (i : Int) + 1 := IntWalk.i64_in _ (by omega)
  have k4 : ((i : Int) + 1).toNat = i + 1 := by omega
  have k7 : (lo : Int) ≤ (hi' : Int) := by omega
  have k8 : (hi' : Int) ≤ (c : Int) := by omega
  by_cases heq : lo = hi'
  · subst heq
    have hrow : (all.drop lo).take (lo - lo) = [] := by simp
    rw [hrow]
    clear h h4 h7 hlen hrow hB
    go_enter Tryz.func91, Tryz.ntmps91
    go_wp2_with fail
    go_quiet (fail)
    go_wp2
    all_goals
      go_ret
      exact ⟨⟨a, _, 0, 0, rfl, Nat.le_refl _, by unfold maxLen; omega, slAt_nil _ _ _ _⟩, below_drewN ((Below.refl _ _).alloc (Nat.le_refl _) _) _⟩
  · obtain rfl := h4.ad (by omega)
    have k9 : (lo : Int) < (hi' : Int) := by omega
    have k10 : (lo : Int) < (c : Int) := by omega
    have k11 : lo < hi' := by omega
    have H4 := Lib.hid h4; have HL := Lib.hid hlen
    clear h h4 h7 hlen hB
    go_enter Tryz.func91, Tryz.ntmps91
    go_wp2_with fail
    go_quiet (fail)
    go_wp2
    go_ret
    refine ⟨⟨some ⟨b, off + lo * 2, none⟩, hi' - lo, b, off + lo * 2, ?_, by rw [HL.out]; exact Nat.le_refl _, by omega, slAt_sub H4.out lo (hi' - lo)⟩, below_drewN ((Below.refl _ _).alloc (Nat.le_refl _) _) _⟩
    rw [HL.out]
    first | rfl | (simp; done)
end Go.Proofs.YtclannenknhfpaaGreatDoor

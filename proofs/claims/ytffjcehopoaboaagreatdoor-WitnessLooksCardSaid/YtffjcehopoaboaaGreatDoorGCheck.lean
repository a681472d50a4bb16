/-
  Lemmas.
-/
import Derived.Test.YtffjcehopoaboaaGreatDoorGFault
import Derived.Deep.RegionHeld3
import Derived.Deep.RegionHeldLaw
import Derived.Deep.RegionWith
import Derived.Deep.OwnRows
import Derived.IntWalk
import Derived.Deep.Cut
import Derived.Deep.CutRange
import Derived.Deep.RegionLaw
namespace Go.Proofs.YtffjcehopoaboaaGreatDoor
open Go.RowKit Pl
theorem check_ok {p : Addr} {s : Lts} (h : s.Right) (a : Option Addr) (b off c : Nat) (w : World) (hG : GErr 16 p w) (hS : SlAt encE 3 w a b off s.es) :
    Calls Tryz.prog 186 #[.agg #[.int .i64 s.st, .int .i64 s.lb, .int .i64 s.s0, .slice a s.es.length c]] w fun e w' => e = .returned .nilIface ∧ Below w.heap.size w w' := by
  refine (check_body s.st s.lb s.s0 a b off c s.es w hG h.head hS).mono ?_
  rintro e w' ⟨h1, h2⟩
  have : s.es.all (fun x => !offB s.st s.lb x) = true := by rw [List.all_eq_true]; intro x hx; simp [h.edges x hx]
  unfold CheckPost at h1
  rw [this] at h1
  exact ⟨h1, h2⟩
theorem check_no {p : Addr} {s : Lts} (h : ¬ s.Right) (a : Option Addr) (b off c : Nat) (w : World) (hG : GErr 16 p w) (hS : SlAt encE 3 w a b off s.es) :
    Calls Tryz.prog 186 #[.agg #[.int .i64 s.st, .int .i64 s.lb, .int .i64 s.s0, .slice a s.es.length c]] w fun e w' =>
      ∃ v, e = .returned v ∧ FaultAt w' v ⟨#[115, 121, 115, 116, 101, 109]⟩ (.iface 304 (.pointer (some p))) ∧ Below w.heap.size w w' := by
  by_cases hh : HeadBad s.st s.lb s.s0 s.es.length
  · exact check_head s.st s.lb s.s0 a s.es.length c w hG hh
  · refine (check_body s.st s.lb s.s0 a b off c s.es w hG hh hS).mono ?_
    rintro e w' ⟨h1, h2⟩
    have : s.es.all (fun x => !offB s.st s.lb x) = false := by
      rw [Bool.eq_false_iff]; intro ha; rw [List.all_eq_true] at ha
      exact h ⟨hh, fun x hx => by simpa using ha x hx⟩
    unfold CheckPost at h1
    rw [this] at h1
    obtain ⟨v, h1, h3⟩ := h1
    exact ⟨v, h1, h3, h2⟩
end Go.Proofs.YtffjcehopoaboaaGreatDoor
namespace Go.Proofs.YtffjcehopoaboaaGreatDoor
open Go.RowKit Pl
theorem key1_any (x : E) (W : World) : Calls Tryz.prog 160 #[.agg #[.int .i64 x.1, .int .i64 x.2.1, .int .i64 x.2.2]] W fun e w' => e = .returned (.int .i64 x.1) ∧ w' = W.alloc (.cells #[.int .i64 x.1, .int .i64 x.2.1, .int .i64 x.2.2] 82) := by
  go_enter Tryz.func160, Tryz.ntmps160
  go_wp2
  go_ret
  exact ⟨rfl, rfl⟩
theorem key4_any (x : E) (W : World) : Calls Tryz.prog 167 #[.agg #[.int .i64 x.1, .int .i64 x.2.1, .int .i64 x.2.2]] W fun e w' => e = .returned (.int .i64 x.2.2) ∧ w' = W.alloc (.cells #[.int .i64 x.1, .int .i64 x.2.1, .int .i64 x.2.2] 82) := by
  go_enter Tryz.func167, Tryz.ntmps167
  go_wp2
  go_ret
  exact ⟨rfl, rfl⟩
theorem step2_any (x : E) (W : World) : Calls Tryz.prog 161 #[.agg #[.int .i64 x.1, .int .i64 x.2.1, .int .i64 x.2.2]] W fun e w' => e = .returned (.agg #[.int .i64 x.2.1, .int .i64 x.2.2]) ∧ w' = (W.alloc (.cells #[.int .i64 x.1, .int .i64 x.2.1, .int .i64 x.2.2] 82)).alloc (.cells #[.int .i64 x.2.1, .int .i64 x.2.2] 131) := by
  go_enter Tryz.func161, Tryz.ntmps161
  go_wp2
  exact bodyPost_ret (v := .agg #[.int .i64 x.2.1, .int .i64 x.2.2]) (by simp [results, Tryz.results161, go_sem]) rfl ⟨rfl, rfl⟩
theorem step5_any (x : E) (W : World) : Calls Tryz.prog 168 #[.agg #[.int .i64 x.1, .int .i64 x.2.1, .int .i64 x.2.2]] W fun e w' => e = .returned (.agg #[.int .i64 x.2.1, .int .i64 x.1]) ∧ w' = (W.alloc (.cells #[.int .i64 x.1, .int .i64 x.2.1, .int .i64 x.2.2] 82)).alloc (.cells #[.int .i64 x.2.1, .int .i64 x.1] 131) := by
  go_enter Tryz.func168, Tryz.ntmps168
  go_wp2
  exact bodyPost_ret (v := .agg #[.int .i64 x.2.1, .int .i64 x.1]) (by simp [results, Tryz.results168, go_sem]) rfl ⟨rfl, rfl⟩
structure NR (w wr : World) (n : Nat) (fr : Nat → Int) (va : Value) (ss : List S) : Prop where
  below : Below w.heap.size w wr
  b0 : wr.heap[w.heap.size]? = some (.cells #[.slice none 0 0, .slice none 0 0] 201 (0, 0))
  b1 : wr.rowIs (w.heap.size + 1) 3 (n + 1) (fun j => .int .i64 (fr j))
  b2 : wr.heap[w.heap.size + 2]? = some (.cells #[va, .slice (some ⟨w.heap.size + 1, 0, none⟩) (n + 1) (n + 1)] 201 (0, 0))
  all : wr.ownsRow (w.heap.size + 3) 131 2 va ss.length (ss.flatMap encS)
  size : w.heap.size + 3 ≤ wr.heap.size
section
variable {w wr : World} {n : Nat} {fr : Nat → Int} {va : Value} {ss : List S}
theorem NR.alloc (h : NR w wr n fr va ss) (o : Obj) : NR w (wr.alloc o) n fr va ss :=
  ⟨h.below.alloc (by have := h.size; omega) o, by rw [Below.heap_alloc _ _ _ (by have := h.size; omega)]; exact h.b0, h.b1.alloc o,
    by rw [Below.heap_alloc _ _ _ (by have := h.size; omega)]; exact h.b2, h.all.alloc o, by have := h.size; simp; omega⟩
theorem NR.drewN (h : NR w wr n fr va ss) (m : Nat) : NR w (wr.drewN m) n fr va ss :=
  ⟨below_drewN h.below m, h.b0, h.b1, h.b2, h.all, h.size⟩
theorem NR.setFrom (h : NR w wr n fr va ss) (j : Nat) (v : Int) : NR w (wr.setCell ⟨w.heap.size + 1, j, none⟩ (.int .i64 v)) n (fun i => if i = j then v else fr i) va ss :=
  ⟨h.below.setCell (by show w.heap.size ≤ w.heap.size + 1; omega) _, by rw [Below.heap_setCell _ _ _ _ (by show w.heap.size ≠ w.heap.size + 1; omega)]; exact h.b0,
    (h.b1.set j _).congr (fun i _ => by split <;> rfl), by rw [Below.heap_setCell _ _ _ _ (by show w.heap.size + 2 ≠ w.heap.size + 1; omega)]; exact h.b2,
    ownsRow_setCell_below h.all (by show w.heap.size + 1 < w.heap.size + 3; omega) _, by have := h.size; simpa [World.setCell] using this⟩
theorem NR.setAll (h : NR w wr n fr va ss) {w1 : World} {va' : Value} {ss' : List S} (hown : w1.ownsRow (w.heap.size + 3) 131 2 va' ss'.length (ss'.flatMap encS)) (hg : wr.grownBy w1 va.ownBlock) :
    NR w (w1.setCell ⟨w.heap.size + 2, 0, none⟩ va') n fr va' ss' := by
  have hs := h.size
  have hb : ∀ k, k < w.heap.size + 3 → w1.heap[k]? = wr.heap[k]? := fun k hk => hg.block k (by omega) (fun e => by have := (h.all.lt k e.symm).1; omega)
  have hs1 := hg.size
  refine ⟨(h.below.grown hg (by omega) (fun k hk => by have := (h.all.lt k hk).1; omega)).setCell (by show w.heap.size ≤ w.heap.size + 2; omega) _, ?_, ?_, ?_, ownsRow_setCell_below hown (by show w.heap.size + 2 < w.heap.size + 3; omega) _, ?_⟩
  · rw [Below.heap_setCell _ _ _ _ (by show w.heap.size ≠ w.heap.size + 2; omega), hb _ (by omega)]; exact h.b0
  · exact (h.b1.of_block (hb _ (by omega))).setOther (by show w.heap.size + 1 ≠ w.heap.size + 2; omega) _
  · have := h.b2
    rw [← hb _ (by omega)] at this
    simp only [World.setCell, Array.getElem?_modify, if_true, this]
    rfl
  · have := h.size; simp [World.setCell]; omega
theorem NR.congr {fr' : Nat → Int} (h : NR w wr n fr va ss) (e : ∀ i, fr i = fr' i) : NR w wr n fr' va ss := by
  have : fr = fr' := funext e
  rw [← this]; exact h
theorem NR.c0 (h : NR w wr n fr va ss) : wr.cell? ⟨w.heap.size + 2, 0, none⟩ = some va := by simp [World.cell?, h.b2]
theorem NR.c1 (h : NR w wr n fr va ss) : wr.cell? ⟨w.heap.size + 2, 1, none⟩ = some (.slice (some ⟨w.heap.size + 1, 0, none⟩) (n + 1) (n + 1)) := by simp [World.cell?, h.b2]
theorem NR.fz (h : NR w wr n fr va ss) (j : Nat) : wr.frozen? ⟨w.heap.size + 2, j, none⟩ = false := by simp [World.frozen?, h.b2]
theorem NR.keep (h : NR w wr n fr va ss) {w1 : World} (hg : wr.grownBy w1 va.ownBlock) : w1.cell? ⟨w.heap.size + 1 + 1, 0, none⟩ = some va ∧ w1.frozen? ⟨w.heap.size + 1 + 1, 0, none⟩ = false := by
  have hb : w1.heap[w.heap.size + 2]? = wr.heap[w.heap.size + 2]? := hg.block _ (by have := h.size; omega) (fun e => by have := (h.all.lt _ e.symm).1; omega)
  exact ⟨by rw [World.cell?_of_block (w := wr) (a := ⟨w.heap.size + 1 + 1, 0, none⟩) hb]; exact h.c0, by rw [World.frozen?_of_block (w := wr) (a := ⟨w.heap.size + 1 + 1, 0, none⟩) hb]; exact h.fz 0⟩
theorem NR.d0 (h : NR w wr n fr va ss) : wr.cell? ⟨w.heap.size, 0, none⟩ = some (.slice none 0 0) := by simp [World.cell?, h.b0]
theorem NR.d1 (h : NR w wr n fr va ss) : wr.cell? ⟨w.heap.size, 1, none⟩ = some (.slice none 0 0) := by simp [World.cell?, h.b0]
theorem NR.dz (h : NR w wr n fr va ss) (j : Nat) : wr.frozen? ⟨w.heap.size, j, none⟩ = false := by simp [World.frozen?, h.b0]
end
theorem NR.start (w : World) (n : Nat) (fr : Nat → Int) (hf : ∀ i, fr i = 0) :
    NR w (((w.alloc (Obj.cells #[Value.slice none 0 0, Value.slice none 0 0] 201)).alloc (Obj.cells (madeCells #[Value.int IntKind.i64 0] (n + 1)) 3)).alloc (Obj.cells #[Value.slice none 0 0, Value.slice (some ⟨w.heap.size + 1, 0, none⟩) (n + 1) (n + 1)] 201)) n fr (.slice none 0 0) [] := by
  refine ⟨((((Below.refl _ _).alloc (Nat.le_refl _) _).alloc (by simp) _).alloc (by simp; omega) _), ?_, ?_, ?_, World.ownsRow_nil _ _ _ _, by simp⟩
  · rw [Below.heap_alloc _ _ _ (by simp; omega), Below.heap_alloc _ _ _ (by simp), heap_alloc_new]
  · have := (World.rowIs_made (w.alloc (Obj.cells #[Value.slice none 0 0, Value.slice none 0 0] 201)) (.int .i64 0) (n + 1) 3).alloc (Obj.cells #[Value.slice none 0 0, Value.slice (some ⟨w.heap.size + 1, 0, none⟩) (n + 1) (n + 1)] 201)
    refine (by simpa using this : World.rowIs _ (w.heap.size + 1) _ _ _).congr (fun i _ => by rw [hf])
  · simpa using heap_alloc_new ((w.alloc (Obj.cells #[Value.slice none 0 0, Value.slice none 0 0] 201)).alloc (Obj.cells (madeCells #[Value.int IntKind.i64 0] (n + 1)) 3)) (Obj.cells #[Value.slice none 0 0, Value.slice (some ⟨w.heap.size + 1, 0, none⟩) (n + 1) (n + 1)] 201)
def cntk (key : E → Int) (l : List E) (i : Nat) : Int := (l.filter (fun x => key x + 1 == (i : Int))).length
theorem cntk_snoc (key : E → Int) (l : List E) (x : E) (i : Nat) : cntk key (l ++ [x]) i = cntk key l i + if key x + 1 = (i : Int) then 1 else 0 := by
  unfold cntk
  rw [List.filter_append]
  by_cases h : key x + 1 = (i : Int) <;> simp [h]
theorem cntk_le (key : E → Int) (l : List E) (i : Nat) : 0 ≤ cntk key l i ∧ cntk key l i ≤ l.length := by
  unfold cntk
  have := List.length_filter_le (fun x => key x + 1 == (i : Int)) l
  omega
def frOf (key : E → Int) (xs : List E) (k : Nat) (i : Nat) : Int := if i ≤ k then ((xs.filter (fun x => decide (key x < (i : Int)))).length : Int) else cntk key xs i
theorem frOf_zero (key : E → Int) {xs : List E} (h : ∀ x ∈ xs, 0 ≤ key x) (i : Nat) : frOf key xs 0 i = cntk key xs i := by
  unfold frOf
  split
  · have : i = 0 := by omega
    subst this
    unfold cntk
    congr 1
    have h1 : xs.filter (fun x => decide (key x < ((0 : Nat) : Int))) = [] := by
      rw [List.filter_eq_nil_iff]; intro x hx; have := h x hx; simp; omega
    have h2 : xs.filter (fun x => key x + 1 == ((0 : Nat) : Int)) = [] := by
      rw [List.filter_eq_nil_iff]; intro x hx; have := h x hx; simp; omega
    rw [h1, h2]
  · rfl
theorem pre_succ (key : E → Int) (k : Nat) : ∀ xs : List E, ((xs.filter (fun x => decide (key x < ((k + 1 : Nat) : Int)))).length : Int) = cntk key xs (k + 1) + (xs.filter (fun x => decide (key x < (k : Int)))).length
  | [] => by simp [cntk]
  | x :: xs => by
    have ih := pre_succ key k xs
    unfold cntk at *
    simp only [List.filter_cons]
    by_cases h1 : key x < (k : Int)
    · have b1 : decide (key x < (k : Int)) = true := by simp [h1]
      have b2 : decide (key x < ((k + 1 : Nat) : Int)) = true := by simp; omega
      have b3 : (key x + 1 == ((k + 1 : Nat) : Int)) = false := by simp; omega
      simp only [b1, b2, b3, if_true, Bool.false_eq_true, if_false, List.length_cons]; omega
    · have b1 : decide (key x < (k : Int)) = false := by simp; omega
      by_cases h2 : key x < ((k + 1 : Nat) : Int)
      · have b2 : decide (key x < ((k + 1 : Nat) : Int)) = true := by simp; omega
        have b3 : (key x + 1 == ((k + 1 : Nat) : Int)) = true := by simp; omega
        simp only [b1, b2, b3, if_true, Bool.false_eq_true, if_false, List.length_cons]; omega
      · have b2 : decide (key x < ((k + 1 : Nat) : Int)) = false := by simp; omega
        have b3 : (key x + 1 == ((k + 1 : Nat) : Int)) = false := by simp; omega
        simp only [b1, b2, b3, Bool.false_eq_true, if_false]; omega
theorem frOf_step (key : E → Int) (xs : List E) (k : Nat) : frOf key xs (k + 1) (k + 1) = frOf key xs k (k + 1) + frOf key xs k k := by
  unfold frOf
  rw [if_pos (Nat.le_refl _), if_neg (by omega), if_pos (Nat.le_refl _)]
  exact pre_succ key k xs
theorem frOf_bd (key : E → Int) (xs : List E) (k i : Nat) : 0 ≤ frOf key xs k i ∧ frOf key xs k i ≤ xs.length := by
  unfold frOf
  split
  · have := List.length_filter_le (fun x => decide (key x < (i : Int))) xs; omega
  · exact cntk_le _ _ _
theorem frOf_next (key : E → Int) (xs : List E) (k i : Nat) : (if i = k + 1 then frOf key xs k (k + 1) + frOf key xs k k else frOf key xs k i) = frOf key xs (k + 1) i := by
  by_cases h : i = k + 1
  · subst h; rw [if_pos rfl, frOf_step]
  · rw [if_neg h]; unfold frOf
    by_cases h2 : i ≤ k
    · rw [if_pos h2, if_pos (by omega)]
    · rw [if_neg h2, if_neg (by omega)]
end Go.Proofs.YtffjcehopoaboaaGreatDoor

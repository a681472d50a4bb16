/-
  The graph in memory: Each, Back, own, States, Labels, Start; Out, In, By, From.
-/
import Derived.Test.YtbbjmompbmgnmaaDoorGraphA
import Derived.Test.YtbbjmompbmgnmaaDoorPl2
import Derived.Test.YtbbjmompbmgnmaaDoorClone
namespace Go.Proofs.YtbbjmompbmgnmaaDoor
open Go.RowKit Pl

def stO (x : E) : S := (x.2.1, x.2.2)
def stI (x : E) : S := (x.2.1, x.1)

/-- A graph's block: the system s, its edges in order, and the rows. -/
structure GraphAt (w : World) (gb : Nat) (s : Lts) : Prop where
  right : s.Right
  srt : Srt ltE s.es
  blk : ∃ ve oa of ia if_ : Value, w.heap[gb]? = some (.cells #[.int .i64 s.st, .int .i64 s.lb, .int .i64 s.s0, ve, oa, of, ia, if_] 56 (0, 0)) ∧
    (∃ a c b off, ve = .slice a s.es.length c ∧ s.es.length ≤ c ∧ SlAt encE 3 w a b off s.es) ∧
    RowsAt w oa of s.st.toNat (s.es.map stO) (frK (fun x => x.1) s.es) ∧
    RowsAt w ia if_ s.st.toNat ((nf ltB s.es).map stI) (frK (fun x => x.2.2) (nf ltB s.es))

theorem GraphAt.lt {w : World} {gb : Nat} {s : Lts} (h : GraphAt w gb s) : gb < w.heap.size := by
  obtain ⟨ve, oa, of, ia, if_, h1, _⟩ := h.blk
  exact (Array.getElem?_eq_some_iff.1 h1).1

theorem GraphAt.below {w w' : World} {gb : Nat} {s : Lts} (h : GraphAt w gb s) (hB : Below w.heap.size w w') : GraphAt w' gb s := by
  obtain ⟨ve, oa, of, ia, if_, h1, ⟨a, c, b, off, h2, h2', h3⟩, h4, h5⟩ := h.blk
  exact ⟨h.right, h.srt, ve, oa, of, ia, if_, by rw [hB.block _ h.lt]; exact h1, ⟨a, c, b, off, h2, h2', h3.below hB (Nat.le_refl _)⟩, h4.below hB, h5.below hB⟩

theorem rowOf_map (key : E → Int) (f : E → S) (l : List E) (h : l.Pairwise (fun a b => key a ≤ key b)) (i : Nat) : rowOf (l.map f) (frK key l) i = (l.filter (fun x => key x == (i : Int))).map f := by
  unfold rowOf
  rw [← List.map_drop, ← List.map_take]
  congr 1
  exact piece i l h

theorem outs_out {s : Lts} (h : s.Right) {i : Int} (hi : i < 0 ∨ s.st ≤ i) : s.outs i = [] := by
  unfold Lts.outs
  have : s.es.filter (fun x => x.1 == i) = [] := by
    rw [List.filter_eq_nil_iff]; intro x hx
    have := offB_false.1 (h.edges x hx)
    simp; omega
  rw [this]; rfl
theorem ins_out {s : Lts} (h : s.Right) {i : Int} (hi : i < 0 ∨ s.st ≤ i) : s.ins i = [] := by
  unfold Lts.ins
  have : (nf ltB s.es).filter (fun x => x.2.2 == i) = [] := by
    rw [List.filter_eq_nil_iff]; intro x hx
    have := offB_false.1 (h.edges x ((mem_nf stoB x s.es).1 hx))
    simp; omega
  rw [this]; rfl

theorem row_outs {w0 w : World} (hB : Below w0.heap.size w0 w) {va vf : Value} {s : Lts} (hr : s.Right) (hs : Srt ltE s.es) (h : RowsAt w0 va vf s.st.toNat (s.es.map stO) (frK (fun x => x.1) s.es)) (i : Int) :
    Calls Tryd.prog 87 #[.agg #[va, vf], .int .i64 i] w fun e w' => StepsRet w0 e (s.outs i) ∧ Below w.heap.size w w' := by
  have h0 := hr.st0
  by_cases hi : i < 0 ∨ s.st ≤ i
  · rw [outs_out hr hi]
    exact row_out va vf h hB i (by omega)
  · obtain ⟨n, rfl⟩ := Int.eq_ofNat_of_zero_le (show 0 ≤ i by omega)
    have := row_in va vf h hB n (by omega)
    rw [rowOf_map (fun x => x.1) stO s.es (srtE_key hs)] at this
    exact this
theorem row_ins {w0 w : World} (hB : Below w0.heap.size w0 w) {va vf : Value} {s : Lts} (hr : s.Right) (h : RowsAt w0 va vf s.st.toNat ((nf ltB s.es).map stI) (frK (fun x => x.2.2) (nf ltB s.es))) (i : Int) :
    Calls Tryd.prog 87 #[.agg #[va, vf], .int .i64 i] w fun e w' => StepsRet w0 e (s.ins i) ∧ Below w.heap.size w w' := by
  have h0 := hr.st0
  by_cases hi : i < 0 ∨ s.st ≤ i
  · rw [ins_out hr hi]
    exact row_out va vf h hB i (by omega)
  · obtain ⟨n, rfl⟩ := Int.eq_ofNat_of_zero_le (show 0 ≤ i by omega)
    have := row_in va vf h hB n (by omega)
    rw [rowOf_map (fun x => x.2.2) stI (nf ltB s.es) (srtB_key (srt_nf stoB _))] at this
    exact this

set_option maxRecDepth 100000 in
theorem each_any {w0 w : World} {gb : Nat} {s : Lts} (h : GraphAt w0 gb s) (hB0 : Below w0.heap.size w0 w) (i : Int) :
    Calls Tryd.prog 57 #[.pointer (some ⟨gb, 0, none⟩), .int .i64 i] w fun e w' => StepsRet w0 e (s.outs i) ∧ Below w.heap.size w w' := by
  obtain ⟨ve, oa, of, ia, if_, h1, _, h4, _⟩ := h.blk
  have h1' := (hB0.block gb h.lt).trans h1
  have c4 : w.cell? ⟨gb, 4, none⟩ = some oa := by simp [World.cell?, h1']
  have c5 : w.cell? ⟨gb, 5, none⟩ = some of := by simp [World.cell?, h1']
  have hR := row_outs hB0 h.right h.srt h4 i
  have HR := Lib.hid hR
  clear h h1 h1' h4 hR hB0
  go_enter Tryd.func57, Tryd.ntmps57
  go_wp2_with (go_at_call 87; refine (HR.out).mono ?_; rintro e w1 ⟨⟨a, c, b, off, rfl, hrest⟩, hB⟩; have HREST := Lib.hid hrest; clear hrest)
  go_ret
  exact ⟨⟨a, c, b, off, rfl, HREST.out⟩, hB⟩

set_option maxRecDepth 100000 in
theorem back_any {w0 w : World} {gb : Nat} {s : Lts} (h : GraphAt w0 gb s) (hB0 : Below w0.heap.size w0 w) (i : Int) :
    Calls Tryd.prog 91 #[.pointer (some ⟨gb, 0, none⟩), .int .i64 i] w fun e w' => StepsRet w0 e (s.ins i) ∧ Below w.heap.size w w' := by
  obtain ⟨ve, oa, of, ia, if_, h1, _, _, h5⟩ := h.blk
  have h1' := (hB0.block gb h.lt).trans h1
  have c4 : w.cell? ⟨gb, 6, none⟩ = some ia := by simp [World.cell?, h1']
  have c5 : w.cell? ⟨gb, 7, none⟩ = some if_ := by simp [World.cell?, h1']
  have hR := row_ins hB0 h.right h5 i
  have HR := Lib.hid hR
  clear h h1 h1' h5 hR hB0
  go_enter Tryd.func91, Tryd.ntmps91
  go_wp2_with (go_at_call 87; refine (HR.out).mono ?_; rintro e w1 ⟨⟨a, c, b, off, rfl, hrest⟩, hB⟩; have HREST := Lib.hid hrest; clear hrest)
  go_ret
  exact ⟨⟨a, c, b, off, rfl, HREST.out⟩, hB⟩

end Go.Proofs.YtbbjmompbmgnmaaDoor

/-
  system.Graph.Cut at a graph; at no graph and at an empty one.
-/
import Derived.Test.YtbbjmompbmgnmaaDoorDegree
import Derived.Test.YtbbjmompbmgnmaaDoorCut
namespace Go.Proofs.YtbbjmompbmgnmaaDoor
open Go.RowKit Pl

set_option maxRecDepth 100000 in
/-- own, its value fixed ahead. -/
theorem own_at {w : World} {gb : Nat} {s : Lts} (h : GraphAt w gb s) : ∃ (a : Option Addr) (c b off : Nat), SlAt encE 3 w a b off s.es ∧ ∀ w1, Below w.heap.size w w1 →
    Calls Tryd.prog 64 #[.pointer (some ⟨gb, 0, none⟩)] w1 fun e w' => e = .returned (.agg #[.int .i64 s.st, .int .i64 s.lb, .int .i64 s.s0, .slice a s.es.length c]) ∧ Below w1.heap.size w1 w' := by
  obtain ⟨ve, oa, of, ia, if_, h1, ⟨a, c, b, off, rfl, hcc, h3⟩, _, _⟩ := h.blk
  refine ⟨a, c, b, off, h3, fun w1 hB => ?_⟩
  have h1' := (hB.block gb h.lt).trans h1
  have c0 : w1.cell? ⟨gb, 0, none⟩ = some (.int .i64 s.st) := by simp [World.cell?, h1']
  have c1 : w1.cell? ⟨gb, 1, none⟩ = some (.int .i64 s.lb) := by simp [World.cell?, h1']
  have c2 : w1.cell? ⟨gb, 2, none⟩ = some (.int .i64 s.s0) := by simp [World.cell?, h1']
  have c3 : w1.cell? ⟨gb, 3, none⟩ = some (.slice a s.es.length c) := by simp [World.cell?, h1']
  have hgb : gb < w1.heap.size := Nat.lt_of_lt_of_le h.lt hB.size
  clear h h1 h1' h3 hB
  go_enter Tryd.func64, Tryd.ntmps64
  go_wp2
  have hB : Below w1.heap.size w1 _ := (Below.refl w1.heap.size w1).alloc (Nat.le_refl _) (Obj.cells #[.int .i64 s.st, .int .i64 s.lb, .int .i64 s.s0, .slice a s.es.length c] 24)
  exact bodyPost_ret (v := .agg #[.int .i64 s.st, .int .i64 s.lb, .int .i64 s.s0, .slice a s.es.length c]) (by simp [results, Tryd.results64, go_sem]) rfl ⟨rfl, hB⟩

theorem cut_any {w : World} {gb : Nat} {s : Lts} (h : GraphAt w gb s) : Calls Tryd.prog 22 #[.pointer (some ⟨gb, 0, none⟩)] w (CutPost s s.st.toNat w) := by
  have hst := h.right.st0
  have hn : s.st = (s.st.toNat : Int) := by omega
  obtain ⟨a, c, b, off, hE, hO⟩ := own_at h
  refine cut_gen (s := s) hn (by omega) (by omega) (fun x hx => ?_) ⟨by omega, by omega⟩ (fun w1 hB => getLabels_any (h.below hB)) (fun w1 hB => by have := getStates_any (h.below hB); rw [hn] at this; exact this) (fun w1 hB => getStart_any (h.below hB)) hE hO (fun w1 hB => reach_any (h.below hB))
  have := offB_false.1 (h.right.edges x hx)
  omega
end Go.Proofs.YtbbjmompbmgnmaaDoor

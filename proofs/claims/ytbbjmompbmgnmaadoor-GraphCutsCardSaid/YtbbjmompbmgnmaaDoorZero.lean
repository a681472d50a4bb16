/-
  system.Graph's methods at no graph (nil) and at an empty one (&system.Graph{}).
-/
import Derived.Test.YtbbjmompbmgnmaaDoorRefCut
namespace Go.Proofs.YtbbjmompbmgnmaaDoor
open Go.RowKit Pl

/-- No graph, or an empty one. -/
def ZeroG (w : World) (gp : Value) : Prop :=
  gp = .pointer none ∨ ∃ gb, gp = .pointer (some ⟨gb, 0, none⟩) ∧ w.heap[gb]? = some (.cells #[.int .i64 0, .int .i64 0, .int .i64 0, .slice none 0 0, .slice none 0 0, .slice none 0 0, .slice none 0 0, .slice none 0 0] 56 (0, 0))
theorem ZeroG.below {w w' : World} {gp : Value} (h : ZeroG w gp) (hB : Below w.heap.size w w') : ZeroG w' gp := by
  rcases h with h | ⟨gb, h1, h2⟩
  · exact .inl h
  · exact .inr ⟨gb, h1, by rw [hB.block _ (Array.getElem?_eq_some_iff.1 h2).1]; exact h2⟩

set_option maxRecDepth 100000 in
theorem own_zero {w : World} {gp : Value} (h : ZeroG w gp) :
    Calls Tryd.prog 64 #[gp] w fun e w' => e = .returned (.agg #[.int .i64 0, .int .i64 0, .int .i64 0, .slice none 0 0]) ∧ Below w.heap.size w w' := by
  have hB : Below w.heap.size w _ := (Below.refl w.heap.size w).alloc (Nat.le_refl _) (Obj.cells #[.int .i64 0, .int .i64 0, .int .i64 0, .slice none 0 0] 24)
  rcases h with rfl | ⟨gb, rfl, h1⟩
  · go_enter Tryd.func64, Tryd.ntmps64
    go_wp2
    exact bodyPost_ret (v := .agg #[.int .i64 0, .int .i64 0, .int .i64 0, .slice none 0 0]) (by simp [results, Tryd.results64, go_sem]) rfl ⟨rfl, hB⟩
  · have c0 : w.cell? ⟨gb, 0, none⟩ = some (.int .i64 0) := by simp [World.cell?, h1]
    have c1 : w.cell? ⟨gb, 1, none⟩ = some (.int .i64 0) := by simp [World.cell?, h1]
    have c2 : w.cell? ⟨gb, 2, none⟩ = some (.int .i64 0) := by simp [World.cell?, h1]
    have c3 : w.cell? ⟨gb, 3, none⟩ = some (.slice none 0 0) := by simp [World.cell?, h1]
    have hgb : gb < w.heap.size := (Array.getElem?_eq_some_iff.1 h1).1
    clear h1
    go_enter Tryd.func64, Tryd.ntmps64
    go_wp2
    exact bodyPost_ret (v := .agg #[.int .i64 0, .int .i64 0, .int .i64 0, .slice none 0 0]) (by simp [results, Tryd.results64, go_sem]) rfl ⟨rfl, hB⟩

set_option maxRecDepth 100000 in
theorem states_zero {w : World} {gp : Value} (h : ZeroG w gp) : Calls Tryd.prog 24 #[gp] w fun e w' => e = .returned (.int .i64 0) ∧ Below w.heap.size w w' := by
  have HO := Lib.hid (own_zero h); clear h
  have hfl := fldSys0
  go_enter Tryd.func24, Tryd.ntmps24
  go_wp2_with fail
  refine (HO.out).mono ?_
  rintro e w1 ⟨rfl, hB⟩
  go_wp2
  go_ret
  exact ⟨rfl, hB⟩
set_option maxRecDepth 100000 in
theorem labels_zero {w : World} {gp : Value} (h : ZeroG w gp) : Calls Tryd.prog 25 #[gp] w fun e w' => e = .returned (.int .i64 0) ∧ Below w.heap.size w w' := by
  have HO := Lib.hid (own_zero h); clear h
  have hfl := fldSys1
  go_enter Tryd.func25, Tryd.ntmps25
  go_wp2_with fail
  refine (HO.out).mono ?_
  rintro e w1 ⟨rfl, hB⟩
  go_wp2
  go_ret
  exact ⟨rfl, hB⟩
set_option maxRecDepth 100000 in
theorem start_zero {w : World} {gp : Value} (h : ZeroG w gp) : Calls Tryd.prog 63 #[gp] w fun e w' => e = .returned (.int .i64 0) ∧ Below w.heap.size w w' := by
  have HO := Lib.hid (own_zero h); clear h
  have hfl := fldSys2
  go_enter Tryd.func63, Tryd.ntmps63
  go_wp2_with fail
  refine (HO.out).mono ?_
  rintro e w1 ⟨rfl, hB⟩
  go_wp2
  go_ret
  exact ⟨rfl, hB⟩
set_option maxRecDepth 100000 in
theorem reach_zero {w : World} {gp : Value} (h : ZeroG w gp) : Calls Tryd.prog 27 #[gp] w fun e w' => e = .returned (.slice none 0 0) ∧ Below w.heap.size w w' := by
  have HO := Lib.hid (states_zero h); clear h
  go_enter Tryd.func27, Tryd.ntmps27
  go_wp2_with fail
  refine (HO.out).mono ?_
  rintro e w1 ⟨rfl, hB⟩
  go_wp2
  go_ret
  exact ⟨rfl, hB⟩
set_option maxRecDepth 100000 in
theorem degree_zero {w : World} {gp : Value} (h : ZeroG w gp) : Calls Tryd.prog 26 #[gp] w fun e w' => e = .returned (.int .i64 0) ∧ Below w.heap.size w w' := by
  have HO := Lib.hid (states_zero h); clear h
  go_enter Tryd.func26, Tryd.ntmps26
  go_wp2_with fail
  refine (HO.out).mono ?_
  rintro e w1 ⟨rfl, hB⟩
  go_wp2_with fail
  go_loopw [3, 7] (fun v3 i wr => i = .int .i64 0 ∧ v3 = .int .i64 0 ∧ Below w.heap.size w wr) (fun _ _ _ => 0)
  case atStart => exact ⟨rfl, rfl, hB⟩
  case round =>
    obtain ⟨rfl, rfl, hB2⟩ := hrel
    go_wp2
    go_ret
    exact ⟨rfl, hB2⟩
theorem cloneE_nil (w : World) : Calls Tryd.prog 49 #[.slice none 0 0] w fun e w' => ∃ a c, e = .returned (.slice a 0 c) ∧ Below w.heap.size w w' := by
  refine Calls.mono (cloneE_any (a := none) (b := 0) (off := 0) (c := 0) (xs := []) (w := w) (slAt_nil _ _ _ _) (by simp)) ?_
  rintro e w' ⟨v, rfl, hown, hB⟩
  obtain ⟨a, c, b, rfl, _⟩ := slAt_own (xs := ([] : List E)) lenE hown
  exact ⟨a, c, rfl, hB⟩
theorem cloneS_nil (w : World) : Calls Tryd.prog 56 #[.slice none 0 0] w fun e w' => ∃ a c, e = .returned (.slice a 0 c) ∧ Below w.heap.size w w' := by
  refine Calls.mono (cloneS_any (a := none) (b := 0) (off := 0) (c := 0) (xs := []) (w := w) (slAt_nil _ _ _ _) (by simp)) ?_
  rintro e w' ⟨v, rfl, hown, hB⟩
  obtain ⟨a, c, b, rfl, _⟩ := slAt_own (xs := ([] : List S)) lenS hown
  exact ⟨a, c, rfl, hB⟩

set_option maxRecDepth 100000 in
theorem edges_zero {w : World} {gp : Value} (h : ZeroG w gp) : Calls Tryd.prog 28 #[gp] w fun e w' => ∃ a c, e = .returned (.slice a 0 c) ∧ Below w.heap.size w w' := by
  have HO := Lib.hid (own_zero h); clear h
  have hfl := fldSys3
  go_enter Tryd.func28, Tryd.ntmps28
  go_wp2_with fail
  refine (HO.out).mono ?_
  rintro e w1 ⟨rfl, hB⟩
  have hsz := hB.size
  go_wp2_with fail
  refine (cloneE_nil w1).mono ?_
  rintro e w2 ⟨a, c, rfl, hB2⟩
  go_wp2
  go_ret
  exact ⟨a, c, rfl, hB.trans (hB2.mono hsz)⟩
set_option maxRecDepth 100000 in
theorem each_nil {w : World} (i : Int) : Calls Tryd.prog 57 #[.pointer none, .int .i64 i] w fun e w' => e = .returned (.slice none 0 0) ∧ w = w' := by
  go_enter Tryd.func57, Tryd.ntmps57
  go_wp2
  go_ret
  exact ⟨rfl, rfl⟩
set_option maxRecDepth 100000 in
theorem out_nil {w : World} (i : Int) : Calls Tryd.prog 17 #[.pointer none, .int .i64 i] w fun e w' => ∃ a c, e = .returned (.slice a 0 c) ∧ Below w.heap.size w w' := by
  go_enter Tryd.func17, Tryd.ntmps17
  go_wp2_with fail
  refine (each_nil i).mono ?_
  rintro e w1 ⟨rfl, rfl⟩
  go_wp2_with fail
  refine (cloneS_nil w).mono ?_
  rintro e w2 ⟨a, c, rfl, hB2⟩
  go_wp2
  go_ret
  exact ⟨a, c, rfl, hB2⟩

def zeroL : Lts := ⟨0, 0, 0, []⟩
theorem zeroL_reach : reachL zeroL = [] := reachL_nil rfl
theorem zeroL_cut : (cut zeroL).st = 0 ∧ (cut zeroL).lb = 0 ∧ (cut zeroL).s0 = 0 ∧ (cut zeroL).es = [] := by
  refine ⟨?_, rfl, ?_, ?_⟩
  · show ((reachL zeroL).length : Int) = 0; rw [zeroL_reach]; rfl
  · simp [cut, zeroL_reach]
  · show cutE zeroL = []; simp [cutE, zeroL]
theorem cut_zero {w : World} {gp : Value} (h : ZeroG w gp) : Calls Tryd.prog 22 #[gp] w fun e w' =>
    ∃ a c TB, e = .returned (.tuple #[.agg #[.int .i64 0, .int .i64 0, .int .i64 0, .slice a 0 c], .slice (some ⟨TB, 0, none⟩) 0 0]) ∧ Below w.heap.size w w' := by
  have hc := cut_gen (w := w) (gp := gp) (s := zeroL) (n := 0) rfl (by omega) (by simp [zeroL]) (by simp [zeroL]) ⟨by simp [zeroL], by omega⟩
    (fun w1 hB => labels_zero (h.below hB)) (fun w1 hB => states_zero (h.below hB)) (fun w1 hB => start_zero (h.below hB)) (ea := none) (ec := 0) (slAt_nil w none 0 0) (fun w1 hB => own_zero (h.below hB))
    (fun w1 hB => (reach_zero (h.below hB)).mono (fun e w' ⟨h1, h2⟩ => ⟨_, h1, by rw [zeroL_reach]; exact World.ownsRow_nil _ _ _ _, h2⟩))
  refine hc.mono ?_
  rintro e w' ⟨v, TB, rfl, hown, _, _, hB⟩
  obtain ⟨q1, q2, q3, q4⟩ := zeroL_cut
  rw [q4] at hown
  obtain ⟨a, c, b, rfl, _⟩ := slAt_own lenE (xs := ([] : List E)) hown
  exact ⟨a, c, TB, by rw [q1, q2, q3]; rfl, hB⟩
end Go.Proofs.YtbbjmompbmgnmaaDoor

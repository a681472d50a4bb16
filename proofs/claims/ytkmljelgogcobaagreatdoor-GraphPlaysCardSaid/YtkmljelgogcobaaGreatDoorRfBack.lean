/-
  semblanceref7.Back: the edges turned round.
-/
import Derived.Test.YtkmljelgogcobaaGreatDoorGPlBack
import Derived.Test.YtkmljelgogcobaaGreatDoorRefOut
import Derived.Test.YtkmljelgogcobaaGreatDoorTauI
import Derived.Test.YtkmljelgogcobaaGreatDoorBkF
import Derived.Deep.RegionHeld3
import Derived.Deep.QuietTactic
import Derived.BigQuiet
import Derived.IntWalk
namespace Go.Proofs.YtkmljelgogcobaaGreatDoor
open Go.RowKit Pl

set_option maxRecDepth 100000 in
set_option maxHeartbeats 4000000 in
theorem refBack_any {s : Lts} {a : Option Addr} {b off c : Nat} {w : World} (hS : SlAt encE 3 w a b off s.es) (hl : s.es.length ≤ 20000) :
    Calls Tryz.prog 40 #[.agg #[.int .i64 s.st, .int .i64 s.lb, .int .i64 s.s0, .slice a s.es.length c]] w fun e w' => ∃ ba bb bc, e = .returned (.agg #[.int .i64 s.st, .int .i64 s.lb, .int .i64 s.s0, .slice ba (backS s).es.length bc]) ∧ SlAt encE 3 w' ba bb 0 (backS s).es ∧ (backS s).es.length ≤ bc ∧ bc ≤ maxLen ∧ Below w.heap.size w w' := by
  obtain ⟨W, hW⟩ : ∃ W, W = (w.alloc (.cells #[.int .i64 s.st, .int .i64 s.lb, .int .i64 s.s0, .slice a s.es.length c] 24)).alloc (.cells #[.int .i64 0, .int .i64 0, .int .i64 0, .slice none 0 0] 24) := ⟨_, rfl⟩
  have hB0 : Below w.heap.size w W := by rw [hW]; exact ((Below.refl _ _).alloc (Nat.le_refl _) _).alloc (by simp) _
  have h1 : W.heap[w.heap.size]? = some (.cells #[.int .i64 s.st, .int .i64 s.lb, .int .i64 s.s0, .slice a s.es.length c] 24 (0, 0)) := by
    rw [hW, Below.heap_alloc _ _ _ (by simp)]; exact heap_alloc_new w _
  have h2 : W.heap[w.heap.size + 1]? = some (.cells #[.int .i64 0, .int .i64 0, .int .i64 0, .slice none 0 0] 24 (0, 0)) := by
    have h := heap_alloc_new (w.alloc (.cells #[.int .i64 s.st, .int .i64 s.lb, .int .i64 s.s0, .slice a s.es.length c] 24)) (.cells #[.int .i64 0, .int .i64 0, .int .i64 0, .slice none 0 0] 24)
    rw [show (w.alloc (.cells #[.int .i64 s.st, .int .i64 s.lb, .int .i64 s.s0, .slice a s.es.length c] 24)).heap.size = w.heap.size + 1 by simp] at h
    rw [hW]; exact h
  have hSW := hS.below hB0 (Nat.le_refl _)
  have hbl : (backS s).es.length = s.es.length := by simp [backS]
  rw [hbl]
  obtain ⟨m, hm⟩ : ∃ m, m = s.es.length := ⟨_, rfl⟩
  rw [← hm] at hW h1 hl hbl ⊢
  have HW := Lib.hid hW; have HB0 := Lib.hid hB0; have H1 := Lib.hid h1; have H2 := Lib.hid h2; have HM := Lib.hid hm; have HS := Lib.hid hSW; have HBL := Lib.hid hbl
  have hsW : w.heap.size + 2 = W.heap.size := by rw [hW]; simp
  have HSZ := Lib.hid hsW
  clear hW hB0 h1 h2 hm hS hSW hbl hsW
  go_enter Tryz.func40, Tryz.ntmps40
  go_wp2_with fail
  rw [← HW.out]
  go_loopw [3, 4] (fun v3 v4 wr => ∃ (i : Nat) (lv : Value), lv = v3 ∧ v4 = .int .i64 i ∧ i ≤ m ∧ Below W.heap.size W wr ∧ wr.ownsRow W.heap.size 79 3 lv i (((backS s).es.take i).flatMap encE)) (fun _ v4 _ => m - (intOf v4).toNat)
  case atStart => exact ⟨0, _, rfl, rfl, Nat.zero_le _, Below.refl _ _, World.ownsRow_nil _ _ _ _⟩
  case round =>
    obtain ⟨i, lv, rfl, rfl, hi, hB, hown⟩ := hrel
    have HB := Lib.hid hB; have HO := Lib.hid hown
    have hs4 := hB.size
    have hx1 := (hB.block _ (Array.getElem?_eq_some_iff.1 H1.out).1).trans H1.out
    have hx2 := (hB.block _ (Array.getElem?_eq_some_iff.1 H2.out).1).trans H2.out
    have HX1 := Lib.hid hx1; have HX2 := Lib.hid hx2
    obtain ⟨x0, x1, x2, x3, x4⟩ := sysC hx1
    clear hB hown hx1 hx2
    by_cases hlt : i < m
    · have hiI : (i : Int) < (m : Int) := by omega
      obtain ⟨x, hx⟩ := getElem?_of_lt (xs := s.es) (i := i) (by rw [← HM.out]; exact hlt)
      have had := HS.out.ad (by rw [← HM.out]; omega)
      subst had
      have hse := HS.out.below HB.out (Nat.le_refl _)
      have e0 := hse.e0 hx; have e1 := hse.e1 hx; have e2 := hse.e2 hx
      have hel := hse.lt (by rw [← HM.out]; omega)
      have HTK : RowKit.Hid (((backS s).es.take (i + 1)).flatMap encE = ((backS s).es.take i).flatMap encE ++ [.int .i64 x.2.2, .int .i64 x.2.1, .int .i64 x.1]) := Lib.hid (by
        rw [take_snoc (show (backS s).es[i]? = some (turnE x) by simp [backS, hx]), List.flatMap_append]
        simp [encE, turnE])
      have HXI := Lib.hid hx
      clear hse hx x0 x1 x2 x4
      obtain ⟨y1, y2, y3⟩ := x
      dsimp only at e0 e1 e2 HTK HXI
      have hxl := World.block_lt_of_cell? _ _ x3
      have HOW : RowKit.Hid (∀ o : Obj, (wr.alloc o).drew.ownsRow W.heap.size 79 3 lv i (((backS s).es.take i).flatMap encE)) := Lib.hid (fun o => HO.out.alloc o)
      have HKP : RowKit.Hid (∀ V, Below W.heap.size W V → (V.cell? ⟨w.heap.size, 3, none⟩ = some (.slice (some ⟨b, off, none⟩) m c) ∧ w.heap.size < V.heap.size ∧ V.cell? ⟨b, off + i * 3, none⟩ = some (.int .i64 y1) ∧ V.cell? ⟨b, off + i * 3 + 1, none⟩ = some (.int .i64 y2) ∧ V.cell? ⟨b, off + i * 3 + 2, none⟩ = some (.int .i64 y3) ∧ b < V.heap.size) ∧ Below W.heap.size W V) := Lib.hid (fun V hV => by
        have hx1 := (hV.block _ (Array.getElem?_eq_some_iff.1 H1.out).1).trans H1.out
        obtain ⟨_, _, _, z3, _⟩ := sysC hx1
        have hse := HS.out.below hV (Nat.le_refl _)
        exact ⟨⟨z3, (Array.getElem?_eq_some_iff.1 hx1).1, hse.e0 HXI.out, hse.e1 HXI.out, hse.e2 HXI.out, hse.lt (by rw [← HM.out]; omega)⟩, hV⟩)
      have hdr : Below W.heap.size W wr.drew := HB.out.drew
      have HBA : RowKit.Hid (Below W.heap.size W (wr.drew.alloc (.cells #[.int .i64 y3, .int .i64 y2, .int .i64 y1] 79))) := Lib.hid (hdr.alloc hs4 _)
      clear e0 e1 e2 hel
      go_upto_region 5 with fail
      clear hxl x3
      -- region
      refine wp_region_held_drew (S := (fun V => (V.cell? ⟨w.heap.size, 3, none⟩ = some (.slice (some ⟨b, off, none⟩) m c) ∧ w.heap.size < V.heap.size ∧ V.cell? ⟨b, off + i * 3, none⟩ = some (.int .i64 y1) ∧ V.cell? ⟨b, off + i * 3 + 1, none⟩ = some (.int .i64 y2) ∧ V.cell? ⟨b, off + i * 3 + 2, none⟩ = some (.int .i64 y3) ∧ b < V.heap.size) ∧ Below W.heap.size W V)) (by kernel_rfl) (by (try dsimp only); exact HKP.out _ (by first | assumption | exact HBA.out)) (fun hHeld => ?_)
      refine wpAnyH_take (i := 0) (v := ?_) rfl (by kernel_rfl) (by kernel_rfl) (by kernel_rfl) (fun _ _ _ h => h) (Or.inl ⟨by rfl, ?_⟩) (by assumption) ?_
      rotate_left
      · intro w hSw
        try dsimp only at hSw
        go_simp
        try with_reducible rfl
      try simp only [Act.put, List.setIfInBounds_toArray, List.set_cons_zero, List.set_cons_succ]
      refine wpAnyH_take (i := 1) (v := ?_) rfl (by kernel_rfl) (by kernel_rfl) (by kernel_rfl) (fun _ _ _ h => h) (Or.inl ⟨by rfl, ?_⟩) (by assumption) ?_
      rotate_left
      · intro w hSw
        try dsimp only at hSw
        go_simp
        try with_reducible rfl
      try simp only [Act.put, List.setIfInBounds_toArray, List.set_cons_zero, List.set_cons_succ]
      refine wpAnyH_take (i := 2) (v := ?_) rfl (by kernel_rfl) (by kernel_rfl) (by kernel_rfl) (fun _ _ _ h => h) (Or.inl ⟨by rfl, ?_⟩) (by assumption) ?_
      rotate_left
      · intro w hSw
        try dsimp only at hSw
        go_simp
        try with_reducible rfl
      try simp only [Act.put, List.setIfInBounds_toArray, List.set_cons_zero, List.set_cons_succ]
      refine wpAnyH_take (i := 3) (v := ?_) rfl (by kernel_rfl) (by kernel_rfl) (by kernel_rfl) (fun _ _ _ h => h) (Or.inl ⟨by rfl, ?_⟩) (by assumption) ?_
      rotate_left
      · intro w hSw
        try dsimp only at hSw
        go_simp
        try with_reducible rfl
      try simp only [Act.put, List.setIfInBounds_toArray, List.set_cons_zero, List.set_cons_succ]
      refine wpAnyH_take (i := 4) (v := ?_) rfl (by kernel_rfl) (by kernel_rfl) (by kernel_rfl) (fun _ _ _ h => h) (Or.inl ⟨by rfl, ?_⟩) (by assumption) ?_
      rotate_left
      · intro w hSw
        try dsimp only at hSw
        go_simp
        try with_reducible rfl
      try simp only [Act.put, List.setIfInBounds_toArray, List.set_cons_zero, List.set_cons_succ]
      refine wpAnyH_take (i := 5) (v := ?_) rfl (by kernel_rfl) (by kernel_rfl) (by kernel_rfl) (fun _ _ _ h => h) (Or.inl ⟨by rfl, ?_⟩) (by assumption) ?_
      rotate_left
      · intro w hSw
        try dsimp only at hSw
        go_simp
        try with_reducible rfl
      try simp only [Act.put, List.setIfInBounds_toArray, List.set_cons_zero, List.set_cons_succ]
      refine wpAnyH_take (i := 6) (v := ?_) rfl (by kernel_rfl) (by kernel_rfl) (by kernel_rfl) (fun _ _ _ h => h) (Or.inl ⟨by rfl, ?_⟩) (by assumption) ?_
      rotate_left
      · intro w hSw
        try dsimp only at hSw
        go_simp
        try with_reducible rfl
      try simp only [Act.put, List.setIfInBounds_toArray, List.set_cons_zero, List.set_cons_succ]
      refine wpAnyH_take (i := 7) (v := ?_) rfl (by kernel_rfl) (by kernel_rfl) (by kernel_rfl) (fun _ _ _ h => h) (Or.inl ⟨by rfl, ?_⟩) (by assumption) ?_
      rotate_left
      · intro w hSw
        try dsimp only at hSw
        go_simp
        try with_reducible rfl
      try simp only [Act.put, List.setIfInBounds_toArray, List.set_cons_zero, List.set_cons_succ]
      refine wpAnyH_take (i := 8) (v := ?_) rfl (by kernel_rfl) (by kernel_rfl) (by kernel_rfl) (fun _ _ _ h => h) (Or.inl ⟨by rfl, ?_⟩) (by assumption) ?_
      rotate_left
      · intro w hSw
        try dsimp only at hSw
        go_simp
        try with_reducible rfl
      try simp only [Act.put, List.setIfInBounds_toArray, List.set_cons_zero, List.set_cons_succ]
      refine wpAnyH_take (i := 9) (v := ?_) rfl (by kernel_rfl) (by kernel_rfl) (by kernel_rfl) (fun _ _ _ h => h) (Or.inl ⟨by rfl, ?_⟩) (by assumption) ?_
      rotate_left
      · intro w hSw
        try dsimp only at hSw
        go_simp
        try with_reducible rfl
      try simp only [Act.put, List.setIfInBounds_toArray, List.set_cons_zero, List.set_cons_succ]
      refine wpAnyH_take (i := 10) (v := ?_) rfl (by kernel_rfl) (by kernel_rfl) (by kernel_rfl) (fun _ _ _ h => h) (Or.inl ⟨by rfl, ?_⟩) (by assumption) ?_
      rotate_left
      · intro w hSw
        try dsimp only at hSw
        go_simp
        try with_reducible rfl
      try simp only [Act.put, List.setIfInBounds_toArray, List.set_cons_zero, List.set_cons_succ]
      refine wpAnyH_take (i := 11) (v := ?_) rfl (by kernel_rfl) (by kernel_rfl) (by kernel_rfl) (fun _ _ _ h => h) (Or.inl ⟨by rfl, ?_⟩) (by assumption) ?_
      rotate_left
      · intro w hSw
        try dsimp only at hSw
        go_simp
        try with_reducible rfl
      try simp only [Act.put, List.setIfInBounds_toArray, List.set_cons_zero, List.set_cons_succ]
      refine wpAnyH_take (i := 12) (v := ?_) rfl (by kernel_rfl) (by kernel_rfl) (by kernel_rfl) (fun _ _ _ h => h) (Or.inl ⟨by rfl, ?_⟩) (by assumption) ?_
      rotate_left
      · intro w hSw
        try dsimp only at hSw
        go_simp
        try with_reducible rfl
      try simp only [Act.put, List.setIfInBounds_toArray, List.set_cons_zero, List.set_cons_succ]
      refine wpAnyH_take (i := 13) (v := ?_) rfl (by kernel_rfl) (by kernel_rfl) (by kernel_rfl) (fun _ _ _ h => h) (Or.inl ⟨by rfl, ?_⟩) (by assumption) ?_
      rotate_left
      · intro w hSw
        try dsimp only at hSw
        go_simp
        try with_reducible rfl
      try simp only [Act.put, List.setIfInBounds_toArray, List.set_cons_zero, List.set_cons_succ]
      refine wpAnyH_take (i := 14) (v := ?_) rfl (by kernel_rfl) (by kernel_rfl) (by kernel_rfl) (fun _ _ _ h => h) (Or.inl ⟨by rfl, ?_⟩) (by assumption) ?_
      rotate_left
      · intro w hSw
        try dsimp only at hSw
        go_simp
        try with_reducible rfl
      try simp only [Act.put, List.setIfInBounds_toArray, List.set_cons_zero, List.set_cons_succ]
      refine wpAnyH_take (i := 15) (v := ?_) rfl (by kernel_rfl) (by kernel_rfl) (by kernel_rfl) (fun _ _ _ h => h) (Or.inl ⟨by rfl, ?_⟩) (by assumption) ?_
      rotate_left
      · intro w hSw
        try dsimp only at hSw
        go_simp
        try with_reducible rfl
      try simp only [Act.put, List.setIfInBounds_toArray, List.set_cons_zero, List.set_cons_succ]
      refine wpAnyH_take (i := 16) (v := ?_) rfl (by kernel_rfl) (by kernel_rfl) (by kernel_rfl) (fun _ _ _ h => h) (Or.inl ⟨by rfl, ?_⟩) (by assumption) ?_
      rotate_left
      · intro w hSw
        try dsimp only at hSw
        go_simp
        try with_reducible rfl
      try simp only [Act.put, List.setIfInBounds_toArray, List.set_cons_zero, List.set_cons_succ]
      refine wpAnyH_take (i := 17) (v := ?_) rfl (by kernel_rfl) (by kernel_rfl) (by kernel_rfl) (fun _ _ _ h => h) (Or.inl ⟨by rfl, ?_⟩) (by assumption) ?_
      rotate_left
      · intro w hSw
        try dsimp only at hSw
        go_simp
        try with_reducible rfl
      try simp only [Act.put, List.setIfInBounds_toArray, List.set_cons_zero, List.set_cons_succ]
      refine wpAnyH_take (i := 18) (v := ?_) rfl (by kernel_rfl) (by kernel_rfl) (by kernel_rfl) (fun _ _ _ h => h) (Or.inl ⟨by rfl, ?_⟩) (by assumption) ?_
      rotate_left
      · intro w hSw
        try dsimp only at hSw
        go_simp
        try with_reducible rfl
      try simp only [Act.put, List.setIfInBounds_toArray, List.set_cons_zero, List.set_cons_succ]
      refine wpAnyH_take (i := 19) (v := ?_) rfl (by kernel_rfl) (by kernel_rfl) (by kernel_rfl) (fun _ _ _ h => h) (Or.inl ⟨by rfl, ?_⟩) (by assumption) ?_
      rotate_left
      · intro w hSw
        try dsimp only at hSw
        go_simp
        try with_reducible rfl
      try simp only [Act.put, List.setIfInBounds_toArray, List.set_cons_zero, List.set_cons_succ]
      refine wpAnyH_ready (rs := [20]) (by kernel_rfl) (by simp) ?_
      refine AllReadyH.cons rfl (fun K hK => ?_) AllReadyH.nil
      go_simp
      refine hK.out _ _ (by (try dsimp only); exact HKP.out _ (by first | assumption | exact HBA.out)) (fun hHeld => ?_)
      clear hK K
      try simp only [Act.put, List.setIfInBounds_toArray, List.set_cons_zero, List.set_cons_succ]
      refine wpAnyH_ready (rs := [21]) (by kernel_rfl) (by simp) ?_
      refine AllReadyH.cons rfl (fun K hK => ?_) AllReadyH.nil
      refine step_app1 rfl _ _ _ (by rfl) rowE (by rfl) (HOW.out _) ⟨wr.heap.size, 0, none⟩ 1 1 [.int .i64 y3, .int .i64 y2, .int .i64 y1] (by rfl) (by rfl) (cells3 (by simp [go_sem]) (by simp [go_sem]) (by simp [go_sem])) (by simp [Value.oneCell']) (by decide) (by omega) (by unfold maxLen; omega) (by simp; omega) ?_; intro g cap w5 hown5 hg5; have hb5 : Below W.heap.size W w5 := HBA.out.grown hg5 (by simp; omega) (fun k hk => (HO.out.lt k hk).1)
      refine hK.out _ _ (by (try dsimp only); exact HKP.out _ (by first | assumption | exact HBA.out)) (fun hHeld => ?_)
      clear hK K
      try simp only [Act.put, List.setIfInBounds_toArray, List.set_cons_zero, List.set_cons_succ]
      refine wpAnyH_take (i := 22) (v := ?_) rfl (by kernel_rfl) (by kernel_rfl) (by kernel_rfl) (fun _ _ _ h => h) (Or.inl ⟨by rfl, ?_⟩) (by assumption) ?_
      rotate_left
      · intro w hSw
        try dsimp only at hSw
        go_simp
        try with_reducible rfl
      try simp only [Act.put, List.setIfInBounds_toArray, List.set_cons_zero, List.set_cons_succ]
      refine wpAnyH_done (by kernel_rfl) ?_ _
      -- end
      all_goals
        have HB5 := Lib.hid hb5
        have HO5 : RowKit.Hid (w5.ownsRow W.heap.size 79 3 (.slice (some ⟨g, 0, none⟩) (i + 1) cap) (i + 1) (((backS s).es.take (i + 1)).flatMap encE)) := Lib.hid (by rw [HTK.out]; exact hown5)
        clear hb5 hown5 hg5 HO HB HOW
        go_wp2_with fail
        go_roundw
        case rel => exact ⟨i + 1, _, rfl, by go_num, by omega, HB5.out, HO5.out⟩
        case measure => simp [intOf]; omega
    · obtain rfl : i = m := by omega
      obtain ⟨va, vc, rfl⟩ := own_sl HO.out
      have xf : wr.frozen? ⟨w.heap.size, 3, none⟩ = false := by simp [World.frozen?, HX1.out]
      obtain ⟨⟨y0, y1, y2, y3, y4⟩, z0, z1, z2, z3⟩ := sysZ HX2.out
      have hB2 := HB0.out.trans (HB.out.mono HB0.out.size)
      have HB2 := Lib.hid hB2
      clear hB2
      go_wp2_with fail
      have ho := HO.out
      rw [List.take_of_length_le (by rw [HBL.out]; exact Nat.le_refl _)] at ho
      obtain ⟨a9, c9, b9, e9, h1, h2, h3, h4⟩ := slAt_own (xs := (backS s).es) lenE (by rw [HBL.out]; exact ho)
      rw [HBL.out] at e9 h1
      cases e9
      have hne : 0 < (backS s).es.length → b9 ≠ w.heap.size ∧ b9 ≠ w.heap.size + 1 := fun hp => by have := h4 hp; have := HSZ.out; omega
      refine bodyPost_ret (v := .agg #[.int .i64 s.st, .int .i64 s.lb, .int .i64 s.s0, .slice va i vc]) (by simp [results, Tryz.results40, go_sem, y0, y1, y2, y3]) rfl ⟨va, b9, vc, rfl, ?_, h1, h2, ?_⟩
      · exact ((((h3.setOther (fun hp => (hne hp).1) _).setOther (fun hp => (hne hp).2) _).setOther (fun hp => (hne hp).2) _).setOther (fun hp => (hne hp).2) _).setOther (fun hp => (hne hp).2) _
      · exact ((((HB2.out.setCell (p := ⟨w.heap.size, 3, none⟩) (by simp) _).setCell (p := ⟨w.heap.size + 1, 0, none⟩) (by simp) _).setCell (p := ⟨w.heap.size + 1, 1, none⟩) (by simp) _).setCell (p := ⟨w.heap.size + 1, 2, none⟩) (by simp) _).setCell (p := ⟨w.heap.size + 1, 3, none⟩) (by simp) _
end Go.Proofs.YtkmljelgogcobaaGreatDoor

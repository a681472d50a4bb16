/-
  Lemmas.
-/
import Derived.Test.YtffjcehopoaboaaGreatDoorWitH
import Derived.Test.YtffjcehopoaboaaGreatDoorGSameInts
namespace Go.Proofs.YtffjcehopoaboaaGreatDoor
open Go.RowKit Pl
open Lib (hid)
theorem eqlFail (a b c d x y z u : Int) (w : World) : (binOp .eql 67 (.agg #[.int .i64 a, .int .i64 b, .int .i64 c, .int .i64 d]) (.agg #[.int .i64 x, .int .i64 y, .int .i64 z, .int .i64 u])).run Tryz.prog w = .ok (.bool (decide (a = x ∧ b = y ∧ c = z ∧ d = u))) w := by
  have u3 := Tryz.underlying3
  have a3 := Tryz.isAgg3
  have z3 := Tryz.sizeOf3
  have hS : Tryz.prog.underlying 67 = some (.struct (Tryz.prog.fieldsOf 67)) := by kernel_rfl
  have hp : Tryz.prog.stoodInHeld 67 = false := by kernel_rfl
  rw [run_eql_struct, show (10000 : Nat) = 9999 + 1 from rfl, run_equalIn_agg w 9999 67 _ _ hS hp]
  simp only [Program.fieldsOf, Tryz.underlying67]
  go_simp
  by_cases h1 : a = x <;> by_cases h2 : b = y <;> by_cases h3 : c = z <;> by_cases h4 : d = u <;> simp [h1, h2, h3, h4]
theorem guardFail : Tryz.prog.eqGuardType Tryz.prog.depth 67 = false := by kernel_rfl
namespace Pl
def aliveW : Lts := ⟨5, 2, 0, [(0, 1, 4), (1, 0, 0), (2, 0, 3), (2, 1, 4)]⟩
theorem aliveW_right : aliveW.Right := ⟨by unfold HeadBad aliveW; simp, by decide⟩
theorem aliveW_norm : aliveW.norm = aliveW := by
  unfold Lts.norm
  have : nf ltE aliveW.es = aliveW.es := by decide
  rw [this]
end Pl
theorem aliveW_cl : clB aliveW.st [0, 0, 1, 2, 2] = true := by decide
theorem aliveW_strong {e : Ending} (h : WalkE aliveW 5 [0, 0, 1, 2, 2] (fun q => plainD aliveW [0, 0, 1, 2, 2] (q : Int)) e) : e = .returned (.tuple #[.agg #[.int .i64 0, .int .i64 1, .int .i64 1, .int .i64 4], .bool false, .nilIface]) := by
  have h00 : failD aliveW [0, 0, 1, 2, 2] (fun q => plainD aliveW [0, 0, 1, 2, 2] (q : Int)) 0 0 = none := by decide
  have h01 : failD aliveW [0, 0, 1, 2, 2] (fun q => plainD aliveW [0, 0, 1, 2, 2] (q : Int)) 0 1 = some (1, 4) := by decide
  rcases h with ⟨p, q, x, hp, hq, hpq, hf, hmin, rfl⟩ | ⟨hall, rfl⟩
  · have h1 : p = 0 ∧ q = 1 := by
      by_cases e : p = 0
      · subst e
        refine ⟨rfl, ?_⟩
        by_cases e2 : q = 0
        · subst e2; rw [h00] at hf; cases hf
        · by_cases e3 : q = 1
          · exact e3
          · have := hmin 0 1 (by omega) (by omega) (.inr ⟨rfl, by omega⟩) (by decide)
            rw [h01] at this; cases this
      · have := hmin 0 1 (by omega) (by omega) (.inl (by omega)) (by decide)
        rw [h01] at this; cases this
    obtain ⟨rfl, rfl⟩ := h1
    rw [h01] at hf
    cases hf
    rfl
  · have := hall 0 1 (by omega) (by omega) (by decide)
    rw [h01] at this; cases this
theorem lateD_plain {s : Lts} (hr : s.Right) {C : List Int} {q : Nat} {m : Int} {x : S} (hq : (q : Int) < s.st) (hm : Rch (tauOf s (q : Int)) m) (hC : atL C m = atL C (q : Int)) (hx : x ∈ plainD s C m) : x ∈ lateD s C q := by
  unfold lateD
  have hR := tauOf_right (q := (q : Int)) hr (by omega) hq
  refine List.mem_cons_of_mem _ (List.mem_flatMap.2 ⟨m, List.mem_filter.2 ⟨(mem_reachL hR (by show s.st ≠ 0; omega)).2 hm, by simp [hC]⟩, hx⟩)
theorem lateD_self (s : Lts) (C : List Int) (q : Nat) : (0, atL C (q : Int)) ∈ lateD s C q := List.mem_cons_self
theorem aliveW_late {e : Ending} (h : WalkE aliveW 5 [0, 0, 1, 2, 2] (fun q => lateD aliveW [0, 0, 1, 2, 2] q) e) : e = .returned (.tuple #[.agg #[.int .i64 0, .int .i64 0, .int .i64 0, .int .i64 0], .bool true, .nilIface]) := by
  have hall : ∀ p q : Nat, p < 5 → q < 5 → atL [0, 0, 1, 2, 2] (p : Int) = atL [0, 0, 1, 2, 2] (q : Int) → failD aliveW [0, 0, 1, 2, 2] (fun q => lateD aliveW [0, 0, 1, 2, 2] q) p q = none := by
    intro p q hp hq hpq
    unfold failD
    rw [List.find?_eq_none]
    intro x hx
    have h0 : (1, 2) ∈ lateD aliveW [0, 0, 1, 2, 2] 0 := lateD_plain aliveW_right (m := 0) (by decide) (Rch.start _) rfl (by decide)
    have h1 : (1, 2) ∈ lateD aliveW [0, 0, 1, 2, 2] 1 := lateD_plain aliveW_right (m := 0) (by decide) ((Rch.start _).step (l := 0) (by decide)) rfl (by decide)
    have h2 : (0, 0) ∈ lateD aliveW [0, 0, 1, 2, 2] 0 := lateD_self _ _ 0
    have h3 : (0, 0) ∈ lateD aliveW [0, 0, 1, 2, 2] 1 := lateD_self _ _ 1
    have h4 : (0, 2) ∈ lateD aliveW [0, 0, 1, 2, 2] 2 := lateD_plain aliveW_right (m := 2) (by decide) (Rch.start _) rfl (by decide)
    have h5 : (1, 2) ∈ lateD aliveW [0, 0, 1, 2, 2] 2 := lateD_plain aliveW_right (m := 2) (by decide) (Rch.start _) rfl (by decide)
    simp only [Bool.not_eq_true', decide_eq_false_iff_not, Classical.not_not]
    have hpc : p = 0 ∨ p = 1 ∨ p = 2 ∨ p = 3 ∨ p = 4 := by omega
    have hqc : q = 0 ∨ q = 1 ∨ q = 2 ∨ q = 3 ∨ q = 4 := by omega
    rcases hpc with rfl | rfl | rfl | rfl | rfl
    · have : x = (1, 4) := by
        have h : aliveW.outs ((0 : Nat) : Int) = [(1, 4)] := by decide
        rw [h] at hx; simpa using hx
      subst this
      rcases hqc with rfl | rfl | rfl | rfl | rfl
      · exact h0
      · exact h1
      all_goals exact absurd hpq (by decide)
    · have : x = (0, 0) := by
        have h : aliveW.outs ((1 : Nat) : Int) = [(0, 0)] := by decide
        rw [h] at hx; simpa using hx
      subst this
      rcases hqc with rfl | rfl | rfl | rfl | rfl
      · exact h2
      · exact h3
      all_goals exact absurd hpq (by decide)
    · have : x = (0, 3) ∨ x = (1, 4) := by
        have h : aliveW.outs ((2 : Nat) : Int) = [(0, 3), (1, 4)] := by decide
        rw [h] at hx; simpa using hx
      rcases hqc with rfl | rfl | rfl | rfl | rfl
      · exact absurd hpq (by decide)
      · exact absurd hpq (by decide)
      · rcases this with rfl | rfl
        · exact h4
        · exact h5
      all_goals exact absurd hpq (by decide)
    · have h : aliveW.outs ((3 : Nat) : Int) = [] := by decide
      rw [h] at hx; cases hx
    · have h : aliveW.outs ((4 : Nat) : Int) = [] := by decide
      rw [h] at hx; cases hx
  rcases h with ⟨p, q, x, hp, hq, hpq, hf, hmin, rfl⟩ | ⟨_, rfl⟩
  · rw [hall p q hp hq hpq] at hf; cases hf
  · rfl
theorem slAt_lit5 {w : World} : SlAt encI 1 (w.alloc (.cells #[.int .i64 0, .int .i64 0, .int .i64 1, .int .i64 2, .int .i64 2] 3)) (some ⟨w.heap.size, 0, none⟩) w.heap.size 0 [0, 0, 1, 2, 2] := by
  have h := World.ownsRow_lit (e := 3) (size := 1) (base := w.heap.size) w #[.int .i64 0, .int .i64 0, .int .i64 1, .int .i64 2, .int .i64 2] 5 (Nat.le_refl _) (by unfold maxLen; omega) rfl
  obtain ⟨a, c, b, hv, _, _, hs, _⟩ := slAt_own (xs := [0, 0, 1, 2, 2]) lenI h
  simp only [Value.slice.injEq] at hv
  obtain ⟨rfl, _, _⟩ := hv
  have := hs.ad (by decide)
  simp at this
  subst this
  exact hs
set_option maxRecDepth 100000 in
set_option maxHeartbeats 1000000 in
theorem alive19_any {w : World} {p : Addr} (hG : GErr 16 p w) :
    Calls Tryz.prog 24 #[] w fun e w' => e = .returned (.bool true) ∧ Below w.heap.size w w' := by
  have HG := hid hG
  have hq := eqlFail 0 1 1 4 0 1 1 4
  have hgd := guardFail
  clear hG
  go_enter Tryz.func24, Tryz.ntmps24
  go_wp2_with fail
  have hS : SlAt encE 3 (w.alloc (.cells #[.int .i64 0, .int .i64 1, .int .i64 4, .int .i64 1, .int .i64 0, .int .i64 0, .int .i64 2, .int .i64 0, .int .i64 3, .int .i64 2, .int .i64 1, .int .i64 4] 82)) (some ⟨w.heap.size, 0, none⟩) w.heap.size 0 aliveW.es := by
    have h := World.ownsRow_lit (e := 82) (size := 3) (base := w.heap.size) w #[.int .i64 0, .int .i64 1, .int .i64 4, .int .i64 1, .int .i64 0, .int .i64 0, .int .i64 2, .int .i64 0, .int .i64 3, .int .i64 2, .int .i64 1, .int .i64 4] 4 (Nat.le_refl _) (by unfold maxLen; omega) rfl
    obtain ⟨a, c, b, hv, _, _, hs, _⟩ := slAt_own (xs := aliveW.es) lenE h
    simp only [Value.slice.injEq] at hv
    obtain ⟨rfl, _, _⟩ := hv
    have := hs.ad (by decide)
    simp at this
    subst this
    exact hs
  obtain ⟨W1, hW1⟩ : ∃ W1, W1 = w.alloc (.cells #[.int .i64 0, .int .i64 1, .int .i64 4, .int .i64 1, .int .i64 0, .int .i64 0, .int .i64 2, .int .i64 0, .int .i64 3, .int .i64 2, .int .i64 1, .int .i64 4] 82) := ⟨_, rfl⟩
  have hb1 : Below w.heap.size w W1 := by rw [hW1]; exact (Below.refl _ _).alloc (Nat.le_refl _) _
  have hz1 : W1.heap.size = w.heap.size + 1 := by rw [hW1]; simp
  rw [← hW1] at hS ⊢
  have hx0 := heap_alloc_new W1 (.cells #[.int .i64 5, .int .i64 2, .int .i64 0, .slice (some ⟨w.heap.size, 0, none⟩) 4 4] 24)
  obtain ⟨W2, hW2⟩ : ∃ W2, W2 = W1.alloc (.cells #[.int .i64 5, .int .i64 2, .int .i64 0, .slice (some ⟨w.heap.size, 0, none⟩) 4 4] 24) := ⟨_, rfl⟩
  have hb2 : Below W1.heap.size W1 W2 := by rw [hW2]; exact (Below.refl _ _).alloc (Nat.le_refl _) _
  have hz2 : W2.heap.size = w.heap.size + 1 + 1 := by rw [hW2]; simp [hz1]
  rw [← hW2] at hx0 ⊢
  rw [hz1] at hx0
  have hS2 := hS.below hb2 (Nat.le_refl _)
  have hb02 := hb1.trans (hb2.mono hb1.size)
  have hl := slAt_lit5 (w := W2)
  have hb3 := (Below.refl W2.heap.size W2).alloc (Nat.le_refl _) (.cells #[.int .i64 0, .int .i64 0, .int .i64 1, .int .i64 2, .int .i64 2] 3)
  rw [hz2] at hl
  have HS2 := hid hS2; have HX0 := hid hx0; have HB02 := hid hb02; have HZ2 := hid hz2
  have hcall := strongYes_any (s := aliveW) (C := [0, 0, 1, 2, 2]) (c := 4) (cc := 5) aliveW_right aliveW_cl (HG.out.below (hb02.trans (hb3.mono hb02.size))) (hS2.below hb3 (Nat.le_refl _)) hl (by decide) (by decide)
  rw [aliveW_norm] at hcall
  have HCALL := hid hcall
  clear hW1 hb1 hz1 hS hx0 hW2 hb2 hz2 hS2 hb02 hl hcall
  refine HCALL.out.mono ?_
  rintro e w5 ⟨hW, hB5⟩
  obtain rfl := aliveW_strong hW
  have hb25 : Below W2.heap.size W2 w5 := hb3.trans (hB5.mono (by simp))
  have HB05 := hid (HB02.out.trans (hb25.mono HB02.out.size))
  have HS5 := hid (HS2.out.below hb25 (Nat.le_refl _))
  have hx5 := (hb25.block (w.heap.size + 1) (by rw [HZ2.out]; omega)).trans HX0.out
  have hl5 := (Array.getElem?_eq_some_iff.1 hx5).1
  have x0 : w5.cell? ⟨w.heap.size + 1, 0, none⟩ = some (.int .i64 5) := by simp [World.cell?, hx5]
  have x1 : w5.cell? ⟨w.heap.size + 1, 1, none⟩ = some (.int .i64 2) := by simp [World.cell?, hx5]
  have x2 : w5.cell? ⟨w.heap.size + 1, 2, none⟩ = some (.int .i64 0) := by simp [World.cell?, hx5]
  have x3 : w5.cell? ⟨w.heap.size + 1, 3, none⟩ = some (.slice (some ⟨w.heap.size, 0, none⟩) 4 4) := by simp [World.cell?, hx5]
  clear hW hB5 hb25 hx5 HS2 HX0 HB02 HZ2 HCALL hb3
  go_wp2_with fail
  have hF6 := heap_alloc_new w5 (.cells #[.int .i64 0, .int .i64 1, .int .i64 1, .int .i64 4] 67)
  obtain ⟨W6, hW6⟩ : ∃ W6, W6 = w5.alloc (.cells #[.int .i64 0, .int .i64 1, .int .i64 1, .int .i64 4] 67) := ⟨_, rfl⟩
  have hb6 : Below w5.heap.size w5 W6 := by rw [hW6]; exact (Below.refl _ _).alloc (Nat.le_refl _) _
  have hz6 : W6.heap.size = w5.heap.size + 1 := by rw [hW6]; simp
  rw [← hW6] at hF6 ⊢
  have hb06 := HB05.out.trans (hb6.mono HB05.out.size)
  have hS6 := HS5.out.below hb6 (Nat.le_refl _)
  have hl := slAt_lit5 (w := W6)
  have hb7 := (Below.refl W6.heap.size W6).alloc (Nat.le_refl _) (.cells #[.int .i64 0, .int .i64 0, .int .i64 1, .int .i64 2, .int .i64 2] 3)
  rw [hz6] at hl
  have hcall := branchingYes_any (s := aliveW) (C := [0, 0, 1, 2, 2]) (c := 4) (cc := 5) aliveW_right aliveW_cl (HG.out.below (hb06.trans (hb7.mono hb06.size))) (hS6.below hb7 (Nat.le_refl _)) hl (by decide) (by decide)
  rw [aliveW_norm] at hcall
  have HCALL := hid hcall; have HF6 := hid hF6; have HB06 := hid hb06; have HZ6 := hid hz6
  clear hW6 hb6 hz6 hS6 hl hcall hF6 hb06 x0 x1 x2 x3 HS5 HB05 HG
  refine HCALL.out.mono ?_
  rintro e w8 ⟨hW, hB8⟩
  obtain rfl := aliveW_late hW
  have hb68 : Below W6.heap.size W6 w8 := hb7.trans (hB8.mono (by simp))
  have HB08 := hid (HB06.out.trans (hb68.mono HB06.out.size))
  have hx8 := (hb68.block w5.heap.size (by rw [HZ6.out]; omega)).trans HF6.out
  have hl8 := (Array.getElem?_eq_some_iff.1 hx8).1
  have x0 : w8.cell? ⟨w5.heap.size, 0, none⟩ = some (.int .i64 0) := by simp [World.cell?, hx8]
  have x1 : w8.cell? ⟨w5.heap.size, 1, none⟩ = some (.int .i64 1) := by simp [World.cell?, hx8]
  have x2 : w8.cell? ⟨w5.heap.size, 2, none⟩ = some (.int .i64 1) := by simp [World.cell?, hx8]
  have x3 : w8.cell? ⟨w5.heap.size, 3, none⟩ = some (.int .i64 4) := by simp [World.cell?, hx8]
  clear hW hB8 hb68 hx8 HCALL HF6 HB06 HZ6 hb7
  go_wp2_with fail
  go_ret
  exact ⟨rfl, HB08.out.alloc HB08.out.size _⟩
end Go.Proofs.YtffjcehopoaboaaGreatDoor

/-
  Lemmas.
-/
import Derived.Test.YtbaccmlfnbgehaaGreatDoorGCanon
import Derived.Test.YtbaccmlfnbgehaaGreatDoorGRwsB
import Derived.Test.YtbaccmlfnbgehaaGreatDoorGBkBop
import Derived.Deep.RegionHeld3
import Derived.Deep.QuietTactic
import Derived.BigQuiet
import Derived.IntWalk
import Derived.Test.YtbaccmlfnbgehaaGreatDoorTold
import Derived.Test.YtbaccmlfnbgehaaGreatDoorGRows2
import Derived.Test.YtbaccmlfnbgehaaGreatDoorGClone
import Derived.Test.YtbaccmlfnbgehaaGreatDoorGPlB
import Derived.Deep.Cut
import Derived.Deep.CutRange
import Derived.Deep.DeepMust
namespace Go.Proofs.YtbaccmlfnbgehaaGreatDoor
open Go.RowKit Pl
open Lib (hid)
def marksE : List E := [(-7, 0, 0), (-7, 1, 0), (-7, 2, 0)]
structure LentS (w : World) (base g cap : Nat) (es : List E) : Prop where
  own : w.ownsRow base 71 3 (.slice (some ⟨g, 0, none⟩) (es.length + 3) cap) (es.length + 3) ((es ++ marksE).flatMap encE)
theorem LentS.below {w w' : World} {base g cap : Nat} {es : List E} (h : LentS w base g cap es) (hB : Below w.heap.size w w') : LentS w' base g cap es := ⟨own_below h.own hB⟩
theorem LentS.all {w : World} {base g cap : Nat} {es : List E} (h : LentS w base g cap es) : SlAt encE 3 w (some ⟨g, 0, none⟩) g 0 (es ++ marksE) ∧ es.length + 3 ≤ cap ∧ cap ≤ maxLen ∧ base ≤ g := by
  have h2 : w.ownsRow base 71 3 (.slice (some ⟨g, 0, none⟩) (es.length + 3) cap) (es ++ marksE).length ((es ++ marksE).flatMap encE) := by
    rw [List.length_append]; exact h.own
  obtain ⟨a, c, b, hv, h3, h4, h5, h6⟩ := slAt_own lenE h2
  simp only [Value.slice.injEq] at hv
  obtain ⟨rfl, _, rfl⟩ := hv
  have h7 := h5.ad (by simp [marksE])
  simp at h7
  subst h7
  exact ⟨h5, by simpa [marksE] using h3, h4, h6 (by simp [marksE])⟩
theorem SlAt.preE {α : Type} {enc : α → List Value} {k : Nat} {w : World} {a : Option Addr} {b off : Nat} {xs ys : List α} (h : SlAt enc k w a b off (xs ++ ys)) : SlAt enc k w a b off xs :=
  ⟨fun hp => h.ad (by simp; omega), fun hp => h.lt (by simp; omega), fun i x hx => h.cell i x (by rw [List.getElem?_append_left (List.getElem?_eq_some_iff.1 hx).1]; exact hx)⟩
theorem oneEL (x : E) : ∀ u ∈ encE x, u.oneCell' = true := by intro u hu; simp [encE] at hu; rcases hu with rfl | rfl | rfl <;> rfl
set_option maxRecDepth 100000 in
set_option maxHeartbeats 4000000 in
theorem lent_any {s : Lts} {a : Option Addr} {b off c : Nat} {w : World} (hS : SlAt encE 3 w a b off s.es) (hl : s.es.length ≤ 1000000) :
    Calls Tryz.prog 7 #[.agg #[.int .i64 s.st, .int .i64 s.lb, .int .i64 s.s0, .slice a s.es.length c]] w fun e w' => ∃ g cap, e = .returned (.agg #[.int .i64 s.st, .int .i64 s.lb, .int .i64 s.s0, .slice (some ⟨g, 0, none⟩) s.es.length cap]) ∧ LentS w' w.heap.size g cap s.es ∧ Below w.heap.size w w' := by
  obtain ⟨W, hW⟩ : ∃ W, W = (w.alloc (.cells #[.int .i64 s.st, .int .i64 s.lb, .int .i64 s.s0, .slice a s.es.length c] 24)).alloc (.cells #[.int .i64 0, .int .i64 0, .int .i64 0, .slice none 0 0] 24) := ⟨_, rfl⟩
  have hB0 : Below w.heap.size w W := by rw [hW]; exact ((Below.refl _ _).alloc (Nat.le_refl _) _).alloc (by simp) _
  have h1 : W.heap[w.heap.size]? = some (.cells #[.int .i64 s.st, .int .i64 s.lb, .int .i64 s.s0, .slice a s.es.length c] 24 (0, 0)) := by
    rw [hW, Below.heap_alloc _ _ _ (by simp)]; exact heap_alloc_new w _
  have h2 : W.heap[w.heap.size + 1]? = some (.cells #[.int .i64 0, .int .i64 0, .int .i64 0, .slice none 0 0] 24 (0, 0)) := by
    have h := heap_alloc_new (w.alloc (.cells #[.int .i64 s.st, .int .i64 s.lb, .int .i64 s.s0, .slice a s.es.length c] 24)) (.cells #[.int .i64 0, .int .i64 0, .int .i64 0, .slice none 0 0] 24)
    rw [show (w.alloc (.cells #[.int .i64 s.st, .int .i64 s.lb, .int .i64 s.s0, .slice a s.es.length c] 24)).heap.size = w.heap.size + 1 by simp] at h
    rw [hW]; exact h
  have hSW := hS.below hB0 (Nat.le_refl _)
  obtain ⟨m, hm⟩ : ∃ m, m = s.es.length := ⟨_, rfl⟩
  rw [← hm] at hW h1 ⊢
  have HW := hid hW; have HB0 := hid hB0; have H1 := hid h1; have H2 := hid h2; have HM := hid hm; have HS := hid hSW
  have hmx : m ≤ 1000000 := by omega
  have hb1 : (0 + s.es.length) * 24 ≤ 140737488355328 := by omega
  have hb2 : 0 + s.es.length ≤ maxLen := by unfold maxLen; omega
  obtain ⟨x0, x1, x2, x3, x4⟩ := sysC h1
  clear hW hB0 h1 h2 hm hS hSW hl
  go_enter Tryz.func7, Tryz.ntmps7
  go_wp2_with (at_builtin; rw [← HW.out]; refine wpList_appS rfl (Operand.const (Value.slice none 0 0)) (Operand.tmp 6) _ rfl rowE (base := W.heap.size) (Nat.le_refl _) rfl (World.ownsRow_nil _ _ _ _) lenE oneEL HS.out (by rw [← HM.out]; rfl) hb1 hb2 ?_; intro v' w3 hown3 hg3; have HO3 := hid hown3; have hb3 := (Below.refl W.heap.size W).grown hg3 (Nat.le_refl _) (fun k hk => by cases hk); have HB3 := hid hb3; have hs3 := hb3.size; clear hown3 hg3 hb3)
  clear x0 x1 x2 x3 x4
  go_loopw [3, 4] (fun v3 v4 wr => ∃ i : Nat, v4 = .int .i64 i ∧ i ≤ 3 ∧ Below W.heap.size W wr ∧ wr.ownsRow W.heap.size 71 3 v3 (m + i) ((s.es ++ marksE.take i).flatMap encE)) (fun _ v4 _ => 3 - (intOf v4).toNat)
  case atStart => exact ⟨0, rfl, Nat.zero_le _, HB3.out, by have h := HO3.out; rw [Nat.zero_add, ← HM.out, List.nil_append] at h; simpa using h⟩
  case round =>
    obtain ⟨i, rfl, hi, hB, hown⟩ := hrel
    have HB := hid hB; have HO := hid hown
    have hs4 := hB.size
    clear hB hown HO3 HB3 hs3
    by_cases hlt : i < 3
    · have hiI : (i : Int) < 3 := by omega
      have hmk : marksE[i]? = some (-7, (i : Int), 0) := by
        have h3 : i = 0 ∨ i = 1 ∨ i = 2 := by omega
        rcases h3 with rfl | rfl | rfl <;> rfl
      have HMK := hid hmk
      clear hmk
      go_wp2_with (at_builtin; refine wpList_lies rfl _ _ 22 rfl rowE (base := W.heap.size) (by simp; omega) rfl (own_below HO.out ((Below.refl wr.heap.size wr).alloc (Nat.le_refl _) _)) ⟨wr.heap.size, 0, none⟩ 1 1 [.int .i64 (-7), .int .i64 i, .int .i64 0] rfl rfl (cells3 (by simp [go_sem]) (by simp [go_sem]) (by simp [go_sem])) (by simp [Value.oneCell']) (by omega) (by omega) (by unfold maxLen; omega) _ rfl ?_; intro g cap w6 hown6 hg6 _ _)
      have hb6 := (HB.out.alloc HB.out.size (.cells #[.int .i64 (-7), .int .i64 i, .int .i64 0] 71)).grown hg6 (by simp; omega) (fun k hk => (HO.out.lt k hk).1)
      have HB6 := hid hb6
      have HO6 : Hid (w6.ownsRow W.heap.size 71 3 (.slice (some ⟨g, 0, none⟩) (m + i + 1) cap) (m + (i + 1)) ((s.es ++ marksE.take (i + 1)).flatMap encE)) := hid (by
        rw [take_snoc HMK.out, ← List.append_assoc, List.flatMap_append]
        simpa [encE, Nat.add_assoc] using hown6)
      clear hb6 hown6 hg6 HO HB
      go_roundw
      case rel => exact ⟨i + 1, by go_num, by omega, HB6.out, HO6.out⟩
      case measure => simp [intOf]; omega
    · obtain rfl : i = 3 := by omega
      have ho := HO.out
      rw [show marksE.take 3 = marksE from rfl] at ho
      rcases ho.2 with ⟨_, h0⟩ | ⟨g, cap, cur, hv, hg0, _, hnc, hcm, _⟩
      · omega
      subst hv
      have hcap2 : cap ≤ 9223372036854775807 := by unfold maxLen at hcm; omega
      have hx1 := (HB.out.block _ (Array.getElem?_eq_some_iff.1 H1.out).1).trans H1.out
      have hx2 := (HB.out.block _ (Array.getElem?_eq_some_iff.1 H2.out).1).trans H2.out
      obtain ⟨x0, x1, x2, x3, x4⟩ := sysC hx1
      obtain ⟨⟨y0, y1, y2, y3, y4⟩, z0, z1, z2, z3⟩ := sysZ hx2
      have xf : wr.frozen? ⟨w.heap.size, 3, none⟩ = false := by simp [World.frozen?, hx1]
      have HO2 := hid ho; have HB2 := hid (HB0.out.trans (HB.out.mono HB0.out.size)); have HX1 := hid hx1; have HX2 := hid hx2
      clear ho hg0 hcm hx1 hx2 HO HB
      go_wp2_with fail
      have hsW : W.heap.size = w.heap.size + 2 := by rw [HW.out]; simp
      have ho2 := HO2.out
      rw [hsW, HM.out] at ho2
      have hlt : w.heap.size + 2 ≤ g := ho2.lt g rfl |>.1
      refine bodyPost_ret (v := .agg #[.int .i64 s.st, .int .i64 s.lb, .int .i64 s.s0, .slice (some ⟨g, 0, none⟩) m cap]) (by simp [results, Tryz.results7, go_sem, y0, y1, y2, y3]) rfl ⟨g, cap, rfl, ⟨?_⟩, ?_⟩
      · refine own_blockR (own_mono ho2 (by omega)) (fun k hk => ?_)
        simp only [Value.ownBlock, Option.some.injEq] at hk
        subst hk
        rw [Below.heap_setCell _ _ _ _ (by show g ≠ w.heap.size + 1; omega), Below.heap_setCell _ _ _ _ (by show g ≠ w.heap.size + 1; omega), Below.heap_setCell _ _ _ _ (by show g ≠ w.heap.size + 1; omega), Below.heap_setCell _ _ _ _ (by show g ≠ w.heap.size + 1; omega), Below.heap_setCell _ _ _ _ (by show g ≠ w.heap.size; omega)]
      · exact ((((HB2.out.setCell (p := ⟨w.heap.size, 3, none⟩) (by simp) _).setCell (p := ⟨w.heap.size + 1, 0, none⟩) (by simp) _).setCell (p := ⟨w.heap.size + 1, 1, none⟩) (by simp) _).setCell (p := ⟨w.heap.size + 1, 2, none⟩) (by simp) _).setCell (p := ⟨w.heap.size + 1, 3, none⟩) (by simp) _
set_option maxRecDepth 100000 in
set_option maxHeartbeats 4000000 in
theorem stays_any {es : List E} {base g cap : Nat} {st lb s0 st' lb' s0' : Int} {a : Option Addr} {b off c : Nat} {w : World} (hL : LentS w base g cap es) (hS : SlAt encE 3 w a b off es) (hl : es.length ≤ 1000000) :
    Calls Tryz.prog 13 #[.agg #[.int .i64 st, .int .i64 lb, .int .i64 s0, .slice (some ⟨g, 0, none⟩) es.length cap], .agg #[.int .i64 st', .int .i64 lb', .int .i64 s0', .slice a es.length c]] w fun e w' => e = .returned (.bool true) ∧ Below w.heap.size w w' := by
  obtain ⟨h1, h2, h3, _⟩ := hL.all
  obtain ⟨W, hW⟩ : ∃ W, W = (w.alloc (.cells #[.int .i64 st, .int .i64 lb, .int .i64 s0, .slice (some ⟨g, 0, none⟩) es.length cap] 24)).alloc (.cells #[.int .i64 st', .int .i64 lb', .int .i64 s0', .slice a es.length c] 24) := ⟨_, rfl⟩
  have hB0 : Below w.heap.size w W := by rw [hW]; exact ((Below.refl _ _).alloc (Nat.le_refl _) _).alloc (by simp) _
  have k1 : W.heap[w.heap.size]? = some (.cells #[.int .i64 st, .int .i64 lb, .int .i64 s0, .slice (some ⟨g, 0, none⟩) es.length cap] 24 (0, 0)) := by
    rw [hW, Below.heap_alloc _ _ _ (by simp)]; exact heap_alloc_new w _
  have hsame := sameEdges_any (c1 := cap) (c2 := c) (SlAt.preE h1 |>.below hB0 (Nat.le_refl _)) (hS.below hB0 (Nat.le_refl _)) hl hl
  rw [show decide (es = es) = true by simp] at hsame
  have hcell : ∀ i, i < 3 → W.cell? ⟨g, (es.length + i) * 3, none⟩ = some (.int .i64 (-7)) ∧ W.cell? ⟨g, (es.length + i) * 3 + 1, none⟩ = some (.int .i64 i) ∧ W.cell? ⟨g, (es.length + i) * 3 + 2, none⟩ = some (.int .i64 0) := fun i hi => by
    have hx : (es ++ marksE)[es.length + i]? = some (-7, (i : Int), 0) := by
      rw [List.getElem?_append_right (by omega), Nat.add_sub_cancel_left]
      have h3 : i = 0 ∨ i = 1 ∨ i = 2 := by omega
      rcases h3 with rfl | rfl | rfl <;> rfl
    have hh := h1.below hB0 (Nat.le_refl _)
    have e0 := hh.cell _ _ hx 0 _ rfl
    have e1 := hh.cell _ _ hx 1 _ rfl
    have e2 := hh.cell _ _ hx 2 _ rfl
    rw [Nat.add_zero, Nat.zero_add] at e0
    rw [Nat.zero_add] at e1 e2
    exact ⟨e0, e1, e2⟩
  have hgl := World.block_lt_of_cell? _ _ (hcell 0 (by omega)).1
  obtain ⟨m, hm⟩ : ∃ m, m = es.length := ⟨_, rfl⟩
  rw [← hm] at hW k1 hsame hcell h2 hl ⊢
  unfold maxLen at h3
  have HW := hid hW; have HB0 := hid hB0; have HSA := hid hsame; have HCE := hid hcell; have HK := hid k1
  obtain ⟨x0, x1, x2, x3, x4⟩ := sysC k1
  clear hW hB0 hsame hcell hL hS h1 k1 hm
  have k2 : (0 : Int) ≤ (m : Int) + 3 := by omega
  have k3 : ((m : Int) + 3).toNat = m + 3 := by omega
  have k4 : (m : Int) + 3 ≤ (cap : Int) := by omega
  have hgE := guardE
  go_enter Tryz.func13, Tryz.ntmps13
  go_wp2_with fail
  rw [← HW.out]
  refine HSA.out.mono ?_
  rintro e w2 ⟨rfl, nq, rfl⟩
  clear HSA
  go_wp2_with fail
  go_loopw [6] (fun v6 wr => ∃ i : Nat, v6 = .int .i64 i ∧ i ≤ 3 ∧ wr = W.drewN nq) (fun v6 _ => 3 - (intOf v6).toNat)
  case atStart => exact ⟨0, rfl, Nat.zero_le _, rfl⟩
  case round =>
    obtain ⟨i, rfl, hi, rfl⟩ := hrel
    by_cases hlt : i < 3
    · have hiI : (i : Int) < 3 := by omega
      obtain ⟨e0, e1, e2⟩ := HCE.out i hlt
      have q1 : (0 : Int) ≤ (m : Int) + (i : Int) := by omega
      have q2 : ((m : Int) + (i : Int)).toNat = m + i := by omega
      have q3 : (m : Int) + (i : Int) < ((m + 3 : Nat) : Int) := by omega
      have hq := fun w => neqE (-7, (i : Int), 0) (-7, (i : Int), 0) w
      have hzz : decide (((-7 : Int), (i : Int), (0 : Int)) = (-7, (i : Int), 0)) = true := by simp
      rw [hzz] at hq
      simp only [Bool.not_true] at hq
      clear hzz
      go_wp2_with fail
      go_roundw
      case rel => exact ⟨i + 1, by go_num, by omega, by first | rfl | trivial⟩
      case measure => simp [intOf]; omega
    · obtain rfl : i = 3 := by omega
      go_wp2_with fail
      go_ret
      exact ⟨rfl, bdrew HB0.out⟩
end Go.Proofs.YtbaccmlfnbgehaaGreatDoor
namespace Go.Proofs.YtbaccmlfnbgehaaGreatDoor
open Go.RowKit Pl
theorem bad_any (l : ByteArray) (hl : l.size ≤ 1000) (k : Int) (w : World) : Calls Tryz.prog 20 #[.string l, .int .i64 k] w fun e w' => e = .returned (.agg #[.int .i64 k, .int .i64 0, .int .i64 0, .string (l ++ ⟨#[32]⟩)]) ∧ Below w.heap.size w w' := by
  have hz2 : ¬ 9223372036854775807 < l.size + 1 := by omega
  go_enter Tryz.func20, Tryz.ntmps20
  go_wp2_with fail
  refine bodyPost_ret (v := .agg #[.int .i64 k, .int .i64 0, .int .i64 0, .string (l ++ ⟨#[32]⟩)]) (by simp [results, Tryz.results20, go_sem]) rfl ⟨rfl, (Below.refl _ _).alloc (Nat.le_refl _) _⟩
end Go.Proofs.YtbaccmlfnbgehaaGreatDoor
namespace Go.Proofs.YtbaccmlfnbgehaaGreatDoor
open Go.RowKit Pl
set_option maxRecDepth 100000 in
theorem less_any (x y : E) (w : World) : Calls Tryz.prog 135 #[.agg #[.int .i64 x.1, .int .i64 x.2.1, .int .i64 x.2.2], .agg #[.int .i64 y.1, .int .i64 y.2.1, .int .i64 y.2.2]] w fun e w' =>
    e = .returned (.bool (ltE x y)) ∧ Below w.heap.size w w' := by
  by_cases h1 : x.1 = y.1
  · have b1 : (x.1 != y.1) = false := by simp [h1]
    by_cases h2 : x.2.1 = y.2.1
    · have b2 : (x.2.1 != y.2.1) = false := by simp [h2]
      have hr : ltE x y = decide (x.2.2 < y.2.2) := by simp [ltE, h1, h2]
      rw [hr]
      clear h1 h2 hr
      go_enter Tryz.func135, Tryz.ntmps135
      go_wp2
      go_ret
      exact ⟨rfl, ((Below.refl _ _).alloc (Nat.le_refl _) _).alloc (by simp) _⟩
    · have b2 : (x.2.1 != y.2.1) = true := by simp [h2]
      have hr : ltE x y = decide (x.2.1 < y.2.1) := by simp [ltE, h1, h2]
      rw [hr]
      clear h1 h2 hr
      go_enter Tryz.func135, Tryz.ntmps135
      go_wp2
      go_ret
      exact ⟨rfl, ((Below.refl _ _).alloc (Nat.le_refl _) _).alloc (by simp) _⟩
  · have b1 : (x.1 != y.1) = true := by simp [h1]
    have hr : ltE x y = decide (x.1 < y.1) := by simp [ltE, h1]
    rw [hr]
    clear h1 hr
    go_enter Tryz.func135, Tryz.ntmps135
    go_wp2
    go_ret
    exact ⟨rfl, ((Below.refl _ _).alloc (Nat.le_refl _) _).alloc (by simp) _⟩
end Go.Proofs.YtbaccmlfnbgehaaGreatDoor

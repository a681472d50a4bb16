/-
  Lemmas.
-/
import Derived.Test.YtffjcehopoaboaaGreatDoorGRows2
import Derived.Test.YtffjcehopoaboaaGreatDoorGClone
import Derived.Test.YtffjcehopoaboaaGreatDoorGPl8
import Derived.Deep.RegionHeld3
import Derived.Deep.Cut
import Derived.Deep.CutRange
import Derived.Deep.QuietTactic
import Derived.BigQuiet
import Derived.IntWalk
import Derived.Deep.DeepMust
namespace Go.Proofs.YtffjcehopoaboaaGreatDoor
open Go.RowKit Pl
theorem eq_upto' {α : Type} {xs ys : List α} (hl : xs.length = ys.length) (h : ∀ j, j < xs.length → xs[j]? = ys[j]?) : xs = ys := by
  apply List.ext_getElem?
  intro j
  by_cases hj : j < xs.length
  · exact h j hj
  · rw [List.getElem?_eq_none (by omega), List.getElem?_eq_none (by omega)]
set_option maxRecDepth 100000 in
theorem sameEdges_any {a1 a2 : Option Addr} {b1 o1 c1 b2 o2 c2 : Nat} {xs ys : List E} {w : World} (h1 : SlAt encE 3 w a1 b1 o1 xs) (h2 : SlAt encE 3 w a2 b2 o2 ys) (hx : xs.length ≤ 1000000) (hy : ys.length ≤ 1000000) :
    Calls Tryz.prog 51 #[.slice a1 xs.length c1, .slice a2 ys.length c2] w fun e w' => e = .returned (.bool (decide (xs = ys))) ∧ ∃ n, w' = w.drewN n := by
  by_cases hl : xs.length = ys.length
  · have hlB : ((xs.length : Int) != (ys.length : Int)) = false := by simp [hl]
    have HL := Lib.hid hl; clear hl
    go_enter Tryz.func51, Tryz.ntmps51
    go_wp2
    go_loopw [5] (fun i wr => ∃ k m : Nat, k ≤ xs.length ∧ i = .int .i64 k ∧ (∀ j, j < k → xs[j]? = ys[j]?) ∧ wr = w.drewN m)
      (fun i _ => xs.length - (intOf i).toNat)
    case atStart => exact ⟨0, 0, Nat.zero_le _, rfl, by intro j hj; omega, rfl⟩
    case round =>
      obtain ⟨k, m, hk, rfl, heq, rfl⟩ := hrel
      have HE := Lib.hid heq; clear heq
      by_cases hlt : k < xs.length
      · have hlt2 : k < ys.length := by rw [← HL.out]; exact hlt
        obtain ⟨x, hxk⟩ := getElem?_of_lt hlt
        obtain ⟨y, hyk⟩ := getElem?_of_lt hlt2
        obtain rfl := h1.ad (by omega)
        obtain rfl := h2.ad (by omega)
        have c0 := h1.e0 hxk; have c1' := h1.e1 hxk; have c2' := h1.e2 hxk
        have d0 := h2.e0 hyk; have d1 := h2.e1 hyk; have d2 := h2.e2 hyk
        have hq := fun w => eqlE x y w
        have hgd := guardE
        have hi1 : (k : Int) < (xs.length : Int) := by omega
        have hi2 : (k : Int) < (ys.length : Int) := by omega
        have HX := Lib.hid hxk; have HY := Lib.hid hyk
        clear h1 h2 hxk hyk
        by_cases hxy : x = y
        · have hb : decide (x = y) = true := by simp [hxy]
          have HXY := Lib.hid hxy; clear hxy
          go_wp2_with fail
          go_quiet (fail)
          go_wp2
          go_roundw
          case rel => exact ⟨k + 1, _, by omega, by go_num, by
            intro j hj
            by_cases hjk : j = k
            · subst hjk; rw [HX.out, HY.out, HXY.out]
            · exact HE.out j (by omega), rfl⟩
          case measure => simp [intOf]; omega
        · have hb : decide (x = y) = false := by simp [hxy]
          have HXY := Lib.hid hxy; clear hxy
          go_wp2_with fail
          go_quiet (fail)
          go_wp2
          go_ret
          refine ⟨?_, _, World.drewN_drewN _ _ _⟩
          have : xs ≠ ys := fun e => HXY.out (by have h1 := HX.out; have h2 := HY.out; rw [e, h2] at h1; simpa using h1.symm)
          simp [this]
      · clear h1 h2
        have hkk : k = xs.length := by omega
        go_wp2
        go_ret
        refine ⟨?_, _, rfl⟩
        have : xs = ys := eq_upto' HL.out (by rw [← hkk]; exact HE.out)
        simp [this]
  · have hlB : ((xs.length : Int) != (ys.length : Int)) = true := by simp; omega
    go_enter Tryz.func51, Tryz.ntmps51
    go_wp2
    go_ret
    have : xs ≠ ys := fun e => hl (by rw [e])
    exact ⟨by simp [this], 0, rfl⟩
end Go.Proofs.YtffjcehopoaboaaGreatDoor
namespace Go.Proofs.YtffjcehopoaboaaGreatDoor
open Go.RowKit Pl
set_option maxRecDepth 100000 in
theorem less_any (x y : E) (w : World) : Calls Tryz.prog 157 #[.agg #[.int .i64 x.1, .int .i64 x.2.1, .int .i64 x.2.2], .agg #[.int .i64 y.1, .int .i64 y.2.1, .int .i64 y.2.2]] w fun e w' =>
    e = .returned (.bool (ltE x y)) ∧ Below w.heap.size w w' := by
  by_cases h1 : x.1 = y.1
  · have b1 : (x.1 != y.1) = false := by simp [h1]
    by_cases h2 : x.2.1 = y.2.1
    · have b2 : (x.2.1 != y.2.1) = false := by simp [h2]
      have hr : ltE x y = decide (x.2.2 < y.2.2) := by simp [ltE, h1, h2]
      rw [hr]
      clear h1 h2 hr
      go_enter Tryz.func157, Tryz.ntmps157
      go_wp2
      go_ret
      exact ⟨rfl, ((Below.refl _ _).alloc (Nat.le_refl _) _).alloc (by simp) _⟩
    · have b2 : (x.2.1 != y.2.1) = true := by simp [h2]
      have hr : ltE x y = decide (x.2.1 < y.2.1) := by simp [ltE, h1, h2]
      rw [hr]
      clear h1 h2 hr
      go_enter Tryz.func157, Tryz.ntmps157
      go_wp2
      go_ret
      exact ⟨rfl, ((Below.refl _ _).alloc (Nat.le_refl _) _).alloc (by simp) _⟩
  · have b1 : (x.1 != y.1) = true := by simp [h1]
    have hr : ltE x y = decide (x.1 < y.1) := by simp [ltE, h1]
    rw [hr]
    clear h1 hr
    go_enter Tryz.func157, Tryz.ntmps157
    go_wp2
    go_ret
    exact ⟨rfl, ((Below.refl _ _).alloc (Nat.le_refl _) _).alloc (by simp) _⟩
end Go.Proofs.YtffjcehopoaboaaGreatDoor

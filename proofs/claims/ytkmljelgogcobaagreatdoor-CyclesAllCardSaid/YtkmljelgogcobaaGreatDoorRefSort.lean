/-
  semblanceref7.less, Sorted; semblancebook.SameEdges, SameSystem.
-/
import Derived.Test.YtkmljelgogcobaaGreatDoorGCompact
import Derived.Test.YtkmljelgogcobaaGreatDoorGRows2
import Derived.Test.YtkmljelgogcobaaGreatDoorGClone
import Derived.Test.YtkmljelgogcobaaGreatDoorGPl9
import Derived.Deep.RegionHeld3
import Derived.Deep.Cut
import Derived.Deep.CutRange
import Derived.Deep.QuietTactic
import Derived.BigQuiet
import Derived.IntWalk
import Derived.Deep.DeepMust
namespace Go.Proofs.YtkmljelgogcobaaGreatDoor
open Go.RowKit Pl

set_option maxRecDepth 100000 in
theorem less_any (x y : E) (w : World) : Calls Tryz.prog 109 #[.agg #[.int .i64 x.1, .int .i64 x.2.1, .int .i64 x.2.2], .agg #[.int .i64 y.1, .int .i64 y.2.1, .int .i64 y.2.2]] w fun e w' =>
    e = .returned (.bool (ltE x y)) ∧ Below w.heap.size w w' := by
  by_cases h1 : x.1 = y.1
  · have b1 : (x.1 != y.1) = false := by simp [h1]
    by_cases h2 : x.2.1 = y.2.1
    · have b2 : (x.2.1 != y.2.1) = false := by simp [h2]
      have hr : ltE x y = decide (x.2.2 < y.2.2) := by simp [ltE, h1, h2]
      rw [hr]
      clear h1 h2 hr
      go_enter Tryz.func109, Tryz.ntmps109
      go_wp2
      go_ret
      exact ⟨rfl, ((Below.refl _ _).alloc (Nat.le_refl _) _).alloc (by simp) _⟩
    · have b2 : (x.2.1 != y.2.1) = true := by simp [h2]
      have hr : ltE x y = decide (x.2.1 < y.2.1) := by simp [ltE, h1, h2]
      rw [hr]
      clear h1 h2 hr
      go_enter Tryz.func109, Tryz.ntmps109
      go_wp2
      go_ret
      exact ⟨rfl, ((Below.refl _ _).alloc (Nat.le_refl _) _).alloc (by simp) _⟩
  · have b1 : (x.1 != y.1) = true := by simp [h1]
    have hr : ltE x y = decide (x.1 < y.1) := by simp [ltE, h1]
    rw [hr]
    clear h1 hr
    go_enter Tryz.func109, Tryz.ntmps109
    go_wp2
    go_ret
    exact ⟨rfl, ((Below.refl _ _).alloc (Nat.le_refl _) _).alloc (by simp) _⟩

end Go.Proofs.YtkmljelgogcobaaGreatDoor

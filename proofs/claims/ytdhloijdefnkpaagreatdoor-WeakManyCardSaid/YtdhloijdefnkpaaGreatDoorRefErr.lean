/-
  semblanceref1.Bad: the reference's errors.
-/
import Derived.Test.YtdhloijdefnkpaaGreatDoorTold
namespace Go.Proofs.YtdhloijdefnkpaaGreatDoor
open Go.RowKit Pl

theorem bad_any (l : ByteArray) (hl : l.size ≤ 1000) (k : Int) (w : World) : Calls Tryz.prog 15 #[.string l, .int .i64 k] w fun e w' => e = .returned (.agg #[.int .i64 k, .int .i64 0, .int .i64 0, .string (l ++ ⟨#[32]⟩)]) ∧ Below w.heap.size w w' := by
  have hz2 : ¬ 9223372036854775807 < l.size + 1 := by omega
  go_enter Tryz.func15, Tryz.ntmps15
  go_wp2_with fail
  refine bodyPost_ret (v := .agg #[.int .i64 k, .int .i64 0, .int .i64 0, .string (l ++ ⟨#[32]⟩)]) (by simp [results, Tryz.results15, go_sem]) rfl ⟨rfl, (Below.refl _ _).alloc (Nat.le_refl _) _⟩
end Go.Proofs.YtdhloijdefnkpaaGreatDoor

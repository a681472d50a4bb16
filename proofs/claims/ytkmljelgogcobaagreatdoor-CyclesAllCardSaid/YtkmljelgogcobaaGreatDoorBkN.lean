/-
  semblancebook.Book: the kinds of which nothing is kept.
-/
import Derived.Test.YtkmljelgogcobaaGreatDoorBkB
import Derived.Deep.QuietTactic
import Derived.BigQuiet
import Derived.IntWalk
namespace Go.Proofs.YtkmljelgogcobaaGreatDoor
open Go.RowKit Pl

set_option maxRecDepth 100000 in
theorem stillTokens_nil {w : World} {bb : Nat} (h0 : w.cell? ⟨bb, 2, none⟩ = some (.slice none 0 0)) : Calls Tryz.prog 66 #[.pointer (some ⟨bb, 0, none⟩)] w fun e w' => e = .returned (.bool true) ∧ w' = w := by
  go_enter Tryz.func66, Tryz.ntmps66
  go_wp2_with fail
  go_loopw [3] (fun v3 wr => v3 = .int .i64 0 ∧ wr = w) (fun _ _ => 0)
  case atStart => exact ⟨rfl, rfl⟩
  case round =>
    obtain ⟨rfl, rfl⟩ := hrel
    go_wp2_with fail
    go_ret
    exact ⟨rfl, rfl⟩
set_option maxRecDepth 100000 in
theorem putTokens_nil {w : World} {bb : Nat} (h0 : w.cell? ⟨bb, 2, none⟩ = some (.slice none 0 0)) : Calls Tryz.prog 77 #[.pointer (some ⟨bb, 0, none⟩)] w fun e w' => e = .returned (.tuple #[]) ∧ w' = w := by
  go_enter Tryz.func77, Tryz.ntmps77
  go_wp2_with fail
  go_loopw [2] (fun v2 wr => v2 = .int .i64 0 ∧ wr = w) (fun _ _ => 0)
  case atStart => exact ⟨rfl, rfl⟩
  case round =>
    obtain ⟨rfl, rfl⟩ := hrel
    go_wp2_with fail
    go_end0
    exact ⟨rfl, rfl⟩
set_option maxRecDepth 100000 in
theorem growTokens_nil {w : World} {bb : Nat} (h0 : w.cell? ⟨bb, 2, none⟩ = some (.slice none 0 0)) : Calls Tryz.prog 88 #[.pointer (some ⟨bb, 0, none⟩)] w fun e w' => e = .returned (.slice none 0 0) ∧ w' = w := by
  go_enter Tryz.func88, Tryz.ntmps88
  go_wp2_with fail
  go_loopw [3, 4] (fun v3 v4 wr => v3 = .slice none 0 0 ∧ v4 = .int .i64 0 ∧ wr = w) (fun _ _ _ => 0)
  case atStart => exact ⟨rfl, rfl, rfl⟩
  case round =>
    obtain ⟨rfl, rfl, rfl⟩ := hrel
    go_wp2_with fail
    go_ret
    exact ⟨rfl, rfl⟩

set_option maxRecDepth 100000 in
theorem markedTokens_nil {w : World} : Calls Tryz.prog 99 #[.slice none 0 0] w fun e w' => e = .returned (.bool true) ∧ w' = w := by
  go_enter Tryz.func99, Tryz.ntmps99
  go_wp2_with fail
  go_loopw [3] (fun v3 wr => v3 = .int .i64 0 ∧ wr = w) (fun _ _ => 0)
  case atStart => exact ⟨rfl, rfl⟩
  case round =>
    obtain ⟨rfl, rfl⟩ := hrel
    go_wp2_with fail
    go_ret
    exact ⟨rfl, rfl⟩

set_option maxRecDepth 100000 in
theorem stillTexts_nil {w : World} {bb : Nat} (h0 : w.cell? ⟨bb, 4, none⟩ = some (.slice none 0 0)) : Calls Tryz.prog 67 #[.pointer (some ⟨bb, 0, none⟩)] w fun e w' => e = .returned (.bool true) ∧ w' = w := by
  go_enter Tryz.func67, Tryz.ntmps67
  go_wp2_with fail
  go_loopw [3] (fun v3 wr => v3 = .int .i64 0 ∧ wr = w) (fun _ _ => 0)
  case atStart => exact ⟨rfl, rfl⟩
  case round =>
    obtain ⟨rfl, rfl⟩ := hrel
    go_wp2_with fail
    go_ret
    exact ⟨rfl, rfl⟩
set_option maxRecDepth 100000 in
theorem putTexts_nil {w : World} {bb : Nat} (h0 : w.cell? ⟨bb, 4, none⟩ = some (.slice none 0 0)) : Calls Tryz.prog 78 #[.pointer (some ⟨bb, 0, none⟩)] w fun e w' => e = .returned (.tuple #[]) ∧ w' = w := by
  go_enter Tryz.func78, Tryz.ntmps78
  go_wp2_with fail
  go_loopw [2] (fun v2 wr => v2 = .int .i64 0 ∧ wr = w) (fun _ _ => 0)
  case atStart => exact ⟨rfl, rfl⟩
  case round =>
    obtain ⟨rfl, rfl⟩ := hrel
    go_wp2_with fail
    go_end0
    exact ⟨rfl, rfl⟩
set_option maxRecDepth 100000 in
theorem growTexts_nil {w : World} {bb : Nat} (h0 : w.cell? ⟨bb, 4, none⟩ = some (.slice none 0 0)) : Calls Tryz.prog 89 #[.pointer (some ⟨bb, 0, none⟩)] w fun e w' => e = .returned (.slice none 0 0) ∧ w' = w := by
  go_enter Tryz.func89, Tryz.ntmps89
  go_wp2_with fail
  go_loopw [3, 4] (fun v3 v4 wr => v3 = .slice none 0 0 ∧ v4 = .int .i64 0 ∧ wr = w) (fun _ _ _ => 0)
  case atStart => exact ⟨rfl, rfl, rfl⟩
  case round =>
    obtain ⟨rfl, rfl, rfl⟩ := hrel
    go_wp2_with fail
    go_ret
    exact ⟨rfl, rfl⟩

set_option maxRecDepth 100000 in
theorem markedTexts_nil {w : World} : Calls Tryz.prog 100 #[.slice none 0 0] w fun e w' => e = .returned (.bool true) ∧ w' = w := by
  go_enter Tryz.func100, Tryz.ntmps100
  go_wp2_with fail
  go_loopw [3] (fun v3 wr => v3 = .int .i64 0 ∧ wr = w) (fun _ _ => 0)
  case atStart => exact ⟨rfl, rfl⟩
  case round =>
    obtain ⟨rfl, rfl⟩ := hrel
    go_wp2_with fail
    go_ret
    exact ⟨rfl, rfl⟩

set_option maxRecDepth 100000 in
theorem stillNodes_nil {w : World} {bb : Nat} (h0 : w.cell? ⟨bb, 12, none⟩ = some (.slice none 0 0)) : Calls Tryz.prog 71 #[.pointer (some ⟨bb, 0, none⟩)] w fun e w' => e = .returned (.bool true) ∧ w' = w := by
  go_enter Tryz.func71, Tryz.ntmps71
  go_wp2_with fail
  go_loopw [3] (fun v3 wr => v3 = .int .i64 0 ∧ wr = w) (fun _ _ => 0)
  case atStart => exact ⟨rfl, rfl⟩
  case round =>
    obtain ⟨rfl, rfl⟩ := hrel
    go_wp2_with fail
    go_ret
    exact ⟨rfl, rfl⟩
set_option maxRecDepth 100000 in
theorem putNodes_nil {w : World} {bb : Nat} (h0 : w.cell? ⟨bb, 12, none⟩ = some (.slice none 0 0)) : Calls Tryz.prog 82 #[.pointer (some ⟨bb, 0, none⟩)] w fun e w' => e = .returned (.tuple #[]) ∧ w' = w := by
  go_enter Tryz.func82, Tryz.ntmps82
  go_wp2_with fail
  go_loopw [2] (fun v2 wr => v2 = .int .i64 0 ∧ wr = w) (fun _ _ => 0)
  case atStart => exact ⟨rfl, rfl⟩
  case round =>
    obtain ⟨rfl, rfl⟩ := hrel
    go_wp2_with fail
    go_end0
    exact ⟨rfl, rfl⟩
set_option maxRecDepth 100000 in
theorem growNodes_nil {w : World} {bb : Nat} (h0 : w.cell? ⟨bb, 12, none⟩ = some (.slice none 0 0)) : Calls Tryz.prog 93 #[.pointer (some ⟨bb, 0, none⟩)] w fun e w' => e = .returned (.slice none 0 0) ∧ w' = w := by
  go_enter Tryz.func93, Tryz.ntmps93
  go_wp2_with fail
  go_loopw [3, 4] (fun v3 v4 wr => v3 = .slice none 0 0 ∧ v4 = .int .i64 0 ∧ wr = w) (fun _ _ _ => 0)
  case atStart => exact ⟨rfl, rfl, rfl⟩
  case round =>
    obtain ⟨rfl, rfl, rfl⟩ := hrel
    go_wp2_with fail
    go_ret
    exact ⟨rfl, rfl⟩

set_option maxRecDepth 100000 in
theorem markedNodes_nil {w : World} : Calls Tryz.prog 104 #[.slice none 0 0] w fun e w' => e = .returned (.bool true) ∧ w' = w := by
  go_enter Tryz.func104, Tryz.ntmps104
  go_wp2_with fail
  go_loopw [3] (fun v3 wr => v3 = .int .i64 0 ∧ wr = w) (fun _ _ => 0)
  case atStart => exact ⟨rfl, rfl⟩
  case round =>
    obtain ⟨rfl, rfl⟩ := hrel
    go_wp2_with fail
    go_ret
    exact ⟨rfl, rfl⟩

set_option maxRecDepth 100000 in
theorem stillPairs_nil {w : World} {bb : Nat} (h0 : w.cell? ⟨bb, 14, none⟩ = some (.slice none 0 0)) : Calls Tryz.prog 72 #[.pointer (some ⟨bb, 0, none⟩)] w fun e w' => e = .returned (.bool true) ∧ w' = w := by
  go_enter Tryz.func72, Tryz.ntmps72
  go_wp2_with fail
  go_loopw [3] (fun v3 wr => v3 = .int .i64 0 ∧ wr = w) (fun _ _ => 0)
  case atStart => exact ⟨rfl, rfl⟩
  case round =>
    obtain ⟨rfl, rfl⟩ := hrel
    go_wp2_with fail
    go_ret
    exact ⟨rfl, rfl⟩
set_option maxRecDepth 100000 in
theorem putPairs_nil {w : World} {bb : Nat} (h0 : w.cell? ⟨bb, 14, none⟩ = some (.slice none 0 0)) : Calls Tryz.prog 83 #[.pointer (some ⟨bb, 0, none⟩)] w fun e w' => e = .returned (.tuple #[]) ∧ w' = w := by
  go_enter Tryz.func83, Tryz.ntmps83
  go_wp2_with fail
  go_loopw [2] (fun v2 wr => v2 = .int .i64 0 ∧ wr = w) (fun _ _ => 0)
  case atStart => exact ⟨rfl, rfl⟩
  case round =>
    obtain ⟨rfl, rfl⟩ := hrel
    go_wp2_with fail
    go_end0
    exact ⟨rfl, rfl⟩
set_option maxRecDepth 100000 in
theorem growPairs_nil {w : World} {bb : Nat} (h0 : w.cell? ⟨bb, 14, none⟩ = some (.slice none 0 0)) : Calls Tryz.prog 94 #[.pointer (some ⟨bb, 0, none⟩)] w fun e w' => e = .returned (.slice none 0 0) ∧ w' = w := by
  go_enter Tryz.func94, Tryz.ntmps94
  go_wp2_with fail
  go_loopw [3, 4] (fun v3 v4 wr => v3 = .slice none 0 0 ∧ v4 = .int .i64 0 ∧ wr = w) (fun _ _ _ => 0)
  case atStart => exact ⟨rfl, rfl, rfl⟩
  case round =>
    obtain ⟨rfl, rfl, rfl⟩ := hrel
    go_wp2_with fail
    go_ret
    exact ⟨rfl, rfl⟩

set_option maxRecDepth 100000 in
theorem markedPairs_nil {w : World} : Calls Tryz.prog 105 #[.slice none 0 0] w fun e w' => e = .returned (.bool true) ∧ w' = w := by
  go_enter Tryz.func105, Tryz.ntmps105
  go_wp2_with fail
  go_loopw [3] (fun v3 wr => v3 = .int .i64 0 ∧ wr = w) (fun _ _ => 0)
  case atStart => exact ⟨rfl, rfl⟩
  case round =>
    obtain ⟨rfl, rfl⟩ := hrel
    go_wp2_with fail
    go_ret
    exact ⟨rfl, rfl⟩

set_option maxRecDepth 100000 in
theorem stillLines_nil {w : World} {bb : Nat} (h0 : w.cell? ⟨bb, 18, none⟩ = some (.slice none 0 0)) : Calls Tryz.prog 74 #[.pointer (some ⟨bb, 0, none⟩)] w fun e w' => e = .returned (.bool true) ∧ w' = w := by
  go_enter Tryz.func74, Tryz.ntmps74
  go_wp2_with fail
  go_loopw [3] (fun v3 wr => v3 = .int .i64 0 ∧ wr = w) (fun _ _ => 0)
  case atStart => exact ⟨rfl, rfl⟩
  case round =>
    obtain ⟨rfl, rfl⟩ := hrel
    go_wp2_with fail
    go_ret
    exact ⟨rfl, rfl⟩
set_option maxRecDepth 100000 in
theorem putLines_nil {w : World} {bb : Nat} (h0 : w.cell? ⟨bb, 18, none⟩ = some (.slice none 0 0)) : Calls Tryz.prog 85 #[.pointer (some ⟨bb, 0, none⟩)] w fun e w' => e = .returned (.tuple #[]) ∧ w' = w := by
  go_enter Tryz.func85, Tryz.ntmps85
  go_wp2_with fail
  go_loopw [2] (fun v2 wr => v2 = .int .i64 0 ∧ wr = w) (fun _ _ => 0)
  case atStart => exact ⟨rfl, rfl⟩
  case round =>
    obtain ⟨rfl, rfl⟩ := hrel
    go_wp2_with fail
    go_end0
    exact ⟨rfl, rfl⟩
set_option maxRecDepth 100000 in
theorem growLines_nil {w : World} {bb : Nat} (h0 : w.cell? ⟨bb, 18, none⟩ = some (.slice none 0 0)) : Calls Tryz.prog 96 #[.pointer (some ⟨bb, 0, none⟩)] w fun e w' => e = .returned (.slice none 0 0) ∧ w' = w := by
  go_enter Tryz.func96, Tryz.ntmps96
  go_wp2_with fail
  go_loopw [3, 4] (fun v3 v4 wr => v3 = .slice none 0 0 ∧ v4 = .int .i64 0 ∧ wr = w) (fun _ _ _ => 0)
  case atStart => exact ⟨rfl, rfl, rfl⟩
  case round =>
    obtain ⟨rfl, rfl, rfl⟩ := hrel
    go_wp2_with fail
    go_ret
    exact ⟨rfl, rfl⟩

set_option maxRecDepth 100000 in
theorem markedLines_nil {w : World} : Calls Tryz.prog 107 #[.slice none 0 0] w fun e w' => e = .returned (.bool true) ∧ w' = w := by
  go_enter Tryz.func107, Tryz.ntmps107
  go_wp2_with fail
  go_loopw [3] (fun v3 wr => v3 = .int .i64 0 ∧ wr = w) (fun _ _ => 0)
  case atStart => exact ⟨rfl, rfl⟩
  case round =>
    obtain ⟨rfl, rfl⟩ := hrel
    go_wp2_with fail
    go_ret
    exact ⟨rfl, rfl⟩

end Go.Proofs.YtkmljelgogcobaaGreatDoor

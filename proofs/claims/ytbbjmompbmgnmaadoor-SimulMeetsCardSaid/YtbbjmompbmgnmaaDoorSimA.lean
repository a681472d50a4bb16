/-
  simul: rows of bits: put, drop, has.
-/
import Derived.Test.YtbbjmompbmgnmaaDoorMem
import Derived.Test.YtbbjmompbmgnmaaDoorPlB
import Derived.Laws.BitsAllLaws
import Derived.IntWalk
import Derived.BigRegion
import Derived.Deep.QuietTactic
import Derived.BigQuiet
import Derived.Outline
import Derived.Deep.Cut
namespace Go.Proofs.YtbbjmompbmgnmaaDoor
open Go.RowKit Pl

/-- A set of numbers in memory: five words. -/
def RowAt (w : World) (b off : Nat) (F : Nat → Bool) : Prop := ∀ j, j < 5 → w.cell? ⟨b, off + j, none⟩ = some (.int .u64 (wj F j : Nat))

set_option maxRecDepth 100000 in
theorem has_any {w : World} {b off : Nat} {F : Nat → Bool} (h : RowAt w b off F) {i : Nat} (hi : i < 320) :
    Calls Tryd.prog 43 #[.pointer (some ⟨b, off, none⟩), .int .i64 i] w fun e w' => e = .returned (.bool (F i)) ∧ w = w' := by
  have hc := h (i / 64) (by omega)
  have hr := wj_has F i
  have hl := wj_lt F (i / 64)
  obtain ⟨x, hx⟩ : ∃ x, x = wj F (i / 64) := ⟨_, rfl⟩
  rw [← hx] at hc hr hl
  obtain ⟨j, hj⟩ : ∃ j, j = i / 64 := ⟨_, rfl⟩
  obtain ⟨k, hk⟩ : ∃ k, k = i % 64 := ⟨_, rfl⟩
  rw [← hj] at hc
  rw [← hk] at hr
  have e1 : (i : Int) / 64 = (j : Int) := by omega
  have e2 : (i : Int) % 64 = (k : Int) := by omega
  have hj5 : (j : Int) < 5 := by omega
  have hb := World.block_lt_of_cell? _ _ hc
  have HR := Lib.hid hr; have HL := Lib.hid hl
  clear hr hl hx hj hk h
  go_enter Tryd.func43, Tryd.ntmps43
  go_upto_region 1 with fail
  go_wp2_with fail
  go_ret
  refine ⟨ret_b ?_, rfl⟩
  have h1 : (x : Int) / 2 ^ k = ((x >>> k : Nat) : Int) := by rw [Nat.shiftRight_eq_div_pow]; simp
  have h2 : x >>> k < 18446744073709551616 := by
    rw [Nat.shiftRight_eq_div_pow]
    exact Nat.lt_of_le_of_lt (Nat.div_le_self _ _) HL.out
  have h3 := u64_and_nat (x >>> k) 1 h2 (by decide)
  rw [h1]
  rw [show ((1 : Nat) : Int) = 1 from rfl] at h3
  rw [h3, HR.out]
  cases F i <;> rfl

theorem pow_lt64 {k : Nat} (h : k < 64) : 2 ^ k < 18446744073709551616 := Nat.lt_of_lt_of_le (Nat.pow_lt_pow_right (by decide) h) (by decide)
theorem wrap_pow {k : Nat} (h : k < 64) : IntKind.u64.wrap ((2 : Int) ^ k) = ((2 ^ k : Nat) : Int) := by
  have h1 := pow_lt64 h
  have h2 : ((2 : Int) ^ k) = ((2 ^ k : Nat) : Int) := by simp
  rw [h2, IntKind.wrap_u64]
  obtain ⟨y, hy⟩ : ∃ y, y = 2 ^ k := ⟨_, rfl⟩
  rw [← hy] at h1 ⊢
  omega
set_option maxRecDepth 100000 in
theorem put_any {w : World} {b off : Nat} {F : Nat → Bool} (h : RowAt w b off F) (hf : ∀ j, w.frozen? ⟨b, off + j, none⟩ = false) {i : Nat} (hi : i < 320) :
    Calls Tryd.prog 80 #[.pointer (some ⟨b, off, none⟩), .int .i64 i] w fun e w' => e = .returned (.tuple #[]) ∧ w' = (w.setCell ⟨b, off + i / 64, none⟩ (.int .u64 (wj (putF F i) (i / 64) : Nat))).drew := by
  have hc := h (i / 64) (by omega)
  have hr := wj_put F i
  have hl := wj_lt F (i / 64)
  have hfz := hf (i / 64)
  obtain ⟨x, hx⟩ : ∃ x, x = wj F (i / 64) := ⟨_, rfl⟩
  obtain ⟨y, hy⟩ : ∃ y, y = wj (putF F i) (i / 64) := ⟨_, rfl⟩
  rw [← hx] at hc hr hl
  rw [← hy] at hr ⊢
  have hk64 : i % 64 < 64 := Nat.mod_lt _ (by decide)
  obtain ⟨j, hj⟩ : ∃ j, j = i / 64 := ⟨_, rfl⟩
  obtain ⟨k, hk⟩ : ∃ k, k = i % 64 := ⟨_, rfl⟩
  rw [← hj] at hc hfz ⊢
  rw [← hk] at hr hk64
  have e1 : (i : Int) / 64 = (j : Int) := by omega
  have e2 : (i : Int) % 64 = (k : Int) := by omega
  have hj5 : (j : Int) < 5 := by omega
  have hb := World.block_lt_of_cell? _ _ hc
  have HR := Lib.hid hr; have HL := Lib.hid hl
  clear hr hl hx hj hk h hf hy
  go_enter Tryd.func80, Tryd.ntmps80
  go_region
  go_end0
  have h3 := u64_or_nat x (2 ^ k) HL.out (pow_lt64 hk64)
  rw [HR.out] at h3
  exact ⟨rfl, by rw [wrap_pow hk64, h3]⟩

set_option maxRecDepth 100000 in
theorem drop_any {w : World} {b off : Nat} {F : Nat → Bool} (h : RowAt w b off F) (hf : ∀ j, w.frozen? ⟨b, off + j, none⟩ = false) {i : Nat} (hi : i < 320) :
    Calls Tryd.prog 82 #[.pointer (some ⟨b, off, none⟩), .int .i64 i] w fun e w' => e = .returned (.tuple #[]) ∧ w' = (w.setCell ⟨b, off + i / 64, none⟩ (.int .u64 (wj (dropF F i) (i / 64) : Nat))).drew := by
  have hc := h (i / 64) (by omega)
  have hr := wj_drop F i
  have hl := wj_lt F (i / 64)
  have hfz := hf (i / 64)
  obtain ⟨x, hx⟩ : ∃ x, x = wj F (i / 64) := ⟨_, rfl⟩
  obtain ⟨y, hy⟩ : ∃ y, y = wj (dropF F i) (i / 64) := ⟨_, rfl⟩
  rw [← hx] at hc hr hl
  rw [← hy] at hr ⊢
  have hk64 : i % 64 < 64 := Nat.mod_lt _ (by decide)
  obtain ⟨j, hj⟩ : ∃ j, j = i / 64 := ⟨_, rfl⟩
  obtain ⟨k, hk⟩ : ∃ k, k = i % 64 := ⟨_, rfl⟩
  rw [← hj] at hc hfz ⊢
  rw [← hk] at hr hk64
  have e1 : (i : Int) / 64 = (j : Int) := by omega
  have e2 : (i : Int) % 64 = (k : Int) := by omega
  have hj5 : (j : Int) < 5 := by omega
  have hb := World.block_lt_of_cell? _ _ hc
  have HR := Lib.hid hr; have HL := Lib.hid hl
  clear hr hl hx hj hk h hf hy
  go_enter Tryd.func82, Tryd.ntmps82
  go_region
  go_end0
  have h3 := u64_andNot_nat x (2 ^ k) HL.out (pow_lt64 hk64)
  rw [HR.out] at h3
  exact ⟨rfl, by rw [wrap_pow hk64, h3]⟩
end Go.Proofs.YtbbjmompbmgnmaaDoor

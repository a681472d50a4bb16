/-
  Plain: sets of numbers below 320 as five words of 64 bits.
-/
import Derived.Lib.TrailingZeros
namespace Go.Proofs.YtfakdgljilmpkaaGreatDoor
namespace Pl

/-- The word whose bits are f. -/
def wd (f : Nat → Bool) : Nat → Nat
  | 0 => 0
  | n + 1 => wd f n ||| (if f n then 2 ^ n else 0)
theorem wd_lt (f : Nat → Bool) : ∀ n, wd f n < 2 ^ n
  | 0 => by simp [wd]
  | n + 1 => by
    have h1 := wd_lt f n
    have h2 : 2 ^ n < 2 ^ (n + 1) := by rw [Nat.pow_succ]; have := Nat.two_pow_pos n; omega
    unfold wd
    refine Nat.or_lt_two_pow (by omega) ?_
    split
    · exact h2
    · exact Nat.two_pow_pos _
theorem wd_bit (f : Nat → Bool) : ∀ n k, (wd f n).testBit k = (decide (k < n) && f k)
  | 0, k => by simp [wd]
  | n + 1, k => by
    unfold wd
    rw [Nat.testBit_or, wd_bit f n k]
    by_cases hf : f n = true
    · rw [if_pos hf, Nat.testBit_two_pow]
      by_cases e : n = k
      · subst e; simp [hf]
      · by_cases h : k < n
        · simp [h, e, show k < n + 1 by omega]
        · simp [h, e, show ¬ k < n + 1 by omega]
    · rw [if_neg hf, Nat.zero_testBit, Bool.or_false]
      by_cases e : n = k
      · subst e; simp at hf; simp [hf]
      · by_cases h : k < n
        · simp [h, show k < n + 1 by omega]
        · simp [h, show ¬ k < n + 1 by omega]

/-- Word j of a set. -/
def wj (F : Nat → Bool) (j : Nat) : Nat := wd (fun k => F (64 * j + k)) 64
theorem wj_lt (F : Nat → Bool) (j : Nat) : wj F j < 18446744073709551616 := wd_lt _ 64
theorem wj_bit (F : Nat → Bool) (j k : Nat) : (wj F j).testBit k = (decide (k < 64) && F (64 * j + k)) := wd_bit _ 64 k
theorem wj_ext {F G : Nat → Bool} {j : Nat} (h : ∀ k, k < 64 → F (64 * j + k) = G (64 * j + k)) : wj F j = wj G j := by
  refine Nat.eq_of_testBit_eq (fun k => ?_)
  rw [wj_bit, wj_bit]
  by_cases hk : k < 64
  · rw [h k hk]
  · simp [hk]
theorem wj_none (j : Nat) : wj (fun _ => false) j = 0 := by
  refine Nat.eq_of_testBit_eq (fun k => ?_)
  rw [wj_bit, Nat.zero_testBit]; simp

def putF (F : Nat → Bool) (i : Nat) (x : Nat) : Bool := F x || decide (x = i)
def dropF (F : Nat → Bool) (i : Nat) (x : Nat) : Bool := F x && !decide (x = i)
theorem wj_put (F : Nat → Bool) (i : Nat) : wj F (i / 64) ||| 2 ^ (i % 64) = wj (putF F i) (i / 64) := by
  refine Nat.eq_of_testBit_eq (fun k => ?_)
  rw [Nat.testBit_or, wj_bit, wj_bit, Nat.testBit_two_pow]
  unfold putF
  by_cases hk : k < 64
  · have : decide (i % 64 = k) = decide (64 * (i / 64) + k = i) := by
      by_cases e : i % 64 = k
      · have : 64 * (i / 64) + k = i := by omega
        simp [e, this]
      · have : ¬ 64 * (i / 64) + k = i := by omega
        simp [e, this]
    rw [this]; simp [hk]
  · have : ¬ i % 64 = k := by omega
    simp [hk, this]
theorem wj_put_ne (F : Nat → Bool) {i j : Nat} (h : j ≠ i / 64) : wj (putF F i) j = wj F j :=
  wj_ext (fun k hk => by unfold putF; have : ¬ 64 * j + k = i := by omega
                         simp [this])
theorem wj_drop (F : Nat → Bool) (i : Nat) : wj F (i / 64) &&& (18446744073709551615 - 2 ^ (i % 64)) = wj (dropF F i) (i / 64) := by
  have hp : 2 ^ (i % 64) < 2 ^ 64 := Nat.pow_lt_pow_right (by decide) (by omega)
  refine Nat.eq_of_testBit_eq (fun k => ?_)
  rw [Nat.testBit_and, wj_bit, wj_bit, show 18446744073709551615 - 2 ^ (i % 64) = 2 ^ 64 - (2 ^ (i % 64) + 1) by omega, Nat.testBit_two_pow_sub_succ hp, Nat.testBit_two_pow]
  unfold dropF
  by_cases hk : k < 64
  · have : decide (i % 64 = k) = decide (64 * (i / 64) + k = i) := by
      by_cases e : i % 64 = k
      · have : 64 * (i / 64) + k = i := by omega
        simp [e, this]
      · have : ¬ 64 * (i / 64) + k = i := by omega
        simp [e, this]
    rw [this]; simp [hk]
  · simp [hk]
theorem wj_drop_ne (F : Nat → Bool) {i j : Nat} (h : j ≠ i / 64) : wj (dropF F i) j = wj F j :=
  wj_ext (fun k hk => by unfold dropF; have : ¬ 64 * j + k = i := by omega
                         simp [this])
theorem bit_mod (x k : Nat) : (x >>> k) &&& 1 = if x.testBit k then 1 else 0 := by
  rw [Nat.and_one_is_mod]
  have h := Nat.testBit_shiftRight (i := k) (j := 0) x
  rw [Nat.add_zero] at h
  rw [← h, Nat.testBit_zero]
  rcases Nat.mod_two_eq_zero_or_one (x >>> k) with e | e <;> simp [e]
theorem wj_has (F : Nat → Bool) (i : Nat) : (wj F (i / 64) >>> (i % 64)) &&& 1 = if F i then 1 else 0 := by
  rw [bit_mod, wj_bit]
  have h1 : i % 64 < 64 := Nat.mod_lt _ (by decide)
  have h2 : 64 * (i / 64) + i % 64 = i := by omega
  rw [h2]; simp [h1]
theorem and_ne {x y : Nat} : x &&& y ≠ 0 ↔ ∃ k, x.testBit k = true ∧ y.testBit k = true := by
  constructor
  · intro h
    apply Classical.byContradiction
    intro hn
    apply h
    refine Nat.eq_of_testBit_eq (fun k => ?_)
    rw [Nat.testBit_and, Nat.zero_testBit]
    by_cases h1 : x.testBit k = true
    · by_cases h2 : y.testBit k = true
      · exact absurd ⟨k, h1, h2⟩ hn
      · simp at h2; simp [h2]
    · simp at h1; simp [h1]
  · rintro ⟨k, h1, h2⟩ h
    have := Nat.testBit_and x y k
    rw [h, Nat.zero_testBit, h1, h2] at this
    cases this
theorem wj_meets (F G : Nat → Bool) (j : Nat) : wj F j &&& wj G j ≠ 0 ↔ ∃ k, k < 64 ∧ F (64 * j + k) = true ∧ G (64 * j + k) = true := by
  rw [and_ne]
  constructor
  · rintro ⟨k, h1, h2⟩
    rw [wj_bit] at h1 h2
    simp at h1 h2
    exact ⟨k, h1.1, h1.2, h2.2⟩
  · rintro ⟨k, h0, h1, h2⟩
    exact ⟨k, by rw [wj_bit]; simp [h0, h1], by rw [wj_bit]; simp [h0, h2]⟩

/-- The lowest bit. -/
theorem low_bit {x : Nat} (h0 : x ≠ 0) (hx : x < 18446744073709551616) : Lib.ctz 64 x < 64 ∧ x.testBit (Lib.ctz 64 x) = true ∧ (∀ k, k < Lib.ctz 64 x → x.testBit k = false) ∧ ∀ k, (x &&& (x - 1)).testBit k = (x.testBit k && !decide (k = Lib.ctz 64 x)) := by
  obtain ⟨m, hm, hk⟩ := Lib.ctzFrom_spec 64 x (by omega) hx
  have e : Lib.ctz 64 x = Lib.ctzFrom 64 x := by simp [Lib.ctz, h0]
  rw [e]
  obtain ⟨t, ht⟩ : ∃ t, t = Lib.ctzFrom 64 x := ⟨_, rfl⟩
  rw [← ht] at hm hk ⊢
  have hp := Nat.two_pow_pos t
  have h2 : 2 ^ (t + 1) = 2 ^ t + 2 ^ t := by rw [Nat.pow_succ]; omega
  have e1 : x = 2 ^ (t + 1) * m + 2 ^ t := by
    have h3 : 2 ^ (t + 1) * m = 2 ^ t * (2 * m) := by rw [Nat.pow_succ, Nat.mul_assoc]
    rw [h3, hm, Nat.mul_add, Nat.mul_one]
  have b1 : ∀ k, x.testBit k = if k < t + 1 then decide (t = k) else m.testBit (k - (t + 1)) := fun k => by
    rw [e1, Nat.testBit_two_pow_mul_add m (by omega) k, Nat.testBit_two_pow]
  have e2 : x - 1 = 2 ^ (t + 1) * m + (2 ^ t - 1) := by omega
  have b2 : ∀ k, (x - 1).testBit k = if k < t + 1 then decide (k < t) else m.testBit (k - (t + 1)) := fun k => by
    rw [e2, Nat.testBit_two_pow_mul_add m (by omega) k, Nat.testBit_two_pow_sub_one]
  refine ⟨hk, by rw [b1, if_pos (by omega)]; simp, fun k h => by rw [b1, if_pos (by omega)]; simp; omega, fun k => ?_⟩
  rw [Nat.testBit_and, b1, b2]
  by_cases h : k < t + 1
  · rw [if_pos h, if_pos h]
    by_cases e : k = t
    · subst e; simp
    · have : ¬ t = k := fun h => e h.symm
      simp [this]
  · rw [if_neg h, if_neg h]
    have : ¬ k = t := by omega
    simp [this]

/-- The members, rising. -/
def idsN (F : Nat → Bool) (m : Nat) : List Nat := (List.range m).filter F
theorem idsN_le (F : Nat → Bool) (m : Nat) : (idsN F m).length ≤ m := by
  unfold idsN
  have := List.length_filter_le F (List.range m)
  simpa using this
theorem idsN_gap {F : Nat → Bool} {m : Nat} : ∀ d, (∀ k, k < d → F (m + k) = false) → idsN F (m + d) = idsN F m
  | 0, _ => rfl
  | d + 1, h => by
    have ih := idsN_gap d (fun k hk => h k (by omega))
    unfold idsN at *
    rw [← Nat.add_assoc, List.range_succ, List.filter_append, ih]
    simp [h d (by omega)]
theorem idsN_hit {F : Nat → Bool} {m : Nat} (h : F m = true) : idsN F (m + 1) = idsN F m ++ [m] := by
  unfold idsN
  rw [List.range_succ, List.filter_append]
  simp [h]
theorem mem_idsN {F : Nat → Bool} {m x : Nat} : x ∈ idsN F m ↔ x < m ∧ F x = true := by
  unfold idsN; simp
/-- One member more: x holds the bits of word j from t on. -/
theorem idsN_step {F : Nat → Bool} {j t x : Nat} (_ht : t ≤ 64) (hx : x < 18446744073709551616) (hb : ∀ k, x.testBit k = (decide (t ≤ k ∧ k < 64) && F (64 * j + k))) (h0 : x ≠ 0) :
    Lib.ctz 64 x < 64 ∧ t ≤ Lib.ctz 64 x ∧ idsN F (64 * j + (Lib.ctz 64 x + 1)) = idsN F (64 * j + t) ++ [64 * j + Lib.ctz 64 x] ∧ (∀ k, (x &&& (x - 1)).testBit k = (decide (Lib.ctz 64 x + 1 ≤ k ∧ k < 64) && F (64 * j + k))) := by
  obtain ⟨h1, h2, h3, h4⟩ := low_bit h0 hx
  obtain ⟨c, hc⟩ : ∃ c, c = Lib.ctz 64 x := ⟨_, rfl⟩
  rw [← hc] at h1 h2 h3 h4 ⊢
  rw [hb] at h2
  simp at h2
  refine ⟨h1, h2.1.1, ?_, fun k => ?_⟩
  · have hg : idsN F (64 * j + c) = idsN F (64 * j + t) := by
      have := idsN_gap (F := F) (m := 64 * j + t) (c - t) (fun k hk => by
        have h5 := h3 (t + k) (by omega)
        rw [hb] at h5
        simp at h5
        have := h5 (by omega)
        rw [Nat.add_assoc]; exact this)
      rw [show 64 * j + c = 64 * j + t + (c - t) by omega]; exact this
    rw [← Nat.add_assoc, idsN_hit h2.2, hg]
  · rw [h4, hb]
    by_cases e : k = c
    · subst e
      have : ¬ (k + 1 ≤ k ∧ k < 64) := by omega
      simp only [this, decide_false, Bool.false_and]; simp
    · by_cases hk : k < c
      · have h5 := h3 k hk
        rw [hb] at h5
        have : ¬ (c + 1 ≤ k ∧ k < 64) := by omega
        rw [h5]; simp [this]
      · by_cases h6 : k < 64
        · have e1 : t ≤ k ∧ k < 64 := by omega
          have e2 : c + 1 ≤ k ∧ k < 64 := by omega
          simp [e, e1, e2]
        · have e1 : ¬ (t ≤ k ∧ k < 64) := by omega
          have e2 : ¬ (c + 1 ≤ k ∧ k < 64) := by omega
          simp [e1, e2]
theorem idsN_end {F : Nat → Bool} {j t : Nat} (ht : t ≤ 64) (hb : ∀ k, (0 : Nat).testBit k = (decide (t ≤ k ∧ k < 64) && F (64 * j + k))) : idsN F (64 * (j + 1)) = idsN F (64 * j + t) := by
  rw [show 64 * (j + 1) = 64 * j + t + (64 - t) by omega]
  refine idsN_gap _ (fun k hk => ?_)
  have h5 := hb (t + k)
  rw [Nat.zero_testBit] at h5
  have e1 : t ≤ t + k ∧ t + k < 64 := by omega
  simp only [e1, decide_true, and_self, Bool.true_and] at h5
  rw [Nat.add_assoc]; exact h5.symm
end Pl
end Go.Proofs.YtfakdgljilmpkaaGreatDoor

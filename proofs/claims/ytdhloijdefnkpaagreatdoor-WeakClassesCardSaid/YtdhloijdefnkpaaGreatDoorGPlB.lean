/-
  Plain: sets of numbers below 320 as five words of 64 bits.
  Plain Lean, no program in sight: strictly sorted lists; the normal form of a list (sorted, each element once); it is the one strictly sorted list with the same members.
-/
import Derived.Lib.TrailingZeros
namespace Go.Proofs.YtdhloijdefnkpaaGreatDoor
namespace Pl

/-- The word whose bits are f. -/
def wd (f : Nat → Bool) : Nat → Nat
  | 0 => 0
  | n + 1 => wd f n ||| (if f n then 2 ^ n else 0)
theorem wd_lt (f : Nat → Bool) : ∀ n, wd f n < 2 ^ n
  | 0 => by simp [wd]
  | n + 1 => by
    have h1 := wd_lt f n
    have h2 : 2 ^ n < 2 ^ (n + 1) := by rw [Nat.pow_succ]; have := Nat.two_pow_pos n; omega
    unfold wd
    refine Nat.or_lt_two_pow (by omega) ?_
    split
    · exact h2
    · exact Nat.two_pow_pos _
theorem wd_bit (f : Nat → Bool) : ∀ n k, (wd f n).testBit k = (decide (k < n) && f k)
  | 0, k => by simp [wd]
  | n + 1, k => by
    unfold wd
    rw [Nat.testBit_or, wd_bit f n k]
    by_cases hf : f n = true
    · rw [if_pos hf, Nat.testBit_two_pow]
      by_cases e : n = k
      · subst e; simp [hf]
      · by_cases h : k < n
        · simp [h, e, show k < n + 1 by omega]
        · simp [h, e, show ¬ k < n + 1 by omega]
    · rw [if_neg hf, Nat.zero_testBit, Bool.or_false]
      by_cases e : n = k
      · subst e; simp at hf; simp [hf]
      · by_cases h : k < n
        · simp [h, show k < n + 1 by omega]
        · simp [h, show ¬ k < n + 1 by omega]

/-- Word j of a set. -/
def wj (F : Nat → Bool) (j : Nat) : Nat := wd (fun k => F (64 * j + k)) 64
theorem wj_lt (F : Nat → Bool) (j : Nat) : wj F j < 18446744073709551616 := wd_lt _ 64
theorem wj_bit (F : Nat → Bool) (j k : Nat) : (wj F j).testBit k = (decide (k < 64) && F (64 * j + k)) := wd_bit _ 64 k
theorem wj_ext {F G : Nat → Bool} {j : Nat} (h : ∀ k, k < 64 → F (64 * j + k) = G (64 * j + k)) : wj F j = wj G j := by
  refine Nat.eq_of_testBit_eq (fun k => ?_)
  rw [wj_bit, wj_bit]
  by_cases hk : k < 64
  · rw [h k hk]
  · simp [hk]
theorem wj_none (j : Nat) : wj (fun _ => false) j = 0 := by
  refine Nat.eq_of_testBit_eq (fun k => ?_)
  rw [wj_bit, Nat.zero_testBit]; simp

def putF (F : Nat → Bool) (i : Nat) (x : Nat) : Bool := F x || decide (x = i)
def dropF (F : Nat → Bool) (i : Nat) (x : Nat) : Bool := F x && !decide (x = i)
theorem wj_put (F : Nat → Bool) (i : Nat) : wj F (i / 64) ||| 2 ^ (i % 64) = wj (putF F i) (i / 64) := by
  refine Nat.eq_of_testBit_eq (fun k => ?_)
  rw [Nat.testBit_or, wj_bit, wj_bit, Nat.testBit_two_pow]
  unfold putF
  by_cases hk : k < 64
  · have : decide (i % 64 = k) = decide (64 * (i / 64) + k = i) := by
      by_cases e : i % 64 = k
      · have : 64 * (i / 64) + k = i := by omega
        simp [e, this]
      · have : ¬ 64 * (i / 64) + k = i := by omega
        simp [e, this]
    rw [this]; simp [hk]
  · have : ¬ i % 64 = k := by omega
    simp [hk, this]
theorem wj_put_ne (F : Nat → Bool) {i j : Nat} (h : j ≠ i / 64) : wj (putF F i) j = wj F j :=
  wj_ext (fun k hk => by unfold putF; have : ¬ 64 * j + k = i := by omega
                         simp [this])
theorem wj_drop (F : Nat → Bool) (i : Nat) : wj F (i / 64) &&& (18446744073709551615 - 2 ^ (i % 64)) = wj (dropF F i) (i / 64) := by
  have hp : 2 ^ (i % 64) < 2 ^ 64 := Nat.pow_lt_pow_right (by decide) (by omega)
  refine Nat.eq_of_testBit_eq (fun k => ?_)
  rw [Nat.testBit_and, wj_bit, wj_bit, show 18446744073709551615 - 2 ^ (i % 64) = 2 ^ 64 - (2 ^ (i % 64) + 1) by omega, Nat.testBit_two_pow_sub_succ hp, Nat.testBit_two_pow]
  unfold dropF
  by_cases hk : k < 64
  · have : decide (i % 64 = k) = decide (64 * (i / 64) + k = i) := by
      by_cases e : i % 64 = k
      · have : 64 * (i / 64) + k = i := by omega
        simp [e, this]
      · have : ¬ 64 * (i / 64) + k = i := by omega
        simp [e, this]
    rw [this]; simp [hk]
  · simp [hk]
theorem wj_drop_ne (F : Nat → Bool) {i j : Nat} (h : j ≠ i / 64) : wj (dropF F i) j = wj F j :=
  wj_ext (fun k hk => by unfold dropF; have : ¬ 64 * j + k = i := by omega
                         simp [this])
theorem bit_mod (x k : Nat) : (x >>> k) &&& 1 = if x.testBit k then 1 else 0 := by
  rw [Nat.and_one_is_mod]
  have h := Nat.testBit_shiftRight (i := k) (j := 0) x
  rw [Nat.add_zero] at h
  rw [← h, Nat.testBit_zero]
  rcases Nat.mod_two_eq_zero_or_one (x >>> k) with e | e <;> simp [e]
theorem wj_has (F : Nat → Bool) (i : Nat) : (wj F (i / 64) >>> (i % 64)) &&& 1 = if F i then 1 else 0 := by
  rw [bit_mod, wj_bit]
  have h1 : i % 64 < 64 := Nat.mod_lt _ (by decide)
  have h2 : 64 * (i / 64) + i % 64 = i := by omega
  rw [h2]; simp [h1]
theorem and_ne {x y : Nat} : x &&& y ≠ 0 ↔ ∃ k, x.testBit k = true ∧ y.testBit k = true := by
  constructor
  · intro h
    apply Classical.byContradiction
    intro hn
    apply h
    refine Nat.eq_of_testBit_eq (fun k => ?_)
    rw [Nat.testBit_and, Nat.zero_testBit]
    by_cases h1 : x.testBit k = true
    · by_cases h2 : y.testBit k = true
      · exact absurd ⟨k, h1, h2⟩ hn
      · simp at h2; simp [h2]
    · simp at h1; simp [h1]
  · rintro ⟨k, h1, h2⟩ h
    have := Nat.testBit_and x y k
    rw [h, Nat.zero_testBit, h1, h2] at this
    cases this
theorem wj_meets (F G : Nat → Bool) (j : Nat) : wj F j &&& wj G j ≠ 0 ↔ ∃ k, k < 64 ∧ F (64 * j + k) = true ∧ G (64 * j + k) = true := by
  rw [and_ne]
  constructor
  · rintro ⟨k, h1, h2⟩
    rw [wj_bit] at h1 h2
    simp at h1 h2
    exact ⟨k, h1.1, h1.2, h2.2⟩
  · rintro ⟨k, h0, h1, h2⟩
    exact ⟨k, by rw [wj_bit]; simp [h0, h1], by rw [wj_bit]; simp [h0, h2]⟩

/-- The lowest bit. -/
theorem low_bit {x : Nat} (h0 : x ≠ 0) (hx : x < 18446744073709551616) : Lib.ctz 64 x < 64 ∧ x.testBit (Lib.ctz 64 x) = true ∧ (∀ k, k < Lib.ctz 64 x → x.testBit k = false) ∧ ∀ k, (x &&& (x - 1)).testBit k = (x.testBit k && !decide (k = Lib.ctz 64 x)) := by
  obtain ⟨m, hm, hk⟩ := Lib.ctzFrom_spec 64 x (by omega) hx
  have e : Lib.ctz 64 x = Lib.ctzFrom 64 x := by simp [Lib.ctz, h0]
  rw [e]
  obtain ⟨t, ht⟩ : ∃ t, t = Lib.ctzFrom 64 x := ⟨_, rfl⟩
  rw [← ht] at hm hk ⊢
  have hp := Nat.two_pow_pos t
  have h2 : 2 ^ (t + 1) = 2 ^ t + 2 ^ t := by rw [Nat.pow_succ]; omega
  have e1 : x = 2 ^ (t + 1) * m + 2 ^ t := by
    have h3 : 2 ^ (t + 1) * m = 2 ^ t * (2 * m) := by rw [Nat.pow_succ, Nat.mul_assoc]
    rw [h3, hm, Nat.mul_add, Nat.mul_one]
  have b1 : ∀ k, x.testBit k = if k < t + 1 then decide (t = k) else m.testBit (k - (t + 1)) := fun k => by
    rw [e1, Nat.testBit_two_pow_mul_add m (by omega) k, Nat.testBit_two_pow]
  have e2 : x - 1 = 2 ^ (t + 1) * m + (2 ^ t - 1) := by omega
  have b2 : ∀ k, (x - 1).testBit k = if k < t + 1 then decide (k < t) else m.testBit (k - (t + 1)) := fun k => by
    rw [e2, Nat.testBit_two_pow_mul_add m (by omega) k, Nat.testBit_two_pow_sub_one]
  refine ⟨hk, by rw [b1, if_pos (by omega)]; simp, fun k h => by rw [b1, if_pos (by omega)]; simp; omega, fun k => ?_⟩
  rw [Nat.testBit_and, b1, b2]
  by_cases h : k < t + 1
  · rw [if_pos h, if_pos h]
    by_cases e : k = t
    · subst e; simp
    · have : ¬ t = k := fun h => e h.symm
      simp [this]
  · rw [if_neg h, if_neg h]
    have : ¬ k = t := by omega
    simp [this]

/-- The members, rising. -/
def idsN (F : Nat → Bool) (m : Nat) : List Nat := (List.range m).filter F
theorem idsN_le (F : Nat → Bool) (m : Nat) : (idsN F m).length ≤ m := by
  unfold idsN
  have := List.length_filter_le F (List.range m)
  simpa using this
theorem idsN_gap {F : Nat → Bool} {m : Nat} : ∀ d, (∀ k, k < d → F (m + k) = false) → idsN F (m + d) = idsN F m
  | 0, _ => rfl
  | d + 1, h => by
    have ih := idsN_gap d (fun k hk => h k (by omega))
    unfold idsN at *
    rw [← Nat.add_assoc, List.range_succ, List.filter_append, ih]
    simp [h d (by omega)]
theorem idsN_hit {F : Nat → Bool} {m : Nat} (h : F m = true) : idsN F (m + 1) = idsN F m ++ [m] := by
  unfold idsN
  rw [List.range_succ, List.filter_append]
  simp [h]
theorem mem_idsN {F : Nat → Bool} {m x : Nat} : x ∈ idsN F m ↔ x < m ∧ F x = true := by
  unfold idsN; simp
/-- One member more: x holds the bits of word j from t on. -/
theorem idsN_step {F : Nat → Bool} {j t x : Nat} (_ht : t ≤ 64) (hx : x < 18446744073709551616) (hb : ∀ k, x.testBit k = (decide (t ≤ k ∧ k < 64) && F (64 * j + k))) (h0 : x ≠ 0) :
    Lib.ctz 64 x < 64 ∧ t ≤ Lib.ctz 64 x ∧ idsN F (64 * j + (Lib.ctz 64 x + 1)) = idsN F (64 * j + t) ++ [64 * j + Lib.ctz 64 x] ∧ (∀ k, (x &&& (x - 1)).testBit k = (decide (Lib.ctz 64 x + 1 ≤ k ∧ k < 64) && F (64 * j + k))) := by
  obtain ⟨h1, h2, h3, h4⟩ := low_bit h0 hx
  obtain ⟨c, hc⟩ : ∃ c, c = Lib.ctz 64 x := ⟨_, rfl⟩
  rw [← hc] at h1 h2 h3 h4 ⊢
  rw [hb] at h2
  simp at h2
  refine ⟨h1, h2.1.1, ?_, fun k => ?_⟩
  · have hg : idsN F (64 * j + c) = idsN F (64 * j + t) := by
      have := idsN_gap (F := F) (m := 64 * j + t) (c - t) (fun k hk => by
        have h5 := h3 (t + k) (by omega)
        rw [hb] at h5
        simp at h5
        have := h5 (by omega)
        rw [Nat.add_assoc]; exact this)
      rw [show 64 * j + c = 64 * j + t + (c - t) by omega]; exact this
    rw [← Nat.add_assoc, idsN_hit h2.2, hg]
  · rw [h4, hb]
    by_cases e : k = c
    · subst e
      have : ¬ (k + 1 ≤ k ∧ k < 64) := by omega
      simp only [this, decide_false, Bool.false_and]; simp
    · by_cases hk : k < c
      · have h5 := h3 k hk
        rw [hb] at h5
        have : ¬ (c + 1 ≤ k ∧ k < 64) := by omega
        rw [h5]; simp [this]
      · by_cases h6 : k < 64
        · have e1 : t ≤ k ∧ k < 64 := by omega
          have e2 : c + 1 ≤ k ∧ k < 64 := by omega
          simp [e, e1, e2]
        · have e1 : ¬ (t ≤ k ∧ k < 64) := by omega
          have e2 : ¬ (c + 1 ≤ k ∧ k < 64) := by omega
          simp [e1, e2]
theorem idsN_end {F : Nat → Bool} {j t : Nat} (ht : t ≤ 64) (hb : ∀ k, (0 : Nat).testBit k = (decide (t ≤ k ∧ k < 64) && F (64 * j + k))) : idsN F (64 * (j + 1)) = idsN F (64 * j + t) := by
  rw [show 64 * (j + 1) = 64 * j + t + (64 - t) by omega]
  refine idsN_gap _ (fun k hk => ?_)
  have h5 := hb (t + k)
  rw [Nat.zero_testBit] at h5
  have e1 : t ≤ t + k ∧ t + k < 64 := by omega
  simp only [e1, decide_true, and_self, Bool.true_and] at h5
  rw [Nat.add_assoc]; exact h5.symm
end Pl
end Go.Proofs.YtdhloijdefnkpaaGreatDoor

namespace Go.Proofs.YtdhloijdefnkpaaGreatDoor
namespace Pl

/-- A strict total order, given as a Bool. -/
structure STO {α : Type} (lt : α → α → Bool) : Prop where
  irrefl : ∀ a, lt a a = false
  trans : ∀ a b c, lt a b = true → lt b c = true → lt a c = true
  total : ∀ a b, lt a b = true ∨ a = b ∨ lt b a = true

section
variable {α : Type} {lt : α → α → Bool}

def Srt (lt : α → α → Bool) (l : List α) : Prop := l.Pairwise (fun a b => lt a b = true)

def ins (lt : α → α → Bool) (e : α) : List α → List α
  | [] => [e]
  | x :: l => if lt e x then e :: x :: l else if lt x e then x :: ins lt e l else x :: l

def nf (lt : α → α → Bool) (l : List α) : List α := l.foldr (ins lt) []

theorem mem_ins (O : STO lt) (e y : α) : ∀ l, y ∈ ins lt e l ↔ y = e ∨ y ∈ l
  | [] => by simp [ins]
  | x :: l => by
    unfold ins
    split
    · simp
    · rename_i h1
      split
      · rename_i h2
        simp only [List.mem_cons, mem_ins O e y l]
        constructor <;> (intro h; rcases h with h | h | h <;> simp [h])
      · rename_i h2
        have : e = x := by rcases O.total e x with h | h | h <;> simp_all
        subst this
        simp

theorem srt_ins (O : STO lt) (e : α) : ∀ l, Srt lt l → Srt lt (ins lt e l)
  | [], _ => by simp [ins, Srt]
  | x :: l, h => by
    have hx := List.pairwise_cons.1 h
    unfold ins
    split
    · rename_i h1
      refine List.pairwise_cons.2 ⟨?_, h⟩
      intro a ha
      rcases List.mem_cons.1 ha with rfl | ha
      · exact h1
      · exact O.trans _ _ _ h1 (hx.1 a ha)
    · split
      · rename_i h2
        refine List.pairwise_cons.2 ⟨?_, srt_ins O e l hx.2⟩
        intro a ha
        rcases (mem_ins O e a l).1 ha with rfl | ha
        · exact h2
        · exact hx.1 a ha
      · exact h

theorem mem_nf (O : STO lt) (y : α) : ∀ l, y ∈ nf lt l ↔ y ∈ l
  | [] => by simp [nf]
  | x :: l => by
    have := mem_nf O y l
    simp only [nf, List.foldr_cons] at *
    rw [mem_ins O, this, List.mem_cons]

theorem srt_nf (O : STO lt) : ∀ l, Srt lt (nf lt l)
  | [] => by simp [nf, Srt]
  | x :: l => by
    have := srt_nf O l
    simp only [nf, List.foldr_cons] at *
    exact srt_ins O x _ this

theorem srt_ext (O : STO lt) : ∀ l1 l2, Srt lt l1 → Srt lt l2 → (∀ x, x ∈ l1 ↔ x ∈ l2) → l1 = l2
  | [], [], _, _, _ => rfl
  | [], y :: l2, _, _, h => absurd ((h y).2 (List.mem_cons_self)) (by simp)
  | x :: l1, [], _, _, h => absurd ((h x).1 (List.mem_cons_self)) (by simp)
  | x :: l1, y :: l2, h1, h2, h => by
    have a1 := List.pairwise_cons.1 h1
    have a2 := List.pairwise_cons.1 h2
    have hxy : x = y := by
      have p1 := (h x).1 (List.mem_cons_self)
      have p2 := (h y).2 (List.mem_cons_self)
      rcases List.mem_cons.1 p1 with e | m1
      · exact e
      rcases List.mem_cons.1 p2 with e | m2
      · exact e.symm
      have q1 := a2.1 x m1
      have q2 := a1.1 y m2
      have := O.trans _ _ _ q1 q2
      rw [O.irrefl] at this
      cases this
    subst hxy
    have : l1 = l2 := by
      refine srt_ext O l1 l2 a1.2 a2.2 fun z => ⟨fun hz => ?_, fun hz => ?_⟩
      · rcases List.mem_cons.1 ((h z).1 (List.mem_cons_of_mem _ hz)) with e | m
        · subst e
          have := a1.1 z hz
          rw [O.irrefl] at this; cases this
        · exact m
      · rcases List.mem_cons.1 ((h z).2 (List.mem_cons_of_mem _ hz)) with e | m
        · subst e
          have := a2.1 z hz
          rw [O.irrefl] at this; cases this
        · exact m
    rw [this]

theorem eq_nf (O : STO lt) {l l' : List α} (h : Srt lt l') (hm : ∀ x, x ∈ l' ↔ x ∈ l) : l' = nf lt l :=
  srt_ext O _ _ h (srt_nf O l) fun x => (hm x).trans (mem_nf O x l).symm

theorem nf_congr (O : STO lt) {l l' : List α} (hm : ∀ x, x ∈ l' ↔ x ∈ l) : nf lt l' = nf lt l :=
  eq_nf O (srt_nf O l') fun x => (mem_nf O x l').trans (hm x)

theorem nf_of_srt (O : STO lt) {l : List α} (h : Srt lt l) : nf lt l = l := (eq_nf O h fun _ => Iff.rfl).symm

theorem nf_nf (O : STO lt) (l : List α) : nf lt (nf lt l) = nf lt l := nf_of_srt O (srt_nf O l)

theorem length_ins (e : α) : ∀ l, (ins lt e l).length ≤ l.length + 1
  | [] => by simp [ins]
  | x :: l => by
    have := length_ins e l
    unfold ins; split
    · simp
    · split <;> simp <;> omega

theorem length_nf : ∀ l : List α, (nf lt l).length ≤ l.length
  | [] => by simp [nf]
  | x :: l => by
    have := length_nf l
    simp only [nf, List.foldr_cons] at *
    have := length_ins (lt := lt) x (List.foldr (ins lt) [] l)
    simp only [List.length_cons]; omega

/-- Each element once, of a list that is sorted with repeats: what goes through 'compact'. -/
def cmpt [DecidableEq α] : List α → List α
  | [] => []
  | [x] => [x]
  | x :: y :: l => if x = y then cmpt (y :: l) else x :: cmpt (y :: l)

theorem mem_cmpt [DecidableEq α] (z : α) : ∀ l : List α, z ∈ cmpt l ↔ z ∈ l
  | [] => by simp [cmpt]
  | [x] => by simp [cmpt]
  | x :: y :: l => by
    have := mem_cmpt z (y :: l)
    unfold cmpt
    split
    · rename_i h; subst h; rw [this]; simp
    · rw [List.mem_cons, this, List.mem_cons]; simp

/-- sorted with repeats -/
def Wk (lt : α → α → Bool) (l : List α) : Prop := l.Pairwise (fun a b => lt b a = false)

theorem srt_cmpt [DecidableEq α] (O : STO lt) : ∀ l : List α, Wk lt l → Srt lt (cmpt l)
  | [], _ => by simp [cmpt, Srt]
  | [x], _ => by simp [cmpt, Srt]
  | x :: y :: l, h => by
    have hx := List.pairwise_cons.1 h
    have ih := srt_cmpt O (y :: l) hx.2
    unfold cmpt
    split
    · exact ih
    · rename_i hne
      refine List.pairwise_cons.2 ⟨?_, ih⟩
      intro a ha
      have ha' := (mem_cmpt a (y :: l)).1 ha
      have hlt : lt x y = true := by
        have := hx.1 y (List.mem_cons_self)
        rcases O.total x y with e | e | e
        · exact e
        · exact absurd e hne
        · rw [this] at e; cases e
      rcases List.mem_cons.1 ha' with rfl | hm
      · exact hlt
      · have h2 := (List.pairwise_cons.1 hx.2).1 a hm
        rcases O.total y a with e | e | e
        · exact O.trans _ _ _ hlt e
        · subst e; exact hlt
        · rw [h2] at e; cases e

theorem cmpt_eq_nf [DecidableEq α] (O : STO lt) {l l' : List α} (h : Wk lt l') (hm : ∀ x, x ∈ l' ↔ x ∈ l) : cmpt l' = nf lt l :=
  eq_nf O (srt_cmpt O l' h) fun x => (mem_cmpt x l').trans (hm x)

end

/-- An edge: from, label, to. -/
abbrev E := Int × Int × Int
/-- A step: label, to. -/
abbrev S := Int × Int

def ltE (a b : E) : Bool := decide (a.1 < b.1) || (decide (a.1 = b.1) && (decide (a.2.1 < b.2.1) || (decide (a.2.1 = b.2.1) && decide (a.2.2 < b.2.2))))
def ltS (a b : S) : Bool := decide (a.1 < b.1) || (decide (a.1 = b.1) && decide (a.2 < b.2))

theorem ltE_iff (a b : E) : ltE a b = true ↔ a.1 < b.1 ∨ (a.1 = b.1 ∧ (a.2.1 < b.2.1 ∨ (a.2.1 = b.2.1 ∧ a.2.2 < b.2.2))) := by
  simp [ltE]
theorem ltS_iff (a b : S) : ltS a b = true ↔ a.1 < b.1 ∨ (a.1 = b.1 ∧ a.2 < b.2) := by
  simp [ltS]

theorem stoE : STO ltE where
  irrefl a := by rw [Bool.eq_false_iff]; intro h; rw [ltE_iff] at h; omega
  trans a b c h1 h2 := by rw [ltE_iff] at *; omega
  total a b := by
    rw [ltE_iff, ltE_iff]
    obtain ⟨a1, a2, a3⟩ := a; obtain ⟨b1, b2, b3⟩ := b
    simp only [Prod.mk.injEq]; omega
theorem stoS : STO ltS where
  irrefl a := by rw [Bool.eq_false_iff]; intro h; rw [ltS_iff] at h; omega
  trans a b c h1 h2 := by rw [ltS_iff] at *; omega
  total a b := by
    rw [ltS_iff, ltS_iff]
    obtain ⟨a1, a2⟩ := a; obtain ⟨b1, b2⟩ := b
    simp only [Prod.mk.injEq]; omega

end Pl
end Go.Proofs.YtdhloijdefnkpaaGreatDoor

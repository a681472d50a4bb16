/-
  Plain: sets of numbers below 320 as five words of 64 bits.
  Plain: which states are reachable; a walk over a list that grows.
  Plain: the one form of a list of class numbers.
-/
import Derived.Lib.TrailingZeros
import Derived.Test.YtfakdgljilmpkaaGreatDoorG0
namespace Go.Proofs.YtfakdgljilmpkaaGreatDoor
namespace Pl

/-- The word whose bits are f. -/
def wd (f : Nat → Bool) : Nat → Nat
  | 0 => 0
  | n + 1 => wd f n ||| (if f n then 2 ^ n else 0)
theorem wd_lt (f : Nat → Bool) : ∀ n, wd f n < 2 ^ n
  | 0 => by simp [wd]
  | n + 1 => by
    have h1 := wd_lt f n
    have h2 : 2 ^ n < 2 ^ (n + 1) := by rw [Nat.pow_succ]; have := Nat.two_pow_pos n; omega
    unfold wd
    refine Nat.or_lt_two_pow (by omega) ?_
    split
    · exact h2
    · exact Nat.two_pow_pos _
theorem wd_bit (f : Nat → Bool) : ∀ n k, (wd f n).testBit k = (decide (k < n) && f k)
  | 0, k => by simp [wd]
  | n + 1, k => by
    unfold wd
    rw [Nat.testBit_or, wd_bit f n k]
    by_cases hf : f n = true
    · rw [if_pos hf, Nat.testBit_two_pow]
      by_cases e : n = k
      · subst e; simp [hf]
      · by_cases h : k < n
        · simp [h, e, show k < n + 1 by omega]
        · simp [h, e, show ¬ k < n + 1 by omega]
    · rw [if_neg hf, Nat.zero_testBit, Bool.or_false]
      by_cases e : n = k
      · subst e; simp at hf; simp [hf]
      · by_cases h : k < n
        · simp [h, show k < n + 1 by omega]
        · simp [h, show ¬ k < n + 1 by omega]

/-- Word j of a set. -/
def wj (F : Nat → Bool) (j : Nat) : Nat := wd (fun k => F (64 * j + k)) 64
theorem wj_lt (F : Nat → Bool) (j : Nat) : wj F j < 18446744073709551616 := wd_lt _ 64
theorem wj_bit (F : Nat → Bool) (j k : Nat) : (wj F j).testBit k = (decide (k < 64) && F (64 * j + k)) := wd_bit _ 64 k
theorem wj_ext {F G : Nat → Bool} {j : Nat} (h : ∀ k, k < 64 → F (64 * j + k) = G (64 * j + k)) : wj F j = wj G j := by
  refine Nat.eq_of_testBit_eq (fun k => ?_)
  rw [wj_bit, wj_bit]
  by_cases hk : k < 64
  · rw [h k hk]
  · simp [hk]
theorem wj_none (j : Nat) : wj (fun _ => false) j = 0 := by
  refine Nat.eq_of_testBit_eq (fun k => ?_)
  rw [wj_bit, Nat.zero_testBit]; simp

def putF (F : Nat → Bool) (i : Nat) (x : Nat) : Bool := F x || decide (x = i)
def dropF (F : Nat → Bool) (i : Nat) (x : Nat) : Bool := F x && !decide (x = i)
theorem wj_put (F : Nat → Bool) (i : Nat) : wj F (i / 64) ||| 2 ^ (i % 64) = wj (putF F i) (i / 64) := by
  refine Nat.eq_of_testBit_eq (fun k => ?_)
  rw [Nat.testBit_or, wj_bit, wj_bit, Nat.testBit_two_pow]
  unfold putF
  by_cases hk : k < 64
  · have : decide (i % 64 = k) = decide (64 * (i / 64) + k = i) := by
      by_cases e : i % 64 = k
      · have : 64 * (i / 64) + k = i := by omega
        simp [e, this]
      · have : ¬ 64 * (i / 64) + k = i := by omega
        simp [e, this]
    rw [this]; simp [hk]
  · have : ¬ i % 64 = k := by omega
    simp [hk, this]
theorem wj_put_ne (F : Nat → Bool) {i j : Nat} (h : j ≠ i / 64) : wj (putF F i) j = wj F j :=
  wj_ext (fun k hk => by unfold putF; have : ¬ 64 * j + k = i := by omega
                         simp [this])
theorem wj_drop (F : Nat → Bool) (i : Nat) : wj F (i / 64) &&& (18446744073709551615 - 2 ^ (i % 64)) = wj (dropF F i) (i / 64) := by
  have hp : 2 ^ (i % 64) < 2 ^ 64 := Nat.pow_lt_pow_right (by decide) (by omega)
  refine Nat.eq_of_testBit_eq (fun k => ?_)
  rw [Nat.testBit_and, wj_bit, wj_bit, show 18446744073709551615 - 2 ^ (i % 64) = 2 ^ 64 - (2 ^ (i % 64) + 1) by omega, Nat.testBit_two_pow_sub_succ hp, Nat.testBit_two_pow]
  unfold dropF
  by_cases hk : k < 64
  · have : decide (i % 64 = k) = decide (64 * (i / 64) + k = i) := by
      by_cases e : i % 64 = k
      · have : 64 * (i / 64) + k = i := by omega
        simp [e, this]
      · have : ¬ 64 * (i / 64) + k = i := by omega
        simp [e, this]
    rw [this]; simp [hk]
  · simp [hk]
theorem wj_drop_ne (F : Nat → Bool) {i j : Nat} (h : j ≠ i / 64) : wj (dropF F i) j = wj F j :=
  wj_ext (fun k hk => by unfold dropF; have : ¬ 64 * j + k = i := by omega
                         simp [this])
theorem bit_mod (x k : Nat) : (x >>> k) &&& 1 = if x.testBit k then 1 else 0 := by
  rw [Nat.and_one_is_mod]
  have h := Nat.testBit_shiftRight (i := k) (j := 0) x
  rw [Nat.add_zero] at h
  rw [← h, Nat.testBit_zero]
  rcases Nat.mod_two_eq_zero_or_one (x >>> k) with e | e <;> simp [e]
theorem wj_has (F : Nat → Bool) (i : Nat) : (wj F (i / 64) >>> (i % 64)) &&& 1 = if F i then 1 else 0 := by
  rw [bit_mod, wj_bit]
  have h1 : i % 64 < 64 := Nat.mod_lt _ (by decide)
  have h2 : 64 * (i / 64) + i % 64 = i := by omega
  rw [h2]; simp [h1]
theorem and_ne {x y : Nat} : x &&& y ≠ 0 ↔ ∃ k, x.testBit k = true ∧ y.testBit k = true := by
  constructor
  · intro h
    apply Classical.byContradiction
    intro hn
    apply h
    refine Nat.eq_of_testBit_eq (fun k => ?_)
    rw [Nat.testBit_and, Nat.zero_testBit]
    by_cases h1 : x.testBit k = true
    · by_cases h2 : y.testBit k = true
      · exact absurd ⟨k, h1, h2⟩ hn
      · simp at h2; simp [h2]
    · simp at h1; simp [h1]
  · rintro ⟨k, h1, h2⟩ h
    have := Nat.testBit_and x y k
    rw [h, Nat.zero_testBit, h1, h2] at this
    cases this
theorem wj_meets (F G : Nat → Bool) (j : Nat) : wj F j &&& wj G j ≠ 0 ↔ ∃ k, k < 64 ∧ F (64 * j + k) = true ∧ G (64 * j + k) = true := by
  rw [and_ne]
  constructor
  · rintro ⟨k, h1, h2⟩
    rw [wj_bit] at h1 h2
    simp at h1 h2
    exact ⟨k, h1.1, h1.2, h2.2⟩
  · rintro ⟨k, h0, h1, h2⟩
    exact ⟨k, by rw [wj_bit]; simp [h0, h1], by rw [wj_bit]; simp [h0, h2]⟩

/-- The lowest bit. -/
theorem low_bit {x : Nat} (h0 : x ≠ 0) (hx : x < 18446744073709551616) : Lib.ctz 64 x < 64 ∧ x.testBit (Lib.ctz 64 x) = true ∧ (∀ k, k < Lib.ctz 64 x → x.testBit k = false) ∧ ∀ k, (x &&& (x - 1)).testBit k = (x.testBit k && !decide (k = Lib.ctz 64 x)) := by
  obtain ⟨m, hm, hk⟩ := Lib.ctzFrom_spec 64 x (by omega) hx
  have e : Lib.ctz 64 x = Lib.ctzFrom 64 x := by simp [Lib.ctz, h0]
  rw [e]
  obtain ⟨t, ht⟩ : ∃ t, t = Lib.ctzFrom 64 x := ⟨_, rfl⟩
  rw [← ht] at hm hk ⊢
  have hp := Nat.two_pow_pos t
  have h2 : 2 ^ (t + 1) = 2 ^ t + 2 ^ t := by rw [Nat.pow_succ]; omega
  have e1 : x = 2 ^ (t + 1) * m + 2 ^ t := by
    have h3 : 2 ^ (t + 1) * m = 2 ^ t * (2 * m) := by rw [Nat.pow_succ, Nat.mul_assoc]
    rw [h3, hm, Nat.mul_add, Nat.mul_one]
  have b1 : ∀ k, x.testBit k = if k < t + 1 then decide (t = k) else m.testBit (k - (t + 1)) := fun k => by
    rw [e1, Nat.testBit_two_pow_mul_add m (by omega) k, Nat.testBit_two_pow]
  have e2 : x - 1 = 2 ^ (t + 1) * m + (2 ^ t - 1) := by omega
  have b2 : ∀ k, (x - 1).testBit k = if k < t + 1 then decide (k < t) else m.testBit (k - (t + 1)) := fun k => by
    rw [e2, Nat.testBit_two_pow_mul_add m (by omega) k, Nat.testBit_two_pow_sub_one]
  refine ⟨hk, by rw [b1, if_pos (by omega)]; simp, fun k h => by rw [b1, if_pos (by omega)]; simp; omega, fun k => ?_⟩
  rw [Nat.testBit_and, b1, b2]
  by_cases h : k < t + 1
  · rw [if_pos h, if_pos h]
    by_cases e : k = t
    · subst e; simp
    · have : ¬ t = k := fun h => e h.symm
      simp [this]
  · rw [if_neg h, if_neg h]
    have : ¬ k = t := by omega
    simp [this]

/-- The members, rising. -/
def idsN (F : Nat → Bool) (m : Nat) : List Nat := (List.range m).filter F
theorem idsN_le (F : Nat → Bool) (m : Nat) : (idsN F m).length ≤ m := by
  unfold idsN
  have := List.length_filter_le F (List.range m)
  simpa using this
theorem idsN_gap {F : Nat → Bool} {m : Nat} : ∀ d, (∀ k, k < d → F (m + k) = false) → idsN F (m + d) = idsN F m
  | 0, _ => rfl
  | d + 1, h => by
    have ih := idsN_gap d (fun k hk => h k (by omega))
    unfold idsN at *
    rw [← Nat.add_assoc, List.range_succ, List.filter_append, ih]
    simp [h d (by omega)]
theorem idsN_hit {F : Nat → Bool} {m : Nat} (h : F m = true) : idsN F (m + 1) = idsN F m ++ [m] := by
  unfold idsN
  rw [List.range_succ, List.filter_append]
  simp [h]
theorem mem_idsN {F : Nat → Bool} {m x : Nat} : x ∈ idsN F m ↔ x < m ∧ F x = true := by
  unfold idsN; simp
/-- One member more: x holds the bits of word j from t on. -/
theorem idsN_step {F : Nat → Bool} {j t x : Nat} (_ht : t ≤ 64) (hx : x < 18446744073709551616) (hb : ∀ k, x.testBit k = (decide (t ≤ k ∧ k < 64) && F (64 * j + k))) (h0 : x ≠ 0) :
    Lib.ctz 64 x < 64 ∧ t ≤ Lib.ctz 64 x ∧ idsN F (64 * j + (Lib.ctz 64 x + 1)) = idsN F (64 * j + t) ++ [64 * j + Lib.ctz 64 x] ∧ (∀ k, (x &&& (x - 1)).testBit k = (decide (Lib.ctz 64 x + 1 ≤ k ∧ k < 64) && F (64 * j + k))) := by
  obtain ⟨h1, h2, h3, h4⟩ := low_bit h0 hx
  obtain ⟨c, hc⟩ : ∃ c, c = Lib.ctz 64 x := ⟨_, rfl⟩
  rw [← hc] at h1 h2 h3 h4 ⊢
  rw [hb] at h2
  simp at h2
  refine ⟨h1, h2.1.1, ?_, fun k => ?_⟩
  · have hg : idsN F (64 * j + c) = idsN F (64 * j + t) := by
      have := idsN_gap (F := F) (m := 64 * j + t) (c - t) (fun k hk => by
        have h5 := h3 (t + k) (by omega)
        rw [hb] at h5
        simp at h5
        have := h5 (by omega)
        rw [Nat.add_assoc]; exact this)
      rw [show 64 * j + c = 64 * j + t + (c - t) by omega]; exact this
    rw [← Nat.add_assoc, idsN_hit h2.2, hg]
  · rw [h4, hb]
    by_cases e : k = c
    · subst e
      have : ¬ (k + 1 ≤ k ∧ k < 64) := by omega
      simp only [this, decide_false, Bool.false_and]; simp
    · by_cases hk : k < c
      · have h5 := h3 k hk
        rw [hb] at h5
        have : ¬ (c + 1 ≤ k ∧ k < 64) := by omega
        rw [h5]; simp [this]
      · by_cases h6 : k < 64
        · have e1 : t ≤ k ∧ k < 64 := by omega
          have e2 : c + 1 ≤ k ∧ k < 64 := by omega
          simp [e, e1, e2]
        · have e1 : ¬ (t ≤ k ∧ k < 64) := by omega
          have e2 : ¬ (c + 1 ≤ k ∧ k < 64) := by omega
          simp [e1, e2]
theorem idsN_end {F : Nat → Bool} {j t : Nat} (ht : t ≤ 64) (hb : ∀ k, (0 : Nat).testBit k = (decide (t ≤ k ∧ k < 64) && F (64 * j + k))) : idsN F (64 * (j + 1)) = idsN F (64 * j + t) := by
  rw [show 64 * (j + 1) = 64 * j + t + (64 - t) by omega]
  refine idsN_gap _ (fun k hk => ?_)
  have h5 := hb (t + k)
  rw [Nat.zero_testBit] at h5
  have e1 : t ≤ t + k ∧ t + k < 64 := by omega
  simp only [e1, decide_true, and_self, Bool.true_and] at h5
  rw [Nat.add_assoc]; exact h5.symm
end Pl
end Go.Proofs.YtfakdgljilmpkaaGreatDoor

namespace Go.Proofs.YtfakdgljilmpkaaGreatDoor
namespace Pl

def ltI (a b : Int) : Bool := decide (a < b)
theorem stoI : STO ltI where
  irrefl a := by simp [ltI]
  trans a b c h1 h2 := by simp [ltI] at *; omega
  total a b := by simp [ltI]; omega

/-- x is reached from the start. -/
def Rch (s : Lts) (x : Int) : Prop := ∀ P : Int → Prop, P s.s0 → (∀ a l b, P a → (a, l, b) ∈ s.es → P b) → P x
theorem Rch.start (s : Lts) : Rch s s.s0 := fun _ h _ => h
theorem Rch.step {s : Lts} {a l b : Int} (h : Rch s a) (he : (a, l, b) ∈ s.es) : Rch s b := fun P h0 h1 => h1 a l b (h P h0 h1) he

theorem nodup_len {L : List Int} {n : Nat} (h : L.Nodup) (hr : ∀ x ∈ L, 0 ≤ x ∧ x < (n : Int)) : L.length ≤ n := by
  have : L ⊆ (List.range n).map Int.ofNat := by
    intro x hx
    have := hr x hx
    rw [List.mem_map]
    exact ⟨x.toNat, by rw [List.mem_range]; omega, by simp; omega⟩
  have := List.Nodup.length_le_of_subset h this
  simpa using this

/-- The states found, the first i of them looked over. -/
structure Bfs (s : Lts) (L : List Int) (i : Nat) : Prop where
  nd : L.Nodup
  rng : ∀ x ∈ L, 0 ≤ x ∧ x < s.st
  rch : ∀ x ∈ L, Rch s x
  s0 : s.s0 ∈ L
  done : ∀ k x, k < i → L[k]? = some x → ∀ y ∈ s.outs x, y.2 ∈ L

theorem Bfs.start {s : Lts} (h : s.Right) (h0 : s.st ≠ 0) : Bfs s [s.s0] 0 where
  nd := by simp
  rng x hx := by have := h.st0; simp at hx; subst hx; omega
  rch x hx := by simp at hx; subst hx; exact Rch.start s
  s0 := by simp
  done k x hk := by omega

theorem Bfs.len {s : Lts} {L : List Int} {i : Nat} (h : Bfs s L i) : L.length ≤ s.st.toNat :=
  nodup_len h.nd (fun x hx => by have := h.rng x hx; omega)

theorem Bfs.push {s : Lts} (hr : s.Right) {L : List Int} {i : Nat} {x : Int} {y : S} (h : Bfs s L i) (hx : L[i]? = some x) (hy : y ∈ s.outs x) (hn : y.2 ∉ L) : Bfs s (L ++ [y.2]) i where
  nd := by rw [List.nodup_append]; exact ⟨h.nd, by simp, by intro a ha b hb; simp at hb; subst hb; intro e; subst e; exact hn ha⟩
  rng z hz := by
    rcases List.mem_append.1 hz with h1 | h1
    · exact h.rng z h1
    · simp at h1; subst h1
      have := offB_false.1 (hr.edges _ (mem_outs.1 hy))
      exact ⟨this.2.2.2.2.1, this.2.2.2.2.2⟩
  rch z hz := by
    rcases List.mem_append.1 hz with h1 | h1
    · exact h.rch z h1
    · simp at h1; subst h1; exact (h.rch x (List.mem_of_getElem? hx)).step (mem_outs.1 hy)
  s0 := List.mem_append_left _ h.s0
  done k z hk hz w hw := by
    have hlt : k < L.length := by have := (List.getElem?_eq_some_iff.1 hx).1; omega
    rw [List.getElem?_append_left hlt] at hz
    exact List.mem_append_left _ (h.done k z hk hz w hw)

theorem Bfs.next {s : Lts} {L : List Int} {i : Nat} {x : Int} (h : Bfs s L i) (hx : L[i]? = some x) (ha : ∀ y ∈ s.outs x, y.2 ∈ L) : Bfs s L (i + 1) where
  nd := h.nd
  rng := h.rng
  rch := h.rch
  s0 := h.s0
  done k z hk hz := by
    by_cases hki : k = i
    · subst hki; rw [hx] at hz; simp at hz; subst hz; exact ha
    · exact h.done k z (by omega) hz

theorem Bfs.all {s : Lts} {L : List Int} (h : Bfs s L L.length) (x : Int) : x ∈ L ↔ Rch s x := by
  refine ⟨h.rch x, fun hr => hr (· ∈ L) h.s0 ?_⟩
  intro a l b ha he
  obtain ⟨k, hk, rfl⟩ := List.getElem_of_mem ha
  exact h.done k _ hk (List.getElem?_eq_getElem hk) (l, b) (mem_outs.2 he)

open Classical in
/-- The reachable states, rising. -/
noncomputable def reachL (s : Lts) : List Int := ((List.range s.st.toNat).map Int.ofNat).filter (fun x => decide (Rch s x))

theorem Rch.rng {s : Lts} (h : s.Right) (h0 : s.st ≠ 0) {x : Int} (hx : Rch s x) : 0 ≤ x ∧ x < s.st := by
  have := h.st0
  refine hx (fun x => 0 ≤ x ∧ x < s.st) (by omega) ?_
  intro a l b _ he
  have := offB_false.1 (h.edges _ he)
  exact ⟨this.2.2.2.2.1, this.2.2.2.2.2⟩

theorem mem_reachL {s : Lts} (h : s.Right) (h0 : s.st ≠ 0) {x : Int} : x ∈ reachL s ↔ Rch s x := by
  unfold reachL
  simp only [List.mem_filter, List.mem_map, List.mem_range, decide_eq_true_eq]
  constructor
  · rintro ⟨_, h⟩; exact h
  · intro hx
    have := hx.rng h h0
    exact ⟨⟨x.toNat, by omega, by simp; omega⟩, hx⟩

theorem reachL_srt (s : Lts) : Srt ltI (reachL s) := by
  classical
  refine List.Pairwise.filter _ ?_
  rw [List.pairwise_map]
  refine List.pairwise_lt_range.imp (fun {a b} h => ?_)
  simp [ltI]; omega

theorem reachL_nil {s : Lts} (h0 : s.st = 0) : reachL s = [] := by unfold reachL; rw [h0]; rfl

/-- A list that was sorted, of no repeats: the reachable states. -/
theorem reach_of {s : Lts} (h : s.Right) (h0 : s.st ≠ 0) {L : List Int} (hb : Bfs s L L.length) : L.mergeSort (fun x y => decide (x ≤ y)) = reachL s := by
  have hp := List.mergeSort_perm L (fun x y => decide (x ≤ y))
  refine srt_ext stoI _ _ ?_ (reachL_srt s) (fun x => ?_)
  · have hs := List.pairwise_mergeSort (le := fun (x y : Int) => decide (x ≤ y)) (fun a b c h1 h2 => by simp at *; omega) (fun a b => by simp; omega) L
    have hnd := hp.nodup_iff.2 hb.nd
    exact List.Pairwise.imp₂ (fun a b h1 h2 => by simp [ltI] at *; omega) hs hnd
  · rw [hp.mem_iff, hb.all, mem_reachL h h0]

theorem reachL_len {s : Lts} : (reachL s).length ≤ s.st.toNat := by
  unfold reachL
  refine Nat.le_trans (List.length_filter_le _ _) (by simp)

end Pl
end Go.Proofs.YtfakdgljilmpkaaGreatDoor

namespace Go.Proofs.YtfakdgljilmpkaaGreatDoor
namespace Pl

/-- What a list holds, each once, in the order in which it comes first. -/
def addN (s : List Int) (x : Int) : List Int := if x ∈ s then s else s ++ [x]
def dist (l : List Int) : List Int := l.foldl addN []

theorem dist_snoc (l : List Int) (x : Int) : dist (l ++ [x]) = addN (dist l) x := by simp [dist, List.foldl_append]

theorem mem_addN {s : List Int} {x y : Int} : y ∈ addN s x ↔ y ∈ s ∨ y = x := by
  unfold addN; split
  · constructor
    · exact Or.inl
    · rintro (h | rfl)
      · exact h
      · assumption
  · simp

theorem rev_ind {P : List Int → Prop} (h0 : P []) (h1 : ∀ l x, P l → P (l ++ [x])) (l : List Int) : P l := by
  have : ∀ m : List Int, P m.reverse := by
    intro m
    induction m with
    | nil => exact h0
    | cons x m ih => rw [List.reverse_cons]; exact h1 _ _ ih
  simpa using this l.reverse

theorem mem_dist {x : Int} (l : List Int) : x ∈ dist l ↔ x ∈ l := by
  induction l using rev_ind with
  | h0 => simp [dist]
  | h1 l y ih => rw [dist_snoc, mem_addN, ih]; simp

theorem nodup_dist (l : List Int) : (dist l).Nodup := by
  induction l using rev_ind with
  | h0 => simp [dist]
  | h1 l y ih =>
    rw [dist_snoc]; unfold addN; split
    · exact ih
    · rw [List.nodup_append]; exact ⟨ih, by simp, by intro a ha b hb e; simp at hb; subst hb; subst e; contradiction⟩

theorem dist_len (l : List Int) : (dist l).length ≤ l.length := by
  induction l using rev_ind with
  | h0 => simp [dist]
  | h1 l y ih => rw [dist_snoc]; unfold addN; split <;> simp <;> omega

/-- A longer list: no place turns. -/
theorem idx_addN {s : List Int} {x y : Int} (h : y ∈ s) : (addN s x).idxOf y = s.idxOf y := by
  unfold addN; split
  · rfl
  · rw [List.idxOf_append]; simp [h]
theorem idx_new {s : List Int} {x : Int} (h : x ∉ s) : (addN s x).idxOf x = s.length := by
  unfold addN; rw [if_neg h, List.idxOf_append]; simp [h]

theorem idx_append (l m : List Int) {y : Int} (h : y ∈ l) : (dist (l ++ m)).idxOf y = (dist l).idxOf y := by
  induction m using rev_ind with
  | h0 => simp
  | h1 m x ih => rw [← List.append_assoc, dist_snoc, idx_addN ((mem_dist _).2 (by simp [h])), ih]

def canon (l : List Int) : List Int := l.map (fun x => ((dist l).idxOf x : Int))

theorem canon_len (l : List Int) : (canon l).length = l.length := by simp [canon]

theorem canon_get (l : List Int) (i : Nat) : (canon l)[i]? = l[i]?.map (fun x => ((dist l).idxOf x : Int)) := by simp [canon]

theorem idx_inj {l : List Int} {x y : Int} (hx : x ∈ l) (hy : y ∈ l) (h : l.idxOf x = l.idxOf y) : x = y := by
  have h1 := List.getElem_idxOf (List.idxOf_lt_length_of_mem hx)
  have h2 := List.getElem_idxOf (List.idxOf_lt_length_of_mem hy)
  rw [← h1, ← h2]
  congr 1

theorem addN_map {f : Int → Int} {s : List Int} {x : Int} (hf : ∀ y ∈ s, f y = f x → y = x) : addN (s.map f) (f x) = (addN s x).map f := by
  unfold addN
  by_cases h : x ∈ s
  · rw [if_pos h, if_pos (List.mem_map_of_mem h)]
  · rw [if_neg h, if_neg]
    · simp
    · intro hm; obtain ⟨y, hy, e⟩ := List.mem_map.1 hm; exact h (hf y hy e ▸ hy)

theorem dist_map {f : Int → Int} (l : List Int) (hf : ∀ x ∈ l, ∀ y ∈ l, f x = f y → x = y) : dist (l.map f) = (dist l).map f := by
  induction l using rev_ind with
  | h0 => simp [dist]
  | h1 l y ih =>
    rw [List.map_append, List.map_cons, List.map_nil, dist_snoc, ih (fun a ha b hb => hf a (by simp [ha]) b (by simp [hb])), dist_snoc]
    exact addN_map (fun z hz => hf z (by simp [(mem_dist l).1 hz]) y (by simp))

theorem idx_map {f : Int → Int} {x : Int} : ∀ l : List Int, (∀ y ∈ l, f y = f x → y = x) → (l.map f).idxOf (f x) = l.idxOf x
  | [], _ => rfl
  | y :: l, h => by
    have ih := idx_map l (fun z hz => h z (by simp [hz]))
    rw [List.map_cons, List.idxOf_cons, List.idxOf_cons]
    by_cases e : y = x
    · subst e; simp
    · have : ¬ f y = f x := fun e2 => e (h y (by simp) e2)
      simp only [beq_iff_eq, e, this, if_false, ih, cond_eq_ite]

theorem canon_map {f : Int → Int} {l : List Int} (hf : ∀ x ∈ l, ∀ y ∈ l, f x = f y → x = y) : canon (l.map f) = canon l := by
  unfold canon
  rw [List.map_map, dist_map l hf]
  apply List.map_congr_left
  intro x hx
  simp only [Function.comp]
  rw [idx_map _ (fun y hy => hf y ((mem_dist l).1 hy) x hx)]

theorem canon_canon (l : List Int) : canon (canon l) = canon l := by
  conv => lhs; arg 1; unfold canon
  exact canon_map (fun x hx y hy h => idx_inj ((mem_dist l).2 hx) ((mem_dist l).2 hy) (Int.ofNat.inj h))

theorem canon_eq_iff {l : List Int} {i k : Nat} {x y : Int} (hx : l[i]? = some x) (hy : l[k]? = some y) : ((dist l).idxOf x : Int) = ((dist l).idxOf y : Int) ↔ x = y := by
  constructor
  · intro h; exact idx_inj ((mem_dist l).2 (List.mem_of_getElem? hx)) ((mem_dist l).2 (List.mem_of_getElem? hy)) (Int.ofNat.inj h)
  · rintro rfl; rfl

/-- Do two lists say the same together? -/
def SameT (a b : List Int) : Prop := ∀ (i k : Nat) (x y x' y' : Int), k < i → a[i]? = some x → a[k]? = some y → b[i]? = some x' → b[k]? = some y' → (x = y ↔ x' = y')

theorem sameT_canon {a b : List Int} (hl : a.length = b.length) : canon a = canon b ↔ SameT a b := by
  constructor
  · intro h i k x y x' y' _ hx hy hx' hy'
    have e1 := congrArg (fun l => l[i]?) h
    have e2 := congrArg (fun l => l[k]?) h
    simp only [canon_get, hx, hy, hx', hy', Option.map_some, Option.some.injEq] at e1 e2
    rw [← canon_eq_iff hx hy, ← canon_eq_iff hx' hy', e1, e2]
  · intro h
    have hs : ∀ (i k : Nat) (x y x' y' : Int), a[i]? = some x → a[k]? = some y → b[i]? = some x' → b[k]? = some y' → (x = y ↔ x' = y') := by
      intro i k x y x' y' hx hy hx' hy'
      rcases Nat.lt_trichotomy k i with hlt | rfl | hlt
      · exact h i k x y x' y' hlt hx hy hx' hy'
      · rw [hx] at hy; rw [hx'] at hy'; simp at hy hy'; simp [hy, hy']
      · have := h k i y x y' x' hlt hy hx hy' hx'
        rw [eq_comm, this, eq_comm]
    have hb : b = a.map (fun x => b.getD (a.idxOf x) 0) := by
      apply List.ext_getElem?
      intro i
      by_cases hi : i < a.length
      · have hx := List.getElem?_eq_getElem hi
        have hx' := List.getElem?_eq_getElem (show i < b.length by omega)
        have hm : a[i] ∈ a := List.getElem_mem hi
        have hlt := List.idxOf_lt_length_of_mem hm
        have hj : a[a.idxOf a[i]]? = some a[i] := by rw [List.getElem?_eq_getElem hlt, List.getElem_idxOf hlt]
        have hj' := List.getElem?_eq_getElem (show a.idxOf a[i] < b.length by omega)
        rw [List.getElem?_map, hx, hx']
        simp only [Option.map_some, Option.some.injEq]
        rw [List.getD_eq_getElem?_getD, hj']
        simpa using (hs i _ _ _ _ _ hx hj hx' hj').1 rfl
      · rw [List.getElem?_eq_none (by omega), List.getElem?_eq_none (by simp; omega)]
    rw [hb]
    refine (canon_map ?_).symm
    intro x hx y hy he
    obtain ⟨i, hi, rfl⟩ := List.getElem_of_mem hx
    obtain ⟨k, hk, rfl⟩ := List.getElem_of_mem hy
    have hm1 := List.idxOf_lt_length_of_mem hx
    have hm2 := List.idxOf_lt_length_of_mem hy
    have hj1 : a[a.idxOf a[i]]? = some a[i] := by rw [List.getElem?_eq_getElem hm1, List.getElem_idxOf hm1]
    have hj2 : a[a.idxOf a[k]]? = some a[k] := by rw [List.getElem?_eq_getElem hm2, List.getElem_idxOf hm2]
    rw [List.getD_eq_getElem?_getD, List.getD_eq_getElem?_getD, List.getElem?_eq_getElem (show a.idxOf a[i] < b.length by omega), List.getElem?_eq_getElem (show a.idxOf a[k] < b.length by omega)] at he
    exact (hs _ _ _ _ _ _ hj1 hj2 (List.getElem?_eq_getElem (by omega)) (List.getElem?_eq_getElem (by omega))).2 (by simpa using he)

end Pl
end Go.Proofs.YtfakdgljilmpkaaGreatDoor

/-
  Lemmas.
-/
import Derived.Lib.TrailingZeros
import Derived.Test.YtbaccmlfnbgehaaGreatDoorGPl1
namespace Go.Proofs.YtbaccmlfnbgehaaGreatDoor
namespace Pl
def wd (f : Nat → Bool) : Nat → Nat
  | 0 => 0
  | n + 1 => wd f n ||| (if f n then 2 ^ n else 0)
theorem wd_lt (f : Nat → Bool) : ∀ n, wd f n < 2 ^ n
  | 0 => by simp [wd]
  | n + 1 => by
    have h1 := wd_lt f n
    have h2 : 2 ^ n < 2 ^ (n + 1) := by rw [Nat.pow_succ]; have := Nat.two_pow_pos n; omega
    unfold wd
    refine Nat.or_lt_two_pow (by omega) ?_
    split
    · exact h2
    · exact Nat.two_pow_pos _
theorem wd_bit (f : Nat → Bool) : ∀ n k, (wd f n).testBit k = (decide (k < n) && f k)
  | 0, k => by simp [wd]
  | n + 1, k => by
    unfold wd
    rw [Nat.testBit_or, wd_bit f n k]
    by_cases hf : f n = true
    · rw [if_pos hf, Nat.testBit_two_pow]
      by_cases e : n = k
      · subst e; simp [hf]
      · by_cases h : k < n
        · simp [h, e, show k < n + 1 by omega]
        · simp [h, e, show ¬ k < n + 1 by omega]
    · rw [if_neg hf, Nat.zero_testBit, Bool.or_false]
      by_cases e : n = k
      · subst e; simp at hf; simp [hf]
      · by_cases h : k < n
        · simp [h, show k < n + 1 by omega]
        · simp [h, show ¬ k < n + 1 by omega]
def wj (F : Nat → Bool) (j : Nat) : Nat := wd (fun k => F (64 * j + k)) 64
theorem wj_lt (F : Nat → Bool) (j : Nat) : wj F j < 18446744073709551616 := wd_lt _ 64
theorem wj_bit (F : Nat → Bool) (j k : Nat) : (wj F j).testBit k = (decide (k < 64) && F (64 * j + k)) := wd_bit _ 64 k
theorem wj_ext {F G : Nat → Bool} {j : Nat} (h : ∀ k, k < 64 → F (64 * j + k) = G (64 * j + k)) : wj F j = wj G j := by
  refine Nat.eq_of_testBit_eq (fun k => ?_)
  rw [wj_bit, wj_bit]
  by_cases hk : k < 64
  · rw [h k hk]
  · simp [hk]
theorem wj_none (j : Nat) : wj (fun _ => false) j = 0 := by
  refine Nat.eq_of_testBit_eq (fun k => ?_)
  rw [wj_bit, Nat.zero_testBit]; simp
def putF (F : Nat → Bool) (i : Nat) (x : Nat) : Bool := F x || decide (x = i)
def dropF (F : Nat → Bool) (i : Nat) (x : Nat) : Bool := F x && !decide (x = i)
theorem wj_put (F : Nat → Bool) (i : Nat) : wj F (i / 64) ||| 2 ^ (i % 64) = wj (putF F i) (i / 64) := by
  refine Nat.eq_of_testBit_eq (fun k => ?_)
  rw [Nat.testBit_or, wj_bit, wj_bit, Nat.testBit_two_pow]
  unfold putF
  by_cases hk : k < 64
  · have : decide (i % 64 = k) = decide (64 * (i / 64) + k = i) := by
      by_cases e : i % 64 = k
      · have : 64 * (i / 64) + k = i := by omega
        simp [e, this]
      · have : ¬ 64 * (i / 64) + k = i := by omega
        simp [e, this]
    rw [this]; simp [hk]
  · have : ¬ i % 64 = k := by omega
    simp [hk, this]
theorem wj_put_ne (F : Nat → Bool) {i j : Nat} (h : j ≠ i / 64) : wj (putF F i) j = wj F j :=
  wj_ext (fun k hk => by
    unfold putF
    have : ¬ 64 * j + k = i := by omega
    simp [this])
theorem wj_drop (F : Nat → Bool) (i : Nat) : wj F (i / 64) &&& (18446744073709551615 - 2 ^ (i % 64)) = wj (dropF F i) (i / 64) := by
  have hp : 2 ^ (i % 64) < 2 ^ 64 := Nat.pow_lt_pow_right (by decide) (by omega)
  refine Nat.eq_of_testBit_eq (fun k => ?_)
  rw [Nat.testBit_and, wj_bit, wj_bit, show 18446744073709551615 - 2 ^ (i % 64) = 2 ^ 64 - (2 ^ (i % 64) + 1) by omega, Nat.testBit_two_pow_sub_succ hp, Nat.testBit_two_pow]
  unfold dropF
  by_cases hk : k < 64
  · have : decide (i % 64 = k) = decide (64 * (i / 64) + k = i) := by
      by_cases e : i % 64 = k
      · have : 64 * (i / 64) + k = i := by omega
        simp [e, this]
      · have : ¬ 64 * (i / 64) + k = i := by omega
        simp [e, this]
    rw [this]; simp [hk]
  · simp [hk]
theorem wj_drop_ne (F : Nat → Bool) {i j : Nat} (h : j ≠ i / 64) : wj (dropF F i) j = wj F j :=
  wj_ext (fun k hk => by unfold dropF; have : ¬ 64 * j + k = i := by omega
                         simp [this])
theorem bit_mod (x k : Nat) : (x >>> k) &&& 1 = if x.testBit k then 1 else 0 := by
  rw [Nat.and_one_is_mod]
  have h := Nat.testBit_shiftRight (i := k) (j := 0) x
  rw [Nat.add_zero] at h
  rw [← h, Nat.testBit_zero]
  rcases Nat.mod_two_eq_zero_or_one (x >>> k) with e | e <;> simp [e]
theorem wj_has (F : Nat → Bool) (i : Nat) : (wj F (i / 64) >>> (i % 64)) &&& 1 = if F i then 1 else 0 := by
  rw [bit_mod, wj_bit]
  have h1 : i % 64 < 64 := Nat.mod_lt _ (by decide)
  have h2 : 64 * (i / 64) + i % 64 = i := by omega
  rw [h2]; simp [h1]
theorem and_ne {x y : Nat} : x &&& y ≠ 0 ↔ ∃ k, x.testBit k = true ∧ y.testBit k = true := by
  constructor
  · intro h
    apply Classical.byContradiction
    intro hn
    apply h
    refine Nat.eq_of_testBit_eq (fun k => ?_)
    rw [Nat.testBit_and, Nat.zero_testBit]
    by_cases h1 : x.testBit k = true
    · by_cases h2 : y.testBit k = true
      · exact absurd ⟨k, h1, h2⟩ hn
      · simp at h2; simp [h2]
    · simp at h1; simp [h1]
  · rintro ⟨k, h1, h2⟩ h
    have := Nat.testBit_and x y k
    rw [h, Nat.zero_testBit, h1, h2] at this
    cases this
theorem wj_meets (F G : Nat → Bool) (j : Nat) : wj F j &&& wj G j ≠ 0 ↔ ∃ k, k < 64 ∧ F (64 * j + k) = true ∧ G (64 * j + k) = true := by
  rw [and_ne]
  constructor
  · rintro ⟨k, h1, h2⟩
    rw [wj_bit] at h1 h2
    simp at h1 h2
    exact ⟨k, h1.1, h1.2, h2.2⟩
  · rintro ⟨k, h0, h1, h2⟩
    exact ⟨k, by rw [wj_bit]; simp [h0, h1], by rw [wj_bit]; simp [h0, h2]⟩
theorem low_bit {x : Nat} (h0 : x ≠ 0) (hx : x < 18446744073709551616) : Lib.ctz 64 x < 64 ∧ x.testBit (Lib.ctz 64 x) = true ∧ (∀ k, k < Lib.ctz 64 x → x.testBit k = false) ∧ ∀ k, (x &&& (x - 1)).testBit k = (x.testBit k && !decide (k = Lib.ctz 64 x)) := by
  obtain ⟨m, hm, hk⟩ := Lib.ctzFrom_spec 64 x (by omega) hx
  have e : Lib.ctz 64 x = Lib.ctzFrom 64 x := by simp [Lib.ctz, h0]
  rw [e]
  obtain ⟨t, ht⟩ : ∃ t, t = Lib.ctzFrom 64 x := ⟨_, rfl⟩
  rw [← ht] at hm hk ⊢
  have hp := Nat.two_pow_pos t
  have h2 : 2 ^ (t + 1) = 2 ^ t + 2 ^ t := by rw [Nat.pow_succ]; omega
  have e1 : x = 2 ^ (t + 1) * m + 2 ^ t := by
    have h3 : 2 ^ (t + 1) * m = 2 ^ t * (2 * m) := by rw [Nat.pow_succ, Nat.mul_assoc]
    rw [h3, hm, Nat.mul_add, Nat.mul_one]
  have b1 : ∀ k, x.testBit k = if k < t + 1 then decide (t = k) else m.testBit (k - (t + 1)) := fun k => by
    rw [e1, Nat.testBit_two_pow_mul_add m (by omega) k, Nat.testBit_two_pow]
  have e2 : x - 1 = 2 ^ (t + 1) * m + (2 ^ t - 1) := by omega
  have b2 : ∀ k, (x - 1).testBit k = if k < t + 1 then decide (k < t) else m.testBit (k - (t + 1)) := fun k => by
    rw [e2, Nat.testBit_two_pow_mul_add m (by omega) k, Nat.testBit_two_pow_sub_one]
  refine ⟨hk, by rw [b1, if_pos (by omega)]; simp, fun k h => by rw [b1, if_pos (by omega)]; simp; omega, fun k => ?_⟩
  rw [Nat.testBit_and, b1, b2]
  by_cases h : k < t + 1
  · rw [if_pos h, if_pos h]
    by_cases e : k = t
    · subst e; simp
    · have : ¬ t = k := fun h => e h.symm
      simp [this]
  · rw [if_neg h, if_neg h]
    have : ¬ k = t := by omega
    simp [this]
def idsN (F : Nat → Bool) (m : Nat) : List Nat := (List.range m).filter F
theorem idsN_le (F : Nat → Bool) (m : Nat) : (idsN F m).length ≤ m := by
  unfold idsN
  have := List.length_filter_le F (List.range m)
  simpa using this
theorem idsN_gap {F : Nat → Bool} {m : Nat} : ∀ d, (∀ k, k < d → F (m + k) = false) → idsN F (m + d) = idsN F m
  | 0, _ => rfl
  | d + 1, h => by
    have ih := idsN_gap d (fun k hk => h k (by omega))
    unfold idsN at *
    rw [← Nat.add_assoc, List.range_succ, List.filter_append, ih]
    simp [h d (by omega)]
theorem idsN_hit {F : Nat → Bool} {m : Nat} (h : F m = true) : idsN F (m + 1) = idsN F m ++ [m] := by
  unfold idsN
  rw [List.range_succ, List.filter_append]
  simp [h]
theorem idsN_step {F : Nat → Bool} {j t x : Nat} (_ht : t ≤ 64) (hx : x < 18446744073709551616) (hb : ∀ k, x.testBit k = (decide (t ≤ k ∧ k < 64) && F (64 * j + k))) (h0 : x ≠ 0) :
    Lib.ctz 64 x < 64 ∧ t ≤ Lib.ctz 64 x ∧ idsN F (64 * j + (Lib.ctz 64 x + 1)) = idsN F (64 * j + t) ++ [64 * j + Lib.ctz 64 x] ∧ (∀ k, (x &&& (x - 1)).testBit k = (decide (Lib.ctz 64 x + 1 ≤ k ∧ k < 64) && F (64 * j + k))) := by
  obtain ⟨h1, h2, h3, h4⟩ := low_bit h0 hx
  obtain ⟨c, hc⟩ : ∃ c, c = Lib.ctz 64 x := ⟨_, rfl⟩
  rw [← hc] at h1 h2 h3 h4 ⊢
  rw [hb] at h2
  simp at h2
  refine ⟨h1, h2.1.1, ?_, fun k => ?_⟩
  · have hg : idsN F (64 * j + c) = idsN F (64 * j + t) := by
      have := idsN_gap (F := F) (m := 64 * j + t) (c - t) (fun k hk => by
        have h5 := h3 (t + k) (by omega)
        rw [hb] at h5
        simp at h5
        have := h5 (by omega)
        rw [Nat.add_assoc]; exact this)
      rw [show 64 * j + c = 64 * j + t + (c - t) by omega]; exact this
    rw [← Nat.add_assoc, idsN_hit h2.2, hg]
  · rw [h4, hb]
    by_cases e : k = c
    · subst e
      have : ¬ (k + 1 ≤ k ∧ k < 64) := by omega
      simp only [this, decide_false, Bool.false_and]; simp
    · by_cases hk : k < c
      · have h5 := h3 k hk
        rw [hb] at h5
        have : ¬ (c + 1 ≤ k ∧ k < 64) := by omega
        rw [h5]; simp [this]
      · by_cases h6 : k < 64
        · have e1 : t ≤ k ∧ k < 64 := by omega
          have e2 : c + 1 ≤ k ∧ k < 64 := by omega
          simp [e, e1, e2]
        · have e1 : ¬ (t ≤ k ∧ k < 64) := by omega
          have e2 : ¬ (c + 1 ≤ k ∧ k < 64) := by omega
          simp [e1, e2]
theorem idsN_end {F : Nat → Bool} {j t : Nat} (ht : t ≤ 64) (hb : ∀ k, (0 : Nat).testBit k = (decide (t ≤ k ∧ k < 64) && F (64 * j + k))) : idsN F (64 * (j + 1)) = idsN F (64 * j + t) := by
  rw [show 64 * (j + 1) = 64 * j + t + (64 - t) by omega]
  refine idsN_gap _ (fun k hk => ?_)
  have h5 := hb (t + k)
  rw [Nat.zero_testBit] at h5
  have e1 : t ≤ t + k ∧ t + k < 64 := by omega
  simp only [e1, decide_true, and_self, Bool.true_and] at h5
  rw [Nat.add_assoc]; exact h5.symm
end Pl
end Go.Proofs.YtbaccmlfnbgehaaGreatDoor
namespace Go.Proofs.YtbaccmlfnbgehaaGreatDoor
namespace Pl
def pushL (out : List E) (e : E) : List E := if out.getLast? = some e then out else out ++ [e]
structure Mrg (a b out : List E) (i k : Nat) : Prop where
  srt : Srt ltE out
  mem : ∀ x, x ∈ out ↔ x ∈ a.take i ∨ x ∈ b.take k
  la : ∀ o ∈ out, ∀ x ∈ a.drop i, ltE x o = false
  lb : ∀ o ∈ out, ∀ x ∈ b.drop k, ltE x o = false
theorem Mrg.nil (a b : List E) : Mrg a b [] 0 0 := ⟨by simp [Srt], by simp, by simp, by simp⟩
theorem srt_pushL {out : List E} {e : E} (h : Srt ltE out) (he : ∀ o ∈ out, ltE e o = false) : Srt ltE (pushL out e) ∧ ∀ x, x ∈ pushL out e ↔ x ∈ out ∨ x = e := by
  unfold pushL
  by_cases hl : out.getLast? = some e
  · rw [if_pos hl]
    have hm : e ∈ out := List.mem_of_getLast? hl
    exact ⟨h, fun x => ⟨.inl, fun hx => by rcases hx with hx | rfl; exact hx; exact hm⟩⟩
  · rw [if_neg hl]
    refine ⟨?_, fun x => by simp⟩
    unfold Srt at *
    rw [List.pairwise_append]
    refine ⟨h, by simp, fun o ho x hx => ?_⟩
    simp at hx; subst hx
    -- o is the last, or ahead of the last
    obtain ⟨l, z, rfl⟩ : ∃ l z, out = l ++ [z] := by
      rcases List.eq_nil_or_concat out with rfl | ⟨l, z, hz⟩
      · simp at ho
      · exact ⟨l, z, by simpa using hz⟩
    have hz : z ≠ x := by rintro rfl; simp at hl
    have hzx : ltE z x = true := by
      rcases stoE.total z x with h1 | h1 | h1
      · exact h1
      · exact absurd h1 hz
      · rw [he z (by simp)] at h1; cases h1
    rcases List.mem_append.1 ho with h1 | h1
    · have := (List.pairwise_append.1 h).2.2 o h1 z (by simp)
      exact stoE.trans _ _ _ this hzx
    · simp at h1; subst h1; exact hzx
theorem asymE {a b : E} (h : ltE a b = true) : ltE b a = false := by
  rw [Bool.eq_false_iff]; intro h2
  have := stoE.trans _ _ _ h h2
  rw [stoE.irrefl] at this; cases this
theorem notBelow {b : List E} {k : Nat} {x e : E} (h : Srt ltE b) (hk : b[k]? = some x) (hx : ltE x e = false) : ∀ y ∈ b.drop k, ltE y e = false := by
  intro y hy
  obtain ⟨j, hj⟩ := List.getElem?_of_mem hy
  rw [List.getElem?_drop] at hj
  by_cases h0 : j = 0
  · subst h0; rw [Nat.add_zero, hk] at hj; cases hj; exact hx
  · obtain ⟨h1, e1⟩ := List.getElem?_eq_some_iff.1 hk
    obtain ⟨h2, e2⟩ := List.getElem?_eq_some_iff.1 hj
    have := List.pairwise_iff_getElem.1 h k (k + j) h1 h2 (by omega)
    rw [e1, e2] at this
    rw [Bool.eq_false_iff]; intro h3
    rw [stoE.trans _ _ _ this h3] at hx; cases hx
theorem Mrg.pushA {a b out : List E} {i k : Nat} {e : E} (h : Mrg a b out i k) (ha : Srt ltE a) (hi : a[i]? = some e) (hb : ∀ y ∈ b.drop k, ltE y e = false) : Mrg a b (pushL out e) (i + 1) k := by
  obtain ⟨hil, hie⟩ := List.getElem?_eq_some_iff.1 hi
  have hd : a.drop i = e :: a.drop (i + 1) := by rw [List.drop_eq_getElem_cons hil, hie]
  have hlo : ∀ o ∈ out, ltE e o = false := fun o ho => h.la o ho e (by rw [hd]; simp)
  obtain ⟨h1, h2⟩ := srt_pushL h.srt hlo
  refine ⟨h1, fun x => ?_, fun o ho x hx => ?_, fun o ho x hx => ?_⟩
  · rw [h2, h.mem, List.take_succ_eq_append_getElem hil, hie, List.mem_append, List.mem_singleton]
    constructor
    · rintro ((h | h) | h)
      · exact .inl (.inl h)
      · exact .inr h
      · exact .inl (.inr h)
    · rintro ((h | h) | h)
      · exact .inl (.inl h)
      · exact .inr h
      · exact .inl (.inr h)
  · rcases (h2 o).1 ho with h3 | rfl
    · exact h.la o h3 x (by rw [hd]; simp [hx])
    · have hs : Srt ltE (a.drop i) := List.Pairwise.drop ha
      rw [hd] at hs
      exact asymE ((List.pairwise_cons.1 hs).1 x hx)
  · rcases (h2 o).1 ho with h3 | rfl
    · exact h.lb o h3 x hx
    · exact hb x hx
theorem Mrg.swap {a b out : List E} {i k : Nat} (h : Mrg a b out i k) : Mrg b a out k i := ⟨h.srt, fun x => by rw [h.mem]; exact Or.comm, h.lb, h.la⟩
theorem Mrg.pushB {a b out : List E} {i k : Nat} {e : E} (h : Mrg a b out i k) (hb : Srt ltE b) (hi : b[k]? = some e) (ha : ∀ y ∈ a.drop i, ltE y e = false) : Mrg a b (pushL out e) i (k + 1) :=
  (h.swap.pushA hb hi ha).swap
theorem Mrg.done {a b out l : List E} (h : Mrg a b out a.length b.length) (hm : ∀ x, x ∈ l ↔ x ∈ a ∨ x ∈ b) : out = nf ltE l :=
  eq_nf stoE h.srt (fun x => by rw [h.mem, List.take_length, List.take_length, hm])
theorem Mrg.len {out : List E} {e : E} : (pushL out e).length ≤ out.length + 1 := by
  unfold pushL; split <;> simp
theorem half_mem (l : List E) (m : Nat) (x : E) : x ∈ l ↔ x ∈ nf ltE (l.take m) ∨ x ∈ nf ltE (l.drop m) := by
  rw [mem_nf stoE, mem_nf stoE, ← List.mem_append, List.take_append_drop]
theorem nf_short {l : List E} (h : l.length < 2) : nf ltE l = l := by
  match l, h with
  | [], _ => rfl
  | [x], _ => rfl
  | _ :: _ :: _, h => simp at h; omega
end Pl
end Go.Proofs.YtbaccmlfnbgehaaGreatDoor
namespace Go.Proofs.YtbaccmlfnbgehaaGreatDoor
namespace Pl
def ltI (a b : Int) : Bool := decide (a < b)
def Rch (s : Lts) (x : Int) : Prop := ∀ P : Int → Prop, P s.s0 → (∀ a l b, P a → (a, l, b) ∈ s.es → P b) → P x
theorem Rch.start (s : Lts) : Rch s s.s0 := fun _ h _ => h
theorem Rch.step {s : Lts} {a l b : Int} (h : Rch s a) (he : (a, l, b) ∈ s.es) : Rch s b := fun P h0 h1 => h1 a l b (h P h0 h1) he
theorem nodup_len {L : List Int} {n : Nat} (h : L.Nodup) (hr : ∀ x ∈ L, 0 ≤ x ∧ x < (n : Int)) : L.length ≤ n := by
  have : L ⊆ (List.range n).map Int.ofNat := by
    intro x hx
    have := hr x hx
    rw [List.mem_map]
    exact ⟨x.toNat, by rw [List.mem_range]; omega, by simp; omega⟩
  have := List.Nodup.length_le_of_subset h this
  simpa using this
structure Bfs (s : Lts) (L : List Int) (i : Nat) : Prop where
  nd : L.Nodup
  rng : ∀ x ∈ L, 0 ≤ x ∧ x < s.st
  rch : ∀ x ∈ L, Rch s x
  s0 : s.s0 ∈ L
  done : ∀ k x, k < i → L[k]? = some x → ∀ y ∈ s.outs x, y.2 ∈ L
theorem Bfs.start {s : Lts} (h : s.Right) (h0 : s.st ≠ 0) : Bfs s [s.s0] 0 where
  nd := by simp
  rng x hx := by have := h.st0; simp at hx; subst hx; omega
  rch x hx := by simp at hx; subst hx; exact Rch.start s
  s0 := by simp
  done k x hk := by omega
theorem Bfs.len {s : Lts} {L : List Int} {i : Nat} (h : Bfs s L i) : L.length ≤ s.st.toNat :=
  nodup_len h.nd (fun x hx => by have := h.rng x hx; omega)
theorem Bfs.push {s : Lts} (hr : s.Right) {L : List Int} {i : Nat} {x : Int} {y : S} (h : Bfs s L i) (hx : L[i]? = some x) (hy : y ∈ s.outs x) (hn : y.2 ∉ L) : Bfs s (L ++ [y.2]) i where
  nd := by rw [List.nodup_append]; exact ⟨h.nd, by simp, by intro a ha b hb; simp at hb; subst hb; intro e; subst e; exact hn ha⟩
  rng z hz := by
    rcases List.mem_append.1 hz with h1 | h1
    · exact h.rng z h1
    · simp at h1; subst h1
      have := offB_false.1 (hr.edges _ (mem_outs.1 hy))
      exact ⟨this.2.2.2.2.1, this.2.2.2.2.2⟩
  rch z hz := by
    rcases List.mem_append.1 hz with h1 | h1
    · exact h.rch z h1
    · simp at h1; subst h1; exact (h.rch x (List.mem_of_getElem? hx)).step (mem_outs.1 hy)
  s0 := List.mem_append_left _ h.s0
  done k z hk hz w hw := by
    have hlt : k < L.length := by have := (List.getElem?_eq_some_iff.1 hx).1; omega
    rw [List.getElem?_append_left hlt] at hz
    exact List.mem_append_left _ (h.done k z hk hz w hw)
theorem Bfs.next {s : Lts} {L : List Int} {i : Nat} {x : Int} (h : Bfs s L i) (hx : L[i]? = some x) (ha : ∀ y ∈ s.outs x, y.2 ∈ L) : Bfs s L (i + 1) where
  nd := h.nd
  rng := h.rng
  rch := h.rch
  s0 := h.s0
  done k z hk hz := by
    by_cases hki : k = i
    · subst hki; rw [hx] at hz; simp at hz; subst hz; exact ha
    · exact h.done k z (by omega) hz
theorem Bfs.all {s : Lts} {L : List Int} (h : Bfs s L L.length) (x : Int) : x ∈ L ↔ Rch s x := by
  refine ⟨h.rch x, fun hr => hr (· ∈ L) h.s0 ?_⟩
  intro a l b ha he
  obtain ⟨k, hk, rfl⟩ := List.getElem_of_mem ha
  exact h.done k _ hk (List.getElem?_eq_getElem hk) (l, b) (mem_outs.2 he)
open Classical in
noncomputable def reachL (s : Lts) : List Int := ((List.range s.st.toNat).map Int.ofNat).filter (fun x => decide (Rch s x))
theorem Rch.rng {s : Lts} (h : s.Right) (h0 : s.st ≠ 0) {x : Int} (hx : Rch s x) : 0 ≤ x ∧ x < s.st := by
  have := h.st0
  refine hx (fun x => 0 ≤ x ∧ x < s.st) (by omega) ?_
  intro a l b _ he
  have := offB_false.1 (h.edges _ he)
  exact ⟨this.2.2.2.2.1, this.2.2.2.2.2⟩
end Pl
end Go.Proofs.YtbaccmlfnbgehaaGreatDoor
namespace Go.Proofs.YtbaccmlfnbgehaaGreatDoor
namespace Pl
def cnt (L : List Int) (k : Int) : Nat := (L.filter (fun x => decide (x < k))).length
theorem idx_get : ∀ {L : List Int}, L.Nodup → ∀ {i : Nat} {x : Int}, L[i]? = some x → L.idxOf x = i
  | [], _, i, x, h => by simp at h
  | y :: L, hn, 0, x, h => by simp at h; subst h; simp
  | y :: L, hn, i + 1, x, h => by
    have hy := List.nodup_cons.1 hn
    have hx : L[i]? = some x := by simpa using h
    have hb : (y == x) = false := by
      simp; rintro rfl; exact hy.1 (List.mem_of_getElem? hx)
    rw [List.idxOf_cons, hb, idx_get hy.2 hx]; rfl
noncomputable def toOf (s : Lts) (x : Int) : Int := if x ∈ reachL s then ((reachL s).idxOf x : Int) else -1
noncomputable def toL (s : Lts) : List Int := (List.range s.st.toNat).map (fun (i : Nat) => toOf s (i : Int))
noncomputable def cutE (s : Lts) : List E := (s.es.filter (fun x => decide (0 ≤ toOf s x.1))).map (fun x => (toOf s x.1, x.2.1, toOf s x.2.2))
noncomputable def cut (s : Lts) : Lts := ⟨(reachL s).length, s.lb, if (reachL s).length = 0 then 0 else toOf s s.s0, cutE s⟩
end Pl
end Go.Proofs.YtbaccmlfnbgehaaGreatDoor

/-
  Plain: the system of WeakMany: one cycle of silent steps, each other label a loop at each state.
-/
import Derived.Test.YtdhloijdefnkpaaGreatDoorGBrQ
namespace Go.Proofs.YtdhloijdefnkpaaGreatDoor
namespace Pl

/-- The edges of state i. -/
def manyAt (n lb i : Nat) : List E := ((i : Int), (0 : Int), (((i + 1) % n : Nat) : Int)) :: (List.range (lb - 1)).map fun x => ((i : Int), ((x + 1 : Nat) : Int), (i : Int))
def manyE (n lb k : Nat) : List E := (List.range k).flatMap (manyAt n lb)
def manyS (n lb : Nat) : Lts := ⟨n, lb, 0, manyE n lb n⟩

section
variable {n lb : Nat}
theorem manyAt_len (hl : 1 ≤ lb) (i : Nat) : (manyAt n lb i).length = lb := by unfold manyAt; simp; omega
theorem manyE_len (hl : 1 ≤ lb) (k : Nat) : (manyE n lb k).length = k * lb := by
  unfold manyE
  induction k with
  | zero => simp
  | succ k ih => rw [List.range_succ, List.flatMap_append, List.length_append, ih]; simp [manyAt_len hl]; rw [Nat.succ_mul]
theorem many_at {i x : Nat} (h1 : 1 ≤ x) (h2 : x < lb) : (manyAt n lb i)[x]? = some ((i : Int), (x : Int), (i : Int)) := by
  obtain ⟨y, rfl⟩ : ∃ y, x = y + 1 := ⟨x - 1, by omega⟩
  unfold manyAt
  rw [List.getElem?_cons_succ, List.getElem?_map, List.getElem?_range (by omega)]
  rfl
theorem manyE_succ (k : Nat) : manyE n lb (k + 1) = manyE n lb k ++ manyAt n lb k := by unfold manyE; rw [List.range_succ, List.flatMap_append]; simp
theorem mem_manyE {k : Nat} {x : E} : x ∈ manyE n lb k ↔ ∃ i, i < k ∧ (x = ((i : Int), 0, (((i + 1) % n : Nat) : Int)) ∨ ∃ l, 1 ≤ l ∧ l < lb ∧ x = ((i : Int), (l : Int), (i : Int))) := by
  unfold manyE manyAt
  simp only [List.mem_flatMap, List.mem_range, List.mem_cons, List.mem_map]
  constructor
  · rintro ⟨i, hi, h | ⟨y, hy, rfl⟩⟩
    · exact ⟨i, hi, .inl h⟩
    · exact ⟨i, hi, .inr ⟨y + 1, by omega, by omega, rfl⟩⟩
  · rintro ⟨i, hi, h | ⟨l, h1, h2, rfl⟩⟩
    · exact ⟨i, hi, .inl h⟩
    · exact ⟨i, hi, .inr ⟨l - 1, by omega, by rw [Nat.sub_add_cancel h1]⟩⟩
theorem manyS_right (h2 : 2 ≤ n) (hn : n ≤ 130) (hl : 1 ≤ lb) (hl4 : lb ≤ 4) : (manyS n lb).Right := by
  refine ⟨?_, fun x hx => ?_⟩
  · unfold HeadBad manyS
    simp only
    rw [manyE_len hl]
    have h3 : n * lb ≤ 130 * 4 := Nat.mul_le_mul hn hl4
    omega
  · obtain ⟨i, hi, rfl | ⟨l, h3, h4, rfl⟩⟩ := mem_manyE.1 hx
    · have := Nat.mod_lt (i + 1) (show n > 0 by omega)
      rw [offB_false]; simp only [manyS]; omega
    · rw [offB_false]; simp only [manyS]; omega
theorem many_stp {p q : Nat} {l : Int} : stp (manyS n lb) p l q ↔ p < n ∧ ((l = 0 ∧ q = (p + 1) % n) ∨ (1 ≤ l ∧ l < lb ∧ q = p)) := by
  unfold stp manyS
  simp only
  rw [mem_manyE]
  constructor
  · rintro ⟨i, hi, h | ⟨k, h3, h4, h⟩⟩
    · simp only [Prod.mk.injEq] at h
      obtain ⟨h1, h2, h3⟩ := h
      obtain rfl : p = i := by omega
      exact ⟨hi, .inl ⟨h2, by omega⟩⟩
    · simp only [Prod.mk.injEq] at h
      obtain ⟨h1, h2, h3⟩ := h
      obtain rfl : p = i := by omega
      exact ⟨hi, .inr ⟨by omega, by omega, by omega⟩⟩
  · rintro ⟨hp, ⟨rfl, rfl⟩ | ⟨h1, h2, rfl⟩⟩
    · exact ⟨p, hp, .inl rfl⟩
    · refine ⟨q, hp, .inr ⟨l.toNat, by omega, by omega, ?_⟩⟩
      rw [Int.toNat_of_nonneg (by omega)]
theorem many_up {p q : Nat} (hp : p ≤ q) (hq : q < n) : TR (manyS n lb) p q := by
  induction q with
  | zero => obtain rfl : p = 0 := by omega
            exact .refl
  | succ q ih =>
    by_cases e : p = q + 1
    · subst e; exact .refl
    · refine (ih (by omega) (by omega)).tail (many_stp.2 ⟨by omega, .inl ⟨rfl, ?_⟩⟩)
      rw [Nat.mod_eq_of_lt hq]
theorem many_tr {p q : Nat} (hp : p < n) (hq : q < n) : TR (manyS n lb) p q := by
  have h1 : TR (manyS n lb) p (n - 1) := many_up (by omega) (by omega)
  have h2 : TR (manyS n lb) (n - 1) 0 := TR.one (many_stp.2 ⟨by omega, .inl ⟨rfl, by rw [show n - 1 + 1 = n by omega, Nat.mod_self]⟩⟩)
  exact (h1.trans h2).trans (many_up (by omega) hq)
theorem many_wst {p q : Nat} (hp : p < n) (hq : q < n) {l : Nat} (hl : l < lb) : wst (manyS n lb) p (l : Int) q := by
  by_cases h0 : l = 0
  · subst h0; exact wst_zero.2 (many_tr hp hq)
  · exact (wst_ne (by omega)).2 ⟨p, p, .refl, many_stp.2 ⟨hp, .inr ⟨by omega, by omega, rfl⟩⟩, many_tr hp hq⟩
theorem many_K : KOk (manyS n lb) n lb (fun _ _ _ => true) := fun p l q hp hl hq => by simp [many_wst hp hq hl]
theorem satE_all : (satE n lb (fun _ _ _ => true)).length = n * n * lb := by
  have h1 : idsN (fun _ => true) n = List.range n := by unfold idsN; simp
  have h2 : ∀ (p m : Nat), ((List.range m).flatMap fun l : Nat => (List.range n).map fun q : Nat => ((p : Int), (l : Int), (q : Int))).length = m * n := by
    intro p m
    induction m with
    | zero => simp
    | succ m ih => rw [List.range_succ, List.flatMap_append, List.length_append, ih]; simp [Nat.succ_mul]
  have h3 : ∀ m : Nat, ((List.range m).flatMap fun p : Nat => (List.range lb).flatMap fun l : Nat => (List.range n).map fun q : Nat => ((p : Int), (l : Int), (q : Int))).length = m * (lb * n) := by
    intro m
    induction m with
    | zero => simp
    | succ m ih => rw [List.range_succ, List.flatMap_append, List.length_append, ih]; simp only [List.flatMap_cons, List.flatMap_nil, List.append_nil]; rw [h2, Nat.succ_mul]
  unfold satE
  simp only [h1]
  rw [h3, Nat.mul_comm lb n, Nat.mul_assoc]
theorem many_sat {K : Nat → Nat → Nat → Bool} (hK : KOk (manyS n lb) n lb K) : (satE n lb K).length = n * n * lb := by rw [hK.eq many_K, satE_all]
theorem many_cls (h2 : 2 ≤ n) (hn : n ≤ 130) (hl : 1 ≤ lb) (hl4 : lb ≤ 4) {K : Nat → Nat → Nat → Bool} (hK : KOk (manyS n lb) n lb K) {C : Nat → Int} (h : Big (satS (manyS n lb) n lb K) n C) (hc : canon (fl n C) = fl n C) {p : Nat} (hp : p < n) : C p = 0 := by
  have hr := manyS_right h2 hn hl hl4
  have hs : ∀ {p q : Nat} {l : Int}, stp (satS (manyS n lb) n lb K) p l q ↔ p < n ∧ wst (manyS n lb) p l q := stp_sat hr rfl rfl hK
  have hall : ∀ p q, p < n → q < n → C p = C q := fun p q hp hq => h.all (fun _ _ => True) (fun p q hp hq _ => by
    constructor
    · intro l t ht hst
      have h5 := wst_lt hr rfl (hs.1 hst).2 hp
      obtain ⟨b, rfl⟩ := Int.eq_ofNat_of_zero_le h5.2.1
      exact ⟨t, ht, hs.2 ⟨hq, many_wst hq ht (by have := h5.2.2; simp only [manyS] at this; omega)⟩, trivial⟩
    · intro l t ht hst
      have h5 := wst_lt hr rfl (hs.1 hst).2 hq
      obtain ⟨b, rfl⟩ := Int.eq_ofNat_of_zero_le h5.2.1
      exact ⟨t, ht, hs.2 ⟨hp, many_wst hp ht (by have := h5.2.2; simp only [manyS] at this; omega)⟩, trivial⟩) p q hp hq trivial
  have h6 : fl n C = fl n (fun _ => 0) := canon_same_list hc (canon_zeroB n) (fun p q hp hq => by simp [hall p q hp hq])
  have h7 : (fl n C)[p]? = some (C p) := fl_get C hp
  rw [h6, fl_get (fun _ => 0) hp] at h7
  exact (Option.some.inj h7).symm
end
end Pl
end Go.Proofs.YtdhloijdefnkpaaGreatDoor

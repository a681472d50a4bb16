/-
  Plain: a signature's text tells the signature; refined classes are more.
-/
import Derived.Test.YtmlmjhmdjieigaaGreatDoorGLaidBr
import Derived.Lib.ItoaLen
namespace Go.Proofs.YtmlmjhmdjieigaaGreatDoor
namespace Pl
open Go.Lib

/-! decimal numerals -/
theorem dec_rng : ∀ (u : Nat), ∀ c ∈ decDigits u, 48 ≤ c.toNat ∧ c.toNat ≤ 57 := by
  intro u
  induction u using Nat.strongRecOn with
  | ind u ih =>
    intro c hc
    rw [decDigits] at hc
    split at hc
    · simp only [List.mem_singleton] at hc
      subst hc
      simp; omega
    · rw [List.mem_append] at hc
      rcases hc with h | h
      · exact ih (u / 10) (by omega) c h
      · simp only [List.mem_singleton] at h
        subst h
        simp; omega
theorem dec_ne (u : Nat) : decDigits u ≠ [] := by
  rw [decDigits]; split <;> simp
theorem digit_inj {a b : Nat} (ha : a < 10) (hb : b < 10) (h : UInt8.ofNat (48 + a) = UInt8.ofNat (48 + b)) : a = b := by
  have := congrArg UInt8.toNat h
  simp at this; omega
theorem dec_inj : ∀ (u v : Nat), decDigits u = decDigits v → u = v := by
  intro u
  induction u using Nat.strongRecOn with
  | ind u ih =>
    intro v h
    rw [decDigits, decDigits.eq_def v] at h
    by_cases hu : u < 10 <;> by_cases hv : v < 10
    · rw [dif_pos hu, dif_pos hv] at h
      simp only [List.cons.injEq, and_true] at h
      exact digit_inj hu hv h
    · rw [dif_pos hu, dif_neg hv] at h
      have := congrArg List.length h
      have h2 := List.length_pos_iff.2 (dec_ne (v / 10))
      simp only [List.length_append, List.length_cons, List.length_nil] at this; omega
    · rw [dif_neg hu, dif_pos hv] at h
      have := congrArg List.length h
      have h2 := List.length_pos_iff.2 (dec_ne (u / 10))
      simp only [List.length_append, List.length_cons, List.length_nil] at this; omega
    · rw [dif_neg hu, dif_neg hv] at h
      obtain ⟨h1, h2⟩ := List.append_inj' h rfl
      simp only [List.cons.injEq, and_true] at h2
      have e1 := ih (u / 10) (by omega) (v / 10) h1
      have e2 := digit_inj (by omega) (by omega) h2
      omega
theorem itoa_no (x : Int) : (32 : UInt8) ∉ itoa x := by
  unfold itoa
  have k : ∀ u, (32 : UInt8) ∉ decDigits u := fun u h => by
    have := dec_rng u _ h
    simp at this
  split
  · rw [List.mem_cons]
    rintro (h | h)
    · exact absurd h (by decide)
    · exact k _ h
  · exact k _
theorem itoa_inj {x y : Int} (h : itoa x = itoa y) : x = y := by
  have k : ∀ u, (45 : UInt8) ∉ decDigits u := fun u h => by
    have := dec_rng u _ h
    simp at this
  unfold itoa at h
  by_cases hx : x < 0 <;> by_cases hy : y < 0
  · rw [if_pos hx, if_pos hy] at h
    have := dec_inj _ _ (List.cons.inj h).2
    omega
  · rw [if_pos hx, if_neg hy] at h
    exact absurd (by rw [← h]; simp) (k y.toNat)
  · rw [if_neg hx, if_pos hy] at h
    exact absurd (by rw [h]; simp) (k x.toNat)
  · rw [if_neg hx, if_neg hy] at h
    have := dec_inj _ _ h
    omega
theorem split32 : ∀ {a b r r' : List UInt8}, (32 : UInt8) ∉ a → (32 : UInt8) ∉ b → a ++ 32 :: r = b ++ 32 :: r' → a = b ∧ r = r'
  | [], [], _, _, _, _, h => ⟨rfl, (List.cons.inj h).2⟩
  | [], y :: b, _, _, _, hb, h => by
    have := (List.cons.inj h).1
    exact absurd (by rw [← this]; simp) hb
  | x :: a, [], _, _, ha, _, h => by
    have := (List.cons.inj h).1
    exact absurd (by rw [this]; simp) ha
  | x :: a, y :: b, r, r', ha, hb, h => by
    obtain ⟨rfl, h2⟩ := List.cons.inj h
    obtain ⟨h3, h4⟩ := split32 (fun h => ha (List.mem_cons_of_mem _ h)) (fun h => hb (List.mem_cons_of_mem _ h)) h2
    exact ⟨by rw [h3], h4⟩
/-- A step's text. -/
def stepT (x : S) : List UInt8 := 32 :: (itoa x.1 ++ 32 :: itoa x.2)
/-- A signature's text. -/
def textB (c : Int) (L : List S) : List UInt8 := itoa c ++ L.flatMap stepT
theorem textB_inj : ∀ {L M : List S} {c d : Int}, textB c L = textB d M → c = d ∧ L = M
  | [], [], c, d, h => by
    unfold textB at h
    simp only [List.flatMap_nil, List.append_nil] at h
    exact ⟨itoa_inj h, rfl⟩
  | [], y :: M, c, d, h => by
    unfold textB at h
    simp only [List.flatMap_nil, List.append_nil, List.flatMap_cons] at h
    exact absurd (by rw [h]; unfold stepT; simp) (itoa_no c)
  | x :: L, [], c, d, h => by
    unfold textB at h
    simp only [List.flatMap_nil, List.append_nil, List.flatMap_cons] at h
    exact absurd (by rw [← h]; unfold stepT; simp) (itoa_no d)
  | x :: L, y :: M, c, d, h => by
    unfold textB at h
    simp only [List.flatMap_cons, stepT, List.cons_append, List.append_assoc] at h
    obtain ⟨h1, h2⟩ := split32 (itoa_no c) (itoa_no d) h
    obtain ⟨h3, h4⟩ := split32 (itoa_no x.1) (itoa_no y.1) h2
    obtain ⟨h5, h6⟩ := textB_inj (L := L) (M := M) (c := x.2) (d := y.2) h4
    exact ⟨itoa_inj h1, by rw [h6, Prod.ext (itoa_inj h3) h5]⟩

/-! more classes -/
theorem nodup_subI : ∀ (L M : List Int), L.Nodup → (∀ x ∈ L, x ∈ M) → L.length ≤ M.length
  | [], M, _, _ => Nat.zero_le _
  | x :: L, M, hn, hs => by
    rw [List.nodup_cons] at hn
    have ih := nodup_subI L (M.erase x) hn.2 (fun y hy => (List.mem_erase_of_ne (fun e : y = x => hn.1 (e ▸ hy))).2 (hs y (List.mem_cons_of_mem _ hy)))
    have h1 := List.length_erase_of_mem (hs x (by simp))
    have h2 := List.length_pos_of_mem (hs x (by simp))
    rw [List.length_cons]; omega
theorem mem_dist_fl {n : Nat} {C : Nat → Int} {c : Int} : c ∈ dist (fl n C) ↔ ∃ p, p < n ∧ C p = c := by
  rw [mem_dist]; unfold fl; rw [List.mem_map]
  exact ⟨fun ⟨p, h1, h2⟩ => ⟨p, List.mem_range.1 h1, h2⟩, fun ⟨p, h1, h2⟩ => ⟨p, List.mem_range.2 h1, h2⟩⟩
theorem more_classes {n : Nat} {C D : Nat → Int} (h : ∀ p q, p < n → q < n → D p = D q → C p = C q) {a b : Nat} (ha : a < n) (hb : b < n) (e1 : C a = C b) (e2 : D a ≠ D b) : (dist (fl n C)).length < (dist (fl n D)).length := by
  have hex : ∀ c : Int, ∃ p : Nat, c ∈ dist (fl n C) → p < n ∧ C p = c := fun c => by
    by_cases hc : c ∈ dist (fl n C)
    · obtain ⟨p, hp⟩ := mem_dist_fl.1 hc
      exact ⟨p, fun _ => hp⟩
    · exact ⟨0, fun h => absurd h hc⟩
  obtain ⟨r, hr⟩ := Classical.axiomOfChoice hex
  have hca : C a ∈ dist (fl n C) := mem_dist_fl.2 ⟨a, ha, rfl⟩
  obtain ⟨x, hxm, hxn⟩ : ∃ x, x ∈ dist (fl n D) ∧ x ∉ (dist (fl n C)).map (fun c => D (r c)) := by
    have key : ∀ z, z < n → C z = C a → D z ∈ (dist (fl n C)).map (fun c => D (r c)) → D z = D (r (C a)) := fun z hz e hm => by
      obtain ⟨c, hc, hcz⟩ := List.mem_map.1 hm
      have h1 := hr c hc
      have h2 := h (r c) z h1.1 hz hcz
      rw [h1.2, e] at h2
      rw [← hcz, h2]
    by_cases k1 : D a ∈ (dist (fl n C)).map (fun c => D (r c))
    · refine ⟨D b, mem_dist_fl.2 ⟨b, hb, rfl⟩, fun k2 => e2 ?_⟩
      rw [key a ha rfl k1, key b hb e1.symm k2]
    · exact ⟨D a, mem_dist_fl.2 ⟨a, ha, rfl⟩, k1⟩
  have hnd : (x :: (dist (fl n C)).map (fun c => D (r c))).Nodup := by
    rw [List.nodup_cons]
    refine ⟨hxn, ?_⟩
    rw [List.Nodup, List.pairwise_map]
    refine List.Pairwise.imp_of_mem ?_ (nodup_dist (fl n C))
    intro c d hc hd hcd e
    have k1 := hr c hc; have k2 := hr d hd
    have := h (r c) (r d) k1.1 k2.1 e
    rw [k1.2, k2.2] at this
    exact hcd this
  have := nodup_subI _ (dist (fl n D)) hnd (fun y hy => by
    rcases List.mem_cons.1 hy with rfl | h1
    · exact hxm
    · obtain ⟨c, hc, rfl⟩ := List.mem_map.1 h1
      exact mem_dist_fl.2 ⟨r c, (hr c hc).1, rfl⟩)
  rw [List.length_cons, List.length_map] at this
  omega
/-- Lists in the one form that say the same together are one. -/
theorem canon_same_list {n : Nat} {C D : Nat → Int} (h1 : canon (fl n C) = fl n C) (h2 : canon (fl n D) = fl n D) (h : ∀ p q, p < n → q < n → (C p = C q ↔ D p = D q)) : fl n C = fl n D := by
  rw [← h1, ← h2, sameT_canon (by rw [fl_len, fl_len])]
  intro i k x y x' y' hki hx hy hx' hy'
  have hi : i < n := by have := (List.getElem?_eq_some_iff.1 hx).1; rwa [fl_len] at this
  have hk : k < n := by omega
  rw [fl_get C hi] at hx; rw [fl_get C hk] at hy; rw [fl_get D hi] at hx'; rw [fl_get D hk] at hy'
  cases hx; cases hy; cases hx'; cases hy'
  exact h i k hi hk
end Pl
end Go.Proofs.YtmlmjhmdjieigaaGreatDoor

/-
  Lemmas.
-/
import Derived.Test.YtdhloijdefnkpaaGreatDoorWitH
import Derived.Test.YtdhloijdefnkpaaGreatDoorGStrK
import Derived.Test.YtdhloijdefnkpaaGreatDoorGTauJ
import Derived.Test.YtdhloijdefnkpaaGreatDoorGBrC
import Derived.Test.YtdhloijdefnkpaaGreatDoorGBrQ
import Derived.Test.YtdhloijdefnkpaaGreatDoorGPl13
import Derived.Test.YtdhloijdefnkpaaGreatDoorGReach
namespace Go.Proofs.YtdhloijdefnkpaaGreatDoor
open Go.RowKit Pl
def joinF (g : Nat → Int) (a b : Int) (x : Nat) : Int := if g x = b then a else g x
end Go.Proofs.YtdhloijdefnkpaaGreatDoor
namespace Go.Proofs.YtdhloijdefnkpaaGreatDoor
open Go.RowKit Pl
section
variable {s : Lts} {n : Nat} {f : Nat → Int} {D : List Nat}
structure BlkO (s : Lts) (n : Nat) (f : Nat → Int) (D : List Nat) : Prop where
  right : s.Right
  st : s.st = (n : Int)
  cyc : Cyc s n f
  ord : OrdL (col s (fl n (clf n f))) (dist (fl n f)).length D
  all : ∀ k, k < (dist (fl n f)).length → k ∈ D
def blkO (n : Nat) (f : Nat → Int) (k : Nat) : List Nat := clsM (fl n (clf n f)) n k
def ordO (n : Nat) (f : Nat → Int) (D : List Nat) : List Nat := D.flatMap (blkO n f)
def offO (n : Nat) (f : Nat → Int) (D : List Nat) (d : Nat) : Nat := (ordO n f (D.take d)).length
theorem mem_blkO {x k : Nat} : x ∈ blkO n f k ↔ x < n ∧ asF n f x = k := by
  unfold blkO
  rw [mem_clsM]
  constructor
  · rintro ⟨h1, h2⟩
    rw [fl_get _ h1, asF_eq h1] at h2
    simp only [Option.some.injEq] at h2
    exact ⟨h1, by omega⟩
  · rintro ⟨h1, rfl⟩
    exact ⟨h1, by rw [fl_get _ h1, asF_eq h1]⟩
theorem mem_ordO {x : Nat} {L : List Nat} : x ∈ ordO n f L ↔ x < n ∧ asF n f x ∈ L := by
  unfold ordO
  rw [List.mem_flatMap]
  constructor
  · rintro ⟨k, hk, hx⟩
    obtain ⟨h1, rfl⟩ := mem_blkO.1 hx
    exact ⟨h1, hk⟩
  · rintro ⟨h1, h2⟩
    exact ⟨_, h2, mem_blkO.2 ⟨h1, rfl⟩⟩
theorem ordO_K (n : Nat) (f : Nat → Int) (D : List Nat) : (D.flatMap fun k : Nat => memK (fl n (clf n f)) n (k : Int)) = (ordO n f D).map Int.ofNat := flat_N _ _ _
theorem BlkO.nodup (h : BlkO s n f D) : D.Nodup := h.ord.nodup
theorem BlkO.rng (h : BlkO s n f D) {k : Nat} (hk : k ∈ D) : k < (dist (fl n f)).length := h.ord.rng k hk
theorem BlkO.len (h : BlkO s n f D) : (ordO n f D).length = n := by
  have h1 := flat_le (fl n (clf n f)) n h.nodup
  have h2 := flat_all (C := fl n (clf n f)) (n := n) (M := (dist (fl n f)).length) (fun x hx => cls_in hx) h.all
  rw [ordO_K, List.length_map] at h1 h2
  omega
theorem BlkO.blk_pos (h : BlkO s n f D) {k : Nat} (hk : k ∈ D) : 0 < (blkO n f k).length := by
  have := memK_pos (cls_onto (h.rng hk))
  rw [memK_N, List.length_map] at this
  exact this
theorem offO_zero : offO n f D 0 = 0 := by simp [offO, ordO]
theorem take_succ {d k : Nat} (hd : D[d]? = some k) : D.take (d + 1) = D.take d ++ [k] := by rw [List.take_add_one, hd]; rfl
theorem ordO_succ {d k : Nat} (hd : D[d]? = some k) : ordO n f (D.take (d + 1)) = ordO n f (D.take d) ++ blkO n f k := by
  rw [take_succ hd]; simp [ordO]
theorem offO_succ {d k : Nat} (hd : D[d]? = some k) : offO n f D (d + 1) = offO n f D d + (blkO n f k).length := by
  unfold offO; rw [ordO_succ hd, List.length_append]
theorem ordO_split {d k : Nat} (hd : D[d]? = some k) : ordO n f D = ordO n f (D.take d) ++ (blkO n f k ++ ordO n f (D.drop (d + 1))) := by
  have h2 : ordO n f D = ordO n f (D.take (d + 1)) ++ ordO n f (D.drop (d + 1)) := by
    unfold ordO
    rw [← List.flatMap_append, List.take_append_drop]
  rw [h2, ordO_succ hd, List.append_assoc]
theorem ordO_at {d k j : Nat} (hd : D[d]? = some k) (hj : j < (blkO n f k).length) : (ordO n f D)[offO n f D d + j]? = (blkO n f k)[j]? := by
  rw [ordO_split hd]
  unfold offO
  rw [List.getElem?_append_right (by omega), Nat.add_sub_cancel_left, List.getElem?_append_left hj]
theorem BlkO.more (h : BlkO s n f D) {d : Nat} (hd : offO n f D d < n) : ∃ k, D[d]? = some k := by
  by_cases hl : d < D.length
  · exact ⟨D[d], List.getElem?_eq_getElem hl⟩
  · exfalso
    have := h.len
    unfold offO at hd
    rw [List.take_of_length_le (by omega)] at hd
    omega
theorem BlkO.off_le (h : BlkO s n f D) {d k : Nat} (hd : D[d]? = some k) : offO n f D d + (blkO n f k).length ≤ n := by
  have h1 := h.len
  rw [ordO_split hd, List.length_append, List.length_append] at h1
  unfold offO
  omega
theorem BlkO.next (h : BlkO s n f D) {d k y : Nat} (hd : D[d]? = some k) (hy : (ordO n f D)[offO n f D d + (blkO n f k).length]? = some y) : y < n ∧ asF n f y ≠ k := by
  rw [ordO_split hd] at hy
  unfold offO at hy
  rw [List.getElem?_append_right (by omega), Nat.add_sub_cancel_left, List.getElem?_append_right (by omega), Nat.sub_self] at hy
  have h1 := mem_ordO.1 (List.mem_of_getElem? hy)
  refine ⟨h1.1, fun e => ?_⟩
  rw [e] at h1
  have h2 := h.nodup
  rw [show D = D.take (d + 1) ++ D.drop (d + 1) from (List.take_append_drop _ _).symm, List.nodup_append] at h2
  exact h2.2.2 k (by rw [take_succ hd]; simp) k h1.2 rfl
theorem BlkO.ahead (h : BlkO s n f D) {d k p t : Nat} (hd : D[d]? = some k) (hp : p < n) (hpk : asF n f p = k) (hs : tau s p t) (hne : asF n f t ≠ k) : t ∈ ordO n f (D.take d) := by
  have hl := stp_lt h.right h.st hs
  refine mem_ordO.2 ⟨hl.2.1, ?_⟩
  have h1 : tau (col s (fl n (clf n f))) k (asF n f t) := (stp_col h.right h.st).2 ⟨p, t, hp, hl.2.1, hs, hpk, rfl, fun e => hne e.2.symm⟩
  exact h.ord.ahead (col_right h.right h.st) (col_srt _ _) d k _ hd h1
theorem BlkO.same (h : BlkO s n f D) {x y : Nat} (hx : x < n) (hy : y < n) (e : asF n f x = asF n f y) : TR s x y ∧ TR s y x := (asF_same h.cyc hx hy).1 e
theorem BlkO.of_ord {g : Nat → Int} (hr : s.Right) (hn : s.st = (n : Int)) (hf : Cyc s n f) (hg : Cyc s n g) (hD : OrdL (col s (fl n (clf n g))) (dist (fl n (clf n g))).length D) (hall : ∀ k, k < (dist (fl n (clf n g))).length → k ∈ D) :
    BlkO s n f D ∧ fl n (clf n g) = fl n (clf n f) := by
  have e : fl n (clf n g) = fl n (clf n f) := by rw [← canon_fl, ← canon_fl]; exact hg.unique hf
  rw [e, dist_clf_len] at hD hall
  exact ⟨⟨hr, hn, hf, hD, hall⟩, e⟩
end
theorem stp_normO {s : Lts} {p t : Nat} {l : Int} : stp s.norm p l t ↔ stp s p l t := by
  unfold stp Lts.norm
  simp only
  rw [mem_nf stoE]
end Go.Proofs.YtdhloijdefnkpaaGreatDoor
namespace Go.Proofs.YtdhloijdefnkpaaGreatDoor
namespace Pl
def one (s : Lts) (m : Nat) (l : Int) (t : Nat) : Prop := (l = 0 ∧ t = m) ∨ (l ≠ 0 ∧ stp s m l t)
def wst (s : Lts) (p : Nat) (l : Int) (q : Nat) : Prop := ∃ m t, TR s p m ∧ one s m l t ∧ TR s t q
section
variable {s : Lts} {n : Nat}
theorem wst_zero {p q : Nat} : wst s p 0 q ↔ TR s p q := by
  constructor
  · rintro ⟨m, t, h1, h2, h3⟩
    rcases h2 with ⟨_, rfl⟩ | ⟨h, _⟩
    · exact h1.trans h3
    · exact absurd rfl h
  · intro h
    exact ⟨p, p, .refl, .inl ⟨rfl, rfl⟩, h⟩
theorem wst_ne {p q : Nat} {l : Int} (hl : l ≠ 0) : wst s p l q ↔ ∃ m t, TR s p m ∧ stp s m l t ∧ TR s t q := by
  constructor
  · rintro ⟨m, t, h1, h2, h3⟩
    rcases h2 with ⟨h, _⟩ | ⟨_, h⟩
    · exact absurd h hl
    · exact ⟨m, t, h1, h, h3⟩
  · rintro ⟨m, t, h1, h2, h3⟩
    exact ⟨m, t, h1, .inr ⟨hl, h2⟩, h3⟩
theorem wst_pre {p m q : Nat} {l : Int} (h : TR s p m) (h2 : wst s m l q) : wst s p l q := by
  obtain ⟨a, b, h3, h4, h5⟩ := h2
  exact ⟨a, b, h.trans h3, h4, h5⟩
theorem wst_post {p q r : Nat} {l : Int} (h : wst s p l q) (h2 : TR s q r) : wst s p l r := by
  obtain ⟨a, b, h3, h4, h5⟩ := h
  exact ⟨a, b, h3, h4, h5.trans h2⟩
theorem TR.ltW (hr : s.Right) (hn : s.st = (n : Int)) {p q : Nat} (h : TR s p q) (hp : p < n) : q < n := by
  cases h with
  | refl => exact hp
  | tail _ h2 => exact (tau_lt hr hn h2).2
theorem wst_lt (hr : s.Right) (hn : s.st = (n : Int)) {p q : Nat} {l : Int} (h : wst s p l q) (hp : p < n) : q < n ∧ 0 ≤ l ∧ l < s.lb := by
  obtain ⟨a, b, h3, h4, h5⟩ := h
  rcases h4 with ⟨rfl, rfl⟩ | ⟨_, h4⟩
  · have := hr.st0
    exact ⟨h5.ltW hr hn (h3.ltW hr hn hp), by omega, by omega⟩
  · have := stp_lt hr hn h4
    exact ⟨h5.ltW hr hn this.2.1, this.2.2.1, this.2.2.2⟩
end
/-! the saturated system -/
def KOk (s : Lts) (n lb : Nat) (K : Nat → Nat → Nat → Bool) : Prop := ∀ p l q, p < n → l < lb → q < n → (K p l q = true ↔ wst s p (l : Int) q)
def satE (n lb : Nat) (K : Nat → Nat → Nat → Bool) : List E := (List.range n).flatMap fun p => (List.range lb).flatMap fun l => (idsN (K p l) n).map fun q : Nat => ((p : Int), (l : Int), (q : Int))
def satS (s : Lts) (n lb : Nat) (K : Nat → Nat → Nat → Bool) : Lts := ⟨s.st, s.lb, s.s0, satE n lb K⟩
section
variable {s : Lts} {n lb : Nat} {K : Nat → Nat → Nat → Bool}
theorem mem_satE {x : E} : x ∈ satE n lb K ↔ ∃ p l q : Nat, x = ((p : Int), (l : Int), (q : Int)) ∧ p < n ∧ l < lb ∧ q < n ∧ K p l q = true := by
  unfold satE
  simp only [List.mem_flatMap, List.mem_map, List.mem_range, mem_idsN]
  constructor
  · rintro ⟨p, hp, l, hl, q, ⟨hq, hk⟩, rfl⟩
    exact ⟨p, l, q, rfl, hp, hl, hq, hk⟩
  · rintro ⟨p, l, q, rfl, hp, hl, hq, hk⟩
    exact ⟨p, hp, l, hl, q, ⟨hq, hk⟩, rfl⟩
theorem satE_srt : Srt ltE (satE n lb K) := by
  have hr : ∀ m, (List.range m).Pairwise (· < ·) := fun m => List.pairwise_lt_range
  unfold satE Srt
  rw [List.pairwise_flatMap]
  refine ⟨fun p _ => ?_, (hr n).imp ?_⟩
  · rw [List.pairwise_flatMap]
    refine ⟨fun l _ => ?_, (hr lb).imp ?_⟩
    · rw [List.pairwise_map]
      refine List.Pairwise.imp ?_ (List.Pairwise.sublist List.filter_sublist (hr n))
      intro a b hab
      exact (ltE_iff _ _).2 (.inr ⟨rfl, .inr ⟨rfl, by show (a : Int) < (b : Int); omega⟩⟩)
    · intro a b hab x hx y hy
      obtain ⟨c, _, rfl⟩ := List.mem_map.1 hx
      obtain ⟨d, _, rfl⟩ := List.mem_map.1 hy
      exact (ltE_iff _ _).2 (.inr ⟨rfl, .inl (by show (a : Int) < (b : Int); omega)⟩)
  · intro a b hab x hx y hy
    obtain ⟨l, _, hx⟩ := List.mem_flatMap.1 hx
    obtain ⟨c, _, rfl⟩ := List.mem_map.1 hx
    obtain ⟨l', _, hy⟩ := List.mem_flatMap.1 hy
    obtain ⟨d, _, rfl⟩ := List.mem_map.1 hy
    exact (ltE_iff _ _).2 (.inl (by show (a : Int) < (b : Int); omega))
theorem stp_sat (hr : s.Right) (hn : s.st = (n : Int)) (hlb : s.lb = (lb : Int)) (hK : KOk s n lb K) {p q : Nat} {l : Int} : stp (satS s n lb K) p l q ↔ p < n ∧ wst s p l q := by
  unfold stp satS
  simp only
  rw [mem_satE]
  constructor
  · rintro ⟨a, b, c, e, ha, hb, hc, hk⟩
    simp only [Prod.mk.injEq] at e
    obtain ⟨e1, rfl, e3⟩ := e
    obtain rfl : p = a := by omega
    obtain rfl : q = c := by omega
    exact ⟨ha, (hK _ _ _ ha hb hc).1 hk⟩
  · rintro ⟨hp, hw⟩
    have h := wst_lt hr hn hw hp
    obtain ⟨b, rfl⟩ := Int.eq_ofNat_of_zero_le h.2.1
    exact ⟨p, b, q, rfl, hp, by omega, h.1, (hK _ _ _ hp (by omega) h.1).2 hw⟩
theorem satE_congr {K' : Nat → Nat → Nat → Bool} (h : ∀ p l q, p < n → l < lb → q < n → K p l q = K' p l q) : satE n lb K = satE n lb K' := by
  refine srt_ext stoE _ _ satE_srt satE_srt (fun x => ?_)
  rw [mem_satE, mem_satE]
  constructor <;> rintro ⟨p, l, q, rfl, hp, hl, hq, hk⟩ <;> refine ⟨p, l, q, rfl, hp, hl, hq, ?_⟩
  · rw [← h p l q hp hl hq]; exact hk
  · rw [h p l q hp hl hq]; exact hk
theorem KOk.eq {K' : Nat → Nat → Nat → Bool} (h : KOk s n lb K) (h' : KOk s n lb K') : satE n lb K = satE n lb K' :=
  satE_congr (fun p l q hp hl hq => by
    have h1 := h p l q hp hl hq
    have h2 := h' p l q hp hl hq
    cases e : K p l q <;> cases e' : K' p l q
    · rfl
    · rw [e'] at h2; rw [e] at h1; exact absurd (h1.2 (h2.1 rfl)) (by simp)
    · rw [e'] at h2; rw [e] at h1; exact absurd (h2.2 (h1.1 rfl)) (by simp)
    · rfl)
end
/-! strong bisimilarity by rounds -/
def NextS (u : Nat → Int → Nat → Prop) (n : Nat) (C D : Nat → Int) : Prop :=
  ∀ p q, p < n → q < n → (D p = D q ↔ C p = C q ∧ ∀ l e, (∃ t, t < n ∧ u p l t ∧ C t = e) ↔ (∃ t, t < n ∧ u q l t ∧ C t = e))
def HoldsS (s : Lts) (n : Nat) (C : Nat → Int) : Prop := ∀ R, IsBis s n R → ∀ p q, p < n → q < n → R p q → C p = C q
section
variable {s : Lts} {n : Nat} {C D : Nat → Int}
theorem HoldsS.zero : HoldsS s n (fun _ => 0) := fun _ _ _ _ _ _ _ => rfl
theorem HoldsS.next (h : HoldsS s n C) (hd : NextS (stp s) n C D) : HoldsS s n D := fun R hR p q hp hq e => by
  refine (hd p q hp hq).2 ⟨h R hR p q hp hq e, fun l c => ?_⟩
  obtain ⟨h1, h2⟩ := hR p q hp hq e
  constructor
  · rintro ⟨t, ht, hs, rfl⟩
    obtain ⟨u, hu, h3, h4⟩ := h1 l t ht hs
    exact ⟨u, hu, h3, (h R hR t u ht hu h4).symm⟩
  · rintro ⟨t, ht, hs, rfl⟩
    obtain ⟨u, hu, h3, h4⟩ := h2 l t ht hs
    exact ⟨u, hu, h3, h R hR u t hu ht h4⟩
theorem HoldsS.done (h : HoldsS s n C) (hd : NextS (stp s) n C D) (he : ∀ p, p < n → D p = C p) : Big s n C where
  bis p q hp hq e := by
    have h1 := ((hd p q hp hq).1 (by rw [he p hp, he q hq]; exact e)).2
    refine ⟨fun l t ht hs => ?_, fun l u hu hs => ?_⟩
    · obtain ⟨u, hu, h2, h3⟩ := (h1 l (C t)).1 ⟨t, ht, hs, rfl⟩
      exact ⟨u, hu, h2, h3.symm⟩
    · obtain ⟨t, ht, h2, h3⟩ := (h1 l (C u)).2 ⟨u, hu, hs, rfl⟩
      exact ⟨t, ht, h2, h3⟩
  all := h
theorem next_moreS {u : Nat → Int → Nat → Prop} (hd : NextS u n C D) (h1 : canon (fl n C) = fl n C) (h2 : canon (fl n D) = fl n D) (hne : fl n D ≠ fl n C) : (dist (fl n C)).length < (dist (fl n D)).length := by
  have href : ∀ p q, p < n → q < n → D p = D q → C p = C q := fun p q hp hq e => ((hd p q hp hq).1 e).1
  by_cases h : ∀ p q, p < n → q < n → C p = C q → D p = D q
  · exact absurd (canon_same_list h2 h1 (fun p q hp hq => ⟨href p q hp hq, h p q hp hq⟩)) hne
  · have : ∃ a b, a < n ∧ b < n ∧ C a = C b ∧ D a ≠ D b := by
      apply Classical.byContradiction
      intro hno
      exact h (fun p q hp hq e => Classical.byContradiction (fun e2 => hno ⟨p, q, hp, hq, e, e2⟩))
    obtain ⟨a, b, ha, hb, e1, e2⟩ := this
    exact more_classes href ha hb e1 e2
end
/-! branching bisimilarity lies within it -/
section
variable {s : Lts} {n lb : Nat} {K : Nat → Nat → Nat → Bool} {C : Nat → Int}
theorem via_tr {X : Nat → Prop} {p q : Nat} (h : Via s X p q) : TR s p q := by
  induction h with
  | refl => exact .refl
  | tail _ h2 _ ih => exact ih.tail h2
end
end Pl
end Go.Proofs.YtdhloijdefnkpaaGreatDoor
namespace Go.Proofs.YtdhloijdefnkpaaGreatDoor
open Go.RowKit Pl
namespace Pl
theorem atL_flW {n : Nat} {f : Nat → Int} {t : Nat} (h : t < n) : atL (fl n f) (t : Int) = f t := by
  unfold atL
  rw [Int.toNat_natCast, List.getD_eq_getElem?_getD, fl_get f h]; rfl
section
variable {s : Lts} {n : Nat}
theorem rch_tau (hr : s.Right) {q m : Nat} : Rch (tauOf s (q : Int)) (m : Int) ↔ TR s q m := by
  constructor
  · intro h
    have h1 := h (fun x => ∃ m : Nat, x = (m : Int) ∧ TR s q m) ⟨q, rfl, .refl⟩ (by
      rintro a l b ⟨m, rfl, h2⟩ h3
      unfold tauOf at h3
      simp only [List.mem_filter, beq_iff_eq] at h3
      obtain ⟨h3, rfl⟩ := h3
      have h4 := offB_false.1 (hr.edges _ h3)
      simp only at h4
      obtain ⟨b, rfl⟩ := Int.eq_ofNat_of_zero_le h4.2.2.2.2.1
      exact ⟨b, rfl, h2.tail h3⟩)
    obtain ⟨m', h2, h3⟩ := h1
    obtain rfl : m = m' := by omega
    exact h3
  · intro h
    induction h with
    | refl => exact Rch.start _
    | @tail a b _ h2 ih => exact ih.step (l := 0) (by unfold tauOf; simp only [List.mem_filter]; exact ⟨h2, by simp⟩)
def PassD (s : Lts) (n : Nat) (C : List Int) (D : Nat → List S) : Prop := ∀ p q, p < n → q < n → atL C (p : Int) = atL C (q : Int) → failD s C D p q = none
theorem passD_iff (hr : s.Right) (hn : s.st = (n : Int)) {f : Nat → Int} {D : Nat → List S} : PassD s.norm n (fl n f) D ↔ ∀ p q, p < n → q < n → f p = f q → ∀ l t, stp s p l t → (l, f t) ∈ D q := by
  unfold PassD failD
  constructor
  · intro h p q hp hq e l t hs
    have h1 := List.find?_eq_none.1 (h p q hp hq (by rw [atL_flW hp, atL_flW hq]; exact e)) (l, (t : Int)) (mem_outs.2 (stp_normO.2 hs))
    have ht := (stp_lt hr hn hs).2.1
    simp only [Bool.not_eq_true', decide_eq_false_iff_not, Classical.not_not] at h1
    rw [atL_flW ht] at h1
    exact h1
  · intro h p q hp hq e
    rw [atL_flW hp, atL_flW hq] at e
    refine List.find?_eq_none.2 (fun x hx => ?_)
    have h1 := mem_outs.1 hx
    have h2 := offB_false.1 (hr.norm.edges _ h1)
    simp only at h2
    obtain ⟨l, t⟩ := x
    obtain ⟨t, rfl⟩ := Int.eq_ofNat_of_zero_le h2.2.2.2.2.1
    have hs : stp s p l t := stp_normO.1 h1
    have ht := (stp_lt hr hn hs).2.1
    simp only [Bool.not_eq_true', decide_eq_false_iff_not, Classical.not_not]
    rw [atL_flW ht]
    exact h p q hp hq e l t hs
theorem mem_plainD (hr : s.Right) (hn : s.st = (n : Int)) {f : Nat → Int} {q : Nat} {l c : Int} : (l, c) ∈ plainD s.norm (fl n f) (q : Int) ↔ ∃ u, stp s q l u ∧ c = f u := by
  unfold plainD
  rw [List.mem_map]
  constructor
  · rintro ⟨⟨a, b⟩, h1, h2⟩
    have h1 := mem_outs.1 h1
    have h3 := offB_false.1 (hr.norm.edges _ h1)
    simp only at h3
    obtain ⟨b, rfl⟩ := Int.eq_ofNat_of_zero_le h3.2.2.2.2.1
    have hs : stp s q a b := stp_normO.1 h1
    have ht := (stp_lt hr hn hs).2.1
    simp only [Prod.mk.injEq] at h2
    obtain ⟨rfl, rfl⟩ := h2
    exact ⟨b, hs, by rw [atL_flW ht]⟩
  · rintro ⟨u, h1, rfl⟩
    have ht := (stp_lt hr hn h1).2.1
    exact ⟨(l, (u : Int)), mem_outs.2 (stp_normO.2 h1), by rw [atL_flW ht]⟩
theorem pass_strong (hr : s.Right) (hn : s.st = (n : Int)) {f : Nat → Int} : PassD s.norm n (fl n f) (fun q => plainD s.norm (fl n f) (q : Int)) ↔ IsBis s n (fun p q => f p = f q) := by
  rw [passD_iff hr hn]
  simp only [mem_plainD hr hn]
  constructor
  · intro h p q hp hq e
    constructor
    · intro l t ht hs
      obtain ⟨u, h1, h2⟩ := h p q hp hq e l t hs
      exact ⟨u, (stp_lt hr hn h1).2.1, h1, h2⟩
    · intro l u hu hs
      obtain ⟨t, h1, h2⟩ := h q p hq hp e.symm l u hs
      exact ⟨t, (stp_lt hr hn h1).2.1, h1, h2.symm⟩
  · intro h p q hp hq e l t hs
    obtain ⟨u, _, h1, h2⟩ := (h p q hp hq e).1 l t (stp_lt hr hn hs).2.1 hs
    exact ⟨u, h1, h2⟩
theorem tr_norm {p q : Nat} : TR s.norm p q ↔ TR s p q := by
  constructor <;> intro h <;> induction h with
  | refl => exact .refl
  | tail _ h2 ih => first | exact ih.tail (stp_normO.1 h2) | exact ih.tail (stp_normO.2 h2)
theorem mem_lateD (hr : s.Right) (hn : s.st = (n : Int)) {f : Nat → Int} {q : Nat} (hq : q < n) {l c : Int} : (l, c) ∈ lateD s.norm (fl n f) q ↔ (l = 0 ∧ c = f q) ∨ ∃ m u, TR s q m ∧ f m = f q ∧ stp s m l u ∧ c = f u := by
  unfold lateD
  rw [List.mem_cons, List.mem_flatMap]
  simp only [List.mem_filter, decide_eq_true_eq, Prod.mk.injEq]
  rw [atL_flW hq]
  refine or_congr Iff.rfl ?_
  constructor
  · rintro ⟨m, ⟨h1, h2⟩, h3⟩
    have h4 := (mem_reachL (tauOf_right hr.norm (by omega) (by show (q : Int) < s.st; omega)) (by show s.st ≠ 0; omega)).1 h1
    have h0 : ∃ m' : Nat, m = (m' : Int) ∧ TR s.norm q m' := h4 (fun x => ∃ m : Nat, x = (m : Int) ∧ TR s.norm q m) ⟨q, rfl, .refl⟩ (by
      rintro a l b ⟨m, rfl, h2⟩ h3
      unfold tauOf at h3
      simp only [List.mem_filter, beq_iff_eq] at h3
      obtain ⟨h3, rfl⟩ := h3
      have h4 := offB_false.1 (hr.norm.edges _ h3)
      simp only at h4
      obtain ⟨b, rfl⟩ := Int.eq_ofNat_of_zero_le h4.2.2.2.2.1
      exact ⟨b, rfl, h2.tail h3⟩)
    obtain ⟨m, rfl, h5⟩ := h0
    have h6 := tr_norm.1 h5
    have hm := h6.ltW hr hn hq
    rw [atL_flW hm] at h2
    obtain ⟨u, h7, h8⟩ := (mem_plainD hr hn).1 h3
    exact ⟨m, u, h6, h2, h7, h8⟩
  · rintro ⟨m, u, h1, h2, h3, h4⟩
    have hm := h1.ltW hr hn hq
    refine ⟨(m : Int), ⟨(mem_reachL (tauOf_right hr.norm (by omega) (by show (q : Int) < s.st; omega)) (by show s.st ≠ 0; omega)).2 ((rch_tau hr.norm).2 (tr_norm.2 h1)), by rw [atL_flW hm]; exact h2⟩, (mem_plainD hr hn).2 ⟨u, h3, h4⟩⟩
def CRch (s : Lts) (n : Nat) (f : Nat → Int) (c d : Int) : Prop := ∀ p, p < n → f p = c → ∃ m, TR s p m ∧ f m = d
theorem CRch.refl (c : Int) {f : Nat → Int} : CRch s n f c c := fun p _ e => ⟨p, .refl, e⟩
theorem CRch.trans (hr : s.Right) (hn : s.st = (n : Int)) {f : Nat → Int} {c d e : Int} (h : CRch s n f c d) (h2 : CRch s n f d e) : CRch s n f c e := fun p hp ep => by
  obtain ⟨m, h3, h4⟩ := h p hp ep
  obtain ⟨m2, h5, h6⟩ := h2 m (h3.ltW hr hn hp) h4
  exact ⟨m2, h3.trans h5, h6⟩
def LateP (s : Lts) (n : Nat) (f : Nat → Int) : Prop := ∀ p q, p < n → q < n → f p = f q → ∀ l t, stp s p l t → (l = 0 ∧ f t = f q) ∨ ∃ m u, TR s q m ∧ f m = f q ∧ stp s m l u ∧ f t = f u
theorem LateP.tr (hr : s.Right) (hn : s.st = (n : Int)) {f : Nat → Int} (h : LateP s n f) {p q : Nat} (ht : TR s p q) : CRch s n f (f p) (f q) := by
  induction ht with
  | refl => exact .refl _
  | @tail a b h1 h2 ih =>
    refine CRch.trans hr hn ih (fun x hx ex => ?_)
    rcases h a x (tau_lt hr hn h2).1 hx ex.symm 0 b h2 with ⟨_, h3⟩ | ⟨m, u, h3, _, h5, h6⟩
    · exact ⟨x, .refl, h3.symm⟩
    · exact ⟨u, h3.tail h5, h6.symm⟩
theorem LateP.via (hr : s.Right) (hn : s.st = (n : Int)) {f : Nat → Int} (h : LateP s n f) {p q m : Nat} (hq : q < n) (hpq : CRch s n f (f p) (f q)) (ht : TR s q m) (hm : f m = f p) :
    Via s (fun x => x < n ∧ (CRch s n f (f p) (f x) ∧ CRch s n f (f x) (f p))) q m := by
  have key : ∀ x, TR s q x → CRch s n f (f x) (f p) → Via s (fun x => x < n ∧ (CRch s n f (f p) (f x) ∧ CRch s n f (f x) (f p))) q x := by
    intro x hx
    induction hx with
    | refl => exact fun h1 => .refl ⟨hq, hpq, h1⟩
    | @tail a b h1 h2 ih =>
      intro h3
      have hab := tau_lt hr hn h2
      have h4 := h.tr hr hn (TR.one h2)
      exact .tail (ih (h4.trans hr hn h3)) h2 ⟨hab.2, hpq.trans hr hn (h.tr hr hn (h1.tail h2)), h3⟩
  exact key m ht (by rw [hm]; exact .refl _)
theorem LateP.within (hr : s.Right) (hn : s.st = (n : Int)) {f : Nat → Int} (h : LateP s n f) {C : Nat → Int} (hC : BrBig s n C) {p q : Nat} (hp : p < n) (hq : q < n) (e : f p = f q) : C p = C q := by
  have fw : ∀ p q, p < n → q < n → (CRch s n f (f p) (f q) ∧ CRch s n f (f q) (f p)) → ∀ l t, stp s p l t → (l = 0 ∧ (CRch s n f (f t) (f q) ∧ CRch s n f (f q) (f t))) ∨ ∃ q0 u, Via s (fun x => x < n ∧ (CRch s n f (f p) (f x) ∧ CRch s n f (f x) (f p))) q q0 ∧ u < n ∧ stp s q0 l u ∧ f t = f u := by
    intro p q hp hq hpq l t hs
    obtain ⟨m, h1, h2⟩ := hpq.2 q hq rfl
    have hm := h1.ltW hr hn hq
    rcases h p m hp hm h2.symm l t hs with ⟨h3, h4⟩ | ⟨m', u, h3, h4, h5, h6⟩
    · exact .inl ⟨h3, by rw [h4, h2]; exact hpq⟩
    · exact .inr ⟨m', u, h.via hr hn hq hpq.1 (h1.trans h3) (by rw [h4, h2]), (stp_lt hr hn h5).2.1, h5, h6⟩
  refine hC.all (fun p q => CRch s n f (f p) (f q) ∧ CRch s n f (f q) (f p)) ⟨fun p q hp hq hpq l t ht hs => ?_, fun p q hp hq hpq l u hu hs => ?_⟩ p q hp hq (by rw [e]; exact ⟨.refl _, .refl _⟩)
  · rcases fw p q hp hq hpq l t hs with h1 | ⟨q0, u, h1, h2, h3, h4⟩
    · exact .inl h1
    · exact .inr ⟨q0, u, h1, h2, h3, by rw [h4]; exact ⟨.refl _, .refl _⟩⟩
  · rcases fw q p hq hp ⟨hpq.2, hpq.1⟩ l u hs with ⟨h0, h1, h2⟩ | ⟨p0, t, h1, h2, h3, h4⟩
    · exact .inl ⟨h0, h2, h1⟩
    · exact .inr ⟨p0, t, h1.mono (fun x hx => ⟨hx.1, hx.2.2, hx.2.1⟩), h2, h3, by rw [h4]; exact ⟨.refl _, .refl _⟩⟩
theorem LateP.of_big (hr : s.Right) (hn : s.st = (n : Int)) {C : Nat → Int} (h : BrBig s n C) : LateP s n C := by
  intro p q hp hq e l t hs
  rcases (h.still.br hr hn).fwd p q hp hq e l t (stp_lt hr hn hs).2.1 hs with h1 | ⟨q0, u, h1, h2, h3, h4⟩
  · exact .inl h1
  · exact .inr ⟨q0, u, via_tr h1, by rw [← h1.last.2, e], h3, h4⟩
theorem pass_late (hr : s.Right) (hn : s.st = (n : Int)) {f : Nat → Int} : PassD s.norm n (fl n f) (fun q => lateD s.norm (fl n f) q) ↔ LateP s n f := by
  rw [passD_iff hr hn]
  unfold LateP
  constructor
  · intro h p q hp hq e l t hs
    exact (mem_lateD hr hn hq).1 (h p q hp hq e l t hs)
  · intro h p q hp hq e l t hs
    exact (mem_lateD hr hn hq).2 (h p q hp hq e l t hs)
/-! weak -/
def LooseP (s : Lts) (n : Nat) (f : Nat → Int) : Prop := ∀ p q, p < n → q < n → f p = f q → ∀ l t, stp s p l t → ∃ u, wst s q l u ∧ f t = f u
theorem LooseP.tr (hr : s.Right) (hn : s.st = (n : Int)) {f : Nat → Int} (h : LooseP s n f) {p p' : Nat} (hs : TR s p p') : ∀ q, q < n → f p = f q → ∃ q', TR s q q' ∧ f p' = f q' := by
  induction hs with
  | refl => exact fun q _ e => ⟨q, .refl, e⟩
  | @tail a b h1 h2 ih =>
    intro q hq e
    obtain ⟨q1, h3, h4⟩ := ih q hq e
    obtain ⟨u, h5, h6⟩ := h a q1 (tau_lt hr hn h2).1 (h3.ltW hr hn hq) h4 0 b h2
    exact ⟨u, h3.trans (wst_zero.1 h5), h6⟩
theorem LooseP.wst (hr : s.Right) (hn : s.st = (n : Int)) {f : Nat → Int} (h : LooseP s n f) {p p' : Nat} {l : Int} (hs : wst s p l p') {q : Nat} (hq : q < n) (e : f p = f q) : ∃ q', wst s q l q' ∧ f p' = f q' := by
  obtain ⟨m, t, h1, h2, h3⟩ := hs
  obtain ⟨q1, h4, h5⟩ := h.tr hr hn h1 q hq e
  have hq1 := h4.ltW hr hn hq
  rcases h2 with ⟨rfl, rfl⟩ | ⟨hl, h2⟩
  · obtain ⟨q2, h6, h7⟩ := h.tr hr hn h3 q1 hq1 h5
    exact ⟨q2, wst_zero.2 (h4.trans h6), h7⟩
  · obtain ⟨u, h6, h7⟩ := h m q1 (stp_lt hr hn h2).1 hq1 h5 l t h2
    have hu := (wst_lt hr hn h6 hq1).1
    obtain ⟨q2, h8, h9⟩ := h.tr hr hn h3 u hu h7
    exact ⟨q2, wst_post (wst_pre h4 h6) h8, h9⟩
theorem LooseP.within {lb : Nat} {K : Nat → Nat → Nat → Bool} (hr : s.Right) (hn : s.st = (n : Int)) (hlb : s.lb = (lb : Int)) (hK : KOk s n lb K) {f : Nat → Int} (h : LooseP s n f) {C : Nat → Int} (hC : Big (satS s n lb K) n C) {p q : Nat} (hp : p < n) (hq : q < n) (e : f p = f q) : C p = C q := by
  refine hC.all (fun p q => f p = f q) (fun p q hp hq e => ⟨fun l t ht hs => ?_, fun l u hu hs => ?_⟩) p q hp hq e
  · obtain ⟨q', h2, h3⟩ := h.wst hr hn ((stp_sat hr hn hlb hK).1 hs).2 hq e
    exact ⟨q', (wst_lt hr hn h2 hq).1, (stp_sat hr hn hlb hK).2 ⟨hq, h2⟩, h3⟩
  · obtain ⟨q', h2, h3⟩ := h.wst hr hn ((stp_sat hr hn hlb hK).1 hs).2 hp e.symm
    exact ⟨q', (wst_lt hr hn h2 hp).1, (stp_sat hr hn hlb hK).2 ⟨hp, h2⟩, h3.symm⟩
theorem stp_wst {p t : Nat} {l : Int} (h : stp s p l t) : Pl.wst s p l t := by
  by_cases hl : l = 0
  · subst hl; exact wst_zero.2 (TR.one h)
  · exact (wst_ne hl).2 ⟨p, t, .refl, h, .refl⟩
theorem LooseP.of_big {lb : Nat} {K : Nat → Nat → Nat → Bool} (hr : s.Right) (hn : s.st = (n : Int)) (hlb : s.lb = (lb : Int)) (hK : KOk s n lb K) {C : Nat → Int} (hC : Big (satS s n lb K) n C) : LooseP s n C := by
  intro p q hp hq e l t hs
  obtain ⟨u, hu, h1, h2⟩ := (hC.bis p q hp hq e).1 l t (stp_lt hr hn hs).2.1 ((stp_sat hr hn hlb hK).2 ⟨hp, stp_wst hs⟩)
  exact ⟨u, ((stp_sat hr hn hlb hK).1 h1).2, h2⟩
noncomputable def looseD (s : Lts) (C : List Int) (q : Nat) : List S :=
  (reachL (tauOf s (q : Int))).flatMap fun m => (0, atL C m) :: ((s.outs m).filter (fun x => !decide (x.1 = 0))).flatMap fun x => (reachL (tauOf s x.2)).map fun e => (x.1, atL C e)
theorem mem_reach_tau (hr : s.Right) (hn : s.st = (n : Int)) {q : Nat} (hq : q < n) {x : Int} : x ∈ reachL (tauOf s (q : Int)) ↔ ∃ m : Nat, x = (m : Int) ∧ TR s q m := by
  rw [mem_reachL (tauOf_right hr (by omega) (by omega)) (by show s.st ≠ 0; omega)]
  constructor
  · intro h
    refine h (fun x => ∃ m : Nat, x = (m : Int) ∧ TR s q m) ⟨q, rfl, .refl⟩ ?_
    rintro a l b ⟨m, rfl, h2⟩ h3
    unfold tauOf at h3
    simp only [List.mem_filter, beq_iff_eq] at h3
    obtain ⟨h3, rfl⟩ := h3
    have h4 := offB_false.1 (hr.edges _ h3)
    simp only at h4
    obtain ⟨b, rfl⟩ := Int.eq_ofNat_of_zero_le h4.2.2.2.2.1
    exact ⟨b, rfl, h2.tail h3⟩
  · rintro ⟨m, rfl, h⟩
    exact (rch_tau hr).2 h
theorem mem_looseD (hr : s.Right) (hn : s.st = (n : Int)) {f : Nat → Int} {q : Nat} (hq : q < n) {l c : Int} : (l, c) ∈ looseD s (fl n f) q ↔ ∃ u, Pl.wst s q l u ∧ c = f u := by
  unfold looseD
  rw [List.mem_flatMap]
  constructor
  · rintro ⟨m, h1, h2⟩
    obtain ⟨m, rfl, h3⟩ := (mem_reach_tau hr hn hq).1 h1
    have hm := h3.ltW hr hn hq
    rcases List.mem_cons.1 h2 with h4 | h4
    · simp only [Prod.mk.injEq] at h4
      obtain ⟨rfl, rfl⟩ := h4
      exact ⟨m, wst_zero.2 h3, by rw [atL_flW hm]⟩
    · obtain ⟨⟨a, b⟩, h5, h6⟩ := List.mem_flatMap.1 h4
      obtain ⟨h5, h7⟩ := List.mem_filter.1 h5
      have h8 := mem_outs.1 h5
      have h9 := offB_false.1 (hr.edges _ h8)
      simp only at h9
      obtain ⟨b, rfl⟩ := Int.eq_ofNat_of_zero_le h9.2.2.2.2.1
      have hb : b < n := by omega
      obtain ⟨e, h10, h11⟩ := List.mem_map.1 h6
      obtain ⟨e, rfl, h12⟩ := (mem_reach_tau hr hn hb).1 h10
      have he := h12.ltW hr hn hb
      simp only [Prod.mk.injEq] at h11
      obtain ⟨rfl, rfl⟩ := h11
      simp only [Bool.not_eq_true', decide_eq_false_iff_not] at h7
      exact ⟨e, (wst_ne h7).2 ⟨m, b, h3, h8, h12⟩, by rw [atL_flW he]⟩
  · rintro ⟨u, h1, rfl⟩
    obtain ⟨m, t, h2, h3, h4⟩ := h1
    have hm := h2.ltW hr hn hq
    rcases h3 with ⟨rfl, rfl⟩ | ⟨hl, h3⟩
    · have hu := (h2.trans h4).ltW hr hn hq
      exact ⟨(u : Int), (mem_reach_tau hr hn hq).2 ⟨u, rfl, h2.trans h4⟩, by rw [List.mem_cons, atL_flW hu]; exact .inl rfl⟩
    · have ht := (stp_lt hr hn h3).2.1
      have hu := h4.ltW hr hn ht
      refine ⟨(m : Int), (mem_reach_tau hr hn hq).2 ⟨m, rfl, h2⟩, List.mem_cons_of_mem _ (List.mem_flatMap.2 ⟨(l, (t : Int)), List.mem_filter.2 ⟨mem_outs.2 h3, by simp [hl]⟩, List.mem_map.2 ⟨(u : Int), (mem_reach_tau hr hn ht).2 ⟨u, rfl, h4⟩, by rw [atL_flW hu]⟩⟩)⟩
theorem wst_norm {p q : Nat} {l : Int} : Pl.wst s.norm p l q ↔ Pl.wst s p l q := by
  unfold Pl.wst one
  simp only [tr_norm, stp_normO]
theorem pass_loose (hr : s.Right) (hn : s.st = (n : Int)) {f : Nat → Int} : PassD s.norm n (fl n f) (fun q => looseD s.norm (fl n f) q) ↔ LooseP s n f := by
  rw [passD_iff hr hn]
  unfold LooseP
  constructor
  · intro h p q hp hq e l t hs
    obtain ⟨u, h1, h2⟩ := (mem_looseD hr.norm hn hq).1 (h p q hp hq e l t hs)
    exact ⟨u, wst_norm.1 h1, h2⟩
  · intro h p q hp hq e l t hs
    obtain ⟨u, h1, h2⟩ := h p q hp hq e l t hs
    exact (mem_looseD hr.norm hn hq).2 ⟨u, wst_norm.2 h1, h2⟩
end
end Pl
end Go.Proofs.YtdhloijdefnkpaaGreatDoor
namespace Go.Proofs.YtdhloijdefnkpaaGreatDoor
namespace Pl
noncomputable def DKind (k : Nat) (s : Lts) (C : List Int) (q : Nat) : List S := if k = 0 then plainD s C (q : Int) else if k = 1 then lateD s C q else looseD s C q
def KindBig (k : Nat) (s : Lts) (n : Nat) (C : Nat → Int) : Prop := if k = 0 then Big s n C else if k = 1 then BrBig s n C else ∀ (lb : Nat) (K : Nat → Nat → Nat → Bool), s.lb = (lb : Int) → KOk s n lb K → Big (satS s n lb K) n C
theorem dkind0 : DKind 0 = fun (s : Lts) (C : List Int) (q : Nat) => plainD s C (q : Int) := by funext s C q; simp [DKind]
theorem dkind1 : DKind 1 = lateD := by funext s C q; simp [DKind]
theorem dkind2 : DKind 2 = looseD := by funext s C q; simp [DKind]
open Classical in
theorem kOk_exT (s : Lts) (n lb : Nat) : ∃ K, KOk s n lb K := ⟨fun p l q => decide (wst s p (l : Int) q), fun p l q _ _ _ => by simp⟩
section
variable {s : Lts} {n k : Nat}
theorem kind_pass (hr : s.Right) (hn : s.st = (n : Int)) {C : Nat → Int} (hk : k < 3) (h : KindBig k s n C) : PassD s.norm n (fl n C) (DKind k s.norm (fl n C)) := by
  obtain ⟨lb, hlb⟩ : ∃ lb : Nat, s.lb = (lb : Int) := ⟨s.lb.toNat, by have := hr.st0; omega⟩
  have h3 : k = 0 ∨ k = 1 ∨ k = 2 := by omega
  unfold KindBig at h
  rcases h3 with rfl | rfl | rfl
  · simp only [if_true] at h
    rw [dkind0]
    exact (pass_strong hr hn).2 h.bis
  · simp only [Nat.one_ne_zero, if_false, if_true] at h
    rw [dkind1]
    exact (pass_late hr hn).2 (LateP.of_big hr hn h)
  · simp only [show ¬ (2 = 0) by decide, show ¬ (2 = 1) by decide, if_false] at h
    obtain ⟨K, hK⟩ := kOk_exT s n lb
    rw [dkind2]
    exact (pass_loose hr hn).2 (LooseP.of_big hr hn hlb hK (h lb K hlb hK))
theorem kind_within (hr : s.Right) (hn : s.st = (n : Int)) {f C : Nat → Int} (hk : k < 3) (hp : PassD s.norm n (fl n f) (DKind k s.norm (fl n f))) (h : KindBig k s n C) {p q : Nat} (h1 : p < n) (h2 : q < n) (e : f p = f q) : C p = C q := by
  obtain ⟨lb, hlb⟩ : ∃ lb : Nat, s.lb = (lb : Int) := ⟨s.lb.toNat, by have := hr.st0; omega⟩
  have h3 : k = 0 ∨ k = 1 ∨ k = 2 := by omega
  unfold KindBig at h
  rcases h3 with rfl | rfl | rfl
  · simp only [if_true] at h
    rw [dkind0] at hp
    exact h.all _ ((pass_strong hr hn).1 hp) p q h1 h2 e
  · simp only [Nat.one_ne_zero, if_false, if_true] at h
    rw [dkind1] at hp
    exact LateP.within hr hn ((pass_late hr hn).1 hp) h h1 h2 e
  · simp only [show ¬ (2 = 0) by decide, show ¬ (2 = 1) by decide, if_false] at h
    obtain ⟨K, hK⟩ := kOk_exT s n lb
    rw [dkind2] at hp
    exact LooseP.within hr hn hlb hK ((pass_loose hr hn).1 hp) (h lb K hlb hK) h1 h2 e
theorem kind0 {C : Nat → Int} (h : Big s n C) : KindBig 0 s n C := by unfold KindBig; rw [if_pos rfl]; exact h
theorem kind1 {C : Nat → Int} (h : BrBig s n C) : KindBig 1 s n C := by unfold KindBig; rw [if_neg (by decide), if_pos rfl]; exact h
theorem kind2 {C : Nat → Int} (h : ∀ (lb : Nat) (K : Nat → Nat → Nat → Bool), s.lb = (lb : Int) → KOk s n lb K → Big (satS s n lb K) n C) : KindBig 2 s n C := by unfold KindBig; rw [if_neg (by decide), if_neg (by decide)]; exact h
end
end Pl
end Go.Proofs.YtdhloijdefnkpaaGreatDoor
namespace Go.Proofs.YtdhloijdefnkpaaGreatDoor
namespace Pl
noncomputable section
def looseY (s : Lts) (C : List Int) (x : S) : List S := (reachL (tauOf s x.2)).map fun e => (x.1, atL C e)
def looseX (s : Lts) (C : List Int) (xs : List S) : List S := (xs.filter (fun x => !decide (x.1 = 0))).flatMap (looseY s C)
def looseM (s : Lts) (C : List Int) (L : List Int) : List S := L.flatMap fun m => (0, atL C m) :: looseX s C (s.outs m)
end
variable {s : Lts} {C : List Int}
theorem looseD_eq (q : Nat) : looseD s C q = looseM s C (reachL (tauOf s (q : Int))) := rfl
theorem looseM_congr {L M : List Int} (h : ∀ x, x ∈ L ↔ x ∈ M) (z : S) : z ∈ looseM s C L ↔ z ∈ looseM s C M := by
  unfold looseM
  simp only [List.mem_flatMap, h]
theorem looseM_snoc {L : List Int} {k : Nat} {m : Int} (h : L[k]? = some m) : looseM s C (L.take (k + 1)) = looseM s C (L.take k) ++ ((0, atL C m) :: looseX s C (s.outs m)) := by
  unfold looseM
  rw [take_snoc h, List.flatMap_append]
  simp
theorem looseX_snoc {xs : List S} {r : Nat} {y : S} (h : xs[r]? = some y) : looseX s C (xs.take (r + 1)) = if y.1 = 0 then looseX s C (xs.take r) else looseX s C (xs.take r) ++ looseY s C y := by
  unfold looseX
  rw [take_snoc h, List.filter_append, List.flatMap_append]
  by_cases e : y.1 = 0
  · rw [if_pos e]; simp [e]
  · rw [if_neg e]; simp [e]
def SeenL (s : Lts) (C : List Int) (Z A : List S) : Prop := ∀ z ∈ Z, ∀ y ∈ looseY s C z, y ∈ A
theorem SeenL.app {Z A B : List S} (h : SeenL s C Z A) : SeenL s C Z (A ++ B) := fun z hz y hy => List.mem_append_left _ (h z hz y hy)
theorem SeenL.congr {Z A B : List S} (h : SeenL s C Z A) (e : ∀ y, y ∈ A → y ∈ B) : SeenL s C Z B := fun z hz y hy => e y (h z hz y hy)
theorem SeenL.add {Z A : List S} {x : S} (h : SeenL s C Z A) (hx : ∀ y ∈ looseY s C x, y ∈ A) : SeenL s C (Z ++ [x]) A := fun z hz y hy => by
  rcases List.mem_append.1 hz with h1 | h1
  · exact h z h1 y hy
  · simp only [List.mem_singleton] at h1; subst h1; exact hx y hy
end Pl
end Go.Proofs.YtdhloijdefnkpaaGreatDoor

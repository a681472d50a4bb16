/-
  Plain: what the states of a cycle of inert steps do by classes; two states that do the same are together (chapter 12's Steps).
-/
import Derived.Test.YtmlmjhmdjieigaaGreatDoorGAlive12
namespace Go.Proofs.YtmlmjhmdjieigaaGreatDoor
open Go.RowKit Pl
namespace Pl

/-- The system of the inert steps alone. -/
def inertE (C : Nat → Int) (x : E) : Bool := decide (x.2.1 = 0) && decide (C x.2.2.toNat = C x.1.toNat)
def stillS (s : Lts) (C : Nat → Int) : Lts := { s with es := s.es.filter (inertE C) }
theorem stillS_right {s : Lts} (h : s.Right) (C : Nat → Int) : (stillS s C).Right := by
  have hr := h.st0
  refine ⟨?_, fun x hx => h.edges x (List.mem_filter.1 hx).1⟩
  have := List.length_filter_le (inertE C) s.es
  unfold HeadBad stillS
  simp only
  omega
theorem tau_still {s : Lts} {C : Nat → Int} {x y : Nat} : tau (stillS s C) x y ↔ stp s x 0 y ∧ C y = C x := by
  unfold tau stillS stp
  simp [List.mem_filter, inertE]
/-- One step's share. -/
def shareC (C : Nat → Int) (g : Nat → Nat) (F : Nat → List S) (p : Nat) (x : S) : List S :=
  if x.1 = 0 ∧ C x.2.toNat = C p then (if g x.2.toNat = g p then [] else F x.2.toNat) else [(x.1, C x.2.toNat)]
/-- What a state does itself. -/
def actC (s : Lts) (C : Nat → Int) (g : Nat → Nat) (F : Nat → List S) (q : Nat) : List S := (s.outs (q : Int)).flatMap (shareC C g F q)
theorem sig_cyc {s t : Lts} {n : Nat} (hr : s.Right) (hn : s.st = (n : Int)) {C : Nat → Int} {f : Nat → Int} (ht : ∀ x y, tau t x y ↔ stp s x 0 y ∧ C y = C x) (hc : Cyc t n f) {F : Nat → List S} {k : Nat}
    (hF : ∀ p u, p < n → asF n f p = k → tau t p u → asF n f u ≠ k → SigOk s C u (F u)) {p : Nat} (hp : p < n) (hpk : asF n f p = k) :
    SigOk s C p (nf ltS ((blkO n f k).flatMap (actC s C (asF n f) F))) := by
  refine ⟨srt_nf stoS _, fun l e => ?_⟩
  rw [mem_nf stoS, List.mem_flatMap]
  constructor
  · rintro ⟨q, hq, h1⟩
    obtain ⟨hqn, hqk⟩ := mem_blkO.1 hq
    have hpq := (asF_same hc hp hqn).1 (by rw [hpk, hqk])
    have hvia : ∀ z, TR t p z → Via s (fun x => C x = C p) p z := by
      intro z hz
      induction hz with
      | refl => exact .refl rfl
      | tail h3 h4 ih =>
        have h5 := (ht _ _).1 h4
        exact .tail ih h5.1 (by rw [h5.2, ih.last])
    refine Sg.via (hvia q hpq.1) ?_
    obtain ⟨⟨a, b⟩, h2, h3⟩ := List.mem_flatMap.1 h1
    have h4 : ((q : Int), a, b) ∈ s.es := mem_outs.1 h2
    have h5 := offB_false.1 (hr.edges _ h4)
    simp only at h5
    obtain ⟨u, rfl⟩ := Int.eq_ofNat_of_zero_le h5.2.2.2.2.1
    unfold shareC at h3
    simp only [Int.toNat_natCast] at h3
    split at h3
    · rename_i hi
      obtain ⟨rfl, hi⟩ := hi
      split at h3
      · cases h3
      · rename_i hne
        have htu := (ht q u).2 ⟨h4, hi⟩
        exact .on h4 hi (((hF q u hqn hqk htu (by rw [← hqk]; exact hne)).mem l e).1 h3)
    · rename_i hi
      simp only [List.mem_singleton, Prod.mk.injEq] at h3
      obtain ⟨rfl, rfl⟩ := h3
      exact .here h4 hi
  · intro h
    induction h with
    | @here q u l h1 h2 =>
      refine ⟨q, mem_blkO.2 ⟨hp, hpk⟩, List.mem_flatMap.2 ⟨(l, (u : Int)), mem_outs.2 h1, ?_⟩⟩
      unfold shareC; simp only [Int.toNat_natCast]; rw [if_neg h2]; simp
    | @on q u l e h1 h2 h3 ih =>
      by_cases hk : asF n f u = k
      · exact ih (stp_lt hr hn h1).2.1 hk
      · refine ⟨q, mem_blkO.2 ⟨hp, hpk⟩, List.mem_flatMap.2 ⟨(0, (u : Int)), mem_outs.2 h1, ?_⟩⟩
        unfold shareC; simp only [Int.toNat_natCast]
        rw [if_pos ⟨trivial, h2⟩, if_neg (by rw [hpk]; exact hk)]
        exact ((hF q u hp hpk ((ht q u).2 ⟨h1, h2⟩) hk).mem l e).2 h3
/-! how long the lists get -/
theorem flat_take_le {α β : Type} (f : α → List β) (L : List α) (r : Nat) : ((L.take r).flatMap f).length ≤ (L.flatMap f).length := by
  conv => rhs; rw [← List.take_append_drop r L]
  rw [List.flatMap_append, List.length_append]; omega
theorem outs_cons (x : E) (es : List E) (a b c : Int) (q : Int) : (Lts.outs ⟨a, b, c, x :: es⟩ q).length = (Lts.outs ⟨a, b, c, es⟩ q).length + (if x.1 = q then 1 else 0) := by
  unfold Lts.outs
  simp only [List.length_map, List.filter_cons]
  by_cases h : x.1 = q
  · simp [h]
  · simp [h]
theorem flat_len_add (x : E) (es : List E) (a b c : Int) : ∀ L : List Nat, L.Nodup → (L.flatMap (fun q : Nat => Lts.outs ⟨a, b, c, x :: es⟩ (q : Int))).length ≤ (L.flatMap (fun q : Nat => Lts.outs ⟨a, b, c, es⟩ (q : Int))).length + (if x.1.toNat ∈ L then 1 else 0)
  | [], _ => by simp
  | q :: L, hn => by
    have hn2 := List.nodup_cons.1 hn
    have ih := flat_len_add x es a b c L hn2.2
    rw [List.flatMap_cons, List.flatMap_cons, List.length_append, List.length_append, outs_cons]
    by_cases h : x.1 = (q : Int)
    · have e : x.1.toNat = q := by omega
      rw [e] at ih ⊢
      rw [if_neg hn2.1] at ih
      rw [if_pos h, if_pos (by simp)]
      omega
    · rw [if_neg h]
      by_cases h2 : x.1.toNat ∈ L
      · rw [if_pos h2] at ih; rw [if_pos (by simp [h2])]; omega
      · rw [if_neg h2] at ih; omega
theorem outs_blk_le (L : List Nat) (hn : L.Nodup) (a b c : Int) : ∀ es : List E, (L.flatMap (fun q : Nat => Lts.outs ⟨a, b, c, es⟩ (q : Int))).length ≤ es.length
  | [] => by
    have : L.flatMap (fun q : Nat => Lts.outs ⟨a, b, c, []⟩ (q : Int)) = [] := by
      rw [List.flatMap_eq_nil_iff]; intro q _; rfl
    rw [this]; simp
  | x :: es => by
    have h1 := flat_len_add x es a b c L hn
    have h2 := outs_blk_le L hn a b c es
    rw [List.length_cons]
    split at h1 <;> omega
theorem shareC_len {C : Nat → Int} {g : Nat → Nat} {F : Nat → List S} {k : Nat} (hk : 1 ≤ k) (hF : ∀ t, (F t).length ≤ k) (p : Nat) : ∀ L : List S, (L.flatMap (shareC C g F p)).length ≤ L.length * k
  | [] => by simp
  | x :: L => by
    have ih := shareC_len (C := C) (g := g) hk hF p L
    have h1 : (shareC C g F p x).length ≤ k := by
      unfold shareC
      split
      · split
        · simp
        · exact hF _
      · simpa using hk
    rw [List.flatMap_cons, List.length_append, List.length_cons, Nat.succ_mul]; omega
theorem actC_len {s : Lts} {C : Nat → Int} {g : Nat → Nat} {F : Nat → List S} {k : Nat} (hk : 1 ≤ k) (hF : ∀ t, (F t).length ≤ k) : ∀ L : List Nat, (L.flatMap (actC s C g F)).length ≤ (L.flatMap (fun q : Nat => s.outs (q : Int))).length * k
  | [] => by simp
  | q :: L => by
    have ih := actC_len (s := s) (C := C) (g := g) hk hF L
    have h1 := shareC_len (C := C) (g := g) hk hF q (s.outs (q : Int))
    rw [List.flatMap_cons, List.flatMap_cons, List.length_append, List.length_append, Nat.add_mul]
    unfold actC at ih ⊢
    omega
theorem blk_nodup {n : Nat} {f : Nat → Int} (k : Nat) : (blkO n f k).Nodup := List.Nodup.sublist List.filter_sublist List.nodup_range
theorem actC_blk {s : Lts} {n : Nat} {f C : Nat → Int} {g : Nat → Nat} {F : Nat → List S} (he : s.es.length ≤ 900) (hF : ∀ t, (F t).length ≤ 900) (k : Nat) : ((blkO n f k).flatMap (actC s C g F)).length ≤ 900 * 900 := by
  have h1 := actC_len (s := s) (C := C) (g := g) (by omega) hF (blkO n f k)
  have h2 := outs_blk_le (blkO n f k) (blk_nodup k) s.st s.lb s.s0 s.es
  refine Nat.le_trans h1 (Nat.mul_le_mul_right _ (Nat.le_trans h2 he))
/-- Who does the same is together. -/
theorem same_sg {s : Lts} {n : Nat} (hr : s.Right) (hn : s.st = (n : Int)) {C : Nat → Int} (h : BrBig s n C) {p q : Nat} (hp : p < n) (hq : q < n) (hs : ∀ l e, Sg s C p l e ↔ Sg s C q l e) : C p = C q := by
  have hall : ∀ x y, x < n → y < n → (C x = C y ∨ (C x = C p ∧ C y = C q) ∨ (C x = C q ∧ C y = C p)) → ∀ l e, Sg s C x l e → Sg s C y l e := by
    intro x y hx hy hxy l e hsg
    rcases hxy with e1 | ⟨e1, e2⟩ | ⟨e1, e2⟩
    · exact h.still x y hx hy e1 l e hsg
    · exact h.still q y hq hy e2.symm l e ((hs l e).1 (h.still x p hx hp e1 l e hsg))
    · exact h.still p y hp hy e2.symm l e ((hs l e).2 (h.still x q hx hq e1 l e hsg))
  have key : ∀ x y, x < n → y < n → (C x = C y ∨ (C x = C p ∧ C y = C q) ∨ (C x = C q ∧ C y = C p)) → ∀ l x', x' < n → stp s x l x' → (l = 0 ∧ (C x' = C y ∨ (C x' = C p ∧ C y = C q) ∨ (C x' = C q ∧ C y = C p))) ∨ ∃ q0 q', Via s (fun z => z < n ∧ C z = C y) y q0 ∧ q' < n ∧ stp s q0 l q' ∧ C x' = C q' := by
    intro x y hx hy hxy l x' hx' hst
    by_cases hi : l = 0 ∧ C x' = C x
    · exact .inl ⟨hi.1, by rw [hi.2]; exact hxy⟩
    · have h1 := hall x y hx hy hxy l _ (.here hst hi)
      obtain ⟨q0, q', h2, h3, h4, _⟩ := h1.way
      have h5 := h2.lt hr hn hy
      exact .inr ⟨q0, q', h5.1, (stp_lt hr hn h3).2.1, h3, h4.symm⟩
  refine h.all (fun x y => C x = C y ∨ (C x = C p ∧ C y = C q) ∨ (C x = C q ∧ C y = C p)) ⟨fun x y hx hy hxy l x' hx' hst => ?_, fun x y hx hy hxy l y' hy' hst => ?_⟩ p q hp hq (.inr (.inl ⟨rfl, rfl⟩))
  · rcases key x y hx hy hxy l x' hx' hst with h1 | ⟨q0, q', h1, h2, h3, h4⟩
    · exact .inl h1
    · refine .inr ⟨q0, q', h1.mono (fun z hz => ⟨hz.1, ?_⟩), h2, h3, .inl h4⟩
      rcases hxy with e1 | ⟨e1, e2⟩ | ⟨e1, e2⟩
      · exact .inl (by rw [e1, hz.2])
      · exact .inr (.inl ⟨e1, by rw [hz.2, e2]⟩)
      · exact .inr (.inr ⟨e1, by rw [hz.2, e2]⟩)
  · have hyx : C y = C x ∨ (C y = C p ∧ C x = C q) ∨ (C y = C q ∧ C x = C p) := by
      rcases hxy with e1 | ⟨e1, e2⟩ | ⟨e1, e2⟩
      · exact .inl e1.symm
      · exact .inr (.inr ⟨e2, e1⟩)
      · exact .inr (.inl ⟨e2, e1⟩)
    rcases key y x hy hx hyx l y' hy' hst with ⟨h0, h1⟩ | ⟨q0, q', h1, h2, h3, h4⟩
    · refine .inl ⟨h0, ?_⟩
      rcases h1 with e1 | ⟨e1, e2⟩ | ⟨e1, e2⟩
      · exact .inl e1.symm
      · exact .inr (.inr ⟨e2, e1⟩)
      · exact .inr (.inl ⟨e2, e1⟩)
    · refine .inr ⟨q0, q', h1.mono (fun z hz => ⟨hz.1, ?_⟩), h2, h3, .inl h4.symm⟩
      rcases hxy with e1 | ⟨e1, e2⟩ | ⟨e1, e2⟩
      · exact .inl (by rw [hz.2, e1])
      · exact .inr (.inl ⟨by rw [hz.2, e1], e2⟩)
      · exact .inr (.inr ⟨by rw [hz.2, e1], e2⟩)
/-- Chapter 12's Steps: together just if they do the same. -/
theorem same_iff {s : Lts} {n : Nat} (hr : s.Right) (hn : s.st = (n : Int)) {C : Nat → Int} (h : BrBig s n C) {p q : Nat} (hp : p < n) (hq : q < n) {L M : List S} (hL : SigOk s C p L) (hM : SigOk s C q M) : C p = C q ↔ L = M := by
  rw [hL.eq hM]
  exact ⟨fun e l e2 => ⟨h.still p q hp hq e l e2, h.still q p hq hp e.symm l e2⟩, same_sg hr hn h hp hq⟩
end Pl
end Go.Proofs.YtmlmjhmdjieigaaGreatDoor

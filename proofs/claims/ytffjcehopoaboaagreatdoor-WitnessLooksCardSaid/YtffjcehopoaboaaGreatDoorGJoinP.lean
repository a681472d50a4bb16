/-
  Lemmas.
-/
import Derived.Test.YtffjcehopoaboaaGreatDoorWitH
import Derived.Test.YtffjcehopoaboaaGreatDoorGStrA
import Derived.Test.YtffjcehopoaboaaGreatDoorGKeyS
import Derived.Test.YtffjcehopoaboaaGreatDoorGWitF
import Derived.Test.YtffjcehopoaboaaGreatDoorGOrdB
import Derived.Test.YtffjcehopoaboaaGreatDoorGStepsP
import Derived.Test.YtffjcehopoaboaaGreatDoorGRefSame7
namespace Go.Proofs.YtffjcehopoaboaaGreatDoor
open Go.RowKit Pl
def joinF (g : Nat → Int) (a b : Int) (x : Nat) : Int := if g x = b then a else g x
end Go.Proofs.YtffjcehopoaboaaGreatDoor
namespace Go.Proofs.YtffjcehopoaboaaGreatDoor
open Go.RowKit Pl
namespace Pl
theorem atL_flW {n : Nat} {f : Nat → Int} {t : Nat} (h : t < n) : atL (fl n f) (t : Int) = f t := by
  unfold atL
  rw [Int.toNat_natCast, List.getD_eq_getElem?_getD, fl_get f h]; rfl
section
variable {s : Lts} {n : Nat}
theorem rch_tau (hr : s.Right) {q m : Nat} : Rch (tauOf s (q : Int)) (m : Int) ↔ TR s q m := by
  constructor
  · intro h
    have h1 := h (fun x => ∃ m : Nat, x = (m : Int) ∧ TR s q m) ⟨q, rfl, .refl⟩ (by
      rintro a l b ⟨m, rfl, h2⟩ h3
      unfold tauOf at h3
      simp only [List.mem_filter, beq_iff_eq] at h3
      obtain ⟨h3, rfl⟩ := h3
      have h4 := offB_false.1 (hr.edges _ h3)
      simp only at h4
      obtain ⟨b, rfl⟩ := Int.eq_ofNat_of_zero_le h4.2.2.2.2.1
      exact ⟨b, rfl, h2.tail h3⟩)
    obtain ⟨m', h2, h3⟩ := h1
    obtain rfl : m = m' := by omega
    exact h3
  · intro h
    induction h with
    | refl => exact Rch.start _
    | @tail a b _ h2 ih => exact ih.step (l := 0) (by unfold tauOf; simp only [List.mem_filter]; exact ⟨h2, by simp⟩)
def PassD (s : Lts) (n : Nat) (C : List Int) (D : Nat → List S) : Prop := ∀ p q, p < n → q < n → atL C (p : Int) = atL C (q : Int) → failD s C D p q = none
theorem mem_plainD (hr : s.Right) (hn : s.st = (n : Int)) {f : Nat → Int} {q : Nat} {l c : Int} : (l, c) ∈ plainD s.norm (fl n f) (q : Int) ↔ ∃ u, stp s q l u ∧ c = f u := by
  unfold plainD
  rw [List.mem_map]
  constructor
  · rintro ⟨⟨a, b⟩, h1, h2⟩
    have h1 := mem_outs.1 h1
    have h3 := offB_false.1 (hr.norm.edges _ h1)
    simp only at h3
    obtain ⟨b, rfl⟩ := Int.eq_ofNat_of_zero_le h3.2.2.2.2.1
    have hs : stp s q a b := stp_normO.1 h1
    have ht := (stp_lt hr hn hs).2.1
    simp only [Prod.mk.injEq] at h2
    obtain ⟨rfl, rfl⟩ := h2
    exact ⟨b, hs, by rw [atL_flW ht]⟩
  · rintro ⟨u, h1, rfl⟩
    have ht := (stp_lt hr hn h1).2.1
    exact ⟨(l, (u : Int)), mem_outs.2 (stp_normO.2 h1), by rw [atL_flW ht]⟩
theorem tr_norm {p q : Nat} : TR s.norm p q ↔ TR s p q := by
  constructor <;> intro h <;> induction h with
  | refl => exact .refl
  | tail _ h2 ih => first | exact ih.tail (stp_normO.1 h2) | exact ih.tail (stp_normO.2 h2)
theorem mem_lateD (hr : s.Right) (hn : s.st = (n : Int)) {f : Nat → Int} {q : Nat} (hq : q < n) {l c : Int} : (l, c) ∈ lateD s.norm (fl n f) q ↔ (l = 0 ∧ c = f q) ∨ ∃ m u, TR s q m ∧ f m = f q ∧ stp s m l u ∧ c = f u := by
  unfold lateD
  rw [List.mem_cons, List.mem_flatMap]
  simp only [List.mem_filter, decide_eq_true_eq, Prod.mk.injEq]
  rw [atL_flW hq]
  refine or_congr Iff.rfl ?_
  constructor
  · rintro ⟨m, ⟨h1, h2⟩, h3⟩
    have h4 := (mem_reachL (tauOf_right hr.norm (by omega) (by show (q : Int) < s.st; omega)) (by show s.st ≠ 0; omega)).1 h1
    have h0 : ∃ m' : Nat, m = (m' : Int) ∧ TR s.norm q m' := h4 (fun x => ∃ m : Nat, x = (m : Int) ∧ TR s.norm q m) ⟨q, rfl, .refl⟩ (by
      rintro a l b ⟨m, rfl, h2⟩ h3
      unfold tauOf at h3
      simp only [List.mem_filter, beq_iff_eq] at h3
      obtain ⟨h3, rfl⟩ := h3
      have h4 := offB_false.1 (hr.norm.edges _ h3)
      simp only at h4
      obtain ⟨b, rfl⟩ := Int.eq_ofNat_of_zero_le h4.2.2.2.2.1
      exact ⟨b, rfl, h2.tail h3⟩)
    obtain ⟨m, rfl, h5⟩ := h0
    have h6 := tr_norm.1 h5
    have hm := h6.ltW hr hn hq
    rw [atL_flW hm] at h2
    obtain ⟨u, h7, h8⟩ := (mem_plainD hr hn).1 h3
    exact ⟨m, u, h6, h2, h7, h8⟩
  · rintro ⟨m, u, h1, h2, h3, h4⟩
    have hm := h1.ltW hr hn hq
    refine ⟨(m : Int), ⟨(mem_reachL (tauOf_right hr.norm (by omega) (by show (q : Int) < s.st; omega)) (by show s.st ≠ 0; omega)).2 ((rch_tau hr.norm).2 (tr_norm.2 h1)), by rw [atL_flW hm]; exact h2⟩, (mem_plainD hr hn).2 ⟨u, h3, h4⟩⟩
def CRch (s : Lts) (n : Nat) (f : Nat → Int) (c d : Int) : Prop := ∀ p, p < n → f p = c → ∃ m, TR s p m ∧ f m = d
theorem CRch.refl (c : Int) {f : Nat → Int} : CRch s n f c c := fun p _ e => ⟨p, .refl, e⟩
theorem CRch.trans (hr : s.Right) (hn : s.st = (n : Int)) {f : Nat → Int} {c d e : Int} (h : CRch s n f c d) (h2 : CRch s n f d e) : CRch s n f c e := fun p hp ep => by
  obtain ⟨m, h3, h4⟩ := h p hp ep
  obtain ⟨m2, h5, h6⟩ := h2 m (h3.ltW hr hn hp) h4
  exact ⟨m2, h3.trans h5, h6⟩
def LateP (s : Lts) (n : Nat) (f : Nat → Int) : Prop := ∀ p q, p < n → q < n → f p = f q → ∀ l t, stp s p l t → (l = 0 ∧ f t = f q) ∨ ∃ m u, TR s q m ∧ f m = f q ∧ stp s m l u ∧ f t = f u
theorem LateP.tr (hr : s.Right) (hn : s.st = (n : Int)) {f : Nat → Int} (h : LateP s n f) {p q : Nat} (ht : TR s p q) : CRch s n f (f p) (f q) := by
  induction ht with
  | refl => exact .refl _
  | @tail a b h1 h2 ih =>
    refine CRch.trans hr hn ih (fun x hx ex => ?_)
    rcases h a x (tau_lt hr hn h2).1 hx ex.symm 0 b h2 with ⟨_, h3⟩ | ⟨m, u, h3, _, h5, h6⟩
    · exact ⟨x, .refl, h3.symm⟩
    · exact ⟨u, h3.tail h5, h6.symm⟩
theorem LateP.via (hr : s.Right) (hn : s.st = (n : Int)) {f : Nat → Int} (h : LateP s n f) {p q m : Nat} (hq : q < n) (hpq : CRch s n f (f p) (f q)) (ht : TR s q m) (hm : f m = f p) :
    Via s (fun x => x < n ∧ (CRch s n f (f p) (f x) ∧ CRch s n f (f x) (f p))) q m := by
  have key : ∀ x, TR s q x → CRch s n f (f x) (f p) → Via s (fun x => x < n ∧ (CRch s n f (f p) (f x) ∧ CRch s n f (f x) (f p))) q x := by
    intro x hx
    induction hx with
    | refl => exact fun h1 => .refl ⟨hq, hpq, h1⟩
    | @tail a b h1 h2 ih =>
      intro h3
      have hab := tau_lt hr hn h2
      have h4 := h.tr hr hn (TR.one h2)
      exact .tail (ih (h4.trans hr hn h3)) h2 ⟨hab.2, hpq.trans hr hn (h.tr hr hn (h1.tail h2)), h3⟩
  exact key m ht (by rw [hm]; exact .refl _)
/-! weak -/
def LooseP (s : Lts) (n : Nat) (f : Nat → Int) : Prop := ∀ p q, p < n → q < n → f p = f q → ∀ l t, stp s p l t → ∃ u, wst s q l u ∧ f t = f u
theorem LooseP.tr (hr : s.Right) (hn : s.st = (n : Int)) {f : Nat → Int} (h : LooseP s n f) {p p' : Nat} (hs : TR s p p') : ∀ q, q < n → f p = f q → ∃ q', TR s q q' ∧ f p' = f q' := by
  induction hs with
  | refl => exact fun q _ e => ⟨q, .refl, e⟩
  | @tail a b h1 h2 ih =>
    intro q hq e
    obtain ⟨q1, h3, h4⟩ := ih q hq e
    obtain ⟨u, h5, h6⟩ := h a q1 (tau_lt hr hn h2).1 (h3.ltW hr hn hq) h4 0 b h2
    exact ⟨u, h3.trans (wst_zero.1 h5), h6⟩
theorem LooseP.wst (hr : s.Right) (hn : s.st = (n : Int)) {f : Nat → Int} (h : LooseP s n f) {p p' : Nat} {l : Int} (hs : wst s p l p') {q : Nat} (hq : q < n) (e : f p = f q) : ∃ q', wst s q l q' ∧ f p' = f q' := by
  obtain ⟨m, t, h1, h2, h3⟩ := hs
  obtain ⟨q1, h4, h5⟩ := h.tr hr hn h1 q hq e
  have hq1 := h4.ltW hr hn hq
  rcases h2 with ⟨rfl, rfl⟩ | ⟨hl, h2⟩
  · obtain ⟨q2, h6, h7⟩ := h.tr hr hn h3 q1 hq1 h5
    exact ⟨q2, wst_zero.2 (h4.trans h6), h7⟩
  · obtain ⟨u, h6, h7⟩ := h m q1 (stp_lt hr hn h2).1 hq1 h5 l t h2
    have hu := (wst_lt hr hn h6 hq1).1
    obtain ⟨q2, h8, h9⟩ := h.tr hr hn h3 u hu h7
    exact ⟨q2, wst_post (wst_pre h4 h6) h8, h9⟩
theorem stp_wst {p t : Nat} {l : Int} (h : stp s p l t) : Pl.wst s p l t := by
  by_cases hl : l = 0
  · subst hl; exact wst_zero.2 (TR.one h)
  · exact (wst_ne hl).2 ⟨p, t, .refl, h, .refl⟩
noncomputable def looseD (s : Lts) (C : List Int) (q : Nat) : List S :=
  (reachL (tauOf s (q : Int))).flatMap fun m => (0, atL C m) :: ((s.outs m).filter (fun x => !decide (x.1 = 0))).flatMap fun x => (reachL (tauOf s x.2)).map fun e => (x.1, atL C e)
theorem mem_reach_tau (hr : s.Right) (hn : s.st = (n : Int)) {q : Nat} (hq : q < n) {x : Int} : x ∈ reachL (tauOf s (q : Int)) ↔ ∃ m : Nat, x = (m : Int) ∧ TR s q m := by
  rw [mem_reachL (tauOf_right hr (by omega) (by omega)) (by show s.st ≠ 0; omega)]
  constructor
  · intro h
    refine h (fun x => ∃ m : Nat, x = (m : Int) ∧ TR s q m) ⟨q, rfl, .refl⟩ ?_
    rintro a l b ⟨m, rfl, h2⟩ h3
    unfold tauOf at h3
    simp only [List.mem_filter, beq_iff_eq] at h3
    obtain ⟨h3, rfl⟩ := h3
    have h4 := offB_false.1 (hr.edges _ h3)
    simp only at h4
    obtain ⟨b, rfl⟩ := Int.eq_ofNat_of_zero_le h4.2.2.2.2.1
    exact ⟨b, rfl, h2.tail h3⟩
  · rintro ⟨m, rfl, h⟩
    exact (rch_tau hr).2 h
theorem mem_looseD (hr : s.Right) (hn : s.st = (n : Int)) {f : Nat → Int} {q : Nat} (hq : q < n) {l c : Int} : (l, c) ∈ looseD s (fl n f) q ↔ ∃ u, Pl.wst s q l u ∧ c = f u := by
  unfold looseD
  rw [List.mem_flatMap]
  constructor
  · rintro ⟨m, h1, h2⟩
    obtain ⟨m, rfl, h3⟩ := (mem_reach_tau hr hn hq).1 h1
    have hm := h3.ltW hr hn hq
    rcases List.mem_cons.1 h2 with h4 | h4
    · simp only [Prod.mk.injEq] at h4
      obtain ⟨rfl, rfl⟩ := h4
      exact ⟨m, wst_zero.2 h3, by rw [atL_flW hm]⟩
    · obtain ⟨⟨a, b⟩, h5, h6⟩ := List.mem_flatMap.1 h4
      obtain ⟨h5, h7⟩ := List.mem_filter.1 h5
      have h8 := mem_outs.1 h5
      have h9 := offB_false.1 (hr.edges _ h8)
      simp only at h9
      obtain ⟨b, rfl⟩ := Int.eq_ofNat_of_zero_le h9.2.2.2.2.1
      have hb : b < n := by omega
      obtain ⟨e, h10, h11⟩ := List.mem_map.1 h6
      obtain ⟨e, rfl, h12⟩ := (mem_reach_tau hr hn hb).1 h10
      have he := h12.ltW hr hn hb
      simp only [Prod.mk.injEq] at h11
      obtain ⟨rfl, rfl⟩ := h11
      simp only [Bool.not_eq_true', decide_eq_false_iff_not] at h7
      exact ⟨e, (wst_ne h7).2 ⟨m, b, h3, h8, h12⟩, by rw [atL_flW he]⟩
  · rintro ⟨u, h1, rfl⟩
    obtain ⟨m, t, h2, h3, h4⟩ := h1
    have hm := h2.ltW hr hn hq
    rcases h3 with ⟨rfl, rfl⟩ | ⟨hl, h3⟩
    · have hu := (h2.trans h4).ltW hr hn hq
      exact ⟨(u : Int), (mem_reach_tau hr hn hq).2 ⟨u, rfl, h2.trans h4⟩, by rw [List.mem_cons, atL_flW hu]; exact .inl rfl⟩
    · have ht := (stp_lt hr hn h3).2.1
      have hu := h4.ltW hr hn ht
      refine ⟨(m : Int), (mem_reach_tau hr hn hq).2 ⟨m, rfl, h2⟩, List.mem_cons_of_mem _ (List.mem_flatMap.2 ⟨(l, (t : Int)), List.mem_filter.2 ⟨mem_outs.2 h3, by simp [hl]⟩, List.mem_map.2 ⟨(u : Int), (mem_reach_tau hr hn ht).2 ⟨u, rfl, h4⟩, by rw [atL_flW hu]⟩⟩)⟩
end
end Pl
end Go.Proofs.YtffjcehopoaboaaGreatDoor
namespace Go.Proofs.YtffjcehopoaboaaGreatDoor
open Go.RowKit Pl
namespace Pl
section
variable {s : Lts} {n lb : Nat}
theorem intoB_iff {C : List Int} {ls : List S} {x : S} : intoB C ls x = true ↔ ∃ y ∈ ls, y.1 = x.1 ∧ atL C y.2 = atL C x.2 := by
  unfold intoB
  simp only [List.any_eq_true, Bool.and_eq_true, decide_eq_true_eq]
theorem into_plain {C : List Int} {q : Int} {x : S} : intoB C (s.outs q) x = decide ((x.1, atL C x.2) ∈ plainD s C q) := by
  rw [Bool.eq_iff_iff, intoB_iff, decide_eq_true_eq]
  unfold plainD
  rw [List.mem_map]
  constructor
  · rintro ⟨y, hy, h1, h2⟩; exact ⟨y, hy, by rw [h1, h2]⟩
  · rintro ⟨y, hy, h⟩
    simp only [Prod.mk.injEq] at h
    exact ⟨y, hy, h.1, h.2⟩
theorem into_loose (hr : s.Right) (hn : s.st = (n : Int)) (hlb : s.lb = (lb : Int)) {f : Nat → Int} {q : Nat} (hq : q < n) {x : S} : intoB (fl n f) (wkL s n lb q) x = decide ((x.1, atL (fl n f) x.2) ∈ looseD s.norm (fl n f) q) := by
  rw [Bool.eq_iff_iff, intoB_iff, decide_eq_true_eq, mem_looseD hr.norm (show s.norm.st = (n : Int) from hn) hq]
  constructor
  · rintro ⟨y, hy, h1, h2⟩
    obtain ⟨l, u, rfl, h3, h4, h5⟩ := (mem_wkL hr hn hq).1 hy
    simp only at h1 h2
    rw [atL_flK h4] at h2
    exact ⟨u, by rw [← h1]; exact wst_normK.2 h5, h2.symm⟩
  · rintro ⟨u, h1, h2⟩
    have h3 := wst_normK.1 h1
    obtain ⟨h4, h5, h6⟩ := wst_lt hr hn h3 hq
    obtain ⟨l, hl⟩ := Int.eq_ofNat_of_zero_le h5
    refine ⟨((l : Int), (u : Int)), (mem_wkL hr hn hq).2 ⟨l, u, rfl, by omega, h4, by rw [← hl]; exact h3⟩, hl.symm, ?_⟩
    rw [atL_flK h4, h2]
noncomputable def lateB (s : Lts) (n : Nat) (C : List Int) (p q : Nat) (x : S) : Bool :=
  (decide (x.1 = 0) && decide (atL C x.2 = atL C (q : Int))) || (List.range n).any (fun r => silG s q r && decide (atL C (r : Int) = atL C (p : Int)) && intoB C (s.norm.outs (r : Int)) x)
theorem late_iff (hr : s.Right) (hn : s.st = (n : Int)) {f : Nat → Int} {p q : Nat} (hp : p < n) (hq : q < n) (e : f p = f q) {x : S} : lateB s n (fl n f) p q x = decide ((x.1, atL (fl n f) x.2) ∈ lateD s.norm (fl n f) q) := by
  rw [Bool.eq_iff_iff, decide_eq_true_eq, mem_lateD hr hn hq]
  unfold lateB
  simp only [Bool.or_eq_true, Bool.and_eq_true, decide_eq_true_eq, List.any_eq_true, List.mem_range]
  rw [atL_flK hq, atL_flK hp]
  refine or_congr Iff.rfl ?_
  constructor
  · rintro ⟨r, hrn, ⟨h1, h2⟩, h3⟩
    rw [into_plain, decide_eq_true_eq, mem_plainD hr hn] at h3
    obtain ⟨u, h4, h5⟩ := h3
    rw [atL_flK hrn] at h2
    exact ⟨r, u, (silG_tr hr hn hq).1 h1, by rw [h2, e], h4, h5⟩
  · rintro ⟨m, u, h1, h2, h3, h4⟩
    have hm := h1.ltW hr hn hq
    refine ⟨m, hm, ⟨(silG_tr hr hn hq).2 h1, by rw [atL_flK hm, h2, e]⟩, ?_⟩
    rw [into_plain, decide_eq_true_eq, mem_plainD hr hn]
    exact ⟨u, h3, h4⟩
end
end Pl
end Go.Proofs.YtffjcehopoaboaaGreatDoor
namespace Go.Proofs.YtffjcehopoaboaaGreatDoor
open Go.RowKit Pl
def toV (s0 n : Nat) (H : Nat → Option (Nat → Bool)) (bk : Nat → Nat) (l : Nat) : Value := if l = 0 then .slice (some ⟨s0, 0, none⟩) n n else match H l with | none => .slice none 0 0 | some _ => .slice (some ⟨bk l, 0, none⟩) n n
structure ToM (w : World) (tb lb n s0 : Nat) (H : Nat → Option (Nat → Bool)) : Prop where
  ex : ∃ bk : Nat → Nat, w.rowIs tb 57 lb (toV s0 n H bk) ∧ (∀ l h, 0 < l → l < lb → H l = some h → tb < bk l ∧ w.rowIs (bk l) 4 n (fun q => .bool (h q))) ∧ ∀ l l', 0 < l → l < lb → 0 < l' → l' < lb → l ≠ l' → H l ≠ none → H l' ≠ none → bk l ≠ bk l'
section
variable {w w' : World} {tb lb n s0 m : Nat} {H H' : Nat → Option (Nat → Bool)}
theorem ToM.lt (h : ToM w tb lb n s0 H) : tb < w.heap.size := by obtain ⟨_, h1, _⟩ := h.ex; exact h1.lt
theorem ToM.congr (h : ToM w tb lb n s0 H) (e : ∀ l, H l = H' l) : ToM w tb lb n s0 H' := by
  have : H = H' := funext e
  rw [← this]; exact h
theorem ToM.congrN (h : ToM w tb lb n s0 H) (e : ∀ l, H l = none ↔ H' l = none) (e2 : ∀ l g g', H l = some g → H' l = some g' → ∀ q, q < n → g q = g' q) : ToM w tb lb n s0 H' := by
  obtain ⟨bk, h1, h2, h3⟩ := h.ex
  refine ⟨bk, h1.congr (fun l _ => ?_), fun l g' hl hlb hg' => ?_, fun l l' a b c d ne h6 h7 => h3 l l' a b c d ne (fun h => h6 ((e l).1 h)) (fun h => h7 ((e l').1 h))⟩
  · unfold toV
    cases hh : H l with
    | none => rw [(e l).1 hh]
    | some g =>
      cases hh' : H' l with
      | none => rw [(e l).2 hh'] at hh; cases hh
      | some g' => rfl
  · cases hh : H l with
    | none => rw [(e l).1 hh] at hg'; cases hg'
    | some g =>
      obtain ⟨h4, h5⟩ := h2 l g hl hlb hh
      exact ⟨h4, h5.congr (fun q hq => by rw [e2 l g g' hh hg' q hq])⟩
theorem ToM.kept (h : ToM w tb lb n s0 H) (hs : ∀ b, tb ≤ b → (∃ cs, w.heap[b]? = some (.cells cs 57 (0, 0)) ∨ w.heap[b]? = some (.cells cs 4 (0, 0))) → w'.heap[b]? = w.heap[b]?) : ToM w' tb lb n s0 H := by
  obtain ⟨bk, h1, h2, h3⟩ := h.ex
  refine ⟨bk, h1.of_block (hs tb (Nat.le_refl _) ?_), fun l g hl hlb hg => ?_, h3⟩
  · obtain ⟨cs, hc, _⟩ := h1; exact ⟨cs, .inl hc⟩
  · obtain ⟨h4, h5⟩ := h2 l g hl hlb hg
    refine ⟨h4, h5.of_block (hs _ (by omega) ?_)⟩
    obtain ⟨cs, hc, _⟩ := h5; exact ⟨cs, .inr hc⟩
theorem ToM.call (h : ToM w tb lb n s0 H) (hB : Below w.heap.size w w') : ToM w' tb lb n s0 H :=
  h.kept (fun b _ hc => hB.block b (by obtain ⟨cs, hc | hc⟩ := hc <;> exact (Array.getElem?_eq_some_iff.1 hc).1))
theorem ToM.zero (h : ToM w tb lb n s0 H) (h0 : 0 < lb) : w.cell? ⟨tb, 0, none⟩ = some (.slice (some ⟨s0, 0, none⟩) n n) := by
  obtain ⟨bk, h1, _⟩ := h.ex
  exact h1.cell h0
theorem ToM.fz (h : ToM w tb lb n s0 H) (l : Nat) : w.frozen? ⟨tb, l, none⟩ = false := by obtain ⟨_, h1, _⟩ := h.ex; exact h1.frozen l
theorem ToM.gone (h : ToM w tb lb n s0 H) {l : Nat} (hl : 0 < l) (hlb : l < lb) (hH : H l = none) : w.cell? ⟨tb, l, none⟩ = some (.slice none 0 0) := by
  obtain ⟨bk, h1, _⟩ := h.ex
  have := h1.cell hlb
  unfold toV at this
  rw [if_neg (by omega), hH] at this
  exact this
theorem ToM.at (h : ToM w tb lb n s0 H) {l : Nat} {g : Nat → Bool} (hl : 0 < l) (hlb : l < lb) (hH : H l = some g) : ∃ b, w.cell? ⟨tb, l, none⟩ = some (.slice (some ⟨b, 0, none⟩) n n) ∧ tb < b ∧ w.rowIs b 4 n (fun q => .bool (g q)) ∧
    ∀ (r : Nat) (x : Bool), ToM (w.setCell ⟨b, r, none⟩ (.bool x)) tb lb n s0 (fun l' => if l' = l then some (fun r' => if r' = r then x else g r') else H l') := by
  obtain ⟨bk, h1, h2, h3⟩ := h.ex
  have hc := h1.cell hlb
  unfold toV at hc
  rw [if_neg (by omega), hH] at hc
  obtain ⟨h4, h5⟩ := h2 l g hl hlb hH
  refine ⟨bk l, hc, h4, h5, fun r x => ⟨bk, (h1.of_block (Below.heap_setCell _ _ _ _ (by show tb ≠ bk l; omega))).congr (fun l' _ => ?_), fun l' g' hl' hlb' hg' => ?_, fun a b ha hab hb hbb hne h6 h7 => h3 a b ha hab hb hbb hne ?_ ?_⟩⟩
  · unfold toV
    by_cases e : l' = 0
    · rw [if_pos e, if_pos e]
    · rw [if_neg e, if_neg e]
      by_cases e2 : l' = l
      · subst e2; simp [hH]
      · simp [e2]
  · by_cases e : l' = l
    · subst e
      rw [if_pos rfl] at hg'
      obtain rfl := Option.some.inj hg'
      refine ⟨h4, ((h5.set r (.bool x)).congr (fun q _ => ?_))⟩
      by_cases e2 : q = r
      · simp [e2]
      · simp [e2]
    · rw [if_neg e] at hg'
      obtain ⟨h6, h7⟩ := h2 l' g' hl' hlb' hg'
      exact ⟨h6, h7.of_block (Below.heap_setCell _ _ _ _ (by show bk l' ≠ bk l; exact h3 l' l hl' hlb' hl hlb e (by rw [hg']; simp) (by rw [hH]; simp)))⟩
  · intro e
    by_cases e2 : a = l
    · subst e2; rw [hH] at e; cases e
    · rw [if_neg e2] at h6; exact h6 e
  · intro e
    by_cases e2 : b = l
    · subst e2; rw [hH] at e; cases e
    · rw [if_neg e2] at h7; exact h7 e
theorem ToM.new (h : ToM w tb lb n s0 H) {l : Nat} (hl : 0 < l) (hlb : l < lb) (hH : H l = none) : ToM ((w.setCell ⟨tb, l, none⟩ (.slice (some ⟨w.heap.size, 0, none⟩) n n)).alloc (.cells (madeCells #[.bool false] n) 4)) tb lb n s0 (fun l' => if l' = l then some (fun _ => false) else H l') := by
  obtain ⟨bk, h1, h2, h3⟩ := h.ex
  have hz : (w.setCell ⟨tb, l, none⟩ (.slice (some ⟨w.heap.size, 0, none⟩) n n)).heap.size = w.heap.size := size_setCell _ _ _
  have hr := World.rowIs_made (w.setCell ⟨tb, l, none⟩ (.slice (some ⟨w.heap.size, 0, none⟩) n n)) (.bool false) n 4
  rw [hz] at hr
  have hlt := h1.lt
  have hold : ∀ l' g', 0 < l' → l' < lb → H l' = some g' → bk l' < w.heap.size := fun l' g' a b c => (h2 l' g' a b c).2.lt
  refine ⟨fun l' => if l' = l then w.heap.size else bk l', ((h1.set l (.slice (some ⟨w.heap.size, 0, none⟩) n n)).alloc _).congr (fun l' _ => ?_), fun l' g' hl' hlb' hg' => ?_, fun a b ha hab hb hbb hne h6 h7 => ?_⟩
  · unfold toV
    by_cases e : l' = l
    · subst e; rw [if_pos rfl, if_neg (by omega)]; simp
    · rw [if_neg e]
      by_cases e0 : l' = 0
      · rw [if_pos e0, if_pos e0]
      · rw [if_neg e0, if_neg e0]
        simp [e]
  · dsimp only at hg' ⊢
    by_cases e : l' = l
    · subst e
      rw [if_pos rfl] at hg' ⊢
      obtain rfl := Option.some.inj hg'
      exact ⟨hlt, hr⟩
    · rw [if_neg e] at hg' ⊢
      obtain ⟨h6, h7⟩ := h2 l' g' hl' hlb' hg'
      exact ⟨h6, (h7.of_block (Below.heap_setCell _ _ _ _ (by show bk l' ≠ tb; omega))).alloc _⟩
  · dsimp only at h6 h7 ⊢
    by_cases e : a = l
    · subst e
      rw [if_neg (Ne.symm hne)] at h7
      rw [if_pos rfl, if_neg (Ne.symm hne)]
      cases hb2 : H b with
      | none => exact absurd hb2 h7
      | some g' => have := hold b g' hb hbb hb2; omega
    · rw [if_neg e] at h6
      rw [if_neg e]
      by_cases e2 : b = l
      · subst e2
        rw [if_pos rfl]
        cases ha2 : H a with
        | none => exact absurd ha2 h6
        | some g' => have := hold a g' ha hab ha2; omega
      · rw [if_neg e2] at h7 ⊢
        exact h3 a b ha hab hb hbb hne h6 h7
theorem ToM.made (w : World) {lb : Nat} (h0 : 0 < lb) (n s0 : Nat) : ToM ((w.alloc (.cells (madeCells #[.slice none 0 0] lb) 57)).setCell ⟨w.heap.size, 0, none⟩ (.slice (some ⟨s0, 0, none⟩) n n)) w.heap.size lb n s0 (fun _ => none) :=
  ⟨fun _ => 0, ((World.rowIs_made w (.slice none 0 0) lb 57).set 0 _).congr (fun l _ => by unfold toV; by_cases e : l = 0 <;> simp [e]), (fun l h _ _ hh => by cases hh), fun _ _ _ _ _ _ _ h6 => absurd rfl h6⟩
end
end Go.Proofs.YtffjcehopoaboaaGreatDoor

/-
  Lemmas.
-/
import Derived.Test.YtbaccmlfnbgehaaGreatDoorGPlS
import Derived.Test.YtbaccmlfnbgehaaGreatDoorGPl4
import Derived.Lib.ItoaLen
namespace Go.Proofs.YtbaccmlfnbgehaaGreatDoor
namespace Pl
inductive Via (s : Lts) (X : Nat → Prop) (p : Nat) : Nat → Prop
  | refl : X p → Via s X p p
  | tail {q r : Nat} : Via s X p q → stp s q 0 r → X r → Via s X p r
theorem Via.last {s : Lts} {X : Nat → Prop} {p q : Nat} (h : Via s X p q) : X q := by
  cases h with
  | refl h => exact h
  | tail _ _ h => exact h
theorem Via.mono {s : Lts} {X Y : Nat → Prop} {p q : Nat} (h : Via s X p q) (hxy : ∀ x, X x → Y x) : Via s Y p q := by
  induction h with
  | refl h => exact .refl (hxy _ h)
  | tail _ h1 h2 ih => exact .tail ih h1 (hxy _ h2)
theorem Via.head {s : Lts} {X : Nat → Prop} {p q r : Nat} (hp : X p) (hs : stp s p 0 q) (h : Via s X q r) : Via s X p r := by
  induction h with
  | refl h => exact .tail (.refl hp) hs h
  | tail _ h1 h2 ih => exact .tail ih h1 h2
inductive Sg (s : Lts) (C : Nat → Int) : Nat → Int → Int → Prop
  | here {p t : Nat} {l : Int} : stp s p l t → ¬ (l = 0 ∧ C t = C p) → Sg s C p l (C t)
  | on {p t : Nat} {l e : Int} : stp s p 0 t → C t = C p → Sg s C t l e → Sg s C p l e
structure IsBr (s : Lts) (n : Nat) (R : Nat → Nat → Prop) : Prop where
  fwd : ∀ p q, p < n → q < n → R p q → ∀ l p', p' < n → stp s p l p' → (l = 0 ∧ R p' q) ∨ ∃ q0 q', Via s (fun x => x < n ∧ R p x) q q0 ∧ q' < n ∧ stp s q0 l q' ∧ R p' q'
  bwd : ∀ p q, p < n → q < n → R p q → ∀ l q', q' < n → stp s q l q' → (l = 0 ∧ R p q') ∨ ∃ p0 p', Via s (fun x => x < n ∧ R x q) p p0 ∧ p' < n ∧ stp s p0 l p' ∧ R p' q'
theorem IsBr.symm {s : Lts} {n : Nat} {R : Nat → Nat → Prop} (h : IsBr s n R) : IsBr s n (fun a b => R b a) :=
  ⟨fun p q hp hq hr l p' hp' hs => h.bwd q p hq hp hr l p' hp' hs, fun p q hp hq hr l q' hq' hs => h.fwd q p hq hp hr l q' hq' hs⟩
theorem Sg.via {s : Lts} {C : Nat → Int} {c : Int} {p q : Nat} (h : Via s (fun x => C x = c) p q) {l e : Int} (hs : Sg s C q l e) : Sg s C p l e := by
  induction h with
  | refl h => exact hs
  | tail h1 h2 h3 ih => exact ih (.on h2 (by rw [h3, h1.last]) hs)
theorem Sg.way {s : Lts} {C : Nat → Int} {p : Nat} {l e : Int} (h : Sg s C p l e) : ∃ q t, Via s (fun x => C x = C p) p q ∧ stp s q l t ∧ C t = e ∧ ¬ (l = 0 ∧ C t = C p) := by
  induction h with
  | here h1 h2 => exact ⟨_, _, .refl rfl, h1, rfl, h2⟩
  | @on p t l e h1 h2 _ ih =>
    obtain ⟨q, t', h3, h4, h5, h6⟩ := ih
    exact ⟨q, t', Via.head rfl h1 (h3.mono (fun x hx => by rw [hx, h2])), h4, h5, by rw [h2] at h6; exact h6⟩
theorem stp_lt {s : Lts} (hr : s.Right) {n : Nat} (hn : s.st = (n : Int)) {p t : Nat} {l : Int} (h : stp s p l t) : p < n ∧ t < n ∧ 0 ≤ l ∧ l < s.lb := by
  have := offB_false.1 (hr.edges _ h)
  simp only at this
  omega
theorem Via.lt {s : Lts} (hr : s.Right) {n : Nat} (hn : s.st = (n : Int)) {X : Nat → Prop} {p q : Nat} (hp : p < n) (h : Via s X p q) : Via s (fun x => x < n ∧ X x) p q ∧ q < n := by
  induction h with
  | refl h => exact ⟨.refl ⟨hp, h⟩, hp⟩
  | tail _ h1 h2 ih =>
    have := (stp_lt hr hn h1).2.1
    exact ⟨.tail ih.1 h1 ⟨this, h2⟩, this⟩
theorem IsBr.sg {s : Lts} {n : Nat} {R : Nat → Nat → Prop} (hr : s.Right) (hn : s.st = (n : Int)) (h : IsBr s n R) {C : Nat → Int} (hC : ∀ p q, p < n → q < n → R p q → C p = C q) {p : Nat} {l e : Int} (hs : Sg s C p l e) : ∀ q, q < n → R p q → Sg s C q l e := by
  have key : ∀ {p q0 : Nat}, p < n → ∀ {q}, Via s (fun x => x < n ∧ R p x) q q0 → Via s (fun x => C x = C p) q q0 := by
    intro p q0 hp q hv
    exact hv.mono (fun x hx => (hC _ _ hp hx.1 hx.2).symm)
  induction hs with
  | @here p t l h1 h2 =>
    intro q hq hpq
    have hp := (stp_lt hr hn h1).1; have ht := (stp_lt hr hn h1).2.1
    have e0 := hC p q hp hq hpq
    rcases h.fwd p q hp hq hpq l t ht h1 with ⟨rfl, h3⟩ | ⟨q0, q', h3, h4, h5, h6⟩
    · exact absurd ⟨rfl, by rw [hC t q ht hq h3, e0]⟩ h2
    · have e1 := hC t q' ht h4 h6
      have e2 := (key hp h3).last
      rw [e1]
      exact Sg.via (key hp h3) (.here h5 (by rw [e2, ← e1]; exact h2))
  | @on p t l e h1 h2 _ ih =>
    intro q hq hpq
    have hp := (stp_lt hr hn h1).1; have ht := (stp_lt hr hn h1).2.1
    rcases h.fwd p q hp hq hpq 0 t ht h1 with ⟨_, h3⟩ | ⟨q0, q', h3, h4, h5, h6⟩
    · exact ih q hq h3
    · have e1 := hC t q' ht h4 h6
      have e2 := (key hp h3).last
      exact Sg.via (key hp h3) (.on h5 (by rw [e2, ← e1]; exact h2) (ih q' h4 h6))
def Still (s : Lts) (n : Nat) (C : Nat → Int) : Prop := ∀ p q, p < n → q < n → C p = C q → ∀ l e, Sg s C p l e → Sg s C q l e
structure BrBig (s : Lts) (n : Nat) (C : Nat → Int) : Prop where
  still : Still s n C
  all : ∀ R, IsBr s n R → ∀ p q, p < n → q < n → R p q → C p = C q
theorem Still.br {s : Lts} {n : Nat} {C : Nat → Int} (hr : s.Right) (hn : s.st = (n : Int)) (h : Still s n C) : IsBr s n (fun p q => C p = C q) := by
  have fw : ∀ p q, p < n → q < n → C p = C q → ∀ l p', p' < n → stp s p l p' → (l = 0 ∧ C p' = C q) ∨ ∃ q0 q', Via s (fun x => x < n ∧ C p = C x) q q0 ∧ q' < n ∧ stp s q0 l q' ∧ C p' = C q' := by
    intro p q hp hq e l p' hp' hs
    by_cases hi : l = 0 ∧ C p' = C p
    · exact .inl ⟨hi.1, hi.2.trans e⟩
    · obtain ⟨q0, t, h1, h2, h3, _⟩ := (h p q hp hq e l (C p') (.here hs hi)).way
      have h4 := (h1.lt hr hn hq).1
      exact .inr ⟨q0, t, h4.mono (fun x hx => ⟨hx.1, by rw [hx.2]; exact e⟩), (stp_lt hr hn h2).2.1, h2, h3.symm⟩
  refine ⟨fw, fun p q hp hq e l q' hq' hs => ?_⟩
  rcases fw q p hq hp e.symm l q' hq' hs with ⟨h1, h2⟩ | ⟨q0, t, h1, h2, h3, h4⟩
  · exact .inl ⟨h1, h2.symm⟩
  · exact .inr ⟨q0, t, h1.mono (fun x hx => ⟨hx.1, hx.2.symm⟩), h2, h3, h4.symm⟩
theorem BrBig.same {s : Lts} {n : Nat} {C D : Nat → Int} (hr : s.Right) (hn : s.st = (n : Int)) (h : BrBig s n C) (h' : BrBig s n D) {p q : Nat} (hp : p < n) (hq : q < n) : C p = C q ↔ D p = D q :=
  ⟨fun e => h'.all _ (h.still.br hr hn) p q hp hq e, fun e => h.all _ (h'.still.br hr hn) p q hp hq e⟩
/-! rounds -/
def Holds (s : Lts) (n : Nat) (C : Nat → Int) : Prop := ∀ R, IsBr s n R → ∀ p q, p < n → q < n → R p q → C p = C q
def NextB (s : Lts) (n : Nat) (C D : Nat → Int) : Prop := ∀ p q, p < n → q < n → (D p = D q ↔ C p = C q ∧ ∀ l e, Sg s C p l e ↔ Sg s C q l e)
theorem Holds.next {s : Lts} {n : Nat} {C D : Nat → Int} (hr : s.Right) (hn : s.st = (n : Int)) (h : Holds s n C) (hd : NextB s n C D) : Holds s n D := fun R hR p q hp hq e =>
  (hd p q hp hq).2 ⟨h R hR p q hp hq e, fun _ _ => ⟨fun hs => hR.sg hr hn (h R hR) hs q hq e, fun hs => hR.symm.sg hr hn (fun a b ha hb hab => (h R hR b a hb ha hab).symm) hs p hp e⟩⟩
theorem Holds.done {s : Lts} {n : Nat} {C D : Nat → Int} (h : Holds s n C) (hd : NextB s n C D) (he : ∀ p, p < n → D p = C p) : BrBig s n C :=
  ⟨fun p q hp hq e _ _ hs => ((((hd p q hp hq).1 (by rw [he p hp, he q hq]; exact e)).2 _ _).1 hs), h⟩
end Pl
end Go.Proofs.YtbaccmlfnbgehaaGreatDoor
namespace Go.Proofs.YtbaccmlfnbgehaaGreatDoor
namespace Pl
open Go.Lib
/-! decimal numerals -/
def stepT (x : S) : List UInt8 := 32 :: (itoa x.1 ++ 32 :: itoa x.2)
def textB (c : Int) (L : List S) : List UInt8 := itoa c ++ L.flatMap stepT
/-! more classes -/
end Pl
end Go.Proofs.YtbaccmlfnbgehaaGreatDoor
namespace Go.Proofs.YtbaccmlfnbgehaaGreatDoor
namespace Pl
def asF (n : Nat) (f : Nat → Int) (p : Nat) : Nat := (clf n f p).toNat
theorem asF_eq {n : Nat} {f : Nat → Int} {p : Nat} (hp : p < n) : clf n f p = (asF n f p : Int) := by
  have := (clf_rng (f := f) hp).1
  unfold asF; omega
section
variable {s : Lts} {n : Nat} {f : Nat → Int}
theorem asF_same (hc : Cyc s n f) {x y : Nat} (hx : x < n) (hy : y < n) : asF n f x = asF n f y ↔ TR s x y ∧ TR s y x := by
  rw [← hc.same x y hx hy, ← clf_eq (f := f) hx hy, asF_eq hx, asF_eq hy]
  omega
theorem stp_col (hr : s.Right) (hn : s.st = (n : Int)) {X Y : Nat} {l : Int} : stp (col s (fl n (clf n f))) X l Y ↔ ∃ x y, x < n ∧ y < n ∧ stp s x l y ∧ asF n f x = X ∧ asF n f y = Y ∧ ¬ (l = 0 ∧ X = Y) := by
  unfold stp col
  simp only
  rw [mem_nf stoE, mem_colE]
  constructor
  · rintro ⟨⟨x, l', y⟩, h1, h2, h3⟩
    have h4 := offB_false.1 (hr.edges _ h1)
    simp only at h4 h2 h3
    obtain ⟨x, rfl⟩ := Int.eq_ofNat_of_zero_le h4.1
    obtain ⟨y, rfl⟩ := Int.eq_ofNat_of_zero_le h4.2.2.2.2.1
    have hx : x < n := by omega
    have hy : y < n := by omega
    simp only [Prod.mk.injEq] at h2
    obtain ⟨e1, rfl, e3⟩ := h2
    rw [atL_fl (by omega) (by omega)] at e1 e3
    simp only [Int.toNat_natCast] at e1 e3
    rw [asF_eq hx] at e1
    rw [asF_eq hy] at e3
    exact ⟨x, y, hx, hy, h1, by omega, by omega, fun h => h3 ⟨h.1, by omega⟩⟩
  · rintro ⟨x, y, hx, hy, h1, rfl, rfl, h3⟩
    refine ⟨((x : Int), l, (y : Int)), h1, ?_, fun h => h3 ⟨h.1, by simp only at h; omega⟩⟩
    simp only
    rw [atL_fl (by omega) (by omega), atL_fl (by omega) (by omega)]
    simp only [Int.toNat_natCast]
    rw [asF_eq hx, asF_eq hy]
end
inductive Rounds (s : Lts) (n : Nat) : (Nat → Int) → Prop
  | zero : Rounds s n (fun _ => 0)
  | step {C D : Nat → Int} : Rounds s n C → NextB s n C D → Rounds s n D
theorem Sg.congr {s : Lts} {n : Nat} (hr : s.Right) (hn : s.st = (n : Int)) {C D : Nat → Int} (h : ∀ p q, p < n → q < n → (C p = C q ↔ D p = D q)) {p : Nat} (hp : p < n) {l e : Int} (hs : Sg s C p l e) : ∃ t, t < n ∧ C t = e ∧ Sg s D p l (D t) := by
  induction hs with
  | @here p t l h1 h2 =>
    have h3 := stp_lt hr hn h1
    exact ⟨t, h3.2.1, rfl, .here h1 (fun k => h2 ⟨k.1, (h _ _ h3.2.1 h3.1).2 k.2⟩)⟩
  | @on p t l e h1 h2 _ ih =>
    have h3 := stp_lt hr hn h1
    obtain ⟨u, hu, e1, h4⟩ := ih h3.2.1
    exact ⟨u, hu, e1, .on h1 ((h _ _ h3.2.1 h3.1).1 h2) h4⟩
theorem BrBig.congr {s : Lts} {n : Nat} (hr : s.Right) (hn : s.st = (n : Int)) {C D : Nat → Int} (hb : BrBig s n C) (h : ∀ p q, p < n → q < n → (C p = C q ↔ D p = D q)) : BrBig s n D := by
  refine ⟨fun p q hp hq e l x hx => ?_, fun R hR p q hp hq e => (h p q hp hq).1 (hb.all R hR p q hp hq e)⟩
  obtain ⟨t, ht, e1, h1⟩ := hx.congr hr hn (fun a b ha hb => (h a b ha hb).symm) hp
  have h2 := hb.still p q hp hq ((h p q hp hq).2 e) _ _ h1
  obtain ⟨u, hu, e2, h3⟩ := h2.congr hr hn h hq
  rw [← e1, (h t u ht hu).1 e2.symm]
  exact h3
theorem BrBig.clf {s : Lts} {n : Nat} (hr : s.Right) (hn : s.st = (n : Int)) {C : Nat → Int} (hb : BrBig s n C) : BrBig s n (clf n C) := hb.congr hr hn (fun _ _ hp hq => (clf_eq (f := C) hp hq).symm)
theorem BrBig.uniq {s : Lts} {n : Nat} (hr : s.Right) (hn : s.st = (n : Int)) {C D : Nat → Int} (h : BrBig s n C) (h' : BrBig s n D) : fl n (Pl.clf n C) = fl n (Pl.clf n D) := by
  rw [← canon_fl, ← canon_fl, sameT_canon (by rw [fl_len, fl_len])]
  intro i k x y x' y' hki hx hy hx' hy'
  have hi : i < n := by have := (List.getElem?_eq_some_iff.1 hx).1; rwa [fl_len] at this
  have hk : k < n := by omega
  rw [fl_get C hi] at hx; rw [fl_get C hk] at hy; rw [fl_get D hi] at hx'; rw [fl_get D hk] at hy'
  cases hx; cases hy; cases hx'; cases hy'
  exact h.same hr hn h' hi hk
/-! signatures as lists -/
structure SigOk (s : Lts) (C : Nat → Int) (p : Nat) (L : List S) : Prop where
  srt : Srt ltS L
  mem : ∀ l e, (l, e) ∈ L ↔ Sg s C p l e
def shareB (C : Nat → Int) (F : Nat → List S) (p : Nat) (x : S) : List S := if x.1 = 0 ∧ C x.2.toNat = C p then F x.2.toNat else [(x.1, C x.2.toNat)]
end Pl
end Go.Proofs.YtbaccmlfnbgehaaGreatDoor
namespace Go.Proofs.YtbaccmlfnbgehaaGreatDoor
namespace Pl
def aheadS (s : Lts) (p : Int) : Lts := ⟨s.st + 1, s.lb, s.s0, s.es ++ [(s.st, 0, p)]⟩
end Pl
end Go.Proofs.YtbaccmlfnbgehaaGreatDoor

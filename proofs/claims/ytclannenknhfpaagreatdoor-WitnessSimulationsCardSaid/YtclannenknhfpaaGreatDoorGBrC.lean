/-
  Plain: branching bisimilarity of a system and of its collapsed one; signatures as lists; rounds.
  Plain: what chapter 12's laws ask of the classes of branching bisimilarity.
  Maps that a call makes, keyed by whatever the kit's 'Keyed' serves (ints, strings, structs, arrays), elements of any make: what the map holds is a plain function.
-/
import Derived.Test.YtclannenknhfpaaGreatDoorGRwsB
import Derived.Test.YtclannenknhfpaaGreatDoorGPl6
import Derived.Test.YtclannenknhfpaaGreatDoorGPlS
import Derived.Maps.OwnSet
import Derived.DeepKeys4
namespace Go.Proofs.YtclannenknhfpaaGreatDoor
namespace Pl

/-- The state of the collapsed system. -/
def asF (n : Nat) (f : Nat → Int) (p : Nat) : Nat := (clf n f p).toNat
theorem asF_eq {n : Nat} {f : Nat → Int} {p : Nat} (hp : p < n) : clf n f p = (asF n f p : Int) := by
  have := (clf_rng (f := f) hp).1
  unfold asF; omega
theorem asF_lt {n : Nat} {f : Nat → Int} {p : Nat} (hp : p < n) : asF n f p < (dist (fl n f)).length := by
  have := clf_rng (f := f) hp
  unfold asF; omega
section
variable {s : Lts} {n : Nat} {f : Nat → Int}
theorem asF_same (hc : Cyc s n f) {x y : Nat} (hx : x < n) (hy : y < n) : asF n f x = asF n f y ↔ TR s x y ∧ TR s y x := by
  rw [← hc.same x y hx hy, ← clf_eq (f := f) hx hy, asF_eq hx, asF_eq hy]
  omega
theorem stp_col (hr : s.Right) (hn : s.st = (n : Int)) {X Y : Nat} {l : Int} : stp (col s (fl n (clf n f))) X l Y ↔ ∃ x y, x < n ∧ y < n ∧ stp s x l y ∧ asF n f x = X ∧ asF n f y = Y ∧ ¬ (l = 0 ∧ X = Y) := by
  unfold stp col
  simp only
  rw [mem_nf stoE, mem_colE]
  constructor
  · rintro ⟨⟨x, l', y⟩, h1, h2, h3⟩
    have h4 := offB_false.1 (hr.edges _ h1)
    simp only at h4 h2 h3
    obtain ⟨x, rfl⟩ := Int.eq_ofNat_of_zero_le h4.1
    obtain ⟨y, rfl⟩ := Int.eq_ofNat_of_zero_le h4.2.2.2.2.1
    have hx : x < n := by omega
    have hy : y < n := by omega
    simp only [Prod.mk.injEq] at h2
    obtain ⟨e1, rfl, e3⟩ := h2
    rw [atL_fl (by omega) (by omega)] at e1 e3
    simp only [Int.toNat_natCast] at e1 e3
    rw [asF_eq hx] at e1
    rw [asF_eq hy] at e3
    exact ⟨x, y, hx, hy, h1, by omega, by omega, fun h => h3 ⟨h.1, by omega⟩⟩
  · rintro ⟨x, y, hx, hy, h1, rfl, rfl, h3⟩
    refine ⟨((x : Int), l, (y : Int)), h1, ?_, fun h => h3 ⟨h.1, by simp only at h; omega⟩⟩
    simp only
    rw [atL_fl (by omega) (by omega), atL_fl (by omega) (by omega)]
    simp only [Int.toNat_natCast]
    rw [asF_eq hx, asF_eq hy]
/-- Within a cycle all do the same. -/
theorem Sg.cycle (hr : s.Right) (hn : s.st = (n : Int)) (hc : Cyc s n f) {C : Nat → Int} {x y : Nat} (hx : x < n) (h : TR s x y) (hb : TR s y x) {l e : Int} (hs : Sg s (fun p => C (asF n f p)) y l e) : Sg s (fun p => C (asF n f p)) x l e := by
  have key : ∀ z, TR s x z → TR s z x → Via s (fun p => C (asF n f p) = C (asF n f x)) x z := by
    intro z hz
    induction hz with
    | refl => exact fun _ => .refl rfl
    | @tail a b h1 h2 ih =>
      intro h3
      have hb := tau_lt hr hn h2
      have e1 : asF n f b = asF n f x := (asF_same hc hb.2 hx).2 ⟨h3, h1.tail h2⟩
      exact .tail (ih ((TR.one h2).trans h3)) h2 (by simp only [e1])
  exact Sg.via (key y h hb) hs
theorem sg_col (hr : s.Right) (hn : s.st = (n : Int)) (hc : Cyc s n f) {C : Nat → Int} {p : Nat} (hp : p < n) {l e : Int} : Sg s (fun p => C (asF n f p)) p l e ↔ Sg (col s (fl n (clf n f))) C (asF n f p) l e := by
  constructor
  · intro h
    clear hp
    induction h with
    | @here p t l h1 h2 =>
      have h3 := stp_lt hr hn h1
      refine Sg.here (C := C) ((stp_col hr hn).2 ⟨p, t, h3.1, h3.2.1, h1, rfl, rfl, fun h => h2 ⟨h.1, by rw [h.2]⟩⟩) h2
    | @on p t l e h1 h2 _ ih =>
      have h3 := stp_lt hr hn h1
      by_cases he : asF n f p = asF n f t
      · rw [he]; exact ih
      · exact .on ((stp_col hr hn).2 ⟨p, t, h3.1, h3.2.1, h1, rfl, rfl, fun h => he h.2⟩) h2 ih
  · intro h
    obtain ⟨X, hX⟩ : ∃ X, X = asF n f p := ⟨_, rfl⟩
    rw [← hX] at h
    induction h generalizing p with
    | @here X T l h1 h2 =>
      obtain ⟨x, t, hx, ht, h3, rfl, rfl, _⟩ := (stp_col hr hn).1 h1
      obtain ⟨h5, h6⟩ := (asF_same hc hx hp).1 hX
      exact Sg.cycle hr hn hc hp h6 h5 (.here (C := fun p => C (asF n f p)) h3 h2)
    | @on X T l e h1 h2 _ ih =>
      obtain ⟨x, t, hx, ht, h3, rfl, rfl, _⟩ := (stp_col hr hn).1 h1
      obtain ⟨h5, h6⟩ := (asF_same hc hx hp).1 hX
      exact Sg.cycle hr hn hc hp h6 h5 (.on h3 h2 (ih ht rfl))
end

/-- Classes that come by rounds. -/
inductive Rounds (s : Lts) (n : Nat) : (Nat → Int) → Prop
  | zero : Rounds s n (fun _ => 0)
  | step {C D : Nat → Int} : Rounds s n C → NextB s n C D → Rounds s n D
theorem Rounds.holds {s : Lts} {n : Nat} {f : Nat → Int} (hr : s.Right) (hn : s.st = (n : Int)) (hc : Cyc s n f) {C : Nat → Int} (h : Rounds (col s (fl n (clf n f))) (dist (fl n f)).length C) : Holds s n (fun p => C (asF n f p)) := by
  induction h with
  | zero => exact fun _ _ _ _ _ _ _ => rfl
  | @step C D _ h2 ih =>
    refine ih.next hr hn (fun p q hp hq => ?_)
    rw [h2 _ _ (asF_lt hp) (asF_lt hq)]
    have e : (∀ l e, Sg (col s (fl n (clf n f))) C (asF n f p) l e ↔ Sg (col s (fl n (clf n f))) C (asF n f q) l e) ↔ ∀ l e, Sg s (fun p => C (asF n f p)) p l e ↔ Sg s (fun p => C (asF n f p)) q l e := by
      constructor
      · intro h l e; rw [sg_col hr hn hc hp, sg_col hr hn hc hq]; exact h l e
      · intro h l e; rw [← sg_col hr hn hc hp, ← sg_col hr hn hc hq]; exact h l e
    rw [e]
/-- What the rounds end in, seen from the system. -/
theorem Rounds.big {s : Lts} {n : Nat} {f : Nat → Int} (hr : s.Right) (hn : s.st = (n : Int)) (hc : Cyc s n f) {C : Nat → Int} (h : Rounds (col s (fl n (clf n f))) (dist (fl n f)).length C) (hs : Still (col s (fl n (clf n f))) (dist (fl n f)).length C) : BrBig s n (fun p => C (asF n f p)) :=
  ⟨fun _ _ hp hq e l x hx => (sg_col hr hn hc hq).2 (hs _ _ (asF_lt hp) (asF_lt hq) e l x ((sg_col hr hn hc hp).1 hx)), h.holds hr hn hc⟩
theorem Sg.congr {s : Lts} {n : Nat} (hr : s.Right) (hn : s.st = (n : Int)) {C D : Nat → Int} (h : ∀ p q, p < n → q < n → (C p = C q ↔ D p = D q)) {p : Nat} (hp : p < n) {l e : Int} (hs : Sg s C p l e) : ∃ t, t < n ∧ C t = e ∧ Sg s D p l (D t) := by
  induction hs with
  | @here p t l h1 h2 =>
    have h3 := stp_lt hr hn h1
    exact ⟨t, h3.2.1, rfl, .here h1 (fun k => h2 ⟨k.1, (h _ _ h3.2.1 h3.1).2 k.2⟩)⟩
  | @on p t l e h1 h2 _ ih =>
    have h3 := stp_lt hr hn h1
    obtain ⟨u, hu, e1, h4⟩ := ih h3.2.1
    exact ⟨u, hu, e1, .on h1 ((h _ _ h3.2.1 h3.1).1 h2) h4⟩
theorem BrBig.congr {s : Lts} {n : Nat} (hr : s.Right) (hn : s.st = (n : Int)) {C D : Nat → Int} (hb : BrBig s n C) (h : ∀ p q, p < n → q < n → (C p = C q ↔ D p = D q)) : BrBig s n D := by
  refine ⟨fun p q hp hq e l x hx => ?_, fun R hR p q hp hq e => (h p q hp hq).1 (hb.all R hR p q hp hq e)⟩
  obtain ⟨t, ht, e1, h1⟩ := hx.congr hr hn (fun a b ha hb => (h a b ha hb).symm) hp
  have h2 := hb.still p q hp hq ((h p q hp hq).2 e) _ _ h1
  obtain ⟨u, hu, e2, h3⟩ := h2.congr hr hn h hq
  rw [← e1, (h t u ht hu).1 e2.symm]
  exact h3
theorem BrBig.clf {s : Lts} {n : Nat} (hr : s.Right) (hn : s.st = (n : Int)) {C : Nat → Int} (hb : BrBig s n C) : BrBig s n (clf n C) := hb.congr hr hn (fun _ _ hp hq => (clf_eq (f := C) hp hq).symm)
theorem BrBig.uniq {s : Lts} {n : Nat} (hr : s.Right) (hn : s.st = (n : Int)) {C D : Nat → Int} (h : BrBig s n C) (h' : BrBig s n D) : fl n (Pl.clf n C) = fl n (Pl.clf n D) := by
  rw [← canon_fl, ← canon_fl, sameT_canon (by rw [fl_len, fl_len])]
  intro i k x y x' y' hki hx hy hx' hy'
  have hi : i < n := by have := (List.getElem?_eq_some_iff.1 hx).1; rwa [fl_len] at this
  have hk : k < n := by omega
  rw [fl_get C hi] at hx; rw [fl_get C hk] at hy; rw [fl_get D hi] at hx'; rw [fl_get D hk] at hy'
  cases hx; cases hy; cases hx'; cases hy'
  exact h.same hr hn h' hi hk

/-! signatures as lists -/
structure SigOk (s : Lts) (C : Nat → Int) (p : Nat) (L : List S) : Prop where
  srt : Srt ltS L
  mem : ∀ l e, (l, e) ∈ L ↔ Sg s C p l e
/-- One step's share. -/
def shareB (C : Nat → Int) (F : Nat → List S) (p : Nat) (x : S) : List S := if x.1 = 0 ∧ C x.2.toNat = C p then F x.2.toNat else [(x.1, C x.2.toNat)]
theorem sig_step {s : Lts} (hr : s.Right) {C : Nat → Int} {F : Nat → List S} {p : Nat} (hF : ∀ t, tau s p t → SigOk s C t (F t)) : SigOk s C p (nf ltS ((s.outs (p : Int)).flatMap (shareB C F p))) := by
  refine ⟨srt_nf stoS _, fun l e => ?_⟩
  rw [mem_nf stoS, List.mem_flatMap]
  constructor
  · rintro ⟨⟨a, b⟩, h1, h2⟩
    have h3 : ((p : Int), a, b) ∈ s.es := mem_outs.1 h1
    have h4 := offB_false.1 (hr.edges _ h3)
    simp only at h4
    obtain ⟨t, rfl⟩ := Int.eq_ofNat_of_zero_le h4.2.2.2.2.1
    unfold shareB at h2
    simp only [Int.toNat_natCast] at h2
    split at h2
    · rename_i hi
      obtain ⟨rfl, hi⟩ := hi
      exact .on h3 hi (((hF t h3).mem l e).1 h2)
    · rename_i hi
      simp only [List.mem_singleton, Prod.mk.injEq] at h2
      obtain ⟨rfl, rfl⟩ := h2
      exact .here h3 hi
  · intro h
    cases h with
    | @here _ t _ h1 h2 => exact ⟨(l, (t : Int)), mem_outs.2 h1, by unfold shareB; simp only [Int.toNat_natCast]; rw [if_neg h2]; simp⟩
    | @on _ t _ _ h1 h2 h3 => exact ⟨(0, (t : Int)), mem_outs.2 h1, by unfold shareB; simp only [Int.toNat_natCast]; rw [if_pos ⟨trivial, h2⟩]; exact ((hF t h1).mem l e).2 h3⟩
theorem SigOk.eq {s : Lts} {C : Nat → Int} {p q : Nat} {L M : List S} (h : SigOk s C p L) (h' : SigOk s C q M) : L = M ↔ ∀ l e, Sg s C p l e ↔ Sg s C q l e := by
  constructor
  · rintro rfl l e; rw [← h.mem, ← h'.mem]
  · intro hs
    exact srt_ext stoS _ _ h.srt h'.srt (fun x => by obtain ⟨l, e⟩ := x; rw [h.mem, h'.mem, hs])
/-- The next round's numbers. -/
theorem next_text {s : Lts} {n : Nat} {C : Nat → Int} {F : Nat → List S} (hF : ∀ p, p < n → SigOk s C p (F p)) {G : Nat → Int} (hG : ∀ p q, p < n → q < n → (G p = G q ↔ textB (C p) (F p) = textB (C q) (F q))) : NextB s n C (clf n G) := fun p q hp hq => by
  rw [clf_eq (f := G) hp hq, hG p q hp hq]
  constructor
  · intro h
    obtain ⟨h1, h2⟩ := textB_inj h
    exact ⟨h1, ((hF p hp).eq (hF q hq)).1 h2⟩
  · rintro ⟨h1, h2⟩
    rw [h1, ((hF p hp).eq (hF q hq)).2 h2]
end Pl
end Go.Proofs.YtclannenknhfpaaGreatDoor

namespace Go.Proofs.YtclannenknhfpaaGreatDoor
namespace Pl

theorem Rounds.holds0 {s : Lts} {n : Nat} (hr : s.Right) (hn : s.st = (n : Int)) {C : Nat → Int} (h : Rounds s n C) : Holds s n C := by
  induction h with
  | zero => exact fun _ _ _ _ _ _ _ => rfl
  | step _ h2 ih => exact ih.next hr hn h2
/-- The collapsed system is right, as an Lts of so many states. -/
theorem col_st (s : Lts) (n : Nat) (f : Nat → Int) : (col s (fl n (clf n f))).st = ((dist (fl n f)).length : Int) := by
  show ((dist (fl n (clf n f))).length : Int) = _
  rw [dist_clf_len]
/-- The classes of the system and of its collapsed one say the same. -/
theorem big_col {s : Lts} {n : Nat} (hr : s.Right) (hn : s.st = (n : Int)) {f : Nat → Int} {C D : Nat → Int} (h : Rounds (col s (fl n (clf n f))) (dist (fl n f)).length C) (hs : Still (col s (fl n (clf n f))) (dist (fl n f)).length C) (hd : BrBig (col s (fl n (clf n f))) (dist (fl n f)).length D) {p q : Nat} (hp : p < n) (hq : q < n) : C (asF n f p) = C (asF n f q) ↔ D (asF n f p) = D (asF n f q) := by
  have h1 : BrBig (col s (fl n (clf n f))) (dist (fl n f)).length C := ⟨hs, h.holds0 (col_right hr hn) (col_st s n f)⟩
  exact h1.same (col_right hr hn) (col_st s n f) hd (asF_lt hp) (asF_lt hq)
/-- A silent step put ahead of a state. -/
def aheadS (s : Lts) (p : Int) : Lts := ⟨s.st + 1, s.lb, s.s0, s.es ++ [(s.st, 0, p)]⟩
theorem ahead_together {s : Lts} {n p : Nat} (hr : s.Right) (hn : s.st = (n : Int)) (hp : p < n) {C : Nat → Int} (h : BrBig (aheadS s (p : Int)) (n + 1) C) : C n = C p := by
  have h1 : ∀ {a b : Nat} {l : Int}, stp (aheadS s (p : Int)) a l b ↔ stp s a l b ∨ (a = n ∧ l = 0 ∧ b = p) := by
    intro a b l
    unfold stp aheadS
    simp only [List.mem_append, List.mem_singleton, Prod.mk.injEq]
    rw [hn]
    constructor
    · rintro (h | ⟨h1, h2, h3⟩)
      · exact .inl h
      · exact .inr ⟨by omega, h2, by omega⟩
    · rintro (h | ⟨h1, h2, h3⟩)
      · exact .inl h
      · exact .inr ⟨by omega, h2, by omega⟩
  have hno : ∀ {l : Int} {b : Nat}, ¬ stp s n l b := fun h => by have := (stp_lt hr hn h).1; omega
  have hown : stp (aheadS s (p : Int)) n 0 p := h1.2 (.inr ⟨rfl, rfl, rfl⟩)
  refine h.all (fun a b => a = b ∨ (a = n ∧ b = p) ∨ (a = p ∧ b = n)) ⟨?_, ?_⟩ n p (by omega) (by omega) (.inr (.inl ⟨rfl, rfl⟩))
  · rintro a b ha hb (rfl | ⟨rfl, rfl⟩ | ⟨rfl, rfl⟩) l t ht hs
    · exact .inr ⟨a, t, .refl ⟨ha, .inl rfl⟩, ht, hs, .inl rfl⟩
    · rcases h1.1 hs with h2 | ⟨_, rfl, rfl⟩
      · exact absurd h2 hno
      · exact .inl ⟨rfl, .inl rfl⟩
    · exact .inr ⟨a, t, .tail (.refl ⟨hb, .inr (.inr ⟨rfl, rfl⟩)⟩) hown ⟨ha, .inl rfl⟩, ht, hs, .inl rfl⟩
  · rintro a b ha hb (rfl | ⟨rfl, rfl⟩ | ⟨rfl, rfl⟩) l t ht hs
    · exact .inr ⟨a, t, .refl ⟨ha, .inl rfl⟩, ht, hs, .inl rfl⟩
    · exact .inr ⟨b, t, .tail (.refl ⟨ha, .inr (.inl ⟨rfl, rfl⟩)⟩) hown ⟨hb, .inl rfl⟩, ht, hs, .inl rfl⟩
    · rcases h1.1 hs with h2 | ⟨_, rfl, rfl⟩
      · exact absurd h2 hno
      · exact .inl ⟨rfl, .inl rfl⟩
theorem ahead_right {s : Lts} {n p : Nat} (hr : s.Right) (hn : s.st = (n : Int)) (hp : p < n) (h1 : n + 1 ≤ 1000) (h2 : s.es.length + 1 ≤ 10000) : (aheadS s (p : Int)).Right := by
  have h0 := hr.st0
  have hh := hr.head
  refine ⟨?_, fun x hx => ?_⟩
  · unfold HeadBad aheadS at *
    simp only [List.length_append, List.length_cons, List.length_nil] at *
    omega
  · unfold aheadS at hx
    simp only [List.mem_append, List.mem_singleton] at hx
    rw [offB_false]
    unfold aheadS
    simp only
    rcases hx with h | rfl
    · have := offB_false.1 (hr.edges _ h); omega
    · simp only; omega
/-- Who is strongly bisimilar is together. -/
theorem strong_br {s : Lts} {n : Nat} {C D : Nat → Int} (h : BrBig s n C) (hd : Big s n D) {p q : Nat} (hp : p < n) (hq : q < n) (e : D p = D q) : C p = C q := by
  refine h.all (fun a b => D a = D b) ⟨fun a b ha hb hab l t ht hs => ?_, fun a b ha hb hab l t ht hs => ?_⟩ p q hp hq e
  · obtain ⟨u, hu, h1, h2⟩ := (hd.bis a b ha hb hab).1 l t ht hs
    exact .inr ⟨b, u, .refl ⟨hb, hab⟩, hu, h1, h2⟩
  · obtain ⟨u, hu, h1, h2⟩ := (hd.bis a b ha hb hab).2 l t ht hs
    exact .inr ⟨a, u, .refl ⟨ha, hab⟩, hu, h1, h2⟩
/-- With no silent step it is just who is. -/
theorem br_strong {s : Lts} {n : Nat} (hr : s.Right) (hn : s.st = (n : Int)) {C D : Nat → Int} (h : BrBig s n C) (hd : Big s n D) (hl : ∀ x ∈ s.es, x.2.1 ≠ 0) {p q : Nat} (hp : p < n) (hq : q < n) (e : C p = C q) : D p = D q := by
  have hv : ∀ {X : Nat → Prop} {a b : Nat}, Via s X a b → a = b := by
    intro X a b hv
    cases hv with
    | refl _ => rfl
    | tail _ h2 _ => exact absurd rfl (hl _ h2)
  refine hd.all (fun a b => C a = C b) (fun a b ha hb hab => ⟨fun l t ht hs => ?_, fun l t ht hs => ?_⟩) p q hp hq e
  · rcases (h.still.br hr hn).fwd a b ha hb hab l t ht hs with ⟨h1, _⟩ | ⟨q0, q', h3, h4, h5, h6⟩
    · exact absurd h1 (hl _ hs)
    · obtain rfl := hv h3
      exact ⟨q', h4, h5, h6⟩
  · rcases (h.still.br hr hn).bwd a b ha hb hab l t ht hs with ⟨h1, _⟩ | ⟨q0, q', h3, h4, h5, h6⟩
    · exact absurd h1 (hl _ hs)
    · obtain rfl := hv h3
      exact ⟨q', h4, h5, h6⟩
end Pl
end Go.Proofs.YtclannenknhfpaaGreatDoor

namespace Go.Proofs.YtclannenknhfpaaGreatDoor
open Go.RowKit Go.Maps Go.ChangeMaps

/-- How keys are written as values. -/
structure KeyEnc {κ : Type} (P : Program) (k : TypeId) (enck : κ → Value) (ok : κ → Prop) : Prop where
  K : Keyed P k
  key : ∀ x, ok x → ∃ l, keyOf P k (enck x) = some l
  inj : ∀ x y, enck x = enck y → x = y

section
variable {κ ν : Type} [DecidableEq κ] {P : Program} {k : TypeId} {enck : κ → Value} {ok : κ → Prop} {encv : ν → Value} {w w' : World} {b n : Nat} {f : κ → Option ν}

/-- Block b of w is a map of n entries that holds f. -/
structure OMap (w : World) (b : Nat) (enck : κ → Value) (ok : κ → Prop) (encv : ν → Value) (f : κ → Option ν) (n : Nat) : Prop where
  ex : ∃ (l : List (κ × ν)) (es : Array MapEntry) (clock : Nat), w.heap[b]? = some (.map es clock) ∧ es.toList.map (fun e => (e.key, e.val)) = l.map (fun p => (enck p.1, encv p.2)) ∧
    (∀ p ∈ l, ok p.1) ∧ (l.map Prod.fst).Nodup ∧ (∀ x, f x = (l.find? (fun p => decide (p.1 = x))).map Prod.snd) ∧ l.length = n

theorem OMap.made (w : World) : OMap (w.alloc (.map #[] 0)) w.heap.size enck ok encv (fun _ => (none : Option ν)) 0 :=
  ⟨[], #[], 0, (MapKept.heap_alloc w _).1, rfl, by simp, by simp, by simp, rfl⟩
theorem OMap.lt (h : OMap w b enck ok encv f n) : b < w.heap.size := by
  obtain ⟨l, es, clock, hb, _⟩ := h.ex
  exact (Array.getElem?_eq_some_iff.1 hb).1
theorem OMap.of_block (h : OMap w b enck ok encv f n) (hb : w'.heap[b]? = w.heap[b]?) : OMap w' b enck ok encv f n := by
  obtain ⟨l, es, clock, h1, h2⟩ := h.ex
  exact ⟨l, es, clock, hb.trans h1, h2⟩
theorem OMap.congr {g : κ → Option ν} (h : OMap w b enck ok encv f n) (e : ∀ x, f x = g x) : OMap w b enck ok encv g n := by
  have : f = g := funext e
  rw [← this]; exact h
theorem OMap.block (h : OMap w b enck ok encv f n) : ∃ es clock, w.heap[b]? = some (.map es clock) := by
  obtain ⟨l, es, clock, h1, _⟩ := h.ex; exact ⟨es, clock, h1⟩

omit [DecidableEq κ] in
theorem entry_at {l : List (κ × ν)} {es : List MapEntry} (h : es.map (fun e => (e.key, e.val)) = l.map (fun p => (enck p.1, encv p.2))) {j : Nat} {e : MapEntry} (he : es[j]? = some e) :
    ∃ p, l[j]? = some p ∧ e.key = enck p.1 ∧ e.val = encv p.2 := by
  have h1 : (es.map (fun e => (e.key, e.val)))[j]? = some (e.key, e.val) := by rw [List.getElem?_map, he]; rfl
  rw [h, List.getElem?_map] at h1
  obtain ⟨p, hp, h2⟩ := Option.map_eq_some_iff.1 h1
  simp only [Prod.mk.injEq] at h2
  exact ⟨p, hp, h2.1.symm, h2.2.symm⟩

theorem find_at : ∀ {l : List (κ × ν)}, (l.map Prod.fst).Nodup → ∀ {j : Nat} {p : κ × ν}, l[j]? = some p → l.find? (fun q => decide (q.1 = p.1)) = some p
  | [], _, _, _, h => by simp at h
  | q :: l, hn, 0, p, h => by
    simp at h; subst h; simp
  | q :: l, hn, j + 1, p, h => by
    simp at h
    rw [List.map_cons, List.nodup_cons] at hn
    have hne : q.1 ≠ p.1 := fun e => hn.1 (by rw [e]; exact List.mem_map.2 ⟨p, List.mem_of_getElem? h, rfl⟩)
    rw [List.find?_cons_of_neg (by simpa using hne)]
    exact find_at hn.2 h

theorem find_none {l : List (κ × ν)} {x : κ} (h : ∀ p ∈ l, p.1 ≠ x) : l.find? (fun q => decide (q.1 = x)) = none := by
  rw [List.find?_eq_none]; intro p hp; simpa using h p hp

omit [DecidableEq κ] in
/-- What the run of a search finds. -/
theorem OMap.search (E : KeyEnc P k enck ok) {x : κ} (hx : ok x) (w0 : World) {l : List (κ × ν)} {es : List MapEntry} (h : es.map (fun e => (e.key, e.val)) = l.map (fun p => (enck p.1, encv p.2))) (hok : ∀ p ∈ l, ok p.1) :
    ((Instr.findKey k (enck x) es).run P w0 = .ok none w0 ∧ ∀ p ∈ l, p.1 ≠ x) ∨
    ∃ j p e, (Instr.findKey k (enck x) es).run P w0 = .ok (some (j, encv p.2)) w0 ∧ l[j]? = some p ∧ p.1 = x ∧ es[j]? = some e ∧ e.key = enck x := by
  obtain ⟨kl, hkl⟩ := E.key x hx
  have hkeys : ∀ e ∈ es, ∃ l, keyOf P k e.key = some l := fun e he => by
    obtain ⟨j, hj⟩ := List.getElem?_of_mem he
    obtain ⟨p, hp, h1, _⟩ := entry_at h hj
    rw [h1]; exact E.key _ (hok p (List.mem_of_getElem? hp))
  rcases E.K.find w0 hkl es hkeys with ⟨h1, h2⟩ | ⟨j, e, h1, h2, h3⟩
  · refine .inl ⟨h1, fun p hp e => ?_⟩
    obtain ⟨j, hj⟩ := List.getElem?_of_mem hp
    have hl : es.length = l.length := by have := congrArg List.length h; simpa using this
    have hj2 : j < es.length := by rw [hl]; exact (List.getElem?_eq_some_iff.1 hj).1
    obtain ⟨q, hq, h4, _⟩ := entry_at h (List.getElem?_eq_getElem hj2)
    rw [hj] at hq
    cases hq
    exact h2 _ (List.getElem_mem hj2) (by rw [h4, e])
  · obtain ⟨p, hp, h4, h5⟩ := entry_at h h2
    exact .inr ⟨j, p, e, by rw [← h5]; exact h1, hp, E.inj _ _ (by rw [← h4, h3]), h2, h3⟩

/-- 'm[x]', 'v, had := m[x]'. -/
theorem OMap.look {t e : TypeId} (h : OMap w b enck ok encv f n) (E : KeyEnc P k enck ok) (ht : P.underlying t = some (.map k e)) {z : Value} (hz : (zeroValue e).run P w = .ok z w) {x : κ} (hx : ok x) (c : Bool) :
    (Instr.lookup t (.map (some b)) (enck x) c).run P w = .ok (if c then .tuple #[((f x).map encv).getD z, .bool (f x).isSome] else ((f x).map encv).getD z) w := by
  obtain ⟨l, es, clock, hb, hl, hok, hnd, hf, _⟩ := h.ex
  obtain ⟨kl, hkl⟩ := E.key x hx
  rcases OMap.search E hx w hl hok with ⟨h1, h2⟩ | ⟨j, p, e0, h1, h2, h3, h4, h5⟩
  · have hfx : f x = none := by rw [hf, find_none h2]; rfl
    rw [hfx]
    simp [Instr.lookup, run_underlying ht, MapKept.run_getObj_map hb, E.K.check w _ hkl, h1, hz, Result.andThen]
  · have hfx : f x = some p.2 := by rw [hf, ← h3, find_at hnd h2]; rfl
    rw [hfx]
    simp [Instr.lookup, run_underlying ht, MapKept.run_getObj_map hb, E.K.check w _ hkl, h1, Result.andThen]

theorem find_upd : ∀ {l : List (κ × ν)} {j : Nat} {p : κ × ν} (v : ν), (l.map Prod.fst).Nodup → l[j]? = some p → ∀ y, (l.set j (p.1, v)).find? (fun q => decide (q.1 = y)) = if y = p.1 then some (p.1, v) else l.find? (fun q => decide (q.1 = y))
  | [], _, _, _, _, h, _ => by simp at h
  | q :: l, 0, p, v, hn, h, y => by
    simp at h; subst h
    by_cases e : y = q.1
    · subst e; simp
    · rw [if_neg e, List.set_cons_zero, List.find?_cons_of_neg (by simpa using fun e2 => e e2.symm), List.find?_cons_of_neg (by simpa using fun e2 => e e2.symm)]
  | q :: l, j + 1, p, v, hn, h, y => by
    simp at h
    rw [List.map_cons, List.nodup_cons] at hn
    have hne : q.1 ≠ p.1 := fun e => hn.1 (by rw [e]; exact List.mem_map.2 ⟨p, List.mem_of_getElem? h, rfl⟩)
    rw [List.set_cons_succ]
    by_cases e : q.1 = y
    · subst e
      rw [if_neg hne, List.find?_cons_of_pos (by simp), List.find?_cons_of_pos (by simp)]
    · rw [List.find?_cons_of_neg (by simpa using e), List.find?_cons_of_neg (by simpa using e)]
      exact find_upd v hn.2 h y

omit [DecidableEq κ] in
theorem set_fst {l : List (κ × ν)} {j : Nat} {p : κ × ν} (v : ν) (h : l[j]? = some p) : (l.set j (p.1, v)).map Prod.fst = l.map Prod.fst := by
  rw [List.map_set]
  apply List.ext_getElem?
  intro i
  rw [List.getElem?_set]
  split
  · rename_i e
    subst e
    split
    · rw [List.getElem?_map, h]; rfl
    · rename_i h2
      rw [List.getElem?_eq_none (by omega)]
  · rfl

/-- 'm[x] = v'. -/
theorem OMap.put {t e : TypeId} (h : OMap w b enck ok encv f n) (E : KeyEnc P k enck ok) (ht : P.underlying t = some (.map k e)) {x : κ} (hx : ok x) (v : ν) :
    ∃ w', (Instr.mapUpdate t (.map (some b)) (enck x) (encv v)).run P w = .ok () w' ∧ OMap w' b enck ok encv (fun y => if y = x then some v else f y) (if (f x).isSome then n else n + 1) ∧ w.grownBy w' (some b) ∧ (∀ a : Addr, w'.frozen? a = w.frozen? a) ∧ w'.heap.size = w.heap.size := by
  obtain ⟨l, es, clock, hb, hl, hok, hnd, hf, hn⟩ := h.ex
  obtain ⟨kl, hkl⟩ := E.key x hx
  have fz : ∀ es' clock' (a : Addr), (setBlock w b (.map es' clock')).frozen? a = w.frozen? a := by
    intro es' clock' a
    unfold World.frozen?
    by_cases e : a.block = b
    · rw [e, heap_setBlock_same hb _, hb]
    · rw [heap_setBlock_other hb _ e]
  have gr : ∀ es' clock', w.grownBy (setBlock w b (.map es' clock')) (some b) := fun es' clock' =>
    ⟨rfl, rfl, rfl, by simp [setBlock], fun i _ hi => heap_setBlock_other hb _ (fun e => hi (by rw [e]))⟩
  rcases OMap.search E hx w hl hok with ⟨h1, h2⟩ | ⟨j, p, e0, h1, h2, h3, h4, h5⟩
  · have hfx : f x = none := by rw [hf, find_none h2]; rfl
    refine ⟨setBlock w b (.map (es.push ⟨enck x, encv v, clock⟩) (clock + 1)), ?_, ?_, gr _ _, fz _ _, by simp [setBlock]⟩
    · simp [Instr.mapUpdate, run_underlying ht, MapKept.run_getObj_map hb, E.K.check w false hkl, h1, MapKept.run_setObj_map _ hb, Result.andThen, setBlock]
    · rw [hfx]
      refine ⟨l ++ [(x, v)], _, _, heap_setBlock_same hb _, by simp [hl], ?_, ?_, ?_, by simp [hn]⟩
      · intro p hp
        rcases List.mem_append.1 hp with hp | hp
        · exact hok p hp
        · simp at hp; subst hp; exact hx
      · rw [List.map_append, List.nodup_append]
        refine ⟨hnd, by simp, ?_⟩
        intro a ha c hc e
        simp at hc; subst hc; subst e
        obtain ⟨q, hq, rfl⟩ := List.mem_map.1 ha
        exact h2 q hq rfl
      · intro y
        rw [List.find?_append]
        by_cases e : y = x
        · subst e; rw [if_pos rfl, find_none h2]; simp
        · rw [if_neg e, hf]
          have hxy : ¬ x = y := fun e2 => e e2.symm
          have : ([(x, v)] : List (κ × ν)).find? (fun p => decide (p.1 = y)) = none := by simp [hxy]
          rw [this]; simp
  · have hfx : f x = some p.2 := by rw [hf, ← h3, find_at hnd h2]; rfl
    have hj : es[j]? = some e0 := by simpa using h4
    refine ⟨setBlock w b (.map (es.modify j (fun e' => { e' with key := enck x, val := encv v })) clock), ?_, ?_, gr _ _, fz _ _, by simp [setBlock]⟩
    · simp [Instr.mapUpdate, run_underlying ht, MapKept.run_getObj_map hb, E.K.check w false hkl, h1, hj, h5, E.K.stays w hkl, MapKept.run_setObj_map _ hb, Result.andThen, setBlock]
    · rw [hfx]
      refine ⟨l.set j (x, v), _, _, heap_setBlock_same hb _, ?_, ?_, ?_, ?_, by simp [hn]⟩
      · rw [Array.toList_modify, modify_eq_set _ _ _ _ h4, List.map_set, List.map_set, hl]
      · intro q hq
        rcases List.mem_or_eq_of_mem_set hq with hq | rfl
        · exact hok q hq
        · exact hx
      · rw [← h3, set_fst v h2]; exact hnd
      · intro y
        rw [← h3, find_upd v hnd h2]
        by_cases e : y = p.1
        · rw [if_pos e, if_pos e]; rfl
        · rw [if_neg e, if_neg e, hf]

/-- 'len(m)'. -/
theorem OMap.len {t e : TypeId} (h : OMap w b enck ok encv f n) (ht : P.underlying t = some (.map k e)) (ty : TypeId) : (Builtin.len_ #[t] ty #[.map (some b)]).run P w = .ok (.int .i64 n) w := by
  obtain ⟨l, es, clock, hb, hl, _, _, _, hn⟩ := h.ex
  have hs : es.size = n := by
    have := congrArg List.length hl
    simp at this
    omega
  rw [← hs]
  simp [Builtin.len_, run_underlying ht, MapKept.run_getObj_map hb, goInt, Result.andThen]

/-! at the operation, for the walk -/
variable {ops : Array Oper} {rest : List Oper} {o : Oper} {a : Act} {Q : Exit → Act → World → Prop}

theorem wpList_olook_ok (hg : o.guard = none) (m x : Operand) (t : TypeId) (hop : o.op = Op.lookup t m x true) {e : TypeId} (E : KeyEnc P k enck ok) (ht : P.underlying t = some (.map k e)) {z : Value} (hz : (zeroValue e).run P w = .ok z w)
    (hm : a.eval m = .map (some b)) (h : OMap w b enck ok encv f n) (y : κ) (hy : ok y) (hx : a.eval x = enck y)
    (hK : wpList P ops Q rest (a.put o.dst (.tuple #[((f y).map encv).getD z, .bool (f y).isSome])) w) : wpList P ops Q (o :: rest) a w := by
  refine wpList_plain hg fun K' hK' => ?_
  have hrun := h.look E ht hz hy true
  unfold Oper.wp
  simp [execOp, hop, hm, hx, hrun, Result.andThen]
  exact hK' _ _ hK
theorem wpList_olook (hg : o.guard = none) (m x : Operand) (t : TypeId) (hop : o.op = Op.lookup t m x false) {e : TypeId} (E : KeyEnc P k enck ok) (ht : P.underlying t = some (.map k e)) {z : Value} (hz : (zeroValue e).run P w = .ok z w)
    (hm : a.eval m = .map (some b)) (h : OMap w b enck ok encv f n) (y : κ) (hy : ok y) (hx : a.eval x = enck y)
    (hK : wpList P ops Q rest (a.put o.dst (((f y).map encv).getD z)) w) : wpList P ops Q (o :: rest) a w := by
  refine wpList_plain hg fun K' hK' => ?_
  have hrun := h.look E ht hz hy false
  unfold Oper.wp
  simp [execOp, hop, hm, hx, hrun, Result.andThen]
  exact hK' _ _ hK
theorem wpList_oput (hg : o.guard = none) (m x v : Operand) (t : TypeId) (hop : o.op = Op.mapUpdate t m x v) {e : TypeId} (E : KeyEnc P k enck ok) (ht : P.underlying t = some (.map k e))
    (hm : a.eval m = .map (some b)) (h : OMap w b enck ok encv f n) (y : κ) (hy : ok y) (hx : a.eval x = enck y) (u : ν) (hv : a.eval v = encv u)
    (hK : ∀ w', OMap w' b enck ok encv (fun z => if z = y then some u else f z) (if (f y).isSome then n else n + 1) → w.grownBy w' (some b) → (∀ a : Addr, w'.frozen? a = w.frozen? a) → w'.heap.size = w.heap.size → wpList P ops Q rest (a.put o.dst undef) w') : wpList P ops Q (o :: rest) a w := by
  refine wpList_plain hg fun K' hK' => ?_
  obtain ⟨w', hrun, h1, h2, h3, h4⟩ := h.put E ht hy u
  unfold Oper.wp
  simp [execOp, hop, hm, hx, hv, hrun, Result.andThen]
  exact hK' _ _ (hK w' h1 h2 h3 h4)
theorem wpList_olen (hg : o.guard = none) (m : Operand) (t : TypeId) (hop : o.op = Op.call { callee := Callee.builtin Builtin.len, args := #[m], argTypes := #[t] }) {e : TypeId} (ht : P.underlying t = some (.map k e))
    (hm : a.eval m = .map (some b)) (h : OMap w b enck ok encv f n) (hK : wpList P ops Q rest (a.put o.dst (.int .i64 n)) w) : wpList P ops Q (o :: rest) a w := by
  refine wpList_plain hg fun K' hK' => ?_
  unfold Oper.wp
  simp [execOp, hop, resolve, invoke, builtin, hm, h.len ht o.type, Result.andThen]
  exact hK' _ _ hK
end
end Go.Proofs.YtclannenknhfpaaGreatDoor

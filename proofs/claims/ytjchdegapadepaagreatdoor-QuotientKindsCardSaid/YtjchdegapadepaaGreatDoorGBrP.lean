/-
  Lemmas.
-/
import Derived.Test.YtjchdegapadepaaGreatDoorGPl3
import Derived.Test.YtjchdegapadepaaGreatDoorGPl6
import Derived.Lib.ItoaLen
import Derived.Test.YtjchdegapadepaaGreatDoorGOMap
namespace Go.Proofs.YtjchdegapadepaaGreatDoor
namespace Pl
inductive Via (s : Lts) (X : Nat -> Prop) (p : Nat) : Nat -> Prop
  | refl : X p -> Via s X p p
  | tail {q r : Nat} : Via s X p q -> stp s q 0 r -> X r -> Via s X p r
theorem Via.first {s : Lts} {X : Nat -> Prop} {p q : Nat} (h : Via s X p q) : X p := by
 induction h with
 | refl h => exact h
 | tail _ _ _ ih => exact ih
theorem Via.last {s : Lts} {X : Nat -> Prop} {p q : Nat} (h : Via s X p q) : X q := by
 cases h with
 | refl h => exact h
 | tail _ _ h => exact h
theorem Via.mono {s : Lts} {X Y : Nat -> Prop} {p q : Nat} (h : Via s X p q) (hxy : ∀ x, X x -> Y x) : Via s Y p q := by
 induction h with
 | refl h => exact .refl (hxy _ h)
 | tail _ h1 h2 ih => exact .tail ih h1 (hxy _ h2)
theorem Via.head {s : Lts} {X : Nat -> Prop} {p q r : Nat} (hp : X p) (hs : stp s p 0 q) (h : Via s X q r) : Via s X p r := by
 induction h with
 | refl h => exact .tail (.refl hp) hs h
 | tail _ h1 h2 ih => exact .tail ih h1 h2
inductive Sg (s : Lts) (C : Nat -> Int) : Nat -> Int -> Int -> Prop
  | here {p t : Nat} {l : Int} : stp s p l t -> ¬ (l = 0 /\ C t = C p) -> Sg s C p l (C t)
  | on {p t : Nat} {l e : Int} : stp s p 0 t -> C t = C p -> Sg s C t l e -> Sg s C p l e
structure IsBr (s : Lts) (n : Nat) (R : Nat -> Nat -> Prop) : Prop where
  fwd : ∀ p q, p < n -> q < n -> R p q -> ∀ l p', p' < n -> stp s p l p' -> (l = 0 /\ R p' q) ∨ ∃ q0 q', Via s (fun x => x < n /\ R p x) q q0 /\ q' < n /\ stp s q0 l q' /\ R p' q'
  bwd : ∀ p q, p < n -> q < n -> R p q -> ∀ l q', q' < n -> stp s q l q' -> (l = 0 /\ R p q') ∨ ∃ p0 p', Via s (fun x => x < n /\ R x q) p p0 /\ p' < n /\ stp s p0 l p' /\ R p' q'
theorem IsBr.symm {s : Lts} {n : Nat} {R : Nat -> Nat -> Prop} (h : IsBr s n R) : IsBr s n (fun a b => R b a) :=
  ⟨fun p q hp hq hr l p' hp' hs => h.bwd q p hq hp hr l p' hp' hs, fun p q hp hq hr l q' hq' hs => h.fwd q p hq hp hr l q' hq' hs⟩
theorem Sg.via {s : Lts} {C : Nat -> Int} {c : Int} {p q : Nat} (h : Via s (fun x => C x = c) p q) {l e : Int} (hs : Sg s C q l e) : Sg s C p l e := by
 induction h with
 | refl h => exact hs
 | tail h1 h2 h3 ih => exact ih (.on h2 (by rw [h3, h1.last]) hs)
theorem Sg.way {s : Lts} {C : Nat -> Int} {p : Nat} {l e : Int} (h : Sg s C p l e) : ∃ q t, Via s (fun x => C x = C p) p q /\ stp s q l t /\ C t = e /\ ¬ (l = 0 /\ C t = C p) := by
 induction h with
 | here h1 h2 => exact ⟨_, _, .refl rfl, h1, rfl, h2⟩
 | @on p t l e h1 h2 _ ih =>
   obtain ⟨q, t', h3, h4, h5, h6⟩ := ih
   exact ⟨q, t', Via.head rfl h1 (h3.mono (fun x hx => by rw [hx, h2])), h4, h5, by rw [h2] at h6; exact h6⟩
theorem p0r {s : Lts} (hr : s.Right) {n : Nat} (hn : s.st = (n : Int)) {p t : Nat} {l : Int} (h : stp s p l t) : p < n /\ t < n /\ 0 <= l /\ l < s.lb := by
 have := j0e.1 (hr.edges _ h)
 simp only at this
 omega
theorem Via.lt {s : Lts} (hr : s.Right) {n : Nat} (hn : s.st = (n : Int)) {X : Nat -> Prop} {p q : Nat} (hp : p < n) (h : Via s X p q) : Via s (fun x => x < n /\ X x) p q /\ q < n := by
 induction h with
 | refl h => exact ⟨.refl ⟨hp, h⟩, hp⟩
 | tail _ h1 h2 ih =>
   have := (p0r hr hn h1).2.1
   exact ⟨.tail ih.1 h1 ⟨this, h2⟩, this⟩
theorem IsBr.sg {s : Lts} {n : Nat} {R : Nat -> Nat -> Prop} (hr : s.Right) (hn : s.st = (n : Int)) (h : IsBr s n R) {C : Nat -> Int} (hC : ∀ p q, p < n -> q < n -> R p q -> C p = C q) {p : Nat} {l e : Int} (hs : Sg s C p l e) : ∀ q, q < n -> R p q -> Sg s C q l e := by
 have key : ∀ {p q0 : Nat}, p < n -> ∀ {q}, Via s (fun x => x < n /\ R p x) q q0 -> Via s (fun x => C x = C p) q q0 := by
   intro p q0 hp q hv
   exact hv.mono (fun x hx => (hC _ _ hp hx.1 hx.2).symm)
 induction hs with
 | @here p t l h1 h2 => (
 intro q hq hpq
 have hp := (p0r hr hn h1).1; have ht := (p0r hr hn h1).2.1
 have e0 := hC p q hp hq hpq
 rcases h.fwd p q hp hq hpq l t ht h1 with ⟨rfl, h3⟩ | ⟨q0, q', h3, h4, h5, h6⟩
 · exact absurd ⟨rfl, by rw [hC t q ht hq h3, e0]⟩ h2
 · have e1 := hC t q' ht h4 h6
   have e2 := (key hp h3).last
   rw [e1]
   exact Sg.via (key hp h3) (.here h5 (by rw [e2, <- e1]; exact h2)))
 | @on p t l e h1 h2 _ ih => (
 intro q hq hpq
 have hp := (p0r hr hn h1).1; have ht := (p0r hr hn h1).2.1
 rcases h.fwd p q hp hq hpq 0 t ht h1 with ⟨_, h3⟩ | ⟨q0, q', h3, h4, h5, h6⟩
 · exact ih q hq h3
 · have e1 := hC t q' ht h4 h6
   have e2 := (key hp h3).last
   exact Sg.via (key hp h3) (.on h5 (by rw [e2, <- e1]; exact h2) (ih q' h4 h6)))
def Still (s : Lts) (n : Nat) (C : Nat -> Int) : Prop := ∀ p q, p < n -> q < n -> C p = C q -> ∀ l e, Sg s C p l e -> Sg s C q l e
structure BrBig (s : Lts) (n : Nat) (C : Nat -> Int) : Prop where
  still : Still s n C
  all : ∀ R, IsBr s n R -> ∀ p q, p < n -> q < n -> R p q -> C p = C q
theorem Still.br {s : Lts} {n : Nat} {C : Nat -> Int} (hr : s.Right) (hn : s.st = (n : Int)) (h : Still s n C) : IsBr s n (fun p q => C p = C q) := by
 have fw : ∀ p q, p < n -> q < n -> C p = C q -> ∀ l p', p' < n -> stp s p l p' -> (l = 0 /\ C p' = C q) ∨ ∃ q0 q', Via s (fun x => x < n /\ C p = C x) q q0 /\ q' < n /\ stp s q0 l q' /\ C p' = C q' := by (
 intro p q hp hq e l p' hp' hs
 by_cases hi : l = 0 /\ C p' = C p
 · exact .inl ⟨hi.1, hi.2.trans e⟩
 · obtain ⟨q0, t, h1, h2, h3, _⟩ := (h p q hp hq e l (C p') (.here hs hi)).way
   have h4 := (h1.lt hr hn hq).1
   exact .inr ⟨q0, t, h4.mono (fun x hx => ⟨hx.1, by rw [hx.2]; exact e⟩), (p0r hr hn h2).2.1, h2, h3.symm⟩)
 refine ⟨fw, fun p q hp hq e l q' hq' hs => ?_⟩
 rcases fw q p hq hp e.symm l q' hq' hs with ⟨h1, h2⟩ | ⟨q0, t, h1, h2, h3, h4⟩
 · exact .inl ⟨h1, h2.symm⟩
 · exact .inr ⟨q0, t, h1.mono (fun x hx => ⟨hx.1, hx.2.symm⟩), h2, h3, h4.symm⟩
theorem BrBig.same {s : Lts} {n : Nat} {C D : Nat -> Int} (hr : s.Right) (hn : s.st = (n : Int)) (h : BrBig s n C) (h' : BrBig s n D) {p q : Nat} (hp : p < n) (hq : q < n) : C p = C q ↔ D p = D q :=
  ⟨fun e => h'.all _ (h.still.br hr hn) p q hp hq e, fun e => h.all _ (h'.still.br hr hn) p q hp hq e⟩
/-! rounds -/
def Holds (s : Lts) (n : Nat) (C : Nat -> Int) : Prop := ∀ R, IsBr s n R -> ∀ p q, p < n -> q < n -> R p q -> C p = C q
def NextB (s : Lts) (n : Nat) (C D : Nat -> Int) : Prop := ∀ p q, p < n -> q < n -> (D p = D q ↔ C p = C q /\ ∀ l e, Sg s C p l e ↔ Sg s C q l e)
theorem Holds.next {s : Lts} {n : Nat} {C D : Nat -> Int} (hr : s.Right) (hn : s.st = (n : Int)) (h : Holds s n C) (hd : NextB s n C D) : Holds s n D := fun R hR p q hp hq e =>
  (hd p q hp hq).2 ⟨h R hR p q hp hq e, fun _ _ => ⟨fun hs => hR.sg hr hn (h R hR) hs q hq e, fun hs => hR.symm.sg hr hn (fun a b ha hb hab => (h R hR b a hb ha hab).symm) hs p hp e⟩⟩
theorem Holds.done {s : Lts} {n : Nat} {C D : Nat -> Int} (h : Holds s n C) (hd : NextB s n C D) (he : ∀ p, p < n -> D p = C p) : BrBig s n C :=
  ⟨fun p q hp hq e _ _ hs => ((((hd p q hp hq).1 (by rw [he p hp, he q hq]; exact e)).2 _ _).1 hs), h⟩
end Pl
end Go.Proofs.YtjchdegapadepaaGreatDoor
namespace Go.Proofs.YtjchdegapadepaaGreatDoor
namespace Pl
open Go.Lib
/-! decimal numerals -/
theorem q2x : ∀ (u : Nat), ∀ c ∈ decDigits u, 48 <= c.toNat /\ c.toNat <= 57 := by
 intro u
 induction u using Nat.strongRecOn with
 | ind u ih => (
 intro c hc
 rw [decDigits] at hc
 split at hc
 · simp only [List.mem_singleton] at hc
   subst hc
   simp; omega
 · (
 rw [List.mem_append] at hc
 rcases hc with h | h
 · exact ih (u / 10) (by omega) c h
 · simp only [List.mem_singleton] at h
   subst h
   simp; omega))
theorem q2y (u : Nat) : decDigits u ≠ [] := by
 rw [decDigits]; split <;> simp
theorem q1u {a b : Nat} (ha : a < 10) (hb : b < 10) (h : UInt8.ofNat (48 + a) = UInt8.ofNat (48 + b)) : a = b := by
 have := congrArg UInt8.toNat h
 simp at this; omega
theorem q2z : ∀ (u v : Nat), decDigits u = decDigits v -> u = v := by
 intro u
 induction u using Nat.strongRecOn with
 | ind u ih => (
 intro v h
 rw [decDigits, decDigits.eq_def v] at h
 by_cases hu : u < 10 <;> by_cases hv : v < 10
 · rw [dif_pos hu, dif_pos hv] at h
   simp only [List.cons.injEq, and_true] at h
   exact q1u hu hv h
 · rw [dif_pos hu, dif_neg hv] at h
   have := congrArg List.length h
   have h2 := List.length_pos_iff.2 (q2y (v / 10))
   simp only [List.length_append, List.length_cons, List.length_nil] at this; omega
 · rw [dif_neg hu, dif_pos hv] at h
   have := congrArg List.length h
   have h2 := List.length_pos_iff.2 (q2y (u / 10))
   simp only [List.length_append, List.length_cons, List.length_nil] at this; omega
 · (
 rw [dif_neg hu, dif_neg hv] at h
 obtain ⟨h1, h2⟩ := List.append_inj' h rfl
 simp only [List.cons.injEq, and_true] at h2
 have e1 := ih (u / 10) (by omega) (v / 10) h1
 have e2 := q1u (by omega) (by omega) h2
 omega))
theorem y0e (x : Int) : (32 : UInt8) ∉ itoa x := by
 unfold itoa
 have k : ∀ u, (32 : UInt8) ∉ decDigits u := fun u h => by
   have := q2x u _ h
   simp at this
 split
 · rw [List.mem_cons]
   rintro (h | h)
   · exact absurd h (by decide)
   · exact k _ h
 · exact k _
theorem k1f {x y : Int} (h : itoa x = itoa y) : x = y := by
 have k : ∀ u, (45 : UInt8) ∉ decDigits u := fun u h => by
   have := q2x u _ h
   simp at this
 unfold itoa at h
 by_cases hx : x < 0 <;> by_cases hy : y < 0
 · rw [if_pos hx, if_pos hy] at h
   have := q2z _ _ (List.cons.inj h).2
   omega
 · rw [if_pos hx, if_neg hy] at h
   exact absurd (by rw [<- h]; simp) (k y.toNat)
 · rw [if_neg hx, if_pos hy] at h
   exact absurd (by rw [h]; simp) (k x.toNat)
 · rw [if_neg hx, if_neg hy] at h
   have := q2z _ _ h
   omega
theorem x1l : ∀ {a b r r' : List UInt8}, (32 : UInt8) ∉ a -> (32 : UInt8) ∉ b -> a ++ 32 :: r = b ++ 32 :: r' -> a = b /\ r = r'
  | [], [], _, _, _, _, h => ⟨rfl, (List.cons.inj h).2⟩
  | [], y :: b, _, _, _, hb, h => by
    have := (List.cons.inj h).1
    exact absurd (by rw [<- this]; simp) hb
  | x :: a, [], _, _, ha, _, h => by
    have := (List.cons.inj h).1
    exact absurd (by rw [this]; simp) ha
  | x :: a, y :: b, r, r', ha, hb, h => by
    obtain ⟨rfl, h2⟩ := List.cons.inj h
    obtain ⟨h3, h4⟩ := x1l (fun h => ha (List.mem_cons_of_mem _ h)) (fun h => hb (List.mem_cons_of_mem _ h)) h2
    exact ⟨by rw [h3], h4⟩
def stepT (x : S) : List UInt8 := 32 :: (itoa x.1 ++ 32 :: itoa x.2)
def textB (c : Int) (L : List S) : List UInt8 := itoa c ++ L.flatMap stepT
theorem p1a : ∀ {L M : List S} {c d : Int}, textB c L = textB d M -> c = d /\ L = M
  | [], [], c, d, h => by
    unfold textB at h
    simp only [List.flatMap_nil, List.append_nil] at h
    exact ⟨k1f h, rfl⟩
  | [], y :: M, c, d, h => by
    unfold textB at h
    simp only [List.flatMap_nil, List.append_nil, List.flatMap_cons] at h
    exact absurd (by rw [h]; unfold stepT; simp) (y0e c)
  | x :: L, [], c, d, h => by
    unfold textB at h
    simp only [List.flatMap_nil, List.append_nil, List.flatMap_cons] at h
    exact absurd (by rw [<- h]; unfold stepT; simp) (y0e d)
  | x :: L, y :: M, c, d, h => by
    unfold textB at h
    simp only [List.flatMap_cons, stepT, List.cons_append, List.append_assoc] at h
    obtain ⟨h1, h2⟩ := x1l (y0e c) (y0e d) h
    obtain ⟨h3, h4⟩ := x1l (y0e x.1) (y0e y.1) h2
    obtain ⟨h5, h6⟩ := p1a (L := L) (M := M) (c := x.2) (d := y.2) h4
    exact ⟨k1f h1, by rw [h6, Prod.ext (k1f h3) h5]⟩
/-! more classes -/
theorem y0b : ∀ (L M : List Int), L.Nodup -> (∀ x ∈ L, x ∈ M) -> L.length <= M.length
  | [], M, _, _ => Nat.zero_le _
  | x :: L, M, hn, hs => by
    rw [List.nodup_cons] at hn
    have ih := y0b L (M.erase x) hn.2 (fun y hy => (List.mem_erase_of_ne (fun e : y = x => hn.1 (e ▸ hy))).2 (hs y (List.mem_cons_of_mem _ hy)))
    have h1 := List.length_erase_of_mem (hs x (by simp))
    have h2 := List.length_pos_of_mem (hs x (by simp))
    rw [List.length_cons]; omega
theorem k0n {n : Nat} {C : Nat -> Int} {c : Int} : c ∈ dist (fl n C) ↔ ∃ p, p < n /\ C p = c := by
 rw [k0g]; unfold fl; rw [List.mem_map]
 exact ⟨fun ⟨p, h1, h2⟩ => ⟨p, List.mem_range.1 h1, h2⟩, fun ⟨p, h1, h2⟩ => ⟨p, List.mem_range.2 h1, h2⟩⟩
theorem y0n {n : Nat} {C D : Nat -> Int} (h : ∀ p q, p < n -> q < n -> D p = D q -> C p = C q) {a b : Nat} (ha : a < n) (hb : b < n) (e1 : C a = C b) (e2 : D a ≠ D b) : (dist (fl n C)).length < (dist (fl n D)).length := by
 have hex : ∀ c : Int, ∃ p : Nat, c ∈ dist (fl n C) -> p < n /\ C p = c := fun c => by (
 by_cases hc : c ∈ dist (fl n C)
 · obtain ⟨p, hp⟩ := k0n.1 hc
   exact ⟨p, fun _ => hp⟩
 · exact ⟨0, fun h => absurd h hc⟩)
 obtain ⟨r, hr⟩ := Classical.axiomOfChoice hex
 have hca : C a ∈ dist (fl n C) := k0n.2 ⟨a, ha, rfl⟩
 obtain ⟨x, hxm, hxn⟩ : ∃ x, x ∈ dist (fl n D) /\ x ∉ (dist (fl n C)).map (fun c => D (r c)) := by (
 have key : ∀ z, z < n -> C z = C a -> D z ∈ (dist (fl n C)).map (fun c => D (r c)) -> D z = D (r (C a)) := fun z hz e hm => by (
 obtain ⟨c, hc, hcz⟩ := List.mem_map.1 hm
 have h1 := hr c hc
 have h2 := h (r c) z h1.1 hz hcz
 rw [h1.2, e] at h2
 rw [<- hcz, h2])
 by_cases k1 : D a ∈ (dist (fl n C)).map (fun c => D (r c))
 · refine ⟨D b, k0n.2 ⟨b, hb, rfl⟩, fun k2 => e2 ?_⟩
   rw [key a ha rfl k1, key b hb e1.symm k2]
 · exact ⟨D a, k0n.2 ⟨a, ha, rfl⟩, k1⟩)
 have hnd : (x :: (dist (fl n C)).map (fun c => D (r c))).Nodup := by (
 rw [List.nodup_cons]
 refine ⟨hxn, ?_⟩
 rw [List.Nodup, List.pairwise_map]
 refine List.Pairwise.imp_of_mem ?_ (p0h (fl n C))
 intro c d hc hd hcd e
 have k1 := hr c hc; have k2 := hr d hd
 have := h (r c) (r d) k1.1 k2.1 e
 rw [k1.2, k2.2] at this
 exact hcd this)
 have := y0b _ (dist (fl n D)) hnd (fun y hy => by (
 rcases List.mem_cons.1 hy with rfl | h1
 · exact hxm
 · obtain ⟨c, hc, rfl⟩ := List.mem_map.1 h1
   exact k0n.2 ⟨r c, (hr c hc).1, rfl⟩))
 rw [List.length_cons, List.length_map] at this
 omega
theorem p0m {n : Nat} {C D : Nat -> Int} (h1 : canon (fl n C) = fl n C) (h2 : canon (fl n D) = fl n D) (h : ∀ p q, p < n -> q < n -> (C p = C q ↔ D p = D q)) : fl n C = fl n D := by
 rw [<- h1, <- h2, p0x (by rw [j0g, j0g])]
 intro i k x y x' y' hki hx hy hx' hy'
 have hi : i < n := by have := (List.getElem?_eq_some_iff.1 hx).1; rwa [j0g] at this
 have hk : k < n := by omega
 rw [j0h C hi] at hx; rw [j0h C hk] at hy; rw [j0h D hi] at hx'; rw [j0h D hk] at hy'
 cases hx; cases hy; cases hx'; cases hy'
 exact h i k hi hk
end Pl
end Go.Proofs.YtjchdegapadepaaGreatDoor
namespace Go.Proofs.YtjchdegapadepaaGreatDoor
namespace Pl
def asF (n : Nat) (f : Nat -> Int) (p : Nat) : Nat := (clf n f p).toNat
theorem x0u {n : Nat} {f : Nat -> Int} {p : Nat} (hp : p < n) : clf n f p = (asF n f p : Int) := by
 have := (p0q (f := f) hp).1
 unfold asF; omega
theorem x1i {n : Nat} {f : Nat -> Int} {p : Nat} (hp : p < n) : asF n f p < (dist (fl n f)).length := by
 have := p0q (f := f) hp
 unfold asF; omega
section
variable {s : Lts} {n : Nat} {f : Nat -> Int}
theorem z0c (hc : Cyc s n f) {x y : Nat} (hx : x < n) (hy : y < n) : asF n f x = asF n f y ↔ TR s x y /\ TR s y x := by
 rw [<- hc.same x y hx hy, <- v0k (f := f) hx hy, x0u hx, x0u hy]
 omega
theorem z0f (hr : s.Right) (hn : s.st = (n : Int)) {X Y : Nat} {l : Int} : stp (col s (fl n (clf n f))) X l Y ↔ ∃ x y, x < n /\ y < n /\ stp s x l y /\ asF n f x = X /\ asF n f y = Y /\ ¬ (l = 0 /\ X = Y) := by
 unfold stp col
 simp only
 rw [j0t p0p, x0m]
 constructor
 · (
 rintro ⟨⟨x, l', y⟩, h1, h2, h3⟩
 have h4 := j0e.1 (hr.edges _ h1)
 simp only at h4 h2 h3
 obtain ⟨x, rfl⟩ := Int.eq_ofNat_of_zero_le h4.1
 obtain ⟨y, rfl⟩ := Int.eq_ofNat_of_zero_le h4.2.2.2.2.1
 have hx : x < n := by omega
 have hy : y < n := by omega
 simp only [Prod.mk.injEq] at h2
 obtain ⟨e1, rfl, e3⟩ := h2
 rw [y0t (by omega) (by omega)] at e1 e3
 simp only [Int.toNat_natCast] at e1 e3
 rw [x0u hx] at e1
 rw [x0u hy] at e3
 exact ⟨x, y, hx, hy, h1, by omega, by omega, fun h => h3 ⟨h.1, by omega⟩⟩)
 · (
 rintro ⟨x, y, hx, hy, h1, rfl, rfl, h3⟩
 refine ⟨((x : Int), l, (y : Int)), h1, ?_, fun h => h3 ⟨h.1, by simp only at h; omega⟩⟩
 simp only
 rw [y0t (by omega) (by omega), y0t (by omega) (by omega)]
 simp only [Int.toNat_natCast]
 rw [x0u hx, x0u hy])
theorem Sg.cycle (hr : s.Right) (hn : s.st = (n : Int)) (hc : Cyc s n f) {C : Nat -> Int} {x y : Nat} (hx : x < n) (h : TR s x y) (hb : TR s y x) {l e : Int} (hs : Sg s (fun p => C (asF n f p)) y l e) : Sg s (fun p => C (asF n f p)) x l e := by
 have key : ∀ z, TR s x z -> TR s z x -> Via s (fun p => C (asF n f p) = C (asF n f x)) x z := by (
 intro z hz
 induction hz with
 | refl => exact fun _ => .refl rfl
 | @tail a b h1 h2 ih => (
 intro h3
 have hb := y0k hr hn h2
 have e1 : asF n f b = asF n f x := (z0c hc hb.2 hx).2 ⟨h3, h1.tail h2⟩
 exact .tail (ih ((TR.one h2).trans h3)) h2 (by simp only [e1])))
 exact Sg.via (key y h hb) hs
theorem u0h (hr : s.Right) (hn : s.st = (n : Int)) (hc : Cyc s n f) {C : Nat -> Int} {p : Nat} (hp : p < n) {l e : Int} : Sg s (fun p => C (asF n f p)) p l e ↔ Sg (col s (fl n (clf n f))) C (asF n f p) l e := by
 constructor
 · (
 intro h
 clear hp
 induction h with
 | @here p t l h1 h2 =>
   have h3 := p0r hr hn h1
   refine Sg.here (C := C) ((z0f hr hn).2 ⟨p, t, h3.1, h3.2.1, h1, rfl, rfl, fun h => h2 ⟨h.1, by rw [h.2]⟩⟩) h2
 | @on p t l e h1 h2 _ ih => (
 have h3 := p0r hr hn h1
 by_cases he : asF n f p = asF n f t
 · rw [he]; exact ih
 · exact .on ((z0f hr hn).2 ⟨p, t, h3.1, h3.2.1, h1, rfl, rfl, fun h => he h.2⟩) h2 ih))
 · (
 intro h
 obtain ⟨X, hX⟩ : ∃ X, X = asF n f p := ⟨_, rfl⟩
 rw [<- hX] at h
 induction h generalizing p with
 | @here X T l h1 h2 => (
 obtain ⟨x, t, hx, ht, h3, rfl, rfl, _⟩ := (z0f hr hn).1 h1
 obtain ⟨h5, h6⟩ := (z0c hc hx hp).1 hX
 exact Sg.cycle hr hn hc hp h6 h5 (.here (C := fun p => C (asF n f p)) h3 h2))
 | @on X T l e h1 h2 _ ih => (
 obtain ⟨x, t, hx, ht, h3, rfl, rfl, _⟩ := (z0f hr hn).1 h1
 obtain ⟨h5, h6⟩ := (z0c hc hx hp).1 hX
 exact Sg.cycle hr hn hc hp h6 h5 (.on h3 h2 (ih ht rfl))))
end
inductive Rounds (s : Lts) (n : Nat) : (Nat -> Int) -> Prop
  | zero : Rounds s n (fun _ => 0)
  | step {C D : Nat -> Int} : Rounds s n C -> NextB s n C D -> Rounds s n D
theorem Rounds.holds {s : Lts} {n : Nat} {f : Nat -> Int} (hr : s.Right) (hn : s.st = (n : Int)) (hc : Cyc s n f) {C : Nat -> Int} (h : Rounds (col s (fl n (clf n f))) (dist (fl n f)).length C) : Holds s n (fun p => C (asF n f p)) := by
 induction h with
 | zero => exact fun _ _ _ _ _ _ _ => rfl
 | @step C D _ h2 ih => (
 refine ih.next hr hn (fun p q hp hq => ?_)
 rw [h2 _ _ (x1i hp) (x1i hq)]
 have e : (∀ l e, Sg (col s (fl n (clf n f))) C (asF n f p) l e ↔ Sg (col s (fl n (clf n f))) C (asF n f q) l e) ↔ ∀ l e, Sg s (fun p => C (asF n f p)) p l e ↔ Sg s (fun p => C (asF n f p)) q l e := by (
 constructor
 · intro h l e; rw [u0h hr hn hc hp, u0h hr hn hc hq]; exact h l e
 · intro h l e; rw [<- u0h hr hn hc hp, <- u0h hr hn hc hq]; exact h l e)
 rw [e])
theorem Rounds.big {s : Lts} {n : Nat} {f : Nat -> Int} (hr : s.Right) (hn : s.st = (n : Int)) (hc : Cyc s n f) {C : Nat -> Int} (h : Rounds (col s (fl n (clf n f))) (dist (fl n f)).length C) (hs : Still (col s (fl n (clf n f))) (dist (fl n f)).length C) : BrBig s n (fun p => C (asF n f p)) :=
  ⟨fun _ _ hp hq e l x hx => (u0h hr hn hc hq).2 (hs _ _ (x1i hp) (x1i hq) e l x ((u0h hr hn hc hp).1 hx)), h.holds hr hn hc⟩
theorem Sg.congr {s : Lts} {n : Nat} (hr : s.Right) (hn : s.st = (n : Int)) {C D : Nat -> Int} (h : ∀ p q, p < n -> q < n -> (C p = C q ↔ D p = D q)) {p : Nat} (hp : p < n) {l e : Int} (hs : Sg s C p l e) : ∃ t, t < n /\ C t = e /\ Sg s D p l (D t) := by
 induction hs with
 | @here p t l h1 h2 =>
   have h3 := p0r hr hn h1
   exact ⟨t, h3.2.1, rfl, .here h1 (fun k => h2 ⟨k.1, (h _ _ h3.2.1 h3.1).2 k.2⟩)⟩
 | @on p t l e h1 h2 _ ih => (
 have h3 := p0r hr hn h1
 obtain ⟨u, hu, e1, h4⟩ := ih h3.2.1
 exact ⟨u, hu, e1, .on h1 ((h _ _ h3.2.1 h3.1).1 h2) h4⟩)
theorem BrBig.congr {s : Lts} {n : Nat} (hr : s.Right) (hn : s.st = (n : Int)) {C D : Nat -> Int} (hb : BrBig s n C) (h : ∀ p q, p < n -> q < n -> (C p = C q ↔ D p = D q)) : BrBig s n D := by
 refine ⟨fun p q hp hq e l x hx => ?_, fun R hR p q hp hq e => (h p q hp hq).1 (hb.all R hR p q hp hq e)⟩
 obtain ⟨t, ht, e1, h1⟩ := hx.congr hr hn (fun a b ha hb => (h a b ha hb).symm) hp
 have h2 := hb.still p q hp hq ((h p q hp hq).2 e) _ _ h1
 obtain ⟨u, hu, e2, h3⟩ := h2.congr hr hn h hq
 rw [<- e1, (h t u ht hu).1 e2.symm]
 exact h3
theorem BrBig.clf {s : Lts} {n : Nat} (hr : s.Right) (hn : s.st = (n : Int)) {C : Nat -> Int} (hb : BrBig s n C) : BrBig s n (clf n C) := hb.congr hr hn (fun _ _ hp hq => (v0k (f := C) hp hq).symm)
theorem BrBig.uniq {s : Lts} {n : Nat} (hr : s.Right) (hn : s.st = (n : Int)) {C D : Nat -> Int} (h : BrBig s n C) (h' : BrBig s n D) : fl n (Pl.clf n C) = fl n (Pl.clf n D) := by
 rw [<- j0u, <- j0u, p0x (by rw [j0g, j0g])]
 intro i k x y x' y' hki hx hy hx' hy'
 have hi : i < n := by have := (List.getElem?_eq_some_iff.1 hx).1; rwa [j0g] at this
 have hk : k < n := by omega
 rw [j0h C hi] at hx; rw [j0h C hk] at hy; rw [j0h D hi] at hx'; rw [j0h D hk] at hy'
 cases hx; cases hy; cases hx'; cases hy'
 exact h.same hr hn h' hi hk
/-! signatures as lists -/
structure SigOk (s : Lts) (C : Nat -> Int) (p : Nat) (L : List S) : Prop where
  srt : Srt ltS L
  mem : ∀ l e, (l, e) ∈ L ↔ Sg s C p l e
def shareB (C : Nat -> Int) (F : Nat -> List S) (p : Nat) (x : S) : List S := if x.1 = 0 /\ C x.2.toNat = C p then F x.2.toNat else [(x.1, C x.2.toNat)]
theorem sig_step {s : Lts} (hr : s.Right) {C : Nat -> Int} {F : Nat -> List S} {p : Nat} (hF : ∀ t, tau s p t -> SigOk s C t (F t)) : SigOk s C p (nf ltS ((s.outs (p : Int)).flatMap (shareB C F p))) := by
 refine ⟨k0r stoS _, fun l e => ?_⟩
 rw [j0t stoS, List.mem_flatMap]
 constructor
 · (
 rintro ⟨⟨a, b⟩, h1, h2⟩
 have h3 : ((p : Int), a, b) ∈ s.es := j0j.1 h1
 have h4 := j0e.1 (hr.edges _ h3)
 simp only at h4
 obtain ⟨t, rfl⟩ := Int.eq_ofNat_of_zero_le h4.2.2.2.2.1
 unfold shareB at h2
 simp only [Int.toNat_natCast] at h2
 split at h2
 · rename_i hi
   obtain ⟨rfl, hi⟩ := hi
   exact .on h3 hi (((hF t h3).mem l e).1 h2)
 · rename_i hi
   simp only [List.mem_singleton, Prod.mk.injEq] at h2
   obtain ⟨rfl, rfl⟩ := h2
   exact .here h3 hi)
 · intro h
   cases h with
   | @here _ t _ h1 h2 => exact ⟨(l, (t : Int)), j0j.2 h1, by unfold shareB; simp only [Int.toNat_natCast]; rw [if_neg h2]; simp⟩
   | @on _ t _ _ h1 h2 h3 => exact ⟨(0, (t : Int)), j0j.2 h1, by unfold shareB; simp only [Int.toNat_natCast]; rw [if_pos ⟨trivial, h2⟩]; exact ((hF t h1).mem l e).2 h3⟩
theorem SigOk.eq {s : Lts} {C : Nat -> Int} {p q : Nat} {L M : List S} (h : SigOk s C p L) (h' : SigOk s C q M) : L = M ↔ ∀ l e, Sg s C p l e ↔ Sg s C q l e := by
 constructor
 · rintro rfl l e; rw [<- h.mem, <- h'.mem]
 · intro hs
   exact x0b stoS _ _ h.srt h'.srt (fun x => by obtain ⟨l, e⟩ := x; rw [h.mem, h'.mem, hs])
theorem p2v {s : Lts} {n : Nat} {C : Nat -> Int} {F : Nat -> List S} (hF : ∀ p, p < n -> SigOk s C p (F p)) {G : Nat -> Int} (hG : ∀ p q, p < n -> q < n -> (G p = G q ↔ textB (C p) (F p) = textB (C q) (F q))) : NextB s n C (clf n G) := fun p q hp hq => by
  rw [v0k (f := G) hp hq, hG p q hp hq]
  constructor
  · intro h
    obtain ⟨h1, h2⟩ := p1a h
    exact ⟨h1, ((hF p hp).eq (hF q hq)).1 h2⟩
  · rintro ⟨h1, h2⟩
    rw [h1, ((hF p hp).eq (hF q hq)).2 h2]
end Pl
end Go.Proofs.YtjchdegapadepaaGreatDoor
namespace Go.Proofs.YtjchdegapadepaaGreatDoor
open Go.RowKit Pl
def keepE (inert : Bool) (e : E) : Bool := !(inert && (decide (e.2.1 = 0) && decide (e.1 = e.2.2)))
def quoEI (inert : Bool) (s : Lts) (L D P : List Int) : List E := (quoE s L D P).filter (keepE inert)
noncomputable def quoSI (inert : Bool) (s : Lts) (L : List Int) : Lts := ⟨((quoD s L).length : Int), s.lb, toI (quoD s L) (atL L s.s0), nf ltE (quoEI inert s L (quoD s L) (reachL s))⟩
theorem x1x (s : Lts) (L D P : List Int) : quoEI false s L D P = quoE s L D P := by
 unfold quoEI
 rw [List.filter_eq_self]
 intro e _; rfl
theorem z0o (s : Lts) (L : List Int) : quoSI false s L = quoS s L := by unfold quoSI quoS; rw [x1x]
theorem quo_lenI (inert : Bool) (s : Lts) (L : List Int) : (quoSI inert s L).es.length <= s.es.length := by
 unfold quoSI
 simp only
 have e : nf ltE (quoEI inert s L (quoD s L) (reachL s)) = nf ltE (((s.es.filter (fun e => decide (e.1 ∈ reachL s))).map (fun e => (toI (quoD s L) (atL L e.1), e.2.1, toI (quoD s L) (atL L e.2.2)))).filter (keepE inert)) := by (
 apply y0z p0p
 intro x
 unfold quoEI
 rw [List.mem_filter, List.mem_filter, z1o, List.mem_map]
 constructor
 · rintro ⟨⟨p, hp, l, y, h, rfl⟩, hk⟩
   exact ⟨⟨(p, l, y), List.mem_filter.2 ⟨h, by simpa using hp⟩, rfl⟩, hk⟩
 · rintro ⟨⟨⟨p, l, y⟩, h, rfl⟩, hk⟩
   obtain ⟨h1, h2⟩ := List.mem_filter.1 h
   exact ⟨⟨p, by simpa using h2, l, y, h1, rfl⟩, hk⟩)
 rw [e]
 refine Nat.le_trans (j0s _) ?_
 refine Nat.le_trans (List.length_filter_le _ _) ?_
 rw [List.length_map]
 exact List.length_filter_le _ _
section
variable {s : Lts} {n z : Nat} {C : Nat -> Int} {inert : Bool}
end
end Go.Proofs.YtjchdegapadepaaGreatDoor

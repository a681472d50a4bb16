/-
 Lemmas.
-/
import Derived.Test.YtebmlhaoeldhkaaGreatDoorGPlS
import Derived.Lib.ItoaLen
import Derived.Test.YtebmlhaoeldhkaaGreatDoorGPl12
import Derived.Maps.OwnSet
import Derived.DeepKeys4
namespace Go.Proofs.YtebmlhaoeldhkaaGreatDoor
namespace Pl
inductive Via (s : Lts) (X : Nat -> Prop) (p : Nat) : Nat -> Prop
 | refl : X p -> Via s X p p
 | tail {q r : Nat} : Via s X p q -> stp s q 0 r -> X r -> Via s X p r
theorem Via.first {s : Lts} {X : Nat -> Prop} {p q : Nat} (h : Via s X p q) : X p := by
 induction h with
 | refl h => exact h
 | tail _ _ _ ih => exact ih
theorem Via.last {s : Lts} {X : Nat -> Prop} {p q : Nat} (h : Via s X p q) : X q := by
 cases h with
 | refl h => exact h
 | tail _ _ h => exact h
theorem Via.mono {s : Lts} {X Y : Nat -> Prop} {p q : Nat} (h : Via s X p q) (hxy : ∀ x, X x -> Y x) : Via s Y p q := by
 induction h with
 | refl h => exact .refl (hxy _ h)
 | tail _ h1 h2 ih => exact .tail ih h1 (hxy _ h2)
theorem Via.head {s : Lts} {X : Nat -> Prop} {p q r : Nat} (hp : X p) (hs : stp s p 0 q) (h : Via s X q r) : Via s X p r := by
 induction h with
 | refl h => exact .tail (.refl hp) hs h
 | tail _ h1 h2 ih => exact .tail ih h1 h2
inductive Sg (s : Lts) (C : Nat -> Int) : Nat -> Int -> Int -> Prop
 | here {p t : Nat} {l : Int} : stp s p l t -> ¬ (l = 0 /\ C t = C p) -> Sg s C p l (C t)
 | on {p t : Nat} {l e : Int} : stp s p 0 t -> C t = C p -> Sg s C t l e -> Sg s C p l e
structure IsBr (s : Lts) (n : Nat) (R : Nat -> Nat -> Prop) : Prop where
 fwd : ∀ p q, p < n -> q < n -> R p q -> ∀ l p', p' < n -> stp s p l p' -> (l = 0 /\ R p' q) ∨ ∃ q0 q', Via s (fun x => x < n /\ R p x) q q0 /\ q' < n /\ stp s q0 l q' /\ R p' q'
 bwd : ∀ p q, p < n -> q < n -> R p q -> ∀ l q', q' < n -> stp s q l q' -> (l = 0 /\ R p q') ∨ ∃ p0 p', Via s (fun x => x < n /\ R x q) p p0 /\ p' < n /\ stp s p0 l p' /\ R p' q'
theorem IsBr.symm {s : Lts} {n : Nat} {R : Nat -> Nat -> Prop} (h : IsBr s n R) : IsBr s n (fun a b => R b a) :=
 ⟨fun p q hp hq hr l p' hp' hs => h.bwd q p hq hp hr l p' hp' hs, fun p q hp hq hr l q' hq' hs => h.fwd q p hq hp hr l q' hq' hs⟩
theorem Sg.via {s : Lts} {C : Nat -> Int} {c : Int} {p q : Nat} (h : Via s (fun x => C x = c) p q) {l e : Int} (hs : Sg s C q l e) : Sg s C p l e := by
 induction h with
 | refl h => exact hs
 | tail h1 h2 h3 ih => exact ih (.on h2 (by rw [h3, h1.last]) hs)
theorem Sg.way {s : Lts} {C : Nat -> Int} {p : Nat} {l e : Int} (h : Sg s C p l e) : ∃ q t, Via s (fun x => C x = C p) p q /\ stp s q l t /\ C t = e /\ ¬ (l = 0 /\ C t = C p) := by
 induction h with
 | here h1 h2 => exact ⟨_, _, .refl rfl, h1, rfl, h2⟩
 | @on p t l e h1 h2 _ ih =>
   obtain ⟨q, t', h3, h4, h5, h6⟩ := ih
   exact ⟨q, t', Via.head rfl h1 (h3.mono (fun x hx => by rw [hx, h2])), h4, h5, by rw [h2] at h6; exact h6⟩
theorem stp_lt {s : Lts} (hr : s.Right) {n : Nat} (hn : s.st = (n : Int)) {p t : Nat} {l : Int} (h : stp s p l t) : p < n /\ t < n /\ 0 <= l /\ l < s.lb := by
 have := offB_false.1 (hr.edges _ h)
 simp only at this
 omega
theorem Via.lt {s : Lts} (hr : s.Right) {n : Nat} (hn : s.st = (n : Int)) {X : Nat -> Prop} {p q : Nat} (hp : p < n) (h : Via s X p q) : Via s (fun x => x < n /\ X x) p q /\ q < n := by
 induction h with
 | refl h => exact ⟨.refl ⟨hp, h⟩, hp⟩
 | tail _ h1 h2 ih =>
   have := (stp_lt hr hn h1).2.1
   exact ⟨.tail ih.1 h1 ⟨this, h2⟩, this⟩
theorem IsBr.sg {s : Lts} {n : Nat} {R : Nat -> Nat -> Prop} (hr : s.Right) (hn : s.st = (n : Int)) (h : IsBr s n R) {C : Nat -> Int} (hC : ∀ p q, p < n -> q < n -> R p q -> C p = C q) {p : Nat} {l e : Int} (hs : Sg s C p l e) : ∀ q, q < n -> R p q -> Sg s C q l e := by
 have key : ∀ {p q0 : Nat}, p < n -> ∀ {q}, Via s (fun x => x < n /\ R p x) q q0 -> Via s (fun x => C x = C p) q q0 := by
   intro p q0 hp q hv
   exact hv.mono (fun x hx => (hC _ _ hp hx.1 hx.2).symm)
 induction hs with
 | @here p t l h1 h2 =>
   intro q hq hpq
   have hp := (stp_lt hr hn h1).1; have ht := (stp_lt hr hn h1).2.1
   have e0 := hC p q hp hq hpq
   rcases h.fwd p q hp hq hpq l t ht h1 with ⟨rfl, h3⟩ | ⟨q0, q', h3, h4, h5, h6⟩
   · exact absurd ⟨rfl, by rw [hC t q ht hq h3, e0]⟩ h2
   · have e1 := hC t q' ht h4 h6
     have e2 := (key hp h3).last
     rw [e1]
     exact Sg.via (key hp h3) (.here h5 (by rw [e2, <- e1]; exact h2))
 | @on p t l e h1 h2 _ ih =>
   intro q hq hpq
   have hp := (stp_lt hr hn h1).1; have ht := (stp_lt hr hn h1).2.1
   rcases h.fwd p q hp hq hpq 0 t ht h1 with ⟨_, h3⟩ | ⟨q0, q', h3, h4, h5, h6⟩
   · exact ih q hq h3
   · have e1 := hC t q' ht h4 h6
     have e2 := (key hp h3).last
     exact Sg.via (key hp h3) (.on h5 (by rw [e2, <- e1]; exact h2) (ih q' h4 h6))
def Still (s : Lts) (n : Nat) (C : Nat -> Int) : Prop := ∀ p q, p < n -> q < n -> C p = C q -> ∀ l e, Sg s C p l e -> Sg s C q l e
structure BrBig (s : Lts) (n : Nat) (C : Nat -> Int) : Prop where
 still : Still s n C
 all : ∀ R, IsBr s n R -> ∀ p q, p < n -> q < n -> R p q -> C p = C q
theorem Still.br {s : Lts} {n : Nat} {C : Nat -> Int} (hr : s.Right) (hn : s.st = (n : Int)) (h : Still s n C) : IsBr s n (fun p q => C p = C q) := by
 have fw : ∀ p q, p < n -> q < n -> C p = C q -> ∀ l p', p' < n -> stp s p l p' -> (l = 0 /\ C p' = C q) ∨ ∃ q0 q', Via s (fun x => x < n /\ C p = C x) q q0 /\ q' < n /\ stp s q0 l q' /\ C p' = C q' := by
   intro p q hp hq e l p' hp' hs
   by_cases hi : l = 0 /\ C p' = C p
   · exact .inl ⟨hi.1, hi.2.trans e⟩
   · obtain ⟨q0, t, h1, h2, h3, _⟩ := (h p q hp hq e l (C p') (.here hs hi)).way
     have h4 := (h1.lt hr hn hq).1
     exact .inr ⟨q0, t, h4.mono (fun x hx => ⟨hx.1, by rw [hx.2]; exact e⟩), (stp_lt hr hn h2).2.1, h2, h3.symm⟩
 refine ⟨fw, fun p q hp hq e l q' hq' hs => ?_⟩
 rcases fw q p hq hp e.symm l q' hq' hs with ⟨h1, h2⟩ | ⟨q0, t, h1, h2, h3, h4⟩
 · exact .inl ⟨h1, h2.symm⟩
 · exact .inr ⟨q0, t, h1.mono (fun x hx => ⟨hx.1, hx.2.symm⟩), h2, h3, h4.symm⟩
theorem BrBig.same {s : Lts} {n : Nat} {C D : Nat -> Int} (hr : s.Right) (hn : s.st = (n : Int)) (h : BrBig s n C) (h' : BrBig s n D) {p q : Nat} (hp : p < n) (hq : q < n) : C p = C q ↔ D p = D q :=
 ⟨fun e => h'.all _ (h.still.br hr hn) p q hp hq e, fun e => h.all _ (h'.still.br hr hn) p q hp hq e⟩
/-! rounds -/
def Holds (s : Lts) (n : Nat) (C : Nat -> Int) : Prop := ∀ R, IsBr s n R -> ∀ p q, p < n -> q < n -> R p q -> C p = C q
def NextB (s : Lts) (n : Nat) (C D : Nat -> Int) : Prop := ∀ p q, p < n -> q < n -> (D p = D q ↔ C p = C q /\ ∀ l e, Sg s C p l e ↔ Sg s C q l e)
theorem Holds.next {s : Lts} {n : Nat} {C D : Nat -> Int} (hr : s.Right) (hn : s.st = (n : Int)) (h : Holds s n C) (hd : NextB s n C D) : Holds s n D := fun R hR p q hp hq e =>
 (hd p q hp hq).2 ⟨h R hR p q hp hq e, fun _ _ => ⟨fun hs => hR.sg hr hn (h R hR) hs q hq e, fun hs => hR.symm.sg hr hn (fun a b ha hb hab => (h R hR b a hb ha hab).symm) hs p hp e⟩⟩
theorem Holds.done {s : Lts} {n : Nat} {C D : Nat -> Int} (h : Holds s n C) (hd : NextB s n C D) (he : ∀ p, p < n -> D p = C p) : BrBig s n C :=
 ⟨fun p q hp hq e _ _ hs => ((((hd p q hp hq).1 (by rw [he p hp, he q hq]; exact e)).2 _ _).1 hs), h⟩
end Pl
end Go.Proofs.YtebmlhaoeldhkaaGreatDoor
namespace Go.Proofs.YtebmlhaoeldhkaaGreatDoor
namespace Pl
open Go.Lib
/-! decimal numerals -/
theorem dec_rng : ∀ (u : Nat), ∀ c ∈ decDigits u, 48 <= c.toNat /\ c.toNat <= 57 := by
 intro u
 induction u using Nat.strongRecOn with
 | ind u ih =>
   intro c hc
   rw [decDigits] at hc
   split at hc
   · simp only [List.mem_singleton] at hc
     subst hc
     simp; omega
   · rw [List.mem_append] at hc
     rcases hc with h | h
     · exact ih (u / 10) (by omega) c h
     · simp only [List.mem_singleton] at h
       subst h
       simp; omega
theorem dec_ne (u : Nat) : decDigits u ≠ [] := by
 rw [decDigits]; split <;> simp
theorem digit_inj {a b : Nat} (ha : a < 10) (hb : b < 10) (h : UInt8.ofNat (48 + a) = UInt8.ofNat (48 + b)) : a = b := by
 have := congrArg UInt8.toNat h
 simp at this; omega
theorem dec_inj : ∀ (u v : Nat), decDigits u = decDigits v -> u = v := by
 intro u
 induction u using Nat.strongRecOn with
 | ind u ih =>
   intro v h
   rw [decDigits, decDigits.eq_def v] at h
   by_cases hu : u < 10 <;> by_cases hv : v < 10
   · rw [dif_pos hu, dif_pos hv] at h
     simp only [List.cons.injEq, and_true] at h
     exact digit_inj hu hv h
   · rw [dif_pos hu, dif_neg hv] at h
     have := congrArg List.length h
     have h2 := List.length_pos_iff.2 (dec_ne (v / 10))
     simp only [List.length_append, List.length_cons, List.length_nil] at this; omega
   · rw [dif_neg hu, dif_pos hv] at h
     have := congrArg List.length h
     have h2 := List.length_pos_iff.2 (dec_ne (u / 10))
     simp only [List.length_append, List.length_cons, List.length_nil] at this; omega
   · rw [dif_neg hu, dif_neg hv] at h
     obtain ⟨h1, h2⟩ := List.append_inj' h rfl
     simp only [List.cons.injEq, and_true] at h2
     have e1 := ih (u / 10) (by omega) (v / 10) h1
     have e2 := digit_inj (by omega) (by omega) h2
     omega
theorem itoa_no (x : Int) : (32 : UInt8) ∉ itoa x := by
 unfold itoa
 have k : ∀ u, (32 : UInt8) ∉ decDigits u := fun u h => by
   have := dec_rng u _ h
   simp at this
 split
 · rw [List.mem_cons]
   rintro (h | h)
   · exact absurd h (by decide)
   · exact k _ h
 · exact k _
theorem itoa_inj {x y : Int} (h : itoa x = itoa y) : x = y := by
 have k : ∀ u, (45 : UInt8) ∉ decDigits u := fun u h => by
   have := dec_rng u _ h
   simp at this
 unfold itoa at h
 by_cases hx : x < 0 <;> by_cases hy : y < 0
 · rw [if_pos hx, if_pos hy] at h
   have := dec_inj _ _ (List.cons.inj h).2
   omega
 · rw [if_pos hx, if_neg hy] at h
   exact absurd (by rw [<- h]; simp) (k y.toNat)
 · rw [if_neg hx, if_pos hy] at h
   exact absurd (by rw [h]; simp) (k x.toNat)
 · rw [if_neg hx, if_neg hy] at h
   have := dec_inj _ _ h
   omega
theorem split32 : ∀ {a b r r' : List UInt8}, (32 : UInt8) ∉ a -> (32 : UInt8) ∉ b -> a ++ 32 :: r = b ++ 32 :: r' -> a = b /\ r = r'
 | [], [], _, _, _, _, h => ⟨rfl, (List.cons.inj h).2⟩
 | [], y :: b, _, _, _, hb, h => by
   have := (List.cons.inj h).1
   exact absurd (by rw [<- this]; simp) hb
 | x :: a, [], _, _, ha, _, h => by
   have := (List.cons.inj h).1
   exact absurd (by rw [this]; simp) ha
 | x :: a, y :: b, r, r', ha, hb, h => by
   obtain ⟨rfl, h2⟩ := List.cons.inj h
   obtain ⟨h3, h4⟩ := split32 (fun h => ha (List.mem_cons_of_mem _ h)) (fun h => hb (List.mem_cons_of_mem _ h)) h2
   exact ⟨by rw [h3], h4⟩
def stepT (x : S) : List UInt8 := 32 :: (itoa x.1 ++ 32 :: itoa x.2)
def textB (c : Int) (L : List S) : List UInt8 := itoa c ++ L.flatMap stepT
theorem textB_inj : ∀ {L M : List S} {c d : Int}, textB c L = textB d M -> c = d /\ L = M
 | [], [], c, d, h => by
   unfold textB at h
   simp only [List.flatMap_nil, List.append_nil] at h
   exact ⟨itoa_inj h, rfl⟩
 | [], y :: M, c, d, h => by
   unfold textB at h
   simp only [List.flatMap_nil, List.append_nil, List.flatMap_cons] at h
   exact absurd (by rw [h]; unfold stepT; simp) (itoa_no c)
 | x :: L, [], c, d, h => by
   unfold textB at h
   simp only [List.flatMap_nil, List.append_nil, List.flatMap_cons] at h
   exact absurd (by rw [<- h]; unfold stepT; simp) (itoa_no d)
 | x :: L, y :: M, c, d, h => by
   unfold textB at h
   simp only [List.flatMap_cons, stepT, List.cons_append, List.append_assoc] at h
   obtain ⟨h1, h2⟩ := split32 (itoa_no c) (itoa_no d) h
   obtain ⟨h3, h4⟩ := split32 (itoa_no x.1) (itoa_no y.1) h2
   obtain ⟨h5, h6⟩ := textB_inj (L := L) (M := M) (c := x.2) (d := y.2) h4
   exact ⟨itoa_inj h1, by rw [h6, Prod.ext (itoa_inj h3) h5]⟩
/-! more classes -/
theorem nodup_subI : ∀ (L M : List Int), L.Nodup -> (∀ x ∈ L, x ∈ M) -> L.length <= M.length
 | [], M, _, _ => Nat.zero_le _
 | x :: L, M, hn, hs => by
   rw [List.nodup_cons] at hn
   have ih := nodup_subI L (M.erase x) hn.2 (fun y hy => (List.mem_erase_of_ne (fun e : y = x => hn.1 (e ▸ hy))).2 (hs y (List.mem_cons_of_mem _ hy)))
   have h1 := List.length_erase_of_mem (hs x (by simp))
   have h2 := List.length_pos_of_mem (hs x (by simp))
   rw [List.length_cons]; omega
theorem mem_dist_fl {n : Nat} {C : Nat -> Int} {c : Int} : c ∈ dist (fl n C) ↔ ∃ p, p < n /\ C p = c := by
 rw [mem_dist]; unfold fl; rw [List.mem_map]
 exact ⟨fun ⟨p, h1, h2⟩ => ⟨p, List.mem_range.1 h1, h2⟩, fun ⟨p, h1, h2⟩ => ⟨p, List.mem_range.2 h1, h2⟩⟩
theorem more_classes {n : Nat} {C D : Nat -> Int} (h : ∀ p q, p < n -> q < n -> D p = D q -> C p = C q) {a b : Nat} (ha : a < n) (hb : b < n) (e1 : C a = C b) (e2 : D a ≠ D b) : (dist (fl n C)).length < (dist (fl n D)).length := by
 have hex : ∀ c : Int, ∃ p : Nat, c ∈ dist (fl n C) -> p < n /\ C p = c := fun c => by
   by_cases hc : c ∈ dist (fl n C)
   · obtain ⟨p, hp⟩ := mem_dist_fl.1 hc
     exact ⟨p, fun _ => hp⟩
   · exact ⟨0, fun h => absurd h hc⟩
 obtain ⟨r, hr⟩ := Classical.axiomOfChoice hex
 have hca : C a ∈ dist (fl n C) := mem_dist_fl.2 ⟨a, ha, rfl⟩
 obtain ⟨x, hxm, hxn⟩ : ∃ x, x ∈ dist (fl n D) /\ x ∉ (dist (fl n C)).map (fun c => D (r c)) := by
   have key : ∀ z, z < n -> C z = C a -> D z ∈ (dist (fl n C)).map (fun c => D (r c)) -> D z = D (r (C a)) := fun z hz e hm => by
     obtain ⟨c, hc, hcz⟩ := List.mem_map.1 hm
     have h1 := hr c hc
     have h2 := h (r c) z h1.1 hz hcz
     rw [h1.2, e] at h2
     rw [<- hcz, h2]
   by_cases k1 : D a ∈ (dist (fl n C)).map (fun c => D (r c))
   · refine ⟨D b, mem_dist_fl.2 ⟨b, hb, rfl⟩, fun k2 => e2 ?_⟩
     rw [key a ha rfl k1, key b hb e1.symm k2]
   · exact ⟨D a, mem_dist_fl.2 ⟨a, ha, rfl⟩, k1⟩
 have hnd : (x :: (dist (fl n C)).map (fun c => D (r c))).Nodup := by
   rw [List.nodup_cons]
   refine ⟨hxn, ?_⟩
   rw [List.Nodup, List.pairwise_map]
   refine List.Pairwise.imp_of_mem ?_ (nodup_dist (fl n C))
   intro c d hc hd hcd e
   have k1 := hr c hc; have k2 := hr d hd
   have := h (r c) (r d) k1.1 k2.1 e
   rw [k1.2, k2.2] at this
   exact hcd this
 have := nodup_subI _ (dist (fl n D)) hnd (fun y hy => by
   rcases List.mem_cons.1 hy with rfl | h1
   · exact hxm
   · obtain ⟨c, hc, rfl⟩ := List.mem_map.1 h1
     exact mem_dist_fl.2 ⟨r c, (hr c hc).1, rfl⟩)
 rw [List.length_cons, List.length_map] at this
 omega
theorem canon_same_list {n : Nat} {C D : Nat -> Int} (h1 : canon (fl n C) = fl n C) (h2 : canon (fl n D) = fl n D) (h : ∀ p q, p < n -> q < n -> (C p = C q ↔ D p = D q)) : fl n C = fl n D := by
 rw [<- h1, <- h2, sameT_canon (by rw [fl_len, fl_len])]
 intro i k x y x' y' hki hx hy hx' hy'
 have hi : i < n := by have := (List.getElem?_eq_some_iff.1 hx).1; rwa [fl_len] at this
 have hk : k < n := by omega
 rw [fl_get C hi] at hx; rw [fl_get C hk] at hy; rw [fl_get D hi] at hx'; rw [fl_get D hk] at hy'
 cases hx; cases hy; cases hx'; cases hy'
 exact h i k hi hk
end Pl
end Go.Proofs.YtebmlhaoeldhkaaGreatDoor
namespace Go.Proofs.YtebmlhaoeldhkaaGreatDoor
namespace Pl
def asF (n : Nat) (f : Nat -> Int) (p : Nat) : Nat := (clf n f p).toNat
theorem asF_eq {n : Nat} {f : Nat -> Int} {p : Nat} (hp : p < n) : clf n f p = (asF n f p : Int) := by
 have := (clf_rng (f := f) hp).1
 unfold asF; omega
theorem asF_lt {n : Nat} {f : Nat -> Int} {p : Nat} (hp : p < n) : asF n f p < (dist (fl n f)).length := by
 have := clf_rng (f := f) hp
 unfold asF; omega
section
variable {s : Lts} {n : Nat} {f : Nat -> Int}
theorem asF_same (hc : Cyc s n f) {x y : Nat} (hx : x < n) (hy : y < n) : asF n f x = asF n f y ↔ TR s x y /\ TR s y x := by
 rw [<- hc.same x y hx hy, <- clf_eq (f := f) hx hy, asF_eq hx, asF_eq hy]
 omega
theorem stp_col (hr : s.Right) (hn : s.st = (n : Int)) {X Y : Nat} {l : Int} : stp (col s (fl n (clf n f))) X l Y ↔ ∃ x y, x < n /\ y < n /\ stp s x l y /\ asF n f x = X /\ asF n f y = Y /\ ¬ (l = 0 /\ X = Y) := by
 unfold stp col
 simp only
 rw [mem_nf stoE, mem_colE]
 constructor
 · rintro ⟨⟨x, l', y⟩, h1, h2, h3⟩
   have h4 := offB_false.1 (hr.edges _ h1)
   simp only at h4 h2 h3
   obtain ⟨x, rfl⟩ := Int.eq_ofNat_of_zero_le h4.1
   obtain ⟨y, rfl⟩ := Int.eq_ofNat_of_zero_le h4.2.2.2.2.1
   have hx : x < n := by omega
   have hy : y < n := by omega
   simp only [Prod.mk.injEq] at h2
   obtain ⟨e1, rfl, e3⟩ := h2
   rw [atL_fl (by omega) (by omega)] at e1 e3
   simp only [Int.toNat_natCast] at e1 e3
   rw [asF_eq hx] at e1
   rw [asF_eq hy] at e3
   exact ⟨x, y, hx, hy, h1, by omega, by omega, fun h => h3 ⟨h.1, by omega⟩⟩
 · rintro ⟨x, y, hx, hy, h1, rfl, rfl, h3⟩
   refine ⟨((x : Int), l, (y : Int)), h1, ?_, fun h => h3 ⟨h.1, by simp only at h; omega⟩⟩
   simp only
   rw [atL_fl (by omega) (by omega), atL_fl (by omega) (by omega)]
   simp only [Int.toNat_natCast]
   rw [asF_eq hx, asF_eq hy]
theorem Sg.cycle (hr : s.Right) (hn : s.st = (n : Int)) (hc : Cyc s n f) {C : Nat -> Int} {x y : Nat} (hx : x < n) (h : TR s x y) (hb : TR s y x) {l e : Int} (hs : Sg s (fun p => C (asF n f p)) y l e) : Sg s (fun p => C (asF n f p)) x l e := by
 have key : ∀ z, TR s x z -> TR s z x -> Via s (fun p => C (asF n f p) = C (asF n f x)) x z := by
   intro z hz
   induction hz with
   | refl => exact fun _ => .refl rfl
   | @tail a b h1 h2 ih =>
     intro h3
     have hb := tau_lt hr hn h2
     have e1 : asF n f b = asF n f x := (asF_same hc hb.2 hx).2 ⟨h3, h1.tail h2⟩
     exact .tail (ih ((TR.one h2).trans h3)) h2 (by simp only [e1])
 exact Sg.via (key y h hb) hs
theorem sg_col (hr : s.Right) (hn : s.st = (n : Int)) (hc : Cyc s n f) {C : Nat -> Int} {p : Nat} (hp : p < n) {l e : Int} : Sg s (fun p => C (asF n f p)) p l e ↔ Sg (col s (fl n (clf n f))) C (asF n f p) l e := by
 constructor
 · intro h
   clear hp
   induction h with
   | @here p t l h1 h2 =>
     have h3 := stp_lt hr hn h1
     refine Sg.here (C := C) ((stp_col hr hn).2 ⟨p, t, h3.1, h3.2.1, h1, rfl, rfl, fun h => h2 ⟨h.1, by rw [h.2]⟩⟩) h2
   | @on p t l e h1 h2 _ ih =>
     have h3 := stp_lt hr hn h1
     by_cases he : asF n f p = asF n f t
     · rw [he]; exact ih
     · exact .on ((stp_col hr hn).2 ⟨p, t, h3.1, h3.2.1, h1, rfl, rfl, fun h => he h.2⟩) h2 ih
 · intro h
   obtain ⟨X, hX⟩ : ∃ X, X = asF n f p := ⟨_, rfl⟩
   rw [<- hX] at h
   induction h generalizing p with
   | @here X T l h1 h2 =>
     obtain ⟨x, t, hx, ht, h3, rfl, rfl, _⟩ := (stp_col hr hn).1 h1
     obtain ⟨h5, h6⟩ := (asF_same hc hx hp).1 hX
     exact Sg.cycle hr hn hc hp h6 h5 (.here (C := fun p => C (asF n f p)) h3 h2)
   | @on X T l e h1 h2 _ ih =>
     obtain ⟨x, t, hx, ht, h3, rfl, rfl, _⟩ := (stp_col hr hn).1 h1
     obtain ⟨h5, h6⟩ := (asF_same hc hx hp).1 hX
     exact Sg.cycle hr hn hc hp h6 h5 (.on h3 h2 (ih ht rfl))
end
inductive Rounds (s : Lts) (n : Nat) : (Nat -> Int) -> Prop
 | zero : Rounds s n (fun _ => 0)
 | step {C D : Nat -> Int} : Rounds s n C -> NextB s n C D -> Rounds s n D
theorem Rounds.holds {s : Lts} {n : Nat} {f : Nat -> Int} (hr : s.Right) (hn : s.st = (n : Int)) (hc : Cyc s n f) {C : Nat -> Int} (h : Rounds (col s (fl n (clf n f))) (dist (fl n f)).length C) : Holds s n (fun p => C (asF n f p)) := by
 induction h with
 | zero => exact fun _ _ _ _ _ _ _ => rfl
 | @step C D _ h2 ih =>
   refine ih.next hr hn (fun p q hp hq => ?_)
   rw [h2 _ _ (asF_lt hp) (asF_lt hq)]
   have e : (∀ l e, Sg (col s (fl n (clf n f))) C (asF n f p) l e ↔ Sg (col s (fl n (clf n f))) C (asF n f q) l e) ↔ ∀ l e, Sg s (fun p => C (asF n f p)) p l e ↔ Sg s (fun p => C (asF n f p)) q l e := by
     constructor
     · intro h l e; rw [sg_col hr hn hc hp, sg_col hr hn hc hq]; exact h l e
     · intro h l e; rw [<- sg_col hr hn hc hp, <- sg_col hr hn hc hq]; exact h l e
   rw [e]
theorem Rounds.big {s : Lts} {n : Nat} {f : Nat -> Int} (hr : s.Right) (hn : s.st = (n : Int)) (hc : Cyc s n f) {C : Nat -> Int} (h : Rounds (col s (fl n (clf n f))) (dist (fl n f)).length C) (hs : Still (col s (fl n (clf n f))) (dist (fl n f)).length C) : BrBig s n (fun p => C (asF n f p)) :=
 ⟨fun _ _ hp hq e l x hx => (sg_col hr hn hc hq).2 (hs _ _ (asF_lt hp) (asF_lt hq) e l x ((sg_col hr hn hc hp).1 hx)), h.holds hr hn hc⟩
theorem Sg.congr {s : Lts} {n : Nat} (hr : s.Right) (hn : s.st = (n : Int)) {C D : Nat -> Int} (h : ∀ p q, p < n -> q < n -> (C p = C q ↔ D p = D q)) {p : Nat} (hp : p < n) {l e : Int} (hs : Sg s C p l e) : ∃ t, t < n /\ C t = e /\ Sg s D p l (D t) := by
 induction hs with
 | @here p t l h1 h2 =>
   have h3 := stp_lt hr hn h1
   exact ⟨t, h3.2.1, rfl, .here h1 (fun k => h2 ⟨k.1, (h _ _ h3.2.1 h3.1).2 k.2⟩)⟩
 | @on p t l e h1 h2 _ ih =>
   have h3 := stp_lt hr hn h1
   obtain ⟨u, hu, e1, h4⟩ := ih h3.2.1
   exact ⟨u, hu, e1, .on h1 ((h _ _ h3.2.1 h3.1).1 h2) h4⟩
theorem BrBig.congr {s : Lts} {n : Nat} (hr : s.Right) (hn : s.st = (n : Int)) {C D : Nat -> Int} (hb : BrBig s n C) (h : ∀ p q, p < n -> q < n -> (C p = C q ↔ D p = D q)) : BrBig s n D := by
 refine ⟨fun p q hp hq e l x hx => ?_, fun R hR p q hp hq e => (h p q hp hq).1 (hb.all R hR p q hp hq e)⟩
 obtain ⟨t, ht, e1, h1⟩ := hx.congr hr hn (fun a b ha hb => (h a b ha hb).symm) hp
 have h2 := hb.still p q hp hq ((h p q hp hq).2 e) _ _ h1
 obtain ⟨u, hu, e2, h3⟩ := h2.congr hr hn h hq
 rw [<- e1, (h t u ht hu).1 e2.symm]
 exact h3
theorem BrBig.clf {s : Lts} {n : Nat} (hr : s.Right) (hn : s.st = (n : Int)) {C : Nat -> Int} (hb : BrBig s n C) : BrBig s n (clf n C) := hb.congr hr hn (fun _ _ hp hq => (clf_eq (f := C) hp hq).symm)
theorem BrBig.uniq {s : Lts} {n : Nat} (hr : s.Right) (hn : s.st = (n : Int)) {C D : Nat -> Int} (h : BrBig s n C) (h' : BrBig s n D) : fl n (Pl.clf n C) = fl n (Pl.clf n D) := by
 rw [<- canon_fl, <- canon_fl, sameT_canon (by rw [fl_len, fl_len])]
 intro i k x y x' y' hki hx hy hx' hy'
 have hi : i < n := by have := (List.getElem?_eq_some_iff.1 hx).1; rwa [fl_len] at this
 have hk : k < n := by omega
 rw [fl_get C hi] at hx; rw [fl_get C hk] at hy; rw [fl_get D hi] at hx'; rw [fl_get D hk] at hy'
 cases hx; cases hy; cases hx'; cases hy'
 exact h.same hr hn h' hi hk
/-! signatures as lists -/
structure SigOk (s : Lts) (C : Nat -> Int) (p : Nat) (L : List S) : Prop where
 srt : Srt ltS L
 mem : ∀ l e, (l, e) ∈ L ↔ Sg s C p l e
def shareB (C : Nat -> Int) (F : Nat -> List S) (p : Nat) (x : S) : List S := if x.1 = 0 /\ C x.2.toNat = C p then F x.2.toNat else [(x.1, C x.2.toNat)]
theorem sig_step {s : Lts} (hr : s.Right) {C : Nat -> Int} {F : Nat -> List S} {p : Nat} (hF : ∀ t, tau s p t -> SigOk s C t (F t)) : SigOk s C p (nf ltS ((s.outs (p : Int)).flatMap (shareB C F p))) := by
 refine ⟨srt_nf stoS _, fun l e => ?_⟩
 rw [mem_nf stoS, List.mem_flatMap]
 constructor
 · rintro ⟨⟨a, b⟩, h1, h2⟩
   have h3 : ((p : Int), a, b) ∈ s.es := mem_outs.1 h1
   have h4 := offB_false.1 (hr.edges _ h3)
   simp only at h4
   obtain ⟨t, rfl⟩ := Int.eq_ofNat_of_zero_le h4.2.2.2.2.1
   unfold shareB at h2
   simp only [Int.toNat_natCast] at h2
   split at h2
   · rename_i hi
     obtain ⟨rfl, hi⟩ := hi
     exact .on h3 hi (((hF t h3).mem l e).1 h2)
   · rename_i hi
     simp only [List.mem_singleton, Prod.mk.injEq] at h2
     obtain ⟨rfl, rfl⟩ := h2
     exact .here h3 hi
 · intro h
   cases h with
   | @here _ t _ h1 h2 => exact ⟨(l, (t : Int)), mem_outs.2 h1, by unfold shareB; simp only [Int.toNat_natCast]; rw [if_neg h2]; simp⟩
   | @on _ t _ _ h1 h2 h3 => exact ⟨(0, (t : Int)), mem_outs.2 h1, by unfold shareB; simp only [Int.toNat_natCast]; rw [if_pos ⟨trivial, h2⟩]; exact ((hF t h1).mem l e).2 h3⟩
theorem SigOk.eq {s : Lts} {C : Nat -> Int} {p q : Nat} {L M : List S} (h : SigOk s C p L) (h' : SigOk s C q M) : L = M ↔ ∀ l e, Sg s C p l e ↔ Sg s C q l e := by
 constructor
 · rintro rfl l e; rw [<- h.mem, <- h'.mem]
 · intro hs
   exact srt_ext stoS _ _ h.srt h'.srt (fun x => by obtain ⟨l, e⟩ := x; rw [h.mem, h'.mem, hs])
theorem next_text {s : Lts} {n : Nat} {C : Nat -> Int} {F : Nat -> List S} (hF : ∀ p, p < n -> SigOk s C p (F p)) {G : Nat -> Int} (hG : ∀ p q, p < n -> q < n -> (G p = G q ↔ textB (C p) (F p) = textB (C q) (F q))) : NextB s n C (clf n G) := fun p q hp hq => by
 rw [clf_eq (f := G) hp hq, hG p q hp hq]
 constructor
 · intro h
   obtain ⟨h1, h2⟩ := textB_inj h
   exact ⟨h1, ((hF p hp).eq (hF q hq)).1 h2⟩
 · rintro ⟨h1, h2⟩
   rw [h1, ((hF p hp).eq (hF q hq)).2 h2]
end Pl
end Go.Proofs.YtebmlhaoeldhkaaGreatDoor
namespace Go.Proofs.YtebmlhaoeldhkaaGreatDoor
namespace Pl
theorem Rounds.holds0 {s : Lts} {n : Nat} (hr : s.Right) (hn : s.st = (n : Int)) {C : Nat -> Int} (h : Rounds s n C) : Holds s n C := by
 induction h with
 | zero => exact fun _ _ _ _ _ _ _ => rfl
 | step _ h2 ih => exact ih.next hr hn h2
theorem col_st (s : Lts) (n : Nat) (f : Nat -> Int) : (col s (fl n (clf n f))).st = ((dist (fl n f)).length : Int) := by
 show ((dist (fl n (clf n f))).length : Int) = _
 rw [dist_clf_len]
theorem big_col {s : Lts} {n : Nat} (hr : s.Right) (hn : s.st = (n : Int)) {f : Nat -> Int} {C D : Nat -> Int} (h : Rounds (col s (fl n (clf n f))) (dist (fl n f)).length C) (hs : Still (col s (fl n (clf n f))) (dist (fl n f)).length C) (hd : BrBig (col s (fl n (clf n f))) (dist (fl n f)).length D) {p q : Nat} (hp : p < n) (hq : q < n) : C (asF n f p) = C (asF n f q) ↔ D (asF n f p) = D (asF n f q) := by
 have h1 : BrBig (col s (fl n (clf n f))) (dist (fl n f)).length C := ⟨hs, h.holds0 (col_right hr hn) (col_st s n f)⟩
 exact h1.same (col_right hr hn) (col_st s n f) hd (asF_lt hp) (asF_lt hq)
def aheadS (s : Lts) (p : Int) : Lts := ⟨s.st + 1, s.lb, s.s0, s.es ++ [(s.st, 0, p)]⟩
end Pl
end Go.Proofs.YtebmlhaoeldhkaaGreatDoor
namespace Go.Proofs.YtebmlhaoeldhkaaGreatDoor
open Go.RowKit Go.Maps Go.ChangeMaps
structure KeyEnc {κ : Type} (P : Program) (k : TypeId) (enck : κ -> Value) (ok : κ -> Prop) : Prop where
 K : Keyed P k
 key : ∀ x, ok x -> ∃ l, keyOf P k (enck x) = some l
 inj : ∀ x y, enck x = enck y -> x = y
section
variable {κ ν : Type} [DecidableEq κ] {P : Program} {k : TypeId} {enck : κ -> Value} {ok : κ -> Prop} {encv : ν -> Value} {w w' : World} {b n : Nat} {f : κ -> Option ν}
structure OMap (w : World) (b : Nat) (enck : κ -> Value) (ok : κ -> Prop) (encv : ν -> Value) (f : κ -> Option ν) (n : Nat) : Prop where
 ex : ∃ (l : List (κ × ν)) (es : Array MapEntry) (clock : Nat), w.heap[b]? = some (.map es clock) /\ es.toList.map (fun e => (e.key, e.val)) = l.map (fun p => (enck p.1, encv p.2)) /\
   (∀ p ∈ l, ok p.1) /\ (l.map Prod.fst).Nodup /\ (∀ x, f x = (l.find? (fun p => decide (p.1 = x))).map Prod.snd) /\ l.length = n
theorem OMap.made (w : World) : OMap (w.alloc (.map #[] 0)) w.heap.size enck ok encv (fun _ => (none : Option ν)) 0 :=
 ⟨[], #[], 0, (MapKept.heap_alloc w _).1, rfl, by simp, by simp, by simp, rfl⟩
theorem OMap.lt (h : OMap w b enck ok encv f n) : b < w.heap.size := by
 obtain ⟨l, es, clock, hb, _⟩ := h.ex
 exact (Array.getElem?_eq_some_iff.1 hb).1
theorem OMap.of_block (h : OMap w b enck ok encv f n) (hb : w'.heap[b]? = w.heap[b]?) : OMap w' b enck ok encv f n := by
 obtain ⟨l, es, clock, h1, h2⟩ := h.ex
 exact ⟨l, es, clock, hb.trans h1, h2⟩
theorem OMap.congr {g : κ -> Option ν} (h : OMap w b enck ok encv f n) (e : ∀ x, f x = g x) : OMap w b enck ok encv g n := by
 have : f = g := funext e
 rw [<- this]; exact h
theorem OMap.block (h : OMap w b enck ok encv f n) : ∃ es clock, w.heap[b]? = some (.map es clock) := by
 obtain ⟨l, es, clock, h1, _⟩ := h.ex; exact ⟨es, clock, h1⟩
omit [DecidableEq κ] in
theorem entry_at {l : List (κ × ν)} {es : List MapEntry} (h : es.map (fun e => (e.key, e.val)) = l.map (fun p => (enck p.1, encv p.2))) {j : Nat} {e : MapEntry} (he : es[j]? = some e) :
   ∃ p, l[j]? = some p /\ e.key = enck p.1 /\ e.val = encv p.2 := by
 have h1 : (es.map (fun e => (e.key, e.val)))[j]? = some (e.key, e.val) := by rw [List.getElem?_map, he]; rfl
 rw [h, List.getElem?_map] at h1
 obtain ⟨p, hp, h2⟩ := Option.map_eq_some_iff.1 h1
 simp only [Prod.mk.injEq] at h2
 exact ⟨p, hp, h2.1.symm, h2.2.symm⟩
theorem find_at : ∀ {l : List (κ × ν)}, (l.map Prod.fst).Nodup -> ∀ {j : Nat} {p : κ × ν}, l[j]? = some p -> l.find? (fun q => decide (q.1 = p.1)) = some p
 | [], _, _, _, h => by simp at h
 | q :: l, hn, 0, p, h => by
   simp at h; subst h; simp
 | q :: l, hn, j + 1, p, h => by
   simp at h
   rw [List.map_cons, List.nodup_cons] at hn
   have hne : q.1 ≠ p.1 := fun e => hn.1 (by rw [e]; exact List.mem_map.2 ⟨p, List.mem_of_getElem? h, rfl⟩)
   rw [List.find?_cons_of_neg (by simpa using hne)]
   exact find_at hn.2 h
theorem find_none {l : List (κ × ν)} {x : κ} (h : ∀ p ∈ l, p.1 ≠ x) : l.find? (fun q => decide (q.1 = x)) = none := by
 rw [List.find?_eq_none]; intro p hp; simpa using h p hp
omit [DecidableEq κ] in
theorem OMap.search (E : KeyEnc P k enck ok) {x : κ} (hx : ok x) (w0 : World) {l : List (κ × ν)} {es : List MapEntry} (h : es.map (fun e => (e.key, e.val)) = l.map (fun p => (enck p.1, encv p.2))) (hok : ∀ p ∈ l, ok p.1) :
   ((Instr.findKey k (enck x) es).run P w0 = .ok none w0 /\ ∀ p ∈ l, p.1 ≠ x) ∨
   ∃ j p e, (Instr.findKey k (enck x) es).run P w0 = .ok (some (j, encv p.2)) w0 /\ l[j]? = some p /\ p.1 = x /\ es[j]? = some e /\ e.key = enck x := by
 obtain ⟨kl, hkl⟩ := E.key x hx
 have hkeys : ∀ e ∈ es, ∃ l, keyOf P k e.key = some l := fun e he => by
   obtain ⟨j, hj⟩ := List.getElem?_of_mem he
   obtain ⟨p, hp, h1, _⟩ := entry_at h hj
   rw [h1]; exact E.key _ (hok p (List.mem_of_getElem? hp))
 rcases E.K.find w0 hkl es hkeys with ⟨h1, h2⟩ | ⟨j, e, h1, h2, h3⟩
 · refine .inl ⟨h1, fun p hp e => ?_⟩
   obtain ⟨j, hj⟩ := List.getElem?_of_mem hp
   have hl : es.length = l.length := by have := congrArg List.length h; simpa using this
   have hj2 : j < es.length := by rw [hl]; exact (List.getElem?_eq_some_iff.1 hj).1
   obtain ⟨q, hq, h4, _⟩ := entry_at h (List.getElem?_eq_getElem hj2)
   rw [hj] at hq
   cases hq
   exact h2 _ (List.getElem_mem hj2) (by rw [h4, e])
 · obtain ⟨p, hp, h4, h5⟩ := entry_at h h2
   exact .inr ⟨j, p, e, by rw [<- h5]; exact h1, hp, E.inj _ _ (by rw [<- h4, h3]), h2, h3⟩
theorem OMap.look {t e : TypeId} (h : OMap w b enck ok encv f n) (E : KeyEnc P k enck ok) (ht : P.underlying t = some (.map k e)) {z : Value} (hz : (zeroValue e).run P w = .ok z w) {x : κ} (hx : ok x) (c : Bool) :
   (Instr.lookup t (.map (some b)) (enck x) c).run P w = .ok (if c then .tuple #[((f x).map encv).getD z, .bool (f x).isSome] else ((f x).map encv).getD z) w := by
 obtain ⟨l, es, clock, hb, hl, hok, hnd, hf, _⟩ := h.ex
 obtain ⟨kl, hkl⟩ := E.key x hx
 rcases OMap.search E hx w hl hok with ⟨h1, h2⟩ | ⟨j, p, e0, h1, h2, h3, h4, h5⟩
 · have hfx : f x = none := by rw [hf, find_none h2]; rfl
   rw [hfx]
   simp [Instr.lookup, run_underlying ht, MapKept.run_getObj_map hb, E.K.check w _ hkl, h1, hz, Result.andThen]
 · have hfx : f x = some p.2 := by rw [hf, <- h3, find_at hnd h2]; rfl
   rw [hfx]
   simp [Instr.lookup, run_underlying ht, MapKept.run_getObj_map hb, E.K.check w _ hkl, h1, Result.andThen]
theorem find_upd : ∀ {l : List (κ × ν)} {j : Nat} {p : κ × ν} (v : ν), (l.map Prod.fst).Nodup -> l[j]? = some p -> ∀ y, (l.set j (p.1, v)).find? (fun q => decide (q.1 = y)) = if y = p.1 then some (p.1, v) else l.find? (fun q => decide (q.1 = y))
 | [], _, _, _, _, h, _ => by simp at h
 | q :: l, 0, p, v, hn, h, y => by
   simp at h; subst h
   by_cases e : y = q.1
   · subst e; simp
   · rw [if_neg e, List.set_cons_zero, List.find?_cons_of_neg (by simpa using fun e2 => e e2.symm), List.find?_cons_of_neg (by simpa using fun e2 => e e2.symm)]
 | q :: l, j + 1, p, v, hn, h, y => by
   simp at h
   rw [List.map_cons, List.nodup_cons] at hn
   have hne : q.1 ≠ p.1 := fun e => hn.1 (by rw [e]; exact List.mem_map.2 ⟨p, List.mem_of_getElem? h, rfl⟩)
   rw [List.set_cons_succ]
   by_cases e : q.1 = y
   · subst e
     rw [if_neg hne, List.find?_cons_of_pos (by simp), List.find?_cons_of_pos (by simp)]
   · rw [List.find?_cons_of_neg (by simpa using e), List.find?_cons_of_neg (by simpa using e)]
     exact find_upd v hn.2 h y
omit [DecidableEq κ] in
theorem set_fst {l : List (κ × ν)} {j : Nat} {p : κ × ν} (v : ν) (h : l[j]? = some p) : (l.set j (p.1, v)).map Prod.fst = l.map Prod.fst := by
 rw [List.map_set]
 apply List.ext_getElem?
 intro i
 rw [List.getElem?_set]
 split
 · rename_i e
   subst e
   split
   · rw [List.getElem?_map, h]; rfl
   · rename_i h2
     rw [List.getElem?_eq_none (by omega)]
 · rfl
theorem OMap.put {t e : TypeId} (h : OMap w b enck ok encv f n) (E : KeyEnc P k enck ok) (ht : P.underlying t = some (.map k e)) {x : κ} (hx : ok x) (v : ν) :
   ∃ w', (Instr.mapUpdate t (.map (some b)) (enck x) (encv v)).run P w = .ok () w' /\ OMap w' b enck ok encv (fun y => if y = x then some v else f y) (if (f x).isSome then n else n + 1) /\ w.grownBy w' (some b) /\ (∀ a : Addr, w'.frozen? a = w.frozen? a) /\ w'.heap.size = w.heap.size := by
 obtain ⟨l, es, clock, hb, hl, hok, hnd, hf, hn⟩ := h.ex
 obtain ⟨kl, hkl⟩ := E.key x hx
 have fz : ∀ es' clock' (a : Addr), (setBlock w b (.map es' clock')).frozen? a = w.frozen? a := by
   intro es' clock' a
   unfold World.frozen?
   by_cases e : a.block = b
   · rw [e, heap_setBlock_same hb _, hb]
   · rw [heap_setBlock_other hb _ e]
 have gr : ∀ es' clock', w.grownBy (setBlock w b (.map es' clock')) (some b) := fun es' clock' =>
   ⟨rfl, rfl, rfl, by simp [setBlock], fun i _ hi => heap_setBlock_other hb _ (fun e => hi (by rw [e]))⟩
 rcases OMap.search E hx w hl hok with ⟨h1, h2⟩ | ⟨j, p, e0, h1, h2, h3, h4, h5⟩
 · have hfx : f x = none := by rw [hf, find_none h2]; rfl
   refine ⟨setBlock w b (.map (es.push ⟨enck x, encv v, clock⟩) (clock + 1)), ?_, ?_, gr _ _, fz _ _, by simp [setBlock]⟩
   · simp [Instr.mapUpdate, run_underlying ht, MapKept.run_getObj_map hb, E.K.check w false hkl, h1, MapKept.run_setObj_map _ hb, Result.andThen, setBlock]
   · rw [hfx]
     refine ⟨l ++ [(x, v)], _, _, heap_setBlock_same hb _, by simp [hl], ?_, ?_, ?_, by simp [hn]⟩
     · intro p hp
       rcases List.mem_append.1 hp with hp | hp
       · exact hok p hp
       · simp at hp; subst hp; exact hx
     · rw [List.map_append, List.nodup_append]
       refine ⟨hnd, by simp, ?_⟩
       intro a ha c hc e
       simp at hc; subst hc; subst e
       obtain ⟨q, hq, rfl⟩ := List.mem_map.1 ha
       exact h2 q hq rfl
     · intro y
       rw [List.find?_append]
       by_cases e : y = x
       · subst e; rw [if_pos rfl, find_none h2]; simp
       · rw [if_neg e, hf]
         have hxy : ¬ x = y := fun e2 => e e2.symm
         have : ([(x, v)] : List (κ × ν)).find? (fun p => decide (p.1 = y)) = none := by simp [hxy]
         rw [this]; simp
 · have hfx : f x = some p.2 := by rw [hf, <- h3, find_at hnd h2]; rfl
   have hj : es[j]? = some e0 := by simpa using h4
   refine ⟨setBlock w b (.map (es.modify j (fun e' => { e' with key := enck x, val := encv v })) clock), ?_, ?_, gr _ _, fz _ _, by simp [setBlock]⟩
   · simp [Instr.mapUpdate, run_underlying ht, MapKept.run_getObj_map hb, E.K.check w false hkl, h1, hj, h5, E.K.stays w hkl, MapKept.run_setObj_map _ hb, Result.andThen, setBlock]
   · rw [hfx]
     refine ⟨l.set j (x, v), _, _, heap_setBlock_same hb _, ?_, ?_, ?_, ?_, by simp [hn]⟩
     · rw [Array.toList_modify, modify_eq_set _ _ _ _ h4, List.map_set, List.map_set, hl]
     · intro q hq
       rcases List.mem_or_eq_of_mem_set hq with hq | rfl
       · exact hok q hq
       · exact hx
     · rw [<- h3, set_fst v h2]; exact hnd
     · intro y
       rw [<- h3, find_upd v hnd h2]
       by_cases e : y = p.1
       · rw [if_pos e, if_pos e]; rfl
       · rw [if_neg e, if_neg e, hf]
theorem OMap.len {t e : TypeId} (h : OMap w b enck ok encv f n) (ht : P.underlying t = some (.map k e)) (ty : TypeId) : (Builtin.len_ #[t] ty #[.map (some b)]).run P w = .ok (.int .i64 n) w := by
 obtain ⟨l, es, clock, hb, hl, _, _, _, hn⟩ := h.ex
 have hs : es.size = n := by
   have := congrArg List.length hl
   simp at this
   omega
 rw [<- hs]
 simp [Builtin.len_, run_underlying ht, MapKept.run_getObj_map hb, goInt, Result.andThen]
/-! at the operation, for the walk -/
variable {ops : Array Oper} {rest : List Oper} {o : Oper} {a : Act} {Q : Exit -> Act -> World -> Prop}
theorem wpList_olook_ok (hg : o.guard = none) (m x : Operand) (t : TypeId) (hop : o.op = Op.lookup t m x true) {e : TypeId} (E : KeyEnc P k enck ok) (ht : P.underlying t = some (.map k e)) {z : Value} (hz : (zeroValue e).run P w = .ok z w)
   (hm : a.eval m = .map (some b)) (h : OMap w b enck ok encv f n) (y : κ) (hy : ok y) (hx : a.eval x = enck y)
   (hK : wpList P ops Q rest (a.put o.dst (.tuple #[((f y).map encv).getD z, .bool (f y).isSome])) w) : wpList P ops Q (o :: rest) a w := by
 refine wpList_plain hg fun K' hK' => ?_
 have hrun := h.look E ht hz hy true
 unfold Oper.wp
 simp [execOp, hop, hm, hx, hrun, Result.andThen]
 exact hK' _ _ hK
theorem wpList_oput (hg : o.guard = none) (m x v : Operand) (t : TypeId) (hop : o.op = Op.mapUpdate t m x v) {e : TypeId} (E : KeyEnc P k enck ok) (ht : P.underlying t = some (.map k e))
   (hm : a.eval m = .map (some b)) (h : OMap w b enck ok encv f n) (y : κ) (hy : ok y) (hx : a.eval x = enck y) (u : ν) (hv : a.eval v = encv u)
   (hK : ∀ w', OMap w' b enck ok encv (fun z => if z = y then some u else f z) (if (f y).isSome then n else n + 1) -> w.grownBy w' (some b) -> (∀ a : Addr, w'.frozen? a = w.frozen? a) -> w'.heap.size = w.heap.size -> wpList P ops Q rest (a.put o.dst undef) w') : wpList P ops Q (o :: rest) a w := by
 refine wpList_plain hg fun K' hK' => ?_
 obtain ⟨w', hrun, h1, h2, h3, h4⟩ := h.put E ht hy u
 unfold Oper.wp
 simp [execOp, hop, hm, hx, hv, hrun, Result.andThen]
 exact hK' _ _ (hK w' h1 h2 h3 h4)
end
end Go.Proofs.YtebmlhaoeldhkaaGreatDoor

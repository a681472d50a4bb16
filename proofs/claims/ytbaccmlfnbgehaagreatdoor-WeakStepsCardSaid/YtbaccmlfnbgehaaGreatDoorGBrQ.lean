/-
  Lemmas.
-/
import Derived.Test.YtbaccmlfnbgehaaGreatDoorGRws
import Derived.Test.YtbaccmlfnbgehaaGreatDoorGOMap
import Derived.Test.YtbaccmlfnbgehaaGreatDoorGTauJ
import Derived.Test.YtbaccmlfnbgehaaGreatDoorGPlB
open List renaming mem_range → l0, flatMap_cons → l1, mem_cons_of_mem → l2, idxOf_lt_length_of_mem → l4, mem_map → l5, range → l6, mem_flatMap → l7, pairwise_flatMap → l8, append_inj → l9, getElem_idxOf → m0, idxOf_append → m1, getElem?_map → m2, cons_append → m3
open Int renaming eq_ofNat_of_zero_le → l3
open Go.Proofs.Tryz
namespace Go.Proofs.YtbaccmlfnbgehaaGreatDoor
namespace Pl
theorem z1e (n : Nat) : canon (fl n (fun _ => 0)) = fl n (fun _ => 0) := by
 rw [p0p]
 unfold fl
 apply List.map_congr_left
 intro i hi
 have h1 := q0g (f := fun _ => (0 : Int)) (l0.1 hi)
 have h2 : (dist (fl n (fun _ => (0 : Int)))).length <= 1 := by (
 have := y0o (dist (fl n (fun _ => (0 : Int)))) [0] (x0b _) (fun x hx => by
   obtain ⟨p, _, h⟩ := k0t.1 hx
   simp [<- h])
 simpa using this)
 show clf n (fun _ => 0) i = 0
 omega
theorem x2e {n : Nat} {f g : Nat -> Int} (h : fl n f = fl n g) {p : Nat} (hp : p < n) : f p = g p := by
 have h1 := j0t f hp
 rw [h, j0t g hp] at h1
 exact (Option.some.inj h1).symm
/-! the numbers of texts -/
def codeT (T : List (List UInt8)) (z : List UInt8) : Int := (T.idxOf z : Int)
theorem x1d {T : List (List UInt8)} {y z : List UInt8} (hy : y ∈ T) (hz : z ∈ T) (h : codeT T y = codeT T z) : y = z := by
 unfold codeT at h
 have h1 := m0 (l4 hy)
 have h2 := m0 (l4 hz)
 rw [<- h1, <- h2]
 congr 1
 omega
def numT (T : List (List UInt8)) (D : List Int) (z : List UInt8) : Option Int := if z ∈ T /\ codeT T z ∈ D then some (D.idxOf (codeT T z) : Int) else none
theorem z2i (T : List (List UInt8)) (z : List UInt8) : numT T [] z = none := by unfold numT; simp
theorem q2e {T : List (List UInt8)} {D : List Int} {y : List UInt8} (hy : y ∈ T) (hD : codeT T y ∉ D) (z : List UInt8) : (if z = y then some (D.length : Int) else numT T D z) = numT T (D ++ [codeT T y]) z := by
 unfold numT
 by_cases e : z = y
 · subst e
   rw [if_pos rfl, if_pos ⟨hy, by simp⟩, m1]
   simp [hD]
 · (
 rw [if_neg e]
 by_cases hz : z ∈ T
 · (
 have hne : codeT T z ≠ codeT T y := fun h => e (x1d hz hy h)
 by_cases h : codeT T z ∈ D
 · rw [if_pos ⟨hz, h⟩, if_pos ⟨hz, by simp [h]⟩, m1]
   simp [h]
 · rw [if_neg (fun k => h k.2), if_neg]
   rintro ⟨_, k⟩
   rcases List.mem_append.1 k with k | k
   · exact h k
   · simp at k; exact hne k)
 · rw [if_neg (fun k => hz k.1), if_neg (fun k => hz k.1)])
end Pl
end Go.Proofs.YtbaccmlfnbgehaaGreatDoor
namespace Go.Proofs.YtbaccmlfnbgehaaGreatDoor
namespace Pl
def one (s : Lts) (m : Nat) (l : Int) (t : Nat) : Prop := (l = 0 /\ t = m) ∨ (l ≠ 0 /\ stp s m l t)
def wst (s : Lts) (p : Nat) (l : Int) (q : Nat) : Prop := ∃ m t, TR s p m /\ one s m l t /\ TR s t q
section
variable {s : Lts} {n : Nat}
theorem z1q {p q : Nat} : wst s p 0 q ↔ TR s p q := by
 constructor
 · rintro ⟨m, t, h1, h2, h3⟩
   rcases h2 with ⟨_, rfl⟩ | ⟨h, _⟩
   · exact h1.trans h3
   · exact absurd rfl h
 · intro h
   exact ⟨p, p, .refl, .inl ⟨rfl, rfl⟩, h⟩
theorem u2c {p q : Nat} {l : Int} (hl : l ≠ 0) : wst s p l q ↔ ∃ m t, TR s p m /\ stp s m l t /\ TR s t q := by
 constructor
 · rintro ⟨m, t, h1, h2, h3⟩
   rcases h2 with ⟨h, _⟩ | ⟨_, h⟩
   · exact absurd h hl
   · exact ⟨m, t, h1, h, h3⟩
 · rintro ⟨m, t, h1, h2, h3⟩
   exact ⟨m, t, h1, .inr ⟨hl, h2⟩, h3⟩
theorem TR.ltW (hr : s.Right) (hn : s.st = (n : Int)) {p q : Nat} (h : TR s p q) (hp : p < n) : q < n := by
 cases h with
 | refl => exact hp
 | tail _ h2 => exact (x0l hr hn h2).2
theorem k2l (hr : s.Right) (hn : s.st = (n : Int)) {p q : Nat} {l : Int} (h : wst s p l q) (hp : p < n) : q < n /\ 0 <= l /\ l < s.lb := by
 obtain ⟨a, b, h3, h4, h5⟩ := h
 rcases h4 with ⟨rfl, rfl⟩ | ⟨_, h4⟩
 · have := hr.st0
   exact ⟨h5.ltW hr hn (h3.ltW hr hn hp), by omega, by omega⟩
 · have := z0r hr hn h4
   exact ⟨h5.ltW hr hn this.2.1, this.2.2.1, this.2.2.2⟩
end
/-! the saturated system -/
def KOk (s : Lts) (n lb : Nat) (K : Nat -> Nat -> Nat -> Bool) : Prop := ∀ p l q, p < n -> l < lb -> q < n -> (K p l q = true ↔ wst s p (l : Int) q)
def satE (n lb : Nat) (K : Nat -> Nat -> Nat -> Bool) : List E := (l6 n).flatMap fun p => (l6 lb).flatMap fun l => (idsN (K p l) n).map fun q : Nat => ((p : Int), (l : Int), (q : Int))
def satS (s : Lts) (n lb : Nat) (K : Nat -> Nat -> Nat -> Bool) : Lts := ⟨s.st, s.lb, s.s0, satE n lb K⟩
section
variable {s : Lts} {n lb : Nat} {K : Nat -> Nat -> Nat -> Bool}
theorem k1l {x : E} : x ∈ satE n lb K ↔ ∃ p l q : Nat, x = ((p : Int), (l : Int), (q : Int)) /\ p < n /\ l < lb /\ q < n /\ K p l q = true := by
 unfold satE
 simp only [l7, l5, l0, q0e]
 constructor
 · rintro ⟨p, hp, l, hl, q, ⟨hq, hk⟩, rfl⟩
   exact ⟨p, l, q, rfl, hp, hl, hq, hk⟩
 · rintro ⟨p, l, q, rfl, hp, hl, hq, hk⟩
   exact ⟨p, hp, l, hl, q, ⟨hq, hk⟩, rfl⟩
theorem z1x : Srt ltE (satE n lb K) := by
 have hr : ∀ m, (l6 m).Pairwise (· < ·) := fun m => List.pairwise_lt_range
 unfold satE Srt
 rw [l8]
 refine ⟨fun p _ => ?_, (hr n).imp ?_⟩
 · (
 rw [l8]
 refine ⟨fun l _ => ?_, (hr lb).imp ?_⟩
 · rw [List.pairwise_map]
   refine List.Pairwise.imp ?_ (List.Pairwise.sublist List.filter_sublist (hr n))
   intro a b hab
   exact (p0k _ _).2 (.inr ⟨rfl, .inr ⟨rfl, by show (a : Int) < (b : Int); omega⟩⟩)
 · intro a b hab x hx y hy
   obtain ⟨c, _, rfl⟩ := l5.1 hx
   obtain ⟨d, _, rfl⟩ := l5.1 hy
   exact (p0k _ _).2 (.inr ⟨rfl, .inl (by show (a : Int) < (b : Int); omega)⟩))
 · (
 intro a b hab x hx y hy
 obtain ⟨l, _, hx⟩ := l7.1 hx
 obtain ⟨c, _, rfl⟩ := l5.1 hx
 obtain ⟨l', _, hy⟩ := l7.1 hy
 obtain ⟨d, _, rfl⟩ := l5.1 hy
 exact (p0k _ _).2 (.inl (by show (a : Int) < (b : Int); omega)))
theorem x1p (hr : s.Right) (hn : s.st = (n : Int)) (hlb : s.lb = (lb : Int)) (hK : KOk s n lb K) {p q : Nat} {l : Int} : stp (satS s n lb K) p l q ↔ p < n /\ wst s p l q := by
 unfold stp satS
 simp only
 rw [k1l]
 constructor
 · (
 rintro ⟨a, b, c, e, ha, hb, hc, hk⟩
 simp only [Prod.mk.injEq] at e
 obtain ⟨e1, rfl, e3⟩ := e
 obtain rfl : p = a := by omega
 obtain rfl : q = c := by omega
 exact ⟨ha, (hK _ _ _ ha hb hc).1 hk⟩)
 · rintro ⟨hp, hw⟩
   have h := k2l hr hn hw hp
   obtain ⟨b, rfl⟩ := l3 h.2.1
   exact ⟨p, b, q, rfl, hp, by omega, h.1, (hK _ _ _ hp (by omega) h.1).2 hw⟩
theorem u1x {K' : Nat -> Nat -> Nat -> Bool} (h : ∀ p l q, p < n -> l < lb -> q < n -> K p l q = K' p l q) : satE n lb K = satE n lb K' := by
 refine x1q y0k _ _ z1x z1x (fun x => ?_)
 rw [k1l, k1l]
 constructor <;> rintro ⟨p, l, q, rfl, hp, hl, hq, hk⟩ <;> refine ⟨p, l, q, rfl, hp, hl, hq, ?_⟩
 · rw [<- h p l q hp hl hq]; exact hk
 · rw [h p l q hp hl hq]; exact hk
theorem KOk.eq {K' : Nat -> Nat -> Nat -> Bool} (h : KOk s n lb K) (h' : KOk s n lb K') : satE n lb K = satE n lb K' :=
  u1x (fun p l q hp hl hq => by
    have h1 := h p l q hp hl hq
    have h2 := h' p l q hp hl hq
    cases e : K p l q <;> cases e' : K' p l q
    · rfl
    · rw [e'] at h2; rw [e] at h1; exact absurd (h1.2 (h2.1 rfl)) (by simp)
    · rw [e'] at h2; rw [e] at h1; exact absurd (h2.2 (h1.1 rfl)) (by simp)
    · rfl)
end
/-! strong bisimilarity by rounds -/
def NextS (u : Nat -> Int -> Nat -> Prop) (n : Nat) (C D : Nat -> Int) : Prop :=
  ∀ p q, p < n -> q < n -> (D p = D q ↔ C p = C q /\ ∀ l e, (∃ t, t < n /\ u p l t /\ C t = e) ↔ (∃ t, t < n /\ u q l t /\ C t = e))
def HoldsS (s : Lts) (n : Nat) (C : Nat -> Int) : Prop := ∀ R, IsBis s n R -> ∀ p q, p < n -> q < n -> R p q -> C p = C q
section
variable {s : Lts} {n : Nat} {C D : Nat -> Int}
theorem HoldsS.zero : HoldsS s n (fun _ => 0) := fun _ _ _ _ _ _ _ => rfl
theorem HoldsS.next (h : HoldsS s n C) (hd : NextS (stp s) n C D) : HoldsS s n D := fun R hR p q hp hq e => by
  refine (hd p q hp hq).2 ⟨h R hR p q hp hq e, fun l c => ?_⟩
  obtain ⟨h1, h2⟩ := hR p q hp hq e
  constructor
  · rintro ⟨t, ht, hs, rfl⟩
    obtain ⟨u, hu, h3, h4⟩ := h1 l t ht hs
    exact ⟨u, hu, h3, (h R hR t u ht hu h4).symm⟩
  · rintro ⟨t, ht, hs, rfl⟩
    obtain ⟨u, hu, h3, h4⟩ := h2 l t ht hs
    exact ⟨u, hu, h3, h R hR u t hu ht h4⟩
theorem HoldsS.done (h : HoldsS s n C) (hd : NextS (stp s) n C D) (he : ∀ p, p < n -> D p = C p) : Big s n C where
  bis p q hp hq e := by
    have h1 := ((hd p q hp hq).1 (by rw [he p hp, he q hq]; exact e)).2
    refine ⟨fun l t ht hs => ?_, fun l u hu hs => ?_⟩
    · obtain ⟨u, hu, h2, h3⟩ := (h1 l (C t)).1 ⟨t, ht, hs, rfl⟩
      exact ⟨u, hu, h2, h3.symm⟩
    · obtain ⟨t, ht, h2, h3⟩ := (h1 l (C u)).2 ⟨u, hu, hs, rfl⟩
      exact ⟨t, ht, h2, h3⟩
  all := h
theorem j2l {u : Nat -> Int -> Nat -> Prop} (hd : NextS u n C D) (h1 : canon (fl n C) = fl n C) (h2 : canon (fl n D) = fl n D) (hne : fl n D ≠ fl n C) : (dist (fl n C)).length < (dist (fl n D)).length := by
 have href : ∀ p q, p < n -> q < n -> D p = D q -> C p = C q := fun p q hp hq e => ((hd p q hp hq).1 e).1
 by_cases h : ∀ p q, p < n -> q < n -> C p = C q -> D p = D q
 · exact absurd (u0b h2 h1 (fun p q hp hq => ⟨href p q hp hq, h p q hp hq⟩)) hne
 · (
 have : ∃ a b, a < n /\ b < n /\ C a = C b /\ D a ≠ D b := by (
 apply Classical.byContradiction
 intro hno
 exact h (fun p q hp hq e => Classical.byContradiction (fun e2 => hno ⟨p, q, hp, hq, e, e2⟩)))
 obtain ⟨a, b, ha, hb, e1, e2⟩ := this
 exact q1p href ha hb e1 e2)
end
/-! branching bisimilarity lies within it -/
section
variable {s : Lts} {n lb : Nat} {K : Nat -> Nat -> Nat -> Bool} {C : Nat -> Int}
end
end Pl
end Go.Proofs.YtbaccmlfnbgehaaGreatDoor
namespace Go.Proofs.YtbaccmlfnbgehaaGreatDoor
namespace Pl
theorem x0h {α β : Type} {f g : α -> List β} : ∀ {L : List α}, (∀ x ∈ L, f x = g x) -> L.flatMap f = L.flatMap g
  | [], _ => rfl
  | x :: L, h => by
    rw [l1, l1, h x (by simp), x0h (fun y hy => h y (l2 _ hy))]
/-! words as bytes -/
def by8 (x : Nat) : List UInt8 := (l6 8).map fun k => UInt8.ofNat (x >>> (8 * k))
theorem z1g (x : Nat) : (by8 x).length = 8 := by simp [by8]
theorem j3z {x y : Nat} (hx : x < 18446744073709551616) (hy : y < 18446744073709551616) (h : by8 x = by8 y) : x = y := by
 have key : ∀ k, k < 8 -> (x >>> (8 * k)) % 256 = (y >>> (8 * k)) % 256 := by (
 intro k hk
 have h1 : (by8 x)[k]? = (by8 y)[k]? := by rw [h]
 unfold by8 at h1
 rw [m2, m2, List.getElem?_range hk] at h1
 simp only [Option.map_some, Option.some.injEq] at h1
 have h2 := congrArg UInt8.toNat h1
 simpa using h2)
 refine Nat.eq_of_testBit_eq fun i => ?_
 by_cases hi : i < 64
 · have h1 : ((x >>> (8 * (i / 8))) % 256).testBit (i % 8) = ((y >>> (8 * (i / 8))) % 256).testBit (i % 8) := by rw [key (i / 8) (by omega)]
   rw [show (256 : Nat) = 2 ^ 8 from rfl, Nat.testBit_mod_two_pow, Nat.testBit_mod_two_pow, Nat.testBit_shiftRight, Nat.testBit_shiftRight] at h1
   have h2 : i % 8 < 8 := by omega
   have h3 : 8 * (i / 8) + i % 8 = i := by omega
   simpa [h2, h3] using h1
 · have h1 : (2 : Nat) ^ 64 <= 2 ^ i := Nat.pow_le_pow_right (by decide) (by omega)
   rw [Nat.testBit_lt_two_pow (Nat.lt_of_lt_of_le hx h1), Nat.testBit_lt_two_pow (Nat.lt_of_lt_of_le hy h1)]
def bytesW (F : Nat -> Bool) (W : Nat) : List UInt8 := (l6 W).flatMap fun j => by8 (wj F j)
theorem q0h (F : Nat -> Bool) (W : Nat) : bytesW F (W + 1) = bytesW F W ++ by8 (wj F W) := by
 unfold bytesW; rw [List.range_succ, List.flatMap_append]; simp
theorem k0d (F : Nat -> Bool) : ∀ W, (bytesW F W).length = 8 * W
  | 0 => by simp [bytesW]
  | W + 1 => by rw [q0h, List.length_append, k0d F W, z1g]; omega
theorem y0t {F G : Nat -> Bool} : ∀ {W : Nat}, bytesW F W = bytesW G W -> ∀ x, x < 64 * W -> F x = G x
  | 0, _, x, hx => by omega
  | W + 1, h, x, hx => by
    rw [q0h, q0h] at h
    obtain ⟨h1, h2⟩ := l9 h (by rw [k0d, k0d])
    by_cases hlt : x < 64 * W
    · exact y0t h1 x hlt
    · have h3 := j3z (x1n F W) (x1n G W) h2
      have h4 : (wj F W).testBit (x - 64 * W) = (wj G W).testBit (x - 64 * W) := by rw [h3]
      rw [q0i, q0i] at h4
      have h5 : x - 64 * W < 64 := by omega
      have h6 : 64 * W + (x - 64 * W) = x := by omega
      simpa [h5, h6] using h4
theorem k2d {F G : Nat -> Bool} {W : Nat} (h : ∀ x, x < 64 * W -> F x = G x) : bytesW F W = bytesW G W := by
 unfold bytesW
 refine x0h fun j hj => ?_
 have := l0.1 hj
 rw [k2n (fun k hk => h (64 * j + k) (by omega))]
/-! keys -/
def keyS (W : Nat) (R : Nat -> Option (Nat -> Bool)) (l : Nat) : List UInt8 := match R l with | none => [] | some F => UInt8.ofNat l :: bytesW F W
def wkey (W c lb : Nat) (R : Nat -> Option (Nat -> Bool)) : List UInt8 := bytesW (fun x => decide (x = c)) W ++ (l6 lb).flatMap (keyS W R)
def AgreeR (W : Nat) : Option (Nat -> Bool) -> Option (Nat -> Bool) -> Prop
  | none, none => True
  | some F, some G => ∀ x, x < 64 * W -> F x = G x
  | _, _ => False
theorem q1u {W : Nat} {R : Nat -> Option (Nat -> Bool)} : ∀ {L : List Nat} {x : UInt8} {r : List UInt8}, L.flatMap (keyS W R) = x :: r -> ∃ l ∈ L, x = UInt8.ofNat l
  | [], _, _, h => by simp at h
  | l :: L, x, r, h => by
    rw [l1] at h
    cases e : R l with
    | none =>
      have h1 : keyS W R l = [] := by unfold keyS; rw [e]
      rw [h1] at h
      obtain ⟨l', hl, h2⟩ := q1u (L := L) h
      exact ⟨l', l2 _ hl, h2⟩
    | some F =>
      have h1 : keyS W R l = UInt8.ofNat l :: bytesW F W := by unfold keyS; rw [e]
      rw [h1] at h
      simp only [m3, List.cons.injEq] at h
      exact ⟨l, by simp, h.1.symm⟩
theorem j2j {a b : Nat} (ha : a < 256) (hb : b < 256) (h : UInt8.ofNat a = UInt8.ofNat b) : a = b := by
 have := congrArg UInt8.toNat h
 simp at this; omega
theorem v1w {W : Nat} {R R' : Nat -> Option (Nat -> Bool)} : ∀ {L : List Nat}, L.Nodup -> (∀ l ∈ L, l < 256) -> L.flatMap (keyS W R) = L.flatMap (keyS W R') -> ∀ l ∈ L, AgreeR W (R l) (R' l)
  | [], _, _, _, l, hl => by simp at hl
  | a :: L, hn, hb, h, l, hl => by
    have hn2 := List.nodup_cons.1 hn
    have ha := hb a (by simp)
    have hno : ∀ (Q : Nat -> Option (Nat -> Bool)) (r : List UInt8), L.flatMap (keyS W Q) ≠ UInt8.ofNat a :: r := fun Q r e => by
      obtain ⟨b, hbL, h2⟩ := q1u e
      have := j2j ha (hb b (l2 _ hbL)) h2
      exact hn2.1 (this ▸ hbL)
    rw [l1, l1] at h
    have key : AgreeR W (R a) (R' a) /\ L.flatMap (keyS W R) = L.flatMap (keyS W R') := by
      cases e : R a with
      | none =>
        cases e' : R' a with
        | none =>
          have h1 : keyS W R a = [] := by unfold keyS; rw [e]
          have h2 : keyS W R' a = [] := by unfold keyS; rw [e']
          rw [h1, h2] at h
          exact ⟨trivial, by simpa using h⟩
        | some G =>
          have h1 : keyS W R a = [] := by unfold keyS; rw [e]
          have h2 : keyS W R' a = UInt8.ofNat a :: bytesW G W := by unfold keyS; rw [e']
          rw [h1, h2] at h
          exact absurd (by simpa using h) (hno R _)
      | some F =>
        cases e' : R' a with
        | none =>
          have h1 : keyS W R a = UInt8.ofNat a :: bytesW F W := by unfold keyS; rw [e]
          have h2 : keyS W R' a = [] := by unfold keyS; rw [e']
          rw [h1, h2] at h
          exact absurd (by simpa using h.symm) (hno R' _)
        | some G =>
          have h1 : keyS W R a = UInt8.ofNat a :: bytesW F W := by unfold keyS; rw [e]
          have h2 : keyS W R' a = UInt8.ofNat a :: bytesW G W := by unfold keyS; rw [e']
          rw [h1, h2] at h
          simp only [m3, List.cons.injEq, true_and] at h
          obtain ⟨h3, h4⟩ := l9 h (by rw [k0d, k0d])
          exact ⟨y0t h3, h4⟩
    rcases List.mem_cons.1 hl with rfl | hl
    · exact key.1
    · exact v1w hn2.2 (fun b hbL => hb b (l2 _ hbL)) key.2 l hl
theorem y2b {W c c' lb : Nat} {R R' : Nat -> Option (Nat -> Bool)} (hc : c < 64 * W) (hlb : lb <= 256) (h : wkey W c lb R = wkey W c' lb R') : c = c' /\ ∀ l, l < lb -> AgreeR W (R l) (R' l) := by
 unfold wkey at h
 obtain ⟨h1, h2⟩ := l9 h (by rw [k0d, k0d])
 refine ⟨?_, fun l hl => v1w List.nodup_range (fun x hx => by have := l0.1 hx; omega) h2 l (l0.2 hl)⟩
 have := y0t h1 c hc
 simpa using this
theorem y2c {W c lb : Nat} {R R' : Nat -> Option (Nat -> Bool)} (h : ∀ l, l < lb -> AgreeR W (R l) (R' l)) : wkey W c lb R = wkey W c lb R' := by
 unfold wkey
 congr 1
 refine x0h fun l hl => ?_
 have h1 := h l (l0.1 hl)
 unfold keyS
 revert h1
 cases R l <;> cases R' l <;> intro h1
 · rfl
 · exact absurd h1 (by simp [AgreeR])
 · exact absurd h1 (by simp [AgreeR])
 · simp only; rw [k2d h1]
/-! what weak's ends tells -/
def EndsOk (s : Lts) (G : Nat -> Nat -> Bool) (p : Nat) (l : Int) : Option (Nat -> Bool) -> Prop
  | none => ¬ ∃ m t, TR s p m /\ one s m l t
  | some F => (∃ m t, TR s p m /\ one s m l t) /\ ∀ x, F x = true ↔ ∃ m t, TR s p m /\ one s m l t /\ G t x = true
theorem z0l {s : Lts} {n : Nat} (hr : s.Right) (hn : s.st = (n : Int)) {C : Nat -> Int} (h0 : ∀ p, p < n -> 0 <= C p) {G : Nat -> Nat -> Bool} (hG : ∀ t x, t < n -> (G t x = true ↔ ∃ q, TR s t q /\ C q = (x : Int))) {p : Nat} (hp : p < n) {l : Int} {o : Option (Nat -> Bool)} (h : EndsOk s G p l o) (e : Int) :
    (∃ q, q < n /\ wst s p l q /\ C q = e) ↔ ∃ F x, o = some F /\ e = (x : Nat) /\ F x = true := by
 constructor
 · (
 rintro ⟨q, hq, ⟨m, t, h1, h2, h3⟩, rfl⟩
 cases o with
 | none => exact absurd ⟨m, t, h1, h2⟩ h
 | some F => (
 obtain ⟨x, hx⟩ := l3 (h0 q hq)
 have ht : t < n := by (
 rcases h2 with ⟨_, rfl⟩ | ⟨_, h2⟩
 · exact h1.ltW hr hn hp
 · exact (z0r hr hn h2).2.1)
 exact ⟨F, x, rfl, hx, (h.2 x).2 ⟨m, t, h1, h2, (hG t x ht).2 ⟨q, h3, hx⟩⟩⟩))
 · (
 rintro ⟨F, x, rfl, rfl, hF⟩
 obtain ⟨m, t, h1, h2, h3⟩ := (h.2 x).1 hF
 have ht : t < n := by (
 rcases h2 with ⟨_, rfl⟩ | ⟨_, h2⟩
 · exact h1.ltW hr hn hp
 · exact (z0r hr hn h2).2.1)
 obtain ⟨q, h4, h5⟩ := (hG t x ht).1 h3
 exact ⟨q, h4.ltW hr hn ht, ⟨m, t, h1, h2, h4⟩, h5⟩)
theorem k2p {s : Lts} {n lb W : Nat} (hr : s.Right) (hn : s.st = (n : Int)) (hlb : s.lb = (lb : Int)) {C : Nat -> Int} (hC : ∀ p, p < n -> 0 <= C p /\ C p < (64 * W : Nat)) {G : Nat -> Nat -> Bool} (hG : ∀ t x, t < n -> (G t x = true ↔ ∃ q, TR s t q /\ C q = (x : Int)))
    {R : Nat -> Nat -> Option (Nat -> Bool)} (hR : ∀ p l, p < n -> l < lb -> EndsOk s G p (l : Int) (R p l)) {D : Nat -> Int} (hD : ∀ p q, p < n -> q < n -> (D p = D q ↔ wkey W (C p).toNat lb (R p) = wkey W (C q).toNat lb (R q))) : NextS (wst s) n C D := by
 have hst := hr.st0
 have h0 : ∀ p, p < n -> 0 <= C p := fun p hp => (hC p hp).1
 intro p q hp hq
 rw [hD p q hp hq]
 constructor
 · (
 intro h
 obtain ⟨h1, h2⟩ := y2b (by have := hC p hp; omega) (by omega) h
 refine ⟨by have := hC p hp; have := hC q hq; omega, ?_⟩
 have key : ∀ p q, p < n -> q < n -> (∀ l, l < lb -> AgreeR W (R p l) (R q l)) -> ∀ l e, (∃ t, t < n /\ wst s p l t /\ C t = e) -> (∃ t, t < n /\ wst s q l t /\ C t = e) := by (
 intro p q hp hq hA l e hx
 obtain ⟨t, ht, hw, rfl⟩ := hx
 have hl := (k2l hr hn hw hp).2
 obtain ⟨l, rfl⟩ := l3 hl.1
 have hl2 : l < lb := by omega
 obtain ⟨F, x, h3, h4, h5⟩ := (z0l hr hn h0 hG hp (hR p l hp hl2) (C t)).1 ⟨t, ht, hw, rfl⟩
 refine (z0l hr hn h0 hG hq (hR q l hq hl2) (C t)).2 ?_
 have h6 := hA l hl2
 rw [h3] at h6
 cases e : R q l with
 | none => rw [e] at h6; exact h6.elim
 | some F' =>
   rw [e] at h6
   exact ⟨F', x, rfl, h4, by rw [<- h6 x (by have := hC t ht; omega)]; exact h5⟩)
 intro l e
 refine ⟨key p q hp hq h2 l e, key q p hq hp (fun l hl => ?_) l e⟩
 have h3 := h2 l hl
 cases e1 : R p l <;> cases e2 : R q l <;> rw [e1, e2] at h3
 · exact trivial
 · exact h3.elim
 · exact h3.elim
 · exact fun x hx => (h3 x hx).symm)
 · (
 rintro ⟨h1, h2⟩
 rw [h1]
 refine y2c fun l hl => ?_
 have ep := hR p l hp hl
 have eq := hR q l hq hl
 have mp := z0l hr hn h0 hG hp ep
 have mq := z0l hr hn h0 hG hq eq
 have some_of : ∀ {p : Nat} {o : Option (Nat -> Bool)}, p < n -> EndsOk s G p (l : Int) o -> o ≠ none -> ∃ e, ∃ t, t < n /\ wst s p l t /\ C t = e := by (
 intro p o hp h hne
 cases o with
 | none => exact absurd rfl hne
 | some F => (
 obtain ⟨m, t, h3, h4⟩ := h.1
 have hw : wst s p l t := ⟨m, t, h3, h4, .refl⟩
 exact ⟨C t, t, (k2l hr hn hw hp).1, hw, rfl⟩))
 cases e1 : R p l with
 | none => (
 cases e2 : R q l with
 | none => exact trivial
 | some F => (
 obtain ⟨e, he⟩ := some_of hq eq (by rw [e2]; simp)
 obtain ⟨F', x, h3, _⟩ := (mp e).1 ((h2 l e).2 he)
 rw [e1] at h3; cases h3))
 | some F => (
 cases e2 : R q l with
 | none => (
 obtain ⟨e, he⟩ := some_of hp ep (by rw [e1]; simp)
 obtain ⟨F', x, h3, _⟩ := (mq e).1 ((h2 l e).1 he)
 rw [e2] at h3; cases h3)
 | some F' => (
 intro x _
 have h3 := (mp x).symm.trans ((h2 l x).trans (mq x))
 rw [e1, e2] at h3
 have h4 : F x = true ↔ F' x = true := by (
 constructor
 · intro h
   obtain ⟨F2, x2, e, ex, h5⟩ := h3.1 ⟨F, x, rfl, rfl, h⟩
   cases e
   obtain rfl : x = x2 := by omega
   exact h5
 · intro h
   obtain ⟨F2, x2, e, ex, h5⟩ := h3.2 ⟨F', x, rfl, rfl, h⟩
   cases e
   obtain rfl : x = x2 := by omega
   exact h5)
 cases e3 : F x <;> cases e4 : F' x <;> simp [e3, e4] at h4 <;> rfl)))
theorem NextS.sat {s : Lts} {n lb : Nat} {K : Nat -> Nat -> Nat -> Bool} (hr : s.Right) (hn : s.st = (n : Int)) (hlb : s.lb = (lb : Int)) (hK : KOk s n lb K) {C D : Nat -> Int} (h : NextS (wst s) n C D) : NextS (stp (satS s n lb K)) n C D := by
 intro p q hp hq
 rw [h p q hp hq]
 have e : ∀ p, p < n -> ∀ l c, (∃ t, t < n /\ stp (satS s n lb K) p l t /\ C t = c) ↔ (∃ t, t < n /\ wst s p l t /\ C t = c) := by (
 intro p hp l c
 constructor
 · rintro ⟨t, ht, h1, h2⟩; exact ⟨t, ht, ((x1p hr hn hlb hK).1 h1).2, h2⟩
 · rintro ⟨t, ht, h1, h2⟩; exact ⟨t, ht, (x1p hr hn hlb hK).2 ⟨hp, h1⟩, h2⟩)
 simp only [e p hp, e q hq]
/-! the numbers of texts -/
def txtW (n : Nat) (X : Nat -> List UInt8) : List (List UInt8) := (l6 n).map X
theorem j1q {n : Nat} {X : Nat -> List UInt8} {p : Nat} (hp : p < n) : X p ∈ txtW n X := l5.2 ⟨p, l0.2 hp, rfl⟩
def cdW (n : Nat) (X : Nat -> List UInt8) (p : Nat) : Int := codeT (txtW n X) (X p)
theorem p3i {n : Nat} {X : Nat -> List UInt8} {p q : Nat} (hp : p < n) (hq : q < n) : cdW n X p = cdW n X q ↔ X p = X q :=
  ⟨x1d (j1q hp) (j1q hq), fun h => by unfold cdW; rw [h]⟩
end Pl
end Go.Proofs.YtbaccmlfnbgehaaGreatDoor

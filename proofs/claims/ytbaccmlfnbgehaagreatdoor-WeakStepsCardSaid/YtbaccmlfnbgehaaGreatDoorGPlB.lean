/-
  Lemmas.
-/
import Derived.Lib.TrailingZeros
import Derived.Test.YtbaccmlfnbgehaaGreatDoorGPl1
open List renaming getElem?_eq_getElem → l0, idxOf_lt_length_of_mem → l1, getElem_idxOf → l2, getD_eq_getElem?_getD → l3, mem_of_getElem? → l7, getElem_of_mem → l8, getElem?_eq_none → m2, mem_append_left → m3, filter_append → m4, nodup_append → m6, mem_map → m7, range → m9, range_succ → n0, mem_append → n1, idxOf_cons → n2, mem_range → n3, map_cons → n4
open Nat renaming eq_of_testBit_eq → l4, testBit_two_pow_mul_add → l5, testBit_two_pow → l6, zero_testBit → l9, add_assoc → m0, two_pow_pos → m1, pow_succ → m5, testBit_or → m8
namespace Go.Proofs.YtbaccmlfnbgehaaGreatDoor
namespace Pl
def wd (f : Nat -> Bool) : Nat -> Nat
  | 0 => 0
  | n + 1 => wd f n ||| (if f n then 2 ^ n else 0)
theorem k3h (f : Nat -> Bool) : ∀ n, wd f n < 2 ^ n
  | 0 => by simp [wd]
  | n + 1 => by
    have h1 := k3h f n
    have h2 : 2 ^ n < 2 ^ (n + 1) := by rw [m5]; have := m1 n; omega
    unfold wd
    refine Nat.or_lt_two_pow (by omega) ?_
    split
    · exact h2
    · exact m1 _
theorem u2e (f : Nat -> Bool) : ∀ n k, (wd f n).testBit k = (decide (k < n) && f k)
  | 0, k => by simp [wd]
  | n + 1, k => by
    unfold wd
    rw [m8, u2e f n k]
    by_cases hf : f n = true
    · rw [if_pos hf, l6]
      by_cases e : n = k
      · subst e; simp [hf]
      · by_cases h : k < n
        · simp [h, e, show k < n + 1 by omega]
        · simp [h, e, show ¬ k < n + 1 by omega]
    · rw [if_neg hf, l9, Bool.or_false]
      by_cases e : n = k
      · subst e; simp at hf; simp [hf]
      · by_cases h : k < n
        · simp [h, show k < n + 1 by omega]
        · simp [h, show ¬ k < n + 1 by omega]
def wj (F : Nat -> Bool) (j : Nat) : Nat := wd (fun k => F (64 * j + k)) 64
theorem x1n (F : Nat -> Bool) (j : Nat) : wj F j < 18446744073709551616 := k3h _ 64
theorem q0i (F : Nat -> Bool) (j k : Nat) : (wj F j).testBit k = (decide (k < 64) && F (64 * j + k)) := u2e _ 64 k
theorem k2n {F G : Nat -> Bool} {j : Nat} (h : ∀ k, k < 64 -> F (64 * j + k) = G (64 * j + k)) : wj F j = wj G j := by
 refine l4 (fun k => ?_)
 rw [q0i, q0i]
 by_cases hk : k < 64
 · rw [h k hk]
 · simp [hk]
theorem u2r (j : Nat) : wj (fun _ => false) j = 0 := by
 refine l4 (fun k => ?_)
 rw [q0i, l9]; simp
def putF (F : Nat -> Bool) (i : Nat) (x : Nat) : Bool := F x || decide (x = i)
theorem k3g (F : Nat -> Bool) (i : Nat) : wj F (i / 64) ||| 2 ^ (i % 64) = wj (putF F i) (i / 64) := by
 refine l4 (fun k => ?_)
 rw [m8, q0i, q0i, l6]
 unfold putF
 by_cases hk : k < 64
 · (
 have : decide (i % 64 = k) = decide (64 * (i / 64) + k = i) := by (
 by_cases e : i % 64 = k
 · have : 64 * (i / 64) + k = i := by omega
   simp [e, this]
 · have : ¬ 64 * (i / 64) + k = i := by omega
   simp [e, this])
 rw [this]; simp [hk])
 · have : ¬ i % 64 = k := by omega
   simp [hk, this]
theorem k2m (F : Nat -> Bool) {i j : Nat} (h : j ≠ i / 64) : wj (putF F i) j = wj F j :=
  k2n (fun k hk => by
    unfold putF
    have : ¬ 64 * j + k = i := by omega
    simp [this])
theorem j3q {x : Nat} (h0 : x ≠ 0) (hx : x < 18446744073709551616) : Lib.ctz 64 x < 64 /\ x.testBit (Lib.ctz 64 x) = true /\ (∀ k, k < Lib.ctz 64 x -> x.testBit k = false) /\ ∀ k, (x &&& (x - 1)).testBit k = (x.testBit k && !decide (k = Lib.ctz 64 x)) := by
 obtain ⟨m, hm, hk⟩ := Lib.ctzFrom_spec 64 x (by omega) hx
 have e : Lib.ctz 64 x = Lib.ctzFrom 64 x := by simp [Lib.ctz, h0]
 rw [e]
 obtain ⟨t, ht⟩ : ∃ t, t = Lib.ctzFrom 64 x := ⟨_, rfl⟩
 rw [<- ht] at hm hk ⊢
 have hp := m1 t
 have h2 : 2 ^ (t + 1) = 2 ^ t + 2 ^ t := by rw [m5]; omega
 have e1 : x = 2 ^ (t + 1) * m + 2 ^ t := by
   have h3 : 2 ^ (t + 1) * m = 2 ^ t * (2 * m) := by rw [m5, Nat.mul_assoc]
   rw [h3, hm, Nat.mul_add, Nat.mul_one]
 have b1 : ∀ k, x.testBit k = if k < t + 1 then decide (t = k) else m.testBit (k - (t + 1)) := fun k => by
   rw [e1, l5 m (by omega) k, l6]
 have e2 : x - 1 = 2 ^ (t + 1) * m + (2 ^ t - 1) := by omega
 have b2 : ∀ k, (x - 1).testBit k = if k < t + 1 then decide (k < t) else m.testBit (k - (t + 1)) := fun k => by
   rw [e2, l5 m (by omega) k, Nat.testBit_two_pow_sub_one]
 refine ⟨hk, by rw [b1, if_pos (by omega)]; simp, fun k h => by rw [b1, if_pos (by omega)]; simp; omega, fun k => ?_⟩
 rw [Nat.testBit_and, b1, b2]
 by_cases h : k < t + 1
 · rw [if_pos h, if_pos h]
   by_cases e : k = t
   · subst e; simp
   · have : ¬ t = k := fun h => e h.symm
     simp [this]
 · rw [if_neg h, if_neg h]
   have : ¬ k = t := by omega
   simp [this]
def idsN (F : Nat -> Bool) (m : Nat) : List Nat := (m9 m).filter F
theorem p0q (F : Nat -> Bool) (m : Nat) : (idsN F m).length <= m := by
 unfold idsN
 have := List.length_filter_le F (m9 m)
 simpa using this
theorem y0e {F : Nat -> Bool} {m : Nat} : ∀ d, (∀ k, k < d -> F (m + k) = false) -> idsN F (m + d) = idsN F m
  | 0, _ => rfl
  | d + 1, h => by
    have ih := y0e d (fun k hk => h k (by omega))
    unfold idsN at *
    rw [<- m0, n0, m4, ih]
    simp [h d (by omega)]
theorem v1x {F : Nat -> Bool} {m : Nat} (h : F m = true) : idsN F (m + 1) = idsN F m ++ [m] := by
 unfold idsN
 rw [n0, m4]
 simp [h]
theorem q0e {F : Nat -> Bool} {m x : Nat} : x ∈ idsN F m ↔ x < m /\ F x = true := by
 unfold idsN; simp
theorem q2t {F : Nat -> Bool} {j t x : Nat} (_ht : t <= 64) (hx : x < 18446744073709551616) (hb : ∀ k, x.testBit k = (decide (t <= k /\ k < 64) && F (64 * j + k))) (h0 : x ≠ 0) :
    Lib.ctz 64 x < 64 /\ t <= Lib.ctz 64 x /\ idsN F (64 * j + (Lib.ctz 64 x + 1)) = idsN F (64 * j + t) ++ [64 * j + Lib.ctz 64 x] /\ (∀ k, (x &&& (x - 1)).testBit k = (decide (Lib.ctz 64 x + 1 <= k /\ k < 64) && F (64 * j + k))) := by
 obtain ⟨h1, h2, h3, h4⟩ := j3q h0 hx
 obtain ⟨c, hc⟩ : ∃ c, c = Lib.ctz 64 x := ⟨_, rfl⟩
 rw [<- hc] at h1 h2 h3 h4 ⊢
 rw [hb] at h2
 simp at h2
 refine ⟨h1, h2.1.1, ?_, fun k => ?_⟩
 · (
 have hg : idsN F (64 * j + c) = idsN F (64 * j + t) := by (
 have := y0e (F := F) (m := 64 * j + t) (c - t) (fun k hk => by (
 have h5 := h3 (t + k) (by omega)
 rw [hb] at h5
 simp at h5
 have := h5 (by omega)
 rw [m0]; exact this))
 rw [show 64 * j + c = 64 * j + t + (c - t) by omega]; exact this)
 rw [<- m0, v1x h2.2, hg])
 · (
 rw [h4, hb]
 by_cases e : k = c
 · subst e
   have : ¬ (k + 1 <= k /\ k < 64) := by omega
   simp only [this, decide_false, Bool.false_and]; simp
 · (
 by_cases hk : k < c
 · have h5 := h3 k hk
   rw [hb] at h5
   have : ¬ (c + 1 <= k /\ k < 64) := by omega
   rw [h5]; simp [this]
 · (
 by_cases h6 : k < 64
 · have e1 : t <= k /\ k < 64 := by omega
   have e2 : c + 1 <= k /\ k < 64 := by omega
   simp [e, e1, e2]
 · have e1 : ¬ (t <= k /\ k < 64) := by omega
   have e2 : ¬ (c + 1 <= k /\ k < 64) := by omega
   simp [e1, e2])))
theorem z2v {F : Nat -> Bool} {j t : Nat} (ht : t <= 64) (hb : ∀ k, (0 : Nat).testBit k = (decide (t <= k /\ k < 64) && F (64 * j + k))) : idsN F (64 * (j + 1)) = idsN F (64 * j + t) := by
 rw [show 64 * (j + 1) = 64 * j + t + (64 - t) by omega]
 refine y0e _ (fun k hk => ?_)
 have h5 := hb (t + k)
 rw [l9] at h5
 have e1 : t <= t + k /\ t + k < 64 := by omega
 simp only [e1, decide_true, and_self, Bool.true_and] at h5
 rw [m0]; exact h5.symm
end Pl
end Go.Proofs.YtbaccmlfnbgehaaGreatDoor
namespace Go.Proofs.YtbaccmlfnbgehaaGreatDoor
namespace Pl
def Rch (s : Lts) (x : Int) : Prop := ∀ P : Int -> Prop, P s.s0 -> (∀ a l b, P a -> (a, l, b) ∈ s.es -> P b) -> P x
theorem Rch.start (s : Lts) : Rch s s.s0 := fun _ h _ => h
theorem Rch.step {s : Lts} {a l b : Int} (h : Rch s a) (he : (a, l, b) ∈ s.es) : Rch s b := fun P h0 h1 => h1 a l b (h P h0 h1) he
theorem q1n {L : List Int} {n : Nat} (h : L.Nodup) (hr : ∀ x ∈ L, 0 <= x /\ x < (n : Int)) : L.length <= n := by
 have : L ⊆ (m9 n).map Int.ofNat := by (
 intro x hx
 have := hr x hx
 rw [m7]
 exact ⟨x.toNat, by rw [n3]; omega, by simp; omega⟩)
 have := List.Nodup.length_le_of_subset h this
 simpa using this
structure Bfs (s : Lts) (L : List Int) (i : Nat) : Prop where
  nd : L.Nodup
  rng : ∀ x ∈ L, 0 <= x /\ x < s.st
  rch : ∀ x ∈ L, Rch s x
  s0 : s.s0 ∈ L
  done : ∀ k x, k < i -> L[k]? = some x -> ∀ y ∈ s.outs x, y.2 ∈ L
theorem Bfs.start {s : Lts} (h : s.Right) (h0 : s.st ≠ 0) : Bfs s [s.s0] 0 where
  nd := by simp
  rng x hx := by have := h.st0; simp at hx; subst hx; omega
  rch x hx := by simp at hx; subst hx; exact Rch.start s
  s0 := by simp
  done k x hk := by omega
theorem Bfs.len {s : Lts} {L : List Int} {i : Nat} (h : Bfs s L i) : L.length <= s.st.toNat :=
  q1n h.nd (fun x hx => by have := h.rng x hx; omega)
theorem Bfs.push {s : Lts} (hr : s.Right) {L : List Int} {i : Nat} {x : Int} {y : S} (h : Bfs s L i) (hx : L[i]? = some x) (hy : y ∈ s.outs x) (hn : y.2 ∉ L) : Bfs s (L ++ [y.2]) i where
  nd := by rw [m6]; exact ⟨h.nd, by simp, by intro a ha b hb; simp at hb; subst hb; intro e; subst e; exact hn ha⟩
  rng z hz := by
    rcases n1.1 hz with h1 | h1
    · exact h.rng z h1
    · simp at h1; subst h1
      have := j0g.1 (hr.edges _ (j0s.1 hy))
      exact ⟨this.2.2.2.2.1, this.2.2.2.2.2⟩
  rch z hz := by
    rcases n1.1 hz with h1 | h1
    · exact h.rch z h1
    · simp at h1; subst h1; exact (h.rch x (l7 hx)).step (j0s.1 hy)
  s0 := m3 _ h.s0
  done k z hk hz w hw := by
    have hlt : k < L.length := by have := (List.getElem?_eq_some_iff.1 hx).1; omega
    rw [List.getElem?_append_left hlt] at hz
    exact m3 _ (h.done k z hk hz w hw)
theorem Bfs.next {s : Lts} {L : List Int} {i : Nat} {x : Int} (h : Bfs s L i) (hx : L[i]? = some x) (ha : ∀ y ∈ s.outs x, y.2 ∈ L) : Bfs s L (i + 1) where
  nd := h.nd
  rng := h.rng
  rch := h.rch
  s0 := h.s0
  done k z hk hz := by
    by_cases hki : k = i
    · subst hki; rw [hx] at hz; simp at hz; subst hz; exact ha
    · exact h.done k z (by omega) hz
theorem Bfs.all {s : Lts} {L : List Int} (h : Bfs s L L.length) (x : Int) : x ∈ L ↔ Rch s x := by
 refine ⟨h.rch x, fun hr => hr (· ∈ L) h.s0 ?_⟩
 intro a l b ha he
 obtain ⟨k, hk, rfl⟩ := l8 ha
 exact h.done k _ hk (l0 hk) (l, b) (j0s.2 he)
open Classical in
noncomputable def reachL (s : Lts) : List Int := ((m9 s.st.toNat).map Int.ofNat).filter (fun x => decide (Rch s x))
theorem Rch.rng {s : Lts} (h : s.Right) (h0 : s.st ≠ 0) {x : Int} (hx : Rch s x) : 0 <= x /\ x < s.st := by
 have := h.st0
 refine hx (fun x => 0 <= x /\ x < s.st) (by omega) ?_
 intro a l b _ he
 have := j0g.1 (h.edges _ he)
 exact ⟨this.2.2.2.2.1, this.2.2.2.2.2⟩
theorem j1b {s : Lts} (h : s.Right) (h0 : s.st ≠ 0) {x : Int} : x ∈ reachL s ↔ Rch s x := by
 unfold reachL
 simp only [List.mem_filter, m7, n3, decide_eq_true_eq]
 constructor
 · rintro ⟨_, h⟩; exact h
 · intro hx
   have := hx.rng h h0
   exact ⟨⟨x.toNat, by omega, by simp; omega⟩, hx⟩
end Pl
end Go.Proofs.YtbaccmlfnbgehaaGreatDoor
namespace Go.Proofs.YtbaccmlfnbgehaaGreatDoor
namespace Pl
def addN (s : List Int) (x : Int) : List Int := if x ∈ s then s else s ++ [x]
def dist (l : List Int) : List Int := l.foldl addN []
theorem k0j (l : List Int) (x : Int) : dist (l ++ [x]) = addN (dist l) x := by simp [dist, List.foldl_append]
theorem v1q {s : List Int} {x y : Int} : y ∈ addN s x ↔ y ∈ s ∨ y = x := by
 unfold addN; split
 · constructor
   · exact Or.inl
   · rintro (h | rfl)
     · exact h
     · assumption
 · simp
theorem z0x {P : List Int -> Prop} (h0 : P []) (h1 : ∀ l x, P l -> P (l ++ [x])) (l : List Int) : P l := by
 have : ∀ m : List Int, P m.reverse := by (
 intro m
 induction m with
 | nil => exact h0
 | cons x m ih => rw [List.reverse_cons]; exact h1 _ _ ih)
 simpa using this l.reverse
theorem k0l {x : Int} (l : List Int) : x ∈ dist l ↔ x ∈ l := by
 induction l using z0x with
 | h0 => simp [dist]
 | h1 l y ih => rw [k0j, v1q, ih]; simp
theorem x0b (l : List Int) : (dist l).Nodup := by
 induction l using z0x with
 | h0 => simp [dist]
 | h1 l y ih => (
 rw [k0j]; unfold addN; split
 · exact ih
 · rw [m6]; exact ⟨ih, by simp, by intro a ha b hb e; simp at hb; subst hb; subst e; contradiction⟩)
theorem u1h (l : List Int) : (dist l).length <= l.length := by
 induction l using z0x with
 | h0 => simp [dist]
 | h1 l y ih => rw [k0j]; unfold addN; split <;> simp <;> omega
theorem z2t {s : List Int} {x y : Int} (h : y ∈ s) : (addN s x).idxOf y = s.idxOf y := by
 unfold addN; split
 · rfl
 · rw [List.idxOf_append]; simp [h]
theorem y0q (l m : List Int) {y : Int} (h : y ∈ l) : (dist (l ++ m)).idxOf y = (dist l).idxOf y := by
 induction m using z0x with
 | h0 => simp
 | h1 m x ih => rw [<- List.append_assoc, k0j, z2t ((k0l _).2 (by simp [h])), ih]
def canon (l : List Int) : List Int := l.map (fun x => ((dist l).idxOf x : Int))
theorem x2o (l : List Int) : (canon l).length = l.length := by simp [canon]
theorem y0i (l : List Int) (i : Nat) : (canon l)[i]? = l[i]?.map (fun x => ((dist l).idxOf x : Int)) := by simp [canon]
theorem y1q {l : List Int} {x y : Int} (hx : x ∈ l) (hy : y ∈ l) (h : l.idxOf x = l.idxOf y) : x = y := by
 have h1 := l2 (l1 hx)
 have h2 := l2 (l1 hy)
 rw [<- h1, <- h2]
 congr 1
theorem v2z {f : Int -> Int} {s : List Int} {x : Int} (hf : ∀ y ∈ s, f y = f x -> y = x) : addN (s.map f) (f x) = (addN s x).map f := by
 unfold addN
 by_cases h : x ∈ s
 · rw [if_pos h, if_pos (List.mem_map_of_mem h)]
 · rw [if_neg h, if_neg]
   · simp
   · intro hm; obtain ⟨y, hy, e⟩ := m7.1 hm; exact h (hf y hy e ▸ hy)
theorem u1g {f : Int -> Int} (l : List Int) (hf : ∀ x ∈ l, ∀ y ∈ l, f x = f y -> x = y) : dist (l.map f) = (dist l).map f := by
 induction l using z0x with
 | h0 => simp [dist]
 | h1 l y ih =>
   rw [List.map_append, n4, List.map_nil, k0j, ih (fun a ha b hb => hf a (by simp [ha]) b (by simp [hb])), k0j]
   exact v2z (fun z hz => hf z (by simp [(k0l l).1 hz]) y (by simp))
theorem q2s {f : Int -> Int} {x : Int} : ∀ l : List Int, (∀ y ∈ l, f y = f x -> y = x) -> (l.map f).idxOf (f x) = l.idxOf x
  | [], _ => rfl
  | y :: l, h => by
    have ih := q2s l (fun z hz => h z (by simp [hz]))
    rw [n4, n2, n2]
    by_cases e : y = x
    · subst e; simp
    · have : ¬ f y = f x := fun e2 => e (h y (by simp) e2)
      simp only [beq_iff_eq, e, this, if_false, ih, cond_eq_ite]
theorem x1h {f : Int -> Int} {l : List Int} (hf : ∀ x ∈ l, ∀ y ∈ l, f x = f y -> x = y) : canon (l.map f) = canon l := by
 unfold canon
 rw [List.map_map, u1g l hf]
 apply List.map_congr_left
 intro x hx
 simp only [Function.comp]
 rw [q2s _ (fun y hy => hf y ((k0l l).1 hy) x hx)]
theorem z1f (l : List Int) : canon (canon l) = canon l := by
 conv => lhs; arg 1; unfold canon
 exact x1h (fun x hx y hy h => y1q ((k0l l).2 hx) ((k0l l).2 hy) (Int.ofNat.inj h))
theorem q0y {l : List Int} {i k : Nat} {x y : Int} (hx : l[i]? = some x) (hy : l[k]? = some y) : ((dist l).idxOf x : Int) = ((dist l).idxOf y : Int) ↔ x = y := by
 constructor
 · intro h; exact y1q ((k0l l).2 (l7 hx)) ((k0l l).2 (l7 hy)) (Int.ofNat.inj h)
 · rintro rfl; rfl
def SameT (a b : List Int) : Prop := ∀ (i k : Nat) (x y x' y' : Int), k < i -> a[i]? = some x -> a[k]? = some y -> b[i]? = some x' -> b[k]? = some y' -> (x = y ↔ x' = y')
theorem x0f {a b : List Int} (hl : a.length = b.length) : canon a = canon b ↔ SameT a b := by
 constructor
 · intro h i k x y x' y' _ hx hy hx' hy'
   have e1 := congrArg (fun l => l[i]?) h
   have e2 := congrArg (fun l => l[k]?) h
   simp only [y0i, hx, hy, hx', hy', Option.map_some, Option.some.injEq] at e1 e2
   rw [<- q0y hx hy, <- q0y hx' hy', e1, e2]
 · (
 intro h
 have hs : ∀ (i k : Nat) (x y x' y' : Int), a[i]? = some x -> a[k]? = some y -> b[i]? = some x' -> b[k]? = some y' -> (x = y ↔ x' = y') := by (
 intro i k x y x' y' hx hy hx' hy'
 rcases Nat.lt_trichotomy k i with hlt | rfl | hlt
 · exact h i k x y x' y' hlt hx hy hx' hy'
 · rw [hx] at hy; rw [hx'] at hy'; simp at hy hy'; simp [hy, hy']
 · have := h k i y x y' x' hlt hy hx hy' hx'
   rw [eq_comm, this, eq_comm])
 have hb : b = a.map (fun x => b.getD (a.idxOf x) 0) := by (
 apply List.ext_getElem?
 intro i
 by_cases hi : i < a.length
 · (
 have hx := l0 hi
 have hx' := l0 (show i < b.length by omega)
 have hm : a[i] ∈ a := List.getElem_mem hi
 have hlt := l1 hm
 have hj : a[a.idxOf a[i]]? = some a[i] := by rw [l0 hlt, l2 hlt]
 have hj' := l0 (show a.idxOf a[i] < b.length by omega)
 rw [List.getElem?_map, hx, hx']
 simp only [Option.map_some, Option.some.injEq]
 rw [l3, hj']
 simpa using (hs i _ _ _ _ _ hx hj hx' hj').1 rfl)
 · rw [m2 (by omega), m2 (by simp; omega)])
 rw [hb]
 refine (x1h ?_).symm
 intro x hx y hy he
 obtain ⟨i, hi, rfl⟩ := l8 hx
 obtain ⟨k, hk, rfl⟩ := l8 hy
 have hm1 := l1 hx
 have hm2 := l1 hy
 have hj1 : a[a.idxOf a[i]]? = some a[i] := by rw [l0 hm1, l2 hm1]
 have hj2 : a[a.idxOf a[k]]? = some a[k] := by rw [l0 hm2, l2 hm2]
 rw [l3, l3, l0 (show a.idxOf a[i] < b.length by omega), l0 (show a.idxOf a[k] < b.length by omega)] at he
 exact (hs _ _ _ _ _ _ hj1 hj2 (l0 (by omega)) (l0 (by omega))).2 (by simpa using he))
end Pl
end Go.Proofs.YtbaccmlfnbgehaaGreatDoor

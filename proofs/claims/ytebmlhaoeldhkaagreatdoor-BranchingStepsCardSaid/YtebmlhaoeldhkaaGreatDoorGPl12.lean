/-
 Lemmas.
-/
import Derived.Test.YtebmlhaoeldhkaaGreatDoorGPlS
import Derived.Test.YtebmlhaoeldhkaaGreatDoorGPl3
import Derived.Test.YtebmlhaoeldhkaaGreatDoorGPl1
import Derived.Test.YtebmlhaoeldhkaaGreatDoorChecked
import Derived.WalkKit
import Derived.WalkSpells
import Derived.WalkLawsBesides
import Derived.Lib.Hide
import Derived.Deep.OwnRows
import Derived.Deep.AppendLies
namespace Go.Proofs.YtebmlhaoeldhkaaGreatDoor
namespace Pl
theorem nodup_sub : ∀ (L M : List Nat), L.Nodup -> (∀ x ∈ L, x ∈ M) -> L.length <= M.length
 | [], _, _, _ => by simp
 | x :: L, M, hn, hs => by
   have hx := List.nodup_cons.1 hn
   have hm := hs x List.mem_cons_self
   have ih := nodup_sub L (M.erase x) hx.2 (fun y hy => (List.mem_erase_of_ne (fun e : y = x => hx.1 (e ▸ hy))).2 (hs y (List.mem_cons_of_mem _ hy)))
   rw [List.length_erase_of_mem hm] at ih
   have := List.length_pos_of_mem hm
   simp; omega
section
variable {t : Lts}
theorem taus_nodup (hr : t.Right) (hs : Srt ltE t.es) (k : Nat) : (taus t k).Nodup := by
 have h0 : ∀ y ∈ t.outs (k : Int), 0 <= y.1 /\ 0 <= y.2 := fun y hy => by
   have := offB_false.1 (hr.edges _ (mem_outs.1 hy)); simp only at this; omega
 have h1 := outs_srt hs (k : Int)
 unfold taus List.Nodup
 rw [List.pairwise_map]
 have h2 : ((t.outs (k : Int)).takeWhile (fun y => y.1 == 0)).Pairwise (fun a b => ltS a b = true) := List.Pairwise.sublist (List.takeWhile_sublist _) h1
 refine List.Pairwise.imp_of_mem ?_ h2
 intro a b ha hb hab e
 have ma := (takeWhile_mem h1 (fun y hy => (h0 y hy).1) a).1 ha
 have mb := (takeWhile_mem h1 (fun y hy => (h0 y hy).1) b).1 hb
 rw [ltS_iff] at hab
 have qa := h0 a ma.1; have qb := h0 b mb.1
 omega
def Wt (t : Lts) (D : List Nat) (k : Nat) : Nat := ((taus t k).filter (fun y => !decide (y ∈ D))).length
theorem Wt_nil (k : Nat) : Wt t [] k = (taus t k).length := by
 unfold Wt
 rw [List.filter_eq_self.2]
 intro y _; simp
theorem Wt_zero (hr : t.Right) (hs : Srt ltE t.es) {D : List Nat} {k : Nat} : Wt t D k = 0 ↔ ∀ y, tau t k y -> y ∈ D := by
 unfold Wt
 rw [List.length_eq_zero_iff, List.filter_eq_nil_iff]
 constructor
 · intro h y hy
   have := h y ((mem_taus hr hs).2 hy)
   simpa using this
 · intro h y hy
   have := h y ((mem_taus hr hs).1 hy)
   simp [this]
theorem filt_split {D : List Nat} {k : Nat} (hk : k ∉ D) : ∀ (l : List Nat), l.Nodup ->
   (l.filter (fun y => !decide (y ∈ D))).length = (l.filter (fun y => !decide (y ∈ D ++ [k]))).length + (if k ∈ l then 1 else 0)
 | [], _ => by simp
 | x :: l, hn => by
   have hx := List.nodup_cons.1 hn
   have ih := filt_split hk l hx.2
   by_cases e : x = k
   · subst e
     have h1 : (!decide (x ∈ D)) = true := by simp [hk]
     have h2 : (!decide (x ∈ D ++ [x])) = false := by simp
     rw [List.filter_cons, List.filter_cons, h1, h2]
     rw [if_neg hx.1] at ih
     simp [ih]
   · have h1 : (k ∈ x :: l) ↔ k ∈ l := by
       rw [List.mem_cons]
       exact ⟨fun h => h.resolve_left (fun e2 => e e2.symm), .inr⟩
     have h2 : (x ∈ D ++ [k]) ↔ x ∈ D := by
       rw [List.mem_append, List.mem_singleton]
       exact ⟨fun h => h.resolve_right e, .inl⟩
     rw [List.filter_cons, List.filter_cons]
     simp only [h1, h2]
     by_cases h3 : x ∈ D
     · simp only [h3, decide_true, Bool.not_true, Bool.false_eq_true, if_false]; exact ih
     · simp only [h3, decide_false, Bool.not_false, if_true, List.length_cons]; omega
theorem Wt_add (hr : t.Right) (hs : Srt ltE t.es) {D : List Nat} {k : Nat} (hk : k ∉ D) (j : Nat) [Decidable (tau t j k)] : Wt t D j = Wt t (D ++ [k]) j + (if tau t j k then 1 else 0) := by
 have h := filt_split hk (taus t j) (taus_nodup hr hs j)
 unfold Wt
 rw [h]
 congr 1
 by_cases h2 : tau t j k
 · rw [if_pos ((mem_taus hr hs).2 h2), if_pos h2]
 · rw [if_neg (fun h3 => h2 ((mem_taus hr hs).1 h3)), if_neg h2]
structure IsNext (t : Lts) (m : Nat) (D : List Nat) (k : Nat) : Prop where
 lt : k < m
 new : k ∉ D
 all : Wt t D k = 0
 first : ∀ j, j < k -> j ∈ D ∨ Wt t D j ≠ 0
inductive OrdL (t : Lts) (m : Nat) : List Nat -> Prop
 | nil : OrdL t m []
 | step {D : List Nat} {k : Nat} : OrdL t m D -> IsNext t m D k -> OrdL t m (D ++ [k])
theorem IsNext.unique {m : Nat} {D : List Nat} {k k' : Nat} (h : IsNext t m D k) (h' : IsNext t m D k') : k = k' := by
 rcases Nat.lt_trichotomy k k' with h1 | h1 | h1
 · rcases h'.first k h1 with h2 | h2
   · exact absurd h2 h.new
   · exact absurd h.all h2
 · exact h1
 · rcases h.first k' h1 with h2 | h2
   · exact absurd h2 h'.new
   · exact absurd h'.all h2
theorem OrdL.unique {m : Nat} {D D' : List Nat} (h : OrdL t m D) (h' : OrdL t m D') (hl : D.length = D'.length) : D = D' := by
 induction h generalizing D' with
 | nil => cases h' with
   | nil => rfl
   | step _ _ => simp at hl
 | step h1 h2 ih => cases h' with
   | nil => simp at hl
   | step h3 h4 =>
     have := ih h3 (by simpa using hl)
     subst this
     rw [h2.unique h4]
theorem OrdL.nodup {m : Nat} {D : List Nat} (h : OrdL t m D) : D.Nodup := by
 induction h with
 | nil => simp
 | step _ h2 ih =>
   rw [List.nodup_append]
   exact ⟨ih, by simp, fun a ha b hb e => by simp at hb; subst hb; subst e; exact h2.new ha⟩
theorem OrdL.rng {m : Nat} {D : List Nat} (h : OrdL t m D) : ∀ x ∈ D, x < m := by
 induction h with
 | nil => simp
 | step _ h2 ih =>
   intro x hx
   rcases List.mem_append.1 hx with h3 | h3
   · exact ih x h3
   · simp at h3; subst h3; exact h2.lt
theorem OrdL.ahead (hr : t.Right) (hs : Srt ltE t.es) {m : Nat} {D : List Nat} (h : OrdL t m D) : ∀ (i k y : Nat), D[i]? = some k -> tau t k y -> y ∈ D.take i := by
 induction h with
 | nil => simp
 | @step D k' _ h2 ih =>
   intro i k y hi hy
   by_cases hlt : i < D.length
   · rw [List.getElem?_append_left hlt] at hi
     rw [List.take_append_of_le_length (by omega)]
     exact ih i k y hi hy
   · have hl := (List.getElem?_eq_some_iff.1 hi).1
     simp at hl
     obtain rfl : i = D.length := by omega
     simp at hi
     subst hi
     rw [List.take_append_of_le_length (by omega), List.take_length]
     exact (Wt_zero hr hs).1 h2.all y hy
theorem OrdL.closed (hr : t.Right) (hs : Srt ltE t.es) {m : Nat} {D : List Nat} (h : OrdL t m D) {k y : Nat} (hk : k ∈ D) (hy : tau t k y) : y ∈ D := by
 obtain ⟨i, hi⟩ := List.getElem?_of_mem hk
 exact List.mem_of_mem_take (h.ahead hr hs i k y hi hy)
theorem min_ex (P : Nat -> Prop) : (∃ k, P k) -> ∃ k, P k /\ ∀ j, j < k -> ¬ P j := by
 rintro ⟨k, hk⟩
 induction k using Nat.strongRecOn with
 | _ k ih =>
   by_cases h : ∃ j, j < k /\ P j
   · obtain ⟨j, hj, hp⟩ := h
     exact ih j hj hp
   · exact ⟨k, hk, fun j hj hp => h ⟨j, hj, hp⟩⟩
theorem next_ex (hr : t.Right) (hs : Srt ltE t.es) {m : Nat} (hm : t.st = (m : Int)) {F : Nat -> Int} (hF : ∀ x y, tau t x y -> F y < F x) {D : List Nat} {x : Nat} (hx : x < m) (hxD : x ∉ D) : ∃ k, IsNext t m D k := by
 -- one of least rank among those that are left
 have h1 : ∃ k, k < m /\ k ∉ D /\ ∀ y, tau t k y -> y ∈ D := by
   have key : ∀ (B : Nat) (x : Nat), x < m -> x ∉ D -> (F x - F x).toNat <= B -> True := fun _ _ _ _ _ => trivial
   clear key
   -- by strong induction over how many of those left are below
   have : ∀ (c : Nat) (x : Nat), x < m -> x ∉ D -> ((List.range m).filter (fun z => decide (F z < F x))).length <= c -> ∃ k, k < m /\ k ∉ D /\ ∀ y, tau t k y -> y ∈ D := by
     intro c
     induction c with
     | zero =>
       intro x hx hxD hc
       refine ⟨x, hx, hxD, fun y hy => ?_⟩
       have hyF := hF x y hy
       have hym := (tau_lt hr hm hy).2
       have : y ∈ (List.range m).filter (fun z => decide (F z < F x)) := by simp [hym, hyF]
       have := List.length_pos_of_mem this
       omega
     | succ c ih =>
       intro x hx hxD hc
       by_cases h : ∀ y, tau t x y -> y ∈ D
       · exact ⟨x, hx, hxD, h⟩
       · obtain ⟨y, hy⟩ := Classical.not_forall.1 h
         obtain ⟨hy1, hy2⟩ := Classical.not_imp.1 hy
         have hyF := hF x y hy1
         have hym := (tau_lt hr hm hy1).2
         refine ih y hym hy2 ?_
         have hsub : ((List.range m).filter (fun z => decide (F z < F y))).length + 1 <= ((List.range m).filter (fun z => decide (F z < F x))).length := by
           have hnd : (y :: (List.range m).filter (fun z => decide (F z < F y))).Nodup := by
             rw [List.nodup_cons]
             exact ⟨by simp, List.Nodup.sublist List.filter_sublist List.nodup_range⟩
           have := nodup_sub _ ((List.range m).filter (fun z => decide (F z < F x))) hnd (fun z hz => by
             rcases List.mem_cons.1 hz with rfl | hz
             · simp [hym, hyF]
             · simp at hz ⊢; omega)
           simpa using this
         omega
   exact this _ x hx hxD (Nat.le_refl _)
 obtain ⟨k, ⟨h2, h3, h4⟩, h5⟩ := min_ex (fun k => k < m /\ k ∉ D /\ Wt t D k = 0) (by
   obtain ⟨k, h2, h3, h4⟩ := h1
   exact ⟨k, h2, h3, (Wt_zero hr hs).2 h4⟩)
 refine ⟨k, h2, h3, h4, fun j hj => ?_⟩
 by_cases hjD : j ∈ D
 · exact .inl hjD
 · exact .inr (fun e => h5 j hj ⟨by omega, hjD, e⟩)
end
end Pl
end Go.Proofs.YtebmlhaoeldhkaaGreatDoor
namespace Go.Proofs.YtebmlhaoeldhkaaGreatDoor
namespace Pl
theorem canon_snoc (l : List Int) (x : Int) : canon (l ++ [x]) = canon l ++ [((dist (l ++ [x])).idxOf x : Int)] := by
 unfold canon
 rw [List.map_append, List.map_cons, List.map_nil]
 congr 1
 apply List.map_congr_left
 intro y hy
 rw [idx_append l [x] hy]
theorem idx_range : ∀ (n a : Nat) (x : Nat), x < n -> ((List.range' a n).map Int.ofNat).idxOf ((a + x : Nat) : Int) = x
 | 0, _, _, h => by omega
 | n + 1, a, 0, _ => by simp [List.range'_succ]
 | n + 1, a, x + 1, h => by
   rw [List.range'_succ, List.map_cons, List.idxOf_cons]
   have hb : (Int.ofNat a == ((a + (x + 1) : Nat) : Int)) = false := by simp; omega
   rw [hb]
   have := idx_range n (a + 1) x (by omega)
   rw [show a + (x + 1) = a + 1 + x by omega]
   simp only [cond_false, this]
theorem map_idx : ∀ (l : List Int), l.Nodup -> l.map (fun x => (l.idxOf x : Int)) = (List.range l.length).map Int.ofNat := by
 intro l hn
 apply List.ext_getElem?
 intro i
 rw [List.getElem?_map, List.getElem?_map]
 by_cases h : i < l.length
 · rw [List.getElem?_eq_getElem h, List.getElem?_range h]
   simp only [Option.map_some]
   congr 1
   have := List.Nodup.idxOf_getElem hn i h
   rw [this]; rfl
 · rw [List.getElem?_eq_none (by omega), List.getElem?_eq_none (by simp; omega)]; rfl
theorem dist_canon (l : List Int) : dist (canon l) = (List.range (dist l).length).map Int.ofNat := by
 have h := dist_map (f := fun x => ((dist l).idxOf x : Int)) l (fun x hx y hy h => idx_inj ((mem_dist l).2 hx) ((mem_dist l).2 hy) (Int.ofNat.inj h))
 unfold canon
 exact h.trans (map_idx _ (nodup_dist l))
def nUp (xs : List Int) (i : Nat) : Nat := (dist (xs.take i)).length
theorem nUp_le (xs : List Int) (i : Nat) : nUp xs i <= i := by
 unfold nUp; have := dist_len (xs.take i); simp at this; omega
theorem nUp_snoc {xs : List Int} {i : Nat} {x : Int} (h : xs[i]? = some x) : xs.take (i + 1) = xs.take i ++ [x] := by
 obtain ⟨hl, rfl⟩ := List.getElem?_eq_some_iff.1 h
 exact List.take_succ_eq_append_getElem hl
theorem form_old {xs : List Int} {i : Nat} {x : Int} (h : xs[i]? = some x) (hc : canon (xs.take i) = xs.take i) (h0 : 0 <= x) (h1 : x < nUp xs i) :
   canon (xs.take (i + 1)) = xs.take (i + 1) /\ nUp xs (i + 1) = nUp xs i := by
 have hd := dist_canon (xs.take i)
 rw [hc] at hd
 obtain ⟨k, rfl⟩ := Int.eq_ofNat_of_zero_le h0
 unfold nUp at h1
 have hk : k < (dist (xs.take i)).length := by omega
 have hm : (k : Int) ∈ dist (xs.take i) := by
   rw [hd, List.mem_map]; exact ⟨k, by simpa using hk, rfl⟩
 have hdd : dist (xs.take (i + 1)) = dist (xs.take i) := by rw [nUp_snoc h, dist_snoc]; unfold addN; rw [if_pos hm]
 refine ⟨?_, by unfold nUp; rw [hdd]⟩
 have hix : (dist (xs.take (i + 1))).idxOf (k : Int) = k := by
   rw [hdd, hd, List.range_eq_range']
   have := idx_range (dist (xs.take i)).length 0 k hk
   simpa using this
 rw [nUp_snoc h] at hix ⊢
 rw [canon_snoc, hix, hc]
theorem form_new {xs : List Int} {i : Nat} {x : Int} (h : xs[i]? = some x) (hc : canon (xs.take i) = xs.take i) (h1 : x = nUp xs i) :
   canon (xs.take (i + 1)) = xs.take (i + 1) /\ nUp xs (i + 1) = nUp xs i + 1 := by
 have hd := dist_canon (xs.take i)
 rw [hc] at hd
 unfold nUp at h1
 have hm : x ∉ dist (xs.take i) := by
   rw [hd, List.mem_map]; rintro ⟨k, hk, rfl⟩
   rw [List.mem_range] at hk
   have : (k : Int) = ((dist (xs.take i)).length : Int) := h1
   omega
 have hdd : dist (xs.take (i + 1)) = dist (xs.take i) ++ [x] := by rw [nUp_snoc h, dist_snoc]; unfold addN; rw [if_neg hm]
 refine ⟨?_, by unfold nUp; rw [hdd]; simp⟩
 have hix : (dist (xs.take (i + 1))).idxOf x = (dist (xs.take i)).length := by rw [hdd, List.idxOf_append]; simp [hm]
 rw [nUp_snoc h] at hix ⊢
 rw [canon_snoc, hix, hc, <- h1]
theorem form_no {xs : List Int} {i : Nat} {x : Int} (h : xs[i]? = some x) (h1 : x < 0 ∨ (nUp xs i : Int) < x) : canon xs ≠ xs := by
 intro e
 have h2 := canon_get xs i
 rw [e, h] at h2
 simp only [Option.map_some, Option.some.injEq] at h2
 have h3 := idx_append (xs.take (i + 1)) (xs.drop (i + 1)) (y := x) (by rw [nUp_snoc h]; simp)
 rw [List.take_append_drop] at h3
 rw [h3] at h2
 have h4 : (dist (xs.take (i + 1))).idxOf x <= nUp xs i := by
   rw [nUp_snoc h, dist_snoc]
   unfold nUp
   by_cases hm : x ∈ dist (xs.take i)
   · rw [idx_addN hm]; exact List.idxOf_le_length
   · rw [idx_new hm]; exact Nat.le_refl _
 omega
end Pl
end Go.Proofs.YtebmlhaoeldhkaaGreatDoor
namespace Go.Proofs.YtebmlhaoeldhkaaGreatDoor
namespace Pl
def pushL (out : List E) (e : E) : List E := if out.getLast? = some e then out else out ++ [e]
structure Mrg (a b out : List E) (i k : Nat) : Prop where
 srt : Srt ltE out
 mem : ∀ x, x ∈ out ↔ x ∈ a.take i ∨ x ∈ b.take k
 la : ∀ o ∈ out, ∀ x ∈ a.drop i, ltE x o = false
 lb : ∀ o ∈ out, ∀ x ∈ b.drop k, ltE x o = false
theorem Mrg.nil (a b : List E) : Mrg a b [] 0 0 := ⟨by simp [Srt], by simp, by simp, by simp⟩
theorem srt_pushL {out : List E} {e : E} (h : Srt ltE out) (he : ∀ o ∈ out, ltE e o = false) : Srt ltE (pushL out e) /\ ∀ x, x ∈ pushL out e ↔ x ∈ out ∨ x = e := by
 unfold pushL
 by_cases hl : out.getLast? = some e
 · rw [if_pos hl]
   have hm : e ∈ out := List.mem_of_getLast? hl
   exact ⟨h, fun x => ⟨.inl, fun hx => by rcases hx with hx | rfl; exact hx; exact hm⟩⟩
 · rw [if_neg hl]
   refine ⟨?_, fun x => by simp⟩
   unfold Srt at *
   rw [List.pairwise_append]
   refine ⟨h, by simp, fun o ho x hx => ?_⟩
   simp at hx; subst hx
   -- o is the last, or ahead of the last
   obtain ⟨l, z, rfl⟩ : ∃ l z, out = l ++ [z] := by
     rcases List.eq_nil_or_concat out with rfl | ⟨l, z, hz⟩
     · simp at ho
     · exact ⟨l, z, by simpa using hz⟩
   have hz : z ≠ x := by rintro rfl; simp at hl
   have hzx : ltE z x = true := by
     rcases stoE.total z x with h1 | h1 | h1
     · exact h1
     · exact absurd h1 hz
     · rw [he z (by simp)] at h1; cases h1
   rcases List.mem_append.1 ho with h1 | h1
   · have := (List.pairwise_append.1 h).2.2 o h1 z (by simp)
     exact stoE.trans _ _ _ this hzx
   · simp at h1; subst h1; exact hzx
theorem asymE {a b : E} (h : ltE a b = true) : ltE b a = false := by
 rw [Bool.eq_false_iff]; intro h2
 have := stoE.trans _ _ _ h h2
 rw [stoE.irrefl] at this; cases this
theorem notBelow {b : List E} {k : Nat} {x e : E} (h : Srt ltE b) (hk : b[k]? = some x) (hx : ltE x e = false) : ∀ y ∈ b.drop k, ltE y e = false := by
 intro y hy
 obtain ⟨j, hj⟩ := List.getElem?_of_mem hy
 rw [List.getElem?_drop] at hj
 by_cases h0 : j = 0
 · subst h0; rw [Nat.add_zero, hk] at hj; cases hj; exact hx
 · obtain ⟨h1, e1⟩ := List.getElem?_eq_some_iff.1 hk
   obtain ⟨h2, e2⟩ := List.getElem?_eq_some_iff.1 hj
   have := List.pairwise_iff_getElem.1 h k (k + j) h1 h2 (by omega)
   rw [e1, e2] at this
   rw [Bool.eq_false_iff]; intro h3
   rw [stoE.trans _ _ _ this h3] at hx; cases hx
theorem Mrg.pushA {a b out : List E} {i k : Nat} {e : E} (h : Mrg a b out i k) (ha : Srt ltE a) (hi : a[i]? = some e) (hb : ∀ y ∈ b.drop k, ltE y e = false) : Mrg a b (pushL out e) (i + 1) k := by
 obtain ⟨hil, hie⟩ := List.getElem?_eq_some_iff.1 hi
 have hd : a.drop i = e :: a.drop (i + 1) := by rw [List.drop_eq_getElem_cons hil, hie]
 have hlo : ∀ o ∈ out, ltE e o = false := fun o ho => h.la o ho e (by rw [hd]; simp)
 obtain ⟨h1, h2⟩ := srt_pushL h.srt hlo
 refine ⟨h1, fun x => ?_, fun o ho x hx => ?_, fun o ho x hx => ?_⟩
 · rw [h2, h.mem, List.take_succ_eq_append_getElem hil, hie, List.mem_append, List.mem_singleton]
   constructor
   · rintro ((h | h) | h)
     · exact .inl (.inl h)
     · exact .inr h
     · exact .inl (.inr h)
   · rintro ((h | h) | h)
     · exact .inl (.inl h)
     · exact .inr h
     · exact .inl (.inr h)
 · rcases (h2 o).1 ho with h3 | rfl
   · exact h.la o h3 x (by rw [hd]; simp [hx])
   · have hs : Srt ltE (a.drop i) := List.Pairwise.drop ha
     rw [hd] at hs
     exact asymE ((List.pairwise_cons.1 hs).1 x hx)
 · rcases (h2 o).1 ho with h3 | rfl
   · exact h.lb o h3 x hx
   · exact hb x hx
theorem Mrg.swap {a b out : List E} {i k : Nat} (h : Mrg a b out i k) : Mrg b a out k i := ⟨h.srt, fun x => by rw [h.mem]; exact Or.comm, h.lb, h.la⟩
theorem Mrg.pushB {a b out : List E} {i k : Nat} {e : E} (h : Mrg a b out i k) (hb : Srt ltE b) (hi : b[k]? = some e) (ha : ∀ y ∈ a.drop i, ltE y e = false) : Mrg a b (pushL out e) i (k + 1) :=
 (h.swap.pushA hb hi ha).swap
theorem Mrg.done {a b out l : List E} (h : Mrg a b out a.length b.length) (hm : ∀ x, x ∈ l ↔ x ∈ a ∨ x ∈ b) : out = nf ltE l :=
 eq_nf stoE h.srt (fun x => by rw [h.mem, List.take_length, List.take_length, hm])
theorem Mrg.len {a b out : List E} {i k : Nat} {e : E} : (pushL out e).length <= out.length + 1 := by
 unfold pushL; split <;> simp
theorem half_mem (l : List E) (m : Nat) (x : E) : x ∈ l ↔ x ∈ nf ltE (l.take m) ∨ x ∈ nf ltE (l.drop m) := by
 rw [mem_nf stoE, mem_nf stoE, <- List.mem_append, List.take_append_drop]
theorem nf_short {l : List E} (h : l.length < 2) : nf ltE l = l := by
 match l, h with
 | [], _ => rfl
 | [x], _ => rfl
 | _ :: _ :: _, h => simp at h; omega
end Pl
end Go.Proofs.YtebmlhaoeldhkaaGreatDoor
namespace Go.Proofs.YtebmlhaoeldhkaaGreatDoor
namespace Pl
def tauOf (s : Lts) (q : Int) : Lts := ⟨s.st, s.lb, q, s.es.filter (fun x => x.2.1 == 0)⟩
theorem tauOf_right {s : Lts} (h : s.Right) {q : Int} (h0 : 0 <= q) (h1 : q < s.st) : (tauOf s q).Right := by
 have hr := h.st0
 refine ⟨?_, fun x hx => h.edges x (List.mem_filter.1 hx).1⟩
 unfold HeadBad tauOf
 have := List.length_filter_le (fun x : E => x.2.1 == 0) s.es
 simp only
 omega
theorem mem_tauOf {s : Lts} {q x : Int} {y : S} : y ∈ (tauOf s q).outs x ↔ y ∈ s.outs x /\ y.1 = 0 := by
 rw [mem_outs, mem_outs]
 unfold tauOf
 simp
end Pl
end Go.Proofs.YtebmlhaoeldhkaaGreatDoor
namespace Go.Proofs.YtebmlhaoeldhkaaGreatDoor
namespace Pl
def turnE (x : E) : E := (x.2.2, x.2.1, x.1)
def backS (s : Lts) : Lts := ⟨s.st, s.lb, s.s0, s.es.map turnE⟩
section
variable {s : Lts}
end
end Pl
end Go.Proofs.YtebmlhaoeldhkaaGreatDoor
namespace Go.Proofs.YtebmlhaoeldhkaaGreatDoor
open Go.RowKit
structure IsRow (P : Program) (t e : TypeId) (size bytes : Nat) (z : Value) : Prop where
 ht : P.underlying t = some (.slice e)
 info : ∃ i, P.info? e = some i /\ i.zero = some z /\ i.size = size /\ i.bytes = bytes
 zs : z.cells.size = size
 pos : 0 < size
theorem isRow_of {P : Program} {t e : TypeId} {size bytes : Nat} {z : Value} (ht : P.underlying t = some (.slice e))
   (h : (P.info? e).map (fun i => (i.zero, i.size, i.bytes)) = some (some z, size, bytes)) (zs : z.cells.size = size) (pos : 0 < size) : IsRow P t e size bytes z :=
 ⟨ht, by obtain ⟨i, a, b, c, d⟩ := info_parts h; exact ⟨i, a, b, c, d⟩, zs, pos⟩
theorem wpList_app {P : Program} {w : World} {ops : Array Oper} {rest : List Oper} {o : Oper} {a : Act} {Q : Exit -> Act -> World -> Prop} (hgd : o.guard = none) (s x : Operand) (t : TypeId)
   (ho : o.op = .call { callee := .builtin .append, args := #[s, x], argTypes := #[t, t] })
   {e : TypeId} {size bytes : Nat} {z : Value} (R : IsRow P t e size bytes z) {base : Nat} {w0 : World} (hB : Below base w0 w) (hb0 : base <= w.heap.size)
   {v : Value} {n : Nat} {xs : List Value} (hs : a.eval s = v) (hown : w.ownsRow base e size v n xs)
   (ad : Addr) (m c : Nat) (news : List Value) (hx : a.eval x = .slice (some ad) m c) (hl : news.length = m * size) (hnews : ∀ j u, news[j]? = some u -> w.cell? (ad.add j) = some u) (h1 : ∀ u ∈ news, u.oneCell' = true)
   (hbytes : (n + m) * bytes <= 140737488355328) (hmax : n + m <= maxLen)
   (h : ∀ v' w', w'.ownsRow base e size v' (n + m) (xs ++ news) -> Below base w0 w' -> w.grownBy w' v.ownBlock -> wpList P ops Q rest (a.put o.dst v') w') : wpList P ops Q (o :: rest) a w := by
 obtain ⟨i, hi, hz, hsz, hby⟩ := R.info
 refine wpList_append_own w hgd s x t ho base e i z size bytes R.ht hi hz hsz hby R.zs R.pos v n xs hs hown ad m c news hx hl hnews h1 hmax hbytes hb0 ?_
 intro v' w' h1 h2 _
 exact h v' w' h1 (hB.grown h2 hb0 (fun k hk => (hown.lt k hk).1)) h2
theorem step_app {P : Program} {w : World} {ops : Array Oper} {o : Oper} {a : Act} {K : Act -> World -> Prop} {Q : Exit -> Act -> World -> Prop} {E : Prop} (hgd : o.guard = none) (s x : Operand) (t : TypeId)
   (ho : o.op = .call { callee := .builtin .append, args := #[s, x], argTypes := #[t, t] })
   {e : TypeId} {size bytes : Nat} {z : Value} (R : IsRow P t e size bytes z) {base : Nat}
   {v : Value} {n : Nat} {xs : List Value} (hs : a.eval s = v) (hown : w.ownsRow base e size v n xs)
   (ad : Addr) (m c : Nat) (news : List Value) (hx : a.eval x = .slice (some ad) m c) (hl : news.length = m * size) (hnews : ∀ j u, news[j]? = some u -> w.cell? (ad.add j) = some u) (h1 : ∀ u ∈ news, u.oneCell' = true)
   (hbytes : (n + m) * bytes <= 140737488355328) (hmax : n + m <= maxLen) (hbase : base <= w.heap.size)
   (h : ∀ v' w', w'.ownsRow base e size v' (n + m) (xs ++ news) -> w.grownBy w' v.ownBlock -> K (a.put o.dst v') w') :
   if Region.wanted o (yielded ops a.tmps) = true then Oper.wp P o a w K Q else E := by
 have hw : Region.wanted o (yielded ops a.tmps) = true := by simp [Region.wanted, hgd]
 rw [if_pos hw]
 obtain ⟨i, hi, hz, hsz, hby⟩ := R.info
 exact wp_append_own w s x t ho base e i z size bytes R.ht hi hz hsz hby R.zs R.pos v n xs hs hown ad m c news hx hl hnews h1 hmax hbytes hbase (fun v' w' h1 h2 _ => h v' w' h1 h2)
theorem step_app1 {P : Program} {w : World} {ops : Array Oper} {o : Oper} {a : Act} {K : Act -> World -> Prop} {Q : Exit -> Act -> World -> Prop} {E : Prop} (hgd : o.guard = none) (s x : Operand) (t : TypeId)
   (ho : o.op = .call { callee := .builtin .append, args := #[s, x], argTypes := #[t, t] })
   {e : TypeId} {size bytes : Nat} {z : Value} (R : IsRow P t e size bytes z) {base : Nat}
   {v : Value} {n : Nat} {xs : List Value} (hs : a.eval s = v) (hown : w.ownsRow base e size v n xs)
   (ad : Addr) (m c : Nat) (news : List Value) (hx : a.eval x = .slice (some ad) m c) (hl : news.length = m * size) (hnews : ∀ j u, news[j]? = some u -> w.cell? (ad.add j) = some u) (h1 : ∀ u ∈ news, u.oneCell' = true) (hm : 0 < m)
   (hbytes : (n + m) * bytes <= 140737488355328) (hmax : n + m <= maxLen) (hbase : base <= w.heap.size)
   (h : ∀ g cap w', w'.ownsRow base e size (.slice (some ⟨g, 0, none⟩) (n + m) cap) (n + m) (xs ++ news) -> w.grownBy w' v.ownBlock -> K (a.put o.dst (.slice (some ⟨g, 0, none⟩) (n + m) cap)) w') :
   if Region.wanted o (yielded ops a.tmps) = true then Oper.wp P o a w K Q else E := by
 refine step_app hgd s x t ho R hs hown ad m c news hx hl hnews h1 hbytes hmax hbase (fun v' w' h2 h3 => ?_)
 obtain ⟨g, cap, rfl, _⟩ := h2.form (by omega)
 exact h g cap w' h2 h3
theorem wpList_app1 {P : Program} {w : World} {ops : Array Oper} {rest : List Oper} {o : Oper} {a : Act} {Q : Exit -> Act -> World -> Prop} (hgd : o.guard = none) (s x : Operand) (t : TypeId)
   (ho : o.op = .call { callee := .builtin .append, args := #[s, x], argTypes := #[t, t] })
   {e : TypeId} {size bytes : Nat} {z : Value} (R : IsRow P t e size bytes z) {base : Nat} {w0 : World} (hB : Below base w0 w) (hb0 : base <= w.heap.size)
   {v : Value} {n : Nat} {xs : List Value} (hs : a.eval s = v) (hown : w.ownsRow base e size v n xs)
   (ad : Addr) (m c : Nat) (news : List Value) (hx : a.eval x = .slice (some ad) m c) (hl : news.length = m * size) (hnews : ∀ j u, news[j]? = some u -> w.cell? (ad.add j) = some u) (h1 : ∀ u ∈ news, u.oneCell' = true) (hm : 0 < m)
   (hbytes : (n + m) * bytes <= 140737488355328) (hmax : n + m <= maxLen)
   (h : ∀ g cap w', w'.ownsRow base e size (.slice (some ⟨g, 0, none⟩) (n + m) cap) (n + m) (xs ++ news) -> Below base w0 w' -> w.grownBy w' v.ownBlock -> wpList P ops Q rest (a.put o.dst (.slice (some ⟨g, 0, none⟩) (n + m) cap)) w') : wpList P ops Q (o :: rest) a w := by
 refine wpList_app hgd s x t ho R hB hb0 hs hown ad m c news hx hl hnews h1 hbytes hmax (fun v' w' h2 h3 h4 => ?_)
 obtain ⟨g, cap, rfl, _⟩ := h2.form (by omega)
 exact h g cap w' h2 h3 h4
theorem cells1 {w : World} {b : Nat} {u0 : Value} (h : w.cell? ⟨b, 0, none⟩ = some u0) : ∀ j u, [u0][j]? = some u -> w.cell? ((⟨b, 0, none⟩ : Addr).add j) = some u := by
 intro j u hj
 match j, hj with
 | 0, hj => simp at hj; subst hj; simpa [Addr.add] using h
theorem cells2 {w : World} {b : Nat} {u0 u1 : Value} (h : w.cell? ⟨b, 0, none⟩ = some u0) (h1 : w.cell? ⟨b, 1, none⟩ = some u1) : ∀ j u, [u0, u1][j]? = some u -> w.cell? ((⟨b, 0, none⟩ : Addr).add j) = some u := by
 intro j u hj
 match j, hj with
 | 0, hj => simp at hj; subst hj; simpa [Addr.add] using h
 | 1, hj => simp at hj; subst hj; simpa [Addr.add] using h1
theorem cells3 {w : World} {b : Nat} {u0 u1 u2 : Value} (h : w.cell? ⟨b, 0, none⟩ = some u0) (h1 : w.cell? ⟨b, 1, none⟩ = some u1) (h2 : w.cell? ⟨b, 2, none⟩ = some u2) : ∀ j u, [u0, u1, u2][j]? = some u -> w.cell? ((⟨b, 0, none⟩ : Addr).add j) = some u := by
 intro j u hj
 match j, hj with
 | 0, hj => simp at hj; subst hj; simpa [Addr.add] using h
 | 1, hj => simp at hj; subst hj; simpa [Addr.add] using h1
 | 2, hj => simp at hj; subst hj; simpa [Addr.add] using h2
end Go.Proofs.YtebmlhaoeldhkaaGreatDoor
namespace Go.Proofs.YtebmlhaoeldhkaaGreatDoor
open Go.RowKit Pl
def encI (x : Int) : List Value := [.int .i64 x]
def encB (x : Bool) : List Value := [.bool x]
def encS (x : S) : List Value := [.int .i64 x.1, .int .i64 x.2]
def encE (x : E) : List Value := [.int .i64 x.1, .int .i64 x.2.1, .int .i64 x.2.2]
def encV (x : Value) : List Value := [x]
theorem rowI : IsRow Tryz.prog 31 3 1 8 (.int .i64 0) := isRow_of Tryz.underlying31 (by kernel_rfl) rfl (by decide)
theorem rowS : IsRow Tryz.prog 78 117 2 16 (.agg #[.int .i64 0, .int .i64 0]) := isRow_of Tryz.underlying78 (by kernel_rfl) rfl (by decide)
theorem rowE : IsRow Tryz.prog 22 74 3 24 (.agg #[.int .i64 0, .int .i64 0, .int .i64 0]) := isRow_of Tryz.underlying22 (by kernel_rfl) rfl (by decide)
theorem rowB : IsRow Tryz.prog 58 4 1 1 (.bool false) := isRow_of Tryz.underlying58 (by kernel_rfl) rfl (by decide)
section
variable {α : Type} {enc : α -> List Value} {k : Nat} {w w' : World} {a : Option Addr} {b off : Nat} {xs : List α}
structure SlAt (enc : α -> List Value) (k : Nat) (w : World) (a : Option Addr) (b off : Nat) (xs : List α) : Prop where
 ad : 0 < xs.length -> a = some ⟨b, off, none⟩
 lt : 0 < xs.length -> b < w.heap.size
 cell : ∀ i x, xs[i]? = some x -> ∀ j u, (enc x)[j]? = some u -> w.cell? ⟨b, off + i * k + j, none⟩ = some u
theorem SlAt.below {B : Nat} (h : SlAt enc k w a b off xs) (hB : Below B w w') (hle : w.heap.size <= B) : SlAt enc k w' a b off xs :=
 ⟨h.ad, fun hl => Nat.lt_of_lt_of_le (h.lt hl) hB.size, fun i x hx j u hu => by
   have hl : 0 < xs.length := by have := (List.getElem?_eq_some_iff.1 hx).1; omega
   rw [hB.cell (p := ⟨b, off + i * k + j, none⟩) (Nat.lt_of_lt_of_le (h.lt hl) hle)]
   exact h.cell i x hx j u hu⟩
theorem slAt_nil (w : World) (a : Option Addr) (b off : Nat) : SlAt enc k w a b off [] := ⟨by simp, by simp, by simp⟩
theorem getElem?_flatMap (hk : ∀ x, (enc x).length = k) : ∀ (xs : List α) (i : Nat) (x : α), xs[i]? = some x -> ∀ j u, (enc x)[j]? = some u -> (xs.flatMap enc)[i * k + j]? = some u
 | [], i, x, h, _, _, _ => by simp at h
 | y :: xs, 0, x, h, j, u, hu => by
   simp at h; subst h
   rw [List.flatMap_cons, Nat.zero_mul, Nat.zero_add, List.getElem?_append_left (List.getElem?_eq_some_iff.1 hu).1]
   exact hu
 | y :: xs, i + 1, x, h, j, u, hu => by
   rw [List.flatMap_cons, List.getElem?_append_right (by rw [hk, Nat.add_mul]; omega), hk]
   rw [show (i + 1) * k + j - k = i * k + j by rw [Nat.add_mul]; omega]
   exact getElem?_flatMap hk xs i x (by simpa using h) j u hu
theorem length_flatMap (hk : ∀ x, (enc x).length = k) : ∀ xs : List α, (xs.flatMap enc).length = xs.length * k
 | [] => by simp
 | y :: xs => by rw [List.flatMap_cons, List.length_append, hk, length_flatMap hk xs, List.length_cons, Nat.add_mul]; omega
theorem slAt_own {base : Nat} {e : TypeId} {v : Value} (hk : ∀ x, (enc x).length = k) (h : w.ownsRow base e k v xs.length (xs.flatMap enc)) :
   ∃ a c b, v = .slice a xs.length c /\ xs.length <= c /\ c <= maxLen /\ SlAt enc k w a b 0 xs /\ (0 < xs.length -> base <= b) := by
 rcases h.2 with ⟨rfl, hn⟩ | ⟨g, cap, cur, rfl, hbg, hg, hnc, hcm, hcs, htake⟩
 · have : xs = [] := List.eq_nil_of_length_eq_zero hn
   subst this
   exact ⟨none, 0, 0, rfl, Nat.le_refl _, by unfold maxLen; omega, slAt_nil _ _ _ _, by simp⟩
 · refine ⟨some ⟨g, 0, none⟩, cap, g, rfl, hnc, hcm, ⟨fun _ => rfl, fun _ => (Array.getElem?_eq_some_iff.1 hg).1, fun i x hx j u hu => ?_⟩, fun _ => hbg⟩
   rw [cell_of_row w g _ cur e (0, 0) hg]
   have h1 := getElem?_flatMap hk xs i x hx j u hu
   rw [<- htake, List.getElem?_take] at h1
   split at h1
   · simpa using h1
   · cases h1
end
theorem lenI (x : Int) : (encI x).length = 1 := rfl
theorem lenB (x : Bool) : (encB x).length = 1 := rfl
theorem lenS (x : S) : (encS x).length = 2 := rfl
theorem lenE (x : E) : (encE x).length = 3 := rfl
theorem lenV (x : Value) : (encV x).length = 1 := rfl
section
variable {w : World} {a : Option Addr} {b off i : Nat}
theorem SlAt.ci {xs : List Int} {x : Int} (h : SlAt encI 1 w a b off xs) (hx : xs[i]? = some x) : w.cell? ⟨b, off + i, none⟩ = some (.int .i64 x) := by
 simpa using h.cell i x hx 0 _ rfl
theorem SlAt.cb {xs : List Bool} {x : Bool} (h : SlAt encB 1 w a b off xs) (hx : xs[i]? = some x) : w.cell? ⟨b, off + i, none⟩ = some (.bool x) := by
 simpa using h.cell i x hx 0 _ rfl
theorem SlAt.cv {xs : List Value} {x : Value} (h : SlAt encV 1 w a b off xs) (hx : xs[i]? = some x) : w.cell? ⟨b, off + i, none⟩ = some x := by
 simpa using h.cell i x hx 0 _ rfl
theorem SlAt.s0 {xs : List S} {x : S} (h : SlAt encS 2 w a b off xs) (hx : xs[i]? = some x) : w.cell? ⟨b, off + i * 2, none⟩ = some (.int .i64 x.1) := by
 simpa using h.cell i x hx 0 _ rfl
theorem SlAt.s1 {xs : List S} {x : S} (h : SlAt encS 2 w a b off xs) (hx : xs[i]? = some x) : w.cell? ⟨b, off + i * 2 + 1, none⟩ = some (.int .i64 x.2) :=
 h.cell i x hx 1 _ rfl
theorem SlAt.e0 {xs : List E} {x : E} (h : SlAt encE 3 w a b off xs) (hx : xs[i]? = some x) : w.cell? ⟨b, off + i * 3, none⟩ = some (.int .i64 x.1) := by
 simpa using h.cell i x hx 0 _ rfl
theorem SlAt.e1 {xs : List E} {x : E} (h : SlAt encE 3 w a b off xs) (hx : xs[i]? = some x) : w.cell? ⟨b, off + i * 3 + 1, none⟩ = some (.int .i64 x.2.1) :=
 h.cell i x hx 1 _ rfl
theorem SlAt.e2 {xs : List E} {x : E} (h : SlAt encE 3 w a b off xs) (hx : xs[i]? = some x) : w.cell? ⟨b, off + i * 3 + 2, none⟩ = some (.int .i64 x.2.2) :=
 h.cell i x hx 2 _ rfl
end
theorem getElem?_of_lt {α : Type} {xs : List α} {i : Nat} (h : i < xs.length) : ∃ x, xs[i]? = some x := ⟨xs[i], List.getElem?_eq_getElem h⟩
theorem ret_i {a b : Int} (h : a = b) : Ending.returned (.int .i64 a) = .returned (.int .i64 b) := by rw [h]
theorem ret_b {a b : Bool} (h : a = b) : Ending.returned (.bool a) = .returned (.bool b) := by rw [h]
theorem take_snoc {α : Type} {xs : List α} {i : Nat} {x : α} (h : xs[i]? = some x) : xs.take (i + 1) = xs.take i ++ [x] := by
 obtain ⟨hl, rfl⟩ := List.getElem?_eq_some_iff.1 h
 exact List.take_succ_eq_append_getElem hl
end Go.Proofs.YtebmlhaoeldhkaaGreatDoor

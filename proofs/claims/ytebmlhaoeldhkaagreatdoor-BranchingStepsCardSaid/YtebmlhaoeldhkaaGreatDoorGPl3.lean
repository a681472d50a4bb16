/-
 Lemmas.
-/
import Derived.Test.YtebmlhaoeldhkaaGreatDoorGPl1
namespace Go.Proofs.YtebmlhaoeldhkaaGreatDoor
namespace Pl
def ltI (a b : Int) : Bool := decide (a < b)
def Rch (s : Lts) (x : Int) : Prop := ∀ P : Int -> Prop, P s.s0 -> (∀ a l b, P a -> (a, l, b) ∈ s.es -> P b) -> P x
theorem Rch.start (s : Lts) : Rch s s.s0 := fun _ h _ => h
theorem Rch.step {s : Lts} {a l b : Int} (h : Rch s a) (he : (a, l, b) ∈ s.es) : Rch s b := fun P h0 h1 => h1 a l b (h P h0 h1) he
theorem nodup_len {L : List Int} {n : Nat} (h : L.Nodup) (hr : ∀ x ∈ L, 0 <= x /\ x < (n : Int)) : L.length <= n := by
 have : L ⊆ (List.range n).map Int.ofNat := by
   intro x hx
   have := hr x hx
   rw [List.mem_map]
   exact ⟨x.toNat, by rw [List.mem_range]; omega, by simp; omega⟩
 have := List.Nodup.length_le_of_subset h this
 simpa using this
structure Bfs (s : Lts) (L : List Int) (i : Nat) : Prop where
 nd : L.Nodup
 rng : ∀ x ∈ L, 0 <= x /\ x < s.st
 rch : ∀ x ∈ L, Rch s x
 s0 : s.s0 ∈ L
 done : ∀ k x, k < i -> L[k]? = some x -> ∀ y ∈ s.outs x, y.2 ∈ L
theorem Bfs.start {s : Lts} (h : s.Right) (h0 : s.st ≠ 0) : Bfs s [s.s0] 0 where
 nd := by simp
 rng x hx := by have := h.st0; simp at hx; subst hx; omega
 rch x hx := by simp at hx; subst hx; exact Rch.start s
 s0 := by simp
 done k x hk := by omega
theorem Bfs.len {s : Lts} {L : List Int} {i : Nat} (h : Bfs s L i) : L.length <= s.st.toNat :=
 nodup_len h.nd (fun x hx => by have := h.rng x hx; omega)
theorem Bfs.push {s : Lts} (hr : s.Right) {L : List Int} {i : Nat} {x : Int} {y : S} (h : Bfs s L i) (hx : L[i]? = some x) (hy : y ∈ s.outs x) (hn : y.2 ∉ L) : Bfs s (L ++ [y.2]) i where
 nd := by rw [List.nodup_append]; exact ⟨h.nd, by simp, by intro a ha b hb; simp at hb; subst hb; intro e; subst e; exact hn ha⟩
 rng z hz := by
   rcases List.mem_append.1 hz with h1 | h1
   · exact h.rng z h1
   · simp at h1; subst h1
     have := offB_false.1 (hr.edges _ (mem_outs.1 hy))
     exact ⟨this.2.2.2.2.1, this.2.2.2.2.2⟩
 rch z hz := by
   rcases List.mem_append.1 hz with h1 | h1
   · exact h.rch z h1
   · simp at h1; subst h1; exact (h.rch x (List.mem_of_getElem? hx)).step (mem_outs.1 hy)
 s0 := List.mem_append_left _ h.s0
 done k z hk hz w hw := by
   have hlt : k < L.length := by have := (List.getElem?_eq_some_iff.1 hx).1; omega
   rw [List.getElem?_append_left hlt] at hz
   exact List.mem_append_left _ (h.done k z hk hz w hw)
theorem Bfs.next {s : Lts} {L : List Int} {i : Nat} {x : Int} (h : Bfs s L i) (hx : L[i]? = some x) (ha : ∀ y ∈ s.outs x, y.2 ∈ L) : Bfs s L (i + 1) where
 nd := h.nd
 rng := h.rng
 rch := h.rch
 s0 := h.s0
 done k z hk hz := by
   by_cases hki : k = i
   · subst hki; rw [hx] at hz; simp at hz; subst hz; exact ha
   · exact h.done k z (by omega) hz
theorem Bfs.all {s : Lts} {L : List Int} (h : Bfs s L L.length) (x : Int) : x ∈ L ↔ Rch s x := by
 refine ⟨h.rch x, fun hr => hr (· ∈ L) h.s0 ?_⟩
 intro a l b ha he
 obtain ⟨k, hk, rfl⟩ := List.getElem_of_mem ha
 exact h.done k _ hk (List.getElem?_eq_getElem hk) (l, b) (mem_outs.2 he)
open Classical in
noncomputable def reachL (s : Lts) : List Int := ((List.range s.st.toNat).map Int.ofNat).filter (fun x => decide (Rch s x))
theorem Rch.rng {s : Lts} (h : s.Right) (h0 : s.st ≠ 0) {x : Int} (hx : Rch s x) : 0 <= x /\ x < s.st := by
 have := h.st0
 refine hx (fun x => 0 <= x /\ x < s.st) (by omega) ?_
 intro a l b _ he
 have := offB_false.1 (h.edges _ he)
 exact ⟨this.2.2.2.2.1, this.2.2.2.2.2⟩
theorem mem_reachL {s : Lts} (h : s.Right) (h0 : s.st ≠ 0) {x : Int} : x ∈ reachL s ↔ Rch s x := by
 unfold reachL
 simp only [List.mem_filter, List.mem_map, List.mem_range, decide_eq_true_eq]
 constructor
 · rintro ⟨_, h⟩; exact h
 · intro hx
   have := hx.rng h h0
   exact ⟨⟨x.toNat, by omega, by simp; omega⟩, hx⟩
end Pl
end Go.Proofs.YtebmlhaoeldhkaaGreatDoor
namespace Go.Proofs.YtebmlhaoeldhkaaGreatDoor
namespace Pl
def addN (s : List Int) (x : Int) : List Int := if x ∈ s then s else s ++ [x]
def dist (l : List Int) : List Int := l.foldl addN []
theorem dist_snoc (l : List Int) (x : Int) : dist (l ++ [x]) = addN (dist l) x := by simp [dist, List.foldl_append]
theorem mem_addN {s : List Int} {x y : Int} : y ∈ addN s x ↔ y ∈ s ∨ y = x := by
 unfold addN; split
 · constructor
   · exact Or.inl
   · rintro (h | rfl)
     · exact h
     · assumption
 · simp
theorem rev_ind {P : List Int -> Prop} (h0 : P []) (h1 : ∀ l x, P l -> P (l ++ [x])) (l : List Int) : P l := by
 have : ∀ m : List Int, P m.reverse := by
   intro m
   induction m with
   | nil => exact h0
   | cons x m ih => rw [List.reverse_cons]; exact h1 _ _ ih
 simpa using this l.reverse
theorem mem_dist {x : Int} (l : List Int) : x ∈ dist l ↔ x ∈ l := by
 induction l using rev_ind with
 | h0 => simp [dist]
 | h1 l y ih => rw [dist_snoc, mem_addN, ih]; simp
theorem nodup_dist (l : List Int) : (dist l).Nodup := by
 induction l using rev_ind with
 | h0 => simp [dist]
 | h1 l y ih =>
   rw [dist_snoc]; unfold addN; split
   · exact ih
   · rw [List.nodup_append]; exact ⟨ih, by simp, by intro a ha b hb e; simp at hb; subst hb; subst e; contradiction⟩
theorem dist_len (l : List Int) : (dist l).length <= l.length := by
 induction l using rev_ind with
 | h0 => simp [dist]
 | h1 l y ih => rw [dist_snoc]; unfold addN; split <;> simp <;> omega
theorem idx_addN {s : List Int} {x y : Int} (h : y ∈ s) : (addN s x).idxOf y = s.idxOf y := by
 unfold addN; split
 · rfl
 · rw [List.idxOf_append]; simp [h]
theorem idx_new {s : List Int} {x : Int} (h : x ∉ s) : (addN s x).idxOf x = s.length := by
 unfold addN; rw [if_neg h, List.idxOf_append]; simp [h]
theorem idx_append (l m : List Int) {y : Int} (h : y ∈ l) : (dist (l ++ m)).idxOf y = (dist l).idxOf y := by
 induction m using rev_ind with
 | h0 => simp
 | h1 m x ih => rw [<- List.append_assoc, dist_snoc, idx_addN ((mem_dist _).2 (by simp [h])), ih]
def canon (l : List Int) : List Int := l.map (fun x => ((dist l).idxOf x : Int))
theorem canon_len (l : List Int) : (canon l).length = l.length := by simp [canon]
theorem canon_get (l : List Int) (i : Nat) : (canon l)[i]? = l[i]?.map (fun x => ((dist l).idxOf x : Int)) := by simp [canon]
theorem idx_inj {l : List Int} {x y : Int} (hx : x ∈ l) (hy : y ∈ l) (h : l.idxOf x = l.idxOf y) : x = y := by
 have h1 := List.getElem_idxOf (List.idxOf_lt_length_of_mem hx)
 have h2 := List.getElem_idxOf (List.idxOf_lt_length_of_mem hy)
 rw [<- h1, <- h2]
 congr 1
theorem addN_map {f : Int -> Int} {s : List Int} {x : Int} (hf : ∀ y ∈ s, f y = f x -> y = x) : addN (s.map f) (f x) = (addN s x).map f := by
 unfold addN
 by_cases h : x ∈ s
 · rw [if_pos h, if_pos (List.mem_map_of_mem h)]
 · rw [if_neg h, if_neg]
   · simp
   · intro hm; obtain ⟨y, hy, e⟩ := List.mem_map.1 hm; exact h (hf y hy e ▸ hy)
theorem dist_map {f : Int -> Int} (l : List Int) (hf : ∀ x ∈ l, ∀ y ∈ l, f x = f y -> x = y) : dist (l.map f) = (dist l).map f := by
 induction l using rev_ind with
 | h0 => simp [dist]
 | h1 l y ih =>
   rw [List.map_append, List.map_cons, List.map_nil, dist_snoc, ih (fun a ha b hb => hf a (by simp [ha]) b (by simp [hb])), dist_snoc]
   exact addN_map (fun z hz => hf z (by simp [(mem_dist l).1 hz]) y (by simp))
theorem idx_map {f : Int -> Int} {x : Int} : ∀ l : List Int, (∀ y ∈ l, f y = f x -> y = x) -> (l.map f).idxOf (f x) = l.idxOf x
 | [], _ => rfl
 | y :: l, h => by
   have ih := idx_map l (fun z hz => h z (by simp [hz]))
   rw [List.map_cons, List.idxOf_cons, List.idxOf_cons]
   by_cases e : y = x
   · subst e; simp
   · have : ¬ f y = f x := fun e2 => e (h y (by simp) e2)
     simp only [beq_iff_eq, e, this, if_false, ih, cond_eq_ite]
theorem canon_map {f : Int -> Int} {l : List Int} (hf : ∀ x ∈ l, ∀ y ∈ l, f x = f y -> x = y) : canon (l.map f) = canon l := by
 unfold canon
 rw [List.map_map, dist_map l hf]
 apply List.map_congr_left
 intro x hx
 simp only [Function.comp]
 rw [idx_map _ (fun y hy => hf y ((mem_dist l).1 hy) x hx)]
theorem canon_canon (l : List Int) : canon (canon l) = canon l := by
 conv => lhs; arg 1; unfold canon
 exact canon_map (fun x hx y hy h => idx_inj ((mem_dist l).2 hx) ((mem_dist l).2 hy) (Int.ofNat.inj h))
theorem canon_eq_iff {l : List Int} {i k : Nat} {x y : Int} (hx : l[i]? = some x) (hy : l[k]? = some y) : ((dist l).idxOf x : Int) = ((dist l).idxOf y : Int) ↔ x = y := by
 constructor
 · intro h; exact idx_inj ((mem_dist l).2 (List.mem_of_getElem? hx)) ((mem_dist l).2 (List.mem_of_getElem? hy)) (Int.ofNat.inj h)
 · rintro rfl; rfl
def SameT (a b : List Int) : Prop := ∀ (i k : Nat) (x y x' y' : Int), k < i -> a[i]? = some x -> a[k]? = some y -> b[i]? = some x' -> b[k]? = some y' -> (x = y ↔ x' = y')
theorem sameT_canon {a b : List Int} (hl : a.length = b.length) : canon a = canon b ↔ SameT a b := by
 constructor
 · intro h i k x y x' y' _ hx hy hx' hy'
   have e1 := congrArg (fun l => l[i]?) h
   have e2 := congrArg (fun l => l[k]?) h
   simp only [canon_get, hx, hy, hx', hy', Option.map_some, Option.some.injEq] at e1 e2
   rw [<- canon_eq_iff hx hy, <- canon_eq_iff hx' hy', e1, e2]
 · intro h
   have hs : ∀ (i k : Nat) (x y x' y' : Int), a[i]? = some x -> a[k]? = some y -> b[i]? = some x' -> b[k]? = some y' -> (x = y ↔ x' = y') := by
     intro i k x y x' y' hx hy hx' hy'
     rcases Nat.lt_trichotomy k i with hlt | rfl | hlt
     · exact h i k x y x' y' hlt hx hy hx' hy'
     · rw [hx] at hy; rw [hx'] at hy'; simp at hy hy'; simp [hy, hy']
     · have := h k i y x y' x' hlt hy hx hy' hx'
       rw [eq_comm, this, eq_comm]
   have hb : b = a.map (fun x => b.getD (a.idxOf x) 0) := by
     apply List.ext_getElem?
     intro i
     by_cases hi : i < a.length
     · have hx := List.getElem?_eq_getElem hi
       have hx' := List.getElem?_eq_getElem (show i < b.length by omega)
       have hm : a[i] ∈ a := List.getElem_mem hi
       have hlt := List.idxOf_lt_length_of_mem hm
       have hj : a[a.idxOf a[i]]? = some a[i] := by rw [List.getElem?_eq_getElem hlt, List.getElem_idxOf hlt]
       have hj' := List.getElem?_eq_getElem (show a.idxOf a[i] < b.length by omega)
       rw [List.getElem?_map, hx, hx']
       simp only [Option.map_some, Option.some.injEq]
       rw [List.getD_eq_getElem?_getD, hj']
       simpa using (hs i _ _ _ _ _ hx hj hx' hj').1 rfl
     · rw [List.getElem?_eq_none (by omega), List.getElem?_eq_none (by simp; omega)]
   rw [hb]
   refine (canon_map ?_).symm
   intro x hx y hy he
   obtain ⟨i, hi, rfl⟩ := List.getElem_of_mem hx
   obtain ⟨k, hk, rfl⟩ := List.getElem_of_mem hy
   have hm1 := List.idxOf_lt_length_of_mem hx
   have hm2 := List.idxOf_lt_length_of_mem hy
   have hj1 : a[a.idxOf a[i]]? = some a[i] := by rw [List.getElem?_eq_getElem hm1, List.getElem_idxOf hm1]
   have hj2 : a[a.idxOf a[k]]? = some a[k] := by rw [List.getElem?_eq_getElem hm2, List.getElem_idxOf hm2]
   rw [List.getD_eq_getElem?_getD, List.getD_eq_getElem?_getD, List.getElem?_eq_getElem (show a.idxOf a[i] < b.length by omega), List.getElem?_eq_getElem (show a.idxOf a[k] < b.length by omega)] at he
   exact (hs _ _ _ _ _ _ hj1 hj2 (List.getElem?_eq_getElem (by omega)) (List.getElem?_eq_getElem (by omega))).2 (by simpa using he)
end Pl
end Go.Proofs.YtebmlhaoeldhkaaGreatDoor
namespace Go.Proofs.YtebmlhaoeldhkaaGreatDoor
namespace Pl
def cnt (L : List Int) (k : Int) : Nat := (L.filter (fun x => decide (x < k))).length
theorem idx_get : ∀ {L : List Int}, L.Nodup -> ∀ {i : Nat} {x : Int}, L[i]? = some x -> L.idxOf x = i
 | [], _, i, x, h => by simp at h
 | y :: L, hn, 0, x, h => by simp at h; subst h; simp
 | y :: L, hn, i + 1, x, h => by
   have hy := List.nodup_cons.1 hn
   have hx : L[i]? = some x := by simpa using h
   have hb : (y == x) = false := by
     simp; rintro rfl; exact hy.1 (List.mem_of_getElem? hx)
   rw [List.idxOf_cons, hb, idx_get hy.2 hx]; rfl
noncomputable def toOf (s : Lts) (x : Int) : Int := if x ∈ reachL s then ((reachL s).idxOf x : Int) else -1
noncomputable def toL (s : Lts) : List Int := (List.range s.st.toNat).map (fun (i : Nat) => toOf s (i : Int))
noncomputable def cutE (s : Lts) : List E := (s.es.filter (fun x => decide (0 <= toOf s x.1))).map (fun x => (toOf s x.1, x.2.1, toOf s x.2.2))
noncomputable def cut (s : Lts) : Lts := ⟨(reachL s).length, s.lb, if (reachL s).length = 0 then 0 else toOf s s.s0, cutE s⟩
end Pl
end Go.Proofs.YtebmlhaoeldhkaaGreatDoor
namespace Go.Proofs.YtebmlhaoeldhkaaGreatDoor
namespace Pl
structure Cyc (s : Lts) (n : Nat) (f : Nat -> Int) : Prop where
 same : ∀ x y, x < n -> y < n -> (f x = f y ↔ TR s x y /\ TR s y x)
 down : ∀ x y, tau s x y -> f y <= f x
theorem TI.done {s : Lts} {n : Nat} {t : TS} {nx : Nat -> Nat} (h : TI s n t [] nx) : t.opn = [] := by
 rcases List.eq_nil_or_concat t.opn with h1 | ⟨l, x, h1⟩
 · exact h1
 · obtain ⟨g, hg, _⟩ := h.back x (by rw [h1]; simp)
   simp at hg
theorem TI.cyc {s : Lts} {n : Nat} {t : TS} {nx : Nat -> Nat} (h : TI s n t [] nx) (hr : s.Right) (hn : s.st = (n : Int)) (hall : ∀ x, x < n -> t.num x ≠ 0) : Cyc s n t.cls := by
 have ho := h.done
 have hc : ∀ x, x < n -> t.clo x := fun x hx => ⟨hall x hx, by rw [ho]; simp⟩
 exact ⟨fun x y hx hy => h.scc x y hx hy (hc x hx) (hc y hy), fun x y hxy => (h.clos x (tau_lt hr hn hxy).1 (hc x (tau_lt hr hn hxy).1) y hxy).2⟩
def fl (n : Nat) (f : Nat -> Int) : List Int := (List.range n).map f
theorem fl_len (n : Nat) (f : Nat -> Int) : (fl n f).length = n := by simp [fl]
theorem fl_get {n : Nat} (f : Nat -> Int) {i : Nat} (h : i < n) : (fl n f)[i]? = some (f i) := by simp [fl, h]
theorem Cyc.unique {s : Lts} {n : Nat} {f g : Nat -> Int} (hf : Cyc s n f) (hg : Cyc s n g) : canon (fl n f) = canon (fl n g) := by
 rw [sameT_canon (by rw [fl_len, fl_len])]
 intro i k x y x' y' hki hx hy hx' hy'
 have hi : i < n := by have := (List.getElem?_eq_some_iff.1 hx).1; rwa [fl_len] at this
 have hk : k < n := by omega
 rw [fl_get f hi] at hx; rw [fl_get f hk] at hy; rw [fl_get g hi] at hx'; rw [fl_get g hk] at hy'
 cases hx; cases hy; cases hx'; cases hy'
 rw [hf.same i k hi hk, hg.same i k hi hk]
def clf (n : Nat) (f : Nat -> Int) (x : Nat) : Int := ((dist (fl n f)).idxOf (f x) : Int)
theorem canon_fl (n : Nat) (f : Nat -> Int) : canon (fl n f) = fl n (clf n f) := by
 unfold canon fl clf
 rw [List.map_map]; rfl
theorem clf_eq {n : Nat} {f : Nat -> Int} {x y : Nat} (hx : x < n) (hy : y < n) : clf n f x = clf n f y ↔ f x = f y :=
 canon_eq_iff (fl_get f hx) (fl_get f hy)
theorem clf_rng {n : Nat} {f : Nat -> Int} {x : Nat} (hx : x < n) : 0 <= clf n f x /\ clf n f x < (dist (fl n f)).length := by
 have : f x ∈ dist (fl n f) := (mem_dist _).2 (List.mem_of_getElem? (fl_get f hx))
 have := List.idxOf_lt_length_of_mem this
 unfold clf; omega
theorem dist_ofNat : ∀ m : Nat, dist ((List.range m).map Int.ofNat) = (List.range m).map Int.ofNat
 | 0 => rfl
 | m + 1 => by
   rw [List.range_succ, List.map_append, List.map_cons, List.map_nil, dist_snoc, dist_ofNat m]
   unfold addN
   rw [if_neg (by simp; omega)]
theorem idx_ofNat {m i : Nat} (h : i < m) : ((List.range m).map Int.ofNat).idxOf (i : Int) = i := by
 have hn : ((List.range m).map Int.ofNat).Nodup := by rw [<- dist_ofNat]; exact nodup_dist _
 have hg : ((List.range m).map Int.ofNat)[i]? = some (i : Int) := by simp [h]
 exact idx_get hn hg
theorem canon_ofNat (m : Nat) : canon ((List.range m).map Int.ofNat) = (List.range m).map Int.ofNat := by
 unfold canon
 rw [dist_ofNat]
 apply List.ext_getElem?
 intro i
 by_cases h : i < m
 · have hg : ((List.range m).map Int.ofNat)[i]? = some (i : Int) := by simp [h]
   rw [List.getElem?_map, hg]
   show some ((((List.range m).map Int.ofNat).idxOf (i : Int) : Nat) : Int) = _
   rw [idx_ofNat h]
 · rw [List.getElem?_eq_none (by simp; omega), List.getElem?_eq_none (by simp; omega)]
theorem canon_inj {m : Nat} {f : Nat -> Int} (h : ∀ x y, x < m -> y < m -> f x = f y -> x = y) : canon (fl m f) = (List.range m).map Int.ofNat := by
 have h1 : fl m f = ((List.range m).map Int.ofNat).map (fun z => f z.toNat) := by
   unfold fl; rw [List.map_map]; rfl
 rw [h1, canon_map, canon_ofNat]
 intro x hx y hy hxy
 obtain ⟨i, hi, rfl⟩ := List.mem_map.1 hx
 obtain ⟨j, hj, rfl⟩ := List.mem_map.1 hy
 rw [List.mem_range] at hi hj
 have := h i j hi hj (by simpa using hxy)
 rw [this]
theorem canon_dist (l : List Int) : dist (canon l) = (List.range (dist l).length).map Int.ofNat := by
 have hinj : ∀ x ∈ l, ∀ y ∈ l, ((dist l).idxOf x : Int) = ((dist l).idxOf y : Int) -> x = y := by
   intro x hx y hy he
   exact idx_inj ((mem_dist l).2 hx) ((mem_dist l).2 hy) (by omega)
 unfold canon
 rw [dist_map (f := fun x => ((dist l).idxOf x : Int)) l hinj]
 apply List.ext_getElem?
 intro i
 by_cases h : i < (dist l).length
 · have hg : (dist l)[i]? = some (dist l)[i] := List.getElem?_eq_getElem h
   rw [List.getElem?_map, hg]
   simp [idx_get (nodup_dist l) hg, h]
 · rw [List.getElem?_eq_none (by simp; omega), List.getElem?_eq_none (by simp; omega)]
theorem clf_onto {n : Nat} {f : Nat -> Int} {k : Nat} (h : k < (dist (fl n f)).length) : ∃ x, x < n /\ clf n f x = (k : Int) := by
 have hg : (dist (fl n f))[k]? = some (dist (fl n f))[k] := List.getElem?_eq_getElem h
 have hm : (dist (fl n f))[k] ∈ dist (fl n f) := List.getElem_mem h
 have hm2 := (mem_dist _).1 hm
 obtain ⟨x, hx, he⟩ := List.mem_map.1 (show (dist (fl n f))[k] ∈ (List.range n).map f from hm2)
 rw [List.mem_range] at hx
 refine ⟨x, hx, ?_⟩
 unfold clf
 rw [he]
 rw [idx_get (nodup_dist _) hg]
end Pl
end Go.Proofs.YtebmlhaoeldhkaaGreatDoor

/-
  semblanceref7.Normal of a right system.
  semblancebook.Book: the lists of a book as rows of memory, the marks; no function is walked here.
-/
import Derived.Test.YtkmljelgogcobaaGreatDoorRefSort2
import Derived.Test.YtkmljelgogcobaaGreatDoorTauI
import Derived.Test.YtkmljelgogcobaaGreatDoorGEnds
namespace Go.Proofs.YtkmljelgogcobaaGreatDoor
open Go.RowKit Pl

set_option maxRecDepth 100000 in
theorem refNormal_any {s : Lts} {a : Option Addr} {b off c : Nat} {w : World} (hS : SlAt encE 3 w a b off s.es) (hc : s.es.length ≤ c) (hcm : c ≤ maxLen) (hl : s.es.length ≤ 20000) :
    Calls Tryz.prog 39 #[.agg #[.int .i64 s.st, .int .i64 s.lb, .int .i64 s.s0, .slice a s.es.length c]] w fun e w' => ∃ a1 c1, e = .returned (.agg #[.int .i64 s.st, .int .i64 s.lb, .int .i64 s.s0, .slice a1 s.norm.es.length c1]) ∧ w'.ownsRow w.heap.size 79 3 (.slice a1 s.norm.es.length c1) s.norm.es.length (s.norm.es.flatMap encE) ∧ Below w.heap.size w w' := by
  obtain ⟨W, hW⟩ : ∃ W, W = (w.alloc (.cells #[.int .i64 s.st, .int .i64 s.lb, .int .i64 s.s0, .slice a s.es.length c] 24)).alloc (.cells #[.int .i64 0, .int .i64 0, .int .i64 0, .slice none 0 0] 24) := ⟨_, rfl⟩
  have hB0 : Below w.heap.size w W := by rw [hW]; exact ((Below.refl _ _).alloc (Nat.le_refl _) _).alloc (by simp) _
  have h1 : W.heap[w.heap.size]? = some (.cells #[.int .i64 s.st, .int .i64 s.lb, .int .i64 s.s0, .slice a s.es.length c] 24 (0, 0)) := by
    rw [hW, Below.heap_alloc _ _ _ (by simp)]; exact heap_alloc_new w _
  have h2 : W.heap[w.heap.size + 1]? = some (.cells #[.int .i64 0, .int .i64 0, .int .i64 0, .slice none 0 0] 24 (0, 0)) := by
    have h := heap_alloc_new (w.alloc (.cells #[.int .i64 s.st, .int .i64 s.lb, .int .i64 s.s0, .slice a s.es.length c] 24)) (.cells #[.int .i64 0, .int .i64 0, .int .i64 0, .slice none 0 0] 24)
    rw [show (w.alloc (.cells #[.int .i64 s.st, .int .i64 s.lb, .int .i64 s.s0, .slice a s.es.length c] 24)).heap.size = w.heap.size + 1 by simp] at h
    rw [hW]; exact h
  have hsW : w.heap.size + 2 = W.heap.size := by rw [hW]; simp
  have HSO := Lib.hid (refSorted_any _ (Nat.le_refl _) (hS.below hB0 (Nat.le_refl _)) hc hcm hl)
  obtain ⟨m, hm⟩ : ∃ m, m = s.es.length := ⟨_, rfl⟩
  rw [← hm] at hW h1 HSO ⊢
  have HW := Lib.hid hW; have HB0 := Lib.hid hB0; have H1 := Lib.hid h1; have H2 := Lib.hid h2; have HSZ := Lib.hid hsW
  clear hW hB0 h1 h2 hm hS hsW hc hcm hl
  go_enter Tryz.func39, Tryz.ntmps39
  go_wp2_with fail
  rw [← HW.out]
  refine HSO.out.mono ?_
  rintro e w1 ⟨a1, c1, rfl, hown, hB1⟩
  have hx1 := (hB1.block _ (Array.getElem?_eq_some_iff.1 H1.out).1).trans H1.out
  have hx2 := (hB1.block _ (Array.getElem?_eq_some_iff.1 H2.out).1).trans H2.out
  have HX1 := Lib.hid hx1; have HX2 := Lib.hid hx2
  obtain ⟨x0, x1, x2, x3, x4⟩ := sysC hx1
  have xf : w1.frozen? ⟨w.heap.size, 3, none⟩ = false := by simp [World.frozen?, HX1.out]
  obtain ⟨⟨y0, y1, y2, y3, y4⟩, z0, z1, z2, z3⟩ := sysZ hx2
  have HO := Lib.hid hown
  have HB2 := Lib.hid (HB0.out.trans (hB1.mono HB0.out.size))
  clear hown hB1 hx1 hx2 HSO HB0 H1 H2
  go_wp2_with fail
  have ho := HO.out
  have hne : ∀ g, (Value.slice a1 (nf ltE s.es).length c1).ownBlock = some g → g ≠ w.heap.size ∧ g ≠ w.heap.size + 1 := fun g hg => by have := (ho.lt g hg).1; have := HSZ.out; omega
  refine bodyPost_ret (v := .agg #[.int .i64 s.st, .int .i64 s.lb, .int .i64 s.s0, .slice a1 (nf ltE s.es).length c1]) (by simp [results, Tryz.results39, go_sem, y0, y1, y2, y3]) rfl ⟨a1, c1, rfl, ?_, ?_⟩
  · refine own_blockR (own_mono ho (by have := HSZ.out; omega)) (fun g hg => ?_)
    have hn := hne g hg
    rw [Below.heap_setCell _ _ _ _ hn.2, Below.heap_setCell _ _ _ _ hn.2, Below.heap_setCell _ _ _ _ hn.2, Below.heap_setCell _ _ _ _ hn.2, Below.heap_setCell _ _ _ _ hn.1]
  · exact ((((HB2.out.setCell (p := ⟨w.heap.size, 3, none⟩) (by simp) _).setCell (p := ⟨w.heap.size + 1, 0, none⟩) (by simp) _).setCell (p := ⟨w.heap.size + 1, 1, none⟩) (by simp) _).setCell (p := ⟨w.heap.size + 1, 2, none⟩) (by simp) _).setCell (p := ⟨w.heap.size + 1, 3, none⟩) (by simp) _
end Go.Proofs.YtkmljelgogcobaaGreatDoor

namespace Go.Proofs.YtkmljelgogcobaaGreatDoor
open Go.RowKit Pl

section
variable {α : Type} {f : Nat → Nat → α} {i k n m : Nat}
/-- The marks of list i from a place on, so many. -/
def mkG (f : Nat → Nat → α) (i k n : Nat) : List α := (List.range n).map (fun j => f i (k + j))
theorem mkG_len : (mkG f i k n).length = n := by simp [mkG]
theorem mkG_get {j : Nat} (h : j < n) : (mkG f i k n)[j]? = some (f i (k + j)) := by simp [mkG, h]
theorem mkG_app : mkG f i k n ++ mkG f i (k + n) m = mkG f i k (n + m) := by
  apply List.ext_getElem?
  intro j
  by_cases h : j < n
  · rw [List.getElem?_append_left (by rw [mkG_len]; exact h), mkG_get h, mkG_get (by omega)]
  · rw [List.getElem?_append_right (by rw [mkG_len]; omega), mkG_len]
    by_cases h2 : j < n + m
    · rw [mkG_get (by omega), mkG_get h2, show k + n + (j - n) = k + j by omega]
    · rw [List.getElem?_eq_none (by rw [mkG_len]; omega), List.getElem?_eq_none (by rw [mkG_len]; omega)]
theorem mkG_app0 : mkG f i 0 n ++ mkG f i n m = mkG f i 0 (n + m) := by
  have := mkG_app (f := f) (i := i) (k := 0) (n := n) (m := m)
  rwa [Nat.zero_add] at this
theorem mkG_one : mkG f i k 1 = [f i k] := by simp [mkG]
theorem mkG_snoc : mkG f i k n ++ [f i (k + n)] = mkG f i k (n + 1) := by rw [← mkG_one, mkG_app]
theorem mkG_zero : mkG f i k 0 = [] := rfl
theorem mkG_pre {enc : α → List Value} {z : Nat} (hz : ∀ x, (enc x).length = z) (h : n ≤ m) : ((mkG f i k m).flatMap enc).take (n * z) = (mkG f i k n).flatMap enc := by
  rw [show m = n + (m - n) by omega, ← mkG_app, List.flatMap_append, List.take_append_of_le_length (by rw [length_flatMap hz, mkG_len]; exact Nat.le_refl _), List.take_of_length_le (by rw [length_flatMap hz, mkG_len]; exact Nat.le_refl _)]
end
def mI (i k : Nat) : Int := -1000000 * (i : Int) - (k : Int) - 7
def mB (i k : Nat) : Bool := decide ((i + k) % 2 = 0)
theorem mB_int (i k j : Nat) : mB i (k + j) = (((i : Int) + ((k : Int) + (j : Int))) % 2 == 0) := by
  unfold mB
  rw [Bool.eq_iff_iff]
  simp only [decide_eq_true_eq, beq_iff_eq]
  omega
def mS (i k : Nat) : S := (-1 - (i : Int), (k : Int))
def mE (i k : Nat) : E := (-1 - (i : Int), (k : Int), 7)

/-- The lists of one kind: the rows of slices kept and copied, and all the rows that they lead to. -/
structure Kd where
  T : TypeId
  o : Value
  p : Value
  vs : List Value
  us : List Value
  G : List Rw
def Kd.rs (K : Kd) : List Rw := ⟨K.T, 1, K.o, K.vs.length, K.vs⟩ :: ⟨K.T, 1, K.p, K.us.length, K.us⟩ :: K.G
def bkCells (kds : List Kd) : List Value := kds.flatMap (fun K => [K.o, K.p])
def bkBox (bb : Nat) (kds : List Kd) : Rw := ⟨44, 22, .slice (some ⟨bb, 0, none⟩) 1 1, 1, bkCells kds⟩
def bkRows (bb : Nat) (kds : List Kd) (D : List Rw) : List Rw := bkBox bb kds :: (kds.flatMap Kd.rs ++ D)
def bkX (kds : List Kd) (j : Nat) (D : List Rw) : List Rw := (kds.take j ++ kds.drop (j + 1)).flatMap Kd.rs ++ D

section
variable {kds : List Kd} {K K' : Kd} {j bb : Nat} {D : List Rw}
theorem bk_cut (h : kds[j]? = some K) : kds = kds.take j ++ K :: kds.drop (j + 1) := by
  obtain ⟨hl, rfl⟩ := List.getElem?_eq_some_iff.1 h
  rw [List.getElem_cons_drop, List.take_append_drop]
theorem bk_set (h : kds[j]? = some K) : kds.set j K' = kds.take j ++ K' :: kds.drop (j + 1) := by
  obtain ⟨hl, _⟩ := List.getElem?_eq_some_iff.1 h
  exact List.set_eq_take_append_cons_drop .. |>.trans (by rw [if_pos hl])
theorem bkX_set : bkX (kds.set j K') j D = bkX kds j D := by
  unfold bkX
  rw [List.take_set_of_le (Nat.le_refl _), List.drop_set_of_lt (by omega)]
theorem bkFlat_perm (h : kds[j]? = some K) : (kds.flatMap Kd.rs ++ D).Perm (K.rs ++ bkX kds j D) := by
  unfold bkX
  conv => lhs; rw [bk_cut h]
  rw [List.flatMap_append, List.flatMap_append, List.flatMap_cons, List.append_assoc, List.append_assoc, List.append_assoc]
  refine (List.perm_append_comm_assoc _ _ _).trans ?_
  exact List.Perm.refl _
theorem bkRows_perm (h : kds[j]? = some K) : (bkRows bb kds D).Perm (bkBox bb kds :: (K.rs ++ bkX kds j D)) := (bkFlat_perm h).cons _
theorem bkRows_perm' (h : kds[j]? = some K) : (bkRows bb (kds.set j K') D).Perm (bkBox bb (kds.set j K') :: (K'.rs ++ bkX kds j D)) := by
  have hl := (List.getElem?_eq_some_iff.1 h).1
  have := bkRows_perm (bb := bb) (D := D) (K := K') (kds := kds.set j K') (j := j) (by simp [hl])
  rw [bkX_set] at this
  exact this
theorem bkCells_at (h : kds[j]? = some K) : (bkCells kds)[j * 2]? = some K.o ∧ (bkCells kds)[j * 2 + 1]? = some K.p :=
  ⟨getElem?_flatMap (enc := fun K : Kd => [K.o, K.p]) (k := 2) (fun _ => rfl) kds j K h 0 _ rfl, getElem?_flatMap (enc := fun K : Kd => [K.o, K.p]) (k := 2) (fun _ => rfl) kds j K h 1 _ rfl⟩
theorem bkCells_len : (bkCells kds).length = kds.length * 2 := length_flatMap (enc := fun K : Kd => [K.o, K.p]) (k := 2) (fun _ => rfl) kds
theorem bkCells_set (h : kds[j]? = some K) : bkCells (kds.set j K') = ((bkCells kds).set (j * 2) K'.o).set (j * 2 + 1) K'.p := by
  have hl := (List.getElem?_eq_some_iff.1 h).1
  apply List.ext_getElem?
  intro q
  by_cases hq : q < kds.length * 2
  · obtain ⟨Y, hY⟩ := getElem?_of_lt (xs := kds) (i := q / 2) (by omega)
    have hq2 : q = q / 2 * 2 ∨ q = q / 2 * 2 + 1 := by omega
    have e1 := bkCells_at hY
    rw [List.getElem?_set, List.getElem?_set]
    by_cases e : j = q / 2
    · subst e
      have e2 := bkCells_at (kds := kds.set (q / 2) K') (j := q / 2) (K := K') (by simp [hl])
      rcases hq2 with e3 | e3
      · rw [show (bkCells (kds.set (q / 2) K'))[q]? = some K'.o by rw [e3]; simpa using e2.1]
        rw [if_neg (by omega), if_pos (by omega)]
        simp [bkCells_len]; omega
      · rw [show (bkCells (kds.set (q / 2) K'))[q]? = some K'.p by rw [e3]; have := e2.2; rw [show (q / 2 * 2 + 1) / 2 = q / 2 by omega]; exact this]
        rw [if_pos (by omega)]
        simp [bkCells_len]; omega
    · have e2 := bkCells_at (kds := kds.set j K') (j := q / 2) (K := Y) (by rw [List.getElem?_set_ne e]; exact hY)
      rw [if_neg (by omega), if_neg (by omega)]
      rcases hq2 with e3 | e3
      · rw [e3, e1.1, e2.1]
      · rw [e3, e1.2, e2.2]
  · rw [List.getElem?_eq_none (by rw [bkCells_len]; simp; omega), List.getElem?_eq_none (by simp [bkCells_len]; omega)]
theorem bkBox_set (h : kds[j]? = some K) (ho : K'.o = K.o) (hp : K'.p = K.p) : bkBox bb (kds.set j K') = bkBox bb kds := by
  unfold bkBox
  rw [bkCells_set h, ho, hp]
  obtain ⟨h1, h2⟩ := bkCells_at h
  congr 1
  have set_self : ∀ (l : List Value) (i : Nat) (x : Value), l[i]? = some x → l.set i x = l := fun l i x h => by
    apply List.ext_getElem?
    intro q
    rw [List.getElem?_set]
    by_cases e : i = q
    · subst e; rw [if_pos rfl, if_pos (List.getElem?_eq_some_iff.1 h).1, h]
    · rw [if_neg e]
  rw [set_self _ _ _ h1, set_self _ _ _ h2]
end

/-- A list of a kind of elements, in a row of its own. -/
structure Fl {α : Type} (T : TypeId) (k : Nat) (enc : α → List Value) (r : Rw) : Prop where
  hT : r.T = T
  hk : r.k = k
  hn : r.n ≤ 2000000
  ex : ∃ ys : List α, r.n = ys.length ∧ r.xs = ys.flatMap enc

/-- v reads as the first n elements (cells cs) of one of the rows G. -/
def Pre (G : List Rw) (k : Nat) (v : Value) (n : Nat) (cs : List Value) : Prop :=
  ∃ r ∈ G, r.k = k ∧ ∃ a c c', v = .slice a n c ∧ r.v = .slice a r.n c' ∧ n ≤ r.n ∧ r.xs.take (n * k) = cs
theorem Pre.mono {G G' : List Rw} {k n : Nat} {v : Value} {cs : List Value} (h : Pre G k v n cs) (hs : ∀ r ∈ G, r ∈ G') : Pre G' k v n cs := by
  obtain ⟨r, hr, x⟩ := h
  exact ⟨r, hs r hr, x⟩

section
variable {w0 w : World} {L : List Rw}
theorem Rws.shape (h : Rws w0 w L) {r : Rw} (hr : r ∈ L) : ∃ a c, r.v = .slice a r.n c ∧ (0 < r.n → ∃ g, a = some ⟨g, 0, none⟩) ∧ (a = none ∨ ∃ g, a = some ⟨g, 0, none⟩) ∧ r.n ≤ c ∧ c ≤ maxLen ∧ r.xs.length = r.n * r.k := by
  have ho := h.own r hr
  rcases ho.2 with ⟨h1, h2⟩ | ⟨g, c, cur, hv, _, _, hnc, hcm, _⟩
  · exact ⟨none, 0, by rw [h1, h2], fun h => by omega, .inl rfl, by omega, by unfold maxLen; omega, ho.1⟩
  · exact ⟨some ⟨g, 0, none⟩, c, hv, fun _ => ⟨g, rfl⟩, .inr ⟨g, rfl⟩, hnc, hcm, ho.1⟩

theorem Rws.pre {α : Type} {enc : α → List Value} {k : Nat} (h : Rws w0 w L) {G : List Rw} (hs : ∀ r ∈ G, r ∈ L) (hk : ∀ x, (enc x).length = k) {v : Value} {ys : List α} {n : Nat} (hp : Pre G k v n (ys.flatMap enc)) (hn : n = ys.length) :
    ∃ a c b, v = .slice a ys.length c ∧ SlAt enc k w a b 0 ys := by
  subst hn
  obtain ⟨r, hr, rfl, a, c, c', hv, hrv, hle, htk⟩ := hp
  have ho := h.own r (hs r hr)
  rcases ho.2 with ⟨h1, h2⟩ | ⟨g, cap, cur, hv2, _, hg, _, _, _, htake⟩
  · rw [h2] at hle
    have : ys = [] := List.eq_nil_of_length_eq_zero (by omega)
    subst this
    exact ⟨a, c, 0, hv, slAt_nil _ _ _ _⟩
  · rw [hv2] at hrv
    simp only [Value.slice.injEq] at hrv
    obtain ⟨rfl, _, _⟩ := hrv
    refine ⟨_, c, g, hv, fun _ => rfl, fun _ => (Array.getElem?_eq_some_iff.1 hg).1, fun i x hx j u hu => ?_⟩
    rw [cell_of_row w g _ cur r.T (0, 0) hg]
    have h1 := getElem?_flatMap hk ys i x hx j u hu
    rw [← htk, List.getElem?_take] at h1
    split at h1
    · rw [← htake, List.getElem?_take] at h1
      split at h1
      · simpa using h1
      · cases h1
    · cases h1
theorem Pre.self {r : Rw} (h : Rws w0 w L) (hr : r ∈ L) : Pre [r] r.k r.v r.n r.xs := by
  obtain ⟨a, c, hv, _, _, _, _, hl⟩ := h.shape hr
  exact ⟨r, by simp, rfl, a, c, c, hv, hv, Nat.le_refl _, List.take_of_length_le (by omega)⟩
end
end Go.Proofs.YtkmljelgogcobaaGreatDoor

/-
  A row of lists of numbers that grow one by one, all of them rows of the call's own.
  slices.Clone at edges and at steps: the same cells, in memory of the call's own.
  system.rows.row, and the graph in memory: Each, Back, own, States, Labels, Start.
-/
import Derived.Test.YtopnedihknjjfaaGreatDoorRws
import Derived.Test.YtopnedihknjjfaaGreatDoorPl10
import Derived.Test.YtopnedihknjjfaaGreatDoorGBase
import Derived.Outline
import Derived.Deep.QuietTactic
import Derived.BigQuiet
import Derived.IntWalk
namespace Go.Proofs.YtopnedihknjjfaaGreatDoor
open Go.RowKit Pl

/-- The row ob of m slices; the l-th owns the list f l. -/
def FR (ob m : Nat) (vs : Nat → Value) (f : Nat → List Int) : List Rw :=
  ⟨27, 1, .slice (some ⟨ob, 0, none⟩) m m, m, (List.range m).map vs⟩ :: (List.range m).map (fun l => (⟨3, 1, vs l, (f l).length, (f l).flatMap encI⟩ : Rw))

theorem range_map_set {α : Type} {m l : Nat} (g : Nat → α) (x : α) : ((List.range m).map g).set l x = (List.range m).map (upd g l x) := by
  apply List.ext_getElem?
  intro i
  rw [List.getElem?_set]
  by_cases h : i < m
  · by_cases e : l = i
    · subst e; simp [h, upd]
    · rw [if_neg e]
      simp [h, upd, show ¬ i = l from fun e2 => e e2.symm]
  · by_cases e : l = i
    · subst e; simp [h]
    · rw [if_neg e]; simp [h]

theorem FR.set {ob m l : Nat} {vs : Nat → Value} {f : Nat → List Int} (v : Value) (ys : List Int) (rest : List Rw) (hl : l < m) :
    (((FR ob m vs f ++ rest).set (l + 1) ⟨3, 1, v, ys.length, ys.flatMap encI⟩).set 0 ⟨27, 1, .slice (some ⟨ob, 0, none⟩) m m, m, ((List.range m).map vs).set l v⟩) = FR ob m (upd vs l v) (upd f l ys) ++ rest := by
  unfold FR
  rw [List.cons_append, List.set_cons_succ, List.set_cons_zero, List.set_append_left _ _ (by simpa using hl), range_map_set, range_map_set, List.cons_append]
  congr 2
  apply List.map_congr_left
  intro i _
  unfold upd
  split <;> rfl

section
variable {w0 w w' w1 w2 : World} {rest : List Rw} {ob m : Nat} {vs : Nat → Value} {f : Nat → List Int}

theorem Rws.frMade (h : Rws w0 w rest) (hm : m ≤ maxLen) : Rws w0 (w.alloc (.cells (madeCells #[.slice none 0 0] m) 27)) (FR w.heap.size m (fun _ => .slice none 0 0) (fun _ => []) ++ rest) := by
  have key : ∀ k, Rws w0 w ((List.range k).map (fun _ => (⟨3, 1, .slice none 0 0, 0, []⟩ : Rw)) ++ rest) := fun k => by
    induction k with
    | zero => exact h
    | succ k ih =>
      rw [List.range_succ_eq_map, List.map_cons, List.map_map]
      exact ih.addNil _ _
  have h2 := (key m).addLit (madeCells #[.slice none 0 0] m) 27 (k := 1) (n := m) hm (by simp [size_madeCells])
  have e : (madeCells #[.slice none 0 0] m).toList = (List.range m).map (fun _ => (.slice none 0 0 : Value)) := by
    rw [toList_madeCells_one]
    apply List.ext_getElem?
    intro i
    by_cases hi : i < m <;> simp [hi]
  rw [e] at h2
  exact h2

theorem Rws.frCell (h : Rws w0 w (FR ob m vs f ++ rest)) {l : Nat} (hl : l < m) : w.cell? ⟨ob, l, none⟩ = some (vs l) ∧ w.frozen? ⟨ob, l, none⟩ = false ∧ ob < w.heap.size ∧ w0.heap.size ≤ ob :=
  ⟨h.cell (i := 0) rfl (by simp [hl]), h.fz (i := 0) rfl l, (h.lt (i := 0) rfl).2, (h.lt (i := 0) rfl).1⟩
theorem Rws.frOwn (h : Rws w0 w (FR ob m vs f ++ rest)) {l : Nat} (hl : l < m) : w.ownsRow w0.heap.size 3 1 (vs l) (f l).length ((f l).flatMap encI) :=
  h.get (i := l + 1) (r := ⟨3, 1, vs l, (f l).length, (f l).flatMap encI⟩) (by unfold FR; rw [List.cons_append, List.getElem?_cons_succ, List.getElem?_append_left (by simpa using hl)]; simp [hl])
/-- An append to the l-th list: behind it, and behind the store. -/
theorem Rws.frGrow {w2 : World} (h : Rws w0 w (FR ob m vs f ++ rest)) (hB2 : Below w.heap.size w w2) {l : Nat} (hl : l < m) {v' : Value} {ys : List Int} (ho : w1.ownsRow w0.heap.size 3 1 v' ys.length (ys.flatMap encI)) (hg : w2.grownBy w1 (vs l).ownBlock)
    (hh : ∀ g, v'.ownBlock = some g → (vs l).ownBlock = some g ∨ w.heap.size ≤ g) :
    w1.cell? ⟨ob, l, none⟩ = some (vs l) ∧ w1.frozen? ⟨ob, l, none⟩ = false ∧ ob < w1.heap.size ∧ Rws w0 (w1.setCell ⟨ob, l, none⟩ v') (FR ob m (upd vs l v') (upd f l ys) ++ rest) := by
  have hi : (FR ob m vs f ++ rest)[l + 1]? = some (⟨3, 1, vs l, (f l).length, (f l).flatMap encI⟩ : Rw) := by
    unfold FR; rw [List.cons_append, List.getElem?_cons_succ, List.getElem?_append_left (by simpa using hl)]; simp [hl]
  have hs := h.grown hB2 (l + 1) hi ho hg hh
  have h0 : ((FR ob m vs f ++ rest).set (l + 1) ⟨3, 1, v', ys.length, ys.flatMap encI⟩)[0]? = some (⟨27, 1, .slice (some ⟨ob, 0, none⟩) m m, m, (List.range m).map vs⟩ : Rw) := by
    unfold FR; rw [List.cons_append, List.set_cons_succ]; rfl
  have h2 := hs.set 0 h0 l v'
  rw [FR.set v' ys rest hl] at h2
  exact ⟨hs.cell h0 (by simp [hl]), hs.fz h0 l, (hs.lt h0).2, h2⟩
end
end Go.Proofs.YtopnedihknjjfaaGreatDoor

namespace Go.Proofs.YtopnedihknjjfaaGreatDoor
open Go.RowKit Pl

theorem slAt_flat {α : Type} {enc : α → List Value} {k : Nat} {w : World} {a : Option Addr} {b off : Nat} {xs : List α} (hk : ∀ x, (enc x).length = k) (h : SlAt enc k w a b off xs) (j : Nat) (u : Value) (hu : (xs.flatMap enc)[j]? = some u) :
    w.cell? ((⟨b, off, none⟩ : Addr).add j) = some u := by
  have hj := (List.getElem?_eq_some_iff.1 hu).1
  rw [length_flatMap hk] at hj
  have hk0 : 0 < k := by
    rcases Nat.eq_zero_or_pos k with rfl | h
    · simp at hj
    · exact h
  have hi : j / k < xs.length := by rw [Nat.div_lt_iff_lt_mul hk0]; exact hj
  obtain ⟨x, hx⟩ := getElem?_of_lt hi
  have hm : j % k < (enc x).length := by rw [hk]; exact Nat.mod_lt _ hk0
  have h1 := getElem?_flatMap hk xs (j / k) x hx (j % k) _ (List.getElem?_eq_getElem hm)
  rw [show j / k * k + j % k = j from Nat.div_add_mod' j k] at h1
  rw [hu] at h1
  have h2 := h.cell (j / k) x hx (j % k) u (by rw [List.getElem?_eq_getElem hm, ← h1])
  rw [show off + j / k * k + j % k = off + j by rw [Nat.add_assoc, Nat.div_add_mod']] at h2
  have hadd : (⟨b, off, none⟩ : Addr).add j = ⟨b, off + j, none⟩ := by unfold Addr.add; split <;> simp_all
  rw [hadd]; exact h2

theorem cell_alloc_of {w : World} {o : Obj} {a : Addr} {u : Value} (h : w.cell? a = some u) : (w.alloc o).cell? a = some u := by
  rw [World.cell?_alloc_old _ _ _ (Nat.ne_of_lt (World.block_lt_of_cell? _ _ h))]; exact h

set_option maxRecDepth 100000 in
theorem cloneE_any {a : Option Addr} {b off c : Nat} {xs : List E} {w : World} (h : SlAt encE 3 w a b off xs) (hl : xs.length ≤ 1000000) :
    Calls Tryz.prog 49 #[.slice a xs.length c] w fun e w' => ∃ v, e = .returned v ∧ w'.ownsRow w.heap.size 36 3 v xs.length (xs.flatMap encE) ∧ Below w.heap.size w w' := by
  cases a with
  | none =>
    have hx : xs = [] := by
      cases xs with
      | nil => rfl
      | cons x l => have := h.ad (by simp); cases this
    subst hx
    have heq := fun (w : World) => Lib.run_eql_slice_nil (P := Tryz.prog) w 22 36 none 0 c 0 0 Tryz.underlying22
    clear h
    go_enter Tryz.func49, Tryz.ntmps49
    go_wp2
    go_ret
    exact ⟨_, rfl, World.ownsRow_nil _ _ _ _, Below.refl _ _⟩
  | some ad =>
    have heq := fun (w : World) => Lib.run_eql_slice_nil (P := Tryz.prog) w 22 36 (some ad) xs.length c 0 0 Tryz.underlying22
    have hnews : ∀ j u, (xs.flatMap encE)[j]? = some u → w.cell? (ad.add j) = some u := by
      intro j u hu
      have hj := (List.getElem?_eq_some_iff.1 hu).1
      rw [length_flatMap lenE] at hj
      have hp : 0 < xs.length := by cases xs <;> simp at *
      have := h.ad hp
      simp at this; subst this
      exact slAt_flat lenE h j u hu
    have hlen : (xs.flatMap encE).length = xs.length * 3 := length_flatMap lenE xs
    have h1 : ∀ u ∈ xs.flatMap encE, u.oneCell' = true := by
      intro u hu
      obtain ⟨x, _, hx⟩ := List.mem_flatMap.1 hu
      simp [encE] at hx
      rcases hx with rfl | rfl | rfl <;> rfl
    have HN := Lib.hid hnews; have HL := Lib.hid hlen; have H1 := Lib.hid h1
    clear h hnews hlen h1
    generalize xs.flatMap encE = news at *
    go_enter Tryz.func49, Tryz.ntmps49
    go_wp2_with (at_builtin; refine wpList_app rfl _ _ _ rfl rowE ((Below.refl w.heap.size w).alloc (Nat.le_refl _) _) (by simp) rfl (World.ownsRow_made w #[] 0 (Nat.le_refl _) (by decide) (by simp)) ad xs.length c news rfl HL.out (fun j u hu => cell_alloc_of (HN.out j u hu)) H1.out (by omega) (by unfold maxLen; omega) ?_; intro v' w1 hown1 hb1 _)
    go_ret
    exact ⟨_, rfl, by simpa using hown1, hb1⟩

set_option maxRecDepth 100000 in
theorem cloneS_any {a : Option Addr} {b off c : Nat} {xs : List S} {w : World} (h : SlAt encS 2 w a b off xs) (hl : xs.length ≤ 1000000) :
    Calls Tryz.prog 57 #[.slice a xs.length c] w fun e w' => ∃ v, e = .returned v ∧ w'.ownsRow w.heap.size 46 2 v xs.length (xs.flatMap encS) ∧ Below w.heap.size w w' := by
  cases a with
  | none =>
    have hx : xs = [] := by
      cases xs with
      | nil => rfl
      | cons x l => have := h.ad (by simp); cases this
    subst hx
    have heq := fun (w : World) => Lib.run_eql_slice_nil (P := Tryz.prog) w 43 46 none 0 c 0 0 Tryz.underlying43
    clear h
    go_enter Tryz.func57, Tryz.ntmps57
    go_wp2
    go_ret
    exact ⟨_, rfl, World.ownsRow_nil _ _ _ _, Below.refl _ _⟩
  | some ad =>
    have heq := fun (w : World) => Lib.run_eql_slice_nil (P := Tryz.prog) w 43 46 (some ad) xs.length c 0 0 Tryz.underlying43
    have hnews : ∀ j u, (xs.flatMap encS)[j]? = some u → w.cell? (ad.add j) = some u := by
      intro j u hu
      have hj := (List.getElem?_eq_some_iff.1 hu).1
      rw [length_flatMap lenS] at hj
      have hp : 0 < xs.length := by cases xs <;> simp at *
      have := h.ad hp
      simp at this; subst this
      exact slAt_flat lenS h j u hu
    have hlen : (xs.flatMap encS).length = xs.length * 2 := length_flatMap lenS xs
    have h1 : ∀ u ∈ xs.flatMap encS, u.oneCell' = true := by
      intro u hu
      obtain ⟨x, _, hx⟩ := List.mem_flatMap.1 hu
      simp [encS] at hx
      rcases hx with rfl | rfl <;> rfl
    have HN := Lib.hid hnews; have HL := Lib.hid hlen; have H1 := Lib.hid h1
    clear h hnews hlen h1
    generalize xs.flatMap encS = news at *
    go_enter Tryz.func57, Tryz.ntmps57
    go_wp2_with (at_builtin; refine wpList_app rfl _ _ _ rfl rowS ((Below.refl w.heap.size w).alloc (Nat.le_refl _) _) (by simp) rfl (World.ownsRow_made w #[] 0 (Nat.le_refl _) (by decide) (by simp)) ad xs.length c news rfl HL.out (fun j u hu => cell_alloc_of (HN.out j u hu)) H1.out (by omega) (by unfold maxLen; omega) ?_; intro v' w1 hown1 hb1 _)
    go_ret
    exact ⟨_, rfl, by simpa using hown1, hb1⟩

end Go.Proofs.YtopnedihknjjfaaGreatDoor

namespace Go.Proofs.YtopnedihknjjfaaGreatDoor
open Go.RowKit Pl

theorem slAt_sub {α : Type} {enc : α → List Value} {k : Nat} {w : World} {a : Option Addr} {b off : Nat} {xs : List α} (h : SlAt enc k w a b off xs) (lo m : Nat) :
    SlAt enc k w (some ⟨b, off + lo * k, none⟩) b (off + lo * k) ((xs.drop lo).take m) where
  ad _ := rfl
  lt hl := h.lt (by simp at hl; omega)
  cell i x hx j u hu := by
    rw [List.getElem?_take] at hx
    split at hx
    · rw [List.getElem?_drop] at hx
      have := h.cell (lo + i) x hx j u hu
      rw [Nat.add_mul] at this
      rw [show off + lo * k + i * k + j = off + (lo * k + i * k) + j by omega]
      exact this
    · cases hx

/-- The rows of a graph, in memory: all the steps, and from where on each row lies. -/
structure RowsAt (w : World) (va vf : Value) (n : Nat) (all : List S) (fr : Nat → Nat) : Prop where
  alls : ∃ a c b off, va = .slice a all.length c ∧ all.length ≤ c ∧ c ≤ maxLen ∧ SlAt encS 2 w a b off all
  from_ : ∃ b, vf = .slice (some ⟨b, 0, none⟩) (n + 1) (n + 1) ∧ b < w.heap.size ∧ ∀ i, i ≤ n → w.cell? ⟨b, i, none⟩ = some (.int .i64 (fr i))
  mono : ∀ i, i < n → fr i ≤ fr (i + 1)
  top : ∀ i, i ≤ n → fr i ≤ all.length
  small : all.length ≤ 10000
  n_le : n ≤ 1000

def rowOf (all : List S) (fr : Nat → Nat) (i : Nat) : List S := (all.drop (fr i)).take (fr (i + 1) - fr i)

theorem RowsAt.below {w w' : World} {va vf : Value} {n : Nat} {all : List S} {fr : Nat → Nat} (h : RowsAt w va vf n all fr) (hB : Below w.heap.size w w') : RowsAt w' va vf n all fr := by
  obtain ⟨a, c, b, off, h1, h2, h3, h4⟩ := h.alls
  obtain ⟨b', h5, h6, h7⟩ := h.from_
  exact ⟨⟨a, c, b, off, h1, h2, h3, h4.below hB (Nat.le_refl _)⟩, ⟨b', h5, Nat.lt_of_lt_of_le h6 hB.size, fun i hi => by rw [hB.cell (p := ⟨b', i, none⟩) h6]; exact h7 i hi⟩, h.mono, h.top, h.small, h.n_le⟩

/-- What a call answers: a list of steps that is read at some place. -/
def StepsRet (w' : World) (e : Ending) (ss : List S) : Prop := ∃ a c b off, e = .returned (.slice a ss.length c) ∧ ss.length ≤ c ∧ c ≤ maxLen ∧ SlAt encS 2 w' a b off ss

theorem stepsRet_nil {w' : World} : StepsRet w' (.returned (.slice none 0 0)) [] := ⟨none, 0, 0, 0, rfl, Nat.le_refl _, by unfold maxLen; omega, slAt_nil _ _ _ _⟩

set_option maxRecDepth 100000 in
theorem row_out {w0 w : World} (va vf : Value) {n : Nat} {all : List S} {fr : Nat → Nat} (h : RowsAt w0 va vf n all fr) (_hB : Below w0.heap.size w0 w) (i : Int) (hi : i < 0 ∨ (n : Int) ≤ i) :
    Calls Tryz.prog 85 #[.agg #[va, vf], .int .i64 i] w fun e w' => StepsRet w0 e [] ∧ Below w.heap.size w w' := by
  obtain ⟨a, c, b, off, rfl, h2, h3, h4⟩ := h.alls
  obtain ⟨b', rfl, h6, h7⟩ := h.from_
  have hn := h.n_le
  clear h h4 h7 _hB
  rcases hi with hi | hi
  · go_enter Tryz.func85, Tryz.ntmps85
    go_wp2
    go_ret
    exact ⟨stepsRet_nil, (Below.refl _ _).alloc (Nat.le_refl _) _⟩
  · have hi0 : ¬ i < 0 := by omega
    go_enter Tryz.func85, Tryz.ntmps85
    go_wp2
    go_ret
    exact ⟨stepsRet_nil, (Below.refl _ _).alloc (Nat.le_refl _) _⟩

set_option maxRecDepth 100000 in
theorem row_in {w0 w : World} (va vf : Value) {n : Nat} {all : List S} {fr : Nat → Nat} (h : RowsAt w0 va vf n all fr) (hB : Below w0.heap.size w0 w) (i : Nat) (hi : i < n) :
    Calls Tryz.prog 85 #[.agg #[va, vf], .int .i64 i] w fun e w' => StepsRet w0 e (rowOf all fr i) ∧ Below w.heap.size w w' := by
  obtain ⟨a, c, b, off, rfl, h2, h3, h4⟩ := h.alls
  obtain ⟨b', rfl, h6, h7⟩ := h.from_
  have hn := h.n_le
  have c0 : w.cell? ⟨b', i, none⟩ = _ := (hB.cell (p := ⟨b', i, none⟩) h6).trans (h7 i (by omega))
  have c1 : w.cell? ⟨b', i + 1, none⟩ = _ := (hB.cell (p := ⟨b', i + 1, none⟩) h6).trans (h7 (i + 1) (by omega))
  replace h6 : b' < w.heap.size := Nat.lt_of_lt_of_le h6 hB.size
  have hm := h.mono i hi
  have ht := h.top (i + 1) (by omega)
  have hs := h.small
  unfold rowOf
  generalize fr i = lo at *
  generalize fr (i + 1) = hi' at *
  have hlen : ((all.drop lo).take (hi' - lo)).length = hi' - lo := by simp; omega
  have k1 : (i : Int) < (n : Int) := by omega
  have k2 : (0 : Int) ≤ (i : Int) + 1 := by omega
  have k6 : (i : Int) < (n : Int) + 1 := by omega
  have k3 : IntKind.i64.wrap ((i : Int) + 1) = (i : Int) + 1 := IntWalk.i64_in _ (by omega)
  have k4 : ((i : Int) + 1).toNat = i + 1 := by omega
  have k7 : (lo : Int) ≤ (hi' : Int) := by omega
  have k8 : (hi' : Int) ≤ (c : Int) := by omega
  by_cases heq : lo = hi'
  · subst heq
    have hrow : (all.drop lo).take (lo - lo) = [] := by simp
    rw [hrow]
    clear h h4 h7 hlen hrow hB
    go_enter Tryz.func85, Tryz.ntmps85
    go_wp2_with fail
    go_quiet (fail)
    go_wp2
    all_goals
      go_ret
      exact ⟨⟨a, _, 0, 0, rfl, Nat.le_refl _, by unfold maxLen; omega, slAt_nil _ _ _ _⟩, below_drewN ((Below.refl _ _).alloc (Nat.le_refl _) _) _⟩
  · obtain rfl := h4.ad (by omega)
    have k9 : (lo : Int) < (hi' : Int) := by omega
    have k10 : (lo : Int) < (c : Int) := by omega
    have k11 : lo < hi' := by omega
    have H4 := Lib.hid h4; have HL := Lib.hid hlen
    clear h h4 h7 hlen hB
    go_enter Tryz.func85, Tryz.ntmps85
    go_wp2_with fail
    go_quiet (fail)
    go_wp2
    go_ret
    refine ⟨⟨some ⟨b, off + lo * 2, none⟩, hi' - lo, b, off + lo * 2, ?_, by rw [HL.out]; exact Nat.le_refl _, by omega, slAt_sub H4.out lo (hi' - lo)⟩, below_drewN ((Below.refl _ _).alloc (Nat.le_refl _) _) _⟩
    rw [HL.out]
    first | rfl | (simp; done)
end Go.Proofs.YtopnedihknjjfaaGreatDoor

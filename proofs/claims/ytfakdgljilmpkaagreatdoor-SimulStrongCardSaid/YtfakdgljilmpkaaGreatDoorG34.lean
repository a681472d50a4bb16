/-
  A row of lists of numbers that grow one by one, all of them rows of the call's own.
  refine.Partition in memory: its struct, its elements, their places, the block of each, the blocks.
-/
import Derived.Test.YtfakdgljilmpkaaGreatDoorG16
import Derived.Test.YtfakdgljilmpkaaGreatDoorG4
import Derived.Test.YtfakdgljilmpkaaGreatDoorPlP
namespace Go.Proofs.YtfakdgljilmpkaaGreatDoor
open Go.RowKit Pl

/-- The row ob of m slices; the l-th owns the list f l. -/
def FR (ob m : Nat) (vs : Nat → Value) (f : Nat → List Int) : List Rw :=
  ⟨33, 1, .slice (some ⟨ob, 0, none⟩) m m, m, (List.range m).map vs⟩ :: (List.range m).map (fun l => (⟨3, 1, vs l, (f l).length, (f l).flatMap encI⟩ : Rw))

theorem range_map_set {α : Type} {m l : Nat} (g : Nat → α) (x : α) : ((List.range m).map g).set l x = (List.range m).map (upd g l x) := by
  apply List.ext_getElem?
  intro i
  rw [List.getElem?_set]
  by_cases h : i < m
  · by_cases e : l = i
    · subst e; simp [h, upd]
    · rw [if_neg e]
      simp [h, upd, show ¬ i = l from fun e2 => e e2.symm]
  · by_cases e : l = i
    · subst e; simp [h]
    · rw [if_neg e]; simp [h]

theorem FR.set {ob m l : Nat} {vs : Nat → Value} {f : Nat → List Int} (v : Value) (ys : List Int) (rest : List Rw) (hl : l < m) :
    (((FR ob m vs f ++ rest).set (l + 1) ⟨3, 1, v, ys.length, ys.flatMap encI⟩).set 0 ⟨33, 1, .slice (some ⟨ob, 0, none⟩) m m, m, ((List.range m).map vs).set l v⟩) = FR ob m (upd vs l v) (upd f l ys) ++ rest := by
  unfold FR
  rw [List.cons_append, List.set_cons_succ, List.set_cons_zero, List.set_append_left _ _ (by simpa using hl), range_map_set, range_map_set, List.cons_append]
  congr 2
  apply List.map_congr_left
  intro i _
  unfold upd
  split <;> rfl

section
variable {w0 w w' w1 w2 : World} {rest : List Rw} {ob m : Nat} {vs : Nat → Value} {f : Nat → List Int}

theorem Rws.frMade (h : Rws w0 w rest) (hm : m ≤ maxLen) : Rws w0 (w.alloc (.cells (madeCells #[.slice none 0 0] m) 33)) (FR w.heap.size m (fun _ => .slice none 0 0) (fun _ => []) ++ rest) := by
  have key : ∀ k, Rws w0 w ((List.range k).map (fun _ => (⟨3, 1, .slice none 0 0, 0, []⟩ : Rw)) ++ rest) := fun k => by
    induction k with
    | zero => exact h
    | succ k ih =>
      rw [List.range_succ_eq_map, List.map_cons, List.map_map]
      exact ih.addNil _ _
  have h2 := (key m).addLit (madeCells #[.slice none 0 0] m) 33 (k := 1) (n := m) hm (by simp [size_madeCells])
  have e : (madeCells #[.slice none 0 0] m).toList = (List.range m).map (fun _ => (.slice none 0 0 : Value)) := by
    rw [toList_madeCells_one]
    apply List.ext_getElem?
    intro i
    by_cases hi : i < m <;> simp [hi]
  rw [e] at h2
  exact h2

theorem Rws.frCell (h : Rws w0 w (FR ob m vs f ++ rest)) {l : Nat} (hl : l < m) : w.cell? ⟨ob, l, none⟩ = some (vs l) ∧ w.frozen? ⟨ob, l, none⟩ = false ∧ ob < w.heap.size ∧ w0.heap.size ≤ ob :=
  ⟨h.cell (i := 0) rfl (by simp [hl]), h.fz (i := 0) rfl l, (h.lt (i := 0) rfl).2, (h.lt (i := 0) rfl).1⟩
theorem Rws.frOwn (h : Rws w0 w (FR ob m vs f ++ rest)) {l : Nat} (hl : l < m) : w.ownsRow w0.heap.size 3 1 (vs l) (f l).length ((f l).flatMap encI) :=
  h.get (i := l + 1) (r := ⟨3, 1, vs l, (f l).length, (f l).flatMap encI⟩) (by unfold FR; rw [List.cons_append, List.getElem?_cons_succ, List.getElem?_append_left (by simpa using hl)]; simp [hl])
/-- An append to the l-th list: behind it, and behind the store. -/
theorem Rws.frGrow {w2 : World} (h : Rws w0 w (FR ob m vs f ++ rest)) (hB2 : Below w.heap.size w w2) {l : Nat} (hl : l < m) {v' : Value} {ys : List Int} (ho : w1.ownsRow w0.heap.size 3 1 v' ys.length (ys.flatMap encI)) (hg : w2.grownBy w1 (vs l).ownBlock)
    (hh : ∀ g, v'.ownBlock = some g → (vs l).ownBlock = some g ∨ w.heap.size ≤ g) :
    w1.cell? ⟨ob, l, none⟩ = some (vs l) ∧ w1.frozen? ⟨ob, l, none⟩ = false ∧ ob < w1.heap.size ∧ Rws w0 (w1.setCell ⟨ob, l, none⟩ v') (FR ob m (upd vs l v') (upd f l ys) ++ rest) := by
  have hi : (FR ob m vs f ++ rest)[l + 1]? = some (⟨3, 1, vs l, (f l).length, (f l).flatMap encI⟩ : Rw) := by
    unfold FR; rw [List.cons_append, List.getElem?_cons_succ, List.getElem?_append_left (by simpa using hl)]; simp [hl]
  have hs := h.grown hB2 (l + 1) hi ho hg hh
  have h0 : ((FR ob m vs f ++ rest).set (l + 1) ⟨3, 1, v', ys.length, ys.flatMap encI⟩)[0]? = some (⟨33, 1, .slice (some ⟨ob, 0, none⟩) m m, m, (List.range m).map vs⟩ : Rw) := by
    unfold FR; rw [List.cons_append, List.set_cons_succ]; rfl
  have h2 := hs.set 0 h0 l v'
  rw [FR.set v' ys rest hl] at h2
  exact ⟨hs.cell h0 (by simp [hl]), hs.fz h0 l, (hs.lt h0).2, h2⟩
end
end Go.Proofs.YtfakdgljilmpkaaGreatDoor

namespace Go.Proofs.YtfakdgljilmpkaaGreatDoor
open Go.RowKit Pl

def encT (x : B3) : List Value := [.int .i64 x.1, .int .i64 x.2.1, .int .i64 x.2.2]
theorem lenT (x : B3) : (encT x).length = 3 := rfl
def flN (n : Nat) (f : Nat → Nat) : List Int := fl n (fun i => (f i : Int))
theorem flN_len (n : Nat) (f : Nat → Nat) : (flN n f).length = n := fl_len _ _
theorem flN_get {n : Nat} (f : Nat → Nat) {i : Nat} (h : i < n) : (flN n f)[i]? = some (f i : Int) := fl_get _ h

theorem rowT : IsRow Tryz.prog 149 241 3 24 (.agg #[.int .i64 0, .int .i64 0, .int .i64 0]) := isRow_of Tryz.underlying149 (by kernel_rfl) rfl (by decide)

theorem flatI (L : List Int) : L.flatMap encI = L.map (Value.int .i64) := by
  induction L with
  | nil => rfl
  | cons x l ih => rw [List.flatMap_cons, ih]; rfl
theorem flN_map (n : Nat) (f : Nat → Nat) : (flN n f).flatMap encI = (List.range n).map (fun i => Value.int .i64 (f i : Int)) := by
  rw [flatI]; unfold flN fl; rw [List.map_map]; rfl
theorem range_map_set' {α : Type} {m l : Nat} (g : Nat → α) (x : α) : ((List.range m).map g).set l x = (List.range m).map (fun i => if i = l then x else g i) := by
  apply List.ext_getElem?
  intro i
  rw [List.getElem?_set]
  by_cases h : i < m
  · by_cases e : l = i
    · subst e; simp [h]
    · rw [if_neg e]
      simp [h, show ¬ i = l from fun e2 => e e2.symm]
  · by_cases e : l = i
    · subst e; simp [h]
    · rw [if_neg e]; simp [h]
theorem flN_set (n : Nat) (f : Nat → Nat) (j v : Nat) : ((flN n f).flatMap encI).set j (.int .i64 (v : Int)) = (flN n (upd f j v)).flatMap encI := by
  rw [flN_map, flN_map, range_map_set']
  apply List.map_congr_left
  intro i _
  unfold upd
  split <;> rfl
theorem flN_at {n : Nat} (f : Nat → Nat) {i : Nat} (h : i < n) : ((flN n f).flatMap encI)[i]? = some (.int .i64 (f i : Int)) := by
  rw [flN_map]; simp [h]
theorem flT_at {bl : List B3} {b : Nat} {x : B3} (h : bl[b]? = some x) : (bl.flatMap encT)[b * 3]? = some (.int .i64 (x.1 : Int)) ∧ (bl.flatMap encT)[b * 3 + 1]? = some (.int .i64 (x.2.1 : Int)) ∧ (bl.flatMap encT)[b * 3 + 2]? = some (.int .i64 (x.2.2 : Int)) :=
  ⟨by simpa using getElem?_flatMap lenT bl b x h 0 _ rfl, getElem?_flatMap lenT bl b x h 1 _ rfl, getElem?_flatMap lenT bl b x h 2 _ rfl⟩
theorem flT_set : ∀ {bl : List B3} {b : Nat} {x y : B3} (j : Nat) (v : Value), bl[b]? = some x → j < 3 → (encT x).set j v = encT y → (bl.flatMap encT).set (b * 3 + j) v = (bl.set b y).flatMap encT
  | [], b, x, y, j, v, h, _, _ => by simp at h
  | z :: bl, 0, x, y, j, v, h, hj, he => by
    simp at h; subst h
    rw [Nat.zero_mul, Nat.zero_add, List.flatMap_cons, List.set_cons_zero, List.flatMap_cons, List.set_append_left _ _ (by rw [lenT]; exact hj), he]
  | z :: bl, b + 1, x, y, j, v, h, hj, he => by
    rw [List.flatMap_cons, List.set_cons_succ, List.flatMap_cons, List.set_append_right _ _ (by rw [lenT, Nat.add_mul]; omega), lenT]
    rw [show (b + 1) * 3 + j - 3 = b * 3 + j by rw [Nat.add_mul]; omega, flT_set j v (by simpa using h) hj he]

/-- Where a partition's rows lie, and what they can hold. -/
structure PK where
  pb : Nat
  eb : Nat
  qb : Nat
  ib : Nat
  bb : Nat
  ce : Nat
  cq : Nat
  ci : Nat
  cb : Nat

def PR (K : PK) (n : Nat) (el pl inn : Nat → Nat) (bl : List B3) : List Rw :=
  [⟨151, 4, .slice (some ⟨K.pb, 0, none⟩) 1 1, 1, [.slice (some ⟨K.eb, 0, none⟩) n K.ce, .slice (some ⟨K.qb, 0, none⟩) n K.cq, .slice (some ⟨K.ib, 0, none⟩) n K.ci, .slice (some ⟨K.bb, 0, none⟩) bl.length K.cb]⟩,
   ⟨3, 1, .slice (some ⟨K.eb, 0, none⟩) n K.ce, n, (flN n el).flatMap encI⟩,
   ⟨3, 1, .slice (some ⟨K.qb, 0, none⟩) n K.cq, n, (flN n pl).flatMap encI⟩,
   ⟨3, 1, .slice (some ⟨K.ib, 0, none⟩) n K.ci, n, (flN n inn).flatMap encI⟩,
   ⟨241, 3, .slice (some ⟨K.bb, 0, none⟩) bl.length K.cb, bl.length, bl.flatMap encT⟩]

section
variable {w0 w w' w1 : World} {K : PK} {n : Nat} {el pl inn : Nat → Nat} {bl : List B3} {rest : List Rw}

theorem own_caps {base : Nat} {e : TypeId} {k n g c : Nat} {xs : List Value} (h : w.ownsRow base e k (.slice (some ⟨g, 0, none⟩) n c) n xs) : n ≤ c ∧ c ≤ maxLen := by
  rcases h.2 with ⟨h2, _⟩ | ⟨g', c', cur, hv, _, _, h3, h4, _⟩
  · simp at h2
  · simp only [Value.slice.injEq] at hv
    obtain ⟨_, _, rfl⟩ := hv
    exact ⟨h3, h4⟩

theorem Rws.pCells (h : Rws w0 w (PR K n el pl inn bl ++ rest)) :
    w.cell? ⟨K.pb, 0, none⟩ = some (.slice (some ⟨K.eb, 0, none⟩) n K.ce) ∧ w.cell? ⟨K.pb, 1, none⟩ = some (.slice (some ⟨K.qb, 0, none⟩) n K.cq) ∧ w.cell? ⟨K.pb, 2, none⟩ = some (.slice (some ⟨K.ib, 0, none⟩) n K.ci) ∧ w.cell? ⟨K.pb, 3, none⟩ = some (.slice (some ⟨K.bb, 0, none⟩) bl.length K.cb) :=
  ⟨h.cell (i := 0) rfl rfl, h.cell (i := 0) rfl rfl, h.cell (i := 0) rfl rfl, h.cell (i := 0) rfl rfl⟩
theorem Rws.pLts (h : Rws w0 w (PR K n el pl inn bl ++ rest)) : K.pb < w.heap.size ∧ K.eb < w.heap.size ∧ K.qb < w.heap.size ∧ K.ib < w.heap.size ∧ K.bb < w.heap.size :=
  ⟨(h.lt (i := 0) rfl).2, (h.lt (i := 1) rfl).2, (h.lt (i := 2) rfl).2, (h.lt (i := 3) rfl).2, (h.lt (i := 4) rfl).2⟩
theorem Rws.pLo (h : Rws w0 w (PR K n el pl inn bl ++ rest)) : w0.heap.size ≤ K.pb ∧ w0.heap.size ≤ K.eb ∧ w0.heap.size ≤ K.qb ∧ w0.heap.size ≤ K.ib ∧ w0.heap.size ≤ K.bb :=
  ⟨(h.lt (i := 0) rfl).1, (h.lt (i := 1) rfl).1, (h.lt (i := 2) rfl).1, (h.lt (i := 3) rfl).1, (h.lt (i := 4) rfl).1⟩
theorem Rws.pCaps (h : Rws w0 w (PR K n el pl inn bl ++ rest)) : n ≤ K.ce ∧ n ≤ K.cq ∧ n ≤ K.ci ∧ bl.length ≤ K.cb :=
  ⟨(own_caps (h.get (i := 1) rfl)).1, (own_caps (h.get (i := 2) rfl)).1, (own_caps (h.get (i := 3) rfl)).1, (own_caps (h.get (i := 4) rfl)).1⟩
theorem Rws.pNe (h : Rws w0 w (PR K n el pl inn bl ++ rest)) : K.pb ≠ K.eb ∧ K.pb ≠ K.qb ∧ K.pb ≠ K.ib ∧ K.pb ≠ K.bb ∧ K.eb ≠ K.qb ∧ K.eb ≠ K.ib ∧ K.eb ≠ K.bb ∧ K.qb ≠ K.ib ∧ K.qb ≠ K.bb ∧ K.ib ≠ K.bb :=
  ⟨h.ne' (i := 0) (j := 1) rfl rfl (by decide), h.ne' (i := 0) (j := 2) rfl rfl (by decide), h.ne' (i := 0) (j := 3) rfl rfl (by decide), h.ne' (i := 0) (j := 4) rfl rfl (by decide), h.ne' (i := 1) (j := 2) rfl rfl (by decide), h.ne' (i := 1) (j := 3) rfl rfl (by decide), h.ne' (i := 1) (j := 4) rfl rfl (by decide), h.ne' (i := 2) (j := 3) rfl rfl (by decide), h.ne' (i := 2) (j := 4) rfl rfl (by decide), h.ne' (i := 3) (j := 4) rfl rfl (by decide)⟩
theorem Rws.pFz (h : Rws w0 w (PR K n el pl inn bl ++ rest)) (j : Nat) : w.frozen? ⟨K.pb, j, none⟩ = false ∧ w.frozen? ⟨K.eb, j, none⟩ = false ∧ w.frozen? ⟨K.qb, j, none⟩ = false ∧ w.frozen? ⟨K.ib, j, none⟩ = false ∧ w.frozen? ⟨K.bb, j, none⟩ = false :=
  ⟨h.fz (i := 0) rfl j, h.fz (i := 1) rfl j, h.fz (i := 2) rfl j, h.fz (i := 3) rfl j, h.fz (i := 4) rfl j⟩
theorem Rws.pEl (h : Rws w0 w (PR K n el pl inn bl ++ rest)) {i : Nat} (hi : i < n) : w.cell? ⟨K.eb, i, none⟩ = some (.int .i64 (el i : Int)) := h.cell (i := 1) rfl (flN_at _ hi)
theorem Rws.pPl (h : Rws w0 w (PR K n el pl inn bl ++ rest)) {i : Nat} (hi : i < n) : w.cell? ⟨K.qb, i, none⟩ = some (.int .i64 (pl i : Int)) := h.cell (i := 2) rfl (flN_at _ hi)
theorem Rws.pIn (h : Rws w0 w (PR K n el pl inn bl ++ rest)) {i : Nat} (hi : i < n) : w.cell? ⟨K.ib, i, none⟩ = some (.int .i64 (inn i : Int)) := h.cell (i := 3) rfl (flN_at _ hi)
theorem Rws.pBl (h : Rws w0 w (PR K n el pl inn bl ++ rest)) {b : Nat} {x : B3} (hb : bl[b]? = some x) : w.cell? ⟨K.bb, b * 3, none⟩ = some (.int .i64 (x.1 : Int)) ∧ w.cell? ⟨K.bb, b * 3 + 1, none⟩ = some (.int .i64 (x.2.1 : Int)) ∧ w.cell? ⟨K.bb, b * 3 + 2, none⟩ = some (.int .i64 (x.2.2 : Int)) := by
  obtain ⟨h0, h1, h2⟩ := flT_at hb
  exact ⟨h.cell (i := 4) rfl h0, h.cell (i := 4) rfl h1, h.cell (i := 4) rfl h2⟩

theorem Rws.pSetEl (h : Rws w0 w (PR K n el pl inn bl ++ rest)) (j v : Nat) : Rws w0 (w.setCell ⟨K.eb, j, none⟩ (.int .i64 (v : Int))) (PR K n (upd el j v) pl inn bl ++ rest) := by
  have := h.set 1 rfl j (.int .i64 (v : Int)); rw [flN_set] at this; exact this
theorem Rws.pSetPl (h : Rws w0 w (PR K n el pl inn bl ++ rest)) (j v : Nat) : Rws w0 (w.setCell ⟨K.qb, j, none⟩ (.int .i64 (v : Int))) (PR K n el (upd pl j v) inn bl ++ rest) := by
  have := h.set 2 rfl j (.int .i64 (v : Int)); rw [flN_set] at this; exact this
theorem Rws.pSetIn (h : Rws w0 w (PR K n el pl inn bl ++ rest)) (j v : Nat) : Rws w0 (w.setCell ⟨K.ib, j, none⟩ (.int .i64 (v : Int))) (PR K n el pl (upd inn j v) bl ++ rest) := by
  have := h.set 3 rfl j (.int .i64 (v : Int)); rw [flN_set] at this; exact this
theorem Rws.pSetBl (h : Rws w0 w (PR K n el pl inn bl ++ rest)) {b : Nat} {x y : B3} (hb : bl[b]? = some x) (j : Nat) (v : Value) (hj : j < 3) (he : (encT x).set j v = encT y) : Rws w0 (w.setCell ⟨K.bb, b * 3 + j, none⟩ v) (PR K n el pl inn (bl.set b y) ++ rest) := by
  have := h.set 4 rfl (b * 3 + j) v; rw [flT_set j v hb hj he] at this
  have e : PR K n el pl inn (bl.set b y) = (PR K n el pl inn bl).set 4 ⟨241, 3, .slice (some ⟨K.bb, 0, none⟩) bl.length K.cb, bl.length, (bl.set b y).flatMap encT⟩ := by
    unfold PR; rw [List.length_set]; rfl
  rw [e]
  exact this
end

/-- A partition's world. -/
structure PW (w0 w : World) (K : PK) (n : Nat) (el pl inn : Nat → Nat) (bl : List B3) (rest : List Rw) : Prop where
  rws : Rws w0 w (PR K n el pl inn bl ++ rest)
  pi : PI n el pl inn bl
  n1 : n ≤ 1000
end Go.Proofs.YtfakdgljilmpkaaGreatDoor

/-
  A row of lists of numbers that grow one by one, all of them rows of the call's own.
  refine.Partition in memory: its struct, its elements, their places, the block of each, the blocks.
  refine.Partition: own, asked, Size, Blocks, Block, row, First, Len.
  refine.Partition: swap, Mark.
  refine.Partition: Mark.
  slices.Sort at ints, by the shelf's contract, on a row of the call's own.
  slices.Clone at numbers; refine.Partition: Members.
  refine.Partition: Marked, Classes.
-/
import Derived.Test.YtdhloijdefnkpaaGreatDoorGKeyS
import Derived.Test.YtdhloijdefnkpaaGreatDoorGPl10
import Derived.Test.YtdhloijdefnkpaaGreatDoorGPlU
import Derived.BigRegion
import Derived.Deep.QuietTactic
import Derived.BigQuiet
import Derived.IntWalk
import Derived.Outline
import Derived.Deep.RegionHeld3
import Derived.Deep.Cut
import Derived.Deep.CutRange
import Derived.Test.YtdhloijdefnkpaaGreatDoorGOrder
import Derived.Lib.OwnBridge
import Derived.Sort.OwnSortedInts
import Derived.Test.YtdhloijdefnkpaaGreatDoorGKeyE
import Derived.Test.YtdhloijdefnkpaaGreatDoorGCanon
namespace Go.Proofs.YtdhloijdefnkpaaGreatDoor
open Go.RowKit Pl

/-- The row ob of m slices; the l-th owns the list f l. -/
def FR (ob m : Nat) (vs : Nat → Value) (f : Nat → List Int) : List Rw :=
  ⟨33, 1, .slice (some ⟨ob, 0, none⟩) m m, m, (List.range m).map vs⟩ :: (List.range m).map (fun l => (⟨3, 1, vs l, (f l).length, (f l).flatMap encI⟩ : Rw))

theorem range_map_set {α : Type} {m l : Nat} (g : Nat → α) (x : α) : ((List.range m).map g).set l x = (List.range m).map (upd g l x) := by
  apply List.ext_getElem?
  intro i
  rw [List.getElem?_set]
  by_cases h : i < m
  · by_cases e : l = i
    · subst e; simp [h, upd]
    · rw [if_neg e]
      simp [h, upd, show ¬ i = l from fun e2 => e e2.symm]
  · by_cases e : l = i
    · subst e; simp [h]
    · rw [if_neg e]; simp [h]

theorem FR.set {ob m l : Nat} {vs : Nat → Value} {f : Nat → List Int} (v : Value) (ys : List Int) (rest : List Rw) (hl : l < m) :
    (((FR ob m vs f ++ rest).set (l + 1) ⟨3, 1, v, ys.length, ys.flatMap encI⟩).set 0 ⟨33, 1, .slice (some ⟨ob, 0, none⟩) m m, m, ((List.range m).map vs).set l v⟩) = FR ob m (upd vs l v) (upd f l ys) ++ rest := by
  unfold FR
  rw [List.cons_append, List.set_cons_succ, List.set_cons_zero, List.set_append_left _ _ (by simpa using hl), range_map_set, range_map_set, List.cons_append]
  congr 2
  apply List.map_congr_left
  intro i _
  unfold upd
  split <;> rfl

section
variable {w0 w w' w1 w2 : World} {rest : List Rw} {ob m : Nat} {vs : Nat → Value} {f : Nat → List Int}

theorem Rws.frMade (h : Rws w0 w rest) (hm : m ≤ maxLen) : Rws w0 (w.alloc (.cells (madeCells #[.slice none 0 0] m) 33)) (FR w.heap.size m (fun _ => .slice none 0 0) (fun _ => []) ++ rest) := by
  have key : ∀ k, Rws w0 w ((List.range k).map (fun _ => (⟨3, 1, .slice none 0 0, 0, []⟩ : Rw)) ++ rest) := fun k => by
    induction k with
    | zero => exact h
    | succ k ih =>
      rw [List.range_succ_eq_map, List.map_cons, List.map_map]
      exact ih.addNil _ _
  have h2 := (key m).addLit (madeCells #[.slice none 0 0] m) 33 (k := 1) (n := m) hm (by simp [size_madeCells])
  have e : (madeCells #[.slice none 0 0] m).toList = (List.range m).map (fun _ => (.slice none 0 0 : Value)) := by
    rw [toList_madeCells_one]
    apply List.ext_getElem?
    intro i
    by_cases hi : i < m <;> simp [hi]
  rw [e] at h2
  exact h2

theorem Rws.frCell (h : Rws w0 w (FR ob m vs f ++ rest)) {l : Nat} (hl : l < m) : w.cell? ⟨ob, l, none⟩ = some (vs l) ∧ w.frozen? ⟨ob, l, none⟩ = false ∧ ob < w.heap.size ∧ w0.heap.size ≤ ob :=
  ⟨h.cell (i := 0) rfl (by simp [hl]), h.fz (i := 0) rfl l, (h.lt (i := 0) rfl).2, (h.lt (i := 0) rfl).1⟩
theorem Rws.frOwn (h : Rws w0 w (FR ob m vs f ++ rest)) {l : Nat} (hl : l < m) : w.ownsRow w0.heap.size 3 1 (vs l) (f l).length ((f l).flatMap encI) :=
  h.get (i := l + 1) (r := ⟨3, 1, vs l, (f l).length, (f l).flatMap encI⟩) (by unfold FR; rw [List.cons_append, List.getElem?_cons_succ, List.getElem?_append_left (by simpa using hl)]; simp [hl])
/-- An append to the l-th list: behind it, and behind the store. -/
theorem Rws.frGrow {w2 : World} (h : Rws w0 w (FR ob m vs f ++ rest)) (hB2 : Below w.heap.size w w2) {l : Nat} (hl : l < m) {v' : Value} {ys : List Int} (ho : w1.ownsRow w0.heap.size 3 1 v' ys.length (ys.flatMap encI)) (hg : w2.grownBy w1 (vs l).ownBlock)
    (hh : ∀ g, v'.ownBlock = some g → (vs l).ownBlock = some g ∨ w.heap.size ≤ g) :
    w1.cell? ⟨ob, l, none⟩ = some (vs l) ∧ w1.frozen? ⟨ob, l, none⟩ = false ∧ ob < w1.heap.size ∧ Rws w0 (w1.setCell ⟨ob, l, none⟩ v') (FR ob m (upd vs l v') (upd f l ys) ++ rest) := by
  have hi : (FR ob m vs f ++ rest)[l + 1]? = some (⟨3, 1, vs l, (f l).length, (f l).flatMap encI⟩ : Rw) := by
    unfold FR; rw [List.cons_append, List.getElem?_cons_succ, List.getElem?_append_left (by simpa using hl)]; simp [hl]
  have hs := h.grown hB2 (l + 1) hi ho hg hh
  have h0 : ((FR ob m vs f ++ rest).set (l + 1) ⟨3, 1, v', ys.length, ys.flatMap encI⟩)[0]? = some (⟨33, 1, .slice (some ⟨ob, 0, none⟩) m m, m, (List.range m).map vs⟩ : Rw) := by
    unfold FR; rw [List.cons_append, List.set_cons_succ]; rfl
  have h2 := hs.set 0 h0 l v'
  rw [FR.set v' ys rest hl] at h2
  exact ⟨hs.cell h0 (by simp [hl]), hs.fz h0 l, (hs.lt h0).2, h2⟩
end
end Go.Proofs.YtdhloijdefnkpaaGreatDoor

namespace Go.Proofs.YtdhloijdefnkpaaGreatDoor
open Go.RowKit Pl

def encT (x : B3) : List Value := [.int .i64 x.1, .int .i64 x.2.1, .int .i64 x.2.2]
theorem lenT (x : B3) : (encT x).length = 3 := rfl
def flN (n : Nat) (f : Nat → Nat) : List Int := fl n (fun i => (f i : Int))
theorem flN_len (n : Nat) (f : Nat → Nat) : (flN n f).length = n := fl_len _ _
theorem flN_get {n : Nat} (f : Nat → Nat) {i : Nat} (h : i < n) : (flN n f)[i]? = some (f i : Int) := fl_get _ h

theorem rowT : IsRow Tryz.prog 196 254 3 24 (.agg #[.int .i64 0, .int .i64 0, .int .i64 0]) := isRow_of Tryz.underlying196 (by kernel_rfl) rfl (by decide)

theorem flatI (L : List Int) : L.flatMap encI = L.map (Value.int .i64) := by
  induction L with
  | nil => rfl
  | cons x l ih => rw [List.flatMap_cons, ih]; rfl
theorem flN_map (n : Nat) (f : Nat → Nat) : (flN n f).flatMap encI = (List.range n).map (fun i => Value.int .i64 (f i : Int)) := by
  rw [flatI]; unfold flN fl; rw [List.map_map]; rfl
theorem range_map_set' {α : Type} {m l : Nat} (g : Nat → α) (x : α) : ((List.range m).map g).set l x = (List.range m).map (fun i => if i = l then x else g i) := by
  apply List.ext_getElem?
  intro i
  rw [List.getElem?_set]
  by_cases h : i < m
  · by_cases e : l = i
    · subst e; simp [h]
    · rw [if_neg e]
      simp [h, show ¬ i = l from fun e2 => e e2.symm]
  · by_cases e : l = i
    · subst e; simp [h]
    · rw [if_neg e]; simp [h]
theorem flN_set (n : Nat) (f : Nat → Nat) (j v : Nat) : ((flN n f).flatMap encI).set j (.int .i64 (v : Int)) = (flN n (upd f j v)).flatMap encI := by
  rw [flN_map, flN_map, range_map_set']
  apply List.map_congr_left
  intro i _
  unfold upd
  split <;> rfl
theorem flN_at {n : Nat} (f : Nat → Nat) {i : Nat} (h : i < n) : ((flN n f).flatMap encI)[i]? = some (.int .i64 (f i : Int)) := by
  rw [flN_map]; simp [h]
theorem flT_at {bl : List B3} {b : Nat} {x : B3} (h : bl[b]? = some x) : (bl.flatMap encT)[b * 3]? = some (.int .i64 (x.1 : Int)) ∧ (bl.flatMap encT)[b * 3 + 1]? = some (.int .i64 (x.2.1 : Int)) ∧ (bl.flatMap encT)[b * 3 + 2]? = some (.int .i64 (x.2.2 : Int)) :=
  ⟨by simpa using getElem?_flatMap lenT bl b x h 0 _ rfl, getElem?_flatMap lenT bl b x h 1 _ rfl, getElem?_flatMap lenT bl b x h 2 _ rfl⟩
theorem flT_set : ∀ {bl : List B3} {b : Nat} {x y : B3} (j : Nat) (v : Value), bl[b]? = some x → j < 3 → (encT x).set j v = encT y → (bl.flatMap encT).set (b * 3 + j) v = (bl.set b y).flatMap encT
  | [], b, x, y, j, v, h, _, _ => by simp at h
  | z :: bl, 0, x, y, j, v, h, hj, he => by
    simp at h; subst h
    rw [Nat.zero_mul, Nat.zero_add, List.flatMap_cons, List.set_cons_zero, List.flatMap_cons, List.set_append_left _ _ (by rw [lenT]; exact hj), he]
  | z :: bl, b + 1, x, y, j, v, h, hj, he => by
    rw [List.flatMap_cons, List.set_cons_succ, List.flatMap_cons, List.set_append_right _ _ (by rw [lenT, Nat.add_mul]; omega), lenT]
    rw [show (b + 1) * 3 + j - 3 = b * 3 + j by rw [Nat.add_mul]; omega, flT_set j v (by simpa using h) hj he]

/-- Where a partition's rows lie, and what they can hold. -/
structure PK where
  pb : Nat
  eb : Nat
  qb : Nat
  ib : Nat
  bb : Nat
  ce : Nat
  cq : Nat
  ci : Nat
  cb : Nat

def PR (K : PK) (n : Nat) (el pl inn : Nat → Nat) (bl : List B3) : List Rw :=
  [⟨198, 4, .slice (some ⟨K.pb, 0, none⟩) 1 1, 1, [.slice (some ⟨K.eb, 0, none⟩) n K.ce, .slice (some ⟨K.qb, 0, none⟩) n K.cq, .slice (some ⟨K.ib, 0, none⟩) n K.ci, .slice (some ⟨K.bb, 0, none⟩) bl.length K.cb]⟩,
   ⟨3, 1, .slice (some ⟨K.eb, 0, none⟩) n K.ce, n, (flN n el).flatMap encI⟩,
   ⟨3, 1, .slice (some ⟨K.qb, 0, none⟩) n K.cq, n, (flN n pl).flatMap encI⟩,
   ⟨3, 1, .slice (some ⟨K.ib, 0, none⟩) n K.ci, n, (flN n inn).flatMap encI⟩,
   ⟨254, 3, .slice (some ⟨K.bb, 0, none⟩) bl.length K.cb, bl.length, bl.flatMap encT⟩]

section
variable {w0 w w' w1 : World} {K : PK} {n : Nat} {el pl inn : Nat → Nat} {bl : List B3} {rest : List Rw}

theorem own_caps {base : Nat} {e : TypeId} {k n g c : Nat} {xs : List Value} (h : w.ownsRow base e k (.slice (some ⟨g, 0, none⟩) n c) n xs) : n ≤ c ∧ c ≤ maxLen := by
  rcases h.2 with ⟨h2, _⟩ | ⟨g', c', cur, hv, _, _, h3, h4, _⟩
  · simp at h2
  · simp only [Value.slice.injEq] at hv
    obtain ⟨_, _, rfl⟩ := hv
    exact ⟨h3, h4⟩

theorem Rws.pCells (h : Rws w0 w (PR K n el pl inn bl ++ rest)) :
    w.cell? ⟨K.pb, 0, none⟩ = some (.slice (some ⟨K.eb, 0, none⟩) n K.ce) ∧ w.cell? ⟨K.pb, 1, none⟩ = some (.slice (some ⟨K.qb, 0, none⟩) n K.cq) ∧ w.cell? ⟨K.pb, 2, none⟩ = some (.slice (some ⟨K.ib, 0, none⟩) n K.ci) ∧ w.cell? ⟨K.pb, 3, none⟩ = some (.slice (some ⟨K.bb, 0, none⟩) bl.length K.cb) :=
  ⟨h.cell (i := 0) rfl rfl, h.cell (i := 0) rfl rfl, h.cell (i := 0) rfl rfl, h.cell (i := 0) rfl rfl⟩
theorem Rws.pLts (h : Rws w0 w (PR K n el pl inn bl ++ rest)) : K.pb < w.heap.size ∧ K.eb < w.heap.size ∧ K.qb < w.heap.size ∧ K.ib < w.heap.size ∧ K.bb < w.heap.size :=
  ⟨(h.lt (i := 0) rfl).2, (h.lt (i := 1) rfl).2, (h.lt (i := 2) rfl).2, (h.lt (i := 3) rfl).2, (h.lt (i := 4) rfl).2⟩
theorem Rws.pLo (h : Rws w0 w (PR K n el pl inn bl ++ rest)) : w0.heap.size ≤ K.pb ∧ w0.heap.size ≤ K.eb ∧ w0.heap.size ≤ K.qb ∧ w0.heap.size ≤ K.ib ∧ w0.heap.size ≤ K.bb :=
  ⟨(h.lt (i := 0) rfl).1, (h.lt (i := 1) rfl).1, (h.lt (i := 2) rfl).1, (h.lt (i := 3) rfl).1, (h.lt (i := 4) rfl).1⟩
theorem Rws.pCaps (h : Rws w0 w (PR K n el pl inn bl ++ rest)) : n ≤ K.ce ∧ n ≤ K.cq ∧ n ≤ K.ci ∧ bl.length ≤ K.cb :=
  ⟨(own_caps (h.get (i := 1) rfl)).1, (own_caps (h.get (i := 2) rfl)).1, (own_caps (h.get (i := 3) rfl)).1, (own_caps (h.get (i := 4) rfl)).1⟩
theorem Rws.pNe (h : Rws w0 w (PR K n el pl inn bl ++ rest)) : K.pb ≠ K.eb ∧ K.pb ≠ K.qb ∧ K.pb ≠ K.ib ∧ K.pb ≠ K.bb ∧ K.eb ≠ K.qb ∧ K.eb ≠ K.ib ∧ K.eb ≠ K.bb ∧ K.qb ≠ K.ib ∧ K.qb ≠ K.bb ∧ K.ib ≠ K.bb :=
  ⟨h.ne' (i := 0) (j := 1) rfl rfl (by decide), h.ne' (i := 0) (j := 2) rfl rfl (by decide), h.ne' (i := 0) (j := 3) rfl rfl (by decide), h.ne' (i := 0) (j := 4) rfl rfl (by decide), h.ne' (i := 1) (j := 2) rfl rfl (by decide), h.ne' (i := 1) (j := 3) rfl rfl (by decide), h.ne' (i := 1) (j := 4) rfl rfl (by decide), h.ne' (i := 2) (j := 3) rfl rfl (by decide), h.ne' (i := 2) (j := 4) rfl rfl (by decide), h.ne' (i := 3) (j := 4) rfl rfl (by decide)⟩
theorem Rws.pFz (h : Rws w0 w (PR K n el pl inn bl ++ rest)) (j : Nat) : w.frozen? ⟨K.pb, j, none⟩ = false ∧ w.frozen? ⟨K.eb, j, none⟩ = false ∧ w.frozen? ⟨K.qb, j, none⟩ = false ∧ w.frozen? ⟨K.ib, j, none⟩ = false ∧ w.frozen? ⟨K.bb, j, none⟩ = false :=
  ⟨h.fz (i := 0) rfl j, h.fz (i := 1) rfl j, h.fz (i := 2) rfl j, h.fz (i := 3) rfl j, h.fz (i := 4) rfl j⟩
theorem Rws.pEl (h : Rws w0 w (PR K n el pl inn bl ++ rest)) {i : Nat} (hi : i < n) : w.cell? ⟨K.eb, i, none⟩ = some (.int .i64 (el i : Int)) := h.cell (i := 1) rfl (flN_at _ hi)
theorem Rws.pPl (h : Rws w0 w (PR K n el pl inn bl ++ rest)) {i : Nat} (hi : i < n) : w.cell? ⟨K.qb, i, none⟩ = some (.int .i64 (pl i : Int)) := h.cell (i := 2) rfl (flN_at _ hi)
theorem Rws.pIn (h : Rws w0 w (PR K n el pl inn bl ++ rest)) {i : Nat} (hi : i < n) : w.cell? ⟨K.ib, i, none⟩ = some (.int .i64 (inn i : Int)) := h.cell (i := 3) rfl (flN_at _ hi)
theorem Rws.pBl (h : Rws w0 w (PR K n el pl inn bl ++ rest)) {b : Nat} {x : B3} (hb : bl[b]? = some x) : w.cell? ⟨K.bb, b * 3, none⟩ = some (.int .i64 (x.1 : Int)) ∧ w.cell? ⟨K.bb, b * 3 + 1, none⟩ = some (.int .i64 (x.2.1 : Int)) ∧ w.cell? ⟨K.bb, b * 3 + 2, none⟩ = some (.int .i64 (x.2.2 : Int)) := by
  obtain ⟨h0, h1, h2⟩ := flT_at hb
  exact ⟨h.cell (i := 4) rfl h0, h.cell (i := 4) rfl h1, h.cell (i := 4) rfl h2⟩

theorem Rws.pSetEl (h : Rws w0 w (PR K n el pl inn bl ++ rest)) (j v : Nat) : Rws w0 (w.setCell ⟨K.eb, j, none⟩ (.int .i64 (v : Int))) (PR K n (upd el j v) pl inn bl ++ rest) := by
  have := h.set 1 rfl j (.int .i64 (v : Int)); rw [flN_set] at this; exact this
theorem Rws.pSetPl (h : Rws w0 w (PR K n el pl inn bl ++ rest)) (j v : Nat) : Rws w0 (w.setCell ⟨K.qb, j, none⟩ (.int .i64 (v : Int))) (PR K n el (upd pl j v) inn bl ++ rest) := by
  have := h.set 2 rfl j (.int .i64 (v : Int)); rw [flN_set] at this; exact this
theorem Rws.pSetIn (h : Rws w0 w (PR K n el pl inn bl ++ rest)) (j v : Nat) : Rws w0 (w.setCell ⟨K.ib, j, none⟩ (.int .i64 (v : Int))) (PR K n el pl (upd inn j v) bl ++ rest) := by
  have := h.set 3 rfl j (.int .i64 (v : Int)); rw [flN_set] at this; exact this
theorem Rws.pSetBl (h : Rws w0 w (PR K n el pl inn bl ++ rest)) {b : Nat} {x y : B3} (hb : bl[b]? = some x) (j : Nat) (v : Value) (hj : j < 3) (he : (encT x).set j v = encT y) : Rws w0 (w.setCell ⟨K.bb, b * 3 + j, none⟩ v) (PR K n el pl inn (bl.set b y) ++ rest) := by
  have := h.set 4 rfl (b * 3 + j) v; rw [flT_set j v hb hj he] at this
  have e : PR K n el pl inn (bl.set b y) = (PR K n el pl inn bl).set 4 ⟨254, 3, .slice (some ⟨K.bb, 0, none⟩) bl.length K.cb, bl.length, (bl.set b y).flatMap encT⟩ := by
    unfold PR; rw [List.length_set]; rfl
  rw [e]
  exact this
end

/-- A partition's world. -/
structure PW (w0 w : World) (K : PK) (n : Nat) (el pl inn : Nat → Nat) (bl : List B3) (rest : List Rw) : Prop where
  rws : Rws w0 w (PR K n el pl inn bl ++ rest)
  pi : PI n el pl inn bl
  n1 : n ≤ 1000
end Go.Proofs.YtdhloijdefnkpaaGreatDoor

namespace Go.Proofs.YtdhloijdefnkpaaGreatDoor
open Go.RowKit Pl

theorem bdrewP {w0 w : World} {B : Nat} (h : Below B w0 w) (n : Nat) : Below B w0 (w.drewN n) := ⟨h.os, h.tape, h.output, h.size, h.block⟩

section
variable {w0 w : World} {K : PK} {n : Nat} {el pl inn : Nat → Nat} {bl : List B3} {rest : List Rw}

set_option maxRecDepth 100000 in
theorem parOwn_any (w : World) (b : Nat) : Calls Tryz.prog 137 #[.pointer (some ⟨b, 0, none⟩)] w fun e w' => e = .returned (.pointer (some ⟨b, 0, none⟩)) ∧ w = w' := by
  go_enter Tryz.func137, Tryz.ntmps137
  go_wp2_with fail
  go_ret
  exact ⟨rfl, rfl⟩

set_option maxRecDepth 100000 in
theorem asked_ok (w : World) (b i n : Nat) (hi : i < n) : Calls Tryz.prog 169 #[.pointer (some ⟨b, 0, none⟩), .int .i64 i, .int .i64 n] w fun e w' => e = .returned .nilIface ∧ w = w' := by
  have h1 : ¬ (n : Int) ≤ (i : Int) := by omega
  go_enter Tryz.func169, Tryz.ntmps169
  go_wp2_with fail
  go_ret
  exact ⟨rfl, rfl⟩

set_option maxRecDepth 100000 in
theorem parSize_any (h : Rws w0 w (PR K n el pl inn bl ++ rest)) : Calls Tryz.prog 182 #[.pointer (some ⟨K.pb, 0, none⟩)] w fun e w' => e = .returned (.int .i64 n) ∧ w = w' := by
  obtain ⟨c0, c1, c2, c3⟩ := h.pCells
  have l0 := h.pLts.1
  clear h
  go_enter Tryz.func182, Tryz.ntmps182
  go_wp2_with fail
  refine (parOwn_any w K.pb).mono ?_
  rintro e w1 ⟨rfl, rfl⟩
  go_wp2_with fail
  go_ret
  exact ⟨rfl, rfl⟩

set_option maxRecDepth 100000 in
theorem parBlocks_any (h : Rws w0 w (PR K n el pl inn bl ++ rest)) : Calls Tryz.prog 166 #[.pointer (some ⟨K.pb, 0, none⟩)] w fun e w' => e = .returned (.int .i64 bl.length) ∧ w = w' := by
  obtain ⟨c0, c1, c2, c3⟩ := h.pCells
  have l0 := h.pLts.1
  obtain ⟨m, hm⟩ : ∃ m, m = bl.length := ⟨_, rfl⟩
  rw [← hm] at c3 ⊢
  clear h hm
  go_enter Tryz.func166, Tryz.ntmps166
  go_wp2_with fail
  refine (parOwn_any w K.pb).mono ?_
  rintro e w1 ⟨rfl, rfl⟩
  go_wp2_with fail
  go_ret
  exact ⟨rfl, rfl⟩

set_option maxRecDepth 100000 in
theorem parRow_any' (h : Rws w0 w (PR K n el pl inn bl ++ rest)) (_hn : n ≤ 1000) {b : Nat} {x : B3} (hx : bl[b]? = some x) (b1 : x.1 < x.2.1) (b2 : x.2.1 ≤ n) : Calls Tryz.prog 168 #[.pointer (some ⟨K.pb, 0, none⟩), .int .i64 b] w fun e w' =>
    e = .returned (.slice (some ⟨K.eb, x.1, none⟩) (x.2.1 - x.1) (x.2.1 - x.1)) ∧ Below w.heap.size w w' := by
  obtain ⟨c0, c1, c2, c3⟩ := h.pCells
  obtain ⟨l0, l1, l2, l3, l4⟩ := h.pLts
  obtain ⟨d0, d1, d2⟩ := h.pBl hx
  obtain ⟨k0, k1, k2, k3⟩ := h.pCaps
  have hbl := (List.getElem?_eq_some_iff.1 hx).1
  obtain ⟨m, hm⟩ : ∃ m, m = bl.length := ⟨_, rfl⟩
  rw [← hm] at c3 hbl
  obtain ⟨x1, x2, x3⟩ := x
  simp only at d0 d1 d2 b1 b2 ⊢
  have q1 : (b : Int) < (m : Int) := by omega
  have q2 : (x1 : Int) ≤ (x2 : Int) := by omega
  have q3 : (x2 : Int) ≤ (K.ce : Int) := by omega
  have q4 : x1 < x2 := by omega
  clear h hx hm k0 k1 k2 k3
  go_enter Tryz.func168, Tryz.ntmps168
  go_wp2_with fail
  go_quiet (fail)
  go_wp2_with fail
  go_ret
  exact ⟨rfl, bdrewP ((Below.refl _ _).alloc (Nat.le_refl _) _) _⟩

theorem parRow_any (h : PW w0 w K n el pl inn bl rest) {b : Nat} {x : B3} (hx : bl[b]? = some x) : Calls Tryz.prog 168 #[.pointer (some ⟨K.pb, 0, none⟩), .int .i64 b] w fun e w' =>
    e = .returned (.slice (some ⟨K.eb, x.1, none⟩) (x.2.1 - x.1) (x.2.1 - x.1)) ∧ Below w.heap.size w w' := by
  obtain ⟨b1, b2, b3⟩ := h.pi.blk b x hx
  exact parRow_any' h.rws h.n1 hx b1 b2

theorem rowE0 {el : Nat → Nat} {x : B3} (h : x.1 < x.2.1) : (elRow el x)[0]? = some (el x.1) := by
  unfold elRow
  obtain ⟨m, hm⟩ : ∃ m, x.2.1 - x.1 = m + 1 := ⟨x.2.1 - x.1 - 1, by omega⟩
  rw [hm]; simp [List.range'_succ]

set_option maxRecDepth 100000 in
theorem parFirst_any (h : PW w0 w K n el pl inn bl rest) {b : Nat} {x : B3} (hx : bl[b]? = some x) : Calls Tryz.prog 167 #[.pointer (some ⟨K.pb, 0, none⟩), .int .i64 b] w fun e w' =>
    e = .returned (.int .i64 (el x.1 : Int)) ∧ Below w.heap.size w w' := by
  obtain ⟨b1, b2, b3⟩ := h.pi.blk b x hx
  have HR := Lib.hid (parRow_any h hx)
  have H := Lib.hid h
  obtain ⟨x1, x2, x3⟩ := x
  simp only at b1 b2 b3 HR ⊢
  have q4 : 0 < x2 - x1 := by omega
  have q5 : x1 < n := by omega
  clear h hx b1 b2 b3
  go_enter Tryz.func167, Tryz.ntmps167
  go_wp2_with fail
  refine HR.out.mono ?_
  rintro e w1 ⟨rfl, hB⟩
  have h1 := H.out.rws.call hB
  have c0 := h1.pEl q5
  have l0 := h1.pLts.2.1
  have HB := Lib.hid hB
  clear h1 hB
  go_wp2_with fail
  go_ret
  exact ⟨rfl, HB.out⟩

set_option maxRecDepth 100000 in
theorem parLen_any (h : PW w0 w K n el pl inn bl rest) {b : Nat} {x : B3} (hx : bl[b]? = some x) : Calls Tryz.prog 135 #[.pointer (some ⟨K.pb, 0, none⟩), .int .i64 b] w fun e w' =>
    e = .returned (.int .i64 ((memN n inn b).length : Int)) ∧ Below w.heap.size w w' := by
  have HR := Lib.hid (parRow_any h hx)
  rw [h.pi.rowE_len hx]
  clear h hx
  go_enter Tryz.func135, Tryz.ntmps135
  go_wp2_with fail
  refine HR.out.mono ?_
  rintro e w1 ⟨rfl, hB⟩
  have HB := Lib.hid hB
  clear hB
  go_wp2_with fail
  go_ret
  exact ⟨rfl, HB.out⟩
end
end Go.Proofs.YtdhloijdefnkpaaGreatDoor

namespace Go.Proofs.YtdhloijdefnkpaaGreatDoor
open Go.RowKit Pl

section
variable {w0 w : World} {K : PK} {n : Nat} {el pl inn : Nat → Nat} {bl : List B3} {rest : List Rw}

set_option maxRecDepth 100000 in
set_option maxHeartbeats 2000000 in
theorem swap_any (h : Rws w0 w (PR K n el pl inn bl ++ rest)) {i k : Nat} (hi : i < n) (hk : k < n) (hei : el i < n) (hek : el k < n) :
    Calls Tryz.prog 183 #[.pointer (some ⟨K.pb, 0, none⟩), .int .i64 i, .int .i64 k] w fun e w' => e = .returned (.tuple #[]) ∧ Rws w0 w' (PR K n (swE el i k) (swP el pl i k) inn bl ++ rest) := by
  obtain ⟨c0, c1, c2, c3⟩ := h.pCells
  obtain ⟨l0, l1, l2, l3, l4⟩ := h.pLts
  have d1 := h.pEl hi; have d2 := h.pEl hk
  have f1 := (h.pFz i).2.1; have f2 := (h.pFz k).2.1
  obtain ⟨n1, n2, n3, n4, n5, n6, n7, n8, n9, n10⟩ := h.pNe
  obtain ⟨a, ha⟩ : ∃ a, a = el i := ⟨_, rfl⟩
  obtain ⟨b, hb⟩ : ∃ b, b = el k := ⟨_, rfl⟩
  have hiI : (i : Int) < (n : Int) := by omega
  have hkI : (k : Int) < (n : Int) := by omega
  have haI : (a : Int) < (n : Int) := by omega
  have hbI : (b : Int) < (n : Int) := by omega
  have h1 : Rws w0 ((w.setCell ⟨K.eb, i, none⟩ (.int .i64 (b : Int))).setCell ⟨K.eb, k, none⟩ (.int .i64 (a : Int))).drew (PR K n (swE el i k) pl inn bl ++ rest) := by
    have := ((h.pSetEl i b).pSetEl k a).drew
    rw [ha, hb] at this ⊢
    exact this
  have g1 : swE el i k i = b := by
    unfold swE upd
    by_cases e : i = k
    · subst e; simp [hb]
    · simp [e, hb]
  have g2 : swE el i k k = a := by unfold swE upd; simp [ha]
  rw [← ha] at d1; rw [← hb] at d2
  have d3 := (h.pSetEl i b).pEl hk
  have f3 := ((h.pSetEl i b).pFz k).2.1
  obtain ⟨u, hu⟩ : ∃ u, u = upd el i b k := ⟨_, rfl⟩
  rw [← hu] at d3
  have H1 := Lib.hid h1; have G1 := Lib.hid g1; have G2 := Lib.hid g2
  have HA := Lib.hid ha; have HB := Lib.hid hb
  have han : a < n := by omega
  have hbn : b < n := by omega
  clear h h1 g1 g2 ha hb hei hek c1 c2 c3 hu
  go_enter Tryz.func183, Tryz.ntmps183
  go_wp2_with fail
  go_region
  obtain ⟨W, hW⟩ : ∃ W, W = ((w.setCell ⟨K.eb, i, none⟩ (.int .i64 (b : Int))).setCell ⟨K.eb, k, none⟩ (.int .i64 (a : Int))).drew := ⟨_, rfl⟩
  rw [← hW] at H1 ⊢
  clear hW c0 l0 l1 l2 l3 l4 d1 d2 d3 f1 f2 f3
  obtain ⟨c0, c1, c2, c3⟩ := H1.out.pCells
  obtain ⟨l0, l1, l2, l3, l4⟩ := H1.out.pLts
  have d1 := H1.out.pEl hi; have d2 := H1.out.pEl hk
  rw [G1.out] at d1; rw [G2.out] at d2
  have e1 := H1.out.pPl han; have e2 := H1.out.pPl hbn
  have f1 := (H1.out.pFz a).2.2.1; have f2 := (H1.out.pFz b).2.2.1
  have e3 := (H1.out.pSetPl b i).pPl han
  have f3 := ((H1.out.pSetPl b i).pFz a).2.2.1
  obtain ⟨v, hv⟩ : ∃ v, v = upd pl b i a := ⟨_, rfl⟩
  rw [← hv] at e3
  have h2 : Rws w0 ((W.setCell ⟨K.qb, b, none⟩ (.int .i64 (i : Int))).setCell ⟨K.qb, a, none⟩ (.int .i64 (k : Int))).drew (PR K n (swE el i k) (swP el pl i k) inn bl ++ rest) := by
    unfold swP
    rw [← HA.out, ← HB.out]
    exact ((H1.out.pSetPl b i).pSetPl a k).drew
  have H2 := Lib.hid h2
  clear c2 c3 l3 l4 hv h2 H1 HA HB G1 G2
  go_wp2_with fail
  go_region
  go_end0
  exact ⟨rfl, H2.out⟩
end
end Go.Proofs.YtdhloijdefnkpaaGreatDoor

namespace Go.Proofs.YtdhloijdefnkpaaGreatDoor
open Go.RowKit Pl

/-- What Mark answers. -/
def MarkPost (w0 : World) (K : PK) (n : Nat) (inn pl : Nat → Nat) (bl : List B3) (rest : List Rw) (e : Nat) (r : Ending) (w' : World) : Prop :=
  ∃ (m : Bool) (el' pl' : Nat → Nat) (bl' : List B3), r = .returned (.tuple #[.bool m, .nilIface]) ∧ PW w0 w' K n el' pl' inn bl' rest ∧ bl'.length = bl.length ∧ ∀ z, z < n → (Mkd pl' inn bl' z ↔ Mkd pl inn bl z ∨ z = e)

section
variable {w0 w : World} {K : PK} {n : Nat} {el pl inn : Nat → Nat} {bl : List B3} {rest : List Rw}

set_option maxRecDepth 100000 in
set_option maxHeartbeats 2000000 in
theorem mark_any (h : PW w0 w K n el pl inn bl rest) {e : Nat} (he : e < n) :
    Calls Tryz.prog 163 #[.pointer (some ⟨K.pb, 0, none⟩), .int .i64 e] w (MarkPost w0 K n inn pl bl rest e) := by
  have H := Lib.hid h
  obtain ⟨c0, c1, c2, c3⟩ := h.rws.pCells
  obtain ⟨l0, l1, l2, l3, l4⟩ := h.rws.pLts
  obtain ⟨x, hx, hp1, hp2⟩ := h.pi.hin e he
  obtain ⟨b1, b2, b3⟩ := h.pi.blk _ x hx
  have d1 := h.rws.pPl he; have d2 := h.rws.pIn he
  obtain ⟨g0, g1, g2⟩ := h.rws.pBl hx
  have hin := h.pi.lt he
  have hpn := (h.pi.hpl e he).1
  have hpe := (h.pi.hpl e he).2
  have hn := h.n1
  have hmk := h.pi.mark he hx
  have hif := mkd_iff (pl := pl) hx
  have HX := Lib.hid hx; have HMK := Lib.hid hmk; have HIF := Lib.hid hif; have HPE := Lib.hid hpe
  obtain ⟨i, hi⟩ : ∃ i, i = inn e := ⟨_, rfl⟩
  obtain ⟨p, hp⟩ : ∃ p, p = pl e := ⟨_, rfl⟩
  obtain ⟨m, hm⟩ : ∃ m, m = bl.length := ⟨_, rfl⟩
  rw [← hi] at hin d2 g0 g1 g2; rw [← hp] at d1 hp1 hp2 hpn; rw [← hm] at c3 hin
  have HI := Lib.hid hi; have HP := Lib.hid hp
  have heI : (e : Int) < (n : Int) := by omega
  have hiI : (i : Int) < (m : Int) := by omega
  have hS := Lib.hid (parSize_any h.rws)
  have hA := Lib.hid (asked_ok w K.pb e n he)
  obtain ⟨x1, x2, x3⟩ := x
  simp only at g0 g1 g2 hp1 hp2 b1 b2 b3
  clear h hx hmk hif hpe hi hp hm
  by_cases hlt : p < x1 + x3
  · have hb : decide ((p : Int) < (x1 : Int) + (x3 : Int)) = true := by simp; omega
    go_enter Tryz.func163, Tryz.ntmps163
    go_wp2_with fail
    refine hS.out.mono ?_
    rintro e w1 ⟨rfl, rfl⟩
    go_wp2_with fail
    refine hA.out.mono ?_
    rintro e w1 ⟨rfl, rfl⟩
    go_wp2_with fail
    go_quiet (fail)
    go_wp2_with fail
    go_quiet (fail)
    go_wp2_with fail
    go_ret2
    refine ⟨false, el, pl, bl, rfl, ⟨(H.out.rws.drewN _).drewN _, H.out.pi, H.out.n1⟩, rfl, fun z hz => ⟨fun h => .inl h, ?_⟩⟩
    rintro (h | rfl)
    · exact h
    · exact HIF.out.2 (by rw [← HP.out]; exact hlt)
  · have hb : decide ((p : Int) < (x1 : Int) + (x3 : Int)) = false := by simp; omega
    obtain ⟨hpi, hmk⟩ := HMK.out (by rw [← HP.out]; simp only; omega)
    rw [← HP.out, ← HI.out] at hpi
    rw [← HP.out, ← HI.out] at hmk
    simp only at hpi hmk
    have HPI := Lib.hid hpi; have HMK2 := Lib.hid hmk
    clear hpi hmk HMK
    go_enter Tryz.func163, Tryz.ntmps163
    go_wp2_with fail
    refine hS.out.mono ?_
    rintro e w1 ⟨rfl, rfl⟩
    go_wp2_with fail
    refine hA.out.mono ?_
    rintro e w1 ⟨rfl, rfl⟩
    go_wp2_with fail
    go_quiet (fail)
    obtain ⟨v1, hv1⟩ : ∃ v1, v1 = w.drewN nq := ⟨_, rfl⟩
    have HV1 := Lib.hid (H.out.rws.drewN nq)
    rw [← hv1] at HV1 ⊢
    clear hv1 c0 c1 c2 c3 d1 d2 g0 g1 g2 l0 l1 l2 l3 l4 hS hA
    have hbi : bl[i]? = some (x1, x2, x3) := by rw [HI.out]; exact HX.out
    obtain ⟨c0, c1, c2, c3⟩ := HV1.out.pCells
    obtain ⟨l0, l1, l2, l3, l4⟩ := HV1.out.pLts
    have d1 := HV1.out.pPl he
    obtain ⟨g0, g1, g2⟩ := HV1.out.pBl hbi
    rw [← HP.out] at d1
    simp only at g0 g1 g2
    have HBI := Lib.hid hbi
    clear hbi
    go_wp2_with fail
    go_quiet (fail)
    obtain ⟨v2, hv2⟩ : ∃ v2, v2 = v1.drewN nq := ⟨_, rfl⟩
    have HV2 := Lib.hid (HV1.out.drewN nq)
    rw [← hv2] at HV2 ⊢
    clear hv2 c0 c1 c2 c3 d1 g0 g1 g2 l0 l1 l2 l3 l4
    have HV3 := Lib.hid HV2.out.drew
    obtain ⟨c0, c1, c2, c3⟩ := HV2.out.pCells
    obtain ⟨l0, l1, l2, l3, l4⟩ := HV2.out.pLts
    have d1 := HV2.out.pPl he
    obtain ⟨g0, g1, g2⟩ := HV2.out.pBl HBI.out
    rw [← HP.out] at d1
    simp only at g0 g1 g2
    go_upto_region 7 with fail
    clear hb
    go_cut [] from 45 to 62 (fun wx => Rws w0 wx (PR K n (swE el p (x1 + x3)) (swP el pl p (x1 + x3)) inn bl ++ rest))
    case first =>
      have hk1 : x1 + x3 < n := by omega
      have hep : el p < n := by have := HPE.out; rw [← HP.out] at this; omega
      have hek : el (x1 + x3) < n := (H.out.pi.hel _ hk1).1
      have HCAST : RowKit.Hid (IntKind.i64.wrap ((x1 : Int) + (x3 : Int)) = ((x1 + x3 : Nat) : Int)) := Lib.hid (by rw [IntWalk.i64_in _ (by omega)]; omega)
      have KEEP : RowKit.Hid (∀ W, Rws w0 W (PR K n (swE el p (x1 + x3)) (swP el pl p (x1 + x3)) inn bl ++ rest) →
          W.cell? ⟨K.pb, 1, none⟩ = some (.slice (some ⟨K.qb, 0, none⟩) n K.cq) ∧ W.cell? ⟨K.bb, i * 3, none⟩ = some (.int .i64 x1) ∧ W.cell? ⟨K.bb, i * 3 + 2, none⟩ = some (.int .i64 x3)) :=
        Lib.hid (fun W hW => ⟨hW.pCells.2.1, (hW.pBl HBI.out).1, (hW.pBl HBI.out).2.2⟩)
      refine wp_region_held_drew (S := (fun W => W.cell? ⟨K.pb, 1, none⟩ = some (.slice (some ⟨K.qb, 0, none⟩) n K.cq) ∧ W.cell? ⟨K.bb, i * 3, none⟩ = some (.int .i64 x1) ∧ W.cell? ⟨K.bb, i * 3 + 2, none⟩ = some (.int .i64 x3))) (by kernel_rfl) (by (try dsimp only); go_keep) (fun hHeld => ?_)
      refine wpAnyH_take (i := 0) (v := ?_) rfl (by kernel_rfl) (by kernel_rfl) (by kernel_rfl) (fun _ _ _ h => h) (Or.inl ⟨by rfl, ?_⟩) (by assumption) ?_
      rotate_left
      · intro w hSw
        try dsimp only at hSw
        go_simp
        try with_reducible rfl
      try simp only [List.getElem_toArray, List.getElem_cons_zero, Act.put, List.setIfInBounds_toArray, List.set_cons_zero, List.set_cons_succ]
      refine wpAnyH_take (i := 1) (v := ?_) rfl (by kernel_rfl) (by kernel_rfl) (by kernel_rfl) (fun _ _ _ h => h) (Or.inl ⟨by rfl, ?_⟩) (by assumption) ?_
      rotate_left
      · intro w hSw
        try dsimp only at hSw
        go_simp
        try with_reducible rfl
      try simp only [List.getElem_toArray, List.getElem_cons_zero, List.getElem_cons_succ, Act.put, List.setIfInBounds_toArray, List.set_cons_zero, List.set_cons_succ]
      refine wpAnyH_take (i := 2) (v := ?_) rfl (by kernel_rfl) (by kernel_rfl) (by kernel_rfl) (fun _ _ _ h => h) (Or.inl ⟨by rfl, ?_⟩) (by assumption) ?_
      rotate_left
      · intro w hSw
        try dsimp only at hSw
        go_simp
        try with_reducible rfl
      try simp only [List.getElem_toArray, List.getElem_cons_zero, List.getElem_cons_succ, Act.put, List.setIfInBounds_toArray, List.set_cons_zero, List.set_cons_succ]
      refine wpAnyH_take (i := 3) (v := ?_) rfl (by kernel_rfl) (by kernel_rfl) (by kernel_rfl) (fun _ _ _ h => h) (Or.inl ⟨by rfl, ?_⟩) (by assumption) ?_
      rotate_left
      · intro w hSw
        try dsimp only at hSw
        go_simp
        try with_reducible rfl
      try simp only [List.getElem_toArray, List.getElem_cons_zero, List.getElem_cons_succ, Act.put, List.setIfInBounds_toArray, List.set_cons_zero, List.set_cons_succ]
      refine wpAnyH_take (i := 4) (v := ?_) rfl (by kernel_rfl) (by kernel_rfl) (by kernel_rfl) (fun _ _ _ h => h) (Or.inl ⟨by rfl, ?_⟩) (by assumption) ?_
      rotate_left
      · intro w hSw
        try dsimp only at hSw
        go_simp
        try with_reducible rfl
      try simp only [List.getElem_toArray, List.getElem_cons_zero, List.getElem_cons_succ, Act.put, List.setIfInBounds_toArray, List.set_cons_zero, List.set_cons_succ]
      refine wpAnyH_take (i := 5) (v := ?_) rfl (by kernel_rfl) (by kernel_rfl) (by kernel_rfl) (fun _ _ _ h => h) (Or.inl ⟨by rfl, ?_⟩) (by assumption) ?_
      rotate_left
      · intro w hSw
        try dsimp only at hSw
        go_simp
        try with_reducible rfl
      try simp only [List.getElem_toArray, List.getElem_cons_zero, List.getElem_cons_succ, Act.put, List.setIfInBounds_toArray, List.set_cons_zero, List.set_cons_succ]
      refine wpAnyH_take (i := 6) (v := ?_) rfl (by kernel_rfl) (by kernel_rfl) (by kernel_rfl) (fun _ _ _ h => h) (Or.inl ⟨by rfl, ?_⟩) (by assumption) ?_
      rotate_left
      · intro w hSw
        try dsimp only at hSw
        go_simp
        try with_reducible rfl
      try simp only [List.getElem_toArray, List.getElem_cons_zero, List.getElem_cons_succ, Act.put, List.setIfInBounds_toArray, List.set_cons_zero, List.set_cons_succ]
      refine wpAnyH_take (i := 8) (v := ?_) rfl (by kernel_rfl) (by kernel_rfl) (by kernel_rfl) (fun _ _ _ h => h) (Or.inl ⟨by rfl, ?_⟩) (by assumption) ?_
      rotate_left
      · intro w hSw
        try dsimp only at hSw
        go_simp
        try with_reducible rfl
      try simp only [List.getElem_toArray, List.getElem_cons_zero, List.getElem_cons_succ, Act.put, List.setIfInBounds_toArray, List.set_cons_zero, List.set_cons_succ]
      refine wpAnyH_take (i := 9) (v := ?_) rfl (by kernel_rfl) (by kernel_rfl) (by kernel_rfl) (fun _ _ _ h => h) (Or.inl ⟨by rfl, ?_⟩) (by assumption) ?_
      rotate_left
      · intro w hSw
        try dsimp only at hSw
        go_simp
        try with_reducible rfl
      try simp only [List.getElem_toArray, List.getElem_cons_zero, List.getElem_cons_succ, Act.put, List.setIfInBounds_toArray, List.set_cons_zero, List.set_cons_succ]
      refine wpAnyH_take (i := 10) (v := ?_) rfl (by kernel_rfl) (by kernel_rfl) (by kernel_rfl) (fun _ _ _ h => h) (Or.inl ⟨by rfl, ?_⟩) (by assumption) ?_
      rotate_left
      · intro w hSw
        try dsimp only at hSw
        go_simp
        try with_reducible rfl
      try simp only [List.getElem_toArray, List.getElem_cons_zero, List.getElem_cons_succ, Act.put, List.setIfInBounds_toArray, List.set_cons_zero, List.set_cons_succ]
      refine wpAnyH_take (i := 11) (v := ?_) rfl (by kernel_rfl) (by kernel_rfl) (by kernel_rfl) (fun _ _ _ h => h) (Or.inl ⟨by rfl, ?_⟩) (by assumption) ?_
      rotate_left
      · intro w hSw
        try dsimp only at hSw
        go_simp
        try with_reducible rfl
      try simp only [List.getElem_toArray, List.getElem_cons_zero, List.getElem_cons_succ, Act.put, List.setIfInBounds_toArray, List.set_cons_zero, List.set_cons_succ]
      refine wpAnyH_take (i := 12) (v := ?_) rfl (by kernel_rfl) (by kernel_rfl) (by kernel_rfl) (fun _ _ _ h => h) (Or.inl ⟨by rfl, ?_⟩) (by assumption) ?_
      rotate_left
      · intro w hSw
        try dsimp only at hSw
        go_simp
        try with_reducible rfl
      try simp only [List.getElem_toArray, List.getElem_cons_zero, List.getElem_cons_succ, Act.put, List.setIfInBounds_toArray, List.set_cons_zero, List.set_cons_succ]
      refine wpAnyH_take (i := 13) (v := ?_) rfl (by kernel_rfl) (by kernel_rfl) (by kernel_rfl) (fun _ _ _ h => h) (Or.inl ⟨by rfl, ?_⟩) (by assumption) ?_
      rotate_left
      · intro w hSw
        try dsimp only at hSw
        go_simp
        try with_reducible rfl
      try simp only [List.getElem_toArray, List.getElem_cons_zero, List.getElem_cons_succ, Act.put, List.setIfInBounds_toArray, List.set_cons_zero, List.set_cons_succ]
      refine wpAnyH_take (i := 14) (v := ?_) rfl (by kernel_rfl) (by kernel_rfl) (by kernel_rfl) (fun _ _ _ h => h) (Or.inl ⟨by rfl, ?_⟩) (by assumption) ?_
      rotate_left
      · intro w hSw
        try dsimp only at hSw
        go_simp
        try with_reducible rfl
      try simp only [List.getElem_toArray, List.getElem_cons_zero, List.getElem_cons_succ, Act.put, List.setIfInBounds_toArray, List.set_cons_zero, List.set_cons_succ]
      refine wpAnyH_take (i := 15) (v := ?_) rfl (by kernel_rfl) (by kernel_rfl) (by kernel_rfl) (fun _ _ _ h => h) (Or.inl ⟨by rfl, ?_⟩) (by assumption) ?_
      rotate_left
      · intro w hSw
        try dsimp only at hSw
        go_simp
        try with_reducible rfl
      try simp only [List.getElem_toArray, List.getElem_cons_zero, List.getElem_cons_succ, Act.put, List.setIfInBounds_toArray, List.set_cons_zero, List.set_cons_succ]
      refine wpAnyH_take (i := 16) (v := ?_) rfl (by kernel_rfl) (by kernel_rfl) (by kernel_rfl) (fun _ _ _ h => h) (Or.inl ⟨by rfl, ?_⟩) (by assumption) ?_
      rotate_left
      · intro w hSw
        try dsimp only at hSw
        go_simp
        try with_reducible rfl
      try simp only [List.getElem_toArray, List.getElem_cons_zero, List.getElem_cons_succ, Act.put, List.setIfInBounds_toArray, List.set_cons_zero, List.set_cons_succ]
      refine wpAnyH_ready (rs := [7]) (by kernel_rfl) (by simp) ?_
      refine AllReadyH.cons rfl (fun K hK => ?_) AllReadyH.nil
      go_simp
      refine hK.out _ _ (by (try dsimp only); go_keep) (fun hHeld => ?_)
      clear hK K
      try simp only [List.getElem_toArray, List.getElem_cons_zero, List.getElem_cons_succ, Act.put, List.setIfInBounds_toArray, List.set_cons_zero, List.set_cons_succ]
      refine wpAnyH_ready (rs := [17]) (by kernel_rfl) (by simp) ?_
      refine AllReadyH.cons rfl (fun K hK => ?_) AllReadyH.nil
      go_simp
      go_at_call 183
      rw [HCAST.out]
      refine (swap_any HV3.out hpn hk1 hep hek).mono ?_
      rintro e w' ⟨rfl, hrw⟩
      refine hK.out _ _ (by (try dsimp only); exact KEEP.out _ hrw) (fun hHeld => ?_)
      clear hK K
      try simp only [List.getElem_toArray, List.getElem_cons_zero, List.getElem_cons_succ, Act.put, List.setIfInBounds_toArray, List.set_cons_zero, List.set_cons_succ]
      refine wpAnyH_done (by kernel_rfl) ?_ _
      go_wp2_with fail
      go_meet
      exact hrw
    case rest =>
      have HC := Lib.hid hcut
      obtain ⟨a0, a1, a2⟩ := hcut.pBl HBI.out
      simp only at a0 a1 a2
      have al := hcut.pLts.2.2.2.2
      have af := (hcut.pFz (i * 3 + 2)).2.2.2.2
      clear hcut c0 c1 c2 c3 d1 g0 g1 g2 l0 l1 l2 l3 l4
      go_wp2_with fail
      go_ret2
      have h2 := HC.out.pSetBl (y := (x1, x2, x3 + 1)) HBI.out 2 (.int .i64 ((x3 + 1 : Nat) : Int)) (by decide) rfl
      refine ⟨true, _, _, _, rfl, ⟨h2, HPI.out, H.out.n1⟩, by simp, HMK2.out⟩
end
end Go.Proofs.YtdhloijdefnkpaaGreatDoor

namespace Go.Proofs.YtdhloijdefnkpaaGreatDoor
open Go.RowKit Pl Go.Sort Go.Shelf Go.Lib

theorem flat_encI (L : List Int) : L.flatMap encI = L.map (Value.int .i64) := by
  induction L with
  | nil => rfl
  | cons x l ih => rw [List.flatMap_cons, ih]; rfl

theorem below_putRowI {w0 w : World} {B g m : Nat} {os : Array Obj} {d : Array Int} (h : RowKit.Below B w0 w) (hb : B ≤ g) (hg : g < w.heap.size) : RowKit.Below B w0 (grow (putRow (Value.int .i64) (Sort.ahead w m) g 0 d) os) :=
  h.trans ⟨rfl, rfl, rfl, by simp [grow, putRow, mapBlock, Sort.ahead], fun i hi => by
    unfold grow putRow mapBlock Sort.ahead
    simp only
    rw [Array.getElem?_append_left (by simp; omega), Array.getElem?_modify, if_neg (by omega)]⟩

theorem sortI_v {base : Nat} {v : Value} {L : List Int} {w : World} (h : w.ownsRow base 3 1 v L.length (L.flatMap encI)) (hl : L.length ≤ 1000000) :
    Calls Tryz.prog 171 #[v] w fun e w' => e = .returned (.tuple #[]) ∧
      w'.ownsRow base 3 1 v (L.mergeSort fun x y => decide (x ≤ y)).length ((L.mergeSort fun x y => decide (x ≤ y)).flatMap encI) ∧ (∀ {w0 : World}, RowKit.Below base w0 w → RowKit.Below base w0 w') := by
  have hlen : (L.mergeSort fun x y => decide (x ≤ y)).length = L.length := (List.mergeSort_perm L _).length_eq
  rw [flat_encI] at h
  rw [flat_encI, hlen]
  rcases h.2 with ⟨rfl, hn⟩ | ⟨g, cap, cur, rfl, hbg, hg, hnc, hcm, hcs, htake⟩
  · have hx : L = [] := List.eq_nil_of_length_eq_zero hn
    subst hx
    have hcon := Any.slices_Sort_int_none Tryz.sortI none 0 w
    change Calls Tryz.prog 171 _ _ _ at hcon
    refine hcon.mono ?_
    rintro e w' ⟨rfl, rfl⟩
    exact ⟨rfl, by simpa using h, fun hB => hB⟩
  · obtain ⟨g', cap', hv, _, hlt, _, _, _, hH⟩ := holds_of_ownsRow (enc := Value.int .i64) h (by simp)
    simp only [Value.slice.injEq, Option.some.injEq, Addr.mk.injEq, and_true, true_and] at hv
    obtain ⟨rfl, rfl⟩ := hv
    have hcon := Any.slices_Sort_int Tryz.sortI g 0 cap L w hH hlt (by omega)
    change Calls Tryz.prog 171 _ _ _ at hcon
    refine hcon.mono ?_
    rintro e w' ⟨rfl, m, os, rfl⟩
    exact ⟨rfl, ownsRow_sortedI hlen hbg hg hnc hcm hcs, fun hB => below_putRowI hB hbg hlt⟩

end Go.Proofs.YtdhloijdefnkpaaGreatDoor

namespace Go.Proofs.YtdhloijdefnkpaaGreatDoor
open Go.RowKit Pl

set_option maxRecDepth 100000 in
theorem cloneI_any {a : Option Addr} {b off c : Nat} {xs : List Int} {w : World} (h : SlAt encI 1 w a b off xs) (hl : xs.length ≤ 1000000) :
    Calls Tryz.prog 170 #[.slice a xs.length c] w fun e w' => ∃ v, e = .returned v ∧ w'.ownsRow w.heap.size 3 1 v xs.length (xs.flatMap encI) ∧ Below w.heap.size w w' := by
  cases a with
  | none =>
    have hx : xs = [] := by
      cases xs with
      | nil => rfl
      | cons x l => have := h.ad (by simp); cases this
    subst hx
    have heq := fun (w : World) => Lib.run_eql_slice_nil (P := Tryz.prog) w 33 3 none 0 c 0 0 Tryz.underlying33
    clear h
    go_enter Tryz.func170, Tryz.ntmps170
    go_wp2
    go_ret
    exact ⟨_, rfl, World.ownsRow_nil _ _ _ _, Below.refl _ _⟩
  | some ad =>
    have heq := fun (w : World) => Lib.run_eql_slice_nil (P := Tryz.prog) w 33 3 (some ad) xs.length c 0 0 Tryz.underlying33
    have hnews : ∀ j u, (xs.flatMap encI)[j]? = some u → w.cell? (ad.add j) = some u := by
      intro j u hu
      have hj := (List.getElem?_eq_some_iff.1 hu).1
      rw [length_flatMap lenI] at hj
      have hp : 0 < xs.length := by cases xs <;> simp at *
      have := h.ad hp
      simp at this; subst this
      exact slAt_flat lenI h j u hu
    have hlen : (xs.flatMap encI).length = xs.length * 1 := length_flatMap lenI xs
    have h1 : ∀ u ∈ xs.flatMap encI, u.oneCell' = true := by
      intro u hu
      obtain ⟨x, _, hx⟩ := List.mem_flatMap.1 hu
      simp [encI] at hx
      subst hx; rfl
    have HN := Lib.hid hnews; have HL := Lib.hid hlen; have H1 := Lib.hid h1
    clear h hnews hlen h1
    generalize xs.flatMap encI = news at *
    go_enter Tryz.func170, Tryz.ntmps170
    go_wp2_with (at_builtin; refine wpList_app rfl _ _ _ rfl rowI ((Below.refl w.heap.size w).alloc (Nat.le_refl _) _) (by simp) rfl (World.ownsRow_made w #[] 0 (Nat.le_refl _) (by decide) (by simp)) ad xs.length c news rfl HL.out (fun j u hu => cell_alloc_of (HN.out j u hu)) H1.out (by omega) (by unfold maxLen; omega) ?_; intro v' w1 hown1 hb1 _)
    go_ret
    exact ⟨_, rfl, by simpa using hown1, hb1⟩

section
variable {w0 w : World} {K : PK} {n : Nat} {el pl inn : Nat → Nat} {bl : List B3} {rest : List Rw}

theorem elRow_len (el : Nat → Nat) (x : B3) : (elRow el x).length = x.2.1 - x.1 := by simp [elRow]
/-- A block's elements read as a list. -/
theorem Rws.pRow (h : Rws w0 w (PR K n el pl inn bl ++ rest)) {x : B3} (hx : x.1 < x.2.1) (hn : x.2.1 ≤ n) : SlAt encI 1 w (some ⟨K.eb, x.1, none⟩) K.eb x.1 ((elRow el x).map Int.ofNat) :=
  ⟨fun _ => rfl, fun _ => h.pLts.2.1, fun i y hy j u hu => by
    have hi := (List.getElem?_eq_some_iff.1 hy).1
    rw [List.length_map, elRow_len] at hi
    have hj := (List.getElem?_eq_some_iff.1 hu).1
    rw [lenI] at hj
    obtain rfl : j = 0 := by omega
    have hye : y = (el (x.1 + i) : Int) := by
      unfold elRow at hy
      rw [List.map_map, List.getElem?_map, List.getElem?_range' (by omega)] at hy
      simpa using hy.symm
    simp only [encI, List.getElem?_cons_zero, Option.some.injEq] at hu
    rw [← hu, hye, Nat.mul_one, Nat.add_zero]
    exact h.pEl (by omega)⟩

/-- What Members answers. -/
def MembersPost (w : World) (M : List Int) (e : Ending) (w' : World) : Prop :=
  ∃ v, e = .returned (.tuple #[v, .nilIface]) ∧ w'.ownsRow w.heap.size 3 1 v M.length (M.flatMap encI) ∧ Below w.heap.size w w'

set_option maxRecDepth 100000 in
set_option maxHeartbeats 1000000 in
theorem members_any (h : PW w0 w K n el pl inn bl rest) {b : Nat} (hb : b < bl.length) :
    Calls Tryz.prog 136 #[.pointer (some ⟨K.pb, 0, none⟩), .int .i64 b] w (MembersPost w ((memN n inn b).map Int.ofNat)) := by
  obtain ⟨x, hx⟩ : ∃ x, bl[b]? = some x := ⟨_, List.getElem?_eq_getElem hb⟩
  obtain ⟨b1, b2, b3⟩ := h.pi.blk b x hx
  have hn := h.n1
  have hB := Lib.hid (parBlocks_any h.rws)
  have hA := Lib.hid (asked_ok w K.pb b bl.length hb)
  have hR := Lib.hid (parRow_any h hx)
  have hM := sort_memN (n := n) (f := inn) (b := b) (L := (elRow el x).map Int.ofNat) (by
    have := h.pi.rowE_nodup hx
    unfold List.Nodup at this ⊢
    rw [List.pairwise_map]
    exact this.imp (fun {a b} hab e => hab (Int.ofNat.inj e))) (fun y => by
    simp only [List.mem_map]
    constructor
    · rintro ⟨e, he, rfl⟩; exact ⟨e, (h.pi.rowE_mem hx e).1 he, rfl⟩
    · rintro ⟨e, he, rfl⟩; exact ⟨e, (h.pi.rowE_mem hx e).2 he, rfl⟩)
  obtain ⟨L, hL⟩ : ∃ L, L = (elRow el x).map Int.ofNat := ⟨_, rfl⟩
  have hLl : L.length = x.2.1 - x.1 := by rw [hL, List.length_map, elRow_len]
  have HP : RowKit.Hid (∀ W, Below w.heap.size w W → SlAt encI 1 W (some ⟨K.eb, x.1, none⟩) K.eb x.1 L) := Lib.hid (fun W hW => by rw [hL]; exact (h.rws.call hW).pRow b1 b2)
  rw [← hL] at hM
  have HM := Lib.hid hM; have HLL := Lib.hid hLl
  have hl1 : L.length ≤ 1000000 := by omega
  rw [← hLl] at hR
  clear h hx hM hL hLl
  go_enter Tryz.func136, Tryz.ntmps136
  go_wp2_with fail
  refine hB.out.mono ?_
  rintro e w1 ⟨rfl, rfl⟩
  go_wp2_with fail
  refine hA.out.mono ?_
  rintro e w1 ⟨rfl, rfl⟩
  go_wp2_with fail
  refine hR.out.mono ?_
  rintro e w1 ⟨rfl, hB1⟩
  have HB1 := Lib.hid hB1
  have HC := Lib.hid (cloneI_any (c := L.length) (HP.out _ hB1) hl1)
  clear hB1
  go_wp2_with fail
  refine HC.out.mono ?_
  rintro e w2 ⟨v, rfl, hown, hB2⟩
  have HS := Lib.hid (sortI_v hown hl1)
  have HB2 := Lib.hid hB2
  clear hown hB2 HC HP
  go_wp2_with fail
  refine HS.out.mono ?_
  rintro e w3 ⟨rfl, hown, hk⟩
  have hB3 := HB1.out.trans ((hk HB2.out).mono HB1.out.size)
  rw [HM.out] at hown
  have HO := Lib.hid (own_mono hown HB1.out.size); have HB3 := Lib.hid hB3
  clear hown hk hB3
  go_wp2_with fail
  go_ret2
  exact ⟨v, rfl, HO.out, HB3.out⟩
end
end Go.Proofs.YtdhloijdefnkpaaGreatDoor

namespace Go.Proofs.YtdhloijdefnkpaaGreatDoor
open Go.RowKit Pl

namespace Pl
theorem mkB_succ {bl : List B3} {k : Nat} {x : B3} (h : bl[k]? = some x) : mkB bl (k + 1) = mkB bl k ++ (if 0 < x.2.2 then [k] else []) := by
  unfold mkB
  rw [List.range_succ, List.filter_append]
  congr 1
  by_cases h0 : 0 < x.2.2
  · rw [if_pos h0]
    simp [h, h0]
  · rw [if_neg h0]
    have h1 : x.2.2 = 0 := by omega
    simp [h, h1]
theorem mkB_len (bl : List B3) (k : Nat) : (mkB bl k).length ≤ k := by
  unfold mkB
  have := List.length_filter_le (fun b => decide (∃ x, bl[b]? = some x ∧ 0 < x.2.2)) (List.range k)
  simpa using this
end Pl

section
variable {w0 w : World} {K : PK} {n : Nat} {el pl inn : Nat → Nat} {bl : List B3} {rest : List Rw}

/-- A list of numbers of the call's own. -/
def OwnI (w : World) (M : List Int) (e : Ending) (w' : World) : Prop :=
  ∃ v, e = .returned v ∧ w'.ownsRow w.heap.size 3 1 v M.length (M.flatMap encI) ∧ Below w.heap.size w w'

set_option maxRecDepth 100000 in
set_option maxHeartbeats 1000000 in
theorem marked_any (h : PW w0 w K n el pl inn bl rest) :
    Calls Tryz.prog 164 #[.pointer (some ⟨K.pb, 0, none⟩)] w (OwnI w ((mkB bl bl.length).map Int.ofNat)) := by
  have H := Lib.hid h
  obtain ⟨c0, c1, c2, c3⟩ := h.rws.pCells
  have l0 := h.rws.pLts.1
  have hcb := h.rws.pCaps.2.2.2
  have hfew := h.pi.few
  have hn := h.n1
  obtain ⟨m, hm⟩ : ∃ m, m = bl.length := ⟨_, rfl⟩
  rw [← hm] at c3 hcb hfew ⊢
  have HMM := Lib.hid hm
  clear h hm c0 c1 c2
  go_enter Tryz.func164, Tryz.ntmps164
  go_wp2_with fail
  refine (parOwn_any w K.pb).mono ?_
  rintro e w1 ⟨rfl, rfl⟩
  go_wp2_with fail
  go_loopw [3, 4, 5, 12] (fun v3 _ _ v12 wr => ∃ k : Nat, v12 = .int .i64 k ∧ k ≤ m ∧ wr.ownsRow w.heap.size 3 1 v3 ((mkB bl k).map Int.ofNat).length (((mkB bl k).map Int.ofNat).flatMap encI) ∧ Below w.heap.size w wr) (fun _ _ _ v12 _ => m - (intOf v12).toNat)
  case atStart => exact ⟨0, rfl, Nat.zero_le _, ⟨by simp [mkB], .inl ⟨rfl, by simp [mkB]⟩⟩, Below.refl _ _⟩
  case round =>
    obtain ⟨k, rfl, hk, hown, hB⟩ := hrel
    have HOWN := Lib.hid hown; have HB := Lib.hid hB
    have hsz := hB.size
    clear hown hB
    by_cases hlt : k < m
    · obtain ⟨x, hx⟩ : ∃ x, bl[k]? = some x := ⟨_, List.getElem?_eq_getElem (by have := HMM.out; omega)⟩
      have h1 := H.out.rws.call HB.out
      obtain ⟨g0, g1, g2⟩ := h1.pBl hx
      have gl := h1.pLts.2.2.2.2
      obtain ⟨b1, b2, b3⟩ := H.out.pi.blk k x hx
      have hsucc := mkB_succ hx
      have hlen := mkB_len bl k
      obtain ⟨x1, x2, x3⟩ := x
      simp only at g0 g1 g2 b1 b2 b3 hsucc
      have hkI : (k : Int) < (m : Int) := by omega
      have hmx : ((mkB bl k).map Int.ofNat).length ≤ 1000 := by simp; omega
      have HSU := Lib.hid hsucc
      clear h1 hx hsucc hlen
      by_cases h0 : 0 < x3
      · have hb : decide ((0 : Int) < (x3 : Int)) = true := by simp; omega
        have h3I : (0 : Int) < (x3 : Int) := by omega
        have hs' : ((mkB bl (k + 1)).map Int.ofNat) = ((mkB bl k).map Int.ofNat) ++ [(k : Int)] := by rw [HSU.out, if_pos h0, List.map_append]; rfl
        have HS := Lib.hid hs'
        clear hs'
        go_wp2_with (at_builtin; refine wpList_app1 rfl _ _ _ rfl rowI (Below.refl _ _) (by simp; omega) rfl ((HOWN.out.alloc _).alloc _) ⟨wr.heap.size + 1, 0, none⟩ 1 1 [.int .i64 (k : Int)] rfl rfl (cells1 (by simp [go_sem])) (by simp [Value.oneCell']) (by decide) (by omega) (by unfold maxLen; omega) ?_; intro g cap w7 hown7 _ hg7)
        have hb7 : Below w.heap.size w w7 := ((HB.out.alloc hsz _).alloc (by simp; omega) _).grown hg7 (by simp; omega) (fun k hk => (HOWN.out.lt k hk).1)
        have hown8 : w7.ownsRow w.heap.size 3 1 (.slice (some ⟨g, 0, none⟩) (((mkB bl k).map Int.ofNat).length + 1) cap) ((mkB bl (k + 1)).map Int.ofNat).length (((mkB bl (k + 1)).map Int.ofNat).flatMap encI) := by
          rw [HS.out, List.length_append, List.flatMap_append]; exact hown7
        have hlm : ((mkB bl k).map Int.ofNat).length = (mkB bl k).length := List.length_map ..
        rw [hlm] at hown8
        have HO8 := Lib.hid hown8; have HB7 := Lib.hid hb7
        clear hown7 hown8 hg7 hb7 hlm
        go_roundw
        case rel => exact ⟨k + 1, by go_num, by omega, HO8.out, HB7.out⟩
        case measure => simp [intOf]; omega
      · have hb : decide ((0 : Int) < (x3 : Int)) = false := by simp; omega
        have h3I : ¬ (0 : Int) < (x3 : Int) := by omega
        have hs' : (mkB bl (k + 1)) = (mkB bl k) := by rw [HSU.out, if_neg h0, List.append_nil]
        have HS := Lib.hid hs'
        clear hs'
        go_wp2_with fail
        go_roundw
        case rel => exact ⟨k + 1, by go_num, by omega, by rw [HS.out]; exact HOWN.out.alloc _, HB.out.alloc hsz _⟩
        case measure => simp [intOf]; omega
    · obtain rfl : m = k := by omega
      go_wp2_with fail
      go_ret
      exact ⟨_, rfl, HOWN.out, HB.out⟩

theorem flN_slAt (h : Rws w0 w (PR K n el pl inn bl ++ rest)) : SlAt encI 1 w (some ⟨K.ib, 0, none⟩) K.ib 0 (flN n inn) :=
  ⟨fun _ => rfl, fun _ => h.pLts.2.2.2.1, fun i y hy j u hu => by
    have hi := (List.getElem?_eq_some_iff.1 hy).1
    rw [flN_len] at hi
    have hj := (List.getElem?_eq_some_iff.1 hu).1
    rw [lenI] at hj
    obtain rfl : j = 0 := by omega
    rw [flN_get _ hi] at hy
    obtain rfl := Option.some.inj hy
    simp only [encI, List.getElem?_cons_zero, Option.some.injEq] at hu
    rw [← hu, Nat.zero_add, Nat.mul_one, Nat.add_zero]
    exact h.pIn hi⟩

set_option maxRecDepth 100000 in
theorem parClasses_any (h : PW w0 w K n el pl inn bl rest) :
    Calls Tryz.prog 102 #[.pointer (some ⟨K.pb, 0, none⟩)] w (OwnI w (canon (flN n inn))) := by
  obtain ⟨c0, c1, c2, c3⟩ := h.rws.pCells
  have l0 := h.rws.pLts.1
  have hn := h.n1
  have hfew := h.pi.few
  have hC := canon_any (c := K.ci) (flN_slAt h.rws) (by rw [flN_len]; omega) (fun x hx => by
    obtain ⟨i, hi, rfl⟩ := List.mem_map.1 (show x ∈ (List.range n).map (fun i => (inn i : Int)) from hx)
    have := h.pi.lt (e := i) (by simpa using hi)
    exact WalkArith.wf_i64 (by omega))
  rw [flN_len] at hC
  have HC := Lib.hid hC
  have HL := Lib.hid (show (canon (flN n inn)).length = n by rw [canon_len, flN_len])
  clear h hC c0 c1 c3
  go_enter Tryz.func102, Tryz.ntmps102
  go_wp2_with fail
  refine (parOwn_any w K.pb).mono ?_
  rintro e w1 ⟨rfl, rfl⟩
  go_wp2_with fail
  refine HC.out.mono ?_
  rintro e w1 ⟨v, rfl, hown, hB⟩
  have hown2 : w1.ownsRow w.heap.size 3 1 v (canon (flN n inn)).length ((canon (flN n inn)).flatMap encI) := by rw [HL.out]; exact hown
  have HO := Lib.hid hown2; have HB := Lib.hid hB
  clear hown hown2 hB
  go_wp2_with fail
  go_ret
  exact ⟨v, rfl, HO.out, HB.out⟩
end
end Go.Proofs.YtdhloijdefnkpaaGreatDoor

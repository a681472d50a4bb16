/-
  simul.above: the greatest simulation.
  simul: Below, Above, Classes.
  simul.Above: of every state the states above it, listed.
  simul.Classes: states above each other.
  The greatest simulation, plain: it orders the states; a pair stands in it where every step is met.
  law17.alive.
  law17.small.
  law17.above: the states above, as rows of truths.
  A row of lists of numbers that grow one by one, all of them rows of the call's own.
  refine.Partition in memory: its struct, its elements, their places, the block of each, the blocks.
-/
import Derived.Test.YtclannenknhfpaaGreatDoorGKeyP
import Derived.Test.YtclannenknhfpaaGreatDoorGNew
import Derived.WalkMore
import Derived.Deep.LoopGhost
import Derived.Test.YtclannenknhfpaaGreatDoorGCanon
import Derived.Test.YtclannenknhfpaaGreatDoorGPl10
import Derived.Test.YtclannenknhfpaaGreatDoorGAs
import Derived.Test.YtclannenknhfpaaGreatDoorGTogether
import Derived.Test.YtclannenknhfpaaGreatDoorPlP
namespace Go.Proofs.YtclannenknhfpaaGreatDoor
open Go.RowKit Pl

theorem SlAt.oth {α : Type} {enc : α → List Value} {m : Nat} {w w' : World} {a : Option Addr} {b off : Nat} {xs : List α} (h : SlAt enc m w a b off xs) (hb : w'.heap[b]? = w.heap[b]?) (hs : w.heap.size ≤ w'.heap.size) : SlAt enc m w' a b off xs :=
  ⟨h.ad, fun hp => Nat.lt_of_lt_of_le (h.lt hp) hs, fun i x hx j u hu => by
    rw [World.cell?_of_block (w := w) (a := ⟨b, off + i * m + j, none⟩) hb]; exact h.cell i x hx j u hu⟩
theorem intsOf_at {L : List Nat} {m i : Nat} (h : L[m]? = some i) : (intsOf L)[m]? = some (i : Int) := by unfold intsOf; rw [List.getElem?_map, h]; rfl
def zRow : Value := .agg #[.int .u64 0, .int .u64 0, .int .u64 0, .int .u64 0, .int .u64 0]
theorem fullR_none (n : Nat) : fullR n 0 0 = fun _ _ => false := by
  funext a i
  unfold fullR
  simp
end Go.Proofs.YtclannenknhfpaaGreatDoor

namespace Go.Proofs.YtclannenknhfpaaGreatDoor
open Go.RowKit Pl

end Go.Proofs.YtclannenknhfpaaGreatDoor

namespace Go.Proofs.YtclannenknhfpaaGreatDoor
open Go.RowKit Pl

theorem own_blockS {w w' : World} {base : Nat} {e : TypeId} {k n : Nat} {v : Value} {xs : List Value} (h : w.ownsRow base e k v n xs) (hb : ∀ g, v.ownBlock = some g → w'.heap[g]? = w.heap[g]?) : w'.ownsRow base e k v n xs := by
  refine ⟨h.1, ?_⟩
  rcases h.2 with h2 | ⟨g, cap, cur, hv, hbg, hg, r⟩
  · exact .inl h2
  · exact .inr ⟨g, cap, cur, hv, hbg, by rw [hb g (by rw [hv]; rfl)]; exact hg, r⟩

/-- The states above p, listed. -/
def upL (R : Nat → Nat → Bool) (p : Nat) : List Int := intsOf (idsN (R p) 320)

theorem own_type {w : World} {base : Nat} {e : TypeId} {k n : Nat} {v : Value} {xs : List Value} (h : w.ownsRow base e k v n xs) {g : Nat} (hg : v.ownBlock = some g) : ∃ cur, w.heap[g]? = some (.cells cur e (0, 0)) := by
  rcases h.2 with ⟨rfl, _⟩ | ⟨g2, cap, cur, rfl, _, hgg, _⟩
  · cases hg
  · simp only [Value.ownBlock, Option.some.injEq] at hg; subst hg; exact ⟨cur, hgg⟩
theorem own_ne {w : World} {base base2 : Nat} {e e2 : TypeId} {k k2 n n2 : Nat} {v v2 : Value} {xs xs2 : List Value} (h : w.ownsRow base e k v n xs) (h2 : w.ownsRow base2 e2 k2 v2 n2 xs2) (hne : e ≠ e2) {g : Nat} (hg : v.ownBlock = some g) : v2.ownBlock ≠ some g := fun hg2 => by
  obtain ⟨c1, e1⟩ := own_type h hg
  obtain ⟨c2, e3⟩ := own_type h2 hg2
  rw [e1] at e3
  injection e3 with e3; injection e3 with _ e3; exact hne e3
theorem copyRow {w : World} {F : Nat → Bool} {T : TypeId} : RowAt (w.alloc (.cells #[.int .u64 (wj F 0 : Nat), .int .u64 (wj F 1 : Nat), .int .u64 (wj F 2 : Nat), .int .u64 (wj F 3 : Nat), .int .u64 (wj F 4 : Nat)] T)) w.heap.size 0 F := fun j hj => by
  have hj' : j = 0 ∨ j = 1 ∨ j = 2 ∨ j = 3 ∨ j = 4 := by omega
  rcases hj' with rfl | rfl | rfl | rfl | rfl <;> simp [go_sem]

/-- What Above answers. -/
def UpPost (s : Lts) (n : Nat) (w : World) (e : Ending) (w' : World) : Prop :=
  ∃ (R : Nat → Nat → Bool) (v : Value) (vs : List Value), e = .returned (.tuple #[v, .nilIface]) ∧ Great s n R ∧ vs.length = n ∧ w'.ownsRow w.heap.size 43 1 v vs.length (vs.flatMap encV) ∧
    (∀ (j : Nat) (x : Value), vs[j]? = some x → w'.ownsRow w.heap.size 3 1 x (upL R j).length ((upL R j).flatMap encI)) ∧ Below w.heap.size w w'

end Go.Proofs.YtclannenknhfpaaGreatDoor

namespace Go.Proofs.YtclannenknhfpaaGreatDoor
open Go.RowKit Pl

/-- A row of numbers in a block of its own. -/
structure SQ (W wr : World) (M : Nat) (f : Nat → Int) : Prop where
  rows : wr.rowIs W.heap.size 3 M (fun j => .int .i64 (f j))
  bel : Below W.heap.size W wr
theorem SQ.call {W wr w' : World} {M : Nat} {f : Nat → Int} (h : SQ W wr M f) (hB : Below wr.heap.size wr w') : SQ W w' M f :=
  ⟨h.rows.of_block (hB.block _ h.rows.lt), h.bel.trans (hB.mono h.bel.size)⟩
theorem SQ.set {W wr : World} {M : Nat} {f : Nat → Int} (h : SQ W wr M f) (i : Nat) (x : Int) : SQ W (wr.setCell ⟨W.heap.size, i, none⟩ (.int .i64 x)) M (fun j => if j = i then x else f j) :=
  ⟨(h.rows.set i (.int .i64 x)).congr (fun j _ => by by_cases e : j = i <;> simp [e]), h.bel.setCell (Nat.le_refl _) _⟩
theorem SQ.congr {W wr : World} {M : Nat} {f g : Nat → Int} (h : SQ W wr M f) (e : ∀ j, j < M → f j = g j) : SQ W wr M g :=
  ⟨h.rows.congr (fun j hj => by rw [e j hj]), h.bel⟩
theorem rowS_of_heap {w2 : World} {z : Value} {n b : Nat} {T : TypeId} (h : w2.heap[b]? = some (.cells (madeCells #[z] n) T (0, 0))) : w2.rowIs b T n (fun _ => z) :=
  ⟨_, h, size_madeCells _ _, fun i hi => by simp [madeCells, hi, Nat.mod_one]⟩
theorem slAt_rowS {w : World} {tb n : Nat} {f : Nat → Int} (h : w.rowIs tb 3 n (fun j => .int .i64 (f j))) : SlAt encI 1 w (some ⟨tb, 0, none⟩) tb 0 (fl n f) :=
  ⟨fun _ => rfl, fun _ => h.lt, fun i x hx j u hu => by
    have hi := (List.getElem?_eq_some_iff.1 hx).1
    rw [fl_len] at hi
    have hxe : x = f i := by
      rw [fl_get f hi] at hx
      simpa using hx.symm
    have hj := (List.getElem?_eq_some_iff.1 hu).1
    rw [lenI] at hj
    obtain rfl : j = 0 := by omega
    have h2 := h.cell hi
    simp only [encI, List.getElem?_cons_zero, Option.some.injEq] at hu
    rw [← hu, hxe, Nat.zero_add, Nat.mul_one, Nat.add_zero]
    exact h2⟩

/-- The first state above p that p is above. -/
def clsN (R : Nat → Nat → Bool) (p : Nat) : Nat := ((idsN (R p) 320).find? (fun q => R q p)).getD 0

def ClPost (s : Lts) (n : Nat) (w : World) (e : Ending) (w' : World) : Prop :=
  ∃ (R : Nat → Nat → Bool) (v : Value), e = .returned (.tuple #[v, .nilIface]) ∧ Great s n R ∧ w'.ownsRow w.heap.size 3 1 v n ((canon (fl n (fun p => (clsN R p : Int)))).flatMap encI) ∧ Below w.heap.size w w'

theorem clsN_none {R : Nat → Nat → Bool} {p : Nat} (h : ∀ j i : Nat, (idsN (R p) 320)[j]? = some i → R i p = false) : clsN R p = 0 := by
  unfold clsN
  have : (idsN (R p) 320).find? (fun q => R q p) = none := by
    rw [List.find?_eq_none]
    intro x hx
    obtain ⟨j, hj⟩ := List.getElem?_of_mem hx
    rw [h j x hj]; simp
  rw [this]; rfl
theorem clsN_at {R : Nat → Nat → Bool} {p m i : Nat} (h : ∀ j i : Nat, j < m → (idsN (R p) 320)[j]? = some i → R i p = false) (hi : (idsN (R p) 320)[m]? = some i) (hr : R i p = true) : clsN R p = i := by
  unfold clsN
  have : (idsN (R p) 320).find? (fun q => R q p) = some i := by
    obtain ⟨hm, hmi⟩ := List.getElem?_eq_some_iff.1 hi
    rw [List.find?_eq_some_iff_getElem]
    refine ⟨hr, m, hm, hmi, fun j hj => ?_⟩
    have := h j _ hj (List.getElem?_eq_getElem (by omega))
    simp [this]
  rw [this]; rfl
theorem clsN_lt {s : Lts} {n : Nat} {R : Nat → Nat → Bool} (h : Left s n R) {p : Nat} (hp : p < n) : clsN R p < n := by
  unfold clsN
  rcases hf : (idsN (R p) 320).find? (fun q => R q p) with _ | i
  · simp; omega
  · have := List.mem_of_find?_eq_some hf
    unfold idsN at this
    exact h.rng p i hp (List.mem_filter.1 this).2

end Go.Proofs.YtclannenknhfpaaGreatDoor

namespace Go.Proofs.YtclannenknhfpaaGreatDoor
open Go.RowKit Pl

theorem doesB_iff {s : Lts} (hr : s.Right) {n : Nat} (hn : s.st = (n : Int)) {R : Nat → Nat → Bool} {p q : Nat} : doesB s R p q = true ↔ ∀ (l : Int) (t : Nat), (l, (t : Int)) ∈ s.outs (p : Int) → ∃ u : Nat, u < n ∧ (l, (u : Int)) ∈ s.outs (q : Int) ∧ R t u = true := by
  unfold doesB stepD
  rw [List.all_eq_true]
  constructor
  · intro h l t hx
    have h1 := h _ hx
    rw [List.any_eq_true] at h1
    obtain ⟨y, hy, h2⟩ := h1
    have hyr := offB_false.1 (hr.edges _ (mem_outs.1 hy))
    obtain ⟨y1, y2⟩ := y
    simp only [Bool.and_eq_true, decide_eq_true_eq, Int.toNat_natCast] at hyr h2
    obtain ⟨u, rfl⟩ := Int.eq_ofNat_of_zero_le hyr.2.2.2.2.1
    obtain ⟨rfl, h2⟩ := h2
    exact ⟨u, by omega, hy, by simpa using h2⟩
  · intro h x hx
    have hxr := offB_false.1 (hr.edges _ (mem_outs.1 hx))
    obtain ⟨l, x2⟩ := x
    simp only at hxr
    obtain ⟨t, rfl⟩ := Int.eq_ofNat_of_zero_le hxr.2.2.2.2.1
    obtain ⟨u, _, h1, h2⟩ := h l t hx
    rw [List.any_eq_true]
    exact ⟨_, h1, by simp [h2]⟩

section
variable {s : Lts} {n : Nat} {R : Nat → Nat → Bool}
theorem Great.refl (h : Great s n R) (hr : s.Right) (hn : s.st = (n : Int)) {p : Nat} (hp : p < n) : R p p = true :=
  h.left.sim (fun a i => decide (a = i)) (fun a i ha _ e => by
    simp at e; subst e
    rw [doesB_iff hr hn]
    intro l t hx
    have hxr := offB_false.1 (hr.edges _ (mem_outs.1 hx))
    simp only at hxr
    exact ⟨t, by omega, hx, by simp⟩) p p hp hp (by simp)
theorem Great.trans (h : Great s n R) (hr : s.Right) (hn : s.st = (n : Int)) {p q r : Nat} (hp : p < n) (h1 : R p q = true) (h2 : R q r = true) : R p r = true := by
  have hq := h.left.rng p q hp h1
  have hrn := h.left.rng q r hq h2
  refine h.left.sim (fun a i => (List.range n).any (fun m => R a m && R m i)) (fun a i ha hi e => ?_) p r hp hrn (by rw [List.any_eq_true]; exact ⟨q, List.mem_range.2 hq, by simp [h1, h2]⟩)
  rw [List.any_eq_true] at e
  obtain ⟨m, hm, e⟩ := e
  rw [List.mem_range] at hm
  rw [Bool.and_eq_true] at e
  have d1 := (doesB_iff hr hn).1 (h.does a m ha e.1)
  have d2 := (doesB_iff hr hn).1 (h.does m i hm e.2)
  rw [doesB_iff hr hn]
  intro l t hx
  obtain ⟨u, hu, hu1, hu2⟩ := d1 l t hx
  obtain ⟨v, hv, hv1, hv2⟩ := d2 l u hu1
  exact ⟨v, hv, hv1, by rw [List.any_eq_true]; exact ⟨u, List.mem_range.2 hu, by simp [hu2, hv2]⟩⟩
theorem Great.fix (h : Great s n R) (hr : s.Right) (hn : s.st = (n : Int)) {p q : Nat} (hp : p < n) (hq : q < n) : R p q = doesB s R p q := by
  rw [Bool.eq_iff_iff]
  refine ⟨h.does p q hp, fun hd => ?_⟩
  refine h.left.sim (fun a i => R a i || decide (a = p ∧ i = q)) (fun a i ha hi e => ?_) p q hp hq (by simp)
  have hmono : ∀ a i, a < n → i < n → R a i = true → (R a i || decide (a = p ∧ i = q)) = true := fun a i _ _ e => by simp [e]
  simp only [Bool.or_eq_true, decide_eq_true_eq] at e
  rcases e with e | ⟨rfl, rfl⟩
  · exact doesB_mono hr hn hmono (h.does a i ha e)
  · exact doesB_mono hr hn hmono hd
theorem Great.uniq {R' : Nat → Nat → Bool} (h : Great s n R) (h' : Great s n R') {p q : Nat} (hp : p < n) : R p q = R' p q := by
  rw [Bool.eq_iff_iff]
  exact ⟨fun e => h'.left.sim R (fun a i ha _ e2 => h.does a i ha e2) p q hp (h.left.rng p q hp e) e, fun e => h.left.sim R' (fun a i ha _ e2 => h'.does a i ha e2) p q hp (h'.left.rng p q hp e) e⟩

theorem clsN_mut (h : Great s n R) (hr : s.Right) (hn : s.st = (n : Int)) (hn3 : n ≤ 300) {p : Nat} (hp : p < n) : R p (clsN R p) = true ∧ R (clsN R p) p = true := by
  unfold clsN
  rcases hf : (idsN (R p) 320).find? (fun q => R q p) with _ | i
  · rw [List.find?_eq_none] at hf
    have hpp := h.refl hr hn hp
    exact absurd hpp (hf p (by unfold idsN; rw [List.mem_filter, List.mem_range]; exact ⟨by omega, hpp⟩))
  · have h1 := List.mem_of_find?_eq_some hf
    have h2 := List.find?_some hf
    unfold idsN at h1
    exact ⟨(List.mem_filter.1 h1).2, h2⟩
theorem clsN_congr (h : Great s n R) (hr : s.Right) (hn : s.st = (n : Int)) {p q : Nat} (hp : p < n) (hq : q < n) (h1 : R p q = true) (h2 : R q p = true) : clsN R p = clsN R q := by
  have e1 : ∀ i, R p i = R q i := fun i => by
    rw [Bool.eq_iff_iff]
    exact ⟨fun e => h.trans hr hn hq h2 e, fun e => h.trans hr hn hp h1 e⟩
  have e2 : ∀ i, i < n → R i p = R i q := fun i hi => by
    rw [Bool.eq_iff_iff]
    exact ⟨fun e => h.trans hr hn hi e h1, fun e => h.trans hr hn hi e h2⟩
  have e3 : idsN (R p) 320 = idsN (R q) 320 := by rw [funext e1]
  unfold clsN
  rw [e3]
  have e4 : ∀ L : List Nat, (∀ i ∈ L, i < n) → L.find? (fun x => R x p) = L.find? (fun x => R x q) := by
    intro L
    induction L with
    | nil => intro _; rfl
    | cons x L ih =>
      intro hL
      rw [List.find?_cons, List.find?_cons, e2 x (hL x List.mem_cons_self), ih (fun i hi => hL i (List.mem_cons_of_mem _ hi))]
  rw [e4 _ (fun i hi => by unfold idsN at hi; exact h.left.rng q i hq (List.mem_filter.1 hi).2)]
/-- One class: above each other. -/
theorem clsN_iff (h : Great s n R) (hr : s.Right) (hn : s.st = (n : Int)) (hn3 : n ≤ 300) {p q : Nat} (hp : p < n) (hq : q < n) : clsN R p = clsN R q ↔ R p q = true ∧ R q p = true := by
  constructor
  · intro e
    obtain ⟨a1, a2⟩ := clsN_mut h hr hn hn3 hp
    obtain ⟨b1, b2⟩ := clsN_mut h hr hn hn3 hq
    rw [← e] at b1 b2
    exact ⟨h.trans hr hn hp a1 b2, h.trans hr hn hq b1 a2⟩
  · rintro ⟨h1, h2⟩
    exact clsN_congr h hr hn hp hq h1 h2
theorem canon_clsN (h : Great s n R) (hr : s.Right) (hn : s.st = (n : Int)) (hn3 : n ≤ 300) {p q : Nat} (hp : p < n) (hq : q < n) {x y : Int} (hx : (canon (fl n (fun p => (clsN R p : Int))))[p]? = some x) (hy : (canon (fl n (fun p => (clsN R p : Int))))[q]? = some y) : (x = y) ↔ (R p q = true ∧ R q p = true) := by
  rw [canon_get, fl_get _ hp] at hx
  rw [canon_get, fl_get _ hq] at hy
  simp only [Option.map_some, Option.some.injEq] at hx hy
  have hc := canon_eq_iff (fl_get (fun p => (clsN R p : Int)) hp) (fl_get (fun p => (clsN R p : Int)) hq)
  rw [← clsN_iff h hr hn hn3 hp hq, ← hx, ← hy]
  exact hc.trans (by omega)
end

/-! the system of law17.alive -/
def aliveS : Lts := ⟨(3 : Nat), 2, 0, [(0, 1, 1)]⟩
theorem aliveS_right : aliveS.Right := ⟨by unfold HeadBad aliveS; simp, by decide⟩
theorem aliveS_nf : nf ltE [((0 : Int), (1 : Int), (1 : Int))] = [(0, 1, 1)] := by decide
theorem aliveS_R {R : Nat → Nat → Bool} (h : Great aliveS 3 R) : R 1 0 = true ∧ R 0 1 = false ∧ canon (fl 3 (fun p => (clsN R p : Int))) = [0, 1, 1] := by
  have f := fun {p q : Nat} (hp : p < 3) (hq : q < 3) => h.fix aliveS_right rfl hp hq
  have a00 : R 0 0 = true := h.refl aliveS_right rfl (by omega)
  have a11 : R 1 1 = true := h.refl aliveS_right rfl (by omega)
  have o0 : aliveS.outs ((0 : Nat) : Int) = [(1, 1)] := by decide
  have o1 : aliveS.outs ((1 : Nat) : Int) = [] := by decide
  have o2 : aliveS.outs ((2 : Nat) : Int) = [] := by decide
  have a10 : R 1 0 = true := by rw [f (by omega) (by omega)]; unfold doesB; rw [o1]; rfl
  have a12 : R 1 2 = true := by rw [f (by omega) (by omega)]; unfold doesB; rw [o1]; rfl
  have a20 : R 2 0 = true := by rw [f (by omega) (by omega)]; unfold doesB; rw [o2]; rfl
  have a21 : R 2 1 = true := by rw [f (by omega) (by omega)]; unfold doesB; rw [o2]; rfl
  have a01 : R 0 1 = false := by rw [f (by omega) (by omega)]; unfold doesB stepD; rw [o0, o1]; rfl
  have a02 : R 0 2 = false := by rw [f (by omega) (by omega)]; unfold doesB stepD; rw [o0, o2]; rfl
  refine ⟨a10, a01, ?_⟩
  have hlt : ∀ p, p < 3 → clsN R p < 3 := fun p hp => clsN_lt h.left hp
  have m0 := clsN_mut h aliveS_right rfl (by omega) (p := 0) (by omega)
  have m1 := clsN_mut h aliveS_right rfl (by omega) (p := 1) (by omega)
  have c12 : clsN R 1 = clsN R 2 := (clsN_iff h aliveS_right rfl (by omega) (by omega) (by omega)).2 ⟨a12, a21⟩
  have c01 : clsN R 0 ≠ clsN R 1 := fun e => by
    have := (clsN_iff h aliveS_right rfl (by omega) (by omega) (by omega)).1 e
    rw [a01] at this; exact absurd this.1 (by decide)
  have hfl : fl 3 (fun p => (clsN R p : Int)) = [(clsN R 0 : Int), (clsN R 1 : Int), (clsN R 1 : Int)] := by
    unfold fl
    simp [List.range_succ, c12]
  rw [hfl]
  obtain ⟨x, hx⟩ : ∃ x : Int, x = (clsN R 0 : Int) := ⟨_, rfl⟩
  obtain ⟨y, hy⟩ : ∃ y : Int, y = (clsN R 1 : Int) := ⟨_, rfl⟩
  have hxy : x ≠ y := by omega
  rw [← hx, ← hy]
  have := canon_map (f := fun z => if z = 0 then x else y) (l := [0, 1, 1]) (by
    intro a ha b hb e
    simp at ha hb
    rcases ha with rfl | rfl <;> rcases hb with rfl | rfl <;> simp at e ⊢
    · exact hxy e
    · exact hxy e.symm)
  simp at this
  rw [this]
  decide
end Go.Proofs.YtclannenknhfpaaGreatDoor

namespace Go.Proofs.YtclannenknhfpaaGreatDoor
open Go.RowKit Pl

theorem sysS {w : World} {B : Nat} {x y z : Int} {v : Value} (h : w.heap[B]? = some (.cells #[.int .i64 x, .int .i64 y, .int .i64 z, v] 24 (0, 0))) :
    w.cell? ⟨B, 0, none⟩ = some (.int .i64 x) ∧ w.cell? ⟨B, 1, none⟩ = some (.int .i64 y) ∧ w.cell? ⟨B, 2, none⟩ = some (.int .i64 z) ∧ w.cell? ⟨B, 3, none⟩ = some v ∧ B < w.heap.size := by
  refine ⟨?_, ?_, ?_, ?_, (Array.getElem?_eq_some_iff.1 h).1⟩ <;> simp [World.cell?, h]

end Go.Proofs.YtclannenknhfpaaGreatDoor

namespace Go.Proofs.YtclannenknhfpaaGreatDoor
open Go.RowKit Pl

def Small17 (s : Lts) (w : World) (e : Ending) (w' : World) : Prop := ∃ m : Bool, e = .returned (.bool m) ∧ (m = true ↔ s.st ≤ 25 ∧ s.es.length ≤ 150 ∧ s.Right) ∧ Below w.heap.size w w'
end Go.Proofs.YtclannenknhfpaaGreatDoor

namespace Go.Proofs.YtclannenknhfpaaGreatDoor
open Go.RowKit Pl

theorem mem_upL {R : Nat → Nat → Bool} {p q : Nat} (hq : q < 320) : (q : Int) ∈ upL R p ↔ R p q = true := by
  unfold upL intsOf idsN
  rw [List.mem_map]
  constructor
  · rintro ⟨x, hx, e⟩
    have : x = q := Int.ofNat.inj e
    subst this
    exact (List.mem_filter.1 hx).2
  · intro h
    exact ⟨q, List.mem_filter.2 ⟨List.mem_range.2 hq, h⟩, rfl⟩

/-- Rows of truths, the first k made. -/
structure UB (w1 wr : World) (n k : Nat) (R : Nat → Nat → Bool) (rb : Nat → Nat) : Prop where
  bel : Below w1.heap.size w1 wr
  out : wr.rowIs w1.heap.size 65 n (fun j => if j < k then .slice (some ⟨rb j, 0, none⟩) n n else .slice none 0 0)
  rows : ∀ j, j < k → w1.heap.size < rb j ∧ rb j < wr.heap.size ∧ wr.rowIs (rb j) 4 n (fun q => .bool (R j q))
theorem UB.call {w1 wr w' : World} {n k : Nat} {R : Nat → Nat → Bool} {rb : Nat → Nat} (h : UB w1 wr n k R rb) (hB : Below wr.heap.size wr w') : UB w1 w' n k R rb :=
  ⟨h.bel.trans (hB.mono h.bel.size), h.out.of_block (hB.block _ h.out.lt), fun j hj => by
    obtain ⟨a, b, c⟩ := h.rows j hj
    exact ⟨a, Nat.lt_of_lt_of_le b hB.size, c.of_block (hB.block _ b)⟩⟩
/-- .. and of row k the first m of L marked. -/
structure UB2 (w1 wr : World) (n k : Nat) (R : Nat → Nat → Bool) (rb : Nat → Nat) (L : List Int) (m : Nat) : Prop where
  bel : Below w1.heap.size w1 wr
  out : wr.rowIs w1.heap.size 65 n (fun j => if j < k + 1 then .slice (some ⟨rb j, 0, none⟩) n n else .slice none 0 0)
  rows : ∀ j, j < k → w1.heap.size < rb j ∧ rb j < wr.heap.size ∧ rb j ≠ rb k ∧ wr.rowIs (rb j) 4 n (fun q => .bool (R j q))
  last : w1.heap.size < rb k ∧ rb k < wr.heap.size ∧ wr.rowIs (rb k) 4 n (fun q => .bool (decide ((q : Int) ∈ L.take m)))
theorem UB.step {w1 wr : World} {n k : Nat} {R : Nat → Nat → Bool} {rb : Nat → Nat} (h : UB w1 wr n k R rb) (L : List Int) :
    UB2 w1 ((wr.setCell ⟨w1.heap.size, k, none⟩ (.slice (some ⟨wr.heap.size, 0, none⟩) n n)).alloc (.cells (madeCells #[.bool false] n) 4)) n k R (fun j => if j = k then wr.heap.size else rb j) L 0 := by
  have hsz := h.out.lt
  have hs := size_setCell wr ⟨w1.heap.size, k, none⟩ (.slice (some ⟨wr.heap.size, 0, none⟩) n n)
  have hset : ∀ b, b < wr.heap.size → b ≠ w1.heap.size → ((wr.setCell ⟨w1.heap.size, k, none⟩ (.slice (some ⟨wr.heap.size, 0, none⟩) n n)).alloc (.cells (madeCells #[.bool false] n) 4)).heap[b]? = wr.heap[b]? := fun b h1 hb => (Below.heap_alloc _ _ _ (by rw [hs]; exact h1)).trans (Below.heap_setCell _ _ _ _ hb)
  refine ⟨(h.bel.setCell (Nat.le_refl _) _).alloc (by rw [hs]; omega) _, ((h.out.set k _).of_block (Below.heap_alloc _ _ _ (by rw [hs]; exact hsz))).congr (fun j _ => ?_), fun j hj => ?_, ?_⟩
  · by_cases e : j = k
    · subst e; simp
    · by_cases e2 : j < k
      · simp [e, e2, show j < k + 1 by omega]
      · simp [e, e2, show ¬ j < k + 1 by omega]
  · obtain ⟨a, b, c⟩ := h.rows j hj
    have hjk : j ≠ k := by omega
    simp only [if_neg hjk, if_true]
    exact ⟨a, by simp [hs]; omega, by omega, c.of_block (hset _ b (by omega))⟩
  · simp only [if_true]
    refine ⟨hsz, by simp [hs], ?_⟩
    have := World.rowIs_made (wr.setCell ⟨w1.heap.size, k, none⟩ (.slice (some ⟨wr.heap.size, 0, none⟩) n n)) (.bool false) n 4
    rw [hs] at this
    exact this.congr (fun j _ => by simp)
theorem UB2.set {w1 wr : World} {n k : Nat} {R : Nat → Nat → Bool} {rb : Nat → Nat} {L : List Int} {m q : Nat} (h : UB2 w1 wr n k R rb L m) (hq : L[m]? = some (q : Int)) : UB2 w1 (wr.setCell ⟨rb k, q, none⟩ (.bool true)) n k R rb L (m + 1) := by
  have hset : ∀ b, b ≠ rb k → (wr.setCell ⟨rb k, q, none⟩ (.bool true)).heap[b]? = wr.heap[b]? := fun b hb => Below.heap_setCell _ _ _ _ hb
  have hl := h.last
  refine ⟨h.bel.setCell (by show w1.heap.size ≤ rb k; omega) _, h.out.of_block (hset _ (by omega)), fun j hj => ?_, hl.1, by rw [size_setCell]; exact hl.2.1, (hl.2.2.set q _).congr (fun j _ => ?_)⟩
  · obtain ⟨a, b, c, d⟩ := h.rows j hj
    exact ⟨a, by rw [size_setCell]; exact b, c, d.of_block (hset _ c)⟩
  · rw [take_snoc hq]
    by_cases e : j = q
    · subst e; simp
    · have : ¬ (j : Int) = (q : Int) := by omega
      simp [e, this]
theorem UB2.done {w1 wr : World} {n k : Nat} {R : Nat → Nat → Bool} {rb : Nat → Nat} (h : UB2 w1 wr n k R rb (upL R k) (upL R k).length) (hn : n ≤ 300) : UB w1 wr n (k + 1) R rb :=
  ⟨h.bel, h.out, fun j hj => by
    by_cases e : j = k
    · subst e
      refine ⟨h.last.1, h.last.2.1, h.last.2.2.congr (fun q hq => ?_)⟩
      rw [List.take_length]
      congr 1
      rw [Bool.eq_iff_iff, decide_eq_true_eq, mem_upL (by omega)]
    · obtain ⟨a, b, _, d⟩ := h.rows j (by omega)
      exact ⟨a, b, d⟩⟩
/-- The answer of law17.above in memory. -/
structure TabB (w : World) (v : Value) (n : Nat) (R : Nat → Nat → Bool) : Prop where
  ex : ∃ (ob : Nat) (rb : Nat → Nat), v = .slice (some ⟨ob, 0, none⟩) n n ∧ w.rowIs ob 65 n (fun j => .slice (some ⟨rb j, 0, none⟩) n n) ∧ ∀ j, j < n → w.rowIs (rb j) 4 n (fun q => .bool (R j q))
theorem TabB.below {w w' : World} {v : Value} {n : Nat} {R : Nat → Nat → Bool} (h : TabB w v n R) (hB : Below w.heap.size w w') : TabB w' v n R := by
  obtain ⟨ob, rb, h1, h2, h3⟩ := h.ex
  exact ⟨ob, rb, h1, h2.of_block (hB.block _ h2.lt), fun j hj => (h3 j hj).of_block (hB.block _ (h3 j hj).lt)⟩

def Ab17 (s : Lts) (n : Nat) (w : World) (e : Ending) (w' : World) : Prop := ∃ (R : Nat → Nat → Bool) (v : Value), e = .returned (.tuple #[v, .bool true]) ∧ Great s n R ∧ TabB w' v n R ∧ Below w.heap.size w w'

end Go.Proofs.YtclannenknhfpaaGreatDoor

namespace Go.Proofs.YtclannenknhfpaaGreatDoor
open Go.RowKit Pl

/-- The row ob of m slices; the l-th owns the list f l. -/
def FR (ob m : Nat) (vs : Nat → Value) (f : Nat → List Int) : List Rw :=
  ⟨43, 1, .slice (some ⟨ob, 0, none⟩) m m, m, (List.range m).map vs⟩ :: (List.range m).map (fun l => (⟨3, 1, vs l, (f l).length, (f l).flatMap encI⟩ : Rw))

theorem range_map_set {α : Type} {m l : Nat} (g : Nat → α) (x : α) : ((List.range m).map g).set l x = (List.range m).map (upd g l x) := by
  apply List.ext_getElem?
  intro i
  rw [List.getElem?_set]
  by_cases h : i < m
  · by_cases e : l = i
    · subst e; simp [h, upd]
    · rw [if_neg e]
      simp [h, upd, show ¬ i = l from fun e2 => e e2.symm]
  · by_cases e : l = i
    · subst e; simp [h]
    · rw [if_neg e]; simp [h]

theorem FR.set {ob m l : Nat} {vs : Nat → Value} {f : Nat → List Int} (v : Value) (ys : List Int) (rest : List Rw) (hl : l < m) :
    (((FR ob m vs f ++ rest).set (l + 1) ⟨3, 1, v, ys.length, ys.flatMap encI⟩).set 0 ⟨43, 1, .slice (some ⟨ob, 0, none⟩) m m, m, ((List.range m).map vs).set l v⟩) = FR ob m (upd vs l v) (upd f l ys) ++ rest := by
  unfold FR
  rw [List.cons_append, List.set_cons_succ, List.set_cons_zero, List.set_append_left _ _ (by simpa using hl), range_map_set, range_map_set, List.cons_append]
  congr 2
  apply List.map_congr_left
  intro i _
  unfold upd
  split <;> rfl

section
variable {w0 w w' w1 w2 : World} {rest : List Rw} {ob m : Nat} {vs : Nat → Value} {f : Nat → List Int}

theorem Rws.frMade (h : Rws w0 w rest) (hm : m ≤ maxLen) : Rws w0 (w.alloc (.cells (madeCells #[.slice none 0 0] m) 43)) (FR w.heap.size m (fun _ => .slice none 0 0) (fun _ => []) ++ rest) := by
  have key : ∀ k, Rws w0 w ((List.range k).map (fun _ => (⟨3, 1, .slice none 0 0, 0, []⟩ : Rw)) ++ rest) := fun k => by
    induction k with
    | zero => exact h
    | succ k ih =>
      rw [List.range_succ_eq_map, List.map_cons, List.map_map]
      exact ih.addNil _ _
  have h2 := (key m).addLit (madeCells #[.slice none 0 0] m) 43 (k := 1) (n := m) hm (by simp [size_madeCells])
  have e : (madeCells #[.slice none 0 0] m).toList = (List.range m).map (fun _ => (.slice none 0 0 : Value)) := by
    rw [toList_madeCells_one]
    apply List.ext_getElem?
    intro i
    by_cases hi : i < m <;> simp [hi]
  rw [e] at h2
  exact h2

theorem Rws.frCell (h : Rws w0 w (FR ob m vs f ++ rest)) {l : Nat} (hl : l < m) : w.cell? ⟨ob, l, none⟩ = some (vs l) ∧ w.frozen? ⟨ob, l, none⟩ = false ∧ ob < w.heap.size ∧ w0.heap.size ≤ ob :=
  ⟨h.cell (i := 0) rfl (by simp [hl]), h.fz (i := 0) rfl l, (h.lt (i := 0) rfl).2, (h.lt (i := 0) rfl).1⟩
theorem Rws.frOwn (h : Rws w0 w (FR ob m vs f ++ rest)) {l : Nat} (hl : l < m) : w.ownsRow w0.heap.size 3 1 (vs l) (f l).length ((f l).flatMap encI) :=
  h.get (i := l + 1) (r := ⟨3, 1, vs l, (f l).length, (f l).flatMap encI⟩) (by unfold FR; rw [List.cons_append, List.getElem?_cons_succ, List.getElem?_append_left (by simpa using hl)]; simp [hl])
/-- An append to the l-th list: behind it, and behind the store. -/
theorem Rws.frGrow {w2 : World} (h : Rws w0 w (FR ob m vs f ++ rest)) (hB2 : Below w.heap.size w w2) {l : Nat} (hl : l < m) {v' : Value} {ys : List Int} (ho : w1.ownsRow w0.heap.size 3 1 v' ys.length (ys.flatMap encI)) (hg : w2.grownBy w1 (vs l).ownBlock)
    (hh : ∀ g, v'.ownBlock = some g → (vs l).ownBlock = some g ∨ w.heap.size ≤ g) :
    w1.cell? ⟨ob, l, none⟩ = some (vs l) ∧ w1.frozen? ⟨ob, l, none⟩ = false ∧ ob < w1.heap.size ∧ Rws w0 (w1.setCell ⟨ob, l, none⟩ v') (FR ob m (upd vs l v') (upd f l ys) ++ rest) := by
  have hi : (FR ob m vs f ++ rest)[l + 1]? = some (⟨3, 1, vs l, (f l).length, (f l).flatMap encI⟩ : Rw) := by
    unfold FR; rw [List.cons_append, List.getElem?_cons_succ, List.getElem?_append_left (by simpa using hl)]; simp [hl]
  have hs := h.grown hB2 (l + 1) hi ho hg hh
  have h0 : ((FR ob m vs f ++ rest).set (l + 1) ⟨3, 1, v', ys.length, ys.flatMap encI⟩)[0]? = some (⟨43, 1, .slice (some ⟨ob, 0, none⟩) m m, m, (List.range m).map vs⟩ : Rw) := by
    unfold FR; rw [List.cons_append, List.set_cons_succ]; rfl
  have h2 := hs.set 0 h0 l v'
  rw [FR.set v' ys rest hl] at h2
  exact ⟨hs.cell h0 (by simp [hl]), hs.fz h0 l, (hs.lt h0).2, h2⟩
end
end Go.Proofs.YtclannenknhfpaaGreatDoor

namespace Go.Proofs.YtclannenknhfpaaGreatDoor
open Go.RowKit Pl

def encT (x : B3) : List Value := [.int .i64 x.1, .int .i64 x.2.1, .int .i64 x.2.2]
theorem lenT (x : B3) : (encT x).length = 3 := rfl
def flN (n : Nat) (f : Nat → Nat) : List Int := fl n (fun i => (f i : Int))
theorem flN_len (n : Nat) (f : Nat → Nat) : (flN n f).length = n := fl_len _ _
theorem flN_get {n : Nat} (f : Nat → Nat) {i : Nat} (h : i < n) : (flN n f)[i]? = some (f i : Int) := fl_get _ h

theorem flatI (L : List Int) : L.flatMap encI = L.map (Value.int .i64) := by
  induction L with
  | nil => rfl
  | cons x l ih => rw [List.flatMap_cons, ih]; rfl
theorem flN_map (n : Nat) (f : Nat → Nat) : (flN n f).flatMap encI = (List.range n).map (fun i => Value.int .i64 (f i : Int)) := by
  rw [flatI]; unfold flN fl; rw [List.map_map]; rfl
theorem range_map_set' {α : Type} {m l : Nat} (g : Nat → α) (x : α) : ((List.range m).map g).set l x = (List.range m).map (fun i => if i = l then x else g i) := by
  apply List.ext_getElem?
  intro i
  rw [List.getElem?_set]
  by_cases h : i < m
  · by_cases e : l = i
    · subst e; simp [h]
    · rw [if_neg e]
      simp [h, show ¬ i = l from fun e2 => e e2.symm]
  · by_cases e : l = i
    · subst e; simp [h]
    · rw [if_neg e]; simp [h]
theorem flN_set (n : Nat) (f : Nat → Nat) (j v : Nat) : ((flN n f).flatMap encI).set j (.int .i64 (v : Int)) = (flN n (upd f j v)).flatMap encI := by
  rw [flN_map, flN_map, range_map_set']
  apply List.map_congr_left
  intro i _
  unfold upd
  split <;> rfl
theorem flN_at {n : Nat} (f : Nat → Nat) {i : Nat} (h : i < n) : ((flN n f).flatMap encI)[i]? = some (.int .i64 (f i : Int)) := by
  rw [flN_map]; simp [h]
theorem flT_at {bl : List B3} {b : Nat} {x : B3} (h : bl[b]? = some x) : (bl.flatMap encT)[b * 3]? = some (.int .i64 (x.1 : Int)) ∧ (bl.flatMap encT)[b * 3 + 1]? = some (.int .i64 (x.2.1 : Int)) ∧ (bl.flatMap encT)[b * 3 + 2]? = some (.int .i64 (x.2.2 : Int)) :=
  ⟨by simpa using getElem?_flatMap lenT bl b x h 0 _ rfl, getElem?_flatMap lenT bl b x h 1 _ rfl, getElem?_flatMap lenT bl b x h 2 _ rfl⟩
theorem flT_set : ∀ {bl : List B3} {b : Nat} {x y : B3} (j : Nat) (v : Value), bl[b]? = some x → j < 3 → (encT x).set j v = encT y → (bl.flatMap encT).set (b * 3 + j) v = (bl.set b y).flatMap encT
  | [], b, x, y, j, v, h, _, _ => by simp at h
  | z :: bl, 0, x, y, j, v, h, hj, he => by
    simp at h; subst h
    rw [Nat.zero_mul, Nat.zero_add, List.flatMap_cons, List.set_cons_zero, List.flatMap_cons, List.set_append_left _ _ (by rw [lenT]; exact hj), he]
  | z :: bl, b + 1, x, y, j, v, h, hj, he => by
    rw [List.flatMap_cons, List.set_cons_succ, List.flatMap_cons, List.set_append_right _ _ (by rw [lenT, Nat.add_mul]; omega), lenT]
    rw [show (b + 1) * 3 + j - 3 = b * 3 + j by rw [Nat.add_mul]; omega, flT_set j v (by simpa using h) hj he]

/-- Where a partition's rows lie, and what they can hold. -/
structure PK where
  pb : Nat
  eb : Nat
  qb : Nat
  ib : Nat
  bb : Nat
  ce : Nat
  cq : Nat
  ci : Nat
  cb : Nat

section
variable {w0 w w' w1 : World} {K : PK} {n : Nat} {el pl inn : Nat → Nat} {bl : List B3} {rest : List Rw}

theorem own_caps {base : Nat} {e : TypeId} {k n g c : Nat} {xs : List Value} (h : w.ownsRow base e k (.slice (some ⟨g, 0, none⟩) n c) n xs) : n ≤ c ∧ c ≤ maxLen := by
  rcases h.2 with ⟨h2, _⟩ | ⟨g', c', cur, hv, _, _, h3, h4, _⟩
  · simp at h2
  · simp only [Value.slice.injEq] at hv
    obtain ⟨_, _, rfl⟩ := hv
    exact ⟨h3, h4⟩

end

end Go.Proofs.YtclannenknhfpaaGreatDoor

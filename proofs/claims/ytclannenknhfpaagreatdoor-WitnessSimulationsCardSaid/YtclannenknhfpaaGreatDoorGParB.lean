/-
  refine.Partition: own, asked, Size, Blocks, Block, row, First, Len.
  refine.Partition: swap, Mark.
  refine.Partition: Mark.
  slices.Clone at numbers; refine.Partition: Members.
  refine.Partition: Marked, Classes.
  errors.As at no error; refine.Partition: Split.
  refine.New: a partition of one block.
  refine.New, of no element and of some.
  strong: the world of a run: the graph, the partition, heaps, sizes, takings, gauges.
  strong.play.split: each block split by which of its states have steps into some states, label by label.
  strong.play: what stores and appends do to a run's rows; took.
  strong.play: begin, the first taking.
  strong.play: take, a block taken of a heap.
  strong.play.blocks: the blocks of each heap.
-/
import Derived.Test.YtclannenknhfpaaGreatDoorGSimF
import Derived.BigRegion
import Derived.Deep.QuietTactic
import Derived.BigQuiet
import Derived.IntWalk
import Derived.Outline
import Derived.Deep.RegionHeld3
import Derived.Deep.Cut
import Derived.Deep.CutRange
import Derived.Test.YtclannenknhfpaaGreatDoorGRefErr
import Derived.Test.YtclannenknhfpaaGreatDoorGSortI
import Derived.Test.YtclannenknhfpaaGreatDoorGCanon
import Derived.Test.YtclannenknhfpaaGreatDoorGTogether
import Derived.Deep.RegionWith
import Derived.Test.YtclannenknhfpaaGreatDoorGGraphB
namespace Go.Proofs.YtclannenknhfpaaGreatDoor
open Go.RowKit Pl

theorem bdrewP {w0 w : World} {B : Nat} (h : Below B w0 w) (n : Nat) : Below B w0 (w.drewN n) := ⟨h.os, h.tape, h.output, h.size, h.block⟩

section
variable {w0 w : World} {K : PK} {n : Nat} {el pl inn : Nat → Nat} {bl : List B3} {rest : List Rw}

theorem rowE0 {el : Nat → Nat} {x : B3} (h : x.1 < x.2.1) : (elRow el x)[0]? = some (el x.1) := by
  unfold elRow
  obtain ⟨m, hm⟩ : ∃ m, x.2.1 - x.1 = m + 1 := ⟨x.2.1 - x.1 - 1, by omega⟩
  rw [hm]; simp [List.range'_succ]

end
end Go.Proofs.YtclannenknhfpaaGreatDoor

namespace Go.Proofs.YtclannenknhfpaaGreatDoor
open Go.RowKit Pl

section
variable {w0 w : World} {K : PK} {n : Nat} {el pl inn : Nat → Nat} {bl : List B3} {rest : List Rw}

end
end Go.Proofs.YtclannenknhfpaaGreatDoor

namespace Go.Proofs.YtclannenknhfpaaGreatDoor
open Go.RowKit Pl

section
variable {w0 w : World} {K : PK} {n : Nat} {el pl inn : Nat → Nat} {bl : List B3} {rest : List Rw}

end
end Go.Proofs.YtclannenknhfpaaGreatDoor

namespace Go.Proofs.YtclannenknhfpaaGreatDoor
open Go.RowKit Pl

section
variable {w0 w : World} {K : PK} {n : Nat} {el pl inn : Nat → Nat} {bl : List B3} {rest : List Rw}

theorem elRow_len (el : Nat → Nat) (x : B3) : (elRow el x).length = x.2.1 - x.1 := by simp [elRow]
/-- What Members answers. -/
def MembersPost (w : World) (M : List Int) (e : Ending) (w' : World) : Prop :=
  ∃ v, e = .returned (.tuple #[v, .nilIface]) ∧ w'.ownsRow w.heap.size 3 1 v M.length (M.flatMap encI) ∧ Below w.heap.size w w'

end
end Go.Proofs.YtclannenknhfpaaGreatDoor

namespace Go.Proofs.YtclannenknhfpaaGreatDoor
open Go.RowKit Pl

namespace Pl
theorem mkB_succ {bl : List B3} {k : Nat} {x : B3} (h : bl[k]? = some x) : mkB bl (k + 1) = mkB bl k ++ (if 0 < x.2.2 then [k] else []) := by
  unfold mkB
  rw [List.range_succ, List.filter_append]
  congr 1
  by_cases h0 : 0 < x.2.2
  · rw [if_pos h0]
    simp [h, h0]
  · rw [if_neg h0]
    have h1 : x.2.2 = 0 := by omega
    simp [h, h1]
theorem mkB_len (bl : List B3) (k : Nat) : (mkB bl k).length ≤ k := by
  unfold mkB
  have := List.length_filter_le (fun b => decide (∃ x, bl[b]? = some x ∧ 0 < x.2.2)) (List.range k)
  simpa using this
end Pl

section
variable {w0 w : World} {K : PK} {n : Nat} {el pl inn : Nat → Nat} {bl : List B3} {rest : List Rw}

/-- A list of numbers of the call's own. -/
def OwnI (w : World) (M : List Int) (e : Ending) (w' : World) : Prop :=
  ∃ v, e = .returned v ∧ w'.ownsRow w.heap.size 3 1 v M.length (M.flatMap encI) ∧ Below w.heap.size w w'

end
end Go.Proofs.YtclannenknhfpaaGreatDoor

namespace Go.Proofs.YtclannenknhfpaaGreatDoor
open Go.RowKit Pl

set_option maxRecDepth 100000 in
theorem asNil_any (w : World) (v : Value) : Calls Tryz.prog 76 #[.nilIface, v] w fun e w' => e = .returned (.bool false) ∧ w = w' := by
  go_enter Tryz.func76, Tryz.ntmps76
  go_wp2_with fail
  go_ret
  exact ⟨rfl, rfl⟩

section
variable {w0 w w1 w2 : World} {K : PK} {n : Nat} {el pl inn : Nat → Nat} {bl : List B3} {rest : List Rw}

end

/-- The block of each element while the new block is noted. -/
def innK (n : Nat) (pl inn : Nat → Nat) (m lo k : Nat) : Nat → Nat := fun e => if e < n ∧ lo ≤ pl e ∧ pl e < lo + k then m else inn e
theorem innK_zero (n : Nat) (pl inn : Nat → Nat) (m lo : Nat) : innK n pl inn m lo 0 = inn := by
  funext e
  unfold innK
  rw [if_neg (by omega)]
theorem innK_step {n : Nat} {el pl inn : Nat → Nat} {bl : List B3} (h : PI n el pl inn bl) {m lo k : Nat} (hk : lo + k < n) : upd (innK n pl inn m lo k) (el (lo + k)) m = innK n pl inn m lo (k + 1) := by
  funext e
  obtain ⟨h1, h2⟩ := h.hel (lo + k) hk
  unfold upd innK
  by_cases e1 : e = el (lo + k)
  · rw [if_pos e1, if_pos ⟨by rw [e1]; exact h1, by rw [e1, h2]; omega, by rw [e1, h2]; omega⟩]
  · rw [if_neg e1]
    by_cases e2 : e < n ∧ lo ≤ pl e ∧ pl e < lo + k
    · rw [if_pos e2, if_pos ⟨e2.1, e2.2.1, by omega⟩]
    · rw [if_neg e2, if_neg]
      rintro ⟨a1, a2, a3⟩
      exact e2 ⟨a1, a2, by
        rcases Nat.lt_or_ge (pl e) (lo + k) with h3 | h3
        · exact h3
        · exact absurd (by rw [show lo + k = pl e by omega, (h.hpl e a1).2] : e = el (lo + k)) e1⟩

section
variable {w0 w : World} {K : PK} {n : Nat} {el pl inn : Nat → Nat} {bl : List B3} {rest : List Rw}

end
end Go.Proofs.YtclannenknhfpaaGreatDoor

namespace Go.Proofs.YtclannenknhfpaaGreatDoor
open Go.RowKit Pl

namespace Pl
def z0 : Nat → Nat := fun _ => 0
theorem dist_zero : ∀ n : Nat, 0 < n → dist (flN n z0) = [0]
  | 0, h => by omega
  | 1, _ => rfl
  | n + 2, _ => by
    have h := dist_zero (n + 1) (by omega)
    have e : flN (n + 2) z0 = flN (n + 1) z0 ++ [0] := by
      unfold flN fl z0; rw [List.range_succ (n := n + 1), List.map_append]; rfl
    rw [e, dist_snoc, h]; rfl
theorem canon_zero (n : Nat) : canon (flN n z0) = flN n z0 := by
  rcases Nat.eq_zero_or_pos n with rfl | h
  · rfl
  · unfold canon
    rw [dist_zero n h]
    unfold flN fl z0
    rw [List.map_map]; rfl
theorem PI.one (n : Nat) (h : 0 < n) : PI n id id z0 [(0, n, 0)] where
  hel i hi := ⟨hi, rfl⟩
  hpl e he := ⟨he, rfl⟩
  blk b x hx := by
    rcases b with _ | b
    · simp at hx; subst hx; simp; exact h
    · simp at hx
  hin e he := ⟨(0, n, 0), rfl, Nat.zero_le _, he⟩
  cov b x i hx _ _ := by
    rcases b with _ | b
    · rfl
    · simp at hx
theorem none_one (n : Nat) (z : Nat) : ¬ Mkd id z0 [(0, n, 0)] z := by
  rintro ⟨x, hx, h⟩
  simp [z0] at hx
  subst hx
  simp at h
end Pl

def plK (j : Nat) : Nat → Nat := fun e => if e < j then e else 0
theorem plK_zero : plK 0 = z0 := by funext e; unfold plK z0; rw [if_neg (by omega)]
theorem plK_step (j : Nat) : upd (plK j) j j = plK (j + 1) := by
  funext e
  unfold upd plK
  by_cases h1 : e = j
  · rw [if_pos h1, if_pos (by omega), h1]
  · rw [if_neg h1]
    by_cases h2 : e < j
    · rw [if_pos h2, if_pos (by omega)]
    · rw [if_neg h2, if_neg (by omega)]

theorem flN_congr {n : Nat} {f g : Nat → Nat} (h : ∀ i, i < n → f i = g i) : flN n f = flN n g := by
  unfold flN fl
  apply List.map_congr_left
  intro i hi
  rw [h i (by simpa using hi)]
theorem flN_succ (j : Nat) (f : Nat → Nat) : flN (j + 1) f = flN j f ++ [(f j : Int)] := by
  unfold flN fl; rw [List.range_succ, List.map_append]; rfl
theorem madeI (n : Nat) : (madeCells #[Value.int .i64 0] n).toList = (flN n z0).flatMap encI := by
  rw [toList_madeCells_one, flN_map]
  apply List.ext_getElem?
  intro i
  by_cases hi : i < n <;> simp [hi, z0]

section
variable {w0 w w1 w2 : World} {pb : Nat} {ea : Option Addr} {ec qb ib ci bb n j : Nat} {pl : Nat → Nat} {x : B3} {rest : List Rw}

end

end Go.Proofs.YtclannenknhfpaaGreatDoor

namespace Go.Proofs.YtclannenknhfpaaGreatDoor
open Go.RowKit Pl

end Go.Proofs.YtclannenknhfpaaGreatDoor

namespace Go.Proofs.YtclannenknhfpaaGreatDoor
open Go.RowKit Pl

theorem cell_oth {w : World} {p : Addr} (a : Addr) (v : Value) (h : a.block ≠ p.block) : (w.setCell p v).cell? a = w.cell? a := World.cell?_of_block (Below.heap_setCell _ _ _ _ h)

/-- Where a run's rows lie. -/
structure SK where
  xb : Nat
  gb : Nat
  hb : Nat
  qb : Nat
  sa : Option Addr
  sc : Nat
  ta : Option Addr
  tc : Nat

section
variable {w0 w w' : World} {s : Lts} {K : PK} {S : SK} {n : Nat} {el pl inn : Nat → Nat} {bl : List B3} {hp ga : Nat → Nat} {sz : List Int} {tl : List Value} {rest : List Rw} {pb : Nat}

/-- The rows of the run and what stands behind them, in the other order. -/
theorem Rws.swap {A B C : List Rw} (h : Rws w0 w (A ++ (B ++ C))) : Rws w0 w (B ++ (A ++ C)) := h.perm (by
  rw [← List.append_assoc, ← List.append_assoc]
  exact (List.perm_append_comm).append_right C)
end

namespace Pl
/-- The steps to the first states of a list. -/
def stepsTo (s : Lts) (L : List Nat) : List S := L.flatMap (fun t : Nat => s.ins (t : Int))
theorem withL_snoc (M : List S) (l : Int) (y : S) : withL l (M ++ [y]) = if y.1 = l then withL l M ++ [y.2] else withL l M := by
  unfold withL
  rw [List.filter_append, List.map_append]
  by_cases h : y.1 = l
  · rw [if_pos h]; simp [h]
  · rw [if_neg h]; simp [h]
theorem withL_upd (M : List S) (lN : Nat) (t : Int) : upd (fun l : Nat => withL (l : Int) M) lN (withL (lN : Int) M ++ [t]) = fun l : Nat => withL (l : Int) (M ++ [((lN : Int), t)]) := by
  funext l
  unfold upd
  rw [withL_snoc]
  by_cases h : l = lN
  · subst h; rw [if_pos rfl, if_pos rfl]
  · rw [if_neg h, if_neg (by simp only; omega)]
theorem withL_len (M : List S) (l : Int) : (withL l M).length ≤ M.length := by
  unfold withL; rw [List.length_map]; exact List.length_filter_le _ _
theorem mem_withL {M : List S} {l t : Int} : t ∈ withL l M ↔ (l, t) ∈ M := by
  unfold withL
  simp only [List.mem_map, List.mem_filter, beq_iff_eq]
  constructor
  · rintro ⟨y, ⟨hy, rfl⟩, rfl⟩; exact hy
  · intro h; exact ⟨_, ⟨h, rfl⟩, rfl⟩
theorem stepsTo_len {s : Lts} (h : s.Right) (L : List Nat) : (stepsTo s L).length ≤ L.length * 10000 := by
  unfold stepsTo
  induction L with
  | nil => simp
  | cons x l ih =>
    rw [List.flatMap_cons, List.length_append, List.length_cons, Nat.add_mul]
    have := ins_len h (x : Int)
    omega
theorem stepsTo_snoc (s : Lts) {L : List Nat} {i t : Nat} (h : L[i]? = some t) : stepsTo s (L.take (i + 1)) = stepsTo s (L.take i) ++ s.ins (t : Int) := by
  unfold stepsTo
  rw [take_snoc h, List.flatMap_append]; simp
/-- Who has a step by a label into the states of a list. -/
theorem mem_stepsTo {s : Lts} {n : Nat} {L : List Nat} (hL : ∀ t ∈ L, t < n) {l : Int} {p : Nat} : (p : Int) ∈ withL l (stepsTo s L) ↔ intoX s n l (· ∈ L) p := by
  rw [mem_withL]
  unfold stepsTo intoX
  simp only [List.mem_flatMap]
  constructor
  · rintro ⟨t, ht, h⟩
    exact ⟨t, hL t ht, ht, mem_inS.1 h⟩
  · rintro ⟨t, _, ht, h⟩
    exact ⟨t, ht, mem_inS.2 h⟩
theorem stepsTo_rng {s : Lts} (hr : s.Right) {n : Nat} (hn : s.st = (n : Int)) {L : List Nat} {y : S} (h : y ∈ stepsTo s L) : 0 ≤ y.1 ∧ y.1 < s.lb ∧ ∃ p : Nat, p < n ∧ y.2 = (p : Int) := by
  unfold stepsTo at h
  obtain ⟨t, _, ht⟩ := List.mem_flatMap.1 h
  have := offB_false.1 (hr.edges _ (mem_inS.1 ht))
  simp only at this
  exact ⟨this.2.2.1, this.2.2.2.1, y.2.toNat, by omega, by omega⟩
end Pl
end Go.Proofs.YtclannenknhfpaaGreatDoor

namespace Go.Proofs.YtclannenknhfpaaGreatDoor
open Go.RowKit Pl

namespace Pl
/-- The blocks split by who has steps by the first labels. -/
def SplitK (s : Lts) (n : Nat) (L : List Nat) (inn inn' : Nat → Nat) (k : Nat) : Prop :=
  ∀ p q, p < n → q < n → (inn' p = inn' q ↔ inn p = inn q ∧ ∀ l : Nat, l < k → (((p : Nat) : Int) ∈ withL (l : Int) (stepsTo s L) ↔ ((q : Nat) : Int) ∈ withL (l : Int) (stepsTo s L)))
theorem SplitK.zero (s : Lts) (n : Nat) (L : List Nat) (inn : Nat → Nat) : SplitK s n L inn inn 0 := fun p q _ _ => by
  constructor
  · intro h; exact ⟨h, fun l hl => by omega⟩
  · intro h; exact h.1
theorem SplitK.succ {s : Lts} {n : Nat} {L : List Nat} {inn inn1 inn2 : Nat → Nat} {k : Nat} (h : SplitK s n L inn inn1 k)
    (h2 : ∀ p q, p < n → q < n → (inn2 p = inn2 q ↔ inn1 p = inn1 q ∧ (((p : Nat) : Int) ∈ withL (k : Int) (stepsTo s L) ↔ ((q : Nat) : Int) ∈ withL (k : Int) (stepsTo s L)))) : SplitK s n L inn inn2 (k + 1) := fun p q hp hq => by
  rw [h2 p q hp hq, h p q hp hq]
  constructor
  · rintro ⟨⟨h3, h4⟩, h5⟩
    refine ⟨h3, fun l hl => ?_⟩
    by_cases e : l = k
    · subst e; exact h5
    · exact h4 l (by omega)
  · rintro ⟨h3, h4⟩
    exact ⟨⟨h3, fun l hl => h4 l (by omega)⟩, h4 k (by omega)⟩
theorem SplitK.done {s : Lts} (hr : s.Right) {n : Nat} (hn : s.st = (n : Int)) {L : List Nat} (hL : ∀ t ∈ L, t < n) {inn inn' : Nat → Nat} {m : Nat} (hm : s.lb = (m : Int)) (h : SplitK s n L inn inn' m) : SplitBy s n (· ∈ L) inn inn' := fun p q hp hq => by
  rw [h p q hp hq]
  constructor
  · rintro ⟨h1, h2⟩
    refine ⟨h1, fun l => ?_⟩
    rw [← mem_stepsTo hL, ← mem_stepsTo hL]
    by_cases hl : 0 ≤ l ∧ l < s.lb
    · obtain ⟨k, rfl⟩ := Int.eq_ofNat_of_zero_le hl.1
      exact h2 k (by omega)
    · constructor
      · intro h3; have := stepsTo_rng hr hn (mem_withL.1 h3); exact absurd ⟨this.1, this.2.1⟩ hl
      · intro h3; have := stepsTo_rng hr hn (mem_withL.1 h3); exact absurd ⟨this.1, this.2.1⟩ hl
  · rintro ⟨h1, h2⟩
    exact ⟨h1, fun l _ => by rw [mem_stepsTo hL, mem_stepsTo hL]; exact h2 l⟩
end Pl

section
variable {w0 w : World} {s : Lts} {K : PK} {S : SK} {n : Nat} {el pl inn : Nat → Nat} {bl : List B3} {hp ga : Nat → Nat} {sz : List Int} {tl : List Value} {rest : List Rw}

end
end Go.Proofs.YtclannenknhfpaaGreatDoor

namespace Go.Proofs.YtclannenknhfpaaGreatDoor
open Go.RowKit Pl

section
variable {w0 w w' w1 w2 : World} {s : Lts} {K : PK} {S : SK} {n : Nat} {el pl inn : Nat → Nat} {bl : List B3} {hp ga : Nat → Nat} {sz : List Int} {tl : List Value} {rest : List Rw} {pb : Nat}

end

/-- The gauges while a block's states are noted. -/
def gaK (ga : Nat → Nat) (L : List Nat) (k : Nat) : Nat → Nat := fun p => if p ∈ L.take k then ga p + 1 else ga p
theorem gaK_step {ga : Nat → Nat} {L : List Nat} (hn : L.Nodup) {k t : Nat} (h : L[k]? = some t) : gaK ga L k t = ga t ∧ upd (gaK ga L k) t (ga t + 1) = gaK ga L (k + 1) := by
  have hnt : t ∉ L.take k := fun hm => by
    obtain ⟨j, hj, e⟩ := List.getElem_of_mem hm
    rw [List.getElem_take] at e
    rw [List.length_take] at hj
    have := nodup_at hn (i := j) (j := k) (x := t) (by rw [List.getElem?_eq_getElem (by omega), e]) h
    omega
  refine ⟨if_neg hnt, ?_⟩
  funext p
  unfold upd gaK
  have hm : p ∈ L.take (k + 1) ↔ p ∈ L.take k ∨ p = t := by rw [take_snoc h]; simp
  by_cases e : p = t
  · subst e; rw [if_pos rfl, if_pos (hm.2 (.inr rfl))]
  · rw [if_neg e]
    by_cases e2 : p ∈ L.take k
    · rw [if_pos e2, if_pos (hm.2 (.inl e2))]
    · rw [if_neg e2, if_neg (fun h => by rcases hm.1 h with h | h <;> contradiction)]

section
variable {w0 w : World} {S : SK} {n pb : Nat} {hp ga : Nat → Nat} {sz : List Int} {tl : List Value} {rest : List Rw}

end
end Go.Proofs.YtclannenknhfpaaGreatDoor

namespace Go.Proofs.YtclannenknhfpaaGreatDoor
open Go.RowKit Pl

def blkOf : Option Addr → Nat
  | some a => a.block
  | none => 0

section
variable {w0 w w1 w2 : World} {L A B C : List Rw} {r : Rw}
/-- A row reads as a list, its block told by its slice. -/
theorem Rws.slO (h : Rws w0 w L) {α : Type} {enc : α → List Value} {i : Nat} {T : TypeId} {k n m c : Nat} {ra : Option Addr} {ys : List α} (hi : L[i]? = some ⟨T, k, .slice ra m c, n, ys.flatMap enc⟩) (hk : ∀ x, (enc x).length = k) (hn : n = ys.length) : SlAt enc k w ra (blkOf ra) 0 ys := by
  obtain ⟨a, c', b, hv, _, _, hs, _⟩ := h.sl hi hk hn
  simp only [Value.slice.injEq] at hv
  obtain ⟨rfl, _, _⟩ := hv
  rcases Nat.eq_zero_or_pos ys.length with h0 | h0
  · rw [List.eq_nil_of_length_eq_zero h0]; exact slAt_nil _ _ _ _
  · have := hs.ad h0
    subst this
    exact hs
theorem Rws.dig (h : Rws w0 w (r :: (A ++ (B ++ C)))) : Rws w0 w (A ++ (B ++ (r :: C))) := h.perm (by
  refine (List.perm_middle (l₁ := A)).symm.trans (List.Perm.append_left A ?_)
  exact (List.perm_middle (l₁ := B)).symm)
theorem Rws.dug (h : Rws w0 w (A ++ (B ++ (r :: C)))) : Rws w0 w (r :: (A ++ (B ++ C))) := h.perm (by
  refine List.Perm.trans (List.Perm.append_left A ?_) (List.perm_middle (l₁ := A))
  exact (List.perm_middle (l₁ := B)))
/-- A row of numbers at the head has grown by one. -/
theorem Rws.headGrow {a : Option Addr} {m c : Nat} {ys : List Int} {x : Int} (h : Rws w0 w (⟨3, 1, .slice a m c, m, ys.flatMap encI⟩ :: L)) (hB2 : Below w.heap.size w w2) {g c' : Nat} (ho : w1.ownsRow w0.heap.size 3 1 (.slice (some ⟨g, 0, none⟩) (m + 1) c') (m + 1) (ys.flatMap encI ++ [.int .i64 x]))
    (hg : w2.grownBy w1 (Value.slice a m c).ownBlock) (hh : (Value.slice a m c).ownBlock = some g ∨ w.heap.size ≤ g) : Rws w0 w1 (⟨3, 1, .slice (some ⟨g, 0, none⟩) (m + 1) c', m + 1, (ys ++ [x]).flatMap encI⟩ :: L) := by
  have hs := h.grown hB2 0 rfl ho hg (fun g' hg' => by simp only [Value.ownBlock, Option.some.injEq] at hg'; subst hg'; exact hh)
  have e : (ys ++ [x]).flatMap encI = ys.flatMap encI ++ [.int .i64 x] := by rw [List.flatMap_append]; rfl
  rw [e]
  exact hs
end

section
variable {w0 w : World} {s : Lts} {K : PK} {S : SK} {n : Nat} {el pl inn : Nat → Nat} {bl : List B3} {hp ga : Nat → Nat} {sz : List Int} {tl : List Value} {rest : List Rw}

end
end Go.Proofs.YtclannenknhfpaaGreatDoor

namespace Go.Proofs.YtclannenknhfpaaGreatDoor
open Go.RowKit Pl

def hpK (hp : Nat → Nat) (H : Nat) (L : List Nat) (k : Nat) : Nat → Nat := fun p => if p ∈ L.take k then H else hp p
theorem hpK_step {hp : Nat → Nat} {H : Nat} {L : List Nat} {k t : Nat} (h : L[k]? = some t) : upd (hpK hp H L k) t H = hpK hp H L (k + 1) := by
  funext p
  unfold upd hpK
  have hm : p ∈ L.take (k + 1) ↔ p ∈ L.take k ∨ p = t := by rw [take_snoc h]; simp
  by_cases e : p = t
  · subst e; rw [if_pos rfl, if_pos (hm.2 (.inr rfl))]
  · rw [if_neg e]
    by_cases e2 : p ∈ L.take k
    · rw [if_pos e2, if_pos (hm.2 (.inl e2))]
    · rw [if_neg e2, if_neg (fun h => by rcases hm.1 h with h | h <;> contradiction)]
theorem memN_snoc (f : Nat → Nat) (b k : Nat) : memN (k + 1) f b = memN k f b ++ (if f k = b then [k] else []) := by
  unfold memN
  rw [List.range_succ, List.filter_append]
  congr 1
  by_cases h : f k = b <;> simp [h]

section
variable {w0 w : World} {s : Lts} {K : PK} {S : SK} {n : Nat} {el pl inn : Nat → Nat} {bl : List B3} {hp ga : Nat → Nat} {sz : List Int} {tl : List Value} {rest : List Rw}

end
end Go.Proofs.YtclannenknhfpaaGreatDoor

namespace Go.Proofs.YtclannenknhfpaaGreatDoor
open Go.RowKit Pl

theorem below_two {a b c : World} (h : Below a.heap.size a b) (k : Below b.heap.size b c) : Below a.heap.size a c := h.trans (k.mono h.size)

namespace Pl
/-- A block's heap. -/
def hbk (el hp : Nat → Nat) (bl : List B3) (b : Nat) : Nat := hp (el (bl.getD b (0, 0, 0)).1)
/-- The first blocks of a heap. -/
def bksOf (el hp : Nat → Nat) (bl : List B3) (k h : Nat) : List Nat := (List.range k).filter (fun b => decide (hbk el hp bl b = h))
theorem bks_step (el hp : Nat → Nat) (bl : List B3) (k : Nat) : upd (fun h => (bksOf el hp bl k h).map Int.ofNat) (hbk el hp bl k) ((bksOf el hp bl k (hbk el hp bl k)).map Int.ofNat ++ [(k : Int)]) = fun h => (bksOf el hp bl (k + 1) h).map Int.ofNat := by
  funext h
  unfold upd bksOf
  rw [List.range_succ, List.filter_append]
  by_cases e : h = hbk el hp bl k
  · rw [if_pos e]; subst e; simp
  · rw [if_neg e]
    have : ¬ hbk el hp bl k = h := fun e2 => e e2.symm
    simp [this]
theorem bks_len (el hp : Nat → Nat) (bl : List B3) (k h : Nat) : (bksOf el hp bl k h).length ≤ k := by
  unfold bksOf
  have := List.length_filter_le (fun b => decide (hbk el hp bl b = h)) (List.range k)
  simpa using this
theorem mem_bks {el hp : Nat → Nat} {bl : List B3} {k h b : Nat} : b ∈ bksOf el hp bl k h ↔ b < k ∧ hbk el hp bl b = h := by unfold bksOf; simp
theorem PI.hbk {n : Nat} {el pl inn hp : Nat → Nat} {bl : List B3} (h : PI n el pl inn bl) {b : Nat} (hb : b < bl.length) : ∃ p, p < n ∧ inn p = b ∧ Pl.hbk el hp bl b = hp p := by
  have hx : bl[b]? = some bl[b] := List.getElem?_eq_getElem hb
  obtain ⟨h1, h2, h3⟩ := h.blk b _ hx
  refine ⟨el bl[b].1, (h.hel _ (by omega)).1, h.cov b _ _ hx (Nat.le_refl _) h1, ?_⟩
  unfold Pl.hbk
  rw [List.getD_eq_getElem?_getD, hx]; rfl
end Pl

section
variable {w0 w : World} {s : Lts} {K : PK} {S : SK} {n : Nat} {el pl inn : Nat → Nat} {bl : List B3} {hp ga : Nat → Nat} {sz : List Int} {tl : List Value} {rest : List Rw}

end
end Go.Proofs.YtclannenknhfpaaGreatDoor

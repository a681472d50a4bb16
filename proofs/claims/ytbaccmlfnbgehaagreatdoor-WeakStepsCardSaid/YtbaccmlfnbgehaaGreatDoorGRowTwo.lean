/-
  Lemmas.
-/
import Derived.Test.YtbaccmlfnbgehaaGreatDoorGRws
import Derived.Test.YtbaccmlfnbgehaaGreatDoorGPl5
import Derived.Test.YtbaccmlfnbgehaaGreatDoorGTauG
import Derived.Test.YtbaccmlfnbgehaaGreatDoorGOrder
import Derived.Test.YtbaccmlfnbgehaaGreatDoorGPlB
import Derived.Deep.QuietTactic
import Derived.BigQuiet
import Derived.Test.YtbaccmlfnbgehaaGreatDoorGRefReach
import Derived.Test.YtbaccmlfnbgehaaGreatDoorGWkL
import Derived.Test.YtbaccmlfnbgehaaGreatDoorGCanon
import Derived.Deep.RegionHeldLaw
import Derived.Test.YtbaccmlfnbgehaaGreatDoorGBrQ
import Derived.Test.YtbaccmlfnbgehaaGreatDoorGWkM
open List renaming any_append → l0, mem_filter → l1, range → l2, any_eq_true → l3, cons_append → l4, mem_range → l5
open Go.Proofs.Tryz
namespace Go.Proofs.YtbaccmlfnbgehaaGreatDoor
open Go.RowKit Pl
theorem u2g {w : World} {B : Nat} {x y z : Int} {v : Value} (h : w.heap[B]? = some (.cells #[.int .i64 x, .int .i64 y, .int .i64 z, v] 24 (0, 0))) :
    w.cell? ⟨B, 0, none⟩ = some (.int .i64 x) /\ w.cell? ⟨B, 1, none⟩ = some (.int .i64 y) /\ w.cell? ⟨B, 2, none⟩ = some (.int .i64 z) /\ w.cell? ⟨B, 3, none⟩ = some v := by
 refine ⟨?_, ?_, ?_, ?_⟩ <;> simp [World.cell?, h]
theorem v2s {P : Program} {c : Code} {Q : Exit -> Act -> World -> Prop} {a : Act} {w : World} (R : World -> Prop) (h0 : R w) (h : ∀ W, R W -> c.wp P Q a W) : c.wp P Q a w := h w h0
end Go.Proofs.YtbaccmlfnbgehaaGreatDoor
namespace Go.Proofs.YtbaccmlfnbgehaaGreatDoor
open Go.RowKit Pl
def FR (ob m : Nat) (vs : Nat -> Value) (f : Nat -> List Int) : List Rw :=
  ⟨50, 1, .slice (some ⟨ob, 0, none⟩) m m, m, (l2 m).map vs⟩ :: (l2 m).map (fun l => (⟨3, 1, vs l, (f l).length, (f l).flatMap encI⟩ : Rw))
theorem x0q {α : Type} {m l : Nat} (g : Nat -> α) (x : α) : ((l2 m).map g).set l x = (l2 m).map (upd g l x) := by
 apply List.ext_getElem?
 intro i
 rw [List.getElem?_set]
 by_cases h : i < m
 · by_cases e : l = i
   · subst e; simp [h, upd]
   · rw [if_neg e]
     simp [h, upd, show ¬ i = l from fun e2 => e e2.symm]
 · by_cases e : l = i
   · subst e; simp [h]
   · rw [if_neg e]; simp [h]
theorem FR.set {ob m l : Nat} {vs : Nat -> Value} {f : Nat -> List Int} (v : Value) (ys : List Int) (rest : List Rw) (hl : l < m) :
    (((FR ob m vs f ++ rest).set (l + 1) ⟨3, 1, v, ys.length, ys.flatMap encI⟩).set 0 ⟨50, 1, .slice (some ⟨ob, 0, none⟩) m m, m, ((l2 m).map vs).set l v⟩) = FR ob m (upd vs l v) (upd f l ys) ++ rest := by
 unfold FR
 rw [l4, List.set_cons_succ, List.set_cons_zero, List.set_append_left _ _ (by simpa using hl), x0q, x0q, l4]
 congr 2
 apply List.map_congr_left
 intro i _
 unfold upd
 split <;> rfl
section
variable {w0 w w' w1 w2 : World} {rest : List Rw} {ob m : Nat} {vs : Nat -> Value} {f : Nat -> List Int}
end
end Go.Proofs.YtbaccmlfnbgehaaGreatDoor
namespace Go.Proofs.YtbaccmlfnbgehaaGreatDoor
namespace Pl
section
variable {κ : Type} [DecidableEq κ] {key : Nat -> κ} {n : Nat}
end
end Pl
end Go.Proofs.YtbaccmlfnbgehaaGreatDoor
namespace Go.Proofs.YtbaccmlfnbgehaaGreatDoor
open Go.RowKit Pl
end Go.Proofs.YtbaccmlfnbgehaaGreatDoor
namespace Go.Proofs.YtbaccmlfnbgehaaGreatDoor
open Go.RowKit Pl
namespace Pl
end Pl
end Go.Proofs.YtbaccmlfnbgehaaGreatDoor
namespace Go.Proofs.YtbaccmlfnbgehaaGreatDoor
open Go.RowKit Pl
theorem FR.rest {ob m j : Nat} {vs : Nat -> Value} {f : Nat -> List Int} {rest : List Rw} : (FR ob m vs f ++ rest)[m + 1 + j]? = rest[j]? := by
 have hl : (FR ob m vs f).length = m + 1 := by unfold FR; simp
 rw [List.getElem?_append_right (by omega), hl, show m + 1 + j - (m + 1) = j by omega]
end Go.Proofs.YtbaccmlfnbgehaaGreatDoor
namespace Go.Proofs.YtbaccmlfnbgehaaGreatDoor
namespace Pl
section
variable {G : Nat -> Nat -> Bool}
def hZ (G : Nat -> Nat -> Bool) (Z : List S) (l : Nat) : Option (Nat -> Bool) := if Z.any (fun x => decide (x.1 = (l : Int))) then some (fun r => Z.any (fun x => decide (x.1 = (l : Int)) && G x.2.toNat r)) else none
theorem k3x (l : Nat) : hZ G [] l = none := by unfold hZ; simp
theorem u1n {Z : List S} {l : Nat} {g : S -> Bool} (e : ¬ Z.any (fun x => decide (x.1 = (l : Int))) = true) : Z.any (fun x => decide (x.1 = (l : Int)) && g x) = false := by
 cases h : Z.any (fun x => decide (x.1 = (l : Int)) && g x)
 · rfl
 · obtain ⟨x, hx, h2⟩ := l3.1 h
   simp only [Bool.and_eq_true] at h2
   exact absurd (l3.2 ⟨x, hx, h2.1⟩) e
theorem v1y {Z : List S} {x : S} {l : Nat} (h : x.1 ≠ (l : Int)) : hZ G (Z ++ [x]) l = hZ G Z l := by
 have h1 : ∀ g : S -> Bool, (Z ++ [x]).any (fun x => decide (x.1 = (l : Int)) && g x) = Z.any (fun x => decide (x.1 = (l : Int)) && g x) := fun g => by
   rw [l0]; simp [h]
 have h2 : (Z ++ [x]).any (fun x => decide (x.1 = (l : Int))) = Z.any (fun x => decide (x.1 = (l : Int))) := by
   rw [l0]; simp [h]
 unfold hZ
 rw [h2]
 simp only [h1]
theorem u2m {Z : List S} {m t : Nat} (h : hZ G Z m = none) : hZ G (Z ++ [((m : Int), (t : Int))]) m = some (fun r => G t r) := by
 unfold hZ at h ⊢
 by_cases e : Z.any (fun x => decide (x.1 = (m : Int))) = true
 · rw [if_pos e] at h; cases h
 · rw [if_pos (by simp)]
   congr 1
   funext r
   rw [l0, u1n e]; simp
theorem u2l {Z : List S} {m t : Nat} {g : Nat -> Bool} (h : hZ G Z m = some g) : hZ G (Z ++ [((m : Int), (t : Int))]) m = some (fun r => g r || G t r) := by
 unfold hZ at h ⊢
 by_cases e : Z.any (fun x => decide (x.1 = (m : Int))) = true
 · (
 rw [if_pos e] at h
 obtain rfl := Option.some.inj h
 rw [if_pos (by simp)]
 congr 1
 funext r
 rw [l0]; simp)
 · rw [if_neg e] at h; cases h
def kZ (G : Nat -> Nat -> Bool) (p : Nat) (Z : List S) (l : Nat) (r : Nat) : Bool := if l = 0 then G p r else ((hZ G Z l).map (fun g => g r)).getD false
def rowsL (lb n : Nat) (K : Nat -> Nat -> Bool) : List S := (l2 lb).flatMap fun l => (idsN (K l) n).map fun r : Nat => ((l : Int), (r : Int))
theorem p1x (lb n : Nat) (K : Nat -> Nat -> Bool) : (rowsL lb n K).length <= lb * n := by
 induction lb with
 | zero => simp [rowsL]
 | succ l ih => (
 have h : rowsL (l + 1) n K = rowsL l n K ++ (idsN (K l) n).map fun r : Nat => ((l : Int), (r : Int)) := by
   unfold rowsL; rw [List.range_succ, List.flatMap_append]; simp
 rw [h, List.length_append, List.length_map, Nat.succ_mul]
 have := p0q (K l) n
 omega)
def visZ (s : Lts) (G : Nat -> Nat -> Bool) (p n : Nat) : List S := (l2 n).flatMap fun q => if G p q then (s.outs (q : Int)).filter (fun x => !decide (x.1 = 0)) else []
theorem k3w {s : Lts} {n : Nat} (hr : s.Right) (hn : s.st = (n : Int)) (hG : ∀ p q, p < n -> (G p q = true ↔ TR s p q)) {p q l : Nat} (hp : p < n) (_hq : q < n) : kZ G p (visZ s G p n) l q = true ↔ wst s p (l : Int) q := by
 unfold kZ
 by_cases h0 : l = 0
 · subst h0; rw [if_pos rfl, hG p q hp]; exact z1q.symm
 · (
 rw [if_neg h0, u2c (by omega)]
 have hmem : ∀ x : S, x ∈ visZ s G p n ↔ ∃ m, m < n /\ TR s p m /\ x ∈ s.outs (m : Int) /\ x.1 ≠ 0 := fun x => by (
 unfold visZ
 rw [List.mem_flatMap]
 constructor
 · (
 rintro ⟨m, hm, hx⟩
 have hm := l5.1 hm
 by_cases hg : G p m = true
 · rw [if_pos hg] at hx
   have := l1.1 hx
   exact ⟨m, hm, (hG p m hp).1 hg, this.1, by simpa using this.2⟩
 · rw [if_neg hg] at hx; simp at hx)
 · rintro ⟨m, hm, h1, h2, h3⟩
   exact ⟨m, l5.2 hm, by rw [if_pos ((hG p m hp).2 h1)]; exact l1.2 ⟨h2, by simpa using h3⟩⟩)
 have hany : ((hZ G (visZ s G p n) l).map (fun g => g q)).getD false = (visZ s G p n).any (fun x => decide (x.1 = (l : Int)) && G x.2.toNat q) := by (
 unfold hZ
 by_cases e : (visZ s G p n).any (fun x => decide (x.1 = (l : Int))) = true
 · rw [if_pos e]; rfl
 · rw [if_neg e]
   rw [u1n e]; rfl)
 rw [hany, l3]
 constructor
 · (
 rintro ⟨⟨a, b⟩, hx, h2⟩
 obtain ⟨m, hm, h3, h4, _⟩ := (hmem _).1 hx
 simp only [Bool.and_eq_true, decide_eq_true_eq] at h2
 obtain ⟨rfl, h5⟩ := h2
 have h6 := j0s.1 h4
 have h7 := j0g.1 (hr.edges _ h6)
 simp only at h7
 obtain ⟨t, rfl⟩ := Int.eq_ofNat_of_zero_le h7.2.2.2.2.1
 exact ⟨m, t, h3, h6, (hG t q (by omega)).1 (by simpa using h5)⟩)
 · rintro ⟨m, t, h1, h2, h3⟩
   have hm := (z0r hr hn h2)
   exact ⟨((l : Int), (t : Int)), (hmem _).2 ⟨m, hm.1, h1, j0s.2 h2, by simp; omega⟩, by simp [(hG t q hm.2.1).2 h3]⟩)
end
end Pl
end Go.Proofs.YtbaccmlfnbgehaaGreatDoor
namespace Go.Proofs.YtbaccmlfnbgehaaGreatDoor
open Go.RowKit Pl
namespace Pl
section
variable {s : Lts} {n lb : Nat}
theorem j1r {p q : Nat} : TR s.norm p q ↔ TR s p q := by
 constructor
 · intro h
   induction h with
   | refl => exact .refl
   | tail _ h2 ih => exact ih.tail (p0r.1 h2)
 · intro h
   induction h with
   | refl => exact .refl
   | tail _ h2 ih => exact ih.tail (p0r.2 h2)
theorem k2k {p q : Nat} {l : Int} : wst s.norm p l q ↔ wst s p l q := by
 unfold wst one
 simp only [j1r, p0r]
theorem y2t (hr : s.Right) {q m : Nat} : Rch (tauOf s (q : Int)) (m : Int) ↔ TR s q m := by
 constructor
 · (
 intro h
 have h1 := h (fun x => ∃ m : Nat, x = (m : Int) /\ TR s q m) ⟨q, rfl, .refl⟩ (by (
 rintro a l b ⟨m, rfl, h2⟩ h3
 unfold tauOf at h3
 simp only [l1, beq_iff_eq] at h3
 obtain ⟨h3, rfl⟩ := h3
 have h4 := j0g.1 (hr.edges _ h3)
 simp only at h4
 obtain ⟨b, rfl⟩ := Int.eq_ofNat_of_zero_le h4.2.2.2.2.1
 exact ⟨b, rfl, h2.tail h3⟩))
 obtain ⟨m', h2, h3⟩ := h1
 obtain rfl : m = m' := by omega
 exact h3)
 · intro h
   induction h with
   | refl => exact Rch.start _
   | @tail a b _ h2 ih => exact ih.step (l := 0) (by unfold tauOf; simp only [l1]; exact ⟨h2, by simp⟩)
theorem p2m (hr : s.Right) (hn : s.st = (n : Int)) {p q : Nat} (hp : p < n) : silG s p q = true ↔ TR s p q := by
 have hrn := hr.norm
 unfold silG
 rw [decide_eq_true_eq, j1b (z0q hrn (by omega) (by show (p : Int) < s.st; omega)) (by show s.st ≠ 0; omega), y2t hrn, j1r]
end
end Pl
end Go.Proofs.YtbaccmlfnbgehaaGreatDoor
namespace Go.Proofs.YtbaccmlfnbgehaaGreatDoor
open Go.RowKit Pl
def toV (s0 n : Nat) (H : Nat -> Option (Nat -> Bool)) (bk : Nat -> Nat) (l : Nat) : Value := if l = 0 then .slice (some ⟨s0, 0, none⟩) n n else match H l with | none => .slice none 0 0 | some _ => .slice (some ⟨bk l, 0, none⟩) n n
structure ToM (w : World) (tb lb n s0 : Nat) (H : Nat -> Option (Nat -> Bool)) : Prop where
  ex : ∃ bk : Nat -> Nat, w.rowIs tb 57 lb (toV s0 n H bk) /\ (∀ l h, 0 < l -> l < lb -> H l = some h -> tb < bk l /\ w.rowIs (bk l) 4 n (fun q => .bool (h q))) /\ ∀ l l', 0 < l -> l < lb -> 0 < l' -> l' < lb -> l ≠ l' -> H l ≠ none -> H l' ≠ none -> bk l ≠ bk l'
section
variable {w w' : World} {tb lb n s0 m : Nat} {H H' : Nat -> Option (Nat -> Bool)}
theorem ToM.lt (h : ToM w tb lb n s0 H) : tb < w.heap.size := by obtain ⟨_, h1, _⟩ := h.ex; exact h1.lt
theorem ToM.congr (h : ToM w tb lb n s0 H) (e : ∀ l, H l = H' l) : ToM w tb lb n s0 H' := by
 have : H = H' := funext e
 rw [<- this]; exact h
theorem ToM.congrN (h : ToM w tb lb n s0 H) (e : ∀ l, H l = none ↔ H' l = none) (e2 : ∀ l g g', H l = some g -> H' l = some g' -> ∀ q, q < n -> g q = g' q) : ToM w tb lb n s0 H' := by
 obtain ⟨bk, h1, h2, h3⟩ := h.ex
 refine ⟨bk, h1.congr (fun l _ => ?_), fun l g' hl hlb hg' => ?_, fun l l' a b c d ne h6 h7 => h3 l l' a b c d ne (fun h => h6 ((e l).1 h)) (fun h => h7 ((e l').1 h))⟩
 · (
 unfold toV
 cases hh : H l with
 | none => rw [(e l).1 hh]
 | some g => (
 cases hh' : H' l with
 | none => rw [(e l).2 hh'] at hh; cases hh
 | some g' => rfl))
 · cases hh : H l with
   | none => rw [(e l).1 hh] at hg'; cases hg'
   | some g =>
     obtain ⟨h4, h5⟩ := h2 l g hl hlb hh
     exact ⟨h4, h5.congr (fun q hq => by rw [e2 l g g' hh hg' q hq])⟩
theorem ToM.kept (h : ToM w tb lb n s0 H) (hs : ∀ b, tb <= b -> (∃ cs, w.heap[b]? = some (.cells cs 57 (0, 0)) ∨ w.heap[b]? = some (.cells cs 4 (0, 0))) -> w'.heap[b]? = w.heap[b]?) : ToM w' tb lb n s0 H := by
 obtain ⟨bk, h1, h2, h3⟩ := h.ex
 refine ⟨bk, h1.of_block (hs tb (Nat.le_refl _) ?_), fun l g hl hlb hg => ?_, h3⟩
 · obtain ⟨cs, hc, _⟩ := h1; exact ⟨cs, .inl hc⟩
 · obtain ⟨h4, h5⟩ := h2 l g hl hlb hg
   refine ⟨h4, h5.of_block (hs _ (by omega) ?_)⟩
   obtain ⟨cs, hc, _⟩ := h5; exact ⟨cs, .inr hc⟩
theorem ToM.call (h : ToM w tb lb n s0 H) (hB : Below w.heap.size w w') : ToM w' tb lb n s0 H :=
  h.kept (fun b _ hc => hB.block b (by obtain ⟨cs, hc | hc⟩ := hc <;> exact (Array.getElem?_eq_some_iff.1 hc).1))
theorem ToM.zero (h : ToM w tb lb n s0 H) (h0 : 0 < lb) : w.cell? ⟨tb, 0, none⟩ = some (.slice (some ⟨s0, 0, none⟩) n n) := by
 obtain ⟨bk, h1, _⟩ := h.ex
 exact h1.cell h0
theorem ToM.fz (h : ToM w tb lb n s0 H) (l : Nat) : w.frozen? ⟨tb, l, none⟩ = false := by obtain ⟨_, h1, _⟩ := h.ex; exact h1.frozen l
theorem ToM.gone (h : ToM w tb lb n s0 H) {l : Nat} (hl : 0 < l) (hlb : l < lb) (hH : H l = none) : w.cell? ⟨tb, l, none⟩ = some (.slice none 0 0) := by
 obtain ⟨bk, h1, _⟩ := h.ex
 have := h1.cell hlb
 unfold toV at this
 rw [if_neg (by omega), hH] at this
 exact this
theorem ToM.at (h : ToM w tb lb n s0 H) {l : Nat} {g : Nat -> Bool} (hl : 0 < l) (hlb : l < lb) (hH : H l = some g) : ∃ b, w.cell? ⟨tb, l, none⟩ = some (.slice (some ⟨b, 0, none⟩) n n) /\ tb < b /\ w.rowIs b 4 n (fun q => .bool (g q)) /\
    ∀ (r : Nat) (x : Bool), ToM (w.setCell ⟨b, r, none⟩ (.bool x)) tb lb n s0 (fun l' => if l' = l then some (fun r' => if r' = r then x else g r') else H l') := by
 obtain ⟨bk, h1, h2, h3⟩ := h.ex
 have hc := h1.cell hlb
 unfold toV at hc
 rw [if_neg (by omega), hH] at hc
 obtain ⟨h4, h5⟩ := h2 l g hl hlb hH
 refine ⟨bk l, hc, h4, h5, fun r x => ⟨bk, (h1.of_block (Below.heap_setCell _ _ _ _ (by show tb ≠ bk l; omega))).congr (fun l' _ => ?_), fun l' g' hl' hlb' hg' => ?_, fun a b ha hab hb hbb hne h6 h7 => h3 a b ha hab hb hbb hne ?_ ?_⟩⟩
 · (
 unfold toV
 by_cases e : l' = 0
 · rw [if_pos e, if_pos e]
 · rw [if_neg e, if_neg e]
   by_cases e2 : l' = l
   · subst e2; simp [hH]
   · simp [e2])
 · (
 by_cases e : l' = l
 · (
 subst e
 rw [if_pos rfl] at hg'
 obtain rfl := Option.some.inj hg'
 refine ⟨h4, ((h5.set r (.bool x)).congr (fun q _ => ?_))⟩
 by_cases e2 : q = r
 · simp [e2]
 · simp [e2])
 · rw [if_neg e] at hg'
   obtain ⟨h6, h7⟩ := h2 l' g' hl' hlb' hg'
   exact ⟨h6, h7.of_block (Below.heap_setCell _ _ _ _ (by show bk l' ≠ bk l; exact h3 l' l hl' hlb' hl hlb e (by rw [hg']; simp) (by rw [hH]; simp)))⟩)
 · intro e
   by_cases e2 : a = l
   · subst e2; rw [hH] at e; cases e
   · rw [if_neg e2] at h6; exact h6 e
 · intro e
   by_cases e2 : b = l
   · subst e2; rw [hH] at e; cases e
   · rw [if_neg e2] at h7; exact h7 e
theorem ToM.new (h : ToM w tb lb n s0 H) {l : Nat} (hl : 0 < l) (hlb : l < lb) (hH : H l = none) : ToM ((w.setCell ⟨tb, l, none⟩ (.slice (some ⟨w.heap.size, 0, none⟩) n n)).alloc (.cells (madeCells #[.bool false] n) 4)) tb lb n s0 (fun l' => if l' = l then some (fun _ => false) else H l') := by
 obtain ⟨bk, h1, h2, h3⟩ := h.ex
 have hz : (w.setCell ⟨tb, l, none⟩ (.slice (some ⟨w.heap.size, 0, none⟩) n n)).heap.size = w.heap.size := size_setCell _ _ _
 have hr := World.rowIs_made (w.setCell ⟨tb, l, none⟩ (.slice (some ⟨w.heap.size, 0, none⟩) n n)) (.bool false) n 4
 rw [hz] at hr
 have hlt := h1.lt
 have hold : ∀ l' g', 0 < l' -> l' < lb -> H l' = some g' -> bk l' < w.heap.size := fun l' g' a b c => (h2 l' g' a b c).2.lt
 refine ⟨fun l' => if l' = l then w.heap.size else bk l', ((h1.set l (.slice (some ⟨w.heap.size, 0, none⟩) n n)).alloc _).congr (fun l' _ => ?_), fun l' g' hl' hlb' hg' => ?_, fun a b ha hab hb hbb hne h6 h7 => ?_⟩
 · (
 unfold toV
 by_cases e : l' = l
 · subst e; rw [if_pos rfl, if_neg (by omega)]; simp
 · rw [if_neg e]
   by_cases e0 : l' = 0
   · rw [if_pos e0, if_pos e0]
   · rw [if_neg e0, if_neg e0]
     simp [e])
 · (
 dsimp only at hg' ⊢
 by_cases e : l' = l
 · subst e
   rw [if_pos rfl] at hg' ⊢
   obtain rfl := Option.some.inj hg'
   exact ⟨hlt, hr⟩
 · rw [if_neg e] at hg' ⊢
   obtain ⟨h6, h7⟩ := h2 l' g' hl' hlb' hg'
   exact ⟨h6, (h7.of_block (Below.heap_setCell _ _ _ _ (by show bk l' ≠ tb; omega))).alloc _⟩)
 · (
 dsimp only at h6 h7 ⊢
 by_cases e : a = l
 · (
 subst e
 rw [if_neg (Ne.symm hne)] at h7
 rw [if_pos rfl, if_neg (Ne.symm hne)]
 cases hb2 : H b with
 | none => exact absurd hb2 h7
 | some g' => have := hold b g' hb hbb hb2; omega)
 · (
 rw [if_neg e] at h6
 rw [if_neg e]
 by_cases e2 : b = l
 · subst e2
   rw [if_pos rfl]
   cases ha2 : H a with
   | none => exact absurd ha2 h6
   | some g' => have := hold a g' ha hab ha2; omega
 · rw [if_neg e2] at h7 ⊢
   exact h3 a b ha hab hb hbb hne h6 h7))
theorem ToM.made (w : World) {lb : Nat} (_ : 0 < lb) (n s0 : Nat) : ToM ((w.alloc (.cells (madeCells #[.slice none 0 0] lb) 57)).setCell ⟨w.heap.size, 0, none⟩ (.slice (some ⟨s0, 0, none⟩) n n)) w.heap.size lb n s0 (fun _ => none) :=
  ⟨fun _ => 0, ((World.rowIs_made w (.slice none 0 0) lb 57).set 0 _).congr (fun l _ => by unfold toV; by_cases e : l = 0 <;> simp [e]), (fun l h _ _ hh => by cases hh), fun _ _ _ _ _ _ _ h6 => absurd rfl h6⟩
end
end Go.Proofs.YtbaccmlfnbgehaaGreatDoor

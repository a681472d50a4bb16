/-
  Lemmas.
-/
import Derived.Test.YtffjcehopoaboaaGreatDoorGStepsP
import Derived.Test.YtffjcehopoaboaaGreatDoorGRefGd19
import Derived.Test.YtffjcehopoaboaaGreatDoorGWith
import Derived.Deep.RegionHeld3
import Derived.Outline
import Derived.Test.YtffjcehopoaboaaGreatDoorAs
import Derived.Test.YtffjcehopoaboaaGreatDoorNewC
import Derived.Test.YtffjcehopoaboaaGreatDoorGNew
import Derived.Test.YtffjcehopoaboaaGreatDoorGPlT
namespace Go.Proofs.YtffjcehopoaboaaGreatDoor
open Go.RowKit Pl
structure SK where
  xb : Nat
  gb : Nat
  hb : Nat
  qb : Nat
  sa : Option Addr
  sc : Nat
  ta : Option Addr
  tc : Nat
section
variable {w0 w w' : World} {s : Lts} {K : PK} {S : SK} {n : Nat} {el pl inn : Nat → Nat} {bl : List B3} {hp ga : Nat → Nat} {sz : List Int} {tl : List Value} {rest : List Rw} {pb : Nat}
theorem Rws.swap {A B C : List Rw} (h : Rws w0 w (A ++ (B ++ C))) : Rws w0 w (B ++ (A ++ C)) := h.perm (by
  rw [← List.append_assoc, ← List.append_assoc]
  exact (List.perm_append_comm).append_right C)
end
namespace Pl
def stepsTo (s : Lts) (L : List Nat) : List S := L.flatMap (fun t : Nat => s.ins (t : Int))
theorem mem_withL {M : List S} {l t : Int} : t ∈ withL l M ↔ (l, t) ∈ M := by
  unfold withL
  simp only [List.mem_map, List.mem_filter, beq_iff_eq]
  constructor
  · rintro ⟨y, ⟨hy, rfl⟩, rfl⟩; exact hy
  · intro h; exact ⟨_, ⟨h, rfl⟩, rfl⟩
theorem mem_stepsTo {s : Lts} {n : Nat} {L : List Nat} (hL : ∀ t ∈ L, t < n) {l : Int} {p : Nat} : (p : Int) ∈ withL l (stepsTo s L) ↔ intoX s n l (· ∈ L) p := by
  rw [mem_withL]
  unfold stepsTo intoX
  simp only [List.mem_flatMap]
  constructor
  · rintro ⟨t, ht, h⟩
    exact ⟨t, hL t ht, ht, mem_inS.1 h⟩
  · rintro ⟨t, _, ht, h⟩
    exact ⟨t, ht, mem_inS.2 h⟩
theorem stepsTo_rng {s : Lts} (hr : s.Right) {n : Nat} (hn : s.st = (n : Int)) {L : List Nat} {y : S} (h : y ∈ stepsTo s L) : 0 ≤ y.1 ∧ y.1 < s.lb ∧ ∃ p : Nat, p < n ∧ y.2 = (p : Int) := by
  unfold stepsTo at h
  obtain ⟨t, _, ht⟩ := List.mem_flatMap.1 h
  have := offB_false.1 (hr.edges _ (mem_inS.1 ht))
  simp only at this
  exact ⟨this.2.2.1, this.2.2.2.1, y.2.toNat, by omega, by omega⟩
end Pl
end Go.Proofs.YtffjcehopoaboaaGreatDoor
namespace Go.Proofs.YtffjcehopoaboaaGreatDoor
open Go.RowKit Pl
namespace Pl
def SplitK (s : Lts) (n : Nat) (L : List Nat) (inn inn' : Nat → Nat) (k : Nat) : Prop :=
  ∀ p q, p < n → q < n → (inn' p = inn' q ↔ inn p = inn q ∧ ∀ l : Nat, l < k → (((p : Nat) : Int) ∈ withL (l : Int) (stepsTo s L) ↔ ((q : Nat) : Int) ∈ withL (l : Int) (stepsTo s L)))
theorem SplitK.zero (s : Lts) (n : Nat) (L : List Nat) (inn : Nat → Nat) : SplitK s n L inn inn 0 := fun p q _ _ => by
  constructor
  · intro h; exact ⟨h, fun l hl => by omega⟩
  · intro h; exact h.1
theorem SplitK.done {s : Lts} (hr : s.Right) {n : Nat} (hn : s.st = (n : Int)) {L : List Nat} (hL : ∀ t ∈ L, t < n) {inn inn' : Nat → Nat} {m : Nat} (hm : s.lb = (m : Int)) (h : SplitK s n L inn inn' m) : SplitBy s n (· ∈ L) inn inn' := fun p q hp hq => by
  rw [h p q hp hq]
  constructor
  · rintro ⟨h1, h2⟩
    refine ⟨h1, fun l => ?_⟩
    rw [← mem_stepsTo hL, ← mem_stepsTo hL]
    by_cases hl : 0 ≤ l ∧ l < s.lb
    · obtain ⟨k, rfl⟩ := Int.eq_ofNat_of_zero_le hl.1
      exact h2 k (by omega)
    · constructor
      · intro h3; have := stepsTo_rng hr hn (mem_withL.1 h3); exact absurd ⟨this.1, this.2.1⟩ hl
      · intro h3; have := stepsTo_rng hr hn (mem_withL.1 h3); exact absurd ⟨this.1, this.2.1⟩ hl
  · rintro ⟨h1, h2⟩
    exact ⟨h1, fun l _ => by rw [mem_stepsTo hL, mem_stepsTo hL]; exact h2 l⟩
end Pl
section
variable {w0 w : World} {s : Lts} {K : PK} {S : SK} {n : Nat} {el pl inn : Nat → Nat} {bl : List B3} {hp ga : Nat → Nat} {sz : List Int} {tl : List Value} {rest : List Rw}
end
end Go.Proofs.YtffjcehopoaboaaGreatDoor
namespace Go.Proofs.YtffjcehopoaboaaGreatDoor
open Go.RowKit Pl
section
variable {w0 w w' w1 w2 : World} {s : Lts} {K : PK} {S : SK} {n : Nat} {el pl inn : Nat → Nat} {bl : List B3} {hp ga : Nat → Nat} {sz : List Int} {tl : List Value} {rest : List Rw} {pb : Nat}
end
def gaK (ga : Nat → Nat) (L : List Nat) (k : Nat) : Nat → Nat := fun p => if p ∈ L.take k then ga p + 1 else ga p
section
variable {w0 w : World} {S : SK} {n pb : Nat} {hp ga : Nat → Nat} {sz : List Int} {tl : List Value} {rest : List Rw}
end
end Go.Proofs.YtffjcehopoaboaaGreatDoor
namespace Go.Proofs.YtffjcehopoaboaaGreatDoor
open Go.RowKit Pl
def blkOf : Option Addr → Nat
  | some a => a.block
  | none => 0
section
variable {w0 w w1 w2 : World} {L A B C : List Rw} {r : Rw}
end
section
variable {w0 w : World} {s : Lts} {K : PK} {S : SK} {n : Nat} {el pl inn : Nat → Nat} {bl : List B3} {hp ga : Nat → Nat} {sz : List Int} {tl : List Value} {rest : List Rw}
end
end Go.Proofs.YtffjcehopoaboaaGreatDoor
namespace Go.Proofs.YtffjcehopoaboaaGreatDoor
open Go.RowKit Pl
def hpK (hp : Nat → Nat) (H : Nat) (L : List Nat) (k : Nat) : Nat → Nat := fun p => if p ∈ L.take k then H else hp p
section
variable {w0 w : World} {s : Lts} {K : PK} {S : SK} {n : Nat} {el pl inn : Nat → Nat} {bl : List B3} {hp ga : Nat → Nat} {sz : List Int} {tl : List Value} {rest : List Rw}
end
end Go.Proofs.YtffjcehopoaboaaGreatDoor
namespace Go.Proofs.YtffjcehopoaboaaGreatDoor
open Go.RowKit Pl
namespace Pl
def hbk (el hp : Nat → Nat) (bl : List B3) (b : Nat) : Nat := hp (el (bl.getD b (0, 0, 0)).1)
def bksOf (el hp : Nat → Nat) (bl : List B3) (k h : Nat) : List Nat := (List.range k).filter (fun b => decide (hbk el hp bl b = h))
end Pl
section
variable {w0 w : World} {s : Lts} {K : PK} {S : SK} {n : Nat} {el pl inn : Nat → Nat} {bl : List B3} {hp ga : Nat → Nat} {sz : List Int} {tl : List Value} {rest : List Rw}
end
end Go.Proofs.YtffjcehopoaboaaGreatDoor
namespace Go.Proofs.YtffjcehopoaboaaGreatDoor
open Go.RowKit Pl
section
variable {w0 w : World} {s : Lts} {K : PK} {S : SK} {n : Nat} {el pl inn : Nat → Nat} {bl : List B3} {hp ga : Nat → Nat} {sz : List Int} {tl : List Value} {rest : List Rw}
def MinPost (f : Nat → Nat) (xs : List Nat) (w : World) (e : Ending) (w' : World) : Prop := ∃ m, m ∈ xs ∧ e = .returned (.int .i64 (m : Int)) ∧ (∀ x ∈ xs, f m ≤ f x) ∧ Below w.heap.size w w'
end
end Go.Proofs.YtffjcehopoaboaaGreatDoor
namespace Go.Proofs.YtffjcehopoaboaaGreatDoor
open Go.RowKit Pl
namespace Pl
theorem another {l : List Nat} (hn : l.Nodup) (h2 : 2 ≤ l.length) {b : Nat} : ∃ c, c ∈ l ∧ c ≠ b := by
  apply Classical.byContradiction
  intro h
  have := nodup_le (l := l) (m := [b]) hn (fun x hx => by
    rcases Classical.em (x = b) with e | e
    · simp [e]
    · exact absurd ⟨x, hx, e⟩ h)
  simp at this; omega
end Pl
section
variable {w0 w : World} {s : Lts} {K : PK} {S : SK} {n : Nat} {el pl inn : Nat → Nat} {bl : List B3} {hp ga : Nat → Nat} {sz : List Int} {tl : List Value} {rest : List Rw}
end
end Go.Proofs.YtffjcehopoaboaaGreatDoor
namespace Go.Proofs.YtffjcehopoaboaaGreatDoor
open Go.RowKit Pl
def strName : ByteArray := ⟨#[115, 116, 114, 111, 110, 103]⟩
def FaultS (w : World) (p : Addr) (v : Value) : Prop :=
  ∃ vi, FaultAt w v strName vi ∧ FaultAt w vi sysName (.iface 304 (.pointer (some p)))
theorem FaultS.below {w w' : World} {p : Addr} {v : Value} (h : FaultS w p v) (hB : Below w.heap.size w w') : FaultS w' p v := by
  obtain ⟨vi, h1, h2⟩ := h
  exact ⟨vi, h1.below hB, h2.below hB⟩
end Go.Proofs.YtffjcehopoaboaaGreatDoor
namespace Go.Proofs.YtffjcehopoaboaaGreatDoor
open Go.RowKit Pl
def RefPost (s : Lts) (n : Nat) (w : World) (e : Ending) (w' : World) : Prop :=
  ∃ (inn ga : Nat → Nat) (cg cc : Nat) (ta : Option Addr) (tn tc : Nat) (ba : Option Addr) (bb bc : Nat), Big s n (fun p => (inn p : Int)) ∧ (∀ p, p < n → 1 ≤ ga p ∧ 2 ^ (ga p - 1) ≤ n) ∧
    e = .returned (.tuple #[.agg #[.slice (some ⟨cg, 0, none⟩) n cc, .slice ta tn tc, .slice ba n bc], .nilIface]) ∧ w'.ownsRow w.heap.size 3 1 (.slice (some ⟨cg, 0, none⟩) n cc) n ((canon (flN n inn)).flatMap encI) ∧ SlAt encI 1 w' ba bb 0 (flN n ga) ∧ Below w.heap.size w w'
end Go.Proofs.YtffjcehopoaboaaGreatDoor
namespace Go.Proofs.YtffjcehopoaboaaGreatDoor
open Go.RowKit Pl
def runZ : Value := .agg #[.slice none 0 0, .slice none 0 0, .slice none 0 0]
end Go.Proofs.YtffjcehopoaboaaGreatDoor
namespace Go.Proofs.YtffjcehopoaboaaGreatDoor
open Go.RowKit Pl
def StrClasses (s : Lts) (n : Nat) (w : World) (e : Ending) (w' : World) : Prop :=
  ∃ (inn : Nat → Nat) (a : Option Addr) (c : Nat), Big s n (fun p => (inn p : Int)) ∧ e = .returned (.tuple #[.slice a n c, .nilIface]) ∧ w'.ownsRow w.heap.size 3 1 (.slice a n c) n ((canon (flN n inn)).flatMap encI) ∧ Below w.heap.size w w'
end Go.Proofs.YtffjcehopoaboaaGreatDoor

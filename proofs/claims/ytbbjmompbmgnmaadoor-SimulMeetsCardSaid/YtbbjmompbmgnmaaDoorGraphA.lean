/-
  system.rows.row, and the graph in memory: Each, Back, own, States, Labels, Start.
-/
import Derived.Test.YtbbjmompbmgnmaaDoorBase
import Derived.Outline
import Derived.Deep.QuietTactic
import Derived.BigQuiet
import Derived.IntWalk
namespace Go.Proofs.YtbbjmompbmgnmaaDoor
open Go.RowKit Pl

theorem slAt_sub {α : Type} {enc : α → List Value} {k : Nat} {w : World} {a : Option Addr} {b off : Nat} {xs : List α} (h : SlAt enc k w a b off xs) (lo m : Nat) :
    SlAt enc k w (some ⟨b, off + lo * k, none⟩) b (off + lo * k) ((xs.drop lo).take m) where
  ad _ := rfl
  lt hl := h.lt (by simp at hl; omega)
  cell i x hx j u hu := by
    rw [List.getElem?_take] at hx
    split at hx
    · rw [List.getElem?_drop] at hx
      have := h.cell (lo + i) x hx j u hu
      rw [Nat.add_mul] at this
      rw [show off + lo * k + i * k + j = off + (lo * k + i * k) + j by omega]
      exact this
    · cases hx

/-- The rows of a graph, in memory: all the steps, and from where on each row lies. -/
structure RowsAt (w : World) (va vf : Value) (n : Nat) (all : List S) (fr : Nat → Nat) : Prop where
  alls : ∃ a c b off, va = .slice a all.length c ∧ all.length ≤ c ∧ c ≤ maxLen ∧ SlAt encS 2 w a b off all
  from_ : ∃ b, vf = .slice (some ⟨b, 0, none⟩) (n + 1) (n + 1) ∧ b < w.heap.size ∧ ∀ i, i ≤ n → w.cell? ⟨b, i, none⟩ = some (.int .i64 (fr i))
  mono : ∀ i, i < n → fr i ≤ fr (i + 1)
  top : ∀ i, i ≤ n → fr i ≤ all.length
  small : all.length ≤ 10000
  n_le : n ≤ 1000

def rowOf (all : List S) (fr : Nat → Nat) (i : Nat) : List S := (all.drop (fr i)).take (fr (i + 1) - fr i)

theorem RowsAt.below {w w' : World} {va vf : Value} {n : Nat} {all : List S} {fr : Nat → Nat} (h : RowsAt w va vf n all fr) (hB : Below w.heap.size w w') : RowsAt w' va vf n all fr := by
  obtain ⟨a, c, b, off, h1, h2, h3, h4⟩ := h.alls
  obtain ⟨b', h5, h6, h7⟩ := h.from_
  exact ⟨⟨a, c, b, off, h1, h2, h3, h4.below hB (Nat.le_refl _)⟩, ⟨b', h5, Nat.lt_of_lt_of_le h6 hB.size, fun i hi => by rw [hB.cell (p := ⟨b', i, none⟩) h6]; exact h7 i hi⟩, h.mono, h.top, h.small, h.n_le⟩

/-- What a call answers: a list of steps that is read at some place. -/
def StepsRet (w' : World) (e : Ending) (ss : List S) : Prop := ∃ a c b off, e = .returned (.slice a ss.length c) ∧ ss.length ≤ c ∧ c ≤ maxLen ∧ SlAt encS 2 w' a b off ss

theorem stepsRet_nil {w' : World} : StepsRet w' (.returned (.slice none 0 0)) [] := ⟨none, 0, 0, 0, rfl, Nat.le_refl _, by unfold maxLen; omega, slAt_nil _ _ _ _⟩

set_option maxRecDepth 100000 in
theorem row_out {w0 w : World} (va vf : Value) {n : Nat} {all : List S} {fr : Nat → Nat} (h : RowsAt w0 va vf n all fr) (_hB : Below w0.heap.size w0 w) (i : Int) (hi : i < 0 ∨ (n : Int) ≤ i) :
    Calls Tryd.prog 87 #[.agg #[va, vf], .int .i64 i] w fun e w' => StepsRet w0 e [] ∧ Below w.heap.size w w' := by
  obtain ⟨a, c, b, off, rfl, h2, h3, h4⟩ := h.alls
  obtain ⟨b', rfl, h6, h7⟩ := h.from_
  have hn := h.n_le
  clear h h4 h7 _hB
  rcases hi with hi | hi
  · go_enter Tryd.func87, Tryd.ntmps87
    go_wp2
    go_ret
    exact ⟨stepsRet_nil, (Below.refl _ _).alloc (Nat.le_refl _) _⟩
  · have hi0 : ¬ i < 0 := by omega
    go_enter Tryd.func87, Tryd.ntmps87
    go_wp2
    go_ret
    exact ⟨stepsRet_nil, (Below.refl _ _).alloc (Nat.le_refl _) _⟩

set_option maxRecDepth 100000 in
theorem row_in {w0 w : World} (va vf : Value) {n : Nat} {all : List S} {fr : Nat → Nat} (h : RowsAt w0 va vf n all fr) (hB : Below w0.heap.size w0 w) (i : Nat) (hi : i < n) :
    Calls Tryd.prog 87 #[.agg #[va, vf], .int .i64 i] w fun e w' => StepsRet w0 e (rowOf all fr i) ∧ Below w.heap.size w w' := by
  obtain ⟨a, c, b, off, rfl, h2, h3, h4⟩ := h.alls
  obtain ⟨b', rfl, h6, h7⟩ := h.from_
  have hn := h.n_le
  have c0 : w.cell? ⟨b', i, none⟩ = _ := (hB.cell (p := ⟨b', i, none⟩) h6).trans (h7 i (by omega))
  have c1 : w.cell? ⟨b', i + 1, none⟩ = _ := (hB.cell (p := ⟨b', i + 1, none⟩) h6).trans (h7 (i + 1) (by omega))
  replace h6 : b' < w.heap.size := Nat.lt_of_lt_of_le h6 hB.size
  have hm := h.mono i hi
  have ht := h.top (i + 1) (by omega)
  have hs := h.small
  unfold rowOf
  generalize fr i = lo at *
  generalize fr (i + 1) = hi' at *
  have hlen : ((all.drop lo).take (hi' - lo)).length = hi' - lo := by simp; omega
  have k1 : (i : Int) < (n : Int) := by omega
  have k2 : (0 : Int) ≤ (i : Int) + 1 := by omega
  have k6 : (i : Int) < (n : Int) + 1 := by omega
  have k3 : IntKind.i64.wrap ((i : Int) + 1) = (i : Int) + 1 := IntWalk.i64_in _ (by omega)
  have k4 : ((i : Int) + 1).toNat = i + 1 := by omega
  have k7 : (lo : Int) ≤ (hi' : Int) := by omega
  have k8 : (hi' : Int) ≤ (c : Int) := by omega
  by_cases heq : lo = hi'
  · subst heq
    have hrow : (all.drop lo).take (lo - lo) = [] := by simp
    rw [hrow]
    clear h h4 h7 hlen hrow hB
    go_enter Tryd.func87, Tryd.ntmps87
    go_wp2_with fail
    go_quiet (fail)
    go_wp2
    all_goals
      go_ret
      exact ⟨⟨a, _, 0, 0, rfl, Nat.le_refl _, by unfold maxLen; omega, slAt_nil _ _ _ _⟩, below_drewN ((Below.refl _ _).alloc (Nat.le_refl _) _) _⟩
  · obtain rfl := h4.ad (by omega)
    have k9 : (lo : Int) < (hi' : Int) := by omega
    have k10 : (lo : Int) < (c : Int) := by omega
    have k11 : lo < hi' := by omega
    have H4 := Lib.hid h4; have HL := Lib.hid hlen
    clear h h4 h7 hlen hB
    go_enter Tryd.func87, Tryd.ntmps87
    go_wp2_with fail
    go_quiet (fail)
    go_wp2
    go_ret
    refine ⟨⟨some ⟨b, off + lo * 2, none⟩, hi' - lo, b, off + lo * 2, ?_, by rw [HL.out]; exact Nat.le_refl _, by omega, slAt_sub H4.out lo (hi' - lo)⟩, below_drewN ((Below.refl _ _).alloc (Nat.le_refl _) _) _⟩
    rw [HL.out]
    first | rfl | (simp; done)
end Go.Proofs.YtbbjmompbmgnmaaDoor

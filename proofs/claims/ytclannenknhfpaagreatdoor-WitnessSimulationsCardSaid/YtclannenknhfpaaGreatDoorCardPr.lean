/-
  How a list of pairs that came in opens.
-/
import Derived.Test.YtclannenknhfpaaGreatDoorCardSys
import Derived.Test.YtclannenknhfpaaGreatDoorGKeyP
namespace Go.Proofs.YtclannenknhfpaaGreatDoor
open Go.ChangeShapes Go.WideShapes Go.ChangeAt Go.RowKit Go.Lib Go.Deep Pl

theorem cellsA2 : Tryz.prog.cellsOf 28 = 2 := by kernel_rfl

set_option maxRecDepth 100000 in
theorem open_pairK {H : Type} {enc : TypeId × Value → H} {W : World} {fuel : Nat} {cs : List Value} {x : DataW H × List MemPlace}
    (h : DataW.trod enc Tryz.prog W 0 (fun _ => true) true fuel 28 cs = some x) : ∃ e : Int × Int, cs = encPr e := by
  have hu : Tryz.prog.underlying 28 = some (.array 2 3) := by kernel_rfl
  obtain ⟨xs, m, _, _, hl, hx, hi⟩ := DataW.trod_array hu h
  rw [cellsA2] at hl
  match cs, hl, xs, hx with
  | [c0, c1], _, [y0, y1], _ =>
    have h0 := hi 0 (by omega)
    have h1 := hi 1 (by omega)
    rw [cellsInt] at h0 h1
    simp at h0 h1
    obtain ⟨a0, e0, _, _⟩ := DataW.trod_int Tryz.underlying3 h0
    obtain ⟨a1, e1, _, _⟩ := DataW.trod_int Tryz.underlying3 h1
    simp at e0 e1
    subst e0 e1
    exact ⟨(a0, a1), rfl⟩

set_option maxRecDepth 100000 in
/-- A list of pairs that came in. -/
theorem open_pairsK {H : Type} {enc : TypeId × Value → H} {W : World} {fuel : Nat} {v : Value} {x : DataW H × List MemPlace}
    (h : DataW.trod enc Tryz.prog W 0 (fun _ => true) true fuel 25 [v] = some x) :
    ∃ (a : Option Addr) (c b off : Nat) (es : List (Int × Int)), v = .slice a es.length c ∧ es.length ≤ maxLen ∧ SlAt encPr 2 W a b off es ∧ es.length ≤ c ∧ c ≤ maxLen := by
  rcases open_slice Tryz.underlying25 h with ⟨hcs, _⟩ | ⟨ad, len, cap, m, n, D, Pls, hcs, _, hl, hm, hmm, _, hi⟩
  · simp at hcs
    subst hcs
    exact ⟨none, 0, 0, 0, [], rfl, by simp, slAt_nil _ _ _ _, by simp, by simp⟩
  · simp at hcs
    subst hcs
    simp only [if_true] at hmm
    rw [cellsA2] at hi
    have hex : ∀ i : Nat, ∃ e : Int × Int, i < m → ∀ j u, (encPr e)[j]? = some u → W.cell? (ad.add (i * 2 + j)) = some u := by
      intro i
      by_cases him : i < m
      · obtain ⟨cs', hc, ht⟩ := hi i him
        obtain ⟨e, rfl⟩ := open_pairK ht
        obtain ⟨_, hcl, hat⟩ := World.cells?_some hc
        refine ⟨e, fun _ j u hu => ?_⟩
        have hj : j < 2 := by have := (List.getElem?_eq_some_iff.1 hu).1; simpa [encPr] using this
        rw [← Go.Deep.add_add, hat j hj, hu]
      · exact ⟨(0, 0), fun h => absurd h him⟩
    obtain ⟨f, hf⟩ := Classical.axiomOfChoice hex
    obtain ⟨b, off, spot⟩ := ad
    have hcl : 0 < len → spot = none ∧ b < W.heap.size := by
      intro h0
      have hc0 := (hf 0 (by omega)) 0 _ rfl
      have hspot : spot = none := by simpa [Addr.add] using World.cell?_spot hc0
      subst hspot
      exact ⟨rfl, World.block_lt_of_cell? _ _ hc0⟩
    refine ⟨some ⟨b, off, spot⟩, cap, b, off, (List.range len).map f, by simp, by simp; omega, ⟨fun hp => ?_, fun hp => (hcl (by simpa using hp)).2, fun i y hy j u hu => ?_⟩, by simp; omega, by omega⟩
    · obtain ⟨rfl, _⟩ := hcl (by simpa using hp); rfl
    · have hil : i < len := by have := (List.getElem?_eq_some_iff.1 hy).1; simpa using this
      obtain ⟨rfl, _⟩ := hcl (by omega)
      have hy' : y = f i := by simp [hil] at hy; exact hy.symm
      subst hy'
      have := (hf i (by omega)) j u hu
      rw [Go.WideShapes.add_plain, ← Nat.add_assoc] at this
      exact this
end Go.Proofs.YtclannenknhfpaaGreatDoor

/-
  How a list of lists of numbers that came in opens.
-/
import Derived.Test.YtfakdgljilmpkaaGreatDoorCardSys
import Derived.Test.YtfakdgljilmpkaaGreatDoorStrP
namespace Go.Proofs.YtfakdgljilmpkaaGreatDoor
open Go.ChangeShapes Go.WideShapes Go.ChangeAt Go.RowKit Go.Lib Go.Deep Pl

theorem cellsInts : Tryz.prog.cellsOf 33 = 1 := by kernel_rfl

/-- One list of numbers, whatever value it is read off. -/
theorem open_row {H : Type} {enc : TypeId × Value → H} {W : World} {fuel : Nat} {cs : List Value} {x : DataW H × List MemPlace}
    (h : DataW.trod enc Tryz.prog W 0 (fun _ => true) true fuel 33 cs = some x) : ∃ (a : Option Addr) (xs : List Int) (b off c : Nat), cs = [.slice a xs.length c] ∧ xs.length ≤ maxLen ∧ SlAt encI 1 W a b off xs := by
  rcases open_ints Tryz.underlying33 Tryz.underlying3 (by kernel_rfl) h with ⟨hcs, _⟩ | ⟨ad, len, cap, zs, hcs, _⟩
  · subst hcs
    obtain ⟨b, off, xs, e, hm, hS, _⟩ := open_intList h
    exact ⟨none, xs, b, off, 0, by rw [← e], hm, hS⟩
  · subst hcs
    obtain ⟨b, off, xs, e, hm, hS, _⟩ := open_intList h
    exact ⟨some ad, xs, b, off, cap, by rw [← e], hm, hS⟩

set_option maxRecDepth 100000 in
/-- A list of lists of numbers that came in. -/
theorem open_rows {H : Type} {enc : TypeId × Value → H} {W : World} {fuel : Nat} {v : Value} {x : DataW H × List MemPlace}
    (h : DataW.trod enc Tryz.prog W 0 (fun _ => true) true fuel 26 [v] = some x) :
    ∃ (a : Option Addr) (c b off : Nat) (vs : List Value) (T : List (List Int)), v = .slice a T.length c ∧ T.length ≤ 9223372036854775807 ∧ IRows W a b off vs T := by
  rcases open_slice Tryz.underlying26 h with ⟨hcs, _⟩ | ⟨ad, len, cap, m, n, D, Pls, hcs, _, hl, hm, hmm, _, hi⟩
  · simp at hcs
    subst hcs
    exact ⟨none, 0, 0, 0, [], [], rfl, by simp, slAt_nil _ _ _ _, rfl, fun k L hL => by simp at hL⟩
  · simp at hcs
    subst hcs
    simp only [if_true] at hmm
    rw [cellsInts] at hi
    have hex : ∀ i : Nat, ∃ p : Value × List Int, i < m → (p.2.length ≤ maxLen ∧ ∃ (ia : Option Addr) (ib io ic : Nat), p.1 = .slice ia p.2.length ic ∧ SlAt encI 1 W ia ib io p.2) ∧ W.cell? (ad.add (i * 1)) = some p.1 := by
      intro i
      by_cases him : i < m
      · obtain ⟨cs', hc, ht⟩ := hi i him
        obtain ⟨ia, xs, ib, io, ic, rfl, hxl, hxs⟩ := open_row ht
        obtain ⟨_, hcl, hat⟩ := World.cells?_some hc
        have h0 := hat 0 (by omega)
        rw [Go.Deep.add_add] at h0
        exact ⟨(.slice ia xs.length ic, xs), fun _ => ⟨⟨hxl, ia, ib, io, ic, rfl, hxs⟩, by simpa using h0⟩⟩
      · exact ⟨(default, []), fun h => absurd h him⟩
    obtain ⟨f, hf⟩ := Classical.axiomOfChoice hex
    obtain ⟨b, off, spot⟩ := ad
    have hcl : 0 < len → spot = none ∧ b < W.heap.size := by
      intro h0
      have hc0 := (hf 0 (by omega)).2
      have hspot : spot = none := by simpa [Addr.add] using World.cell?_spot hc0
      subst hspot
      exact ⟨rfl, World.block_lt_of_cell? _ _ hc0⟩
    refine ⟨some ⟨b, off, spot⟩, cap, b, off, (List.range len).map (fun i => (f i).1), (List.range len).map (fun i => (f i).2), by simp, (by rw [List.length_map, List.length_range]; have h1 : maxLen = 9223372036854775807 := (by decide); omega), ⟨⟨fun hp => ?_, fun hp => (hcl (by simpa using hp)).2, fun i y hy j u hu => ?_⟩, by simp, fun k L hL => ?_⟩⟩
    · obtain ⟨rfl, _⟩ := hcl (by simpa using hp); rfl
    · have hil : i < len := by have := (List.getElem?_eq_some_iff.1 hy).1; simpa using this
      obtain ⟨rfl, _⟩ := hcl (by omega)
      have hy' : y = (f i).1 := by simp [hil] at hy; exact hy.symm
      subst hy'
      have hj := (List.getElem?_eq_some_iff.1 hu).1
      rw [lenV] at hj
      obtain rfl : j = 0 := by omega
      have hu' : u = (f i).1 := by simp [encV] at hu; exact hu.symm
      have := (hf i (by omega)).2
      rw [add_plain] at this
      rw [hu']
      exact this
    · have hkl : k < len := by have := (List.getElem?_eq_some_iff.1 hL).1; simpa using this
      have hL' : L = (f k).2 := by simp [hkl] at hL; exact hL.symm
      subst hL'
      obtain ⟨⟨h1, ia, ib, io, ic, h2, h3⟩, _⟩ := hf k (by omega)
      have hmx : maxLen = 9223372036854775807 := (by decide)
      exact ⟨by omega, ia, ib, io, ic, by simp [hkl, h2], h3⟩
end Go.Proofs.YtfakdgljilmpkaaGreatDoor

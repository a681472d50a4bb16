/-
  law7.SystemShuffled.
-/
import Derived.Test.YtfjgedninbpjpaaDoorShufA
import Derived.Test.YtfjgedninbpjpaaDoorShufB
namespace Go.Proofs.YtfjgedninbpjpaaDoor
open Go.RowKit Pl
set_option maxRecDepth 100000 in
set_option maxHeartbeats 8000000 in
theorem shuffled_any {w : World} {p : Addr} (hE : Errs p w) {s : Lts} {a : Option Addr} {b off c : Nat} {z : Int} (hS : SlAt encE 3 w a b off s.es) (hc : s.es.length ≤ c) (hcm : c ≤ maxLen) :
    Calls Tryd.prog 12 #[.agg #[.int .i64 s.st, .int .i64 s.lb, .int .i64 s.s0, .slice a s.es.length c], .int .i64 z] w fun e w' => e = .returned (.bool true) ∧ Below w.heap.size w w' := by
  by_cases h300 : 300 < s.es.length ∨ s.es.length = 0
  · have hB0 := (Below.refl w.heap.size w).alloc (Nat.le_refl _) (Obj.cells #[.int .i64 s.st, .int .i64 s.lb, .int .i64 s.s0, .slice a s.es.length c] 24)
    have hA := Calls.mono (alive_any (hE.sys.below hB0)) (R' := fun e w' => e = .returned (.bool true) ∧ Below w.heap.size w w') (by
      rintro e w' ⟨rfl, hB⟩
      exact ⟨rfl, hB0.trans (hB.mono hB0.size)⟩)
    have HA := Lib.hid hA
    clear hE hS hc hcm hB0 hA
    by_cases h : 300 < s.es.length
    · have hi : (300 : Int) < (s.es.length : Int) := by omega
      go_enter Tryd.func12, Tryd.ntmps12
      go_wp2_with fail
      refine HA.out.mono ?_
      rintro e w1 ⟨rfl, hB⟩
      go_wp2
      go_ret
      exact ⟨rfl, hB⟩
    · have h0 : s.es.length = 0 := by omega
      clear h300 h
      rw [h0] at HA ⊢
      go_enter Tryd.func12, Tryd.ntmps12
      go_wp2_with fail
      refine HA.out.mono ?_
      rintro e w1 ⟨rfl, hB⟩
      go_wp2
      go_ret
      exact ⟨rfl, hB⟩
  · have had := hS.ad (by omega)
    subst had
    have hn : 0 < (s.es.length : Int) := by omega
    have hlt := Int.tmod_lt_of_pos z hn
    have hgt : -(s.es.length : Int) < z.tmod (s.es.length : Int) := by
      have h1 := Int.tmod_lt_of_pos (-z) hn
      rw [Int.neg_tmod] at h1
      omega
    by_cases hr : z.tmod (s.es.length : Int) < 0
    · obtain ⟨kn, hk⟩ : ∃ kn : Nat, z.tmod (s.es.length : Int) + (s.es.length : Int) = (kn : Int) := ⟨(z.tmod (s.es.length : Int) + (s.es.length : Int)).toNat, by omega⟩
      have hkn : kn < s.es.length := by omega
      exact shuffledB (x := s.es[kn]) hE hS (by omega) hc hcm rfl hr hk hkn (List.getElem?_eq_getElem hkn)
    · obtain ⟨kn, hk⟩ : ∃ kn : Nat, z.tmod (s.es.length : Int) = (kn : Int) := ⟨(z.tmod (s.es.length : Int)).toNat, by omega⟩
      have hkn : kn < s.es.length := by omega
      exact shuffledA (x := s.es[kn]) hE hS (by omega) hc hcm rfl hr hk hkn (List.getElem?_eq_getElem hkn)
end Go.Proofs.YtfjgedninbpjpaaDoor

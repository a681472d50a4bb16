/-
  semblancebook.SameInts.
-/
import Derived.Test.YtbbjmompbmgnmaaDoorEqual
namespace Go.Proofs.YtbbjmompbmgnmaaDoor
open Go.RowKit Pl

set_option maxRecDepth 100000 in
theorem sameInts_any {a1 a2 : Option Addr} {b1 o1 c1 b2 o2 c2 : Nat} {xs ys : List Int} {w : World} (h1 : SlAt encI 1 w a1 b1 o1 xs) (h2 : SlAt encI 1 w a2 b2 o2 ys) (hx : xs.length ≤ 4611686018427387904) (hy : ys.length ≤ 4611686018427387904) :
    Calls Tryd.prog 31 #[.slice a1 xs.length c1, .slice a2 ys.length c2] w fun e w' => e = .returned (.bool (decide (xs = ys))) ∧ ∃ n, w' = w.drewN n := by
  by_cases hl : xs.length = ys.length
  · have hlB : ((xs.length : Int) != (ys.length : Int)) = false := by simp [hl]
    have HL := Lib.hid hl; clear hl
    go_enter Tryd.func31, Tryd.ntmps31
    go_wp2
    go_loopw [5] (fun i wr => ∃ k m : Nat, k ≤ xs.length ∧ i = .int .i64 k ∧ (∀ j, j < k → xs[j]? = ys[j]?) ∧ wr = w.drewN m)
      (fun i _ => xs.length - (intOf i).toNat)
    case atStart => exact ⟨0, 0, Nat.zero_le _, rfl, by intro j hj; omega, rfl⟩
    case round =>
      obtain ⟨k, m, hk, rfl, heq, rfl⟩ := hrel
      have HE := Lib.hid heq; clear heq
      by_cases hlt : k < xs.length
      · have hlt2 : k < ys.length := by rw [← HL.out]; exact hlt
        obtain ⟨x, hxk⟩ := getElem?_of_lt hlt
        obtain ⟨y, hyk⟩ := getElem?_of_lt hlt2
        obtain rfl := h1.ad (by omega)
        obtain rfl := h2.ad (by omega)
        have hc0 := h1.ci hxk
        have hc1 := h2.ci hyk
        have hi1 : (k : Int) < (xs.length : Int) := by omega
        have hi2 : (k : Int) < (ys.length : Int) := by omega
        have HX := Lib.hid hxk; have HY := Lib.hid hyk
        clear h1 h2 hxk hyk
        by_cases hxy : x = y
        · have hb : (x == y) = true := by simp [hxy]
          have HXY := Lib.hid hxy; clear hxy
          go_wp2_with fail
          go_quiet (fail)
          go_wp2
          go_roundw
          case rel => exact ⟨k + 1, _, by omega, by go_num, by
            intro j hj
            by_cases hjk : j = k
            · subst hjk; rw [HX.out, HY.out, HXY.out]
            · exact HE.out j (by omega), rfl⟩
          case measure => simp [intOf]; omega
        · have hb : (x == y) = false := by simp [hxy]
          have HXY := Lib.hid hxy; clear hxy
          go_wp2_with fail
          go_quiet (fail)
          go_wp2
          go_ret
          refine ⟨?_, _, World.drewN_drewN _ _ _⟩
          have : xs ≠ ys := fun e => HXY.out (by have h1 := HX.out; have h2 := HY.out; rw [e, h2] at h1; simpa using h1.symm)
          simp [this]
      · clear h1 h2
        have hkk : k = xs.length := by omega
        go_wp2
        go_ret
        refine ⟨?_, _, rfl⟩
        have : xs = ys := eq_upto HL.out (by rw [← hkk]; exact HE.out)
        simp [this]
  · have hlB : ((xs.length : Int) != (ys.length : Int)) = true := by simp; omega
    go_enter Tryd.func31, Tryd.ntmps31
    go_wp2
    go_ret
    have : xs ≠ ys := fun e => hl (by rw [e])
    exact ⟨by simp [this], 0, rfl⟩
end Go.Proofs.YtbbjmompbmgnmaaDoor

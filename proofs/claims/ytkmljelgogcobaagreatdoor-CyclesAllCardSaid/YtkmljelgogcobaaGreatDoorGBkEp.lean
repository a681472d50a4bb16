/-
  semblancebook.Book, lists of Edges: marks are put.
  semblancebook.SameInts.
-/
import Derived.Test.YtkmljelgogcobaaGreatDoorBkE
import Derived.BigRegion
import Derived.Test.YtkmljelgogcobaaGreatDoorGRows2
namespace Go.Proofs.YtkmljelgogcobaaGreatDoor
open Go.RowKit Pl

set_option maxRecDepth 100000 in
set_option maxHeartbeats 8000000 in
theorem putE_any {w0 w : World} {bb : Nat} {cs : List Value} {o : Value} {ks rest : List Rw}
    (h : Rws w0 w (⟨44, 22, .slice (some ⟨bb, 0, none⟩) 1 1, 1, cs⟩ :: ⟨22, 1, o, ks.length, ks.map (·.v)⟩ :: (ks ++ rest))) (hc : cs[10]? = some o) (hK : ∀ r ∈ ks, r.T = 79 ∧ r.k = 3 ∧ r.n ≤ 500000) (hl : ks.length ≤ 400) :
    Calls Tryz.prog 81 #[.pointer (some ⟨bb, 0, none⟩)] w fun e w' => e = .returned (.tuple #[]) ∧ Rws w0 w' (⟨44, 22, .slice (some ⟨bb, 0, none⟩) 1 1, 1, cs⟩ :: ⟨22, 1, o, ks.length, ks.map (·.v)⟩ :: (mkAll mE encE ks ++ rest)) := by
  obtain ⟨oa, oc, hov, hoa, _, _, _, _⟩ := h.shape (r := ⟨22, 1, o, ks.length, ks.map (·.v)⟩) (by simp)
  dsimp only at hov hoa
  subst hov
  obtain ⟨m, hm⟩ : ∃ m, m = ks.length := ⟨_, rfl⟩
  rw [← hm] at h hl hc hoa ⊢
  have H := Lib.hid h; have HK := Lib.hid hK; have HM := Lib.hid hm; have HC := Lib.hid hc; have HOA := Lib.hid hoa
  have b0 := h.cell (i := 0) rfl hc
  have hbl := (h.lt (i := 0) rfl).2
  clear h hK hm hc hoa
  go_enter Tryz.func81, Tryz.ntmps81
  go_wp2_with fail
  clear b0 hbl
  go_loopw [2, 3, 4] (fun v2 _ _ wr => ∃ i : Nat, v2 = .int .i64 i ∧ i ≤ m ∧ Rws w0 wr (⟨44, 22, .slice (some ⟨bb, 0, none⟩) 1 1, 1, cs⟩ :: ⟨22, 1, .slice oa m oc, m, ks.map (·.v)⟩ :: (mkAt mE encE 3 ks i 0 ++ rest))) (fun v2 _ _ _ => m - (intOf v2).toNat)
  case atStart => exact ⟨0, rfl, Nat.zero_le _, by rw [mkAt_zero]; exact H.out⟩
  case round =>
    obtain ⟨i, rfl, hi, hRw⟩ := hrel
    have HRW := Lib.hid hRw
    have b0 := hRw.cell (i := 0) rfl HC.out
    have hbl := (hRw.lt (i := 0) rfl).2
    by_cases hlt : i < m
    · obtain ⟨r, hr⟩ := getElem?_of_lt (xs := ks) (i := i) (by rw [← HM.out]; exact hlt)
      obtain ⟨ob, rfl⟩ := HOA.out (by omega)
      have b1 := hRw.cell (i := 1) (j := i) (u := r.v) rfl (by simp [hr])
      have hrm := List.mem_of_getElem? hr
      obtain ⟨T, k, v, n, xs⟩ := r
      obtain ⟨rfl, rfl, hn⟩ := HK.out _ hrm
      obtain ⟨va, vc, hv, hva, _, _, _, hX⟩ := H.out.shape (r := ⟨79, 3, v, n, xs⟩) (by simp [hrm])
      dsimp only at b1 hn hv hva hX
      subst hv
      have hin : (i : Int) < (m : Int) := by omega
      have HMK := Lib.hid (markE_any (w := wr) (i := i) (k := 0) (n := n) (by omega) (by omega) (by omega))
      have HR := Lib.hid hr; have HVA := Lib.hid hva; have HX := Lib.hid hX
      clear hRw hrm hr hva hX
      go_wp2_with fail
      refine HMK.out.mono ?_
      rintro e w3 ⟨mv, rfl, hmo, hmB⟩
      have hR3 := HRW.out.add hmB hmo
      obtain ⟨ma, mc, hmv, hma, _, _, _, _⟩ := hR3.shape (r := ⟨79, 3, mv, n, (mkG mE i 0 n).flatMap encE⟩) (by simp)
      dsimp only at hmv hma
      subst hmv
      have HR3 := Lib.hid hR3; have HMA := Lib.hid hma
      clear hR3 hmo hmB hma HMK HRW b0 b1 hbl
      go_wp2_with fail
      go_loopw [4] (fun v4 wr => ∃ q : Nat, v4 = .int .i64 q ∧ q ≤ n ∧ Rws w0 wr (⟨79, 3, .slice ma n mc, n, (mkG mE i 0 n).flatMap encE⟩ :: ⟨44, 22, .slice (some ⟨bb, 0, none⟩) 1 1, 1, cs⟩ :: ⟨22, 1, .slice (some ⟨ob, 0, none⟩) m oc, m, ks.map (·.v)⟩ :: (mkAt mE encE 3 ks i q ++ rest))) (fun v4 _ => n - (intOf v4).toNat)
      case atStart => exact ⟨0, rfl, Nat.zero_le _, HR3.out⟩
      case round =>
        obtain ⟨q, rfl, hq, hRx⟩ := hrel
        by_cases hlq : q < n
        · obtain ⟨mg, rfl⟩ := HMA.out (by omega)
          obtain ⟨vg, rfl⟩ := HVA.out (by omega)
          have b0 := hRx.cell (i := 1) rfl HC.out
          have b1 := hRx.cell (i := 2) (j := i) (u := .slice (some ⟨vg, 0, none⟩) n vc) rfl (by simp [HR.out])
          have hqn : (q : Int) < (n : Int) := by omega
          have m0 := hRx.cell (i := 0) (j := q * 3 + 0) rfl (getElem?_flatMap lenE (mkG mE i 0 n) q _ (mkG_get hlq) 0 _ rfl)
          obtain ⟨⟨u0, x0⟩, y0, z0⟩ := hRx.putOld (j := 0) HR.out HX.out hlq lenE (by decide)
          have m1 := hRx.cell (i := 0) (j := q * 3 + 1) rfl (getElem?_flatMap lenE (mkG mE i 0 n) q _ (mkG_get hlq) 1 _ rfl)
          obtain ⟨⟨u1, x1⟩, y1, z1⟩ := hRx.putOld (j := 1) HR.out HX.out hlq lenE (by decide)
          have m2 := hRx.cell (i := 0) (j := q * 3 + 2) rfl (getElem?_flatMap lenE (mkG mE i 0 n) q _ (mkG_get hlq) 2 _ rfl)
          obtain ⟨⟨u2, x2⟩, y2, z2⟩ := hRx.putOld (j := 2) HR.out HX.out hlq lenE (by decide)
          simp only [Nat.add_zero, Nat.zero_add, mE] at m0 x0 y0 m1 x1 y1 m2 x2 y2
          have HRX := Lib.hid hRx
          clear hRx HR3
          go_wp2_with fail
          go_region
          go_wp2_with fail
          go_roundw
          case rel => exact ⟨q + 1, by go_num, by omega, by have := HRX.out.putAt3 HR.out HX.out hlq lenE (show encE (mE i q) = [_, _, _] from rfl); have := this.drew; simpa [Nat.mul_one, mE] using this⟩
          case measure => simp [intOf]; omega
        · obtain rfl : n = q := by omega
          have HR4 : RowKit.Hid (Rws w0 wr (⟨44, 22, .slice (some ⟨bb, 0, none⟩) 1 1, 1, cs⟩ :: ⟨22, 1, .slice (some ⟨ob, 0, none⟩) m oc, m, ks.map (·.v)⟩ :: (mkAt mE encE 3 ks (i + 1) 0 ++ rest))) := Lib.hid (by
            have := hRx.sub (List.sublist_cons_self _ _)
            rw [mkAt_next HR.out HX.out] at this
            exact this)
          clear hRx
          go_wp2_with fail
          go_roundw
          case rel => exact ⟨i + 1, by go_num, by omega, HR4.out⟩
          case measure => simp [intOf]; omega
    · obtain rfl : m = i := by omega
      clear hRw
      go_wp2_with fail
      go_end0
      refine ⟨rfl, ?_⟩
      have := HRW.out
      rw [mkAt_end (by rw [← HM.out]; exact Nat.le_refl _)] at this
      exact this
end Go.Proofs.YtkmljelgogcobaaGreatDoor

namespace Go.Proofs.YtkmljelgogcobaaGreatDoor
open Go.RowKit Pl

set_option maxRecDepth 100000 in
theorem sameInts_any {a1 a2 : Option Addr} {b1 o1 c1 b2 o2 c2 : Nat} {xs ys : List Int} {w : World} (h1 : SlAt encI 1 w a1 b1 o1 xs) (h2 : SlAt encI 1 w a2 b2 o2 ys) (hx : xs.length ≤ 4611686018427387904) (hy : ys.length ≤ 4611686018427387904) :
    Calls Tryz.prog 36 #[.slice a1 xs.length c1, .slice a2 ys.length c2] w fun e w' => e = .returned (.bool (decide (xs = ys))) ∧ ∃ n, w' = w.drewN n := by
  by_cases hl : xs.length = ys.length
  · have hlB : ((xs.length : Int) != (ys.length : Int)) = false := by simp [hl]
    have HL := Lib.hid hl; clear hl
    go_enter Tryz.func36, Tryz.ntmps36
    go_wp2
    go_loopw [5] (fun i wr => ∃ k m : Nat, k ≤ xs.length ∧ i = .int .i64 k ∧ (∀ j, j < k → xs[j]? = ys[j]?) ∧ wr = w.drewN m)
      (fun i _ => xs.length - (intOf i).toNat)
    case atStart => exact ⟨0, 0, Nat.zero_le _, rfl, by intro j hj; omega, rfl⟩
    case round =>
      obtain ⟨k, m, hk, rfl, heq, rfl⟩ := hrel
      have HE := Lib.hid heq; clear heq
      by_cases hlt : k < xs.length
      · have hlt2 : k < ys.length := by rw [← HL.out]; exact hlt
        obtain ⟨x, hxk⟩ := getElem?_of_lt hlt
        obtain ⟨y, hyk⟩ := getElem?_of_lt hlt2
        obtain rfl := h1.ad (by omega)
        obtain rfl := h2.ad (by omega)
        have hc0 := h1.ci hxk
        have hc1 := h2.ci hyk
        have hi1 : (k : Int) < (xs.length : Int) := by omega
        have hi2 : (k : Int) < (ys.length : Int) := by omega
        have HX := Lib.hid hxk; have HY := Lib.hid hyk
        clear h1 h2 hxk hyk
        by_cases hxy : x = y
        · have hb : (x == y) = true := by simp [hxy]
          have HXY := Lib.hid hxy; clear hxy
          go_wp2_with fail
          go_quiet (fail)
          go_wp2
          go_roundw
          case rel => exact ⟨k + 1, _, by omega, by go_num, by
            intro j hj
            by_cases hjk : j = k
            · subst hjk; rw [HX.out, HY.out, HXY.out]
            · exact HE.out j (by omega), rfl⟩
          case measure => simp [intOf]; omega
        · have hb : (x == y) = false := by simp [hxy]
          have HXY := Lib.hid hxy; clear hxy
          go_wp2_with fail
          go_quiet (fail)
          go_wp2
          go_ret
          refine ⟨?_, _, World.drewN_drewN _ _ _⟩
          have : xs ≠ ys := fun e => HXY.out (by have h1 := HX.out; have h2 := HY.out; rw [e, h2] at h1; simpa using h1.symm)
          simp [this]
      · clear h1 h2
        have hkk : k = xs.length := by omega
        go_wp2
        go_ret
        refine ⟨?_, _, rfl⟩
        have : xs = ys := eq_upto HL.out (by rw [← hkk]; exact HE.out)
        simp [this]
  · have hlB : ((xs.length : Int) != (ys.length : Int)) = true := by simp; omega
    go_enter Tryz.func36, Tryz.ntmps36
    go_wp2
    go_ret
    have : xs ≠ ys := fun e => hl (by rw [e])
    exact ⟨by simp [this], 0, rfl⟩
end Go.Proofs.YtkmljelgogcobaaGreatDoor

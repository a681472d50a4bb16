/-
  semblancebook.Book, lists of Ints: marks are put.
-/
import Derived.Test.YtkmljelgogcobaaGreatDoorBkI
import Derived.BigRegion
namespace Go.Proofs.YtkmljelgogcobaaGreatDoor
open Go.RowKit Pl

set_option maxRecDepth 100000 in
set_option maxHeartbeats 8000000 in
theorem putI_any {w0 w : World} {bb : Nat} {cs : List Value} {o : Value} {ks rest : List Rw}
    (h : Rws w0 w (⟨44, 22, .slice (some ⟨bb, 0, none⟩) 1 1, 1, cs⟩ :: ⟨49, 1, o, ks.length, ks.map (·.v)⟩ :: (ks ++ rest))) (hc : cs[0]? = some o) (hK : ∀ r ∈ ks, r.T = 3 ∧ r.k = 1 ∧ r.n ≤ 500000) (hl : ks.length ≤ 400) :
    Calls Tryz.prog 76 #[.pointer (some ⟨bb, 0, none⟩)] w fun e w' => e = .returned (.tuple #[]) ∧ Rws w0 w' (⟨44, 22, .slice (some ⟨bb, 0, none⟩) 1 1, 1, cs⟩ :: ⟨49, 1, o, ks.length, ks.map (·.v)⟩ :: (mkAll mI encI ks ++ rest)) := by
  obtain ⟨oa, oc, hov, hoa, _, _, _, _⟩ := h.shape (r := ⟨49, 1, o, ks.length, ks.map (·.v)⟩) (by simp)
  dsimp only at hov hoa
  subst hov
  obtain ⟨m, hm⟩ : ∃ m, m = ks.length := ⟨_, rfl⟩
  rw [← hm] at h hl hc hoa ⊢
  have H := Lib.hid h; have HK := Lib.hid hK; have HM := Lib.hid hm; have HC := Lib.hid hc; have HOA := Lib.hid hoa
  have b0 := h.cell (i := 0) rfl hc
  have hbl := (h.lt (i := 0) rfl).2
  clear h hK hm hc hoa
  go_enter Tryz.func76, Tryz.ntmps76
  go_wp2_with fail
  clear b0 hbl
  go_loopw [2, 3, 4] (fun v2 _ _ wr => ∃ i : Nat, v2 = .int .i64 i ∧ i ≤ m ∧ Rws w0 wr (⟨44, 22, .slice (some ⟨bb, 0, none⟩) 1 1, 1, cs⟩ :: ⟨49, 1, .slice oa m oc, m, ks.map (·.v)⟩ :: (mkAt mI encI 1 ks i 0 ++ rest))) (fun v2 _ _ _ => m - (intOf v2).toNat)
  case atStart => exact ⟨0, rfl, Nat.zero_le _, by rw [mkAt_zero]; exact H.out⟩
  case round =>
    obtain ⟨i, rfl, hi, hRw⟩ := hrel
    have HRW := Lib.hid hRw
    have b0 := hRw.cell (i := 0) rfl HC.out
    have hbl := (hRw.lt (i := 0) rfl).2
    by_cases hlt : i < m
    · obtain ⟨r, hr⟩ := getElem?_of_lt (xs := ks) (i := i) (by rw [← HM.out]; exact hlt)
      obtain ⟨ob, rfl⟩ := HOA.out (by omega)
      have b1 := hRw.cell (i := 1) (j := i) (u := r.v) rfl (by simp [hr])
      have hrm := List.mem_of_getElem? hr
      obtain ⟨T, k, v, n, xs⟩ := r
      obtain ⟨rfl, rfl, hn⟩ := HK.out _ hrm
      obtain ⟨va, vc, hv, hva, _, _, _, hX⟩ := H.out.shape (r := ⟨3, 1, v, n, xs⟩) (by simp [hrm])
      dsimp only at b1 hn hv hva hX
      subst hv
      have hin : (i : Int) < (m : Int) := by omega
      have HMK := Lib.hid (markI_any (w := wr) (i := i) (k := 0) (n := n) (by omega) (by omega) (by omega))
      have HR := Lib.hid hr; have HVA := Lib.hid hva; have HX := Lib.hid hX
      clear hRw hrm hr hva hX
      go_wp2_with fail
      refine HMK.out.mono ?_
      rintro e w3 ⟨mv, rfl, hmo, hmB⟩
      have hR3 := HRW.out.add hmB hmo
      obtain ⟨ma, mc, hmv, hma, _, _, _, _⟩ := hR3.shape (r := ⟨3, 1, mv, n, (mkG mI i 0 n).flatMap encI⟩) (by simp)
      dsimp only at hmv hma
      subst hmv
      have HR3 := Lib.hid hR3; have HMA := Lib.hid hma
      clear hR3 hmo hmB hma HMK HRW b0 b1 hbl
      go_wp2_with fail
      go_loopw [4] (fun v4 wr => ∃ q : Nat, v4 = .int .i64 q ∧ q ≤ n ∧ Rws w0 wr (⟨3, 1, .slice ma n mc, n, (mkG mI i 0 n).flatMap encI⟩ :: ⟨44, 22, .slice (some ⟨bb, 0, none⟩) 1 1, 1, cs⟩ :: ⟨49, 1, .slice (some ⟨ob, 0, none⟩) m oc, m, ks.map (·.v)⟩ :: (mkAt mI encI 1 ks i q ++ rest))) (fun v4 _ => n - (intOf v4).toNat)
      case atStart => exact ⟨0, rfl, Nat.zero_le _, HR3.out⟩
      case round =>
        obtain ⟨q, rfl, hq, hRx⟩ := hrel
        by_cases hlq : q < n
        · obtain ⟨mg, rfl⟩ := HMA.out (by omega)
          obtain ⟨vg, rfl⟩ := HVA.out (by omega)
          have b0 := hRx.cell (i := 1) rfl HC.out
          have b1 := hRx.cell (i := 2) (j := i) (u := .slice (some ⟨vg, 0, none⟩) n vc) rfl (by simp [HR.out])
          have hqn : (q : Int) < (n : Int) := by omega
          have m0 := hRx.cell (i := 0) (j := q * 1 + 0) rfl (getElem?_flatMap lenI (mkG mI i 0 n) q _ (mkG_get hlq) 0 _ rfl)
          obtain ⟨⟨u0, x0⟩, y0, z0⟩ := hRx.putOld (j := 0) HR.out HX.out hlq lenI (by decide)
          simp only [Nat.mul_one, Nat.add_zero, Nat.zero_add, mI] at m0 x0 y0
          have HRX := Lib.hid hRx
          clear hRx HR3
          go_wp2_with fail
          go_region
          go_wp2_with fail
          go_roundw
          case rel => exact ⟨q + 1, by go_num, by omega, by have := HRX.out.putAt1 HR.out HX.out hlq lenI (show encI (mI i q) = [_] from rfl); have := this.drew; simpa [Nat.mul_one, mI] using this⟩
          case measure => simp [intOf]; omega
        · obtain rfl : n = q := by omega
          have HR4 : RowKit.Hid (Rws w0 wr (⟨44, 22, .slice (some ⟨bb, 0, none⟩) 1 1, 1, cs⟩ :: ⟨49, 1, .slice (some ⟨ob, 0, none⟩) m oc, m, ks.map (·.v)⟩ :: (mkAt mI encI 1 ks (i + 1) 0 ++ rest))) := Lib.hid (by
            have := hRx.sub (List.sublist_cons_self _ _)
            rw [mkAt_next HR.out HX.out] at this
            exact this)
          clear hRx
          go_wp2_with fail
          go_roundw
          case rel => exact ⟨i + 1, by go_num, by omega, HR4.out⟩
          case measure => simp [intOf]; omega
    · obtain rfl : m = i := by omega
      clear hRw
      go_wp2_with fail
      go_end0
      refine ⟨rfl, ?_⟩
      have := HRW.out
      rw [mkAt_end (by rw [← HM.out]; exact Nat.le_refl _)] at this
      exact this
end Go.Proofs.YtkmljelgogcobaaGreatDoor

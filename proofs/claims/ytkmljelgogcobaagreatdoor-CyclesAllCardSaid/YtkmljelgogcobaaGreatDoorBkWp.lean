/-
  semblancebook.Book, lists of rows (Walks): marks are put.
-/
import Derived.Test.YtkmljelgogcobaaGreatDoorBkW
import Derived.Test.YtkmljelgogcobaaGreatDoorBkF
import Derived.BigRegion
namespace Go.Proofs.YtkmljelgogcobaaGreatDoor
open Go.RowKit Pl

set_option maxRecDepth 100000 in
set_option maxHeartbeats 8000000 in
theorem putW_any {w0 w : World} {bb : Nat} {cs : List Value} {o : Value} {ks rest : List Rw}
    (h : Rws w0 w (⟨44, 22, .slice (some ⟨bb, 0, none⟩) 1 1, 1, cs⟩ :: ⟨36, 1, o, ks.length, ks.map (·.v)⟩ :: (ks ++ rest))) (hc : cs[20]? = some o) (hK : ∀ r ∈ ks, r.T = 46 ∧ r.k = 1 ∧ r.n ≤ 500000) (hl : ks.length ≤ 400) :
    Calls Tryz.prog 86 #[.pointer (some ⟨bb, 0, none⟩)] w fun e w' => ∃ (F : Nat → List Value) (N : List Rw), e = .returned (.tuple #[]) ∧ Rws w0 w' (⟨44, 22, .slice (some ⟨bb, 0, none⟩) 1 1, 1, cs⟩ :: ⟨36, 1, o, ks.length, ks.map (·.v)⟩ :: (mkFin F ks ++ (N ++ rest))) ∧ ∀ (p : Nat) (r : Rw), ks[p]? = some r → (F p).length = r.n ∧ MkInW N p 0 (F p) := by
  obtain ⟨oa, oc, hov, hoa, _, _, _, _⟩ := h.shape (r := ⟨36, 1, o, ks.length, ks.map (·.v)⟩) (by simp)
  dsimp only at hov hoa
  subst hov
  obtain ⟨m, hm⟩ : ∃ m, m = ks.length := ⟨_, rfl⟩
  rw [← hm] at h hl hc hoa ⊢
  have H := Lib.hid h; have HK := Lib.hid hK; have HM := Lib.hid hm; have HC := Lib.hid hc; have HOA := Lib.hid hoa
  have b0 := h.cell (i := 0) rfl hc
  have hbl := (h.lt (i := 0) rfl).2
  clear h hK hm hc hoa
  go_enter Tryz.func86, Tryz.ntmps86
  go_wp2_with fail
  clear b0 hbl
  go_loopw [2, 3, 4] (fun v2 _ _ wr => ∃ (i : Nat) (F : Nat → List Value) (N : List Rw), v2 = .int .i64 i ∧ i ≤ m ∧ Rws w0 wr (⟨44, 22, .slice (some ⟨bb, 0, none⟩) 1 1, 1, cs⟩ :: ⟨36, 1, .slice oa m oc, m, ks.map (·.v)⟩ :: (mkF F ks i 0 ++ (N ++ rest))) ∧ ∀ (p : Nat) (r : Rw), p < i → ks[p]? = some r → (F p).length = r.n ∧ MkInW N p 0 (F p)) (fun v2 _ _ _ => m - (intOf v2).toNat)
  case atStart => exact ⟨0, fun _ => [], [], rfl, Nat.zero_le _, by rw [mkF_zero]; exact H.out, fun p _ hp => absurd hp (Nat.not_lt_zero _)⟩
  case round =>
    obtain ⟨i, F, N, rfl, hi, hRw, hF⟩ := hrel
    have HRW := Lib.hid hRw; have HF := Lib.hid hF
    have b0 := hRw.cell (i := 0) rfl HC.out
    have hbl := (hRw.lt (i := 0) rfl).2
    clear hF
    by_cases hlt : i < m
    · obtain ⟨r, hr⟩ := getElem?_of_lt (xs := ks) (i := i) (by rw [← HM.out]; exact hlt)
      obtain ⟨ob, rfl⟩ := HOA.out (by omega)
      have b1 := hRw.cell (i := 1) (j := i) (u := r.v) rfl (by simp [hr])
      have hrm := List.mem_of_getElem? hr
      obtain ⟨T, k, v, n, xs⟩ := r
      obtain ⟨rfl, rfl, hn⟩ := HK.out _ hrm
      obtain ⟨va, vc, hv, hva, _, _, _, hX⟩ := H.out.shape (r := ⟨46, 1, v, n, xs⟩) (by simp [hrm])
      dsimp only at b1 hn hv hva hX
      subst hv
      have hin : (i : Int) < (m : Int) := by omega
      have HMK := Lib.hid (markW_any (w := wr) (i := i) (k := 0) (n := n) (by omega) (by omega) (by omega))
      have HR := Lib.hid hr; have HVA := Lib.hid hva; have HX := Lib.hid hX
      clear hRw hrm hr hva hX
      go_wp2_with fail
      refine HMK.out.mono ?_
      rintro e w3 ⟨mv, ms, N2, rfl, hml, hmo, hmM⟩
      have hR3 := HRW.out.join hmo
      have hR3 : Rws w0 w3 (⟨46, 1, mv, n, ms⟩ :: ⟨44, 22, .slice (some ⟨bb, 0, none⟩) 1 1, 1, cs⟩ :: ⟨36, 1, .slice (some ⟨ob, 0, none⟩) m oc, m, ks.map (·.v)⟩ :: (mkF (upd F i ms) ks i 0 ++ ((N ++ N2) ++ rest))) := hR3.perm (by
        rw [mkF_upd]
        have hp := perm_rot N2 (⟨44, 22, .slice (some ⟨bb, 0, none⟩) 1 1, 1, cs⟩ :: ⟨36, 1, .slice (some ⟨ob, 0, none⟩) m oc, m, ks.map (·.v)⟩ :: mkF F ks i 0) N rest
        simp only [List.append_assoc, List.cons_append] at hp ⊢
        exact hp.cons _)
      obtain ⟨ma, mc, hmv, hma, _, _, _, _⟩ := hR3.shape (r := ⟨46, 1, mv, n, ms⟩) (by simp)
      dsimp only at hmv hma
      subst hmv
      have HF2 : RowKit.Hid (∀ (p : Nat) (r : Rw), p < i + 1 → ks[p]? = some r → ((upd F i ms) p).length = r.n ∧ MkInW (N ++ N2) p 0 ((upd F i ms) p)) := Lib.hid (by
        intro p r hp hr
        by_cases e : p = i
        · subst e
          rw [HR.out] at hr
          cases hr
          rw [upd_same]
          exact ⟨hml, hmM.mono (fun x hx => List.mem_append_right _ hx)⟩
        · rw [upd_other _ _ e]
          obtain ⟨h1, h2⟩ := HF.out p r (by omega) hr
          exact ⟨h1, h2.mono (fun x hx => List.mem_append_left _ hx)⟩)
      have HR3 := Lib.hid hR3; have HMA := Lib.hid hma; have HML := Lib.hid hml
      obtain ⟨F2, hF2⟩ : ∃ F2, F2 = upd F i ms := ⟨_, rfl⟩
      rw [← hF2] at HR3 HF2
      have HFI : RowKit.Hid (F2 i = ms) := Lib.hid (by rw [hF2, upd_same])
      clear hR3 hmo hmM hma HMK HRW b0 b1 hbl hml HF hF2
      go_wp2_with fail
      go_loopw [4] (fun v4 wr => ∃ q : Nat, v4 = .int .i64 q ∧ q ≤ n ∧ Rws w0 wr (⟨46, 1, .slice ma n mc, n, ms⟩ :: ⟨44, 22, .slice (some ⟨bb, 0, none⟩) 1 1, 1, cs⟩ :: ⟨36, 1, .slice (some ⟨ob, 0, none⟩) m oc, m, ks.map (·.v)⟩ :: (mkF F2 ks i q ++ ((N ++ N2) ++ rest)))) (fun v4 _ => n - (intOf v4).toNat)
      case atStart => exact ⟨0, rfl, Nat.zero_le _, HR3.out⟩
      case round =>
        obtain ⟨q, rfl, hq, hRx⟩ := hrel
        by_cases hlq : q < n
        · obtain ⟨mg, rfl⟩ := HMA.out (by omega)
          obtain ⟨vg, rfl⟩ := HVA.out (by omega)
          have b0 := hRx.cell (i := 1) rfl HC.out
          have b1 := hRx.cell (i := 2) (j := i) (u := .slice (some ⟨vg, 0, none⟩) n vc) rfl (by simp [HR.out])
          have hqn : (q : Int) < (n : Int) := by omega
          obtain ⟨x, hx⟩ := getElem?_of_lt (xs := ms) (i := q) (by rw [HML.out]; exact hlq)
          obtain ⟨r9, hr9, _, _, rfl, hn9, _⟩ := (HF2.out i _ (Nat.lt_succ_self i) HR.out).2 q x (by rw [HFI.out]; exact hx)
          obtain ⟨xa, xc, hxv, _⟩ := hRx.shape (r := r9) (by simp only [List.mem_cons, List.mem_append] at hr9 ⊢; exact .inr (.inr (.inr (.inr (.inl hr9)))))
          rw [hn9] at hxv
          rw [hxv] at hx
          have m0 := hRx.cell (i := 0) rfl hx
          obtain ⟨⟨u0, x0⟩, y0, z0⟩ := hRx.putOldF HR.out HX.out hlq (by rw [HFI.out, HML.out])
          have HRX := Lib.hid ((hRx.putF HR.out HX.out hlq (by rw [HFI.out]; exact hx)).drew)
          clear hRx HR3 hx hn9 hxv
          go_wp2_with fail
          go_region
          go_wp2_with fail
          go_roundw
          case rel => exact ⟨q + 1, by go_num, by omega, HRX.out⟩
          case measure => simp [intOf]; omega
        · obtain rfl : n = q := by omega
          have HR4 : RowKit.Hid (Rws w0 wr (⟨44, 22, .slice (some ⟨bb, 0, none⟩) 1 1, 1, cs⟩ :: ⟨36, 1, .slice (some ⟨ob, 0, none⟩) m oc, m, ks.map (·.v)⟩ :: (mkF F2 ks (i + 1) 0 ++ ((N ++ N2) ++ rest)))) := Lib.hid (by
            have := hRx.sub (List.sublist_cons_self _ _)
            rw [mkF_next HR.out HX.out (by rw [HFI.out, HML.out])] at this
            exact this)
          clear hRx
          go_wp2_with fail
          go_roundw
          case rel => exact ⟨i + 1, F2, N ++ N2, by go_num, by omega, HR4.out, HF2.out⟩
          case measure => simp [intOf]; omega
    · obtain rfl : m = i := by omega
      clear hRw
      go_wp2_with fail
      go_end0
      refine ⟨F, N, rfl, ?_, fun p r hr => HF.out p r (by have := (List.getElem?_eq_some_iff.1 hr).1; rw [HM.out]; exact this) hr⟩
      have := HRW.out
      rw [mkF_end (by rw [← HM.out]; exact Nat.le_refl _)] at this
      exact this
end Go.Proofs.YtkmljelgogcobaaGreatDoor

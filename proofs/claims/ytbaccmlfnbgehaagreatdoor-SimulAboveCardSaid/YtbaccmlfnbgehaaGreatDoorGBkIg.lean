/-
  Lemmas.
-/
import Derived.Test.YtbaccmlfnbgehaaGreatDoorGBkEp
import Derived.BigRegion
namespace Go.Proofs.YtbaccmlfnbgehaaGreatDoor
open Go.RowKit Pl
open Lib (hid)
theorem oneI_bk (x : Int) : ∀ u ∈ encI x, u.oneCell' = true := by intro u hu; simp [encI] at hu; first | (subst hu; rfl) | (rcases hu with rfl | rfl <;> rfl) | (rcases hu with rfl | rfl | rfl <;> rfl)
theorem oneLI_bk {L : List Int} : ∀ u ∈ L.flatMap encI, u.oneCell' = true := fun u hu => by
  obtain ⟨x, _, hx⟩ := List.mem_flatMap.1 hu
  exact oneI_bk x u hx
set_option maxRecDepth 100000 in
set_option maxHeartbeats 8000000 in
theorem growI_any {w0 w : World} {bb : Nat} {cs : List Value} {o : Value} {ks rest : List Rw}
    (h : Rws w0 w (⟨45, 22, .slice (some ⟨bb, 0, none⟩) 1 1, 1, cs⟩ :: ⟨50, 1, o, ks.length, ks.map (·.v)⟩ :: (ks ++ rest))) (hc : cs[0]? = some o) (hK : ∀ (i : Nat) (r : Rw), ks[i]? = some r → r.T = 3 ∧ r.k = 1 ∧ r.n ≤ 500000 ∧ r.xs = (mkG mI i 0 r.n).flatMap encI) (hl : ks.length ≤ 400) :
    Calls Tryz.prog 66 #[.pointer (some ⟨bb, 0, none⟩)] w fun e w' => ∃ (gv : Value) (gs : List Value) (G : List Rw), e = .returned gv ∧ gs.length = ks.length ∧ Rws w0 w' (⟨50, 1, gv, ks.length, gs⟩ :: ⟨45, 22, .slice (some ⟨bb, 0, none⟩) 1 1, 1, cs⟩ :: ⟨50, 1, o, ks.length, ks.map (·.v)⟩ :: (G ++ rest)) ∧ GrowOk 1 mI encI ks gs G ks.length := by
  obtain ⟨oa, oc, hov, hoa, _, _, _, _⟩ := h.shape (r := ⟨50, 1, o, ks.length, ks.map (·.v)⟩) (by simp)
  dsimp only at hov hoa
  subst hov
  obtain ⟨m, hm⟩ : ∃ m, m = ks.length := ⟨_, rfl⟩
  rw [← hm] at h hl hc hoa ⊢
  have H := hid h; have HK := hid hK; have HM := hid hm; have HC := hid hc; have HOA := hid hoa
  have b0 := h.cell (i := 0) rfl hc
  have hbl := (h.lt (i := 0) rfl).2
  clear h hK hm hc hoa
  go_enter Tryz.func66, Tryz.ntmps66
  go_wp2_with fail
  clear b0 hbl
  go_loopw [3, 4, 5, 6] (fun v3 v4 _ _ wr => ∃ (i : Nat) (gs : List Value) (G : List Rw) (gv : Value), gv = v3 ∧ v4 = .int .i64 i ∧ i ≤ m ∧ gs.length = i ∧ Rws w0 wr (⟨50, 1, gv, i, gs⟩ :: ⟨45, 22, .slice (some ⟨bb, 0, none⟩) 1 1, 1, cs⟩ :: ⟨50, 1, .slice oa m oc, m, ks.map (·.v)⟩ :: (G ++ (ks.drop i ++ rest))) ∧ GrowOk 1 mI encI ks gs G i) (fun _ v4 _ _ _ => m - (intOf v4).toNat)
  case atStart => exact ⟨0, [], [], _, rfl, rfl, Nat.zero_le _, rfl, H.out.addNil _ _, fun p _ hp => absurd hp (Nat.not_lt_zero _)⟩
  case round =>
    obtain ⟨i, gs, G, v3, rfl, rfl, hi, hgs, hRw, hok⟩ := hrel
    have b0 := hRw.cell (i := 1) rfl HC.out
    have hbl := (hRw.lt (i := 1) rfl).2
    have HGS := hid hgs; have HOK := hid hok
    clear hgs hok
    by_cases hlt : i < m
    · obtain ⟨r, hr⟩ := getElem?_of_lt (xs := ks) (i := i) (by rw [← HM.out]; exact hlt)
      obtain ⟨ob, rfl⟩ := HOA.out (by omega)
      have b1 := hRw.cell (i := 2) (j := i) (u := r.v) rfl (by simp [hr])
      obtain ⟨T, k, v, n, xs⟩ := r
      obtain ⟨rfl, rfl, hn, hxs⟩ := HK.out _ _ hr
      dsimp only at hxs hn b1
      subst hxs
      have hdrop : ks.drop i = ⟨3, 1, v, n, (mkG mI i 0 n).flatMap encI⟩ :: ks.drop (i + 1) := by
        obtain ⟨hl, he⟩ := List.getElem?_eq_some_iff.1 hr
        rw [List.drop_eq_getElem_cons hl, he]
      have hR0 : Rws w0 wr (⟨3, 1, v, n, (mkG mI i 0 n).flatMap encI⟩ :: ([] ++ (⟨50, 1, v3, i, gs⟩ :: ⟨45, 22, .slice (some ⟨bb, 0, none⟩) 1 1, 1, cs⟩ :: ⟨50, 1, .slice (some ⟨ob, 0, none⟩) m oc, m, ks.map (·.v)⟩ :: (G ++ (ks.drop (i + 1) ++ rest))))) := by
        rw [hdrop] at hRw
        have hpm := List.perm_middle (a := (⟨3, 1, v, n, (mkG mI i 0 n).flatMap encI⟩ : Rw)) (l₁ := ⟨50, 1, v3, i, gs⟩ :: ⟨45, 22, .slice (some ⟨bb, 0, none⟩) 1 1, 1, cs⟩ :: ⟨50, 1, .slice (some ⟨ob, 0, none⟩) m oc, m, ks.map (·.v)⟩ :: G) (l₂ := ks.drop (i + 1) ++ rest)
        exact hRw.perm hpm
      obtain ⟨va, vc, hv, _, _, _, _, _⟩ := hR0.shape (r := ⟨3, 1, v, n, (mkG mI i 0 n).flatMap encI⟩) (by simp)
      dsimp only at hv
      subst hv
      have hP0 := Pre.self hR0 (r := ⟨3, 1, .slice va n vc, n, (mkG mI i 0 n).flatMap encI⟩) (by simp)
      dsimp only at hP0
      have HR0 := hid hR0; have HP0 := hid hP0; have HR := hid hr
      have hin : (i : Int) < (m : Int) := by omega
      clear hRw hdrop hR0 hP0 hr
      go_wp2_with fail
      clear b0 b1 hbl
      go_loopw [5, 6] (fun v5 v6 wr => ∃ (t : Nat) (la : Option Addr) (lc : Nat) (E : List Rw), v6 = .int .i64 t ∧ v5 = .slice la (n + t) lc ∧ t ≤ 16 ∧ Rws w0 wr (⟨3, 1, .slice la (n + t) lc, n + t, (mkG mI i 0 (n + t)).flatMap encI⟩ :: (E ++ (⟨50, 1, v3, i, gs⟩ :: ⟨45, 22, .slice (some ⟨bb, 0, none⟩) 1 1, 1, cs⟩ :: ⟨50, 1, .slice (some ⟨ob, 0, none⟩) m oc, m, ks.map (·.v)⟩ :: (G ++ (ks.drop (i + 1) ++ rest))))) ∧ Pre (⟨3, 1, .slice la (n + t) lc, n + t, (mkG mI i 0 (n + t)).flatMap encI⟩ :: E) 1 (.slice va n vc) n ((mkG mI i 0 n).flatMap encI)) (fun _ v6 _ => 16 - (intOf v6).toNat)
      case atStart => exact ⟨0, va, vc, [], rfl, rfl, Nat.zero_le _, HR0.out, HP0.out⟩
      case round =>
        obtain ⟨t, la, lc, E, rfl, rfl, ht, hRx, hPx⟩ := hrel
        have HRX := hid hRx; have HPX := hid hPx
        clear hRx hPx HR0 HP0
        by_cases hlq : t < 16
        · have htI : (t : Int) < 16 := by omega
          have HMK : Hid (Calls Tryz.prog 116 #[.int .i64 (i : Int), .int .i64 ((n + t : Nat) : Int), .int .i64 1] wr fun e w' => ∃ v, e = .returned v ∧ w'.ownsRow wr.heap.size 3 1 v 1 ((mkG mI i (n + t) 1).flatMap encI) ∧ Below wr.heap.size wr w') := hid (markI_any (n := 1) (by omega) (by omega) (by omega))
          go_wp2_with fail
          refine HMK.out.mono ?_
          rintro e w3 ⟨mv, rfl, hmo, hmB⟩
          obtain ⟨mg, mc, rfl, _⟩ := hmo.form (by omega)
          have hR3 := HRX.out.call hmB
          have HR3 := hid hR3; have HMO := hid hmo
          clear hmo hmB hR3 HMK
          go_wp2_with (at_builtin; refine wpList_two rfl _ _ 50 rfl rowI (base := w0.heap.size) rfl (HR3.out.get (i := 0) rfl) ⟨mg, 0, none⟩ 1 mc ((mkG mI i (n + t) 1).flatMap encI) rfl (by rw [length_flatMap lenI, mkG_len]) (HMO.out.cells rfl) oneLI_bk (by omega) (by dsimp only; omega) (by dsimp only; unfold maxLen; omega) ?_; intro g cap w4 htwo)
          obtain ⟨X, hR4, hpre⟩ := HR3.out.grow2 htwo
          have HR4 : Hid (Rws w0 w4 (⟨3, 1, .slice (some ⟨g, 0, none⟩) (n + (t + 1)) cap, n + (t + 1), (mkG mI i 0 (n + (t + 1))).flatMap encI⟩ :: ((X ++ E) ++ (⟨50, 1, v3, i, gs⟩ :: ⟨45, 22, .slice (some ⟨bb, 0, none⟩) 1 1, 1, cs⟩ :: ⟨50, 1, .slice (some ⟨ob, 0, none⟩) m oc, m, ks.map (·.v)⟩ :: (G ++ (ks.drop (i + 1) ++ rest)))))) := hid (by
            rw [← List.flatMap_append, mkG_app0] at hR4
            rw [List.append_assoc]; exact hR4)
          have HP4 : Hid (Pre (⟨3, 1, .slice (some ⟨g, 0, none⟩) (n + (t + 1)) cap, n + (t + 1), (mkG mI i 0 (n + (t + 1))).flatMap encI⟩ :: (X ++ E)) 1 (.slice va n vc) n ((mkG mI i 0 n).flatMap encI)) := hid (by
            rw [← List.flatMap_append, mkG_app0] at hpre
            exact HPX.out.swap hpre (fun x hx => hx))
          clear htwo hR4 hpre HR3 HMO HRX HPX
          go_wp2_with fail
          go_roundw
          case rel => exact ⟨t + 1, _, _, X ++ E, by go_num, rfl, by omega, HR4.out, HP4.out⟩
          case measure => simp [intOf]; omega
        · obtain rfl : t = 16 := by omega
          have HMK : Hid (Calls Tryz.prog 116 #[.int .i64 (i : Int), .int .i64 ((n + 16 : Nat) : Int), .int .i64 80] wr fun e w' => ∃ v, e = .returned v ∧ w'.ownsRow wr.heap.size 3 1 v 80 ((mkG mI i (n + 16) 80).flatMap encI) ∧ Below wr.heap.size wr w') := hid (markI_any (n := 80) (by omega) (by omega) (by omega))
          go_wp2_with fail
          refine HMK.out.mono ?_
          rintro e w3 ⟨mv, rfl, hmo, hmB⟩
          obtain ⟨mg, mc, rfl, _⟩ := hmo.form (by omega)
          have hR3 := HRX.out.call hmB
          have HR3 := hid hR3; have HMO := hid hmo
          clear hmo hmB hR3 HMK HRX
          go_wp2_with (first
            | (at_builtin; refine wpList_two rfl _ _ 50 rfl rowI (base := w0.heap.size) rfl (HR3.out.get (i := 0) rfl) ⟨mg, 0, none⟩ 80 mc ((mkG mI i (n + 16) 80).flatMap encI) rfl (by rw [length_flatMap lenI, mkG_len]) (HMO.out.cells rfl) oneLI_bk (by omega) (by dsimp only; omega) (by dsimp only; unfold maxLen; omega) ?_; intro g cap w4 htwo; (obtain ⟨X, hR4, hpre⟩ := HR3.out.grow2 htwo); (rw [← List.flatMap_append, mkG_app0] at hR4 hpre); have HR4 : Hid (Rws w0 w4 (⟨50, 1, v3, i, gs⟩ :: ⟨45, 22, .slice (some ⟨bb, 0, none⟩) 1 1, 1, cs⟩ :: ⟨50, 1, .slice (some ⟨ob, 0, none⟩) m oc, m, ks.map (·.v)⟩ :: ((G ++ (⟨3, 1, .slice (some ⟨g, 0, none⟩) (n + 16 + 80) cap, n + 16 + 80, (mkG mI i 0 (n + 16 + 80)).flatMap encI⟩ :: (X ++ E))) ++ (ks.drop (i + 1) ++ rest)))) := hid (hR4.perm (by rw [← List.append_assoc]; exact perm_rot (_ :: (X ++ E)) [⟨50, 1, v3, i, gs⟩, ⟨45, 22, .slice (some ⟨bb, 0, none⟩) 1 1, 1, cs⟩, ⟨50, 1, .slice (some ⟨ob, 0, none⟩) m oc, m, ks.map (·.v)⟩] G (ks.drop (i + 1) ++ rest))); have HPR := hid hpre; clear htwo hR4 hpre HR3 HMO)
            | (at_builtin; refine wpList_lie rfl _ _ 34 rfl rowII_bk (base := w0.heap.size) (by have := HR4.out.bel.size; simp; omega) rfl ((HR4.out.alloc _).get (i := 0) rfl) ⟨w4.heap.size, 0, none⟩ 1 1 [.slice (some ⟨g, 0, none⟩) (n + 16 + 80) cap] rfl rfl (cells1 (by simp [go_sem])) (by simp [Value.oneCell']) (by omega) (by dsimp only; omega) (by dsimp only; unfold maxLen; omega) w4.heap.size (by simp) ?_; intro g2 cap2 w6 hown6 hg6 hgg6 _))
          have HR6 : Hid (Rws w0 w6 (⟨50, 1, .slice (some ⟨g2, 0, none⟩) (i + 1) cap2, i + 1, gs ++ [.slice (some ⟨g, 0, none⟩) (n + 16 + 80) cap]⟩ :: ⟨45, 22, .slice (some ⟨bb, 0, none⟩) 1 1, 1, cs⟩ :: ⟨50, 1, .slice (some ⟨ob, 0, none⟩) m oc, m, ks.map (·.v)⟩ :: ((G ++ (⟨3, 1, .slice (some ⟨g, 0, none⟩) (n + 16 + 80) cap, n + 16 + 80, (mkG mI i 0 (n + 16 + 80)).flatMap encI⟩ :: (X ++ E))) ++ (ks.drop (i + 1) ++ rest)))) := hid (HR4.out.grown ((Below.refl w4.heap.size w4).alloc (Nat.le_refl _) _) 0 rfl hown6 hg6 (fun b hb => by simp only [Value.ownBlock, Option.some.injEq] at hb; subst hb; exact hgg6))
          clear hown6 hg6 hgg6
          go_wp2_with fail
          go_roundw
          case rel => exact ⟨i + 1, gs ++ [.slice (some ⟨g, 0, none⟩) (n + 16 + 80) cap], G ++ (⟨3, 1, .slice (some ⟨g, 0, none⟩) (n + 16 + 80) cap, n + 16 + 80, (mkG mI i 0 (n + 16 + 80)).flatMap encI⟩ :: (X ++ E)), _, rfl, by go_num, by omega, by simp [HGS.out], HR6.out, HOK.out.step HGS.out HR.out (by
            exact ⟨_, List.mem_cons_self, rfl, _, _, _, rfl, rfl, Nat.le_refl _, List.take_of_length_le (by rw [length_flatMap lenI, mkG_len]; exact Nat.le_refl _)⟩) (HPX.out.swap HPR.out (fun x hx => hx))⟩
          case measure => simp [intOf]; omega
    · obtain rfl : m = i := by omega
      have HRW := hid hRw
      clear hRw
      go_wp2_with fail
      go_ret
      refine ⟨_, gs, G, rfl, HGS.out, ?_, HOK.out⟩
      have := HRW.out
      rw [List.drop_of_length_le (by rw [← HM.out]; exact Nat.le_refl _)] at this
      exact this
end Go.Proofs.YtbaccmlfnbgehaaGreatDoor
namespace Go.Proofs.YtbaccmlfnbgehaaGreatDoor
open Go.RowKit Pl
open Lib (hid)
set_option maxRecDepth 100000 in
set_option maxHeartbeats 8000000 in
theorem putI_any {w0 w : World} {bb : Nat} {cs : List Value} {o : Value} {ks rest : List Rw}
    (h : Rws w0 w (⟨45, 22, .slice (some ⟨bb, 0, none⟩) 1 1, 1, cs⟩ :: ⟨50, 1, o, ks.length, ks.map (·.v)⟩ :: (ks ++ rest))) (hc : cs[0]? = some o) (hK : ∀ r ∈ ks, r.T = 3 ∧ r.k = 1 ∧ r.n ≤ 500000) (hl : ks.length ≤ 400) :
    Calls Tryz.prog 55 #[.pointer (some ⟨bb, 0, none⟩)] w fun e w' => e = .returned (.tuple #[]) ∧ Rws w0 w' (⟨45, 22, .slice (some ⟨bb, 0, none⟩) 1 1, 1, cs⟩ :: ⟨50, 1, o, ks.length, ks.map (·.v)⟩ :: (mkAll mI encI ks ++ rest)) := by
  obtain ⟨oa, oc, hov, hoa, _, _, _, _⟩ := h.shape (r := ⟨50, 1, o, ks.length, ks.map (·.v)⟩) (by simp)
  dsimp only at hov hoa
  subst hov
  obtain ⟨m, hm⟩ : ∃ m, m = ks.length := ⟨_, rfl⟩
  rw [← hm] at h hl hc hoa ⊢
  have H := hid h; have HK := hid hK; have HM := hid hm; have HC := hid hc; have HOA := hid hoa
  have b0 := h.cell (i := 0) rfl hc
  have hbl := (h.lt (i := 0) rfl).2
  clear h hK hm hc hoa
  go_enter Tryz.func55, Tryz.ntmps55
  go_wp2_with fail
  clear b0 hbl
  go_loopw [2, 3, 4] (fun v2 _ _ wr => ∃ i : Nat, v2 = .int .i64 i ∧ i ≤ m ∧ Rws w0 wr (⟨45, 22, .slice (some ⟨bb, 0, none⟩) 1 1, 1, cs⟩ :: ⟨50, 1, .slice oa m oc, m, ks.map (·.v)⟩ :: (mkAt mI encI 1 ks i 0 ++ rest))) (fun v2 _ _ _ => m - (intOf v2).toNat)
  case atStart => exact ⟨0, rfl, Nat.zero_le _, by rw [mkAt_zero]; exact H.out⟩
  case round =>
    obtain ⟨i, rfl, hi, hRw⟩ := hrel
    have HRW := hid hRw
    have b0 := hRw.cell (i := 0) rfl HC.out
    have hbl := (hRw.lt (i := 0) rfl).2
    by_cases hlt : i < m
    · obtain ⟨r, hr⟩ := getElem?_of_lt (xs := ks) (i := i) (by rw [← HM.out]; exact hlt)
      obtain ⟨ob, rfl⟩ := HOA.out (by omega)
      have b1 := hRw.cell (i := 1) (j := i) (u := r.v) rfl (by simp [hr])
      have hrm := List.mem_of_getElem? hr
      obtain ⟨T, k, v, n, xs⟩ := r
      obtain ⟨rfl, rfl, hn⟩ := HK.out _ hrm
      obtain ⟨va, vc, hv, hva, _, _, _, hX⟩ := H.out.shape (r := ⟨3, 1, v, n, xs⟩) (by simp [hrm])
      dsimp only at b1 hn hv hva hX
      subst hv
      have hin : (i : Int) < (m : Int) := by omega
      have HMK := hid (markI_any (w := wr) (i := i) (k := 0) (n := n) (by omega) (by omega) (by omega))
      have HR := hid hr; have HVA := hid hva; have HX := hid hX
      clear hRw hrm hr hva hX
      go_wp2_with fail
      refine HMK.out.mono ?_
      rintro e w3 ⟨mv, rfl, hmo, hmB⟩
      have hR3 := HRW.out.add hmB hmo
      obtain ⟨ma, mc, hmv, hma, _, _, _, _⟩ := hR3.shape (r := ⟨3, 1, mv, n, (mkG mI i 0 n).flatMap encI⟩) (by simp)
      dsimp only at hmv hma
      subst hmv
      have HR3 := hid hR3; have HMA := hid hma
      clear hR3 hmo hmB hma HMK HRW b0 b1 hbl
      go_wp2_with fail
      go_loopw [4] (fun v4 wr => ∃ q : Nat, v4 = .int .i64 q ∧ q ≤ n ∧ Rws w0 wr (⟨3, 1, .slice ma n mc, n, (mkG mI i 0 n).flatMap encI⟩ :: ⟨45, 22, .slice (some ⟨bb, 0, none⟩) 1 1, 1, cs⟩ :: ⟨50, 1, .slice (some ⟨ob, 0, none⟩) m oc, m, ks.map (·.v)⟩ :: (mkAt mI encI 1 ks i q ++ rest))) (fun v4 _ => n - (intOf v4).toNat)
      case atStart => exact ⟨0, rfl, Nat.zero_le _, HR3.out⟩
      case round =>
        obtain ⟨q, rfl, hq, hRx⟩ := hrel
        by_cases hlq : q < n
        · obtain ⟨mg, rfl⟩ := HMA.out (by omega)
          obtain ⟨vg, rfl⟩ := HVA.out (by omega)
          have b0 := hRx.cell (i := 1) rfl HC.out
          have b1 := hRx.cell (i := 2) (j := i) (u := .slice (some ⟨vg, 0, none⟩) n vc) rfl (by simp [HR.out])
          have hqn : (q : Int) < (n : Int) := by omega
          have m0 := hRx.cell (i := 0) (j := q * 1 + 0) rfl (getElem?_flatMap lenI (mkG mI i 0 n) q _ (mkG_get hlq) 0 _ rfl)
          obtain ⟨⟨u0, x0⟩, y0, z0⟩ := hRx.putOld (j := 0) HR.out HX.out hlq lenI (by decide)
          simp only [Nat.mul_one, Nat.add_zero, Nat.zero_add, mI] at m0 x0 y0
          have HRX := hid hRx
          clear hRx HR3
          go_wp2_with fail
          go_region
          go_wp2_with fail
          go_roundw
          case rel => exact ⟨q + 1, by go_num, by omega, by have := HRX.out.putAt1 HR.out HX.out hlq lenI (show encI (mI i q) = [_] from rfl); have := this.drew; simpa [Nat.mul_one, mI] using this⟩
          case measure => simp [intOf]; omega
        · obtain rfl : n = q := by omega
          have HR4 : Hid (Rws w0 wr (⟨45, 22, .slice (some ⟨bb, 0, none⟩) 1 1, 1, cs⟩ :: ⟨50, 1, .slice (some ⟨ob, 0, none⟩) m oc, m, ks.map (·.v)⟩ :: (mkAt mI encI 1 ks (i + 1) 0 ++ rest))) := hid (by
            have := hRx.sub (List.sublist_cons_self _ _)
            rw [mkAt_next HR.out HX.out] at this
            exact this)
          clear hRx
          go_wp2_with fail
          go_roundw
          case rel => exact ⟨i + 1, by go_num, by omega, HR4.out⟩
          case measure => simp [intOf]; omega
    · obtain rfl : m = i := by omega
      clear hRw
      go_wp2_with fail
      go_end0
      refine ⟨rfl, ?_⟩
      have := HRW.out
      rw [mkAt_end (by rw [← HM.out]; exact Nat.le_refl _)] at this
      exact this
end Go.Proofs.YtbaccmlfnbgehaaGreatDoor

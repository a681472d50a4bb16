/-
  semblancebook.Book, lists of Edges: the lists are grown.
-/
import Derived.Test.YtkmljelgogcobaaGreatDoorBkE
import Derived.BigRegion
namespace Go.Proofs.YtkmljelgogcobaaGreatDoor
open Go.RowKit Pl

theorem oneE_bk (x : E) : ∀ u ∈ encE x, u.oneCell' = true := by intro u hu; simp [encE] at hu; first | (subst hu; rfl) | (rcases hu with rfl | rfl <;> rfl) | (rcases hu with rfl | rfl | rfl <;> rfl)
theorem oneLE_bk {L : List E} : ∀ u ∈ L.flatMap encE, u.oneCell' = true := fun u hu => by
  obtain ⟨x, _, hx⟩ := List.mem_flatMap.1 hu
  exact oneE_bk x u hx

set_option maxRecDepth 100000 in
set_option maxHeartbeats 8000000 in
theorem growE_any {w0 w : World} {bb : Nat} {cs : List Value} {o : Value} {ks rest : List Rw}
    (h : Rws w0 w (⟨44, 22, .slice (some ⟨bb, 0, none⟩) 1 1, 1, cs⟩ :: ⟨22, 1, o, ks.length, ks.map (·.v)⟩ :: (ks ++ rest))) (hc : cs[10]? = some o) (hK : ∀ (i : Nat) (r : Rw), ks[i]? = some r → r.T = 79 ∧ r.k = 3 ∧ r.n ≤ 500000 ∧ r.xs = (mkG mE i 0 r.n).flatMap encE) (hl : ks.length ≤ 400) :
    Calls Tryz.prog 92 #[.pointer (some ⟨bb, 0, none⟩)] w fun e w' => ∃ (gv : Value) (gs : List Value) (G : List Rw), e = .returned gv ∧ gs.length = ks.length ∧ Rws w0 w' (⟨22, 1, gv, ks.length, gs⟩ :: ⟨44, 22, .slice (some ⟨bb, 0, none⟩) 1 1, 1, cs⟩ :: ⟨22, 1, o, ks.length, ks.map (·.v)⟩ :: (G ++ rest)) ∧ GrowOk 3 mE encE ks gs G ks.length := by
  obtain ⟨oa, oc, hov, hoa, _, _, _, _⟩ := h.shape (r := ⟨22, 1, o, ks.length, ks.map (·.v)⟩) (by simp)
  dsimp only at hov hoa
  subst hov
  obtain ⟨m, hm⟩ : ∃ m, m = ks.length := ⟨_, rfl⟩
  rw [← hm] at h hl hc hoa ⊢
  have H := Lib.hid h; have HK := Lib.hid hK; have HM := Lib.hid hm; have HC := Lib.hid hc; have HOA := Lib.hid hoa
  have b0 := h.cell (i := 0) rfl hc
  have hbl := (h.lt (i := 0) rfl).2
  clear h hK hm hc hoa
  go_enter Tryz.func92, Tryz.ntmps92
  go_wp2_with fail
  clear b0 hbl
  go_loopw [3, 4, 5, 6] (fun v3 v4 _ _ wr => ∃ (i : Nat) (gs : List Value) (G : List Rw) (gv : Value), gv = v3 ∧ v4 = .int .i64 i ∧ i ≤ m ∧ gs.length = i ∧ Rws w0 wr (⟨22, 1, gv, i, gs⟩ :: ⟨44, 22, .slice (some ⟨bb, 0, none⟩) 1 1, 1, cs⟩ :: ⟨22, 1, .slice oa m oc, m, ks.map (·.v)⟩ :: (G ++ (ks.drop i ++ rest))) ∧ GrowOk 3 mE encE ks gs G i) (fun _ v4 _ _ _ => m - (intOf v4).toNat)
  case atStart => exact ⟨0, [], [], _, rfl, rfl, Nat.zero_le _, rfl, H.out.addNil _ _, fun p _ hp => absurd hp (Nat.not_lt_zero _)⟩
  case round =>
    obtain ⟨i, gs, G, v3, rfl, rfl, hi, hgs, hRw, hok⟩ := hrel
    have b0 := hRw.cell (i := 1) rfl HC.out
    have hbl := (hRw.lt (i := 1) rfl).2
    have HGS := Lib.hid hgs; have HOK := Lib.hid hok
    clear hgs hok
    by_cases hlt : i < m
    · obtain ⟨r, hr⟩ := getElem?_of_lt (xs := ks) (i := i) (by rw [← HM.out]; exact hlt)
      obtain ⟨ob, rfl⟩ := HOA.out (by omega)
      have b1 := hRw.cell (i := 2) (j := i) (u := r.v) rfl (by simp [hr])
      obtain ⟨T, k, v, n, xs⟩ := r
      obtain ⟨rfl, rfl, hn, hxs⟩ := HK.out _ _ hr
      dsimp only at hxs hn b1
      subst hxs
      have hdrop : ks.drop i = ⟨79, 3, v, n, (mkG mE i 0 n).flatMap encE⟩ :: ks.drop (i + 1) := by
        obtain ⟨hl, he⟩ := List.getElem?_eq_some_iff.1 hr
        rw [List.drop_eq_getElem_cons hl, he]
      have hR0 : Rws w0 wr (⟨79, 3, v, n, (mkG mE i 0 n).flatMap encE⟩ :: ([] ++ (⟨22, 1, v3, i, gs⟩ :: ⟨44, 22, .slice (some ⟨bb, 0, none⟩) 1 1, 1, cs⟩ :: ⟨22, 1, .slice (some ⟨ob, 0, none⟩) m oc, m, ks.map (·.v)⟩ :: (G ++ (ks.drop (i + 1) ++ rest))))) := by
        rw [hdrop] at hRw
        have hpm := List.perm_middle (a := (⟨79, 3, v, n, (mkG mE i 0 n).flatMap encE⟩ : Rw)) (l₁ := ⟨22, 1, v3, i, gs⟩ :: ⟨44, 22, .slice (some ⟨bb, 0, none⟩) 1 1, 1, cs⟩ :: ⟨22, 1, .slice (some ⟨ob, 0, none⟩) m oc, m, ks.map (·.v)⟩ :: G) (l₂ := ks.drop (i + 1) ++ rest)
        exact hRw.perm hpm
      obtain ⟨va, vc, hv, _, _, _, _, _⟩ := hR0.shape (r := ⟨79, 3, v, n, (mkG mE i 0 n).flatMap encE⟩) (by simp)
      dsimp only at hv
      subst hv
      have hP0 := Pre.self hR0 (r := ⟨79, 3, .slice va n vc, n, (mkG mE i 0 n).flatMap encE⟩) (by simp)
      dsimp only at hP0
      have HR0 := Lib.hid hR0; have HP0 := Lib.hid hP0; have HR := Lib.hid hr
      have hin : (i : Int) < (m : Int) := by omega
      clear hRw hdrop hR0 hP0 hr
      go_wp2_with fail
      clear b0 b1 hbl
      go_loopw [5, 6] (fun v5 v6 wr => ∃ (t : Nat) (la : Option Addr) (lc : Nat) (E : List Rw), v6 = .int .i64 t ∧ v5 = .slice la (n + t) lc ∧ t ≤ 16 ∧ Rws w0 wr (⟨79, 3, .slice la (n + t) lc, n + t, (mkG mE i 0 (n + t)).flatMap encE⟩ :: (E ++ (⟨22, 1, v3, i, gs⟩ :: ⟨44, 22, .slice (some ⟨bb, 0, none⟩) 1 1, 1, cs⟩ :: ⟨22, 1, .slice (some ⟨ob, 0, none⟩) m oc, m, ks.map (·.v)⟩ :: (G ++ (ks.drop (i + 1) ++ rest))))) ∧ Pre (⟨79, 3, .slice la (n + t) lc, n + t, (mkG mE i 0 (n + t)).flatMap encE⟩ :: E) 3 (.slice va n vc) n ((mkG mE i 0 n).flatMap encE)) (fun _ v6 _ => 16 - (intOf v6).toNat)
      case atStart => exact ⟨0, va, vc, [], rfl, rfl, Nat.zero_le _, HR0.out, HP0.out⟩
      case round =>
        obtain ⟨t, la, lc, E, rfl, rfl, ht, hRx, hPx⟩ := hrel
        have HRX := Lib.hid hRx; have HPX := Lib.hid hPx
        clear hRx hPx HR0 HP0
        by_cases hlq : t < 16
        · have htI : (t : Int) < 16 := by omega
          have HMK : RowKit.Hid (Calls Tryz.prog 142 #[.int .i64 (i : Int), .int .i64 ((n + t : Nat) : Int), .int .i64 1] wr fun e w' => ∃ v, e = .returned v ∧ w'.ownsRow wr.heap.size 79 3 v 1 ((mkG mE i (n + t) 1).flatMap encE) ∧ Below wr.heap.size wr w') := Lib.hid (markE_any (n := 1) (by omega) (by omega) (by omega))
          go_wp2_with fail
          refine HMK.out.mono ?_
          rintro e w3 ⟨mv, rfl, hmo, hmB⟩
          obtain ⟨mg, mc, rfl, _⟩ := hmo.form (by omega)
          have hR3 := HRX.out.call hmB
          have HR3 := Lib.hid hR3; have HMO := Lib.hid hmo
          clear hmo hmB hR3 HMK
          go_wp2_with (at_builtin; refine wpList_two rfl _ _ 22 rfl rowE (base := w0.heap.size) rfl (HR3.out.get (i := 0) rfl) ⟨mg, 0, none⟩ 1 mc ((mkG mE i (n + t) 1).flatMap encE) rfl (by rw [length_flatMap lenE, mkG_len]) (HMO.out.cells rfl) oneLE_bk (by omega) (by dsimp only; omega) (by dsimp only; unfold maxLen; omega) ?_; intro g cap w4 htwo)
          obtain ⟨X, hR4, hpre⟩ := HR3.out.grow2 htwo
          have HR4 : RowKit.Hid (Rws w0 w4 (⟨79, 3, .slice (some ⟨g, 0, none⟩) (n + (t + 1)) cap, n + (t + 1), (mkG mE i 0 (n + (t + 1))).flatMap encE⟩ :: ((X ++ E) ++ (⟨22, 1, v3, i, gs⟩ :: ⟨44, 22, .slice (some ⟨bb, 0, none⟩) 1 1, 1, cs⟩ :: ⟨22, 1, .slice (some ⟨ob, 0, none⟩) m oc, m, ks.map (·.v)⟩ :: (G ++ (ks.drop (i + 1) ++ rest)))))) := Lib.hid (by
            rw [← List.flatMap_append, mkG_app0] at hR4
            rw [List.append_assoc]; exact hR4)
          have HP4 : RowKit.Hid (Pre (⟨79, 3, .slice (some ⟨g, 0, none⟩) (n + (t + 1)) cap, n + (t + 1), (mkG mE i 0 (n + (t + 1))).flatMap encE⟩ :: (X ++ E)) 3 (.slice va n vc) n ((mkG mE i 0 n).flatMap encE)) := Lib.hid (by
            rw [← List.flatMap_append, mkG_app0] at hpre
            exact HPX.out.swap hpre (fun x hx => hx))
          clear htwo hR4 hpre HR3 HMO HRX HPX
          go_wp2_with fail
          go_roundw
          case rel => exact ⟨t + 1, _, _, X ++ E, by go_num, rfl, by omega, HR4.out, HP4.out⟩
          case measure => simp [intOf]; omega
        · obtain rfl : t = 16 := by omega
          have HMK : RowKit.Hid (Calls Tryz.prog 142 #[.int .i64 (i : Int), .int .i64 ((n + 16 : Nat) : Int), .int .i64 80] wr fun e w' => ∃ v, e = .returned v ∧ w'.ownsRow wr.heap.size 79 3 v 80 ((mkG mE i (n + 16) 80).flatMap encE) ∧ Below wr.heap.size wr w') := Lib.hid (markE_any (n := 80) (by omega) (by omega) (by omega))
          go_wp2_with fail
          refine HMK.out.mono ?_
          rintro e w3 ⟨mv, rfl, hmo, hmB⟩
          obtain ⟨mg, mc, rfl, _⟩ := hmo.form (by omega)
          have hR3 := HRX.out.call hmB
          have HR3 := Lib.hid hR3; have HMO := Lib.hid hmo
          clear hmo hmB hR3 HMK HRX
          go_wp2_with (first
            | (at_builtin; refine wpList_two rfl _ _ 22 rfl rowE (base := w0.heap.size) rfl (HR3.out.get (i := 0) rfl) ⟨mg, 0, none⟩ 80 mc ((mkG mE i (n + 16) 80).flatMap encE) rfl (by rw [length_flatMap lenE, mkG_len]) (HMO.out.cells rfl) oneLE_bk (by omega) (by dsimp only; omega) (by dsimp only; unfold maxLen; omega) ?_; intro g cap w4 htwo; (obtain ⟨X, hR4, hpre⟩ := HR3.out.grow2 htwo); (rw [← List.flatMap_append, mkG_app0] at hR4 hpre); have HR4 : RowKit.Hid (Rws w0 w4 (⟨22, 1, v3, i, gs⟩ :: ⟨44, 22, .slice (some ⟨bb, 0, none⟩) 1 1, 1, cs⟩ :: ⟨22, 1, .slice (some ⟨ob, 0, none⟩) m oc, m, ks.map (·.v)⟩ :: ((G ++ (⟨79, 3, .slice (some ⟨g, 0, none⟩) (n + 16 + 80) cap, n + 16 + 80, (mkG mE i 0 (n + 16 + 80)).flatMap encE⟩ :: (X ++ E))) ++ (ks.drop (i + 1) ++ rest)))) := Lib.hid (hR4.perm (by rw [← List.append_assoc]; exact perm_rot (_ :: (X ++ E)) [⟨22, 1, v3, i, gs⟩, ⟨44, 22, .slice (some ⟨bb, 0, none⟩) 1 1, 1, cs⟩, ⟨22, 1, .slice (some ⟨ob, 0, none⟩) m oc, m, ks.map (·.v)⟩] G (ks.drop (i + 1) ++ rest))); have HPR := Lib.hid hpre; clear htwo hR4 hpre HR3 HMO)
            | (at_builtin; refine wpList_lie rfl _ _ 37 rfl rowEE_bk (base := w0.heap.size) (by have := HR4.out.bel.size; simp; omega) rfl ((HR4.out.alloc _).get (i := 0) rfl) ⟨w4.heap.size, 0, none⟩ 1 1 [.slice (some ⟨g, 0, none⟩) (n + 16 + 80) cap] rfl rfl (cells1 (by simp [go_sem])) (by simp [Value.oneCell']) (by omega) (by dsimp only; omega) (by dsimp only; unfold maxLen; omega) w4.heap.size (by simp) ?_; intro g2 cap2 w6 hown6 hg6 hgg6 _))
          have HR6 : RowKit.Hid (Rws w0 w6 (⟨22, 1, .slice (some ⟨g2, 0, none⟩) (i + 1) cap2, i + 1, gs ++ [.slice (some ⟨g, 0, none⟩) (n + 16 + 80) cap]⟩ :: ⟨44, 22, .slice (some ⟨bb, 0, none⟩) 1 1, 1, cs⟩ :: ⟨22, 1, .slice (some ⟨ob, 0, none⟩) m oc, m, ks.map (·.v)⟩ :: ((G ++ (⟨79, 3, .slice (some ⟨g, 0, none⟩) (n + 16 + 80) cap, n + 16 + 80, (mkG mE i 0 (n + 16 + 80)).flatMap encE⟩ :: (X ++ E))) ++ (ks.drop (i + 1) ++ rest)))) := Lib.hid (HR4.out.grown ((Below.refl w4.heap.size w4).alloc (Nat.le_refl _) _) 0 rfl hown6 hg6 (fun b hb => by simp only [Value.ownBlock, Option.some.injEq] at hb; subst hb; exact hgg6))
          clear hown6 hg6 hgg6
          go_wp2_with fail
          go_roundw
          case rel => exact ⟨i + 1, gs ++ [.slice (some ⟨g, 0, none⟩) (n + 16 + 80) cap], G ++ (⟨79, 3, .slice (some ⟨g, 0, none⟩) (n + 16 + 80) cap, n + 16 + 80, (mkG mE i 0 (n + 16 + 80)).flatMap encE⟩ :: (X ++ E)), _, rfl, by go_num, by omega, by simp [HGS.out], HR6.out, HOK.out.step HGS.out HR.out (by
            exact ⟨_, List.mem_cons_self, rfl, _, _, _, rfl, rfl, Nat.le_refl _, List.take_of_length_le (by rw [length_flatMap lenE, mkG_len]; exact Nat.le_refl _)⟩) (HPX.out.swap HPR.out (fun x hx => hx))⟩
          case measure => simp [intOf]; omega
    · obtain rfl : m = i := by omega
      have HRW := Lib.hid hRw
      clear hRw
      go_wp2_with fail
      go_ret
      refine ⟨_, gs, G, rfl, HGS.out, ?_, HOK.out⟩
      have := HRW.out
      rw [List.drop_of_length_le (by rw [← HM.out]; exact Nat.le_refl _)] at this
      exact this
end Go.Proofs.YtkmljelgogcobaaGreatDoor

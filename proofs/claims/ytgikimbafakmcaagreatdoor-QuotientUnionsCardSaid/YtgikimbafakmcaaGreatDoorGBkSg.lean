/-
  Lemmas.
-/
import Derived.Test.YtgikimbafakmcaaGreatDoorGBkRg
import Derived.BigRegion
import Derived.Test.YtgikimbafakmcaaGreatDoorGBkB
import Derived.Deep.RegionLaw
set_option maxHeartbeats 8000000
set_option maxRecDepth 100000
namespace Go.Proofs.YtgikimbafakmcaaGreatDoor
open Go.RowKit Pl
open Lib (hid)
theorem oneS_bk (x : S) : ∀ u ∈ encS x, u.oneCell' = true := by intro u hu; simp [encS] at hu; first | (subst hu; rfl) | (rcases hu with rfl | rfl <;> rfl) | (rcases hu with rfl | rfl | rfl <;> rfl)
theorem oneLS_bk {L : List S} : ∀ u ∈ L.flatMap encS, u.oneCell' = true := fun u hu => by
  obtain ⟨x, _, hx⟩ := List.mem_flatMap.1 hu
  exact oneS_bk x u hx
theorem growS_any {w0 w : World} {bb : Nat} {cs : List Value} {o : Value} {ks rest : List Rw}
    (h : Rws w0 w (⟨44, 22, .slice (some ⟨bb, 0, none⟩) 1 1, 1, cs⟩ :: ⟨113, 1, o, ks.length, ks.map (·.v)⟩ :: (ks ++ rest))) (hc : cs[8]? = some o) (hK : ∀ (i : Nat) (r : Rw), ks[i]? = some r -> r.T = 129 /\ r.k = 2 /\ r.n <= 500000 /\ r.xs = (mkG mS i 0 r.n).flatMap encS) (hl : ks.length <= 400) :
    Calls Tryz.prog 51 #[.pointer (some ⟨bb, 0, none⟩)] w fun e w' => ∃ (gv : Value) (gs : List Value) (G : List Rw), e = .returned gv /\ gs.length = ks.length /\ Rws w0 w' (⟨113, 1, gv, ks.length, gs⟩ :: ⟨44, 22, .slice (some ⟨bb, 0, none⟩) 1 1, 1, cs⟩ :: ⟨113, 1, o, ks.length, ks.map (·.v)⟩ :: (G ++ rest)) /\ GrowOk 2 mS encS ks gs G ks.length := by
 obtain ⟨oa, oc, hov, hoa, _, _, _, _⟩ := h.shape (r := ⟨113, 1, o, ks.length, ks.map (·.v)⟩) (by simp)
 dsimp only at hov hoa
 subst hov
 obtain ⟨m, hm⟩ : ∃ m, m = ks.length := ⟨_, rfl⟩
 rw [<- hm] at h hl hc hoa ⊢
 have H := hid h; have HK := hid hK; have HM := hid hm; have HC := hid hc; have HOA := hid hoa
 have b0 := h.cell (i := 0) rfl hc
 have hbl := (h.lt (i := 0) rfl).2
 clear h hK hm hc hoa
 go_enter Tryz.func51, Tryz.ntmps51
 go_wp2_with fail
 clear b0 hbl
 go_loopw [3, 4, 5, 6] (fun v3 v4 _ _ wr => ∃ (i : Nat) (gs : List Value) (G : List Rw) (gv : Value), gv = v3 /\ v4 = .int .i64 i /\ i <= m /\ gs.length = i /\ Rws w0 wr (⟨113, 1, gv, i, gs⟩ :: ⟨44, 22, .slice (some ⟨bb, 0, none⟩) 1 1, 1, cs⟩ :: ⟨113, 1, .slice oa m oc, m, ks.map (·.v)⟩ :: (G ++ (ks.drop i ++ rest))) /\ GrowOk 2 mS encS ks gs G i) (fun _ v4 _ _ _ => m - (intOf v4).toNat)
 case atStart => exact ⟨0, [], [], _, rfl, rfl, Nat.zero_le _, rfl, H.out.addNil _ _, fun p _ hp => absurd hp (Nat.not_lt_zero _)⟩
 case round => (
 obtain ⟨i, gs, G, v3, rfl, rfl, hi, hgs, hRw, hok⟩ := hrel
 have b0 := hRw.cell (i := 1) rfl HC.out
 have hbl := (hRw.lt (i := 1) rfl).2
 have HGS := hid hgs; have HOK := hid hok
 clear hgs hok
 by_cases hlt : i < m
 · (
 obtain ⟨r, hr⟩ := getElem?_of_lt (xs := ks) (i := i) (by rw [<- HM.out]; exact hlt)
 obtain ⟨ob, rfl⟩ := HOA.out (by omega)
 have b1 := hRw.cell (i := 2) (j := i) (u := r.v) rfl (by simp [hr])
 obtain ⟨T, k, v, n, xs⟩ := r
 obtain ⟨rfl, rfl, hn, hxs⟩ := HK.out _ _ hr
 dsimp only at hxs hn b1
 subst hxs
 have hdrop : ks.drop i = ⟨129, 2, v, n, (mkG mS i 0 n).flatMap encS⟩ :: ks.drop (i + 1) := by
   obtain ⟨hl, he⟩ := List.getElem?_eq_some_iff.1 hr
   rw [List.drop_eq_getElem_cons hl, he]
 have hR0 : Rws w0 wr (⟨129, 2, v, n, (mkG mS i 0 n).flatMap encS⟩ :: ([] ++ (⟨113, 1, v3, i, gs⟩ :: ⟨44, 22, .slice (some ⟨bb, 0, none⟩) 1 1, 1, cs⟩ :: ⟨113, 1, .slice (some ⟨ob, 0, none⟩) m oc, m, ks.map (·.v)⟩ :: (G ++ (ks.drop (i + 1) ++ rest))))) := by (
 rw [hdrop] at hRw
 have hpm := List.perm_middle (a := (⟨129, 2, v, n, (mkG mS i 0 n).flatMap encS⟩ : Rw)) (l₁ := ⟨113, 1, v3, i, gs⟩ :: ⟨44, 22, .slice (some ⟨bb, 0, none⟩) 1 1, 1, cs⟩ :: ⟨113, 1, .slice (some ⟨ob, 0, none⟩) m oc, m, ks.map (·.v)⟩ :: G) (l₂ := ks.drop (i + 1) ++ rest)
 exact hRw.perm hpm)
 obtain ⟨va, vc, hv, _, _, _, _, _⟩ := hR0.shape (r := ⟨129, 2, v, n, (mkG mS i 0 n).flatMap encS⟩) (by simp)
 dsimp only at hv
 subst hv
 have hP0 := Pre.self hR0 (r := ⟨129, 2, .slice va n vc, n, (mkG mS i 0 n).flatMap encS⟩) (by simp)
 dsimp only at hP0
 have HR0 := hid hR0; have HP0 := hid hP0; have HR := hid hr
 have hin : (i : Int) < (m : Int) := by omega
 clear hRw hdrop hR0 hP0 hr
 go_wp2_with fail
 clear b0 b1 hbl
 go_loopw [5, 6] (fun v5 v6 wr => ∃ (t : Nat) (la : Option Addr) (lc : Nat) (E : List Rw), v6 = .int .i64 t /\ v5 = .slice la (n + t) lc /\ t <= 16 /\ Rws w0 wr (⟨129, 2, .slice la (n + t) lc, n + t, (mkG mS i 0 (n + t)).flatMap encS⟩ :: (E ++ (⟨113, 1, v3, i, gs⟩ :: ⟨44, 22, .slice (some ⟨bb, 0, none⟩) 1 1, 1, cs⟩ :: ⟨113, 1, .slice (some ⟨ob, 0, none⟩) m oc, m, ks.map (·.v)⟩ :: (G ++ (ks.drop (i + 1) ++ rest))))) /\ Pre (⟨129, 2, .slice la (n + t) lc, n + t, (mkG mS i 0 (n + t)).flatMap encS⟩ :: E) 2 (.slice va n vc) n ((mkG mS i 0 n).flatMap encS)) (fun _ v6 _ => 16 - (intOf v6).toNat)
 case atStart => exact ⟨0, va, vc, [], rfl, rfl, Nat.zero_le _, HR0.out, HP0.out⟩
 case round => (
 obtain ⟨t, la, lc, E, rfl, rfl, ht, hRx, hPx⟩ := hrel
 have HRX := hid hRx; have HPX := hid hPx
 clear hRx hPx HR0 HP0
 by_cases hlq : t < 16
 · (
 have htI : (t : Int) < 16 := by omega
 have HMK : Hid (Calls Tryz.prog 91 #[.int .i64 (i : Int), .int .i64 ((n + t : Nat) : Int), .int .i64 1] wr fun e w' => ∃ v, e = .returned v /\ w'.ownsRow wr.heap.size 129 2 v 1 ((mkG mS i (n + t) 1).flatMap encS) /\ Below wr.heap.size wr w') := hid (markS_any (n := 1) (by omega) (by omega) (by omega))
 go_wp2_with fail
 refine HMK.out.mono ?_
 rintro e w3 ⟨mv, rfl, hmo, hmB⟩
 obtain ⟨mg, mc, rfl, _⟩ := hmo.form (by omega)
 have hR3 := HRX.out.call hmB
 have HR3 := hid hR3; have HMO := hid hmo
 clear hmo hmB hR3 HMK
 go_wp2_with (at_builtin; refine wpList_two rfl _ _ 113 rfl rowS (base := w0.heap.size) rfl (HR3.out.get (i := 0) rfl) ⟨mg, 0, none⟩ 1 mc ((mkG mS i (n + t) 1).flatMap encS) rfl (by rw [length_flatMap lenS, mkG_len]) (HMO.out.cells rfl) oneLS_bk (by omega) (by dsimp only; omega) (by dsimp only; unfold maxLen; omega) ?_; intro g cap w4 htwo)
 obtain ⟨X, hR4, hpre⟩ := HR3.out.grow2 htwo
 have HR4 : Hid (Rws w0 w4 (⟨129, 2, .slice (some ⟨g, 0, none⟩) (n + (t + 1)) cap, n + (t + 1), (mkG mS i 0 (n + (t + 1))).flatMap encS⟩ :: ((X ++ E) ++ (⟨113, 1, v3, i, gs⟩ :: ⟨44, 22, .slice (some ⟨bb, 0, none⟩) 1 1, 1, cs⟩ :: ⟨113, 1, .slice (some ⟨ob, 0, none⟩) m oc, m, ks.map (·.v)⟩ :: (G ++ (ks.drop (i + 1) ++ rest)))))) := hid (by
   rw [<- List.flatMap_append, mkG_app0] at hR4
   rw [List.append_assoc]; exact hR4)
 have HP4 : Hid (Pre (⟨129, 2, .slice (some ⟨g, 0, none⟩) (n + (t + 1)) cap, n + (t + 1), (mkG mS i 0 (n + (t + 1))).flatMap encS⟩ :: (X ++ E)) 2 (.slice va n vc) n ((mkG mS i 0 n).flatMap encS)) := hid (by
   rw [<- List.flatMap_append, mkG_app0] at hpre
   exact HPX.out.swap hpre (fun x hx => hx))
 clear htwo hR4 hpre HR3 HMO HRX HPX
 go_wp2_with fail
 go_roundw
 case rel => exact ⟨t + 1, _, _, X ++ E, by go_num, rfl, by omega, HR4.out, HP4.out⟩
 case measure => simp [intOf]; omega)
 · (
 obtain rfl : t = 16 := by omega
 have HMK : Hid (Calls Tryz.prog 91 #[.int .i64 (i : Int), .int .i64 ((n + 16 : Nat) : Int), .int .i64 80] wr fun e w' => ∃ v, e = .returned v /\ w'.ownsRow wr.heap.size 129 2 v 80 ((mkG mS i (n + 16) 80).flatMap encS) /\ Below wr.heap.size wr w') := hid (markS_any (n := 80) (by omega) (by omega) (by omega))
 go_wp2_with fail
 refine HMK.out.mono ?_
 rintro e w3 ⟨mv, rfl, hmo, hmB⟩
 obtain ⟨mg, mc, rfl, _⟩ := hmo.form (by omega)
 have hR3 := HRX.out.call hmB
 have HR3 := hid hR3; have HMO := hid hmo
 clear hmo hmB hR3 HMK HRX
 go_wp2_with (first
   | (at_builtin; refine wpList_two rfl _ _ 113 rfl rowS (base := w0.heap.size) rfl (HR3.out.get (i := 0) rfl) ⟨mg, 0, none⟩ 80 mc ((mkG mS i (n + 16) 80).flatMap encS) rfl (by rw [length_flatMap lenS, mkG_len]) (HMO.out.cells rfl) oneLS_bk (by omega) (by dsimp only; omega) (by dsimp only; unfold maxLen; omega) ?_; intro g cap w4 htwo; (obtain ⟨X, hR4, hpre⟩ := HR3.out.grow2 htwo); (rw [<- List.flatMap_append, mkG_app0] at hR4 hpre); have HR4 : Hid (Rws w0 w4 (⟨113, 1, v3, i, gs⟩ :: ⟨44, 22, .slice (some ⟨bb, 0, none⟩) 1 1, 1, cs⟩ :: ⟨113, 1, .slice (some ⟨ob, 0, none⟩) m oc, m, ks.map (·.v)⟩ :: ((G ++ (⟨129, 2, .slice (some ⟨g, 0, none⟩) (n + 16 + 80) cap, n + 16 + 80, (mkG mS i 0 (n + 16 + 80)).flatMap encS⟩ :: (X ++ E))) ++ (ks.drop (i + 1) ++ rest)))) := hid (hR4.perm (by rw [<- List.append_assoc]; exact perm_rot (_ :: (X ++ E)) [⟨113, 1, v3, i, gs⟩, ⟨44, 22, .slice (some ⟨bb, 0, none⟩) 1 1, 1, cs⟩, ⟨113, 1, .slice (some ⟨ob, 0, none⟩) m oc, m, ks.map (·.v)⟩] G (ks.drop (i + 1) ++ rest))); have HPR := hid hpre; clear htwo hR4 hpre HR3 HMO)
   | (at_builtin; refine wpList_lie rfl _ _ 36 rfl rowSS_bk (base := w0.heap.size) (by have := HR4.out.bel.size; simp; omega) rfl ((HR4.out.alloc _).get (i := 0) rfl) ⟨w4.heap.size, 0, none⟩ 1 1 [.slice (some ⟨g, 0, none⟩) (n + 16 + 80) cap] rfl rfl (cells1 (by simp [go_sem])) (by simp [Value.oneCell']) (by omega) (by dsimp only; omega) (by dsimp only; unfold maxLen; omega) w4.heap.size (by simp) ?_; intro g2 cap2 w6 hown6 hg6 hgg6 _))
 have HR6 : Hid (Rws w0 w6 (⟨113, 1, .slice (some ⟨g2, 0, none⟩) (i + 1) cap2, i + 1, gs ++ [.slice (some ⟨g, 0, none⟩) (n + 16 + 80) cap]⟩ :: ⟨44, 22, .slice (some ⟨bb, 0, none⟩) 1 1, 1, cs⟩ :: ⟨113, 1, .slice (some ⟨ob, 0, none⟩) m oc, m, ks.map (·.v)⟩ :: ((G ++ (⟨129, 2, .slice (some ⟨g, 0, none⟩) (n + 16 + 80) cap, n + 16 + 80, (mkG mS i 0 (n + 16 + 80)).flatMap encS⟩ :: (X ++ E))) ++ (ks.drop (i + 1) ++ rest)))) := hid (HR4.out.grown ((Below.refl w4.heap.size w4).alloc (Nat.le_refl _) _) 0 rfl hown6 hg6 (fun b hb => by simp only [Value.ownBlock, Option.some.injEq] at hb; subst hb; exact hgg6))
 clear hown6 hg6 hgg6
 go_wp2_with fail
 go_roundw
 case rel => exact ⟨i + 1, gs ++ [.slice (some ⟨g, 0, none⟩) (n + 16 + 80) cap], G ++ (⟨129, 2, .slice (some ⟨g, 0, none⟩) (n + 16 + 80) cap, n + 16 + 80, (mkG mS i 0 (n + 16 + 80)).flatMap encS⟩ :: (X ++ E)), _, rfl, by go_num, by omega, by simp [HGS.out], HR6.out, HOK.out.step HGS.out HR.out (by
   exact ⟨_, List.mem_cons_self, rfl, _, _, _, rfl, rfl, Nat.le_refl _, List.take_of_length_le (by rw [length_flatMap lenS, mkG_len]; exact Nat.le_refl _)⟩) (HPX.out.swap HPR.out (fun x hx => hx))⟩
 case measure => simp [intOf]; omega)))
 · (
 obtain rfl : m = i := by omega
 have HRW := hid hRw
 clear hRw
 go_wp2_with fail
 go_ret
 refine ⟨_, gs, G, rfl, HGS.out, ?_, HOK.out⟩
 have := HRW.out
 rw [List.drop_of_length_le (by rw [<- HM.out]; exact Nat.le_refl _)] at this
 exact this))
end Go.Proofs.YtgikimbafakmcaaGreatDoor
namespace Go.Proofs.YtgikimbafakmcaaGreatDoor
open Go.RowKit Pl
open Lib (hid)
theorem putS_any {w0 w : World} {bb : Nat} {cs : List Value} {o : Value} {ks rest : List Rw}
    (h : Rws w0 w (⟨44, 22, .slice (some ⟨bb, 0, none⟩) 1 1, 1, cs⟩ :: ⟨113, 1, o, ks.length, ks.map (·.v)⟩ :: (ks ++ rest))) (hc : cs[8]? = some o) (hK : ∀ r ∈ ks, r.T = 129 /\ r.k = 2 /\ r.n <= 500000) (hl : ks.length <= 400) :
    Calls Tryz.prog 40 #[.pointer (some ⟨bb, 0, none⟩)] w fun e w' => e = .returned (.tuple #[]) /\ Rws w0 w' (⟨44, 22, .slice (some ⟨bb, 0, none⟩) 1 1, 1, cs⟩ :: ⟨113, 1, o, ks.length, ks.map (·.v)⟩ :: (mkAll mS encS ks ++ rest)) := by
 obtain ⟨oa, oc, hov, hoa, _, _, _, _⟩ := h.shape (r := ⟨113, 1, o, ks.length, ks.map (·.v)⟩) (by simp)
 dsimp only at hov hoa
 subst hov
 obtain ⟨m, hm⟩ : ∃ m, m = ks.length := ⟨_, rfl⟩
 rw [<- hm] at h hl hc hoa ⊢
 have H := hid h; have HK := hid hK; have HM := hid hm; have HC := hid hc; have HOA := hid hoa
 have b0 := h.cell (i := 0) rfl hc
 have hbl := (h.lt (i := 0) rfl).2
 clear h hK hm hc hoa
 go_enter Tryz.func40, Tryz.ntmps40
 go_wp2_with fail
 clear b0 hbl
 go_loopw [2, 3, 4] (fun v2 _ _ wr => ∃ i : Nat, v2 = .int .i64 i /\ i <= m /\ Rws w0 wr (⟨44, 22, .slice (some ⟨bb, 0, none⟩) 1 1, 1, cs⟩ :: ⟨113, 1, .slice oa m oc, m, ks.map (·.v)⟩ :: (mkAt mS encS 2 ks i 0 ++ rest))) (fun v2 _ _ _ => m - (intOf v2).toNat)
 case atStart => exact ⟨0, rfl, Nat.zero_le _, by rw [mkAt_zero]; exact H.out⟩
 case round => (
 obtain ⟨i, rfl, hi, hRw⟩ := hrel
 have HRW := hid hRw
 have b0 := hRw.cell (i := 0) rfl HC.out
 have hbl := (hRw.lt (i := 0) rfl).2
 by_cases hlt : i < m
 · (
 obtain ⟨r, hr⟩ := getElem?_of_lt (xs := ks) (i := i) (by rw [<- HM.out]; exact hlt)
 obtain ⟨ob, rfl⟩ := HOA.out (by omega)
 have b1 := hRw.cell (i := 1) (j := i) (u := r.v) rfl (by simp [hr])
 have hrm := List.mem_of_getElem? hr
 obtain ⟨T, k, v, n, xs⟩ := r
 obtain ⟨rfl, rfl, hn⟩ := HK.out _ hrm
 obtain ⟨va, vc, hv, hva, _, _, _, hX⟩ := H.out.shape (r := ⟨129, 2, v, n, xs⟩) (by simp [hrm])
 dsimp only at b1 hn hv hva hX
 subst hv
 have hin : (i : Int) < (m : Int) := by omega
 have HMK := hid (markS_any (w := wr) (i := i) (k := 0) (n := n) (by omega) (by omega) (by omega))
 have HR := hid hr; have HVA := hid hva; have HX := hid hX
 clear hRw hrm hr hva hX
 go_wp2_with fail
 refine HMK.out.mono ?_
 rintro e w3 ⟨mv, rfl, hmo, hmB⟩
 have hR3 := HRW.out.add hmB hmo
 obtain ⟨ma, mc, hmv, hma, _, _, _, _⟩ := hR3.shape (r := ⟨129, 2, mv, n, (mkG mS i 0 n).flatMap encS⟩) (by simp)
 dsimp only at hmv hma
 subst hmv
 have HR3 := hid hR3; have HMA := hid hma
 clear hR3 hmo hmB hma HMK HRW b0 b1 hbl
 go_wp2_with fail
 go_loopw [4] (fun v4 wr => ∃ q : Nat, v4 = .int .i64 q /\ q <= n /\ Rws w0 wr (⟨129, 2, .slice ma n mc, n, (mkG mS i 0 n).flatMap encS⟩ :: ⟨44, 22, .slice (some ⟨bb, 0, none⟩) 1 1, 1, cs⟩ :: ⟨113, 1, .slice (some ⟨ob, 0, none⟩) m oc, m, ks.map (·.v)⟩ :: (mkAt mS encS 2 ks i q ++ rest))) (fun v4 _ => n - (intOf v4).toNat)
 case atStart => exact ⟨0, rfl, Nat.zero_le _, HR3.out⟩
 case round => (
 obtain ⟨q, rfl, hq, hRx⟩ := hrel
 by_cases hlq : q < n
 · (
 obtain ⟨mg, rfl⟩ := HMA.out (by omega)
 obtain ⟨vg, rfl⟩ := HVA.out (by omega)
 have b0 := hRx.cell (i := 1) rfl HC.out
 have b1 := hRx.cell (i := 2) (j := i) (u := .slice (some ⟨vg, 0, none⟩) n vc) rfl (by simp [HR.out])
 have hqn : (q : Int) < (n : Int) := by omega
 have m0 := hRx.cell (i := 0) (j := q * 2 + 0) rfl (getElem?_flatMap lenS (mkG mS i 0 n) q _ (mkG_get hlq) 0 _ rfl)
 obtain ⟨⟨u0, x0⟩, y0, z0⟩ := hRx.putOld (j := 0) HR.out HX.out hlq lenS (by decide)
 have m1 := hRx.cell (i := 0) (j := q * 2 + 1) rfl (getElem?_flatMap lenS (mkG mS i 0 n) q _ (mkG_get hlq) 1 _ rfl)
 obtain ⟨⟨u1, x1⟩, y1, z1⟩ := hRx.putOld (j := 1) HR.out HX.out hlq lenS (by decide)
 simp only [Nat.add_zero, Nat.zero_add, mS] at m0 x0 y0 m1 x1 y1
 have HRX := hid hRx
 clear hRx HR3
 go_wp2_with fail
 go_region
 go_wp2_with fail
 go_roundw
 case rel => exact ⟨q + 1, by go_num, by omega, by have := HRX.out.putAt2 HR.out HX.out hlq lenS (show encS (mS i q) = [_, _] from rfl); have := this.drew; simpa [Nat.mul_one, mS] using this⟩
 case measure => simp [intOf]; omega)
 · (
 obtain rfl : n = q := by omega
 have HR4 : Hid (Rws w0 wr (⟨44, 22, .slice (some ⟨bb, 0, none⟩) 1 1, 1, cs⟩ :: ⟨113, 1, .slice (some ⟨ob, 0, none⟩) m oc, m, ks.map (·.v)⟩ :: (mkAt mS encS 2 ks (i + 1) 0 ++ rest))) := hid (by (
 have := hRx.sub (List.sublist_cons_self _ _)
 rw [mkAt_next HR.out HX.out] at this
 exact this))
 clear hRx
 go_wp2_with fail
 go_roundw
 case rel => exact ⟨i + 1, by go_num, by omega, HR4.out⟩
 case measure => simp [intOf]; omega)))
 · (
 obtain rfl : m = i := by omega
 clear hRw
 go_wp2_with fail
 go_end0
 refine ⟨rfl, ?_⟩
 have := HRW.out
 rw [mkAt_end (by rw [<- HM.out]; exact Nat.le_refl _)] at this
 exact this))
end Go.Proofs.YtgikimbafakmcaaGreatDoor
namespace Go.Proofs.YtgikimbafakmcaaGreatDoor
open Go.RowKit Pl
end Go.Proofs.YtgikimbafakmcaaGreatDoor
namespace Go.Proofs.YtgikimbafakmcaaGreatDoor
open Go.RowKit Pl
open Lib (hid)
def mkWalk (i k : Nat) : List S := [(-1 - (i : Int), (k : Int))]
def RdW (w : World) (x : Value) (ys : List S) : Prop := ∃ (a : Option Addr) (b off c : Nat), x = .slice a ys.length c /\ SlAt encS 2 w a b off ys /\ ys.length <= 600000
theorem RdW.below {w w' : World} {x : Value} {ys : List S} (h : RdW w x ys) (hB : Below w.heap.size w w') : RdW w' x ys := by
 obtain ⟨a, b, off, c, h1, h2, h3⟩ := h
 exact ⟨a, b, off, c, h1, h2.below hB (Nat.le_refl _), h3⟩
theorem sameWalks_any {w : World} {a1 a2 : Option Addr} {b1 o1 c1 b2 o2 c2 n : Nat} {vs us : List Value} (h1 : SlAt encV 1 w a1 b1 o1 vs) (h2 : SlAt encV 1 w a2 b2 o2 us) (hv : vs.length = n) (hu : us.length = n) (hn : n <= 600000)
    (hR : ∀ (j : Nat) (x y : Value), vs[j]? = some x -> us[j]? = some y -> ∃ ys, RdW w x ys /\ RdW w y ys) :
    Calls Tryz.prog 86 #[.slice a1 n c1, .slice a2 n c2] w fun e w' => e = .returned (.bool true) /\ ∃ m, w' = w.drewN m := by
 have HO := hid h1; have HP := hid h2; have HVL := hid hv; have HUL := hid hu; have HR := hid hR
 clear h1 h2 hv hu hR
 have hlB : ((n : Int) != (n : Int)) = false := by simp
 go_enter Tryz.func86, Tryz.ntmps86
 go_wp2_with fail
 go_loopw [5] (fun v5 wr => ∃ i m : Nat, i <= n /\ v5 = .int .i64 i /\ wr = w.drewN m) (fun v5 _ => n - (intOf v5).toNat)
 case atStart => exact ⟨0, 0, Nat.zero_le _, rfl, rfl⟩
 case round => (
 obtain ⟨i, m, hi, rfl, rfl⟩ := hrel
 by_cases hlt : i < n
 · (
 obtain ⟨v, hv⟩ := getElem?_of_lt (xs := vs) (i := i) (by rw [HVL.out]; exact hlt)
 obtain ⟨u, hu⟩ := getElem?_of_lt (xs := us) (i := i) (by rw [HUL.out]; exact hlt)
 obtain ⟨xs, ⟨x1, y1, of1, q1, rfl, hs1, hxl⟩, ⟨x2, y2, of2, q2, rfl, hs2, _⟩⟩ := HR.out i v u hv hu
 have ha := HO.out.ad (by rw [HVL.out]; omega)
 have hb := HP.out.ad (by rw [HUL.out]; omega)
 subst ha hb
 have d0 := HO.out.cv hv
 have d1 := HP.out.cv hu
 have HSM : Hid (∀ mm, Calls Tryz.prog 81 #[.slice x1 xs.length q1, .slice x2 xs.length q2] (w.drewN mm) fun e w' => e = .returned (.bool (decide (xs = xs))) /\ ∃ n, w' = (w.drewN mm).drewN n) := hid (fun mm => sameSteps_any (hs1.below (bdrew (Below.refl _ _)) (Nat.le_refl _)) (hs2.below (bdrew (Below.refl _ _)) (Nat.le_refl _)) (by omega) (by omega))
 have HSE : Hid (decide (xs = xs) = true) := hid (by simp)
 have hin : (i : Int) < (n : Int) := by omega
 clear hs1 hs2 hv hu hxl
 generalize xs.length = z at *
 go_wp2_with fail
 go_region_held3 (fun V => V.cell? ⟨b1, o1 + i, none⟩ = some (.slice x1 z q1) /\ V.cell? ⟨b2, o2 + i, none⟩ = some (.slice x2 z q2))
   (first | exact ⟨d0, d1⟩ | assumption)
   ((go_at_call 81; refine (HSM.out _).mono ?_; rintro e w7 ⟨rfl, mm, rfl⟩; rw [HSE.out]))
 go_wp2_with fail
 go_roundw
 case rel => exact ⟨i + 1, _, by omega, by go_num, by first | rfl | exact World.drewN_drewN _ _ _⟩
 case measure => simp [intOf]; omega)
 · obtain rfl : n = i := by omega
   go_wp2_with fail
   go_ret
   exact ⟨rfl, m, rfl⟩)
def MkInW (N : List Rw) (i k : Nat) (cs : List Value) : Prop := ∀ (j : Nat) (x : Value), cs[j]? = some x -> ∃ r ∈ N, r.T = 129 /\ r.k = 2 /\ r.v = x /\ r.n = 1 /\ r.xs = (mkWalk i (k + j)).flatMap encS
theorem MkInW.mono {N N' : List Rw} {i k : Nat} {cs : List Value} (h : MkInW N i k cs) (hs : ∀ r ∈ N, r ∈ N') : MkInW N' i k cs := fun j x hx => by
  obtain ⟨r, hr, y⟩ := h j x hx
  exact ⟨r, hs r hr, y⟩
theorem MkInW.nil (N : List Rw) (i k : Nat) : MkInW N i k [] := fun j x hx => by simp at hx
theorem MkInW.app {N : List Rw} {i k : Nat} {cs ds : List Value} (h : MkInW N i k cs) (h2 : MkInW N i (k + cs.length) ds) : MkInW N i k (cs ++ ds) := fun j x hx => by
  by_cases hj : j < cs.length
  · rw [List.getElem?_append_left hj] at hx; exact h j x hx
  · rw [List.getElem?_append_right (by omega)] at hx
    obtain ⟨r, h3, h4⟩ := h2 _ x hx
    rw [show k + cs.length + (j - cs.length) = k + j by omega] at h4
    exact ⟨r, h3, h4⟩
theorem MkInW.rd {N L : List Rw} {w0 w : World} {i k : Nat} {cs : List Value} (h : MkInW N i k cs) (hR : Rws w0 w L) (hs : ∀ r ∈ N, r ∈ L) {j : Nat} {x : Value} (hx : cs[j]? = some x) : RdW w x (mkWalk i (k + j)) := by
 obtain ⟨r, h1, h2, h3, h4, h5, h6⟩ := h j x hx
 have ho := hR.own r (hs r h1)
 rw [h2, h3, h4, h5, h6] at ho
 obtain ⟨a, c, b, e1, _, _, e2, _⟩ := slAt_own (xs := mkWalk i (k + j)) lenS ho
 exact ⟨a, b, 0, c, e1, e2, by unfold mkWalk; simp⟩
theorem markW_any {w : World} {i k n : Nat} (hi : i <= 400) (hk : k <= 600000) (hn : n <= 600000) :
    Calls Tryz.prog 97 #[.int .i64 (i : Int), .int .i64 (k : Int), .int .i64 (n : Int)] w fun e w' => ∃ (v : Value) (cs : List Value) (N : List Rw), e = .returned v /\ cs.length = n /\ Rws w w' (⟨113, 1, v, n, cs⟩ :: N) /\ MkInW N i k cs := by
 go_enter Tryz.func97, Tryz.ntmps97
 go_wp2_with fail
 go_loopw [7, 8] (fun v7 v8 wr => ∃ (j : Nat) (cs : List Value) (N : List Rw), v8 = .int .i64 ((k : Int) + (j : Int)) /\ j <= n /\ cs.length = j /\ Rws w wr (⟨113, 1, v7, j, cs⟩ :: N) /\ MkInW N i k cs) (fun _ v8 _ => k + n - (intOf v8).toNat)
 case atStart => exact ⟨0, [], [], by simp, Nat.zero_le _, rfl, (Rws.nil (Below.refl _ _)).addNil _ _, MkInW.nil _ _ _⟩
 case round => (
 obtain ⟨j, cs, N, rfl, hj, hcl, hR, hM⟩ := hrel
 have HR := hid hR; have HM := hid hM; have HCL := hid hcl
 have hs := hR.bel.size
 clear hR hM hcl
 by_cases hlt : j < n
 · (
 have hltI : (k : Int) + (j : Int) < (k : Int) + (n : Int) := by omega
 have hR1 := HR.out.addLit #[.int .i64 (-1 - (i : Int)), .int .i64 ((k : Int) + (j : Int))] 129 (k := 2) (n := 1) (by unfold maxLen; omega) rfl
 have HR1 := hid hR1
 clear hR1
 go_wp2_with (at_builtin; refine wpList_lie rfl _ _ 36 rfl rowSS_bk (base := w.heap.size) (by simp; omega) rfl ((HR1.out.alloc _).get (i := 1) rfl) ⟨wr.heap.size + 1, 0, none⟩ 1 1 [.slice (some ⟨wr.heap.size, 0, none⟩) 1 1] rfl rfl (cells1 (by simp [go_sem])) (by simp [Value.oneCell']) (by omega) (by dsimp only; omega) (by dsimp only; unfold maxLen; omega) (wr.heap.size + 1) (by simp) ?_; intro g cap w6 hown6 hg6 hgg6 _)
 have hR6 := HR1.out.grown ((Below.refl _ _).alloc (Nat.le_refl _) _) 1 rfl hown6 hg6 (fun b hb => by (
 simp only [Value.ownBlock, Option.some.injEq] at hb
 subst hb
 rcases hgg6 with h | h
 · exact .inl h
 · exact .inr (by simpa using h)))
 have HR6 : Hid (Rws w w6 (⟨113, 1, .slice (some ⟨g, 0, none⟩) (j + 1) cap, j + 1, cs ++ [.slice (some ⟨wr.heap.size, 0, none⟩) 1 1]⟩ :: (⟨129, 2, .slice (some ⟨wr.heap.size, 0, none⟩) 1 1, 1, [.int .i64 (-1 - (i : Int)), .int .i64 ((k : Int) + (j : Int))]⟩ :: N))) := hid (hR6.perm (List.Perm.swap _ _ _))
 have HM6 : Hid (MkInW (⟨129, 2, .slice (some ⟨wr.heap.size, 0, none⟩) 1 1, 1, [.int .i64 (-1 - (i : Int)), .int .i64 ((k : Int) + (j : Int))]⟩ :: N) i k (cs ++ [.slice (some ⟨wr.heap.size, 0, none⟩) 1 1])) := hid ((HM.out.mono (fun x hx => List.mem_cons_of_mem _ hx)).app (fun q x hx => by (
 have hq : q = 0 := by have := (List.getElem?_eq_some_iff.1 hx).1; simp at this; omega
 subst hq
 simp at hx
 subst hx
 refine ⟨_, List.mem_cons_self, rfl, rfl, rfl, rfl, ?_⟩
 rw [HCL.out]
 simp [mkWalk, encS])))
 clear hown6 hg6 hgg6 hR6 HR1 HR HM
 go_roundw
 case rel => exact ⟨j + 1, _, _, by go_num, by omega, by simp [HCL.out], HR6.out, HM6.out⟩
 case measure => simp [intOf]; omega)
 · obtain rfl : n = j := by omega
   go_wp2_with fail
   go_ret
   exact ⟨_, cs, N, rfl, HCL.out, HR.out, HM.out⟩)
theorem stillW_any {w : World} {bb n : Nat} {a a' : Option Addr} {ob ob' c c' : Nat} {vs us : List Value}
    (h0 : w.cell? ⟨bb, 20, none⟩ = some (.slice a n c)) (h1 : w.cell? ⟨bb, 21, none⟩ = some (.slice a' n c')) (hO : SlAt encV 1 w a ob 0 vs) (hP : SlAt encV 1 w a' ob' 0 us) (hvl : vs.length = n) (hul : us.length = n) (hn : n <= 400)
    (hR : ∀ (i : Nat) (v u : Value), vs[i]? = some v -> us[i]? = some u -> ∃ (xs : List Value) (a1 : Option Addr) (b1 c1 : Nat) (a2 : Option Addr) (b2 c2 : Nat), v = .slice a1 xs.length c1 /\ u = .slice a2 xs.length c2 /\ SlAt encV 1 w a1 b1 0 xs /\ SlAt encV 1 w a2 b2 0 xs /\ xs.length <= 600000 /\ ∀ (j : Nat) (x : Value), xs[j]? = some x -> ∃ ys, RdW w x ys) :
    Calls Tryz.prog 35 #[.pointer (some ⟨bb, 0, none⟩)] w fun e w' => e = .returned (.bool true) /\ ∃ m, w' = w.drewN m := by
 have HO := hid hO; have HP := hid hP; have HVL := hid hvl; have HUL := hid hul; have HR := hid hR
 clear hO hP hvl hul hR
 go_enter Tryz.func35, Tryz.ntmps35
 go_wp2_with fail
 go_loopw [3] (fun v3 wr => ∃ i m : Nat, i <= n /\ v3 = .int .i64 i /\ wr = w.drewN m) (fun v3 _ => n - (intOf v3).toNat)
 case atStart => exact ⟨0, 0, Nat.zero_le _, rfl, rfl⟩
 case round => (
 obtain ⟨i, m, hi, rfl, rfl⟩ := hrel
 by_cases hlt : i < n
 · (
 obtain ⟨v, hv⟩ := getElem?_of_lt (xs := vs) (i := i) (by rw [HVL.out]; exact hlt)
 obtain ⟨u, hu⟩ := getElem?_of_lt (xs := us) (i := i) (by rw [HUL.out]; exact hlt)
 obtain ⟨xs, a1, b1, q1, a2, b2, q2, rfl, rfl, hs1, hs2, hxl, hrd⟩ := HR.out i v u hv hu
 have ha := HO.out.ad (by rw [HVL.out]; omega)
 have hb := HP.out.ad (by rw [HUL.out]; omega)
 subst ha hb
 have d0 := HO.out.cv hv
 have d1 := HP.out.cv hu
 rw [Nat.zero_add] at d0 d1
 have HSM : Hid (∀ mm, Calls Tryz.prog 86 #[.slice a1 xs.length q1, .slice a2 xs.length q2] (w.drewN mm) fun e w' => e = .returned (.bool true) /\ ∃ n, w' = (w.drewN mm).drewN n) := hid (fun mm => sameWalks_any (hs1.below (bdrew (Below.refl _ _)) (Nat.le_refl _)) (hs2.below (bdrew (Below.refl _ _)) (Nat.le_refl _)) rfl rfl (by omega) (fun j x y hx hy => by (
 rw [hx] at hy
 cases hy
 obtain ⟨ys, h⟩ := hrd j x hx
 exact ⟨ys, h.below (bdrew (Below.refl _ _)), h.below (bdrew (Below.refl _ _))⟩)))
 have hin : (i : Int) < (n : Int) := by omega
 clear hs1 hs2 hv hu hxl hrd
 generalize xs.length = z at *
 go_wp2_with fail
 go_region_held3 (fun V => V.cell? ⟨bb, 20, none⟩ = some (.slice (some ⟨ob, 0, none⟩) n c) /\ V.cell? ⟨bb, 21, none⟩ = some (.slice (some ⟨ob', 0, none⟩) n c') /\ V.cell? ⟨ob, i, none⟩ = some (.slice a1 z q1) /\ V.cell? ⟨ob', i, none⟩ = some (.slice a2 z q2))
   (first | exact ⟨h0, h1, d0, d1⟩ | assumption)
   ((go_at_call 86; refine (HSM.out _).mono ?_; rintro e w7 ⟨rfl, mm, rfl⟩))
 go_wp2_with fail
 go_roundw
 case rel => exact ⟨i + 1, _, by omega, by go_num, by first | rfl | exact World.drewN_drewN _ _ _⟩
 case measure => simp [intOf]; omega)
 · obtain rfl : n = i := by omega
   go_wp2_with fail
   go_ret
   exact ⟨rfl, m, rfl⟩)
theorem markedW_any {w : World} {n : Nat} {a : Option Addr} {ob c : Nat} {vs : List Value} (hO : SlAt encV 1 w a ob 0 vs) (hvl : vs.length = n) (hn : n <= 400)
    (hR : ∀ (i : Nat) (v : Value), vs[i]? = some v -> ∃ (z : Nat) (a1 : Option Addr) (b1 c1 : Nat) (xs : List Value), v = .slice a1 z c1 /\ SlAt encV 1 w a1 b1 0 xs /\ xs.length = z /\ z <= 600000 /\ ∀ (j : Nat) (x : Value), xs[j]? = some x -> RdW w x (mkWalk i j)) :
    Calls Tryz.prog 68 #[.slice a n c] w fun e w' => e = .returned (.bool true) /\ Below w.heap.size w w' := by
 have HO := hid hO; have HVL := hid hvl; have HR := hid hR
 clear hO hvl hR
 go_enter Tryz.func68, Tryz.ntmps68
 go_wp2_with fail
 go_loopw [3] (fun v3 wr => ∃ i : Nat, i <= n /\ v3 = .int .i64 i /\ Below w.heap.size w wr) (fun v3 _ => n - (intOf v3).toNat)
 case atStart => exact ⟨0, Nat.zero_le _, rfl, Below.refl _ _⟩
 case round => (
 obtain ⟨i, hi, rfl, hB⟩ := hrel
 by_cases hlt : i < n
 · (
 obtain ⟨v, hv⟩ := getElem?_of_lt (xs := vs) (i := i) (by rw [HVL.out]; exact hlt)
 obtain ⟨z, a1, b1, q1, xs, rfl, hs1, hxz, hxl, hrd⟩ := HR.out i v hv
 have ha := HO.out.ad (by rw [HVL.out]; omega)
 subst ha
 have hob := HO.out.lt (by rw [HVL.out]; omega)
 have d0 := (HO.out.below hB (Nat.le_refl _)).cv hv
 rw [Nat.zero_add] at d0
 have hob2 : ob < wr.heap.size := Nat.lt_of_lt_of_le hob hB.size
 have HMK := hid (fun (V : World) => markW_any (w := V) (i := i) (k := 0) (n := z) (by omega) (by omega) hxl)
 have hin : (i : Int) < (n : Int) := by omega
 have HS1 := hid (hs1.below hB (Nat.le_refl _))
 have HRD := hid (fun (j : Nat) (x : Value) (hx : xs[j]? = some x) => (hrd j x hx).below hB); have HXZ := hid hxz
 have HSM : Hid (∀ (U V : World) (v : Value) (cs : List Value) (N : List Rw), Below wr.heap.size wr U -> Below wr.heap.size wr V -> cs.length = z -> Rws U V (⟨113, 1, v, z, cs⟩ :: N) -> MkInW N i 0 cs -> Calls Tryz.prog 86 #[.slice a1 z q1, v] V fun e w' => e = .returned (.bool true) /\ ∃ n, w' = V.drewN n) := hid (fun U V v cs N hU hV hcz hR hM => by (
 obtain ⟨a2, c2, b2, rfl, _, _, hs2, _⟩ := hR.sl (i := 0) (enc := encV) (ys := cs) (by rw [flatV]; rfl) lenV hcz.symm
 rw [hcz]
 exact sameWalks_any (HS1.out.below hV (Nat.le_refl _)) hs2 HXZ.out hcz hxl (fun j x y hx hy => ⟨mkWalk i j, (HRD.out j x hx).below hV, by have := hM.rd hR (fun r hr => List.mem_cons_of_mem _ hr) hy; rwa [Nat.zero_add] at this⟩)))
 have HB := hid hB
 have hdr : Below wr.heap.size wr wr.drew := (Below.refl _ _).drew
 have HKP : Hid (∀ V, Below wr.heap.size wr V -> V.cell? ⟨ob, i, none⟩ = some (.slice a1 z q1) /\ ob < V.heap.size /\ Below wr.heap.size wr V) := hid (fun V hV => ⟨by rw [hV.cell (p := ⟨ob, i, none⟩) hob2]; exact d0, Nat.lt_of_lt_of_le hob2 hV.size, hV⟩)
 clear hs1 hv hB hob hxz hrd
 go_wp2_with fail
 go_region_held3 (fun V => V.cell? ⟨ob, i, none⟩ = some (.slice a1 z q1) /\ ob < V.heap.size /\ Below wr.heap.size wr V)
   (first | (exact HKP.out _ (by assumption)) | assumption)
   (first
     | (go_at_call 97; go_split_ands; refine (HMK.out _).mono ?_; rintro e w7 ⟨v7, cs7, N7, rfl, hcl7, hown7, hM7⟩; have hB7 := hown7.bel; have hW7 : Below wr.heap.size wr w7 := Below.trans (by assumption) (hB7.mono (Below.size (by assumption))))
     | (go_at_call 86; go_split_ands; refine (HSM.out _ _ _ _ _ (by assumption) (by assumption) hcl7 hown7 hM7).mono ?_; rintro e w8 ⟨rfl, mm, rfl⟩; have hW8 : Below wr.heap.size wr _ := bdrew (n := mm) (by assumption)))
 all_goals go_split_ands
 all_goals go_wp2_with fail
 all_goals (
 go_roundw
 case rel => exact ⟨i + 1, by omega, by go_num, HB.out.trans (Below.mono (by assumption) HB.out.size)⟩
 case measure => simp [intOf]; omega))
 · obtain rfl : n = i := by omega
   go_wp2_with fail
   go_ret
   exact ⟨rfl, hB⟩)
end Go.Proofs.YtgikimbafakmcaaGreatDoor

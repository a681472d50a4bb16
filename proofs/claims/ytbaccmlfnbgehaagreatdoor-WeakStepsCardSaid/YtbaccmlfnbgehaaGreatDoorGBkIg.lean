/-
  Lemmas.
-/
import Derived.Test.YtbaccmlfnbgehaaGreatDoorGBkEg
import Derived.BigRegion
import Derived.Test.YtbaccmlfnbgehaaGreatDoorGBkB
import Derived.Deep.QuietTactic
import Derived.BigQuiet
import Derived.IntWalk
import Derived.Deep.RegionLaw
set_option maxHeartbeats 8000000
set_option maxRecDepth 100000
open Nat renaming le_refl → l0, zero_le → l2, zero_add → l7, mul_one → l8
open List renaming flatMap_append → l1, append_assoc → l3, getElem?_set → l4, mem_flatMap → l5, perm_middle → l6
open Go.Proofs.Tryz
namespace Go.Proofs.YtbaccmlfnbgehaaGreatDoor
open Go.RowKit Pl
open Lib (hid)
theorem j3i (x : Int) : ∀ u ∈ encI x, u.oneCell' = true := by intro u hu; simp [encI] at hu; first | (subst hu; rfl) | (rcases hu with rfl | rfl <;> rfl) | (rcases hu with rfl | rfl | rfl <;> rfl)
theorem v1h {L : List Int} : ∀ u ∈ L.flatMap encI, u.oneCell' = true := fun u hu => by
  obtain ⟨x, _, hx⟩ := l5.1 hu
  exact j3i x u hx
theorem q2x {w0 w : World} {bb : Nat} {cs : List Value} {o : Value} {ks rest : List Rw}
    (h : Rws w0 w (⟨45, 22, .slice (some ⟨bb, 0, none⟩) 1 1, 1, cs⟩ :: ⟨50, 1, o, ks.length, ks.map (·.v)⟩ :: (ks ++ rest))) (hc : cs[0]? = some o) (hK : ∀ (i : Nat) (r : Rw), ks[i]? = some r -> r.T = 3 /\ r.k = 1 /\ r.n <= 500000 /\ r.xs = (mkG mI i 0 r.n).flatMap encI) (hl : ks.length <= 400) :
    Calls prog 66 #[.pointer (some ⟨bb, 0, none⟩)] w fun e w' => ∃ (gv : Value) (gs : List Value) (G : List Rw), e = .returned gv /\ gs.length = ks.length /\ Rws w0 w' (⟨50, 1, gv, ks.length, gs⟩ :: ⟨45, 22, .slice (some ⟨bb, 0, none⟩) 1 1, 1, cs⟩ :: ⟨50, 1, o, ks.length, ks.map (·.v)⟩ :: (G ++ rest)) /\ GrowOk 1 mI encI ks gs G ks.length := by
 obtain ⟨oa, oc, hov, hoa, _, _, _, _⟩ := h.shape (r := ⟨50, 1, o, ks.length, ks.map (·.v)⟩) (by simp)
 dsimp only at hov hoa
 subst hov
 obtain ⟨m, hm⟩ : ∃ m, m = ks.length := ⟨_, rfl⟩
 rw [<- hm] at h hl hc hoa ⊢
 have H := hid h; have HK := hid hK; have HM := hid hm; have HC := hid hc; have HOA := hid hoa
 have b0 := h.cell (i := 0) rfl hc
 have hbl := (h.lt (i := 0) rfl).2
 clear h hK hm hc hoa
 go_enter func66, ntmps66
 go_wp2_with fail
 clear b0 hbl
 go_loopw [3, 4, 5, 6] (fun v3 v4 _ _ wr => ∃ (i : Nat) (gs : List Value) (G : List Rw) (gv : Value), gv = v3 /\ v4 = .int .i64 i /\ i <= m /\ gs.length = i /\ Rws w0 wr (⟨50, 1, gv, i, gs⟩ :: ⟨45, 22, .slice (some ⟨bb, 0, none⟩) 1 1, 1, cs⟩ :: ⟨50, 1, .slice oa m oc, m, ks.map (·.v)⟩ :: (G ++ (ks.drop i ++ rest))) /\ GrowOk 1 mI encI ks gs G i) (fun _ v4 _ _ _ => m - (intOf v4).toNat)
 case atStart => exact ⟨0, [], [], _, rfl, rfl, l2 _, rfl, H.out.addNil _ _, fun p _ hp => absurd hp (Nat.not_lt_zero _)⟩
 case round => (
 obtain ⟨i, gs, G, v3, rfl, rfl, hi, hgs, hRw, hok⟩ := hrel
 have b0 := hRw.cell (i := 1) rfl HC.out
 have hbl := (hRw.lt (i := 1) rfl).2
 have HGS := hid hgs; have HOK := hid hok
 clear hgs hok
 by_cases hlt : i < m
 · (
 obtain ⟨r, hr⟩ := j0a (xs := ks) (i := i) (by rw [<- HM.out]; exact hlt)
 obtain ⟨ob, rfl⟩ := HOA.out (by omega)
 have b1 := hRw.cell (i := 2) (j := i) (u := r.v) rfl (by simp [hr])
 obtain ⟨T, k, v, n, xs⟩ := r
 obtain ⟨rfl, rfl, hn, hxs⟩ := HK.out _ _ hr
 dsimp only at hxs hn b1
 subst hxs
 have hdrop : ks.drop i = ⟨3, 1, v, n, (mkG mI i 0 n).flatMap encI⟩ :: ks.drop (i + 1) := by
   obtain ⟨hl, he⟩ := List.getElem?_eq_some_iff.1 hr
   rw [List.drop_eq_getElem_cons hl, he]
 have hR0 : Rws w0 wr (⟨3, 1, v, n, (mkG mI i 0 n).flatMap encI⟩ :: ([] ++ (⟨50, 1, v3, i, gs⟩ :: ⟨45, 22, .slice (some ⟨bb, 0, none⟩) 1 1, 1, cs⟩ :: ⟨50, 1, .slice (some ⟨ob, 0, none⟩) m oc, m, ks.map (·.v)⟩ :: (G ++ (ks.drop (i + 1) ++ rest))))) := by (
 rw [hdrop] at hRw
 have hpm := l6 (a := (⟨3, 1, v, n, (mkG mI i 0 n).flatMap encI⟩ : Rw)) (l₁ := ⟨50, 1, v3, i, gs⟩ :: ⟨45, 22, .slice (some ⟨bb, 0, none⟩) 1 1, 1, cs⟩ :: ⟨50, 1, .slice (some ⟨ob, 0, none⟩) m oc, m, ks.map (·.v)⟩ :: G) (l₂ := ks.drop (i + 1) ++ rest)
 exact hRw.perm hpm)
 obtain ⟨va, vc, hv, _, _, _, _, _⟩ := hR0.shape (r := ⟨3, 1, v, n, (mkG mI i 0 n).flatMap encI⟩) (by simp)
 dsimp only at hv
 subst hv
 have hP0 := Pre.self hR0 (r := ⟨3, 1, .slice va n vc, n, (mkG mI i 0 n).flatMap encI⟩) (by simp)
 dsimp only at hP0
 have HR0 := hid hR0; have HP0 := hid hP0; have HR := hid hr
 have hin : (i : Int) < (m : Int) := by omega
 clear hRw hdrop hR0 hP0 hr
 go_wp2_with fail
 clear b0 b1 hbl
 go_loopw [5, 6] (fun v5 v6 wr => ∃ (t : Nat) (la : Option Addr) (lc : Nat) (E : List Rw), v6 = .int .i64 t /\ v5 = .slice la (n + t) lc /\ t <= 16 /\ Rws w0 wr (⟨3, 1, .slice la (n + t) lc, n + t, (mkG mI i 0 (n + t)).flatMap encI⟩ :: (E ++ (⟨50, 1, v3, i, gs⟩ :: ⟨45, 22, .slice (some ⟨bb, 0, none⟩) 1 1, 1, cs⟩ :: ⟨50, 1, .slice (some ⟨ob, 0, none⟩) m oc, m, ks.map (·.v)⟩ :: (G ++ (ks.drop (i + 1) ++ rest))))) /\ Pre (⟨3, 1, .slice la (n + t) lc, n + t, (mkG mI i 0 (n + t)).flatMap encI⟩ :: E) 1 (.slice va n vc) n ((mkG mI i 0 n).flatMap encI)) (fun _ v6 _ => 16 - (intOf v6).toNat)
 case atStart => exact ⟨0, va, vc, [], rfl, rfl, l2 _, HR0.out, HP0.out⟩
 case round => (
 obtain ⟨t, la, lc, E, rfl, rfl, ht, hRx, hPx⟩ := hrel
 have HRX := hid hRx; have HPX := hid hPx
 clear hRx hPx HR0 HP0
 by_cases hlq : t < 16
 · (
 have htI : (t : Int) < 16 := by omega
 have HMK : Hid (Calls prog 116 #[.int .i64 (i : Int), .int .i64 ((n + t : Nat) : Int), .int .i64 1] wr fun e w' => ∃ v, e = .returned v /\ w'.ownsRow wr.heap.size 3 1 v 1 ((mkG mI i (n + t) 1).flatMap encI) /\ Below wr.heap.size wr w') := hid (y0b (n := 1) (by omega) (by omega) (by omega))
 go_wp2_with fail
 refine HMK.out.mono ?_
 rintro e w3 ⟨mv, rfl, hmo, hmB⟩
 obtain ⟨mg, mc, rfl, _⟩ := hmo.form (by omega)
 have hR3 := HRX.out.call hmB
 have HR3 := hid hR3; have HMO := hid hmo
 clear hmo hmB hR3 HMK
 go_wp2_with (at_builtin; refine j0w rfl _ _ 50 rfl p2q (base := w0.heap.size) rfl (HR3.out.get (i := 0) rfl) ⟨mg, 0, none⟩ 1 mc ((mkG mI i (n + t) 1).flatMap encI) rfl (by rw [j0b p0v, j0f]) (HMO.out.cells rfl) v1h (by omega) (by dsimp only; omega) (by dsimp only; unfold maxLen; omega) ?_; intro g cap w4 htwo)
 obtain ⟨X, hR4, hpre⟩ := HR3.out.grow2 htwo
 have HR4 : Hid (Rws w0 w4 (⟨3, 1, .slice (some ⟨g, 0, none⟩) (n + (t + 1)) cap, n + (t + 1), (mkG mI i 0 (n + (t + 1))).flatMap encI⟩ :: ((X ++ E) ++ (⟨50, 1, v3, i, gs⟩ :: ⟨45, 22, .slice (some ⟨bb, 0, none⟩) 1 1, 1, cs⟩ :: ⟨50, 1, .slice (some ⟨ob, 0, none⟩) m oc, m, ks.map (·.v)⟩ :: (G ++ (ks.drop (i + 1) ++ rest)))))) := hid (by
   rw [<- l1, k0n] at hR4
   rw [l3]; exact hR4)
 have HP4 : Hid (Pre (⟨3, 1, .slice (some ⟨g, 0, none⟩) (n + (t + 1)) cap, n + (t + 1), (mkG mI i 0 (n + (t + 1))).flatMap encI⟩ :: (X ++ E)) 1 (.slice va n vc) n ((mkG mI i 0 n).flatMap encI)) := hid (by
   rw [<- l1, k0n] at hpre
   exact HPX.out.swap hpre (fun x hx => hx))
 clear htwo hR4 hpre HR3 HMO HRX HPX
 go_wp2_with fail
 go_roundw
 case rel => exact ⟨t + 1, _, _, X ++ E, by go_num, rfl, by omega, HR4.out, HP4.out⟩
 case measure => simp [intOf]; omega)
 · (
 obtain rfl : t = 16 := by omega
 have HMK : Hid (Calls prog 116 #[.int .i64 (i : Int), .int .i64 ((n + 16 : Nat) : Int), .int .i64 80] wr fun e w' => ∃ v, e = .returned v /\ w'.ownsRow wr.heap.size 3 1 v 80 ((mkG mI i (n + 16) 80).flatMap encI) /\ Below wr.heap.size wr w') := hid (y0b (n := 80) (by omega) (by omega) (by omega))
 go_wp2_with fail
 refine HMK.out.mono ?_
 rintro e w3 ⟨mv, rfl, hmo, hmB⟩
 obtain ⟨mg, mc, rfl, _⟩ := hmo.form (by omega)
 have hR3 := HRX.out.call hmB
 have HR3 := hid hR3; have HMO := hid hmo
 clear hmo hmB hR3 HMK HRX
 go_wp2_with (first
   | (at_builtin; refine j0w rfl _ _ 50 rfl p2q (base := w0.heap.size) rfl (HR3.out.get (i := 0) rfl) ⟨mg, 0, none⟩ 80 mc ((mkG mI i (n + 16) 80).flatMap encI) rfl (by rw [j0b p0v, j0f]) (HMO.out.cells rfl) v1h (by omega) (by dsimp only; omega) (by dsimp only; unfold maxLen; omega) ?_; intro g cap w4 htwo; (obtain ⟨X, hR4, hpre⟩ := HR3.out.grow2 htwo); (rw [<- l1, k0n] at hR4 hpre); have HR4 : Hid (Rws w0 w4 (⟨50, 1, v3, i, gs⟩ :: ⟨45, 22, .slice (some ⟨bb, 0, none⟩) 1 1, 1, cs⟩ :: ⟨50, 1, .slice (some ⟨ob, 0, none⟩) m oc, m, ks.map (·.v)⟩ :: ((G ++ (⟨3, 1, .slice (some ⟨g, 0, none⟩) (n + 16 + 80) cap, n + 16 + 80, (mkG mI i 0 (n + 16 + 80)).flatMap encI⟩ :: (X ++ E))) ++ (ks.drop (i + 1) ++ rest)))) := hid (hR4.perm (by rw [<- l3]; exact k0g (_ :: (X ++ E)) [⟨50, 1, v3, i, gs⟩, ⟨45, 22, .slice (some ⟨bb, 0, none⟩) 1 1, 1, cs⟩, ⟨50, 1, .slice (some ⟨ob, 0, none⟩) m oc, m, ks.map (·.v)⟩] G (ks.drop (i + 1) ++ rest))); have HPR := hid hpre; clear htwo hR4 hpre HR3 HMO)
   | (at_builtin; refine j0y rfl _ _ 34 rfl q0a (base := w0.heap.size) (by have := HR4.out.bel.size; simp; omega) rfl ((HR4.out.alloc _).get (i := 0) rfl) ⟨w4.heap.size, 0, none⟩ 1 1 [.slice (some ⟨g, 0, none⟩) (n + 16 + 80) cap] rfl rfl (k0c (by simp [go_sem])) (by simp [Value.oneCell']) (by omega) (by dsimp only; omega) (by dsimp only; unfold maxLen; omega) w4.heap.size (by simp) ?_; intro g2 cap2 w6 hown6 hg6 hgg6 _))
 have HR6 : Hid (Rws w0 w6 (⟨50, 1, .slice (some ⟨g2, 0, none⟩) (i + 1) cap2, i + 1, gs ++ [.slice (some ⟨g, 0, none⟩) (n + 16 + 80) cap]⟩ :: ⟨45, 22, .slice (some ⟨bb, 0, none⟩) 1 1, 1, cs⟩ :: ⟨50, 1, .slice (some ⟨ob, 0, none⟩) m oc, m, ks.map (·.v)⟩ :: ((G ++ (⟨3, 1, .slice (some ⟨g, 0, none⟩) (n + 16 + 80) cap, n + 16 + 80, (mkG mI i 0 (n + 16 + 80)).flatMap encI⟩ :: (X ++ E))) ++ (ks.drop (i + 1) ++ rest)))) := hid (HR4.out.grown ((Below.refl w4.heap.size w4).alloc (l0 _) _) 0 rfl hown6 hg6 (fun b hb => by simp only [Value.ownBlock, Option.some.injEq] at hb; subst hb; exact hgg6))
 clear hown6 hg6 hgg6
 go_wp2_with fail
 go_roundw
 case rel => exact ⟨i + 1, gs ++ [.slice (some ⟨g, 0, none⟩) (n + 16 + 80) cap], G ++ (⟨3, 1, .slice (some ⟨g, 0, none⟩) (n + 16 + 80) cap, n + 16 + 80, (mkG mI i 0 (n + 16 + 80)).flatMap encI⟩ :: (X ++ E)), _, rfl, by go_num, by omega, by simp [HGS.out], HR6.out, HOK.out.step HGS.out HR.out (by
   exact ⟨_, List.mem_cons_self, rfl, _, _, _, rfl, rfl, l0 _, List.take_of_length_le (by rw [j0b p0v, j0f]; exact l0 _)⟩) (HPX.out.swap HPR.out (fun x hx => hx))⟩
 case measure => simp [intOf]; omega)))
 · (
 obtain rfl : m = i := by omega
 have HRW := hid hRw
 clear hRw
 go_wp2_with fail
 go_ret
 refine ⟨_, gs, G, rfl, HGS.out, ?_, HOK.out⟩
 have := HRW.out
 rw [List.drop_of_length_le (by rw [<- HM.out]; exact l0 _)] at this
 exact this))
end Go.Proofs.YtbaccmlfnbgehaaGreatDoor
namespace Go.Proofs.YtbaccmlfnbgehaaGreatDoor
open Go.RowKit Pl
open Lib (hid)
theorem y2x {w0 w : World} {bb : Nat} {cs : List Value} {o : Value} {ks rest : List Rw}
    (h : Rws w0 w (⟨45, 22, .slice (some ⟨bb, 0, none⟩) 1 1, 1, cs⟩ :: ⟨50, 1, o, ks.length, ks.map (·.v)⟩ :: (ks ++ rest))) (hc : cs[0]? = some o) (hK : ∀ r ∈ ks, r.T = 3 /\ r.k = 1 /\ r.n <= 500000) (hl : ks.length <= 400) :
    Calls prog 55 #[.pointer (some ⟨bb, 0, none⟩)] w fun e w' => e = .returned (.tuple #[]) /\ Rws w0 w' (⟨45, 22, .slice (some ⟨bb, 0, none⟩) 1 1, 1, cs⟩ :: ⟨50, 1, o, ks.length, ks.map (·.v)⟩ :: (mkAll mI encI ks ++ rest)) := by
 obtain ⟨oa, oc, hov, hoa, _, _, _, _⟩ := h.shape (r := ⟨50, 1, o, ks.length, ks.map (·.v)⟩) (by simp)
 dsimp only at hov hoa
 subst hov
 obtain ⟨m, hm⟩ : ∃ m, m = ks.length := ⟨_, rfl⟩
 rw [<- hm] at h hl hc hoa ⊢
 have H := hid h; have HK := hid hK; have HM := hid hm; have HC := hid hc; have HOA := hid hoa
 have b0 := h.cell (i := 0) rfl hc
 have hbl := (h.lt (i := 0) rfl).2
 clear h hK hm hc hoa
 go_enter func55, ntmps55
 go_wp2_with fail
 clear b0 hbl
 go_loopw [2, 3, 4] (fun v2 _ _ wr => ∃ i : Nat, v2 = .int .i64 i /\ i <= m /\ Rws w0 wr (⟨45, 22, .slice (some ⟨bb, 0, none⟩) 1 1, 1, cs⟩ :: ⟨50, 1, .slice oa m oc, m, ks.map (·.v)⟩ :: (mkAt mI encI 1 ks i 0 ++ rest))) (fun v2 _ _ _ => m - (intOf v2).toNat)
 case atStart => exact ⟨0, rfl, l2 _, by rw [x0v]; exact H.out⟩
 case round => (
 obtain ⟨i, rfl, hi, hRw⟩ := hrel
 have HRW := hid hRw
 have b0 := hRw.cell (i := 0) rfl HC.out
 have hbl := (hRw.lt (i := 0) rfl).2
 by_cases hlt : i < m
 · (
 obtain ⟨r, hr⟩ := j0a (xs := ks) (i := i) (by rw [<- HM.out]; exact hlt)
 obtain ⟨ob, rfl⟩ := HOA.out (by omega)
 have b1 := hRw.cell (i := 1) (j := i) (u := r.v) rfl (by simp [hr])
 have hrm := List.mem_of_getElem? hr
 obtain ⟨T, k, v, n, xs⟩ := r
 obtain ⟨rfl, rfl, hn⟩ := HK.out _ hrm
 obtain ⟨va, vc, hv, hva, _, _, _, hX⟩ := H.out.shape (r := ⟨3, 1, v, n, xs⟩) (by simp [hrm])
 dsimp only at b1 hn hv hva hX
 subst hv
 have hin : (i : Int) < (m : Int) := by omega
 have HMK := hid (y0b (w := wr) (i := i) (k := 0) (n := n) (by omega) (by omega) (by omega))
 have HR := hid hr; have HVA := hid hva; have HX := hid hX
 clear hRw hrm hr hva hX
 go_wp2_with fail
 refine HMK.out.mono ?_
 rintro e w3 ⟨mv, rfl, hmo, hmB⟩
 have hR3 := HRW.out.add hmB hmo
 obtain ⟨ma, mc, hmv, hma, _, _, _, _⟩ := hR3.shape (r := ⟨3, 1, mv, n, (mkG mI i 0 n).flatMap encI⟩) (by simp)
 dsimp only at hmv hma
 subst hmv
 have HR3 := hid hR3; have HMA := hid hma
 clear hR3 hmo hmB hma HMK HRW b0 b1 hbl
 go_wp2_with fail
 go_loopw [4] (fun v4 wr => ∃ q : Nat, v4 = .int .i64 q /\ q <= n /\ Rws w0 wr (⟨3, 1, .slice ma n mc, n, (mkG mI i 0 n).flatMap encI⟩ :: ⟨45, 22, .slice (some ⟨bb, 0, none⟩) 1 1, 1, cs⟩ :: ⟨50, 1, .slice (some ⟨ob, 0, none⟩) m oc, m, ks.map (·.v)⟩ :: (mkAt mI encI 1 ks i q ++ rest))) (fun v4 _ => n - (intOf v4).toNat)
 case atStart => exact ⟨0, rfl, l2 _, HR3.out⟩
 case round => (
 obtain ⟨q, rfl, hq, hRx⟩ := hrel
 by_cases hlq : q < n
 · (
 obtain ⟨mg, rfl⟩ := HMA.out (by omega)
 obtain ⟨vg, rfl⟩ := HVA.out (by omega)
 have b0 := hRx.cell (i := 1) rfl HC.out
 have b1 := hRx.cell (i := 2) (j := i) (u := .slice (some ⟨vg, 0, none⟩) n vc) rfl (by simp [HR.out])
 have hqn : (q : Int) < (n : Int) := by omega
 have m0 := hRx.cell (i := 0) (j := q * 1 + 0) rfl (j0h p0v (mkG mI i 0 n) q _ (p0i hlq) 0 _ rfl)
 obtain ⟨⟨u0, x0⟩, y0, z0⟩ := hRx.putOld (j := 0) HR.out HX.out hlq p0v (by decide)
 simp only [l8, Nat.add_zero, l7, mI] at m0 x0 y0
 have HRX := hid hRx
 clear hRx HR3
 go_wp2_with fail
 go_region
 go_wp2_with fail
 go_roundw
 case rel => exact ⟨q + 1, by go_num, by omega, by have := HRX.out.putAt1 HR.out HX.out hlq p0v (show encI (mI i q) = [_] from rfl); have := this.drew; simpa [l8, mI] using this⟩
 case measure => simp [intOf]; omega)
 · (
 obtain rfl : n = q := by omega
 have HR4 : Hid (Rws w0 wr (⟨45, 22, .slice (some ⟨bb, 0, none⟩) 1 1, 1, cs⟩ :: ⟨50, 1, .slice (some ⟨ob, 0, none⟩) m oc, m, ks.map (·.v)⟩ :: (mkAt mI encI 1 ks (i + 1) 0 ++ rest))) := hid (by (
 have := hRx.sub (List.sublist_cons_self _ _)
 rw [x0w HR.out HX.out] at this
 exact this))
 clear hRx
 go_wp2_with fail
 go_roundw
 case rel => exact ⟨i + 1, by go_num, by omega, HR4.out⟩
 case measure => simp [intOf]; omega)))
 · (
 obtain rfl : m = i := by omega
 clear hRw
 go_wp2_with fail
 go_end0
 refine ⟨rfl, ?_⟩
 have := HRW.out
 rw [z0g (by rw [<- HM.out]; exact l0 _)] at this
 exact this))
end Go.Proofs.YtbaccmlfnbgehaaGreatDoor
namespace Go.Proofs.YtbaccmlfnbgehaaGreatDoor
open Go.RowKit Pl
theorem z0s {w : World} {bb : Nat} (h0 : w.cell? ⟨bb, 2, none⟩ = some (.slice none 0 0)) : Calls prog 45 #[.pointer (some ⟨bb, 0, none⟩)] w fun e w' => e = .returned (.bool true) /\ w' = w := by
 go_enter func45, ntmps45
 go_wp2_with fail
 go_loopw [3] (fun v3 wr => v3 = .int .i64 0 /\ wr = w) (fun _ _ => 0)
 case atStart => exact ⟨rfl, rfl⟩
 case round => (
 obtain ⟨rfl, rfl⟩ := hrel
 go_wp2_with fail
 go_ret
 exact ⟨rfl, rfl⟩)
theorem k1d {w : World} {bb : Nat} (h0 : w.cell? ⟨bb, 2, none⟩ = some (.slice none 0 0)) : Calls prog 56 #[.pointer (some ⟨bb, 0, none⟩)] w fun e w' => e = .returned (.tuple #[]) /\ w' = w := by
 go_enter func56, ntmps56
 go_wp2_with fail
 go_loopw [2] (fun v2 wr => v2 = .int .i64 0 /\ wr = w) (fun _ _ => 0)
 case atStart => exact ⟨rfl, rfl⟩
 case round => (
 obtain ⟨rfl, rfl⟩ := hrel
 go_wp2_with fail
 go_end0
 exact ⟨rfl, rfl⟩)
theorem u0t {w : World} {bb : Nat} (h0 : w.cell? ⟨bb, 2, none⟩ = some (.slice none 0 0)) : Calls prog 67 #[.pointer (some ⟨bb, 0, none⟩)] w fun e w' => e = .returned (.slice none 0 0) /\ w' = w := by
 go_enter func67, ntmps67
 go_wp2_with fail
 go_loopw [3, 4] (fun v3 v4 wr => v3 = .slice none 0 0 /\ v4 = .int .i64 0 /\ wr = w) (fun _ _ _ => 0)
 case atStart => exact ⟨rfl, rfl, rfl⟩
 case round => (
 obtain ⟨rfl, rfl, rfl⟩ := hrel
 go_wp2_with fail
 go_ret
 exact ⟨rfl, rfl⟩)
theorem q0k {w : World} : Calls prog 78 #[.slice none 0 0] w fun e w' => e = .returned (.bool true) /\ w' = w := by
 go_enter func78, ntmps78
 go_wp2_with fail
 go_loopw [3] (fun v3 wr => v3 = .int .i64 0 /\ wr = w) (fun _ _ => 0)
 case atStart => exact ⟨rfl, rfl⟩
 case round => (
 obtain ⟨rfl, rfl⟩ := hrel
 go_wp2_with fail
 go_ret
 exact ⟨rfl, rfl⟩)
theorem u0h {w : World} {bb : Nat} (h0 : w.cell? ⟨bb, 4, none⟩ = some (.slice none 0 0)) : Calls prog 46 #[.pointer (some ⟨bb, 0, none⟩)] w fun e w' => e = .returned (.bool true) /\ w' = w := by
 go_enter func46, ntmps46
 go_wp2_with fail
 go_loopw [3] (fun v3 wr => v3 = .int .i64 0 /\ wr = w) (fun _ _ => 0)
 case atStart => exact ⟨rfl, rfl⟩
 case round => (
 obtain ⟨rfl, rfl⟩ := hrel
 go_wp2_with fail
 go_ret
 exact ⟨rfl, rfl⟩)
theorem q1e {w : World} {bb : Nat} (h0 : w.cell? ⟨bb, 4, none⟩ = some (.slice none 0 0)) : Calls prog 57 #[.pointer (some ⟨bb, 0, none⟩)] w fun e w' => e = .returned (.tuple #[]) /\ w' = w := by
 go_enter func57, ntmps57
 go_wp2_with fail
 go_loopw [2] (fun v2 wr => v2 = .int .i64 0 /\ wr = w) (fun _ _ => 0)
 case atStart => exact ⟨rfl, rfl⟩
 case round => (
 obtain ⟨rfl, rfl⟩ := hrel
 go_wp2_with fail
 go_end0
 exact ⟨rfl, rfl⟩)
theorem k1v {w : World} {bb : Nat} (h0 : w.cell? ⟨bb, 4, none⟩ = some (.slice none 0 0)) : Calls prog 68 #[.pointer (some ⟨bb, 0, none⟩)] w fun e w' => e = .returned (.slice none 0 0) /\ w' = w := by
 go_enter func68, ntmps68
 go_wp2_with fail
 go_loopw [3, 4] (fun v3 v4 wr => v3 = .slice none 0 0 /\ v4 = .int .i64 0 /\ wr = w) (fun _ _ _ => 0)
 case atStart => exact ⟨rfl, rfl, rfl⟩
 case round => (
 obtain ⟨rfl, rfl, rfl⟩ := hrel
 go_wp2_with fail
 go_ret
 exact ⟨rfl, rfl⟩)
theorem q0q {w : World} : Calls prog 79 #[.slice none 0 0] w fun e w' => e = .returned (.bool true) /\ w' = w := by
 go_enter func79, ntmps79
 go_wp2_with fail
 go_loopw [3] (fun v3 wr => v3 = .int .i64 0 /\ wr = w) (fun _ _ => 0)
 case atStart => exact ⟨rfl, rfl⟩
 case round => (
 obtain ⟨rfl, rfl⟩ := hrel
 go_wp2_with fail
 go_ret
 exact ⟨rfl, rfl⟩)
theorem u0j {w : World} {bb : Nat} (h0 : w.cell? ⟨bb, 12, none⟩ = some (.slice none 0 0)) : Calls prog 50 #[.pointer (some ⟨bb, 0, none⟩)] w fun e w' => e = .returned (.bool true) /\ w' = w := by
 go_enter func50, ntmps50
 go_wp2_with fail
 go_loopw [3] (fun v3 wr => v3 = .int .i64 0 /\ wr = w) (fun _ _ => 0)
 case atStart => exact ⟨rfl, rfl⟩
 case round => (
 obtain ⟨rfl, rfl⟩ := hrel
 go_wp2_with fail
 go_ret
 exact ⟨rfl, rfl⟩)
theorem q1g {w : World} {bb : Nat} (h0 : w.cell? ⟨bb, 12, none⟩ = some (.slice none 0 0)) : Calls prog 61 #[.pointer (some ⟨bb, 0, none⟩)] w fun e w' => e = .returned (.tuple #[]) /\ w' = w := by
 go_enter func61, ntmps61
 go_wp2_with fail
 go_loopw [2] (fun v2 wr => v2 = .int .i64 0 /\ wr = w) (fun _ _ => 0)
 case atStart => exact ⟨rfl, rfl⟩
 case round => (
 obtain ⟨rfl, rfl⟩ := hrel
 go_wp2_with fail
 go_end0
 exact ⟨rfl, rfl⟩)
theorem k1x {w : World} {bb : Nat} (h0 : w.cell? ⟨bb, 12, none⟩ = some (.slice none 0 0)) : Calls prog 72 #[.pointer (some ⟨bb, 0, none⟩)] w fun e w' => e = .returned (.slice none 0 0) /\ w' = w := by
 go_enter func72, ntmps72
 go_wp2_with fail
 go_loopw [3, 4] (fun v3 v4 wr => v3 = .slice none 0 0 /\ v4 = .int .i64 0 /\ wr = w) (fun _ _ _ => 0)
 case atStart => exact ⟨rfl, rfl, rfl⟩
 case round => (
 obtain ⟨rfl, rfl, rfl⟩ := hrel
 go_wp2_with fail
 go_ret
 exact ⟨rfl, rfl⟩)
theorem q0s {w : World} : Calls prog 83 #[.slice none 0 0] w fun e w' => e = .returned (.bool true) /\ w' = w := by
 go_enter func83, ntmps83
 go_wp2_with fail
 go_loopw [3] (fun v3 wr => v3 = .int .i64 0 /\ wr = w) (fun _ _ => 0)
 case atStart => exact ⟨rfl, rfl⟩
 case round => (
 obtain ⟨rfl, rfl⟩ := hrel
 go_wp2_with fail
 go_ret
 exact ⟨rfl, rfl⟩)
theorem u0i {w : World} {bb : Nat} (h0 : w.cell? ⟨bb, 14, none⟩ = some (.slice none 0 0)) : Calls prog 51 #[.pointer (some ⟨bb, 0, none⟩)] w fun e w' => e = .returned (.bool true) /\ w' = w := by
 go_enter func51, ntmps51
 go_wp2_with fail
 go_loopw [3] (fun v3 wr => v3 = .int .i64 0 /\ wr = w) (fun _ _ => 0)
 case atStart => exact ⟨rfl, rfl⟩
 case round => (
 obtain ⟨rfl, rfl⟩ := hrel
 go_wp2_with fail
 go_ret
 exact ⟨rfl, rfl⟩)
theorem q1f {w : World} {bb : Nat} (h0 : w.cell? ⟨bb, 14, none⟩ = some (.slice none 0 0)) : Calls prog 62 #[.pointer (some ⟨bb, 0, none⟩)] w fun e w' => e = .returned (.tuple #[]) /\ w' = w := by
 go_enter func62, ntmps62
 go_wp2_with fail
 go_loopw [2] (fun v2 wr => v2 = .int .i64 0 /\ wr = w) (fun _ _ => 0)
 case atStart => exact ⟨rfl, rfl⟩
 case round => (
 obtain ⟨rfl, rfl⟩ := hrel
 go_wp2_with fail
 go_end0
 exact ⟨rfl, rfl⟩)
theorem k1w {w : World} {bb : Nat} (h0 : w.cell? ⟨bb, 14, none⟩ = some (.slice none 0 0)) : Calls prog 73 #[.pointer (some ⟨bb, 0, none⟩)] w fun e w' => e = .returned (.slice none 0 0) /\ w' = w := by
 go_enter func73, ntmps73
 go_wp2_with fail
 go_loopw [3, 4] (fun v3 v4 wr => v3 = .slice none 0 0 /\ v4 = .int .i64 0 /\ wr = w) (fun _ _ _ => 0)
 case atStart => exact ⟨rfl, rfl, rfl⟩
 case round => (
 obtain ⟨rfl, rfl, rfl⟩ := hrel
 go_wp2_with fail
 go_ret
 exact ⟨rfl, rfl⟩)
theorem q0r {w : World} : Calls prog 84 #[.slice none 0 0] w fun e w' => e = .returned (.bool true) /\ w' = w := by
 go_enter func84, ntmps84
 go_wp2_with fail
 go_loopw [3] (fun v3 wr => v3 = .int .i64 0 /\ wr = w) (fun _ _ => 0)
 case atStart => exact ⟨rfl, rfl⟩
 case round => (
 obtain ⟨rfl, rfl⟩ := hrel
 go_wp2_with fail
 go_ret
 exact ⟨rfl, rfl⟩)
theorem u0k {w : World} {bb : Nat} (h0 : w.cell? ⟨bb, 18, none⟩ = some (.slice none 0 0)) : Calls prog 53 #[.pointer (some ⟨bb, 0, none⟩)] w fun e w' => e = .returned (.bool true) /\ w' = w := by
 go_enter func53, ntmps53
 go_wp2_with fail
 go_loopw [3] (fun v3 wr => v3 = .int .i64 0 /\ wr = w) (fun _ _ => 0)
 case atStart => exact ⟨rfl, rfl⟩
 case round => (
 obtain ⟨rfl, rfl⟩ := hrel
 go_wp2_with fail
 go_ret
 exact ⟨rfl, rfl⟩)
theorem q1h {w : World} {bb : Nat} (h0 : w.cell? ⟨bb, 18, none⟩ = some (.slice none 0 0)) : Calls prog 64 #[.pointer (some ⟨bb, 0, none⟩)] w fun e w' => e = .returned (.tuple #[]) /\ w' = w := by
 go_enter func64, ntmps64
 go_wp2_with fail
 go_loopw [2] (fun v2 wr => v2 = .int .i64 0 /\ wr = w) (fun _ _ => 0)
 case atStart => exact ⟨rfl, rfl⟩
 case round => (
 obtain ⟨rfl, rfl⟩ := hrel
 go_wp2_with fail
 go_end0
 exact ⟨rfl, rfl⟩)
theorem k1y {w : World} {bb : Nat} (h0 : w.cell? ⟨bb, 18, none⟩ = some (.slice none 0 0)) : Calls prog 75 #[.pointer (some ⟨bb, 0, none⟩)] w fun e w' => e = .returned (.slice none 0 0) /\ w' = w := by
 go_enter func75, ntmps75
 go_wp2_with fail
 go_loopw [3, 4] (fun v3 v4 wr => v3 = .slice none 0 0 /\ v4 = .int .i64 0 /\ wr = w) (fun _ _ _ => 0)
 case atStart => exact ⟨rfl, rfl, rfl⟩
 case round => (
 obtain ⟨rfl, rfl, rfl⟩ := hrel
 go_wp2_with fail
 go_ret
 exact ⟨rfl, rfl⟩)
theorem q0t {w : World} : Calls prog 86 #[.slice none 0 0] w fun e w' => e = .returned (.bool true) /\ w' = w := by
 go_enter func86, ntmps86
 go_wp2_with fail
 go_loopw [3] (fun v3 wr => v3 = .int .i64 0 /\ wr = w) (fun _ _ => 0)
 case atStart => exact ⟨rfl, rfl⟩
 case round => (
 obtain ⟨rfl, rfl⟩ := hrel
 go_wp2_with fail
 go_ret
 exact ⟨rfl, rfl⟩)
end Go.Proofs.YtbaccmlfnbgehaaGreatDoor
namespace Go.Proofs.YtbaccmlfnbgehaaGreatDoor
open Go.RowKit Pl
open Lib (hid)
theorem z2f (x : Int) : ∀ u ∈ encI x, u.oneCell' = true := by intro u hu; simp [encI] at hu; first | (subst hu; rfl) | (rcases hu with rfl | rfl <;> rfl) | (rcases hu with rfl | rfl | rfl <;> rfl)
theorem u2a {w0 w : World} {bb n m : Nat} {cs : List Value} {o p v : Value} {vs us : List Value} {ys : List Int} {rest : List Rw}
    (h : Rws w0 w (⟨45, 22, .slice (some ⟨bb, 0, none⟩) 1 1, 1, cs⟩ :: ⟨50, 1, o, m, vs⟩ :: ⟨50, 1, p, m, us⟩ :: ⟨3, 1, v, n, ys.flatMap encI⟩ :: rest)) (hcl : cs.length = 22) (hc : cs[0]? = some o) (hc1 : cs[1]? = some p) (hn : n = ys.length) (hnm : n <= 500000) (hm : m <= 400) (hv1 : v.oneCell' = true) :
    Calls prog 18 #[.pointer (some ⟨bb, 0, none⟩), v] w fun e w' => e = .returned (.tuple #[]) /\ AddP w0 w w' 3 50 1 bb 0 1 m n cs vs us v (ys.flatMap encI) rest := by
 obtain ⟨oa, oc, hov, _, _, _, _, _⟩ := h.shape (r := ⟨50, 1, o, m, vs⟩) (by simp)
 obtain ⟨pa, pc, hpv, _, _, _, _, _⟩ := h.shape (r := ⟨50, 1, p, m, us⟩) (by simp)
 dsimp only at hov hpv
 subst hov hpv
 have b0 := h.cell (i := 0) rfl hc
 have f0 := h.fz (i := 0) rfl 0
 have hbl := (h.lt (i := 0) rfl).2
 by_cases hlt : m < 400
 · have hltI : (m : Int) < 400 := by omega
   have hltB : decide ((m : Int) < 400) = true := by simp [hltI]
   obtain ⟨va, vc, hvv, _⟩ := h.shape (r := ⟨3, 1, v, n, ys.flatMap encI⟩) (by simp)
   dsimp only at hvv
   subst hvv
   have H := hid h; have HC1 := hid hc1; have HN := hid hn; have HC := hid hc; have HCL := hid hcl
   have hsz := h.bel.size
   clear h hc1 hn hc hv1 hcl
   go_enter func18, ntmps18
   go_wp2_with (at_builtin; refine j0y rfl _ _ 34 rfl q0a (base := w0.heap.size) (by simp; omega) rfl ((H.out.alloc _).get (i := 1) rfl) ⟨w.heap.size, 0, none⟩ 1 1 [.slice va n vc] rfl rfl (k0c (by simp [go_sem])) (by simp [Value.oneCell']) (by decide) (by dsimp only; omega) (by dsimp only; unfold maxLen; omega) w.heap.size (by simp) ?_; intro g cap w4 hown4 hg4 hgg4 hlt4; have hR4 := H.out.grown ((Below.refl w.heap.size w).alloc (l0 _) _) 1 rfl hown4 hg4 (fun b hb => by simp only [Value.ownBlock, Option.some.injEq] at hb; subst hb; exact hgg4); have c0 := hR4.cell (i := 0) rfl HC.out; have c1 := hR4.fz (i := 0) rfl 0; have c2 := (hR4.lt (i := 0) rfl).2; have HR4 := hid hR4; clear hown4 hg4 hgg4 hlt4 hR4)
   obtain ⟨W, hW⟩ : ∃ W, W = w4.setCell ⟨bb, 0, none⟩ (.slice (some ⟨g, 0, none⟩) (m + 1) cap) := ⟨_, rfl⟩
   have HR5 : Hid (Rws w0 W (⟨45, 22, .slice (some ⟨bb, 0, none⟩) 1 1, 1, cs.set 0 (.slice (some ⟨g, 0, none⟩) (m + 1) cap)⟩ :: ⟨50, 1, .slice (some ⟨g, 0, none⟩) (m + 1) cap, m + 1, vs ++ [.slice va n vc]⟩ :: ⟨50, 1, .slice pa m pc, m, us⟩ :: ⟨3, 1, .slice va n vc, n, ys.flatMap encI⟩ :: rest)) := hid (by
     have := HR4.out.set 0 rfl 0 (.slice (some ⟨g, 0, none⟩) (m + 1) cap)
     rw [hW]; exact this)
   rw [<- hW]
   have d0 := HR5.out.cell (i := 0) (j := 1) (u := .slice pa m pc) rfl (by rw [l4, if_neg (by decide)]; exact HC1.out)
   have d1 := HR5.out.fz (i := 0) rfl 1
   have d2 := (HR5.out.lt (i := 0) rfl).2
   have hsW := HR5.out.bel.size
   obtain ⟨va2, vc2, vb2, hv2, _, _, hvs, _⟩ := HR5.out.sl (i := 3) rfl p0v HN.out
   simp only [Value.slice.injEq] at hv2
   obtain ⟨rfl, hnl, rfl⟩ := hv2
   have HVS := hid hvs
   clear hnl hW HR4 H hvs c0 c1 c2 b0 f0 hbl
   have KD : Hid (∀ V, Below W.heap.size W V -> V.cell? ⟨bb, 1, none⟩ = some (.slice pa m pc) /\ V.frozen? ⟨bb, 1, none⟩ = false /\ bb < V.heap.size) := hid (fun V hV => by
     have hb := hV.block bb d2
     exact ⟨by rw [hV.cell (p := ⟨bb, 1, none⟩) d2]; exact d0, by rw [World.frozen?_of_block (w := W) (a := ⟨bb, 1, none⟩) hb]; exact d1, Nat.lt_of_lt_of_le d2 hV.size⟩)
   go_wp2_with fail
   go_region_law (first
     | (refine z0t rfl _ _ _ rfl p2q (base := W.heap.size) (by simp) rfl (World.ownsRow_nil _ _ _ _) (ys := ys) p0v (fun u hu => by obtain ⟨x, _, hx⟩ := l5.1 hu; exact z2f x u hx) (HVS.out.below (j0q (n := 1) (Below.refl _ _)) (l0 _)) (by rw [<- HN.out]; rfl) (by rw [<- HN.out]; omega) (by rw [<- HN.out]; unfold maxLen; omega) ?_; intro u w5 hown5 hg5; rw [<- HN.out] at hown5; obtain ⟨ua, uc, rfl⟩ := v1c hown5; have hB5 : Below W.heap.size W w5 := (j0q (n := 1) (Below.refl _ _)).grown hg5 (by simp) (fun k hk => by cases hk); obtain ⟨e0, e1, e2⟩ := KD.out _ hB5; have hs5 := hB5.size; have HR55 := hid (HR5.out.add hB5 (by rw [l7, List.nil_append] at hown5; exact hown5)); clear hown5 hg5 hB5)
     | (refine j1v rfl _ _ _ rfl q0a (base := w0.heap.size) (by simp; omega) rfl ((HR55.out.alloc _).get (i := 3) rfl) ⟨w5.heap.size, 0, none⟩ 1 1 [.slice ua n uc] rfl rfl (k0c (by simp [go_sem])) (by simp [Value.oneCell']) (by decide) (by dsimp only; omega) (by dsimp only; unfold maxLen; omega) w5.heap.size (by simp) ?_; intro g2 cap2 w6 hown6 hg6 hgg6 hlt6; have hR6 := HR55.out.grown ((Below.refl w5.heap.size w5).alloc (l0 _) _) 3 rfl hown6 hg6 (fun b hb => by simp only [Value.ownBlock, Option.some.injEq] at hb; subst hb; exact hgg6); have e0 := hR6.cell (i := 1) (j := 1) (u := .slice pa m pc) rfl (by rw [l4, if_neg (by decide)]; exact HC1.out); have e1 := hR6.fz (i := 1) rfl 1; have e2 := (hR6.lt (i := 1) rfl).2; have HR6 := hid hR6; clear hown6 hg6 hgg6 hR6))
   all_goals
     have HR7 := hid (HR6.out.set 1 rfl 1 (.slice (some ⟨g2, 0, none⟩) (m + 1) cap2))
     clear e0 e1 e2 HR6 HR55 KD HVS HR5
     go_wp2_with fail
     go_end0
     refine ⟨rfl, .inr ⟨hlt, .slice (some ⟨g, 0, none⟩) (m + 1) cap, .slice (some ⟨g2, 0, none⟩) (m + 1) cap2, .slice ua n uc, ?_⟩⟩
     exact HR7.out.perm (l6 (a := (⟨3, 1, Value.slice ua n uc, n, ys.flatMap encI⟩ : Rw)) (l₁ := [⟨45, 22, Value.slice (some ⟨bb, 0, none⟩) 1 1, 1, (cs.set 0 (Value.slice (some ⟨g, 0, none⟩) (m + 1) cap)).set 1 (Value.slice (some ⟨g2, 0, none⟩) (m + 1) cap2)⟩, ⟨50, 1, Value.slice (some ⟨g, 0, none⟩) (m + 1) cap, m + 1, vs ++ [Value.slice va n vc]⟩, ⟨50, 1, Value.slice (some ⟨g2, 0, none⟩) (m + 1) cap2, m + 1, us ++ [Value.slice ua n uc]⟩, ⟨3, 1, Value.slice va n vc, n, ys.flatMap encI⟩]) (l₂ := rest)).symm
 · have hltI : ¬ (m : Int) < 400 := by omega
   go_enter func18, ntmps18
   go_wp2_with fail
   go_end0
   exact ⟨rfl, .inl ⟨hlt, rfl⟩⟩
end Go.Proofs.YtbaccmlfnbgehaaGreatDoor

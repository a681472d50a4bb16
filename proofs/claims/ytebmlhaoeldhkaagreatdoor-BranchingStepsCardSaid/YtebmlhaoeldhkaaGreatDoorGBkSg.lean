/-
 Lemmas.
-/
import Derived.Test.YtebmlhaoeldhkaaGreatDoorGBkRg
import Derived.BigRegion
import Derived.Test.YtebmlhaoeldhkaaGreatDoorGBkF
import Derived.Deep.RegionLaw
set_option maxHeartbeats 8000000
set_option maxRecDepth 100000
namespace Go.Proofs.YtebmlhaoeldhkaaGreatDoor
open Go.RowKit Pl
open Lib (hid)
theorem oneS_bk (x : S) : ∀ u ∈ encS x, u.oneCell' = true := by intro u hu; simp [encS] at hu; first | (subst hu; rfl) | (rcases hu with rfl | rfl <;> rfl) | (rcases hu with rfl | rfl | rfl <;> rfl)
theorem oneLS_bk {L : List S} : ∀ u ∈ L.flatMap encS, u.oneCell' = true := fun u hu => by
 obtain ⟨x, _, hx⟩ := List.mem_flatMap.1 hu
 exact oneS_bk x u hx
theorem growS_any {w0 w : World} {bb : Nat} {cs : List Value} {o : Value} {ks rest : List Rw}
   (h : Rws w0 w (⟨46, 22, .slice (some ⟨bb, 0, none⟩) 1 1, 1, cs⟩ :: ⟨78, 1, o, ks.length, ks.map (·.v)⟩ :: (ks ++ rest))) (hc : cs[8]? = some o) (hK : ∀ (i : Nat) (r : Rw), ks[i]? = some r -> r.T = 117 /\ r.k = 2 /\ r.n <= 500000 /\ r.xs = (mkG mS i 0 r.n).flatMap encS) (hl : ks.length <= 400) :
   Calls Tryz.prog 76 #[.pointer (some ⟨bb, 0, none⟩)] w fun e w' => ∃ (gv : Value) (gs : List Value) (G : List Rw), e = .returned gv /\ gs.length = ks.length /\ Rws w0 w' (⟨78, 1, gv, ks.length, gs⟩ :: ⟨46, 22, .slice (some ⟨bb, 0, none⟩) 1 1, 1, cs⟩ :: ⟨78, 1, o, ks.length, ks.map (·.v)⟩ :: (G ++ rest)) /\ GrowOk 2 mS encS ks gs G ks.length := by
 obtain ⟨oa, oc, hov, hoa, _, _, _, _⟩ := h.shape (r := ⟨78, 1, o, ks.length, ks.map (·.v)⟩) (by simp)
 dsimp only at hov hoa
 subst hov
 obtain ⟨m, hm⟩ : ∃ m, m = ks.length := ⟨_, rfl⟩
 rw [<- hm] at h hl hc hoa ⊢
 have H := hid h; have HK := hid hK; have HM := hid hm; have HC := hid hc; have HOA := hid hoa
 have b0 := h.cell (i := 0) rfl hc
 have hbl := (h.lt (i := 0) rfl).2
 clear h hK hm hc hoa
 go_enter Tryz.func76, Tryz.ntmps76
 go_wp2_with fail
 clear b0 hbl
 go_loopw [3, 4, 5, 6] (fun v3 v4 _ _ wr => ∃ (i : Nat) (gs : List Value) (G : List Rw) (gv : Value), gv = v3 /\ v4 = .int .i64 i /\ i <= m /\ gs.length = i /\ Rws w0 wr (⟨78, 1, gv, i, gs⟩ :: ⟨46, 22, .slice (some ⟨bb, 0, none⟩) 1 1, 1, cs⟩ :: ⟨78, 1, .slice oa m oc, m, ks.map (·.v)⟩ :: (G ++ (ks.drop i ++ rest))) /\ GrowOk 2 mS encS ks gs G i) (fun _ v4 _ _ _ => m - (intOf v4).toNat)
 case atStart => exact ⟨0, [], [], _, rfl, rfl, Nat.zero_le _, rfl, H.out.addNil _ _, fun p _ hp => absurd hp (Nat.not_lt_zero _)⟩
 case round =>
   obtain ⟨i, gs, G, v3, rfl, rfl, hi, hgs, hRw, hok⟩ := hrel
   have b0 := hRw.cell (i := 1) rfl HC.out
   have hbl := (hRw.lt (i := 1) rfl).2
   have HGS := hid hgs; have HOK := hid hok
   clear hgs hok
   by_cases hlt : i < m
   · obtain ⟨r, hr⟩ := getElem?_of_lt (xs := ks) (i := i) (by rw [<- HM.out]; exact hlt)
     obtain ⟨ob, rfl⟩ := HOA.out (by omega)
     have b1 := hRw.cell (i := 2) (j := i) (u := r.v) rfl (by simp [hr])
     obtain ⟨T, k, v, n, xs⟩ := r
     obtain ⟨rfl, rfl, hn, hxs⟩ := HK.out _ _ hr
     dsimp only at hxs hn b1
     subst hxs
     have hdrop : ks.drop i = ⟨117, 2, v, n, (mkG mS i 0 n).flatMap encS⟩ :: ks.drop (i + 1) := by
       obtain ⟨hl, he⟩ := List.getElem?_eq_some_iff.1 hr
       rw [List.drop_eq_getElem_cons hl, he]
     have hR0 : Rws w0 wr (⟨117, 2, v, n, (mkG mS i 0 n).flatMap encS⟩ :: ([] ++ (⟨78, 1, v3, i, gs⟩ :: ⟨46, 22, .slice (some ⟨bb, 0, none⟩) 1 1, 1, cs⟩ :: ⟨78, 1, .slice (some ⟨ob, 0, none⟩) m oc, m, ks.map (·.v)⟩ :: (G ++ (ks.drop (i + 1) ++ rest))))) := by
       rw [hdrop] at hRw
       have hpm := List.perm_middle (a := (⟨117, 2, v, n, (mkG mS i 0 n).flatMap encS⟩ : Rw)) (l₁ := ⟨78, 1, v3, i, gs⟩ :: ⟨46, 22, .slice (some ⟨bb, 0, none⟩) 1 1, 1, cs⟩ :: ⟨78, 1, .slice (some ⟨ob, 0, none⟩) m oc, m, ks.map (·.v)⟩ :: G) (l₂ := ks.drop (i + 1) ++ rest)
       exact hRw.perm hpm
     obtain ⟨va, vc, hv, _, _, _, _, _⟩ := hR0.shape (r := ⟨117, 2, v, n, (mkG mS i 0 n).flatMap encS⟩) (by simp)
     dsimp only at hv
     subst hv
     have hP0 := Pre.self hR0 (r := ⟨117, 2, .slice va n vc, n, (mkG mS i 0 n).flatMap encS⟩) (by simp)
     dsimp only at hP0
     have HR0 := hid hR0; have HP0 := hid hP0; have HR := hid hr
     have hin : (i : Int) < (m : Int) := by omega
     clear hRw hdrop hR0 hP0 hr
     go_wp2_with fail
     clear b0 b1 hbl
     go_loopw [5, 6] (fun v5 v6 wr => ∃ (t : Nat) (la : Option Addr) (lc : Nat) (E : List Rw), v6 = .int .i64 t /\ v5 = .slice la (n + t) lc /\ t <= 16 /\ Rws w0 wr (⟨117, 2, .slice la (n + t) lc, n + t, (mkG mS i 0 (n + t)).flatMap encS⟩ :: (E ++ (⟨78, 1, v3, i, gs⟩ :: ⟨46, 22, .slice (some ⟨bb, 0, none⟩) 1 1, 1, cs⟩ :: ⟨78, 1, .slice (some ⟨ob, 0, none⟩) m oc, m, ks.map (·.v)⟩ :: (G ++ (ks.drop (i + 1) ++ rest))))) /\ Pre (⟨117, 2, .slice la (n + t) lc, n + t, (mkG mS i 0 (n + t)).flatMap encS⟩ :: E) 2 (.slice va n vc) n ((mkG mS i 0 n).flatMap encS)) (fun _ v6 _ => 16 - (intOf v6).toNat)
     case atStart => exact ⟨0, va, vc, [], rfl, rfl, Nat.zero_le _, HR0.out, HP0.out⟩
     case round =>
       obtain ⟨t, la, lc, E, rfl, rfl, ht, hRx, hPx⟩ := hrel
       have HRX := hid hRx; have HPX := hid hPx
       clear hRx hPx HR0 HP0
       by_cases hlq : t < 16
       · have htI : (t : Int) < 16 := by omega
         have HMK : Hid (Calls Tryz.prog 147 #[.int .i64 (i : Int), .int .i64 ((n + t : Nat) : Int), .int .i64 1] wr fun e w' => ∃ v, e = .returned v /\ w'.ownsRow wr.heap.size 117 2 v 1 ((mkG mS i (n + t) 1).flatMap encS) /\ Below wr.heap.size wr w') := hid (markS_any (n := 1) (by omega) (by omega) (by omega))
         go_wp2_with fail
         refine HMK.out.mono ?_
         rintro e w3 ⟨mv, rfl, hmo, hmB⟩
         obtain ⟨mg, mc, rfl, _⟩ := hmo.form (by omega)
         have hR3 := HRX.out.call hmB
         have HR3 := hid hR3; have HMO := hid hmo
         clear hmo hmB hR3 HMK
         go_wp2_with (at_builtin; refine wpList_two rfl _ _ 78 rfl rowS (base := w0.heap.size) rfl (HR3.out.get (i := 0) rfl) ⟨mg, 0, none⟩ 1 mc ((mkG mS i (n + t) 1).flatMap encS) rfl (by rw [length_flatMap lenS, mkG_len]) (HMO.out.cells rfl) oneLS_bk (by omega) (by dsimp only; omega) (by dsimp only; unfold maxLen; omega) ?_; intro g cap w4 htwo)
         obtain ⟨X, hR4, hpre⟩ := HR3.out.grow2 htwo
         have HR4 : Hid (Rws w0 w4 (⟨117, 2, .slice (some ⟨g, 0, none⟩) (n + (t + 1)) cap, n + (t + 1), (mkG mS i 0 (n + (t + 1))).flatMap encS⟩ :: ((X ++ E) ++ (⟨78, 1, v3, i, gs⟩ :: ⟨46, 22, .slice (some ⟨bb, 0, none⟩) 1 1, 1, cs⟩ :: ⟨78, 1, .slice (some ⟨ob, 0, none⟩) m oc, m, ks.map (·.v)⟩ :: (G ++ (ks.drop (i + 1) ++ rest)))))) := hid (by
           rw [<- List.flatMap_append, mkG_app0] at hR4
           rw [List.append_assoc]; exact hR4)
         have HP4 : Hid (Pre (⟨117, 2, .slice (some ⟨g, 0, none⟩) (n + (t + 1)) cap, n + (t + 1), (mkG mS i 0 (n + (t + 1))).flatMap encS⟩ :: (X ++ E)) 2 (.slice va n vc) n ((mkG mS i 0 n).flatMap encS)) := hid (by
           rw [<- List.flatMap_append, mkG_app0] at hpre
           exact HPX.out.swap hpre (fun x hx => hx))
         clear htwo hR4 hpre HR3 HMO HRX HPX
         go_wp2_with fail
         go_roundw
         case rel => exact ⟨t + 1, _, _, X ++ E, by go_num, rfl, by omega, HR4.out, HP4.out⟩
         case measure => simp [intOf]; omega
       · obtain rfl : t = 16 := by omega
         have HMK : Hid (Calls Tryz.prog 147 #[.int .i64 (i : Int), .int .i64 ((n + 16 : Nat) : Int), .int .i64 80] wr fun e w' => ∃ v, e = .returned v /\ w'.ownsRow wr.heap.size 117 2 v 80 ((mkG mS i (n + 16) 80).flatMap encS) /\ Below wr.heap.size wr w') := hid (markS_any (n := 80) (by omega) (by omega) (by omega))
         go_wp2_with fail
         refine HMK.out.mono ?_
         rintro e w3 ⟨mv, rfl, hmo, hmB⟩
         obtain ⟨mg, mc, rfl, _⟩ := hmo.form (by omega)
         have hR3 := HRX.out.call hmB
         have HR3 := hid hR3; have HMO := hid hmo
         clear hmo hmB hR3 HMK HRX
         go_wp2_with (first
           | (at_builtin; refine wpList_two rfl _ _ 78 rfl rowS (base := w0.heap.size) rfl (HR3.out.get (i := 0) rfl) ⟨mg, 0, none⟩ 80 mc ((mkG mS i (n + 16) 80).flatMap encS) rfl (by rw [length_flatMap lenS, mkG_len]) (HMO.out.cells rfl) oneLS_bk (by omega) (by dsimp only; omega) (by dsimp only; unfold maxLen; omega) ?_; intro g cap w4 htwo; (obtain ⟨X, hR4, hpre⟩ := HR3.out.grow2 htwo); (rw [<- List.flatMap_append, mkG_app0] at hR4 hpre); have HR4 : Hid (Rws w0 w4 (⟨78, 1, v3, i, gs⟩ :: ⟨46, 22, .slice (some ⟨bb, 0, none⟩) 1 1, 1, cs⟩ :: ⟨78, 1, .slice (some ⟨ob, 0, none⟩) m oc, m, ks.map (·.v)⟩ :: ((G ++ (⟨117, 2, .slice (some ⟨g, 0, none⟩) (n + 16 + 80) cap, n + 16 + 80, (mkG mS i 0 (n + 16 + 80)).flatMap encS⟩ :: (X ++ E))) ++ (ks.drop (i + 1) ++ rest)))) := hid (hR4.perm (by rw [<- List.append_assoc]; exact perm_rot (_ :: (X ++ E)) [⟨78, 1, v3, i, gs⟩, ⟨46, 22, .slice (some ⟨bb, 0, none⟩) 1 1, 1, cs⟩, ⟨78, 1, .slice (some ⟨ob, 0, none⟩) m oc, m, ks.map (·.v)⟩] G (ks.drop (i + 1) ++ rest))); have HPR := hid hpre; clear htwo hR4 hpre HR3 HMO)
           | (at_builtin; refine wpList_lie rfl _ _ 38 rfl rowSS_bk (base := w0.heap.size) (by have := HR4.out.bel.size; simp; omega) rfl ((HR4.out.alloc _).get (i := 0) rfl) ⟨w4.heap.size, 0, none⟩ 1 1 [.slice (some ⟨g, 0, none⟩) (n + 16 + 80) cap] rfl rfl (cells1 (by simp [go_sem])) (by simp [Value.oneCell']) (by omega) (by dsimp only; omega) (by dsimp only; unfold maxLen; omega) w4.heap.size (by simp) ?_; intro g2 cap2 w6 hown6 hg6 hgg6 _))
         have HR6 : Hid (Rws w0 w6 (⟨78, 1, .slice (some ⟨g2, 0, none⟩) (i + 1) cap2, i + 1, gs ++ [.slice (some ⟨g, 0, none⟩) (n + 16 + 80) cap]⟩ :: ⟨46, 22, .slice (some ⟨bb, 0, none⟩) 1 1, 1, cs⟩ :: ⟨78, 1, .slice (some ⟨ob, 0, none⟩) m oc, m, ks.map (·.v)⟩ :: ((G ++ (⟨117, 2, .slice (some ⟨g, 0, none⟩) (n + 16 + 80) cap, n + 16 + 80, (mkG mS i 0 (n + 16 + 80)).flatMap encS⟩ :: (X ++ E))) ++ (ks.drop (i + 1) ++ rest)))) := hid (HR4.out.grown ((Below.refl w4.heap.size w4).alloc (Nat.le_refl _) _) 0 rfl hown6 hg6 (fun b hb => by simp only [Value.ownBlock, Option.some.injEq] at hb; subst hb; exact hgg6))
         clear hown6 hg6 hgg6
         go_wp2_with fail
         go_roundw
         case rel => exact ⟨i + 1, gs ++ [.slice (some ⟨g, 0, none⟩) (n + 16 + 80) cap], G ++ (⟨117, 2, .slice (some ⟨g, 0, none⟩) (n + 16 + 80) cap, n + 16 + 80, (mkG mS i 0 (n + 16 + 80)).flatMap encS⟩ :: (X ++ E)), _, rfl, by go_num, by omega, by simp [HGS.out], HR6.out, HOK.out.step HGS.out HR.out (by
           exact ⟨_, List.mem_cons_self, rfl, _, _, _, rfl, rfl, Nat.le_refl _, List.take_of_length_le (by rw [length_flatMap lenS, mkG_len]; exact Nat.le_refl _)⟩) (HPX.out.swap HPR.out (fun x hx => hx))⟩
         case measure => simp [intOf]; omega
   · obtain rfl : m = i := by omega
     have HRW := hid hRw
     clear hRw
     go_wp2_with fail
     go_ret
     refine ⟨_, gs, G, rfl, HGS.out, ?_, HOK.out⟩
     have := HRW.out
     rw [List.drop_of_length_le (by rw [<- HM.out]; exact Nat.le_refl _)] at this
     exact this
end Go.Proofs.YtebmlhaoeldhkaaGreatDoor
namespace Go.Proofs.YtebmlhaoeldhkaaGreatDoor
open Go.RowKit Pl
open Lib (hid)
theorem putS_any {w0 w : World} {bb : Nat} {cs : List Value} {o : Value} {ks rest : List Rw}
   (h : Rws w0 w (⟨46, 22, .slice (some ⟨bb, 0, none⟩) 1 1, 1, cs⟩ :: ⟨78, 1, o, ks.length, ks.map (·.v)⟩ :: (ks ++ rest))) (hc : cs[8]? = some o) (hK : ∀ r ∈ ks, r.T = 117 /\ r.k = 2 /\ r.n <= 500000) (hl : ks.length <= 400) :
   Calls Tryz.prog 65 #[.pointer (some ⟨bb, 0, none⟩)] w fun e w' => e = .returned (.tuple #[]) /\ Rws w0 w' (⟨46, 22, .slice (some ⟨bb, 0, none⟩) 1 1, 1, cs⟩ :: ⟨78, 1, o, ks.length, ks.map (·.v)⟩ :: (mkAll mS encS ks ++ rest)) := by
 obtain ⟨oa, oc, hov, hoa, _, _, _, _⟩ := h.shape (r := ⟨78, 1, o, ks.length, ks.map (·.v)⟩) (by simp)
 dsimp only at hov hoa
 subst hov
 obtain ⟨m, hm⟩ : ∃ m, m = ks.length := ⟨_, rfl⟩
 rw [<- hm] at h hl hc hoa ⊢
 have H := hid h; have HK := hid hK; have HM := hid hm; have HC := hid hc; have HOA := hid hoa
 have b0 := h.cell (i := 0) rfl hc
 have hbl := (h.lt (i := 0) rfl).2
 clear h hK hm hc hoa
 go_enter Tryz.func65, Tryz.ntmps65
 go_wp2_with fail
 clear b0 hbl
 go_loopw [2, 3, 4] (fun v2 _ _ wr => ∃ i : Nat, v2 = .int .i64 i /\ i <= m /\ Rws w0 wr (⟨46, 22, .slice (some ⟨bb, 0, none⟩) 1 1, 1, cs⟩ :: ⟨78, 1, .slice oa m oc, m, ks.map (·.v)⟩ :: (mkAt mS encS 2 ks i 0 ++ rest))) (fun v2 _ _ _ => m - (intOf v2).toNat)
 case atStart => exact ⟨0, rfl, Nat.zero_le _, by rw [mkAt_zero]; exact H.out⟩
 case round =>
   obtain ⟨i, rfl, hi, hRw⟩ := hrel
   have HRW := hid hRw
   have b0 := hRw.cell (i := 0) rfl HC.out
   have hbl := (hRw.lt (i := 0) rfl).2
   by_cases hlt : i < m
   · obtain ⟨r, hr⟩ := getElem?_of_lt (xs := ks) (i := i) (by rw [<- HM.out]; exact hlt)
     obtain ⟨ob, rfl⟩ := HOA.out (by omega)
     have b1 := hRw.cell (i := 1) (j := i) (u := r.v) rfl (by simp [hr])
     have hrm := List.mem_of_getElem? hr
     obtain ⟨T, k, v, n, xs⟩ := r
     obtain ⟨rfl, rfl, hn⟩ := HK.out _ hrm
     obtain ⟨va, vc, hv, hva, _, _, _, hX⟩ := H.out.shape (r := ⟨117, 2, v, n, xs⟩) (by simp [hrm])
     dsimp only at b1 hn hv hva hX
     subst hv
     have hin : (i : Int) < (m : Int) := by omega
     have HMK := hid (markS_any (w := wr) (i := i) (k := 0) (n := n) (by omega) (by omega) (by omega))
     have HR := hid hr; have HVA := hid hva; have HX := hid hX
     clear hRw hrm hr hva hX
     go_wp2_with fail
     refine HMK.out.mono ?_
     rintro e w3 ⟨mv, rfl, hmo, hmB⟩
     have hR3 := HRW.out.add hmB hmo
     obtain ⟨ma, mc, hmv, hma, _, _, _, _⟩ := hR3.shape (r := ⟨117, 2, mv, n, (mkG mS i 0 n).flatMap encS⟩) (by simp)
     dsimp only at hmv hma
     subst hmv
     have HR3 := hid hR3; have HMA := hid hma
     clear hR3 hmo hmB hma HMK HRW b0 b1 hbl
     go_wp2_with fail
     go_loopw [4] (fun v4 wr => ∃ q : Nat, v4 = .int .i64 q /\ q <= n /\ Rws w0 wr (⟨117, 2, .slice ma n mc, n, (mkG mS i 0 n).flatMap encS⟩ :: ⟨46, 22, .slice (some ⟨bb, 0, none⟩) 1 1, 1, cs⟩ :: ⟨78, 1, .slice (some ⟨ob, 0, none⟩) m oc, m, ks.map (·.v)⟩ :: (mkAt mS encS 2 ks i q ++ rest))) (fun v4 _ => n - (intOf v4).toNat)
     case atStart => exact ⟨0, rfl, Nat.zero_le _, HR3.out⟩
     case round =>
       obtain ⟨q, rfl, hq, hRx⟩ := hrel
       by_cases hlq : q < n
       · obtain ⟨mg, rfl⟩ := HMA.out (by omega)
         obtain ⟨vg, rfl⟩ := HVA.out (by omega)
         have b0 := hRx.cell (i := 1) rfl HC.out
         have b1 := hRx.cell (i := 2) (j := i) (u := .slice (some ⟨vg, 0, none⟩) n vc) rfl (by simp [HR.out])
         have hqn : (q : Int) < (n : Int) := by omega
         have m0 := hRx.cell (i := 0) (j := q * 2 + 0) rfl (getElem?_flatMap lenS (mkG mS i 0 n) q _ (mkG_get hlq) 0 _ rfl)
         obtain ⟨⟨u0, x0⟩, y0, z0⟩ := hRx.putOld (j := 0) HR.out HX.out hlq lenS (by decide)
         have m1 := hRx.cell (i := 0) (j := q * 2 + 1) rfl (getElem?_flatMap lenS (mkG mS i 0 n) q _ (mkG_get hlq) 1 _ rfl)
         obtain ⟨⟨u1, x1⟩, y1, z1⟩ := hRx.putOld (j := 1) HR.out HX.out hlq lenS (by decide)
         simp only [Nat.add_zero, Nat.zero_add, mS] at m0 x0 y0 m1 x1 y1
         have HRX := hid hRx
         clear hRx HR3
         go_wp2_with fail
         go_region
         go_wp2_with fail
         go_roundw
         case rel => exact ⟨q + 1, by go_num, by omega, by have := HRX.out.putAt2 HR.out HX.out hlq lenS (show encS (mS i q) = [_, _] from rfl); have := this.drew; simpa [Nat.mul_one, mS] using this⟩
         case measure => simp [intOf]; omega
       · obtain rfl : n = q := by omega
         have HR4 : Hid (Rws w0 wr (⟨46, 22, .slice (some ⟨bb, 0, none⟩) 1 1, 1, cs⟩ :: ⟨78, 1, .slice (some ⟨ob, 0, none⟩) m oc, m, ks.map (·.v)⟩ :: (mkAt mS encS 2 ks (i + 1) 0 ++ rest))) := hid (by
           have := hRx.sub (List.sublist_cons_self _ _)
           rw [mkAt_next HR.out HX.out] at this
           exact this)
         clear hRx
         go_wp2_with fail
         go_roundw
         case rel => exact ⟨i + 1, by go_num, by omega, HR4.out⟩
         case measure => simp [intOf]; omega
   · obtain rfl : m = i := by omega
     clear hRw
     go_wp2_with fail
     go_end0
     refine ⟨rfl, ?_⟩
     have := HRW.out
     rw [mkAt_end (by rw [<- HM.out]; exact Nat.le_refl _)] at this
     exact this
end Go.Proofs.YtebmlhaoeldhkaaGreatDoor
namespace Go.Proofs.YtebmlhaoeldhkaaGreatDoor
open Go.RowKit Pl
open Lib (hid)
theorem oneS_bka (x : S) : ∀ u ∈ encS x, u.oneCell' = true := by intro u hu; simp [encS] at hu; first | (subst hu; rfl) | (rcases hu with rfl | rfl <;> rfl) | (rcases hu with rfl | rfl | rfl <;> rfl)
theorem addS_any {w0 w : World} {bb n m : Nat} {cs : List Value} {o p v : Value} {vs us : List Value} {ys : List S} {rest : List Rw}
   (h : Rws w0 w (⟨46, 22, .slice (some ⟨bb, 0, none⟩) 1 1, 1, cs⟩ :: ⟨78, 1, o, m, vs⟩ :: ⟨78, 1, p, m, us⟩ :: ⟨117, 2, v, n, ys.flatMap encS⟩ :: rest)) (hcl : cs.length = 22) (hc : cs[8]? = some o) (hc1 : cs[9]? = some p) (hn : n = ys.length) (hnm : n <= 500000) (hm : m <= 400) (hv1 : v.oneCell' = true) :
   Calls Tryz.prog 105 #[.pointer (some ⟨bb, 0, none⟩), v] w fun e w' => e = .returned (.tuple #[]) /\ AddP w0 w w' 117 78 2 bb 8 9 m n cs vs us v (ys.flatMap encS) rest := by
 obtain ⟨oa, oc, hov, _, _, _, _, _⟩ := h.shape (r := ⟨78, 1, o, m, vs⟩) (by simp)
 obtain ⟨pa, pc, hpv, _, _, _, _, _⟩ := h.shape (r := ⟨78, 1, p, m, us⟩) (by simp)
 dsimp only at hov hpv
 subst hov hpv
 have b0 := h.cell (i := 0) rfl hc
 have f0 := h.fz (i := 0) rfl 8
 have hbl := (h.lt (i := 0) rfl).2
 by_cases hlt : m < 400
 · have hltI : (m : Int) < 400 := by omega
   have hltB : decide ((m : Int) < 400) = true := by simp [hltI]
   obtain ⟨va, vc, hvv, _⟩ := h.shape (r := ⟨117, 2, v, n, ys.flatMap encS⟩) (by simp)
   dsimp only at hvv
   subst hvv
   have H := hid h; have HC1 := hid hc1; have HN := hid hn; have HC := hid hc; have HCL := hid hcl
   have hsz := h.bel.size
   clear h hc1 hn hc hv1 hcl
   go_enter Tryz.func105, Tryz.ntmps105
   go_wp2_with (at_builtin; refine wpList_lie rfl _ _ 38 rfl rowSS_bk (base := w0.heap.size) (by simp; omega) rfl ((H.out.alloc _).get (i := 1) rfl) ⟨w.heap.size, 0, none⟩ 1 1 [.slice va n vc] rfl rfl (cells1 (by simp [go_sem])) (by simp [Value.oneCell']) (by decide) (by dsimp only; omega) (by dsimp only; unfold maxLen; omega) w.heap.size (by simp) ?_; intro g cap w4 hown4 hg4 hgg4 hlt4; have hR4 := H.out.grown ((Below.refl w.heap.size w).alloc (Nat.le_refl _) _) 1 rfl hown4 hg4 (fun b hb => by simp only [Value.ownBlock, Option.some.injEq] at hb; subst hb; exact hgg4); have c0 := hR4.cell (i := 0) rfl HC.out; have c1 := hR4.fz (i := 0) rfl 8; have c2 := (hR4.lt (i := 0) rfl).2; have HR4 := hid hR4; clear hown4 hg4 hgg4 hlt4 hR4)
   obtain ⟨W, hW⟩ : ∃ W, W = w4.setCell ⟨bb, 8, none⟩ (.slice (some ⟨g, 0, none⟩) (m + 1) cap) := ⟨_, rfl⟩
   have HR5 : Hid (Rws w0 W (⟨46, 22, .slice (some ⟨bb, 0, none⟩) 1 1, 1, cs.set 8 (.slice (some ⟨g, 0, none⟩) (m + 1) cap)⟩ :: ⟨78, 1, .slice (some ⟨g, 0, none⟩) (m + 1) cap, m + 1, vs ++ [.slice va n vc]⟩ :: ⟨78, 1, .slice pa m pc, m, us⟩ :: ⟨117, 2, .slice va n vc, n, ys.flatMap encS⟩ :: rest)) := hid (by
     have := HR4.out.set 0 rfl 8 (.slice (some ⟨g, 0, none⟩) (m + 1) cap)
     rw [hW]; exact this)
   rw [<- hW]
   have d0 := HR5.out.cell (i := 0) (j := 9) (u := .slice pa m pc) rfl (by rw [List.getElem?_set, if_neg (by decide)]; exact HC1.out)
   have d1 := HR5.out.fz (i := 0) rfl 9
   have d2 := (HR5.out.lt (i := 0) rfl).2
   have hsW := HR5.out.bel.size
   obtain ⟨va2, vc2, vb2, hv2, _, _, hvs, _⟩ := HR5.out.sl (i := 3) rfl lenS HN.out
   simp only [Value.slice.injEq] at hv2
   obtain ⟨rfl, hnl, rfl⟩ := hv2
   have HVS := hid hvs
   clear hnl hW HR4 H hvs c0 c1 c2 b0 f0 hbl
   have KD : Hid (∀ V, Below W.heap.size W V -> V.cell? ⟨bb, 9, none⟩ = some (.slice pa m pc) /\ V.frozen? ⟨bb, 9, none⟩ = false /\ bb < V.heap.size) := hid (fun V hV => by
     have hb := hV.block bb d2
     exact ⟨by rw [hV.cell (p := ⟨bb, 9, none⟩) d2]; exact d0, by rw [World.frozen?_of_block (w := W) (a := ⟨bb, 9, none⟩) hb]; exact d1, Nat.lt_of_lt_of_le d2 hV.size⟩)
   go_wp2_with fail
   go_region_law (first
     | (refine step_appS rfl _ _ _ rfl rowS (base := W.heap.size) (by simp) rfl (World.ownsRow_nil _ _ _ _) (ys := ys) lenS (fun u hu => by obtain ⟨x, _, hx⟩ := List.mem_flatMap.1 hu; exact oneS_bka x u hx) (HVS.out.below (bdrew (n := 1) (Below.refl _ _)) (Nat.le_refl _)) (by rw [<- HN.out]; rfl) (by rw [<- HN.out]; omega) (by rw [<- HN.out]; unfold maxLen; omega) ?_; intro u w5 hown5 hg5; rw [<- HN.out] at hown5; obtain ⟨ua, uc, rfl⟩ := own_sl hown5; have hB5 : Below W.heap.size W w5 := (bdrew (n := 1) (Below.refl _ _)).grown hg5 (by simp) (fun k hk => by cases hk); obtain ⟨e0, e1, e2⟩ := KD.out _ hB5; have hs5 := hB5.size; have HR55 := hid (HR5.out.add hB5 (by rw [Nat.zero_add, List.nil_append] at hown5; exact hown5)); clear hown5 hg5 hB5)
     | (refine step_lie rfl _ _ _ rfl rowSS_bk (base := w0.heap.size) (by simp; omega) rfl ((HR55.out.alloc _).get (i := 3) rfl) ⟨w5.heap.size, 0, none⟩ 1 1 [.slice ua n uc] rfl rfl (cells1 (by simp [go_sem])) (by simp [Value.oneCell']) (by decide) (by dsimp only; omega) (by dsimp only; unfold maxLen; omega) w5.heap.size (by simp) ?_; intro g2 cap2 w6 hown6 hg6 hgg6 hlt6; have hR6 := HR55.out.grown ((Below.refl w5.heap.size w5).alloc (Nat.le_refl _) _) 3 rfl hown6 hg6 (fun b hb => by simp only [Value.ownBlock, Option.some.injEq] at hb; subst hb; exact hgg6); have e0 := hR6.cell (i := 1) (j := 9) (u := .slice pa m pc) rfl (by rw [List.getElem?_set, if_neg (by decide)]; exact HC1.out); have e1 := hR6.fz (i := 1) rfl 9; have e2 := (hR6.lt (i := 1) rfl).2; have HR6 := hid hR6; clear hown6 hg6 hgg6 hR6))
   all_goals
     have HR7 := hid (HR6.out.set 1 rfl 9 (.slice (some ⟨g2, 0, none⟩) (m + 1) cap2))
     clear e0 e1 e2 HR6 HR55 KD HVS HR5
     go_wp2_with fail
     go_end0
     refine ⟨rfl, .inr ⟨hlt, .slice (some ⟨g, 0, none⟩) (m + 1) cap, .slice (some ⟨g2, 0, none⟩) (m + 1) cap2, .slice ua n uc, ?_⟩⟩
     exact HR7.out.perm (List.perm_middle (a := (⟨117, 2, Value.slice ua n uc, n, ys.flatMap encS⟩ : Rw)) (l₁ := [⟨46, 22, Value.slice (some ⟨bb, 0, none⟩) 1 1, 1, (cs.set 8 (Value.slice (some ⟨g, 0, none⟩) (m + 1) cap)).set 9 (Value.slice (some ⟨g2, 0, none⟩) (m + 1) cap2)⟩, ⟨78, 1, Value.slice (some ⟨g, 0, none⟩) (m + 1) cap, m + 1, vs ++ [Value.slice va n vc]⟩, ⟨78, 1, Value.slice (some ⟨g2, 0, none⟩) (m + 1) cap2, m + 1, us ++ [Value.slice ua n uc]⟩, ⟨117, 2, Value.slice va n vc, n, ys.flatMap encS⟩]) (l₂ := rest)).symm
 · have hltI : ¬ (m : Int) < 400 := by omega
   go_enter Tryz.func105, Tryz.ntmps105
   go_wp2_with fail
   go_end0
   exact ⟨rfl, .inl ⟨hlt, rfl⟩⟩
end Go.Proofs.YtebmlhaoeldhkaaGreatDoor

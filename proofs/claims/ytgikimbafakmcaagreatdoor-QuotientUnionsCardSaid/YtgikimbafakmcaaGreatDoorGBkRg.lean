/-
  Lemmas.
-/
import Derived.Test.YtgikimbafakmcaaGreatDoorGBkN
import Derived.Test.YtgikimbafakmcaaGreatDoorGBkB
import Derived.BigRegion
import Derived.Test.YtgikimbafakmcaaGreatDoorGParD
import Derived.Test.YtgikimbafakmcaaGreatDoorGGraphA
import Derived.Test.YtgikimbafakmcaaGreatDoorGFault
import Derived.Deep.RegionHeld3
import Derived.Deep.Cut
import Derived.Deep.CutRange
import Derived.Deep.QuietTactic
import Derived.BigQuiet
import Derived.IntWalk
import Derived.Deep.DeepMust
set_option maxHeartbeats 8000000
set_option maxRecDepth 100000
namespace Go.Proofs.YtgikimbafakmcaaGreatDoor
open Go.RowKit Pl
open Lib (hid)
theorem rowRO_bk : IsRow Tryz.prog 40 32 1 24 (.slice none 0 0) := isRow_of Tryz.underlying40 (by kernel_rfl) rfl (by decide)
def GrowOkR (M : List Rw) (ks : List Rw) (gs : List Value) (G : List Rw) (i : Nat) : Prop :=
  ∀ (p : Nat) (r : Rw), p < i -> ks[p]? = some r -> (∃ (v' : Value) (cs : List Value), gs[p]? = some v' /\ cs.length = r.n + 96 /\ Pre G 1 v' (r.n + 96) cs /\ MkInR M p 0 cs) /\ Pre G 1 r.v r.n r.xs
theorem GrowOkR.step {M M' : List Rw} {ks : List Rw} {gs : List Value} {G E : List Rw} {i : Nat} (h : GrowOkR M ks gs G i) (hM : ∀ r ∈ M, r ∈ M') (hg : gs.length = i) {r : Rw} (hr : ks[i]? = some r) {v' : Value} {cs : List Value} (hc : cs.length = r.n + 96)
    (h1 : Pre E 1 v' (r.n + 96) cs) (h2 : Pre E 1 r.v r.n r.xs) (h3 : MkInR M' i 0 cs) : GrowOkR M' ks (gs ++ [v']) (G ++ E) (i + 1) := by
 intro p r' hp hr'
 by_cases e : p = i
 · subst e
   rw [hr] at hr'
   cases hr'
   exact ⟨⟨v', cs, by rw [List.getElem?_append_right (by omega)]; simp [hg], hc, h1.mono (fun x hx => List.mem_append_right _ hx), h3⟩, h2.mono (fun x hx => List.mem_append_right _ hx)⟩
 · obtain ⟨⟨v2, c2, h3, h4, h5, h6⟩, h7⟩ := h p r' (by omega) hr'
   exact ⟨⟨v2, c2, by rw [List.getElem?_append_left (by omega)]; exact h3, h4, h5.mono (fun x hx => List.mem_append_left _ hx), h6.mono hM⟩, h7.mono (fun x hx => List.mem_append_left _ hx)⟩
theorem MkInR.one {N L : List Rw} {w0 w : World} {i k : Nat} {cs : List Value} (h : MkInR N i k cs) (hR : Rws w0 w L) (hs : ∀ r ∈ N, r ∈ L) : ∀ u ∈ cs, u.oneCell' = true := fun u hu => by
  obtain ⟨j, hj⟩ := List.getElem?_of_mem hu
  obtain ⟨r, h1, _, _, rfl, _, _⟩ := h j u hj
  obtain ⟨a, c, hv, _⟩ := hR.shape (hs r h1)
  rw [hv]; rfl
theorem growR_any {w0 w : World} {bb : Nat} {cs : List Value} {o : Value} {ks rest M : List Rw}
    (h : Rws w0 w (⟨44, 22, .slice (some ⟨bb, 0, none⟩) 1 1, 1, cs⟩ :: ⟨32, 1, o, ks.length, ks.map (·.v)⟩ :: (ks ++ rest))) (hc : cs[16]? = some o) (hK : ∀ (i : Nat) (r : Rw), ks[i]? = some r -> r.T = 58 /\ r.k = 1 /\ r.n <= 500000 /\ MkInR M i 0 r.xs) (hl : ks.length <= 400) :
    Calls Tryz.prog 55 #[.pointer (some ⟨bb, 0, none⟩)] w fun e w' => ∃ (gv : Value) (gs : List Value) (G N : List Rw), e = .returned gv /\ gs.length = ks.length /\ Rws w0 w' (⟨32, 1, gv, ks.length, gs⟩ :: ⟨44, 22, .slice (some ⟨bb, 0, none⟩) 1 1, 1, cs⟩ :: ⟨32, 1, o, ks.length, ks.map (·.v)⟩ :: (G ++ (N ++ rest))) /\ GrowOkR (M ++ N) ks gs G ks.length := by
 obtain ⟨oa, oc, hov, hoa, _, _, _, _⟩ := h.shape (r := ⟨32, 1, o, ks.length, ks.map (·.v)⟩) (by simp)
 dsimp only at hov hoa
 subst hov
 obtain ⟨m, hm⟩ : ∃ m, m = ks.length := ⟨_, rfl⟩
 rw [<- hm] at h hl hc hoa ⊢
 have H := hid h; have HK := hid hK; have HM := hid hm; have HC := hid hc; have HOA := hid hoa
 have b0 := h.cell (i := 0) rfl hc
 have hbl := (h.lt (i := 0) rfl).2
 clear h hK hm hc hoa
 go_enter Tryz.func55, Tryz.ntmps55
 go_wp2_with fail
 clear b0 hbl
 go_loopw [3, 4, 5, 6] (fun v3 v4 _ _ wr => ∃ (i : Nat) (gs : List Value) (G N : List Rw) (gv : Value), gv = v3 /\ v4 = .int .i64 i /\ i <= m /\ gs.length = i /\ Rws w0 wr (⟨32, 1, gv, i, gs⟩ :: ⟨44, 22, .slice (some ⟨bb, 0, none⟩) 1 1, 1, cs⟩ :: ⟨32, 1, .slice oa m oc, m, ks.map (·.v)⟩ :: (G ++ (ks.drop i ++ (N ++ rest)))) /\ GrowOkR (M ++ N) ks gs G i) (fun _ v4 _ _ _ => m - (intOf v4).toNat)
 case atStart => exact ⟨0, [], [], [], _, rfl, rfl, Nat.zero_le _, rfl, H.out.addNil _ _, fun p _ hp => absurd hp (Nat.not_lt_zero _)⟩
 case round => (
 obtain ⟨i, gs, G, N, v3, rfl, rfl, hi, hgs, hRw, hok⟩ := hrel
 have b0 := hRw.cell (i := 1) rfl HC.out
 have hbl := (hRw.lt (i := 1) rfl).2
 have HGS := hid hgs; have HOK := hid hok
 clear hgs hok
 by_cases hlt : i < m
 · (
 obtain ⟨r, hr⟩ := getElem?_of_lt (xs := ks) (i := i) (by rw [<- HM.out]; exact hlt)
 obtain ⟨ob, rfl⟩ := HOA.out (by omega)
 have b1 := hRw.cell (i := 2) (j := i) (u := r.v) rfl (by simp [hr])
 obtain ⟨T, k, v, n, xs⟩ := r
 obtain ⟨rfl, rfl, hn, hxs⟩ := HK.out _ _ hr
 dsimp only at hxs hn b1
 have hdrop : ks.drop i = ⟨58, 1, v, n, xs⟩ :: ks.drop (i + 1) := by
   obtain ⟨hl, he⟩ := List.getElem?_eq_some_iff.1 hr
   rw [List.drop_eq_getElem_cons hl, he]
 have hR0 : Rws w0 wr (⟨58, 1, v, n, xs⟩ :: ([] ++ (⟨32, 1, v3, i, gs⟩ :: ⟨44, 22, .slice (some ⟨bb, 0, none⟩) 1 1, 1, cs⟩ :: ⟨32, 1, .slice (some ⟨ob, 0, none⟩) m oc, m, ks.map (·.v)⟩ :: (G ++ (ks.drop (i + 1) ++ (N ++ rest)))))) := by (
 rw [hdrop] at hRw
 have hpm := List.perm_middle (a := (⟨58, 1, v, n, xs⟩ : Rw)) (l₁ := ⟨32, 1, v3, i, gs⟩ :: ⟨44, 22, .slice (some ⟨bb, 0, none⟩) 1 1, 1, cs⟩ :: ⟨32, 1, .slice (some ⟨ob, 0, none⟩) m oc, m, ks.map (·.v)⟩ :: G) (l₂ := ks.drop (i + 1) ++ (N ++ rest))
 exact hRw.perm hpm)
 obtain ⟨va, vc, hv, _, _, _, _, hxl⟩ := hR0.shape (r := ⟨58, 1, v, n, xs⟩) (by simp)
 dsimp only at hv hxl
 subst hv
 have hP0 := Pre.self hR0 (r := ⟨58, 1, .slice va n vc, n, xs⟩) (by simp)
 dsimp only at hP0
 have HR0 := hid hR0; have HP0 := hid hP0; have HR := hid hr; have HXL := hid hxl; have HXS := hid hxs
 have hin : (i : Int) < (m : Int) := by omega
 clear hRw hdrop hR0 hP0 hr hxl hxs
 go_wp2_with fail
 clear b0 b1 hbl
 go_loopw [5, 6] (fun v5 v6 wr => ∃ (t : Nat) (la : Option Addr) (lc : Nat) (E Z : List Rw) (ds : List Value), v6 = .int .i64 t /\ v5 = .slice la (n + t) lc /\ t <= 16 /\ ds.length = n + t /\ Rws w0 wr (⟨58, 1, .slice la (n + t) lc, n + t, ds⟩ :: (E ++ (⟨32, 1, v3, i, gs⟩ :: ⟨44, 22, .slice (some ⟨bb, 0, none⟩) 1 1, 1, cs⟩ :: ⟨32, 1, .slice (some ⟨ob, 0, none⟩) m oc, m, ks.map (·.v)⟩ :: (G ++ (ks.drop (i + 1) ++ ((N ++ Z) ++ rest)))))) /\ Pre (⟨58, 1, .slice la (n + t) lc, n + t, ds⟩ :: E) 1 (.slice va n vc) n xs /\ MkInR (M ++ (N ++ Z)) i 0 ds) (fun _ v6 _ => 16 - (intOf v6).toNat)
 case atStart => exact ⟨0, va, vc, [], [], xs, rfl, rfl, Nat.zero_le _, by have := HXL.out; omega, by rw [List.append_nil]; exact HR0.out, HP0.out, HXS.out.mono (fun x hx => List.mem_append_left _ hx)⟩
 case round => (
 obtain ⟨t, la, lc, E, Z, ds, rfl, rfl, ht, hdl, hRx, hPx, hMx⟩ := hrel
 have HRX := hid hRx; have HPX := hid hPx; have HMX := hid hMx; have HDL := hid hdl
 clear hRx hPx HR0 HP0 hMx hdl
 by_cases hlq : t < 16
 · (
 have htI : (t : Int) < 16 := by omega
 have HMK : Hid (Calls Tryz.prog 95 #[.int .i64 (i : Int), .int .i64 ((n + t : Nat) : Int), .int .i64 1] wr fun e w' => ∃ (v : Value) (cs : List Value) (N : List Rw), e = .returned v /\ cs.length = 1 /\ Rws wr w' (⟨58, 1, v, 1, cs⟩ :: N) /\ MkInR N i (n + t) cs) := hid (markR_any (n := 1) (by omega) (by omega) (by omega))
 go_wp2_with fail
 refine HMK.out.mono ?_
 rintro e w3 ⟨mv, ms, N2, rfl, hml, hmo, hmM⟩
 have hmw : w3.ownsRow wr.heap.size 58 1 mv 1 ms := hmo.get (i := 0) rfl
 obtain ⟨mg, mc, rfl, _⟩ := hmw.form (by omega)
 have HR3 : Hid (Rws w0 w3 (⟨58, 1, .slice la (n + t) lc, n + t, ds⟩ :: (E ++ (⟨32, 1, v3, i, gs⟩ :: ⟨44, 22, .slice (some ⟨bb, 0, none⟩) 1 1, 1, cs⟩ :: ⟨32, 1, .slice (some ⟨ob, 0, none⟩) m oc, m, ks.map (·.v)⟩ :: (G ++ (ks.drop (i + 1) ++ ((N ++ (Z ++ N2)) ++ rest))))))) := hid (((HRX.out.join hmo).sub (List.sublist_cons_self _ _)).perm (by (
 have hp := perm_rot N2 (⟨58, 1, .slice la (n + t) lc, n + t, ds⟩ :: (E ++ (⟨32, 1, v3, i, gs⟩ :: ⟨44, 22, .slice (some ⟨bb, 0, none⟩) 1 1, 1, cs⟩ :: ⟨32, 1, .slice (some ⟨ob, 0, none⟩) m oc, m, ks.map (·.v)⟩ :: (G ++ ks.drop (i + 1))))) (N ++ Z) rest
 simp only [List.append_assoc, List.cons_append] at hp ⊢
 exact hp)))
 have HMO := hid hmw; have HML := hid hml; have HM1 := hid (hmM.one hmo (fun r hr => List.mem_cons_of_mem _ hr))
 have HM2 : Hid (MkInR (M ++ (N ++ (Z ++ N2))) i 0 (ds ++ ms)) := hid ((HMX.out.mono (fun x hx => by simp only [List.mem_append] at hx ⊢; rcases hx with h | h | h <;> simp [h])).app (by
   rw [Nat.zero_add, HDL.out]
   exact hmM.mono (fun x hx => by simp only [List.mem_append]; exact .inr (.inr (.inr hx)))))
 clear hmo hmw HMK hmM hml
 go_wp2_with (at_builtin; refine wpList_two rfl _ _ 32 rfl rowII_bk (base := w0.heap.size) rfl (HR3.out.get (i := 0) rfl) ⟨mg, 0, none⟩ 1 mc ms rfl (by rw [HML.out]) (HMO.out.cells rfl) HM1.out (by omega) (by dsimp only; omega) (by dsimp only; unfold maxLen; omega) ?_; intro g cap w4 htwo)
 obtain ⟨X, hR4, hpre⟩ := HR3.out.grow2 htwo
 have HR4 : Hid (Rws w0 w4 (⟨58, 1, .slice (some ⟨g, 0, none⟩) (n + (t + 1)) cap, n + (t + 1), ds ++ ms⟩ :: ((X ++ E) ++ (⟨32, 1, v3, i, gs⟩ :: ⟨44, 22, .slice (some ⟨bb, 0, none⟩) 1 1, 1, cs⟩ :: ⟨32, 1, .slice (some ⟨ob, 0, none⟩) m oc, m, ks.map (·.v)⟩ :: (G ++ (ks.drop (i + 1) ++ ((N ++ (Z ++ N2)) ++ rest))))))) := hid (by
   rw [List.append_assoc]; exact hR4)
 have HP4 : Hid (Pre (⟨58, 1, .slice (some ⟨g, 0, none⟩) (n + (t + 1)) cap, n + (t + 1), ds ++ ms⟩ :: (X ++ E)) 1 (.slice va n vc) n xs) := hid (HPX.out.swap hpre (fun x hx => hx))
 clear htwo hR4 hpre HR3 HMO HRX HPX HMX
 go_wp2_with fail
 go_roundw
 case rel => exact ⟨t + 1, _, _, X ++ E, Z ++ N2, ds ++ ms, by go_num, rfl, by omega, by rw [List.length_append, HDL.out, HML.out]; omega, HR4.out, HP4.out, HM2.out⟩
 case measure => simp [intOf]; omega)
 · (
 obtain rfl : t = 16 := by omega
 have HMK : Hid (Calls Tryz.prog 95 #[.int .i64 (i : Int), .int .i64 ((n + 16 : Nat) : Int), .int .i64 80] wr fun e w' => ∃ (v : Value) (cs : List Value) (N : List Rw), e = .returned v /\ cs.length = 80 /\ Rws wr w' (⟨58, 1, v, 80, cs⟩ :: N) /\ MkInR N i (n + 16) cs) := hid (markR_any (n := 80) (by omega) (by omega) (by omega))
 go_wp2_with fail
 refine HMK.out.mono ?_
 rintro e w3 ⟨mv, ms, N2, rfl, hml, hmo, hmM⟩
 have hmw : w3.ownsRow wr.heap.size 58 1 mv 80 ms := hmo.get (i := 0) rfl
 obtain ⟨mg, mc, rfl, _⟩ := hmw.form (by omega)
 have HR3 : Hid (Rws w0 w3 (⟨58, 1, .slice la (n + 16) lc, n + 16, ds⟩ :: (E ++ (⟨32, 1, v3, i, gs⟩ :: ⟨44, 22, .slice (some ⟨bb, 0, none⟩) 1 1, 1, cs⟩ :: ⟨32, 1, .slice (some ⟨ob, 0, none⟩) m oc, m, ks.map (·.v)⟩ :: (G ++ (ks.drop (i + 1) ++ ((N ++ (Z ++ N2)) ++ rest))))))) := hid (((HRX.out.join hmo).sub (List.sublist_cons_self _ _)).perm (by (
 have hp := perm_rot N2 (⟨58, 1, .slice la (n + 16) lc, n + 16, ds⟩ :: (E ++ (⟨32, 1, v3, i, gs⟩ :: ⟨44, 22, .slice (some ⟨bb, 0, none⟩) 1 1, 1, cs⟩ :: ⟨32, 1, .slice (some ⟨ob, 0, none⟩) m oc, m, ks.map (·.v)⟩ :: (G ++ ks.drop (i + 1))))) (N ++ Z) rest
 simp only [List.append_assoc, List.cons_append] at hp ⊢
 exact hp)))
 have HMO := hid hmw; have HML := hid hml; have HM1 := hid (hmM.one hmo (fun r hr => List.mem_cons_of_mem _ hr))
 have HM2 : Hid (MkInR (M ++ (N ++ (Z ++ N2))) i 0 (ds ++ ms)) := hid ((HMX.out.mono (fun x hx => by simp only [List.mem_append] at hx ⊢; rcases hx with h | h | h <;> simp [h])).app (by
   rw [Nat.zero_add, HDL.out]
   exact hmM.mono (fun x hx => by simp only [List.mem_append]; exact .inr (.inr (.inr hx)))))
 have HDM : Hid ((ds ++ ms).length = n + 16 + 80) := hid (by rw [List.length_append, HDL.out, hml])
 clear hmo hmw HMK hmM hml HRX HMX
 go_wp2_with (first
   | (at_builtin; refine wpList_two rfl _ _ 32 rfl rowII_bk (base := w0.heap.size) rfl (HR3.out.get (i := 0) rfl) ⟨mg, 0, none⟩ 80 mc ms rfl (by rw [HML.out]) (HMO.out.cells rfl) HM1.out (by omega) (by dsimp only; omega) (by dsimp only; unfold maxLen; omega) ?_; intro g cap w4 htwo; (obtain ⟨X, hR4, hpre⟩ := HR3.out.grow2 htwo); have HR4 : Hid (Rws w0 w4 (⟨32, 1, v3, i, gs⟩ :: ⟨44, 22, .slice (some ⟨bb, 0, none⟩) 1 1, 1, cs⟩ :: ⟨32, 1, .slice (some ⟨ob, 0, none⟩) m oc, m, ks.map (·.v)⟩ :: ((G ++ (⟨58, 1, .slice (some ⟨g, 0, none⟩) (n + 16 + 80) cap, n + 16 + 80, ds ++ ms⟩ :: (X ++ E))) ++ (ks.drop (i + 1) ++ ((N ++ (Z ++ N2)) ++ rest))))) := hid (hR4.perm (by rw [<- List.append_assoc]; exact perm_rot (_ :: (X ++ E)) [⟨32, 1, v3, i, gs⟩, ⟨44, 22, .slice (some ⟨bb, 0, none⟩) 1 1, 1, cs⟩, ⟨32, 1, .slice (some ⟨ob, 0, none⟩) m oc, m, ks.map (·.v)⟩] G (ks.drop (i + 1) ++ ((N ++ (Z ++ N2)) ++ rest)))); have HPR := hid hpre; clear htwo hR4 hpre HR3 HMO)
   | (at_builtin; refine wpList_lie rfl _ _ 40 rfl rowRO_bk (base := w0.heap.size) (by have := HR4.out.bel.size; simp; omega) rfl ((HR4.out.alloc _).get (i := 0) rfl) ⟨w4.heap.size, 0, none⟩ 1 1 [.slice (some ⟨g, 0, none⟩) (n + 16 + 80) cap] rfl rfl (cells1 (by simp [go_sem])) (by simp [Value.oneCell']) (by omega) (by dsimp only; omega) (by dsimp only; unfold maxLen; omega) w4.heap.size (by simp) ?_; intro g2 cap2 w6 hown6 hg6 hgg6 _))
 have HR6 : Hid (Rws w0 w6 (⟨32, 1, .slice (some ⟨g2, 0, none⟩) (i + 1) cap2, i + 1, gs ++ [.slice (some ⟨g, 0, none⟩) (n + 16 + 80) cap]⟩ :: ⟨44, 22, .slice (some ⟨bb, 0, none⟩) 1 1, 1, cs⟩ :: ⟨32, 1, .slice (some ⟨ob, 0, none⟩) m oc, m, ks.map (·.v)⟩ :: ((G ++ (⟨58, 1, .slice (some ⟨g, 0, none⟩) (n + 16 + 80) cap, n + 16 + 80, ds ++ ms⟩ :: (X ++ E))) ++ (ks.drop (i + 1) ++ ((N ++ (Z ++ N2)) ++ rest))))) := hid (HR4.out.grown ((Below.refl w4.heap.size w4).alloc (Nat.le_refl _) _) 0 rfl hown6 hg6 (fun b hb => by simp only [Value.ownBlock, Option.some.injEq] at hb; subst hb; exact hgg6))
 clear hown6 hg6 hgg6
 go_wp2_with fail
 go_roundw
 case rel => exact ⟨i + 1, gs ++ [.slice (some ⟨g, 0, none⟩) (n + 16 + 80) cap], G ++ (⟨58, 1, .slice (some ⟨g, 0, none⟩) (n + 16 + 80) cap, n + 16 + 80, ds ++ ms⟩ :: (X ++ E)), N ++ (Z ++ N2), _, rfl, by go_num, by omega, by simp [HGS.out], HR6.out, HOK.out.step (fun r hr => by simp only [List.mem_append] at hr ⊢; rcases hr with h | h <;> simp [h]) HGS.out HR.out HDM.out
   ⟨_, List.mem_cons_self, rfl, _, _, _, rfl, rfl, Nat.le_refl _, List.take_of_length_le (by rw [HDM.out]; dsimp only; omega)⟩ (HPX.out.swap HPR.out (fun x hx => hx)) HM2.out⟩
 case measure => simp [intOf]; omega)))
 · (
 obtain rfl : m = i := by omega
 have HRW := hid hRw
 clear hRw
 go_wp2_with fail
 go_ret
 refine ⟨_, gs, G, N, rfl, HGS.out, ?_, HOK.out⟩
 have := HRW.out
 rw [List.drop_of_length_le (by rw [<- HM.out]; exact Nat.le_refl _)] at this
 exact this))
end Go.Proofs.YtgikimbafakmcaaGreatDoor
namespace Go.Proofs.YtgikimbafakmcaaGreatDoor
open Go.RowKit Pl
open Lib (hid)
theorem putR_any {w0 w : World} {bb : Nat} {cs : List Value} {o : Value} {ks rest : List Rw}
    (h : Rws w0 w (⟨44, 22, .slice (some ⟨bb, 0, none⟩) 1 1, 1, cs⟩ :: ⟨32, 1, o, ks.length, ks.map (·.v)⟩ :: (ks ++ rest))) (hc : cs[16]? = some o) (hK : ∀ r ∈ ks, r.T = 58 /\ r.k = 1 /\ r.n <= 500000) (hl : ks.length <= 400) :
    Calls Tryz.prog 44 #[.pointer (some ⟨bb, 0, none⟩)] w fun e w' => ∃ (F : Nat -> List Value) (N : List Rw), e = .returned (.tuple #[]) /\ Rws w0 w' (⟨44, 22, .slice (some ⟨bb, 0, none⟩) 1 1, 1, cs⟩ :: ⟨32, 1, o, ks.length, ks.map (·.v)⟩ :: (mkFin F ks ++ (N ++ rest))) /\ ∀ (p : Nat) (r : Rw), ks[p]? = some r -> (F p).length = r.n /\ MkInR N p 0 (F p) := by
 obtain ⟨oa, oc, hov, hoa, _, _, _, _⟩ := h.shape (r := ⟨32, 1, o, ks.length, ks.map (·.v)⟩) (by simp)
 dsimp only at hov hoa
 subst hov
 obtain ⟨m, hm⟩ : ∃ m, m = ks.length := ⟨_, rfl⟩
 rw [<- hm] at h hl hc hoa ⊢
 have H := hid h; have HK := hid hK; have HM := hid hm; have HC := hid hc; have HOA := hid hoa
 have b0 := h.cell (i := 0) rfl hc
 have hbl := (h.lt (i := 0) rfl).2
 clear h hK hm hc hoa
 go_enter Tryz.func44, Tryz.ntmps44
 go_wp2_with fail
 clear b0 hbl
 go_loopw [2, 3, 4] (fun v2 _ _ wr => ∃ (i : Nat) (F : Nat -> List Value) (N : List Rw), v2 = .int .i64 i /\ i <= m /\ Rws w0 wr (⟨44, 22, .slice (some ⟨bb, 0, none⟩) 1 1, 1, cs⟩ :: ⟨32, 1, .slice oa m oc, m, ks.map (·.v)⟩ :: (mkF F ks i 0 ++ (N ++ rest))) /\ ∀ (p : Nat) (r : Rw), p < i -> ks[p]? = some r -> (F p).length = r.n /\ MkInR N p 0 (F p)) (fun v2 _ _ _ => m - (intOf v2).toNat)
 case atStart => exact ⟨0, fun _ => [], [], rfl, Nat.zero_le _, by rw [mkF_zero]; exact H.out, fun p _ hp => absurd hp (Nat.not_lt_zero _)⟩
 case round => (
 obtain ⟨i, F, N, rfl, hi, hRw, hF⟩ := hrel
 have HRW := hid hRw; have HF := hid hF
 have b0 := hRw.cell (i := 0) rfl HC.out
 have hbl := (hRw.lt (i := 0) rfl).2
 clear hF
 by_cases hlt : i < m
 · (
 obtain ⟨r, hr⟩ := getElem?_of_lt (xs := ks) (i := i) (by rw [<- HM.out]; exact hlt)
 obtain ⟨ob, rfl⟩ := HOA.out (by omega)
 have b1 := hRw.cell (i := 1) (j := i) (u := r.v) rfl (by simp [hr])
 have hrm := List.mem_of_getElem? hr
 obtain ⟨T, k, v, n, xs⟩ := r
 obtain ⟨rfl, rfl, hn⟩ := HK.out _ hrm
 obtain ⟨va, vc, hv, hva, _, _, _, hX⟩ := H.out.shape (r := ⟨58, 1, v, n, xs⟩) (by simp [hrm])
 dsimp only at b1 hn hv hva hX
 subst hv
 have hin : (i : Int) < (m : Int) := by omega
 have HMK := hid (markR_any (w := wr) (i := i) (k := 0) (n := n) (by omega) (by omega) (by omega))
 have HR := hid hr; have HVA := hid hva; have HX := hid hX
 clear hRw hrm hr hva hX
 go_wp2_with fail
 refine HMK.out.mono ?_
 rintro e w3 ⟨mv, ms, N2, rfl, hml, hmo, hmM⟩
 have hR3 := HRW.out.join hmo
 have hR3 : Rws w0 w3 (⟨58, 1, mv, n, ms⟩ :: ⟨44, 22, .slice (some ⟨bb, 0, none⟩) 1 1, 1, cs⟩ :: ⟨32, 1, .slice (some ⟨ob, 0, none⟩) m oc, m, ks.map (·.v)⟩ :: (mkF (upd F i ms) ks i 0 ++ ((N ++ N2) ++ rest))) := hR3.perm (by (
 rw [mkF_upd]
 have hp := perm_rot N2 (⟨44, 22, .slice (some ⟨bb, 0, none⟩) 1 1, 1, cs⟩ :: ⟨32, 1, .slice (some ⟨ob, 0, none⟩) m oc, m, ks.map (·.v)⟩ :: mkF F ks i 0) N rest
 simp only [List.append_assoc, List.cons_append] at hp ⊢
 exact hp.cons _))
 obtain ⟨ma, mc, hmv, hma, _, _, _, _⟩ := hR3.shape (r := ⟨58, 1, mv, n, ms⟩) (by simp)
 dsimp only at hmv hma
 subst hmv
 have HF2 : Hid (∀ (p : Nat) (r : Rw), p < i + 1 -> ks[p]? = some r -> ((upd F i ms) p).length = r.n /\ MkInR (N ++ N2) p 0 ((upd F i ms) p)) := hid (by (
 intro p r hp hr
 by_cases e : p = i
 · subst e
   rw [HR.out] at hr
   cases hr
   rw [upd_same]
   exact ⟨hml, hmM.mono (fun x hx => List.mem_append_right _ hx)⟩
 · rw [upd_other _ _ e]
   obtain ⟨h1, h2⟩ := HF.out p r (by omega) hr
   exact ⟨h1, h2.mono (fun x hx => List.mem_append_left _ hx)⟩))
 have HR3 := hid hR3; have HMA := hid hma; have HML := hid hml
 obtain ⟨F2, hF2⟩ : ∃ F2, F2 = upd F i ms := ⟨_, rfl⟩
 rw [<- hF2] at HR3 HF2
 have HFI : Hid (F2 i = ms) := hid (by rw [hF2, upd_same])
 clear hR3 hmo hmM hma HMK HRW b0 b1 hbl hml HF hF2
 go_wp2_with fail
 go_loopw [4] (fun v4 wr => ∃ q : Nat, v4 = .int .i64 q /\ q <= n /\ Rws w0 wr (⟨58, 1, .slice ma n mc, n, ms⟩ :: ⟨44, 22, .slice (some ⟨bb, 0, none⟩) 1 1, 1, cs⟩ :: ⟨32, 1, .slice (some ⟨ob, 0, none⟩) m oc, m, ks.map (·.v)⟩ :: (mkF F2 ks i q ++ ((N ++ N2) ++ rest)))) (fun v4 _ => n - (intOf v4).toNat)
 case atStart => exact ⟨0, rfl, Nat.zero_le _, HR3.out⟩
 case round => (
 obtain ⟨q, rfl, hq, hRx⟩ := hrel
 by_cases hlq : q < n
 · (
 obtain ⟨mg, rfl⟩ := HMA.out (by omega)
 obtain ⟨vg, rfl⟩ := HVA.out (by omega)
 have b0 := hRx.cell (i := 1) rfl HC.out
 have b1 := hRx.cell (i := 2) (j := i) (u := .slice (some ⟨vg, 0, none⟩) n vc) rfl (by simp [HR.out])
 have hqn : (q : Int) < (n : Int) := by omega
 obtain ⟨x, hx⟩ := getElem?_of_lt (xs := ms) (i := q) (by rw [HML.out]; exact hlq)
 obtain ⟨r9, hr9, _, _, rfl, hn9, _⟩ := (HF2.out i _ (Nat.lt_succ_self i) HR.out).2 q x (by rw [HFI.out]; exact hx)
 obtain ⟨xa, xc, hxv, _⟩ := hRx.shape (r := r9) (by simp only [List.mem_cons, List.mem_append] at hr9 ⊢; exact .inr (.inr (.inr (.inr (.inl hr9)))))
 rw [hn9] at hxv
 rw [hxv] at hx
 have m0 := hRx.cell (i := 0) rfl hx
 obtain ⟨⟨u0, x0⟩, y0, z0⟩ := hRx.putOldF HR.out HX.out hlq (by rw [HFI.out, HML.out])
 have HRX := hid ((hRx.putF HR.out HX.out hlq (by rw [HFI.out]; exact hx)).drew)
 clear hRx HR3 hx hn9 hxv
 go_wp2_with fail
 go_region
 go_wp2_with fail
 go_roundw
 case rel => exact ⟨q + 1, by go_num, by omega, HRX.out⟩
 case measure => simp [intOf]; omega)
 · (
 obtain rfl : n = q := by omega
 have HR4 : Hid (Rws w0 wr (⟨44, 22, .slice (some ⟨bb, 0, none⟩) 1 1, 1, cs⟩ :: ⟨32, 1, .slice (some ⟨ob, 0, none⟩) m oc, m, ks.map (·.v)⟩ :: (mkF F2 ks (i + 1) 0 ++ ((N ++ N2) ++ rest)))) := hid (by (
 have := hRx.sub (List.sublist_cons_self _ _)
 rw [mkF_next HR.out HX.out (by rw [HFI.out, HML.out])] at this
 exact this))
 clear hRx
 go_wp2_with fail
 go_roundw
 case rel => exact ⟨i + 1, F2, N ++ N2, by go_num, by omega, HR4.out, HF2.out⟩
 case measure => simp [intOf]; omega)))
 · (
 obtain rfl : m = i := by omega
 clear hRw
 go_wp2_with fail
 go_end0
 refine ⟨F, N, rfl, ?_, fun p r hr => HF.out p r (by have := (List.getElem?_eq_some_iff.1 hr).1; rw [HM.out]; exact this) hr⟩
 have := HRW.out
 rw [mkF_end (by rw [<- HM.out]; exact Nat.le_refl _)] at this
 exact this))
end Go.Proofs.YtgikimbafakmcaaGreatDoor
namespace Go.Proofs.YtgikimbafakmcaaGreatDoor
open Go.RowKit Pl
theorem eqlS (x y : S) (w : World) : (binOp .eql 129 (.agg #[.int .i64 x.1, .int .i64 x.2]) (.agg #[.int .i64 y.1, .int .i64 y.2])).run Tryz.prog w = .ok (.bool (decide (x = y))) w := by
 have u3 := Tryz.underlying3
 have a3 := Tryz.isAgg3
 have z3 := Tryz.sizeOf3
 have hS : Tryz.prog.underlying 129 = some (.struct (Tryz.prog.fieldsOf 129)) := by kernel_rfl
 have hp : Tryz.prog.stoodInHeld 129 = false := by kernel_rfl
 rw [run_eql_struct, show (10000 : Nat) = 9999 + 1 from rfl, run_equalIn_agg w 9999 129 _ _ hS hp]
 simp only [Program.fieldsOf, Tryz.underlying129]
 go_simp
 obtain ⟨x1, x2⟩ := x; obtain ⟨y1, y2⟩ := y
 by_cases h1 : x1 = y1 <;> by_cases h2 : x2 = y2 <;> simp [h1, h2]
theorem guardS : Tryz.prog.eqGuardType Tryz.prog.depth 129 = false := by kernel_rfl
end Go.Proofs.YtgikimbafakmcaaGreatDoor
namespace Go.Proofs.YtgikimbafakmcaaGreatDoor
open Go.RowKit Pl
theorem eq_uptoSt {α : Type} {xs ys : List α} (hl : xs.length = ys.length) (h : ∀ j, j < xs.length -> xs[j]? = ys[j]?) : xs = ys := by
 apply List.ext_getElem?
 intro j
 by_cases hj : j < xs.length
 · exact h j hj
 · rw [List.getElem?_eq_none (by omega), List.getElem?_eq_none (by omega)]
theorem sameSteps_any {a1 a2 : Option Addr} {b1 o1 c1 b2 o2 c2 : Nat} {xs ys : List S} {w : World} (h1 : SlAt encS 2 w a1 b1 o1 xs) (h2 : SlAt encS 2 w a2 b2 o2 ys) (hx : xs.length <= 1000000) (hy : ys.length <= 1000000) :
    Calls Tryz.prog 81 #[.slice a1 xs.length c1, .slice a2 ys.length c2] w fun e w' => e = .returned (.bool (decide (xs = ys))) /\ ∃ n, w' = w.drewN n := by
 by_cases hl : xs.length = ys.length
 · have hlB : ((xs.length : Int) != (ys.length : Int)) = false := by simp [hl]
   have HL := Lib.hid hl; clear hl
   go_enter Tryz.func81, Tryz.ntmps81
   go_wp2
   go_loopw [5] (fun i wr => ∃ k m : Nat, k <= xs.length /\ i = .int .i64 k /\ (∀ j, j < k -> xs[j]? = ys[j]?) /\ wr = w.drewN m)
     (fun i _ => xs.length - (intOf i).toNat)
   case atStart => exact ⟨0, 0, Nat.zero_le _, rfl, by intro j hj; omega, rfl⟩
   case round =>
     obtain ⟨k, m, hk, rfl, heq, rfl⟩ := hrel
     have HE := Lib.hid heq; clear heq
     by_cases hlt : k < xs.length
     · have hlt2 : k < ys.length := by rw [<- HL.out]; exact hlt
       obtain ⟨x, hxk⟩ := getElem?_of_lt hlt
       obtain ⟨y, hyk⟩ := getElem?_of_lt hlt2
       obtain rfl := h1.ad (by omega)
       obtain rfl := h2.ad (by omega)
       have c0 := h1.s0 hxk; have c1' := h1.s1 hxk
       have d0 := h2.s0 hyk; have d1 := h2.s1 hyk
       have hq := fun w => eqlS x y w
       have hgd := guardS
       have hi1 : (k : Int) < (xs.length : Int) := by omega
       have hi2 : (k : Int) < (ys.length : Int) := by omega
       have HX := Lib.hid hxk; have HY := Lib.hid hyk
       clear h1 h2 hxk hyk
       by_cases hxy : x = y
       · have hb : decide (x = y) = true := by simp [hxy]
         have HXY := Lib.hid hxy; clear hxy
         go_wp2_with fail
         go_quiet (fail)
         go_wp2
         go_roundw
         case rel => exact ⟨k + 1, _, by omega, by go_num, by
           intro j hj
           by_cases hjk : j = k
           · subst hjk; rw [HX.out, HY.out, HXY.out]
           · exact HE.out j (by omega), rfl⟩
         case measure => simp [intOf]; omega
       · have hb : decide (x = y) = false := by simp [hxy]
         have HXY := Lib.hid hxy; clear hxy
         go_wp2_with fail
         go_quiet (fail)
         go_wp2
         go_ret
         refine ⟨?_, _, World.drewN_drewN _ _ _⟩
         have : xs ≠ ys := fun e => HXY.out (by have h1 := HX.out; have h2 := HY.out; rw [e, h2] at h1; simpa using h1.symm)
         simp [this]
     · clear h1 h2
       have hkk : k = xs.length := by omega
       go_wp2
       go_ret
       refine ⟨?_, _, rfl⟩
       have : xs = ys := eq_uptoSt HL.out (by rw [<- hkk]; exact HE.out)
       simp [this]
 · have hlB : ((xs.length : Int) != (ys.length : Int)) = true := by simp; omega
   go_enter Tryz.func81, Tryz.ntmps81
   go_wp2
   go_ret
   have : xs ≠ ys := fun e => hl (by rw [e])
   exact ⟨by simp [this], 0, rfl⟩
end Go.Proofs.YtgikimbafakmcaaGreatDoor
namespace Go.Proofs.YtgikimbafakmcaaGreatDoor
open Go.RowKit Pl
open Lib (hid)
theorem rowSS_bk : IsRow Tryz.prog 36 113 1 24 (.slice none 0 0) := isRow_of Tryz.underlying36 (by kernel_rfl) rfl (by decide)
theorem markS_any {w : World} {i k n : Nat} (hi : i <= 400) (hk : k <= 600000) (hn : n <= 600000) :
    Calls Tryz.prog 91 #[.int .i64 (i : Int), .int .i64 (k : Int), .int .i64 (n : Int)] w fun e w' => ∃ v, e = .returned v /\ w'.ownsRow w.heap.size 129 2 v n ((mkG mS i k n).flatMap encS) /\ Below w.heap.size w w' := by
 go_enter Tryz.func91, Tryz.ntmps91
 go_wp2_with fail
 go_loopw [7, 8] (fun v7 v8 wr => ∃ j : Nat, v8 = .int .i64 ((k : Int) + (j : Int)) /\ j <= n /\ Below w.heap.size w wr /\ wr.ownsRow w.heap.size 129 2 v7 j ((mkG mS i k j).flatMap encS)) (fun _ v8 _ => k + n - (intOf v8).toNat)
 case atStart => exact ⟨0, by simp, Nat.zero_le _, Below.refl _ _, World.ownsRow_nil _ _ _ _⟩
 case round => (
 obtain ⟨j, rfl, hj, hB, hown⟩ := hrel
 have HB := hid hB; have HO := hid hown
 have hs := hB.size
 clear hB hown
 by_cases hlt : j < n
 · (
 have hltI : (k : Int) + (j : Int) < (k : Int) + (n : Int) := by omega
 go_wp2_with (at_builtin; refine wpList_lies rfl _ _ 113 rfl rowS (base := w.heap.size) (by simp; omega) rfl (own_below HO.out ((Below.refl wr.heap.size wr).alloc (Nat.le_refl _) _)) ⟨wr.heap.size, 0, none⟩ 1 1 [.int .i64 (-1 - (i : Int)), .int .i64 ((k : Int) + (j : Int))] rfl rfl (cells2 (by simp [go_sem]) (by simp [go_sem])) (by simp [Value.oneCell']) (by omega) (by omega) (by unfold maxLen; omega) _ rfl ?_; intro g cap w6 hown6 hg6 _ _)
 have hb6 := (HB.out.alloc HB.out.size _).grown hg6 (by simp; omega) (fun k hk => (HO.out.lt k hk).1)
 have HB6 := hid hb6
 have HO6 : Hid (w6.ownsRow w.heap.size 129 2 (.slice (some ⟨g, 0, none⟩) (j + 1) cap) (j + 1) ((mkG mS i k (j + 1)).flatMap encS)) := hid (by
   rw [<- mkG_snoc, List.flatMap_append]
   simpa [encS, mS] using hown6)
 clear hb6 hown6 hg6 HO HB
 go_roundw
 case rel => exact ⟨j + 1, by go_num, by omega, HB6.out, HO6.out⟩
 case measure => simp [intOf]; omega)
 · obtain rfl : n = j := by omega
   go_wp2_with fail
   go_ret
   exact ⟨_, rfl, HO.out, HB.out⟩)
theorem stillS_any {w : World} {bb n : Nat} {a a' : Option Addr} {ob ob' c c' : Nat} {vs us : List Value}
    (h0 : w.cell? ⟨bb, 8, none⟩ = some (.slice a n c)) (h1 : w.cell? ⟨bb, 9, none⟩ = some (.slice a' n c')) (hO : SlAt encV 1 w a ob 0 vs) (hP : SlAt encV 1 w a' ob' 0 us) (hvl : vs.length = n) (hul : us.length = n) (hn : n <= 400)
    (hR : ∀ (i : Nat) (v u : Value), vs[i]? = some v -> us[i]? = some u -> ∃ (xs : List S) (a1 : Option Addr) (b1 c1 : Nat) (a2 : Option Addr) (b2 c2 : Nat), v = .slice a1 xs.length c1 /\ u = .slice a2 xs.length c2 /\ SlAt encS 2 w a1 b1 0 xs /\ SlAt encS 2 w a2 b2 0 xs /\ xs.length <= 600000) :
    Calls Tryz.prog 29 #[.pointer (some ⟨bb, 0, none⟩)] w fun e w' => e = .returned (.bool true) /\ ∃ m, w' = w.drewN m := by
 have HO := hid hO; have HP := hid hP; have HVL := hid hvl; have HUL := hid hul; have HR := hid hR
 clear hO hP hvl hul hR
 go_enter Tryz.func29, Tryz.ntmps29
 go_wp2_with fail
 go_loopw [3] (fun v3 wr => ∃ i m : Nat, i <= n /\ v3 = .int .i64 i /\ wr = w.drewN m) (fun v3 _ => n - (intOf v3).toNat)
 case atStart => exact ⟨0, 0, Nat.zero_le _, rfl, rfl⟩
 case round => (
 obtain ⟨i, m, hi, rfl, rfl⟩ := hrel
 by_cases hlt : i < n
 · (
 obtain ⟨v, hv⟩ := getElem?_of_lt (xs := vs) (i := i) (by rw [HVL.out]; exact hlt)
 obtain ⟨u, hu⟩ := getElem?_of_lt (xs := us) (i := i) (by rw [HUL.out]; exact hlt)
 obtain ⟨xs, a1, b1, q1, a2, b2, q2, rfl, rfl, hs1, hs2, hxl⟩ := HR.out i v u hv hu
 have ha := HO.out.ad (by rw [HVL.out]; omega)
 have hb := HP.out.ad (by rw [HUL.out]; omega)
 subst ha hb
 have d0 := HO.out.cv hv
 have d1 := HP.out.cv hu
 rw [Nat.zero_add] at d0 d1
 have HSM : Hid (∀ mm, Calls Tryz.prog 81 #[.slice a1 xs.length q1, .slice a2 xs.length q2] (w.drewN mm) fun e w' => e = .returned (.bool (decide (xs = xs))) /\ ∃ n, w' = (w.drewN mm).drewN n) := hid (fun mm => sameSteps_any (hs1.below (bdrew (Below.refl _ _)) (Nat.le_refl _)) (hs2.below (bdrew (Below.refl _ _)) (Nat.le_refl _)) (by omega) (by omega))
 have HSE : Hid (decide (xs = xs) = true) := hid (by simp)
 have hin : (i : Int) < (n : Int) := by omega
 clear hs1 hs2 hv hu hxl
 generalize xs.length = z at *
 go_wp2_with fail
 go_region_held3 (fun V => V.cell? ⟨bb, 8, none⟩ = some (.slice (some ⟨ob, 0, none⟩) n c) /\ V.cell? ⟨bb, 9, none⟩ = some (.slice (some ⟨ob', 0, none⟩) n c') /\ V.cell? ⟨ob, i, none⟩ = some (.slice a1 z q1) /\ V.cell? ⟨ob', i, none⟩ = some (.slice a2 z q2))
   (first | exact ⟨h0, h1, d0, d1⟩ | assumption)
   ((go_at_call 81; refine (HSM.out _).mono ?_; rintro e w7 ⟨rfl, mm, rfl⟩; rw [HSE.out]))
 go_wp2_with fail
 go_roundw
 case rel => exact ⟨i + 1, _, by omega, by go_num, by first | rfl | exact World.drewN_drewN _ _ _⟩
 case measure => simp [intOf]; omega)
 · obtain rfl : n = i := by omega
   go_wp2_with fail
   go_ret
   exact ⟨rfl, m, rfl⟩)
theorem markedS_any {w : World} {n : Nat} {a : Option Addr} {ob c : Nat} {vs : List Value} (hO : SlAt encV 1 w a ob 0 vs) (hvl : vs.length = n) (hn : n <= 400)
    (hR : ∀ (i : Nat) (v : Value), vs[i]? = some v -> ∃ (z : Nat) (a1 : Option Addr) (b1 c1 : Nat), v = .slice a1 z c1 /\ SlAt encS 2 w a1 b1 0 (mkG mS i 0 z) /\ z <= 600000) :
    Calls Tryz.prog 62 #[.slice a n c] w fun e w' => e = .returned (.bool true) /\ Below w.heap.size w w' := by
 have HO := hid hO; have HVL := hid hvl; have HR := hid hR
 clear hO hvl hR
 go_enter Tryz.func62, Tryz.ntmps62
 go_wp2_with fail
 go_loopw [3] (fun v3 wr => ∃ i : Nat, i <= n /\ v3 = .int .i64 i /\ Below w.heap.size w wr) (fun v3 _ => n - (intOf v3).toNat)
 case atStart => exact ⟨0, Nat.zero_le _, rfl, Below.refl _ _⟩
 case round => (
 obtain ⟨i, hi, rfl, hB⟩ := hrel
 by_cases hlt : i < n
 · (
 obtain ⟨v, hv⟩ := getElem?_of_lt (xs := vs) (i := i) (by rw [HVL.out]; exact hlt)
 obtain ⟨z, a1, b1, q1, rfl, hs1, hxl⟩ := HR.out i v hv
 have ha := HO.out.ad (by rw [HVL.out]; omega)
 subst ha
 have hob := HO.out.lt (by rw [HVL.out]; omega)
 have d0 := (HO.out.below hB (Nat.le_refl _)).cv hv
 rw [Nat.zero_add] at d0
 have hob2 : ob < wr.heap.size := Nat.lt_of_lt_of_le hob hB.size
 have HMK := hid (fun (V : World) => markS_any (w := V) (i := i) (k := 0) (n := z) (by omega) (by omega) hxl)
 have hin : (i : Int) < (n : Int) := by omega
 have HS1 := hid (hs1.below hB (Nat.le_refl _))
 have HSM : Hid (∀ (V : World) (v : Value) (base : Nat), Below wr.heap.size wr V -> V.ownsRow base 129 2 v z ((mkG mS i 0 z).flatMap encS) -> Calls Tryz.prog 81 #[.slice a1 z q1, v] V fun e w' => e = .returned (.bool true) /\ ∃ n, w' = V.drewN n) := hid (fun V v base hV hv => by (
 obtain ⟨a2, c2, b2, rfl, _, _, hs2, _⟩ := slAt_own lenS (xs := mkG mS i 0 z) (by rw [mkG_len]; exact hv)
 have := sameSteps_any (c1 := q1) (c2 := c2) (HS1.out.below hV (Nat.le_refl _)) hs2 (by rw [mkG_len]; omega) (by rw [mkG_len]; omega)
 rw [mkG_len] at this
 rw [mkG_len]
 exact this.mono (by rintro e w7 ⟨rfl, mm, rfl⟩; exact ⟨by simp, mm, rfl⟩)))
 have HB := hid hB
 have hdr : Below wr.heap.size wr wr.drew := (Below.refl _ _).drew
 have HKP : Hid (∀ V, Below wr.heap.size wr V -> V.cell? ⟨ob, i, none⟩ = some (.slice a1 z q1) /\ ob < V.heap.size /\ Below wr.heap.size wr V) := hid (fun V hV => ⟨by rw [hV.cell (p := ⟨ob, i, none⟩) hob2]; exact d0, Nat.lt_of_lt_of_le hob2 hV.size, hV⟩)
 clear hs1 hv hxl hB hob
 go_wp2_with fail
 go_region_held3 (fun V => V.cell? ⟨ob, i, none⟩ = some (.slice a1 z q1) /\ ob < V.heap.size /\ Below wr.heap.size wr V)
   (first | (exact HKP.out _ (by assumption)) | assumption)
   (first
     | (go_at_call 91; go_split_ands; refine (HMK.out _).mono ?_; rintro e w7 ⟨v7, rfl, hown7, hB7⟩; have hW7 : Below wr.heap.size wr w7 := Below.trans (by assumption) (hB7.mono (Below.size (by assumption))))
     | (go_at_call 81; go_split_ands; refine (HSM.out _ _ _ (by assumption) (by assumption)).mono ?_; rintro e w8 ⟨rfl, mm, rfl⟩; have hW8 : Below wr.heap.size wr _ := bdrew (n := mm) (by assumption)))
 all_goals go_split_ands
 all_goals go_wp2_with fail
 all_goals (
 go_roundw
 case rel => exact ⟨i + 1, by omega, by go_num, HB.out.trans (Below.mono (by assumption) HB.out.size)⟩
 case measure => simp [intOf]; omega))
 · obtain rfl : n = i := by omega
   go_wp2_with fail
   go_ret
   exact ⟨rfl, hB⟩)
end Go.Proofs.YtgikimbafakmcaaGreatDoor

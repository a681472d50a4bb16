/-
  Lemmas.
-/
import Derived.Test.YtbaccmlfnbgehaaGreatDoorGBkR
import Derived.Test.YtbaccmlfnbgehaaGreatDoorGBkB
import Derived.BigRegion
import Derived.Test.YtbaccmlfnbgehaaGreatDoorGOMap
import Derived.Test.YtbaccmlfnbgehaaGreatDoorGMem
import Derived.Deep.RegionHeld3
import Derived.Deep.Cut
import Derived.Deep.CutRange
import Derived.Deep.QuietTactic
import Derived.BigQuiet
import Derived.IntWalk
import Derived.Deep.DeepMust
set_option maxHeartbeats 8000000
set_option maxRecDepth 100000
open Nat renaming le_refl → l0, zero_le → l1, lt_of_lt_of_le → l2, zero_add → l3
open Go.Proofs.Tryz
namespace Go.Proofs.YtbaccmlfnbgehaaGreatDoor
open Go.RowKit Pl
open Lib (hid)
theorem y2w {w0 w : World} {bb : Nat} {cs : List Value} {o : Value} {ks rest : List Rw}
    (h : Rws w0 w (⟨45, 22, .slice (some ⟨bb, 0, none⟩) 1 1, 1, cs⟩ :: ⟨34, 1, o, ks.length, ks.map (·.v)⟩ :: (ks ++ rest))) (hc : cs[16]? = some o) (hK : ∀ r ∈ ks, r.T = 50 /\ r.k = 1 /\ r.n <= 500000) (hl : ks.length <= 400) :
    Calls prog 63 #[.pointer (some ⟨bb, 0, none⟩)] w fun e w' => ∃ (F : Nat -> List Value) (N : List Rw), e = .returned (.tuple #[]) /\ Rws w0 w' (⟨45, 22, .slice (some ⟨bb, 0, none⟩) 1 1, 1, cs⟩ :: ⟨34, 1, o, ks.length, ks.map (·.v)⟩ :: (mkFin F ks ++ (N ++ rest))) /\ ∀ (p : Nat) (r : Rw), ks[p]? = some r -> (F p).length = r.n /\ MkInR N p 0 (F p) := by
 obtain ⟨oa, oc, hov, hoa, _, _, _, _⟩ := h.shape (r := ⟨34, 1, o, ks.length, ks.map (·.v)⟩) (by simp)
 dsimp only at hov hoa
 subst hov
 obtain ⟨m, hm⟩ : ∃ m, m = ks.length := ⟨_, rfl⟩
 rw [<- hm] at h hl hc hoa ⊢
 have H := hid h; have HK := hid hK; have HM := hid hm; have HC := hid hc; have HOA := hid hoa
 have b0 := h.cell (i := 0) rfl hc
 have hbl := (h.lt (i := 0) rfl).2
 clear h hK hm hc hoa
 go_enter func63, ntmps63
 go_wp2_with fail
 clear b0 hbl
 go_loopw [2, 3, 4] (fun v2 _ _ wr => ∃ (i : Nat) (F : Nat -> List Value) (N : List Rw), v2 = .int .i64 i /\ i <= m /\ Rws w0 wr (⟨45, 22, .slice (some ⟨bb, 0, none⟩) 1 1, 1, cs⟩ :: ⟨34, 1, .slice oa m oc, m, ks.map (·.v)⟩ :: (mkF F ks i 0 ++ (N ++ rest))) /\ ∀ (p : Nat) (r : Rw), p < i -> ks[p]? = some r -> (F p).length = r.n /\ MkInR N p 0 (F p)) (fun v2 _ _ _ => m - (intOf v2).toNat)
 case atStart => exact ⟨0, fun _ => [], [], rfl, l1 _, by rw [v1l]; exact H.out, fun p _ hp => absurd hp (Nat.not_lt_zero _)⟩
 case round => (
 obtain ⟨i, F, N, rfl, hi, hRw, hF⟩ := hrel
 have HRW := hid hRw; have HF := hid hF
 have b0 := hRw.cell (i := 0) rfl HC.out
 have hbl := (hRw.lt (i := 0) rfl).2
 clear hF
 by_cases hlt : i < m
 · (
 obtain ⟨r, hr⟩ := j0a (xs := ks) (i := i) (by rw [<- HM.out]; exact hlt)
 obtain ⟨ob, rfl⟩ := HOA.out (by omega)
 have b1 := hRw.cell (i := 1) (j := i) (u := r.v) rfl (by simp [hr])
 have hrm := List.mem_of_getElem? hr
 obtain ⟨T, k, v, n, xs⟩ := r
 obtain ⟨rfl, rfl, hn⟩ := HK.out _ hrm
 obtain ⟨va, vc, hv, hva, _, _, _, hX⟩ := H.out.shape (r := ⟨50, 1, v, n, xs⟩) (by simp [hrm])
 dsimp only at b1 hn hv hva hX
 subst hv
 have hin : (i : Int) < (m : Int) := by omega
 have HMK := hid (y0a (w := wr) (i := i) (k := 0) (n := n) (by omega) (by omega) (by omega))
 have HR := hid hr; have HVA := hid hva; have HX := hid hX
 clear hRw hrm hr hva hX
 go_wp2_with fail
 refine HMK.out.mono ?_
 rintro e w3 ⟨mv, ms, N2, rfl, hml, hmo, hmM⟩
 have hR3 := HRW.out.join hmo
 have hR3 : Rws w0 w3 (⟨50, 1, mv, n, ms⟩ :: ⟨45, 22, .slice (some ⟨bb, 0, none⟩) 1 1, 1, cs⟩ :: ⟨34, 1, .slice (some ⟨ob, 0, none⟩) m oc, m, ks.map (·.v)⟩ :: (mkF (upd F i ms) ks i 0 ++ ((N ++ N2) ++ rest))) := hR3.perm (by (
 rw [q2k]
 have hp := k0g N2 (⟨45, 22, .slice (some ⟨bb, 0, none⟩) 1 1, 1, cs⟩ :: ⟨34, 1, .slice (some ⟨ob, 0, none⟩) m oc, m, ks.map (·.v)⟩ :: mkF F ks i 0) N rest
 simp only [List.append_assoc, List.cons_append] at hp ⊢
 exact hp.cons _))
 obtain ⟨ma, mc, hmv, hma, _, _, _, _⟩ := hR3.shape (r := ⟨50, 1, mv, n, ms⟩) (by simp)
 dsimp only at hmv hma
 subst hmv
 have HF2 : Hid (∀ (p : Nat) (r : Rw), p < i + 1 -> ks[p]? = some r -> ((upd F i ms) p).length = r.n /\ MkInR (N ++ N2) p 0 ((upd F i ms) p)) := hid (by (
 intro p r hp hr
 by_cases e : p = i
 · subst e
   rw [HR.out] at hr
   cases hr
   rw [upd_same]
   exact ⟨hml, hmM.mono (fun x hx => List.mem_append_right _ hx)⟩
 · rw [j0j _ _ e]
   obtain ⟨h1, h2⟩ := HF.out p r (by omega) hr
   exact ⟨h1, h2.mono (fun x hx => List.mem_append_left _ hx)⟩))
 have HR3 := hid hR3; have HMA := hid hma; have HML := hid hml
 obtain ⟨F2, hF2⟩ : ∃ F2, F2 = upd F i ms := ⟨_, rfl⟩
 rw [<- hF2] at HR3 HF2
 have HFI : Hid (F2 i = ms) := hid (by rw [hF2, upd_same])
 clear hR3 hmo hmM hma HMK HRW b0 b1 hbl hml HF hF2
 go_wp2_with fail
 go_loopw [4] (fun v4 wr => ∃ q : Nat, v4 = .int .i64 q /\ q <= n /\ Rws w0 wr (⟨50, 1, .slice ma n mc, n, ms⟩ :: ⟨45, 22, .slice (some ⟨bb, 0, none⟩) 1 1, 1, cs⟩ :: ⟨34, 1, .slice (some ⟨ob, 0, none⟩) m oc, m, ks.map (·.v)⟩ :: (mkF F2 ks i q ++ ((N ++ N2) ++ rest)))) (fun v4 _ => n - (intOf v4).toNat)
 case atStart => exact ⟨0, rfl, l1 _, HR3.out⟩
 case round => (
 obtain ⟨q, rfl, hq, hRx⟩ := hrel
 by_cases hlq : q < n
 · (
 obtain ⟨mg, rfl⟩ := HMA.out (by omega)
 obtain ⟨vg, rfl⟩ := HVA.out (by omega)
 have b0 := hRx.cell (i := 1) rfl HC.out
 have b1 := hRx.cell (i := 2) (j := i) (u := .slice (some ⟨vg, 0, none⟩) n vc) rfl (by simp [HR.out])
 have hqn : (q : Int) < (n : Int) := by omega
 obtain ⟨x, hx⟩ := j0a (xs := ms) (i := q) (by rw [HML.out]; exact hlq)
 obtain ⟨r9, hr9, _, _, rfl, hn9, _⟩ := (HF2.out i _ (Nat.lt_succ_self i) HR.out).2 q x (by rw [HFI.out]; exact hx)
 obtain ⟨xa, xc, hxv, _⟩ := hRx.shape (r := r9) (by simp only [List.mem_cons, List.mem_append] at hr9 ⊢; exact .inr (.inr (.inr (.inr (.inl hr9)))))
 rw [hn9] at hxv
 rw [hxv] at hx
 have m0 := hRx.cell (i := 0) rfl hx
 obtain ⟨⟨u0, x0⟩, y0, z0⟩ := hRx.putOldF HR.out HX.out hlq (by rw [HFI.out, HML.out])
 have HRX := hid ((hRx.putF HR.out HX.out hlq (by rw [HFI.out]; exact hx)).drew)
 clear hRx HR3 hx hn9 hxv
 go_wp2_with fail
 go_region
 go_wp2_with fail
 go_roundw
 case rel => exact ⟨q + 1, by go_num, by omega, HRX.out⟩
 case measure => simp [intOf]; omega)
 · (
 obtain rfl : n = q := by omega
 have HR4 : Hid (Rws w0 wr (⟨45, 22, .slice (some ⟨bb, 0, none⟩) 1 1, 1, cs⟩ :: ⟨34, 1, .slice (some ⟨ob, 0, none⟩) m oc, m, ks.map (·.v)⟩ :: (mkF F2 ks (i + 1) 0 ++ ((N ++ N2) ++ rest)))) := hid (by (
 have := hRx.sub (List.sublist_cons_self _ _)
 rw [v1m HR.out HX.out (by rw [HFI.out, HML.out])] at this
 exact this))
 clear hRx
 go_wp2_with fail
 go_roundw
 case rel => exact ⟨i + 1, F2, N ++ N2, by go_num, by omega, HR4.out, HF2.out⟩
 case measure => simp [intOf]; omega)))
 · (
 obtain rfl : m = i := by omega
 clear hRw
 go_wp2_with fail
 go_end0
 refine ⟨F, N, rfl, ?_, fun p r hr => HF.out p r (by have := (List.getElem?_eq_some_iff.1 hr).1; rw [HM.out]; exact this) hr⟩
 have := HRW.out
 rw [q2m (by rw [<- HM.out]; exact l0 _)] at this
 exact this))
end Go.Proofs.YtbaccmlfnbgehaaGreatDoor
namespace Go.Proofs.YtbaccmlfnbgehaaGreatDoor
open Go.RowKit Pl
theorem eqlS (x y : S) (w : World) : (binOp .eql 115 (.agg #[.int .i64 x.1, .int .i64 x.2]) (.agg #[.int .i64 y.1, .int .i64 y.2])).run prog w = .ok (.bool (decide (x = y))) w := by
 have u3 := underlying3
 have a3 := Tryz.isAgg3
 have z3 := Tryz.sizeOf3
 have hS : prog.underlying 115 = some (.struct (prog.fieldsOf 115)) := by kernel_rfl
 have hp : prog.stoodInHeld 115 = false := by kernel_rfl
 rw [run_eql_struct, show (10000 : Nat) = 9999 + 1 from rfl, run_equalIn_agg w 9999 115 _ _ hS hp]
 simp only [Program.fieldsOf, underlying115]
 go_simp
 obtain ⟨x1, x2⟩ := x; obtain ⟨y1, y2⟩ := y
 by_cases h1 : x1 = y1 <;> by_cases h2 : x2 = y2 <;> simp [h1, h2]
theorem k3y : prog.eqGuardType prog.depth 115 = false := by kernel_rfl
end Go.Proofs.YtbaccmlfnbgehaaGreatDoor
namespace Go.Proofs.YtbaccmlfnbgehaaGreatDoor
open Go.RowKit Pl
theorem x2f {α : Type} {xs ys : List α} (hl : xs.length = ys.length) (h : ∀ j, j < xs.length -> xs[j]? = ys[j]?) : xs = ys := by
 apply List.ext_getElem?
 intro j
 by_cases hj : j < xs.length
 · exact h j hj
 · rw [List.getElem?_eq_none (by omega), List.getElem?_eq_none (by omega)]
theorem p0y {a1 a2 : Option Addr} {b1 o1 c1 b2 o2 c2 : Nat} {xs ys : List S} {w : World} (h1 : SlAt encS 2 w a1 b1 o1 xs) (h2 : SlAt encS 2 w a2 b2 o2 ys) (hx : xs.length <= 1000000) (hy : ys.length <= 1000000) :
    Calls prog 110 #[.slice a1 xs.length c1, .slice a2 ys.length c2] w fun e w' => e = .returned (.bool (decide (xs = ys))) /\ ∃ n, w' = w.drewN n := by
 by_cases hl : xs.length = ys.length
 · have hlB : ((xs.length : Int) != (ys.length : Int)) = false := by simp [hl]
   have HL := Lib.hid hl; clear hl
   go_enter func110, ntmps110
   go_wp2
   go_loopw [5] (fun i wr => ∃ k m : Nat, k <= xs.length /\ i = .int .i64 k /\ (∀ j, j < k -> xs[j]? = ys[j]?) /\ wr = w.drewN m)
     (fun i _ => xs.length - (intOf i).toNat)
   case atStart => exact ⟨0, 0, l1 _, rfl, by intro j hj; omega, rfl⟩
   case round =>
     obtain ⟨k, m, hk, rfl, heq, rfl⟩ := hrel
     have HE := Lib.hid heq; clear heq
     by_cases hlt : k < xs.length
     · have hlt2 : k < ys.length := by rw [<- HL.out]; exact hlt
       obtain ⟨x, hxk⟩ := j0a hlt
       obtain ⟨y, hyk⟩ := j0a hlt2
       obtain rfl := h1.ad (by omega)
       obtain rfl := h2.ad (by omega)
       have c0 := h1.s0 hxk; have c1' := h1.s1 hxk
       have d0 := h2.s0 hyk; have d1 := h2.s1 hyk
       have hq := fun w => eqlS x y w
       have hgd := k3y
       have hi1 : (k : Int) < (xs.length : Int) := by omega
       have hi2 : (k : Int) < (ys.length : Int) := by omega
       have HX := Lib.hid hxk; have HY := Lib.hid hyk
       clear h1 h2 hxk hyk
       by_cases hxy : x = y
       · have hb : decide (x = y) = true := by simp [hxy]
         have HXY := Lib.hid hxy; clear hxy
         go_wp2_with fail
         go_quiet (fail)
         go_wp2
         go_roundw
         case rel => exact ⟨k + 1, _, by omega, by go_num, by
           intro j hj
           by_cases hjk : j = k
           · subst hjk; rw [HX.out, HY.out, HXY.out]
           · exact HE.out j (by omega), rfl⟩
         case measure => simp [intOf]; omega
       · have hb : decide (x = y) = false := by simp [hxy]
         have HXY := Lib.hid hxy; clear hxy
         go_wp2_with fail
         go_quiet (fail)
         go_wp2
         go_ret
         refine ⟨?_, _, World.drewN_drewN _ _ _⟩
         have : xs ≠ ys := fun e => HXY.out (by have h1 := HX.out; have h2 := HY.out; rw [e, h2] at h1; simpa using h1.symm)
         simp [this]
     · clear h1 h2
       have hkk : k = xs.length := by omega
       go_wp2
       go_ret
       refine ⟨?_, _, rfl⟩
       have : xs = ys := x2f HL.out (by rw [<- hkk]; exact HE.out)
       simp [this]
 · have hlB : ((xs.length : Int) != (ys.length : Int)) = true := by simp; omega
   go_enter func110, ntmps110
   go_wp2
   go_ret
   have : xs ≠ ys := fun e => hl (by rw [e])
   exact ⟨by simp [this], 0, rfl⟩
end Go.Proofs.YtbaccmlfnbgehaaGreatDoor
namespace Go.Proofs.YtbaccmlfnbgehaaGreatDoor
open Go.RowKit Pl
open Lib (hid)
theorem z0f : IsRow prog 37 113 1 24 (.slice none 0 0) := k0h underlying37 (by kernel_rfl) rfl (by decide)
theorem x0z {w : World} {i k n : Nat} (hi : i <= 400) (hk : k <= 600000) (hn : n <= 600000) :
    Calls prog 120 #[.int .i64 (i : Int), .int .i64 (k : Int), .int .i64 (n : Int)] w fun e w' => ∃ v, e = .returned v /\ w'.ownsRow w.heap.size 115 2 v n ((mkG mS i k n).flatMap encS) /\ Below w.heap.size w w' := by
 go_enter func120, ntmps120
 go_wp2_with fail
 go_loopw [7, 8] (fun v7 v8 wr => ∃ j : Nat, v8 = .int .i64 ((k : Int) + (j : Int)) /\ j <= n /\ Below w.heap.size w wr /\ wr.ownsRow w.heap.size 115 2 v7 j ((mkG mS i k j).flatMap encS)) (fun _ v8 _ => k + n - (intOf v8).toNat)
 case atStart => exact ⟨0, by simp, l1 _, Below.refl _ _, World.ownsRow_nil _ _ _ _⟩
 case round => (
 obtain ⟨j, rfl, hj, hB, hown⟩ := hrel
 have HB := hid hB; have HO := hid hown
 have hs := hB.size
 clear hB hown
 by_cases hlt : j < n
 · (
 have hltI : (k : Int) + (j : Int) < (k : Int) + (n : Int) := by omega
 go_wp2_with (at_builtin; refine j0u rfl _ _ 113 rfl u2h (base := w.heap.size) (by simp; omega) rfl (own_below HO.out ((Below.refl wr.heap.size wr).alloc (l0 _) _)) ⟨wr.heap.size, 0, none⟩ 1 1 [.int .i64 (-1 - (i : Int)), .int .i64 ((k : Int) + (j : Int))] rfl rfl (cells2 (by simp [go_sem]) (by simp [go_sem])) (by simp [Value.oneCell']) (by omega) (by omega) (by unfold maxLen; omega) _ rfl ?_; intro g cap w6 hown6 hg6 _ _)
 have hb6 := (HB.out.alloc HB.out.size _).grown hg6 (by simp; omega) (fun k hk => (HO.out.lt k hk).1)
 have HB6 := hid hb6
 have HO6 : Hid (w6.ownsRow w.heap.size 115 2 (.slice (some ⟨g, 0, none⟩) (j + 1) cap) (j + 1) ((mkG mS i k (j + 1)).flatMap encS)) := hid (by
   rw [<- q0d, List.flatMap_append]
   simpa [encS, mS] using hown6)
 clear hb6 hown6 hg6 HO HB
 go_roundw
 case rel => exact ⟨j + 1, by go_num, by omega, HB6.out, HO6.out⟩
 case measure => simp [intOf]; omega)
 · obtain rfl : n = j := by omega
   go_wp2_with fail
   go_ret
   exact ⟨_, rfl, HO.out, HB.out⟩)
theorem u1r {w : World} {bb n : Nat} {a a' : Option Addr} {ob ob' c c' : Nat} {vs us : List Value}
    (h0 : w.cell? ⟨bb, 8, none⟩ = some (.slice a n c)) (h1 : w.cell? ⟨bb, 9, none⟩ = some (.slice a' n c')) (hO : SlAt encV 1 w a ob 0 vs) (hP : SlAt encV 1 w a' ob' 0 us) (hvl : vs.length = n) (hul : us.length = n) (hn : n <= 400)
    (hR : ∀ (i : Nat) (v u : Value), vs[i]? = some v -> us[i]? = some u -> ∃ (xs : List S) (a1 : Option Addr) (b1 c1 : Nat) (a2 : Option Addr) (b2 c2 : Nat), v = .slice a1 xs.length c1 /\ u = .slice a2 xs.length c2 /\ SlAt encS 2 w a1 b1 0 xs /\ SlAt encS 2 w a2 b2 0 xs /\ xs.length <= 600000) :
    Calls prog 48 #[.pointer (some ⟨bb, 0, none⟩)] w fun e w' => e = .returned (.bool true) /\ ∃ m, w' = w.drewN m := by
 have HO := hid hO; have HP := hid hP; have HVL := hid hvl; have HUL := hid hul; have HR := hid hR
 clear hO hP hvl hul hR
 go_enter func48, ntmps48
 go_wp2_with fail
 go_loopw [3] (fun v3 wr => ∃ i m : Nat, i <= n /\ v3 = .int .i64 i /\ wr = w.drewN m) (fun v3 _ => n - (intOf v3).toNat)
 case atStart => exact ⟨0, 0, l1 _, rfl, rfl⟩
 case round => (
 obtain ⟨i, m, hi, rfl, rfl⟩ := hrel
 by_cases hlt : i < n
 · (
 obtain ⟨v, hv⟩ := j0a (xs := vs) (i := i) (by rw [HVL.out]; exact hlt)
 obtain ⟨u, hu⟩ := j0a (xs := us) (i := i) (by rw [HUL.out]; exact hlt)
 obtain ⟨xs, a1, b1, q1, a2, b2, q2, rfl, rfl, hs1, hs2, hxl⟩ := HR.out i v u hv hu
 have ha := HO.out.ad (by rw [HVL.out]; omega)
 have hb := HP.out.ad (by rw [HUL.out]; omega)
 subst ha hb
 have d0 := HO.out.cv hv
 have d1 := HP.out.cv hu
 rw [l3] at d0 d1
 have HSM : Hid (∀ mm, Calls prog 110 #[.slice a1 xs.length q1, .slice a2 xs.length q2] (w.drewN mm) fun e w' => e = .returned (.bool (decide (xs = xs))) /\ ∃ n, w' = (w.drewN mm).drewN n) := hid (fun mm => p0y (hs1.below (j0q (Below.refl _ _)) (l0 _)) (hs2.below (j0q (Below.refl _ _)) (l0 _)) (by omega) (by omega))
 have HSE : Hid (decide (xs = xs) = true) := hid (by simp)
 have hin : (i : Int) < (n : Int) := by omega
 clear hs1 hs2 hv hu hxl
 generalize xs.length = z at *
 go_wp2_with fail
 go_region_held3 (fun V => V.cell? ⟨bb, 8, none⟩ = some (.slice (some ⟨ob, 0, none⟩) n c) /\ V.cell? ⟨bb, 9, none⟩ = some (.slice (some ⟨ob', 0, none⟩) n c') /\ V.cell? ⟨ob, i, none⟩ = some (.slice a1 z q1) /\ V.cell? ⟨ob', i, none⟩ = some (.slice a2 z q2))
   (first | exact ⟨h0, h1, d0, d1⟩ | assumption)
   ((go_at_call 110; refine (HSM.out _).mono ?_; rintro e w7 ⟨rfl, mm, rfl⟩; rw [HSE.out]))
 go_wp2_with fail
 go_roundw
 case rel => exact ⟨i + 1, _, by omega, by go_num, by first | rfl | exact World.drewN_drewN _ _ _⟩
 case measure => simp [intOf]; omega)
 · obtain rfl : n = i := by omega
   go_wp2_with fail
   go_ret
   exact ⟨rfl, m, rfl⟩)
theorem v0k {w : World} {n : Nat} {a : Option Addr} {ob c : Nat} {vs : List Value} (hO : SlAt encV 1 w a ob 0 vs) (hvl : vs.length = n) (hn : n <= 400)
    (hR : ∀ (i : Nat) (v : Value), vs[i]? = some v -> ∃ (z : Nat) (a1 : Option Addr) (b1 c1 : Nat), v = .slice a1 z c1 /\ SlAt encS 2 w a1 b1 0 (mkG mS i 0 z) /\ z <= 600000) :
    Calls prog 81 #[.slice a n c] w fun e w' => e = .returned (.bool true) /\ Below w.heap.size w w' := by
 have HO := hid hO; have HVL := hid hvl; have HR := hid hR
 clear hO hvl hR
 go_enter func81, ntmps81
 go_wp2_with fail
 go_loopw [3] (fun v3 wr => ∃ i : Nat, i <= n /\ v3 = .int .i64 i /\ Below w.heap.size w wr) (fun v3 _ => n - (intOf v3).toNat)
 case atStart => exact ⟨0, l1 _, rfl, Below.refl _ _⟩
 case round => (
 obtain ⟨i, hi, rfl, hB⟩ := hrel
 by_cases hlt : i < n
 · (
 obtain ⟨v, hv⟩ := j0a (xs := vs) (i := i) (by rw [HVL.out]; exact hlt)
 obtain ⟨z, a1, b1, q1, rfl, hs1, hxl⟩ := HR.out i v hv
 have ha := HO.out.ad (by rw [HVL.out]; omega)
 subst ha
 have hob := HO.out.lt (by rw [HVL.out]; omega)
 have d0 := (HO.out.below hB (l0 _)).cv hv
 rw [l3] at d0
 have hob2 : ob < wr.heap.size := l2 hob hB.size
 have HMK := hid (fun (V : World) => x0z (w := V) (i := i) (k := 0) (n := z) (by omega) (by omega) hxl)
 have hin : (i : Int) < (n : Int) := by omega
 have HS1 := hid (hs1.below hB (l0 _))
 have HSM : Hid (∀ (V : World) (v : Value) (base : Nat), Below wr.heap.size wr V -> V.ownsRow base 115 2 v z ((mkG mS i 0 z).flatMap encS) -> Calls prog 110 #[.slice a1 z q1, v] V fun e w' => e = .returned (.bool true) /\ ∃ n, w' = V.drewN n) := hid (fun V v base hV hv => by (
 obtain ⟨a2, c2, b2, rfl, _, _, hs2, _⟩ := j0d k1p (xs := mkG mS i 0 z) (by rw [j0f]; exact hv)
 have := p0y (c1 := q1) (c2 := c2) (HS1.out.below hV (l0 _)) hs2 (by rw [j0f]; omega) (by rw [j0f]; omega)
 rw [j0f] at this
 rw [j0f]
 exact this.mono (by rintro e w7 ⟨rfl, mm, rfl⟩; exact ⟨by simp, mm, rfl⟩)))
 have HB := hid hB
 have hdr : Below wr.heap.size wr wr.drew := (Below.refl _ _).drew
 have HKP : Hid (∀ V, Below wr.heap.size wr V -> V.cell? ⟨ob, i, none⟩ = some (.slice a1 z q1) /\ ob < V.heap.size /\ Below wr.heap.size wr V) := hid (fun V hV => ⟨by rw [hV.cell (p := ⟨ob, i, none⟩) hob2]; exact d0, l2 hob2 hV.size, hV⟩)
 clear hs1 hv hxl hB hob
 go_wp2_with fail
 go_region_held3 (fun V => V.cell? ⟨ob, i, none⟩ = some (.slice a1 z q1) /\ ob < V.heap.size /\ Below wr.heap.size wr V)
   (first | (exact HKP.out _ (by assumption)) | assumption)
   (first
     | (go_at_call 120; go_split_ands; refine (HMK.out _).mono ?_; rintro e w7 ⟨v7, rfl, hown7, hB7⟩; have hW7 : Below wr.heap.size wr w7 := Below.trans (by assumption) (hB7.mono (Below.size (by assumption))))
     | (go_at_call 110; go_split_ands; refine (HSM.out _ _ _ (by assumption) (by assumption)).mono ?_; rintro e w8 ⟨rfl, mm, rfl⟩; have hW8 : Below wr.heap.size wr _ := j0q (n := mm) (by assumption)))
 all_goals go_split_ands
 all_goals go_wp2_with fail
 all_goals (
 go_roundw
 case rel => exact ⟨i + 1, by omega, by go_num, HB.out.trans (Below.mono (by assumption) HB.out.size)⟩
 case measure => simp [intOf]; omega))
 · obtain rfl : n = i := by omega
   go_wp2_with fail
   go_ret
   exact ⟨rfl, hB⟩)
end Go.Proofs.YtbaccmlfnbgehaaGreatDoor

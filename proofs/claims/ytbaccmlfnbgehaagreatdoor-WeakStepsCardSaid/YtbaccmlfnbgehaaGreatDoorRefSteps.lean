/-
  Lemmas.
-/
import Derived.Test.YtbaccmlfnbgehaaGreatDoorGRowTwo
import Derived.Test.YtbaccmlfnbgehaaGreatDoorTauI
import Derived.Deep.RegionHeld3
import Derived.Deep.QuietTactic
import Derived.BigQuiet
import Derived.BigRegion
open Array renaming getElem?_eq_some_iff → l4
open Nat renaming le_refl → l5, lt_of_lt_of_le → l6, zero_le → l8, eq_zero_or_pos → m5, lt_irrefl → m7
open List renaming flatMap_append → l7, range_succ → l9, filter_append → m3, length_append → m4, append_assoc → m6
open Go.Proofs.Tryz
namespace Go.Proofs.YtbaccmlfnbgehaaGreatDoor
open Go.RowKit Pl
open Lib (hid)
noncomputable def stpL (s : Lts) (n lb p : Nat) : List S := rowsL lb n (kZ (silG s) p (visZ s.norm (silG s) p n))
set_option maxRecDepth 100000 in
set_option maxHeartbeats 16000000 in
theorem q1b {s : Lts} {n lb : Nat} (hr : s.Right) (hn : s.st = (n : Int)) (hlb : s.lb = (lb : Int)) (hn3 : n <= 300) {a : Option Addr} {b off c : Nat} {w : World} (hS : SlAt encE 3 w a b off s.es) (hc : s.es.length <= c) (hcm : c <= maxLen) :
    Calls prog 89 #[.agg #[.int .i64 s.st, .int .i64 s.lb, .int .i64 s.s0, .slice a s.es.length c]] w fun e w' => ∃ ob, e = .returned (.slice (some ⟨ob, 0, none⟩) n n) /\ StepsIn w' ob n (stpL s n lb) /\ w.heap.size <= ob /\ Below w.heap.size w w' := by
 have hst := hr.st0
 have hl1 : 1 <= lb /\ lb <= 201 := by omega
 have hmkL := run_make_row' (P := prog) 37 113 (.slice none 0 0) 24 underlying37 (by kernel_rfl) rfl .i64 .i64 n (by omega) (by omega)
 have hmkT := run_make_row' (P := prog) 31 57 (.slice none 0 0) 24 underlying31 (by kernel_rfl) rfl .i64 .i64 lb (by omega) (by omega)
 have hmkR := run_make_row' (P := prog) 57 4 (.bool false) 1 underlying57 (by kernel_rfl) rfl .i64 .i64 n (by omega) (by omega)
 obtain ⟨W, hW⟩ : ∃ W, W = w.alloc (Obj.cells #[.int .i64 s.st, .int .i64 s.lb, .int .i64 s.s0, .slice a s.es.length c] 24) := ⟨_, rfl⟩
 have hB0 : Below w.heap.size w W := by rw [hW]; exact (Below.refl w.heap.size w).alloc (l5 _) _
 have hbx := heap_alloc_new w (Obj.cells #[.int .i64 s.st, .int .i64 s.lb, .int .i64 s.s0, .slice a s.es.length c] 24)
 rw [<- hW] at hbx
 have HSI : Hid (∀ V, Below W.heap.size W V -> Calls prog 29 #[.agg #[.int .i64 s.st, .int .i64 s.lb, .int .i64 s.s0, .slice a s.es.length c]] V fun e w' => ∃ la lb lc, e = .returned (.slice la n lc) /\ (0 < n -> la = some ⟨lb, 0, none⟩) /\ BoolsIn w' lb n (silG s) /\ Below V.heap.size V w') := hid (fun V hV => x0p hr hn ((hS.below hB0 (l5 _)).below hV (l5 _)) hc hcm)
 have HOU : Hid (∀ V, Below W.heap.size W V -> Calls prog 33 #[.agg #[.int .i64 s.st, .int .i64 s.lb, .int .i64 s.s0, .slice a s.es.length c]] V fun e w' => ∃ ob, e = .returned (.slice (some ⟨ob, 0, none⟩) n n) /\ StepsIn w' ob n (fun p => s.norm.outs (p : Int)) /\ Below V.heap.size V w') := hid (fun V hV => by (
 refine (u0y hr ((hS.below hB0 (l5 _)).below hV (l5 _)) hc hcm).mono ?_
 rintro e w' ⟨ob, n', base, hn', rfl, hrows, _, hB⟩
 obtain rfl : n = n' := by omega
 exact ⟨ob, rfl, StepsIn.of hrows, hB⟩))
 obtain ⟨el, hel⟩ : ∃ el, el = s.es.length := ⟨_, rfl⟩
 rw [hn, hlb, <- hel] at HSI HOU hbx hW
 rw [hn, hlb, <- hel]
 have HWE := hid hW
 have HB0 := hid hB0; have HBX := hid hbx; have HR := hid hr; have HN := hid hn; have HLB := hid hlb
 obtain ⟨x0, x1, x2, x3, x4⟩ := q0j hbx
 clear hB0 hbx hr hn hlb hS hc hcm hst hel hW
 go_enter func89, ntmps89
 go_wp2_with fail
 rw [<- HWE.out]
 go_cut [3, 4] from 14 to 18 (fun v3 v4 wx => ∃ la lc sb ob, v3 = .slice la n lc /\ v4 = .slice (some ⟨ob, 0, none⟩) n n /\ (0 < n -> la = some ⟨sb, 0, none⟩) /\ BoolsIn wx sb n (silG s) /\ StepsIn wx ob n (fun p => s.norm.outs (p : Int)) /\ Below W.heap.size W wx)
 case first => (
 have HK : Hid (∀ V, Below W.heap.size W V -> (V.cell? ⟨w.heap.size, 0, none⟩ = some (.int .i64 n) /\ V.cell? ⟨w.heap.size, 1, none⟩ = some (.int .i64 lb) /\ V.cell? ⟨w.heap.size, 2, none⟩ = some (.int .i64 s.s0) /\ V.cell? ⟨w.heap.size, 3, none⟩ = some (.slice a el c))) := hid (fun V hV => by
   have hx := (hV.block w.heap.size x4).trans HBX.out
   refine ⟨?_, ?_, ?_, ?_⟩ <;> simp [World.cell?, hx])
 go_region_held3 (fun w' => w'.cell? ⟨w.heap.size, 0, none⟩ = some (.int .i64 n) /\ w'.cell? ⟨w.heap.size, 1, none⟩ = some (.int .i64 lb) /\ w'.cell? ⟨w.heap.size, 2, none⟩ = some (.int .i64 s.s0) /\ w'.cell? ⟨w.heap.size, 3, none⟩ = some (.slice a el c))
   (first | exact HK.out _ (Below.refl _ _).drew | exact HK.out _ (j0q (Below.refl _ _)) | exact HK.out _ hb5 | exact HK.out _ hb6)
   (first
     | (go_at_call 29; refine (HSI.out _ (Below.refl _ _).drew).mono ?_; rintro e w5 ⟨la, sb, lc, rfl, hla, hbo, hB5⟩; have hb5 : Below W.heap.size W w5 := (Below.refl _ _).drew.trans hB5)
     | (go_at_call 33; refine (HOU.out _ hb5).mono ?_; rintro e w6 ⟨ob, rfl, hso, hB6⟩; have hb6 : Below W.heap.size W w6 := hb5.trans (hB6.mono hb5.size)))
 all_goals (
 have HBO := hid (hbo.below hB6); have HSO := hid hso; have HB6 := hid hb6; have HLA := hid hla
 clear hbo hso hb6 hb5 hB5 hB6 hla
 go_wp2_with fail
 go_meet
 exact ⟨la, lc, sb, ob, rfl, rfl, HLA.out, HBO.out, HSO.out, HB6.out⟩))
 case rest => (
 obtain ⟨la, lc, sb, ob, rfl, rfl, hla, hbo, hso, hbx⟩ := hcut
 obtain ⟨wS, hwS⟩ : ∃ wS, wS = wc := ⟨_, rfl⟩
 subst hwS
 have hx := (hbx.block w.heap.size x4).trans HBX.out
 have HLA := hid hla; have HBO := hid hbo; have HSO := hid hso; have HBW := hid hbx; have HX := hid hx
 clear x0 x1 x2 x3 x4
 obtain ⟨x0, x1, x2, x3, x4⟩ := q0j hx
 clear hla hbo hso hbx hx HSI HOU
 go_wp2_with fail
 obtain ⟨w1, hw1⟩ : ∃ w1, w1 = wS.alloc (.cells (madeCells #[.slice none 0 0] n) 113) := ⟨_, rfl⟩
 have how : OW w1 w1 wS.heap.size n (fun _ => []) := by (
 have hs1 : w1.heap.size = wS.heap.size + 1 := by rw [hw1]; simp
 refine ⟨?_, Below.refl _ _ , fun _ _ _ => rfl⟩
 rw [hs1, hw1]
 exact OwnRows.made)
 have hb1 : Below wS.heap.size wS w1 := by rw [hw1]; exact (Below.refl _ _).alloc (l5 _) _
 rw [<- hw1]
 obtain ⟨lo, hlo⟩ : ∃ lo, lo = wS.heap.size := ⟨_, rfl⟩
 rw [<- hlo] at how ⊢
 have HLO := hid hlo; have HOW := hid how; have HB1 := hid hb1
 have hlx : w.heap.size < lo := by rw [hlo]; exact x4
 have HBS : Hid (∀ wr f, OW w1 wr lo n f -> Below wS.heap.size wS wr) := hid (fun wr f h => by (
 have h1 := h.bel
 rw [hlo] at h1
 exact hb1.trans h1))
 clear hw1 how hb1 hlo x0 x1 x2 x3 x4 hmkL
 go_loopw [6, 7, 8, 9, 10, 11, 12, 13] (fun v6 _ _ _ _ _ _ _ wr => ∃ p : Nat, v6 = .int .i64 p /\ p <= n /\ OW w1 wr lo n (fun q => if q < p then stpL s n lb q else [])) (fun v6 _ _ _ _ _ _ _ _ => n - (intOf v6).toNat)
 case atStart => exact ⟨0, rfl, l8 _, HOW.out.congr (fun i => by simp)⟩
 case round => (
 obtain ⟨p, rfl, hp, how⟩ := hrel
 have HOW2 := hid how
 have hbs := HBS.out _ _ how
 have hxr := (hbs.block w.heap.size (l4.1 HX.out).1).trans HX.out
 obtain ⟨x0, x1, x2, x3, x4⟩ := q0j hxr
 have HBR := hid hbs; have HXR := hid hxr
 clear how hbs hxr x2 x3 HOW
 by_cases hpn : p < n
 · (
 have hpI : (p : Int) < (n : Int) := by omega
 obtain ⟨s0, hs0S, hrowS⟩ := HBO.out.at_ p hpn
 have HRS0 := hid hrowS
 have hs0 : wr.cell? ⟨sb, p, none⟩ = some (.slice (some ⟨s0, 0, none⟩) n n) := by rw [HBR.out.cell (p := ⟨sb, p, none⟩) (HBO.out.lt (by omega))]; exact hs0S
 have hrow0 := hrowS.of_block (HBR.out.block _ hrowS.lt)
 clear hs0S hrowS
 have hsl := (HBO.out.below HBR.out).lt (by omega)
 obtain rfl := HLA.out (by omega)
 have HR0 := hid hrow0
 clear hrow0
 go_upto_region 7 with fail
 obtain ⟨wT, hwT⟩ : ∃ wT, wT = wr.alloc (.cells (madeCells #[.slice none 0 0] lb) 57) := ⟨_, rfl⟩
 have hto : ToM (wT.setCell ⟨wr.heap.size, 0, none⟩ (.slice (some ⟨s0, 0, none⟩) n n)) wr.heap.size lb n s0 (hZ (silG s) []) := by
   rw [hwT]; exact (ToM.made wr (by omega) n s0).congr (fun l => (k3x l).symm)
 have hrt := World.rowIs_made wr (.slice none 0 0) lb 57
 rw [<- hwT] at hrt
 have t0 := hrt.cell (show 0 < lb by omega)
 have t1 := hrt.frozen 0
 have tl := hrt.lt
 have hbT : Below wr.heap.size wr wT := by rw [hwT]; exact (Below.refl _ _).alloc (l5 _) _
 have s1 : wT.cell? ⟨sb, p, none⟩ = some (.slice (some ⟨s0, 0, none⟩) n n) := by rw [hbT.cell (p := ⟨sb, p, none⟩) hsl]; exact hs0
 have sl : sb < wT.heap.size := l6 hsl hbT.size
 have hbT2 := hbT.setCell (p := ⟨wr.heap.size, 0, none⟩) (l5 _) (.slice (some ⟨s0, 0, none⟩) n n)
 obtain ⟨wA, hwA⟩ : ∃ wA, wA = wr := ⟨_, rfl⟩
 subst hwA
 rw [<- hwT]
 obtain ⟨tb, htb⟩ : ∃ tb, tb = wA.heap.size := ⟨_, rfl⟩
 rw [<- htb] at hto t0 t1 tl hbT2 ⊢
 have HTO := hid hto; have HBT := hid hbT2; have HTB := hid htb
 have HS0 := hid hs0
 have HOS := hid (HSO.out.below HBR.out)
 have HBA := hid (HBO.out.below HBR.out)
 clear hwT hto hrt hbT hbT2 htb hs0 x0 x1 x4
 go_wp2_with fail
 clear t0 t1 tl s1 sl
 go_loopw [8, 9, 10, 11] (fun v8 _ _ _ wr => ∃ q : Nat, v8 = .int .i64 q /\ q <= n /\ Below wA.heap.size wA wr /\ ToM wr tb lb n s0 (hZ (silG s) (visZ s.norm (silG s) p q))) (fun v8 _ _ _ _ => n - (intOf v8).toNat)
 case atStart => exact ⟨0, rfl, l8 _, by have h := HBT.out; rw [HTB.out] at h; rw [HTB.out]; exact h, HTO.out.congr (fun l => by simp [visZ])⟩
 case round => (
 obtain ⟨q, rfl, hq, hB, hto⟩ := hrel
 have HB := hid hB; have HT := hid hto
 have hxr := (hB.block w.heap.size (l4.1 HXR.out).1).trans HXR.out
 obtain ⟨x0, x1, x2, x3, x4⟩ := q0j hxr
 have hws := hB.size
 clear hB hto hxr x2 x3 HTO HBT
 by_cases hqn : q < n
 · (
 have hqI : (q : Int) < (n : Int) := by omega
 have b0 : wr.cell? ⟨sb, p, none⟩ = some (.slice (some ⟨s0, 0, none⟩) n n) := by rw [HB.out.cell (p := ⟨sb, p, none⟩) hsl]; exact HS0.out
 have bl : sb < wr.heap.size := by omega
 have b1 := (HR0.out.of_block (HB.out.block s0 HR0.out.lt)).cell hqn
 have bl2 : s0 < wr.heap.size := l6 HR0.out.lt hws
 have HVS : Hid (visZ s.norm (silG s) p (q + 1) = visZ s.norm (silG s) p q ++ (if silG s p q then (s.norm.outs (q : Int)).filter (fun x => !decide (x.1 = 0)) else [])) := hid (by unfold visZ; rw [l9, l7]; simp)
 by_cases hg : silG s p q = true
 · (
 rw [hg] at b1
 have HVS2 : Hid (visZ s.norm (silG s) p (q + 1) = visZ s.norm (silG s) p q ++ (s.norm.outs (q : Int)).filter (fun x => !decide (x.1 = 0))) := hid (by rw [HVS.out, if_pos hg])
 clear hg
 obtain ⟨oa, oc, oo, off2, ho0, hos⟩ := HOS.out.at_ q hqn
 have hol := HOS.out.lt
 have HO0 := hid ho0; have HOSL := hid hos
 obtain ⟨os, hose⟩ : ∃ os, os = s.norm.outs (q : Int) := ⟨_, rfl⟩
 rw [<- hose] at HO0 HOSL HVS2
 have HOE := hid hose
 have hosl : os.length <= 10000 := by rw [hose]; exact q0c HR.out.norm _
 obtain ⟨ol, hole⟩ : ∃ ol, ol = os.length := ⟨_, rfl⟩
 rw [<- hole] at HO0 hosl
 have HOLE := hid hole
 clear ho0 hos hose hole
 go_wp2_with fail
 clear b0 bl b1 bl2 x0 x1 x4
 go_loopw [9, 10, 11] (fun v9 _ _ wr => ∃ k : Nat, v9 = .int .i64 k /\ k <= ol /\ Below wA.heap.size wA wr /\ ToM wr tb lb n s0 (hZ (silG s) (visZ s.norm (silG s) p q ++ (os.take k).filter (fun x => !decide (x.1 = 0))))) (fun v9 _ _ _ => ol - (intOf v9).toNat)
 case atStart => exact ⟨0, rfl, l8 _, HB.out, HT.out.congr (fun l => by simp)⟩
 case round => (
 obtain ⟨k, rfl, hk, hB, hto⟩ := hrel
 have HB := hid hB; have HT := hid hto
 have hxr := (hB.block w.heap.size (l4.1 HXR.out).1).trans HXR.out
 obtain ⟨x0, x1, x2, x3, x4⟩ := q0j hxr
 have hws := hB.size
 have o0 : wr.cell? ⟨ob, q, none⟩ = some (.slice oa ol oc) := by rw [hB.cell (p := ⟨ob, q, none⟩) hol]; exact HO0.out
 have ol2 : ob < wr.heap.size := by omega
 clear hB hto hxr x1 x2 x3
 by_cases hkl : k < ol
 · (
 have hkI : (k : Int) < (ol : Int) := by omega
 obtain ⟨x, hx⟩ := j0a (xs := os) (i := k) (by rw [<- HOLE.out]; exact hkl)
 have hss := HOSL.out.below HB.out (l5 _)
 obtain rfl := hss.ad (by rw [<- HOLE.out]; omega)
 have d0 := hss.s0 hx; have d1 := hss.s1 hx
 have dl := hss.lt (by rw [<- HOLE.out]; omega)
 have hxm : x ∈ s.norm.outs (q : Int) := by rw [<- HOE.out]; exact List.mem_of_getElem? hx
 have hyr := j0g.1 (HR.out.norm.edges _ (j0s.1 hxm))
 have hst2 : s.norm.st = (n : Int) := HN.out
 have hlb2 : s.norm.lb = (lb : Int) := HLB.out
 simp only at hyr
 obtain ⟨y1, y2⟩ := x
 simp only at d0 d1 hyr
 obtain ⟨t, rfl⟩ := Int.eq_ofNat_of_zero_le hyr.2.2.2.2.1
 obtain ⟨m, rfl⟩ := Int.eq_ofNat_of_zero_le hyr.2.2.1
 have htn : t < n := by omega
 have hml : m < lb := by omega
 have hmI : (m : Int) < (lb : Int) := by omega
 have htI : (t : Int) < (n : Int) := by omega
 have HX2 := hid hx
 clear hss hx hxm hyr hst2 hlb2
 rcases m5 m with rfl | hm0
 · have HNX : Hid ((os.take (k + 1)).filter (fun x => !decide (x.1 = 0)) = (os.take k).filter (fun x => !decide (x.1 = 0))) := hid (by rw [take_snoc HX2.out, m3]; simp)
   go_wp2_with fail
   go_roundw
   case rel => exact ⟨k + 1, by go_num, by omega, HB.out.alloc HB.out.size _, by rw [HNX.out]; exact HT.out.call ((Below.refl _ _).alloc (l5 _) _)⟩
   case measure => simp [intOf]; omega
 · (
 have HNX : Hid ((os.take (k + 1)).filter (fun x => !decide (x.1 = 0)) = (os.take k).filter (fun x => !decide (x.1 = 0)) ++ [((m : Int), (t : Int))]) := hid (by (
 rw [take_snoc HX2.out, m3]
 have : ¬ m = 0 := by omega
 simp [this]))
 have hm0I : ((m : Int) == 0) = false := by simp; omega
 go_upto_region 16 with fail
 obtain ⟨wX, hwX⟩ : ∃ wX, wX = wr.alloc (.cells #[.int .i64 (m : Int), .int .i64 (t : Int)] 115) := ⟨_, rfl⟩
 have hbX : Below wr.heap.size wr wX := by rw [hwX]; exact (Below.refl _ _).alloc (l5 _) _
 have hxb : wX.heap[wr.heap.size]? = some (.cells #[.int .i64 (m : Int), .int .i64 (t : Int)] 115 (0, 0)) := by rw [hwX]; exact heap_alloc_new wr _
 rw [<- hwX]
 obtain ⟨X, hX⟩ : ∃ X, X = wr.heap.size := ⟨_, rfl⟩
 rw [<- hX] at hxb ⊢
 obtain ⟨Z, hZe⟩ : ∃ Z, Z = visZ s.norm (silG s) p q ++ (os.take k).filter (fun x => !decide (x.1 = 0)) := ⟨_, rfl⟩
 rw [<- hZe] at HT
 have HZN : Hid (visZ s.norm (silG s) p q ++ (os.take (k + 1)).filter (fun x => !decide (x.1 = 0)) = Z ++ [((m : Int), (t : Int))]) := hid (by rw [HNX.out, hZe, m6])
 have htX := HT.out.call hbX
 have htb2 : tb <= X := by have := HT.out.lt; omega
 have hXne : X ≠ tb := by have := HT.out.lt; omega
 have HTX := hid htX; have HBX2 := hid (HB.out.trans (hbX.mono HB.out.size)); have HXB := hid hxb
 have e0 : wX.cell? ⟨X, 0, none⟩ = some (.int .i64 (m : Int)) := by simp [World.cell?, hxb]
 have el0 := (l4.1 hxb).1
 have z0 : wX.cell? ⟨w.heap.size, 0, none⟩ = some (.int .i64 n) := by rw [hbX.cell (p := ⟨w.heap.size, 0, none⟩) x4]; exact x0
 have z4 : w.heap.size < wX.heap.size := l6 x4 hbX.size
 clear hwX hbX hxb hZe htX d0 d1 dl o0 ol2 x0 HT HB hX
 have hcut0 : ∃ old : Nat -> Bool, old = fun r => ((hZ (silG s) Z m).map (fun g => g r)).getD false := ⟨_, rfl⟩
 obtain ⟨old, hold⟩ := hcut0
 have HOLD := hid hold
 clear hold
 have hc0 : ∃ (ta : Option Addr) (tn tc : Nat) (nb : Bool), wX.cell? ⟨tb, m, none⟩ = some (.slice ta tn tc) /\ ta.isNone = nb /\ ((nb = true /\ hZ (silG s) Z m = none) ∨ (nb = false /\ ∃ g, hZ (silG s) Z m = some g)) := by (
 cases hzm : hZ (silG s) Z m with
 | none => exact ⟨none, 0, 0, true, HTX.out.gone hm0 hml hzm, rfl, .inl ⟨rfl, rfl⟩⟩
 | some g =>
   obtain ⟨bb, c0, _⟩ := HTX.out.at hm0 hml hzm
   exact ⟨_, n, n, false, c0, rfl, .inr ⟨rfl, g, rfl⟩⟩)
 obtain ⟨ta, tn, tc, nb, c0, hnb, hor⟩ := hc0
 have heq := fun (w : World) => Lib.run_eql_slice_nil (P := prog) w 57 4 ta tn tc 0 0 underlying57
 rw [hnb] at heq
 clear hnb
 have tl := HTX.out.lt
 have HOR := hid hor
 clear hor
 go_upto_if 74 with fail
 go_cut [] from 69 to 81 (fun wx => Below wA.heap.size wA wx /\ wx.heap[X]? = some (.cells #[.int .i64 (m : Int), .int .i64 (t : Int)] 115 (0, 0)) /\ ToM wx tb lb n s0 (fun l => if l = m then some old else hZ (silG s) Z l))
 case first => (
 have t1 := HTX.out.fz m
 rcases HOR.out with ⟨rfl, hzm⟩ | ⟨rfl, g, hzm⟩
 · (
 have HZM := hid hzm
 clear hzm
 go_wp2_with fail
 go_region
 have hnx : ToM ((wX.setCell ⟨tb, m, none⟩ (.slice (some ⟨wX.heap.size, 0, none⟩) n n)).alloc (.cells (madeCells #[.bool false] n) 4)).drew tb lb n s0 (fun l => if l = m then some old else hZ (silG s) Z l) :=
   ((HTX.out.new hm0 hml HZM.out).call (Below.refl _ _).drew).congr (fun l => by
     by_cases e : l = m
     · rw [if_pos e, if_pos e, HOLD.out, HZM.out]; rfl
     · rw [if_neg e, if_neg e])
 have HNX2 := hid hnx
 have hsz2 : wX.heap.size = (wX.setCell ⟨tb, m, none⟩ (.slice (some ⟨wX.heap.size, 0, none⟩) n n)).heap.size := by rw [size_setCell]
 have hbn := ((HBX2.out.setCell (p := ⟨tb, m, none⟩) (by show wA.heap.size <= tb; have := HTB.out; omega) (.slice (some ⟨wX.heap.size, 0, none⟩) n n)).alloc (by rw [<- hsz2]; exact HBX2.out.size) (.cells (madeCells #[.bool false] n) 4)).drew
 have HBN := hid hbn
 have hxn : ((wX.setCell ⟨tb, m, none⟩ (.slice (some ⟨wX.heap.size, 0, none⟩) n n)).alloc (.cells (madeCells #[.bool false] n) 4)).drew.heap[X]? = some (.cells #[.int .i64 (m : Int), .int .i64 (t : Int)] 115 (0, 0)) :=
   ((Below.heap_alloc _ _ _ (by rw [<- hsz2]; exact el0)).trans (Below.heap_setCell _ _ _ _ hXne)).trans HXB.out
 have HXN := hid hxn
 clear hnx hbn hxn hsz2
 go_wp2_with fail
 go_meet
 exact ⟨HBN.out, HXN.out, HNX2.out⟩)
 · (
 have HTF : Hid (ToM wX tb lb n s0 (fun l => if l = m then some old else hZ (silG s) Z l)) := hid (HTX.out.congr (fun l => by (
 by_cases e : l = m
 · subst e; rw [if_pos rfl, hzm, HOLD.out, hzm]; rfl
 · rw [if_neg e])))
 clear hzm
 go_wp2_with fail
 go_meet
 exact ⟨HBX2.out, HXB.out, HTF.out⟩))
 case rest => (
 obtain ⟨hB, hxb, hto⟩ := hcut
 have HB3 := hid hB; have HXB3 := hid hxb; have HT3 := hid hto
 clear hB hxb hto HTX HBX2 HXB e0 el0 z0 z4 c0 heq tl HOR
 go_wp2_with fail
 go_loopw [11] (fun v11 wr => ∃ r : Nat, v11 = .int .i64 r /\ r <= n /\ Below wA.heap.size wA wr /\ wr.heap[X]? = some (.cells #[.int .i64 (m : Int), .int .i64 (t : Int)] 115 (0, 0)) /\ ToM wr tb lb n s0 (fun l => if l = m then some (fun r' => if r' < r then (old r' || silG s t r') else old r') else hZ (silG s) Z l)) (fun v11 _ => n - (intOf v11).toNat)
 case atStart => exact ⟨0, rfl, l8 _, HB3.out, HXB3.out, HT3.out.congr (fun l => by simp)⟩
 case round => (
 obtain ⟨r, rfl, hr, hB, hxb, hto⟩ := hrel
 have HB4 := hid hB; have HT4 := hid hto; have HXB4 := hid hxb
 have hxr := (hB.block w.heap.size (l4.1 HXR.out).1).trans HXR.out
 obtain ⟨x0, x1, x2, x3, x4⟩ := q0j hxr
 have hws := hB.size
 clear hB hxr x1 x2 x3 HB3 HXB3 HT3
 by_cases hrn : r < n
 · (
 have hrI : (r : Int) < (n : Int) := by omega
 obtain ⟨bb, c0, hbb, hrow, hset⟩ := hto.at hm0 hml (g := fun r' => if r' < r then (old r' || silG s t r') else old r') (by rw [if_pos rfl])
 have c1 := hrow.cell hrn
 rw [if_neg (by omega)] at c1
 have c2 := hrow.frozen r
 have cl := hrow.lt
 have tl := hto.lt
 obtain ⟨s2, q0, hrow2⟩ := HBA.out.at_ t htn
 have q1 : wr.cell? ⟨sb, t, none⟩ = some (.slice (some ⟨s2, 0, none⟩) n n) := by rw [HB4.out.cell (p := ⟨sb, t, none⟩) hsl]; exact q0
 have q2 := (hrow2.of_block (HB4.out.block s2 hrow2.lt)).cell hrn
 have q3 : s2 < wr.heap.size := l6 hrow2.lt hws
 have q4 : sb < wr.heap.size := by omega
 have hXb : X ≠ bb := fun e => by (
 obtain ⟨cs, hc, _⟩ := hrow
 rw [<- e, hxb] at hc
 simp at hc)
 have e0 : wr.cell? ⟨X, 0, none⟩ = some (.int .i64 (m : Int)) := by simp [World.cell?, hxb]
 have e1 : wr.cell? ⟨X, 1, none⟩ = some (.int .i64 (t : Int)) := by simp [World.cell?, hxb]
 have el := (l4.1 hxb).1
 have HST : Hid (ToM (wr.setCell ⟨bb, r, none⟩ (.bool (old r || silG s t r))) tb lb n s0 (fun l => if l = m then some (fun r' => if r' < r + 1 then (old r' || silG s t r') else old r') else hZ (silG s) Z l)) := hid ((hset r (old r || silG s t r)).congr (fun l => by (
 by_cases e : l = m
 · (
 rw [if_pos e, if_pos e]
 congr 1
 funext r'
 by_cases e2 : r' = r
 · subst e2; simp
 · rw [if_neg e2]
   by_cases e3 : r' < r
   · rw [if_pos e3, if_pos (by omega)]
   · rw [if_neg e3, if_neg (by omega)])
 · rw [if_neg e, if_neg e, if_neg e])))
 have HXS : Hid (∀ x, (wr.setCell ⟨bb, r, none⟩ x).heap[X]? = some (.cells #[.int .i64 (m : Int), .int .i64 (t : Int)] 115 (0, 0))) := hid (fun x => (Below.heap_setCell _ _ _ _ hXb).trans hxb)
 have HBS2 : Hid (∀ x, Below wA.heap.size wA (wr.setCell ⟨bb, r, none⟩ x)) := hid (fun x => HB4.out.setCell (by show wA.heap.size <= bb; have := HTB.out; omega) x)
 clear hrow hrow2 hset hto hxb q0
 cases ho : old r with
 | true => (
 rw [ho] at c1 HST
 clear ho
 simp only [Bool.true_or] at HST
 go_wp2_with fail
 go_region
 go_wp2_with fail
 go_roundw
 case rel => exact ⟨r + 1, by go_num, by omega, (HBS2.out _).drew, HXS.out _, HST.out.call (Below.refl _ _).drew⟩
 case measure => simp [intOf]; omega)
 | false => (
 rw [ho] at c1 HST
 clear ho
 simp only [Bool.false_or] at HST
 go_wp2_with fail
 go_region
 go_wp2_with fail
 go_roundw
 case rel => exact ⟨r + 1, by go_num, by omega, (HBS2.out _).drew, HXS.out _, HST.out.call (Below.refl _ _).drew⟩
 case measure => simp [intOf]; omega))
 · (
 obtain rfl : n = r := by omega
 have HTF : Hid (ToM wr tb lb n s0 (hZ (silG s) (Z ++ [((m : Int), (t : Int))]))) := hid (by (
 refine HT4.out.congrN (fun l => ?_) (fun l g g' hg hg' q hq => ?_)
 · (
 by_cases e : l = m
 · subst e
   rw [if_pos rfl]
   cases hz : hZ (silG s) Z l with
   | none => rw [u2m hz]; simp
   | some g => rw [u2l hz]; simp
 · rw [if_neg e, v1y (by simp; omega)])
 · (
 by_cases e : l = m
 · (
 subst e
 rw [if_pos rfl] at hg
 obtain rfl := Option.some.inj hg
 dsimp only
 rw [if_pos hq, HOLD.out]
 dsimp only
 cases hz : hZ (silG s) Z l with
 | none => rw [u2m hz] at hg'; obtain rfl := Option.some.inj hg'; simp
 | some g => rw [u2l hz] at hg'; obtain rfl := Option.some.inj hg'; simp)
 · rw [if_neg e] at hg
   rw [v1y (by simp; omega), hg] at hg'
   rw [Option.some.inj hg'])))
 clear hto hxb
 go_wp2_with fail
 go_roundw
 case rel => exact ⟨k + 1, by go_num, by omega, HB4.out, by rw [HZN.out]; exact HTF.out⟩
 case measure => simp [intOf]; omega)))))
 · (
 obtain rfl : ol = k := by omega
 have HNX : Hid (visZ s.norm (silG s) p (q + 1) = visZ s.norm (silG s) p q ++ (os.take ol).filter (fun x => !decide (x.1 = 0))) := hid (by rw [HVS2.out, List.take_of_length_le (by rw [HOLE.out]; exact l5 _)])
 go_wp2_with fail
 go_roundw
 case rel => exact ⟨q + 1, by go_num, by omega, HB.out, by rw [HNX.out]; exact HT.out⟩
 case measure => simp [intOf]; omega)))
 · (
 simp only [Bool.not_eq_true] at hg
 rw [hg] at b1
 have HVS2 : Hid (visZ s.norm (silG s) p (q + 1) = visZ s.norm (silG s) p q) := hid (by rw [HVS.out, hg]; simp)
 clear hg
 go_wp2_with fail
 go_roundw
 case rel => exact ⟨q + 1, by go_num, by omega, HB.out, by rw [HVS2.out]; exact HT.out⟩
 case measure => simp [intOf]; omega))
 · (
 obtain rfl : n = q := by omega
 obtain ⟨Kp, hKp⟩ : ∃ Kp, Kp = kZ (silG s) p (visZ s.norm (silG s) p n) := ⟨_, rfl⟩
 obtain ⟨H, hH⟩ : ∃ H, H = hZ (silG s) (visZ s.norm (silG s) p n) := ⟨_, rfl⟩
 rw [<- hH] at HT
 have HK0 : Hid (∀ r, Kp 0 r = silG s p r) := hid (fun r => by rw [hKp]; unfold kZ; rw [if_pos rfl])
 have HKN : Hid (∀ l, 0 < l -> H l = none -> ∀ r, Kp l r = false) := hid (fun l hl h r => by rw [hKp]; unfold kZ; rw [if_neg (by omega), <- hH, h]; rfl)
 have HKS : Hid (∀ l g, 0 < l -> H l = some g -> ∀ r, Kp l r = g r) := hid (fun l g hl h r => by rw [hKp]; unfold kZ; rw [if_neg (by omega), <- hH, h]; rfl)
 have HSTP : Hid (stpL s n lb p = rowsL lb n Kp) := hid (by unfold stpL; rw [hKp])
 have how0 := (HOW2.out.call HB.out).congr (f' := fun q => if q < p then stpL s n lb q else if q = p then rowsL 0 n Kp else []) (fun q => by (
 by_cases e : q < p
 · rw [if_pos e, if_pos e]
 · rw [if_neg e, if_neg e]
   by_cases e2 : q = p
   · rw [if_pos e2]; simp [rowsL]
   · rw [if_neg e2]))
 have HOB := hid how0
 have hlot : lo < tb := by have h1 := HOW2.out.bel.size; have h2 := HOW2.out.rows.lt; have h3 := HTB.out; omega
 clear how0 hKp hH hws
 go_wp2_with fail
 clear x0 x1 x4
 go_loopw [12, 13] (fun v12 _ wx => ∃ x : Nat, v12 = .int .i64 x /\ x <= lb /\ OW w1 wx lo n (fun q => if q < p then stpL s n lb q else if q = p then rowsL x n Kp else []) /\ ToM wx tb lb n s0 H) (fun v12 _ _ => lb - (intOf v12).toNat)
 case atStart => exact ⟨0, rfl, l8 _, HOB.out, HT.out⟩
 case round => (
 obtain ⟨x, rfl, hx, how, hto⟩ := hrel
 have HOX := hid how; have HTX := hid hto
 have hbs := HBS.out _ _ how
 have hxr := (hbs.block w.heap.size (l4.1 HX.out).1).trans HX.out
 obtain ⟨x0, x1, x2, x3, x4⟩ := q0j hxr
 clear how hto hbs hxr x0 x2 x3 HOB HT
 by_cases hxl : x < lb
 · (
 have hxI : (x : Int) < (lb : Int) := by omega
 have hor : (x = 0 ∨ ∃ g, 0 < x /\ H x = some g) ∨ (0 < x /\ H x = none) := by (
 rcases m5 x with e | e
 · exact .inl (.inl e)
 · cases hh : H x with
   | none => exact .inr ⟨e, rfl⟩
   | some g => exact .inl (.inr ⟨g, e, rfl⟩))
 rcases hor with hthere | ⟨hx0, hnone⟩
 · (
 have HROW : Hid (∀ wx f, OW w1 wx lo n f -> ToM wx tb lb n s0 H -> ∃ b, wx.cell? ⟨tb, x, none⟩ = some (.slice (some ⟨b, 0, none⟩) n n) /\ wx.rowIs b 4 n (fun q => .bool (Kp x q))) := hid (fun wx f ho ht => by (
 rcases hthere with rfl | ⟨g, hx0, hg⟩
 · exact ⟨s0, ht.zero hxl, (HRS0.out.of_block ((HBS.out _ _ ho).block _ HRS0.out.lt)).congr (fun q _ => by rw [HK0.out])⟩
 · obtain ⟨b, h1, _, h3, _⟩ := ht.at hx0 hxl hg
   exact ⟨b, h1, h3.congr (fun q _ => by rw [HKS.out x g hx0 hg])⟩))
 clear hthere
 go_wp2_with fail
 clear x1 x4
 have htlb := HTX.out.lt
 go_loopw [13] (fun v13 wx => ∃ r : Nat, v13 = .int .i64 r /\ r <= n /\ OW w1 wx lo n (fun q => if q < p then stpL s n lb q else if q = p then rowsL x n Kp ++ (idsN (Kp x) r).map (fun r : Nat => ((x : Int), (r : Int))) else []) /\ ToM wx tb lb n s0 H) (fun v13 _ => n - (intOf v13).toNat)
 case atStart => exact ⟨0, rfl, l8 _, HOX.out.congr (fun q => by simp [idsN]), HTX.out⟩
 case round => (
 obtain ⟨r, rfl, hr, how, hto⟩ := hrel
 have HOY := hid how; have HTY := hid hto
 obtain ⟨bb, c0, hrow⟩ := HROW.out _ _ how hto
 have htl := hto.lt
 by_cases hrn : r < n
 · (
 have hrI : (r : Int) < (n : Int) := by omega
 have c1 := hrow.cell hrn
 have cl := hrow.lt
 have hids : idsN (Kp x) (r + 1) = if Kp x r = true then idsN (Kp x) r ++ [r] else idsN (Kp x) r := by (
 unfold idsN
 rw [l9, m3]
 by_cases e : Kp x r = true
 · rw [if_pos e]; simp [e]
 · rw [if_neg e]; simp [e])
 cases hkr : Kp x r with
 | false => (
 rw [hkr] at c1 hids
 have HFO := hid (HOY.out.congr (f' := fun q => if q < p then stpL s n lb q else if q = p then rowsL x n Kp ++ (idsN (Kp x) (r + 1)).map (fun r : Nat => ((x : Int), (r : Int))) else []) (fun q => by rw [hids]; simp))
 clear hids hkr how hto hrow
 go_wp2_with fail
 go_roundw
 case rel => exact ⟨r + 1, by go_num, by omega, HFO.out, HTY.out⟩
 case measure => simp [intOf]; omega)
 | true => (
 rw [hkr] at c1 hids
 rw [if_pos rfl] at hids
 obtain ⟨v, l0, l1, l2, l3⟩ := how.open hpn
 have hll := how.rows.size
 rw [if_neg (m7 p), if_pos rfl] at l2
 obtain ⟨va, vc, vb, rfl, _, _, _, _⟩ := j0d k1p l2
 obtain ⟨Q, hQ⟩ : ∃ Q, Q = rowsL x n Kp ++ (idsN (Kp x) r).map (fun r : Nat => ((x : Int), (r : Int))) := ⟨_, rfl⟩
 rw [<- hQ] at l0 l2 l3
 obtain ⟨ql, hql⟩ : ∃ ql, ql = Q.length := ⟨_, rfl⟩
 rw [<- hql] at l0 l2 l3
 have hqll : ql <= 100000 := by (
 rw [hql, hQ, m4, List.length_map]
 have h1 := p1x x n Kp
 have h2 := p0q (Kp x) r
 have h3 : x * n <= 201 * 300 := Nat.mul_le_mul (by omega) (by omega)
 omega)
 have hQN : rowsL x n Kp ++ (idsN (Kp x) (r + 1)).map (fun r : Nat => ((x : Int), (r : Int))) = Q ++ [((x : Int), (r : Int))] := by rw [hids, List.map_append, hQ, m6]; rfl
 have HNX : Hid (∀ (w6 : World) (g cap : Nat), w6.ownsRow w1.heap.size 115 2 (.slice (some ⟨g, 0, none⟩) (ql + 1) cap) (ql + 1) (Q.flatMap encS ++ [.int .i64 (x : Int), .int .i64 (r : Int)]) -> (wr.alloc (.cells #[.int .i64 (x : Int), .int .i64 (r : Int)] 115)).grownBy w6 (Value.slice va ql vc).ownBlock -> ((Value.slice va ql vc).ownBlock = some g ∨ g = wr.heap.size + 1) ->
     w6.cell? ⟨lo, p, none⟩ = some (.slice va ql vc) /\ w6.frozen? ⟨lo, p, none⟩ = false /\ lo < w6.heap.size /\ OW w1 (w6.setCell ⟨lo, p, none⟩ (.slice (some ⟨g, 0, none⟩) (ql + 1) cap)) lo n (fun q => if q < p then stpL s n lb q else if q = p then rowsL x n Kp ++ (idsN (Kp x) (r + 1)).map (fun r : Nat => ((x : Int), (r : Int))) else []) /\ ToM (w6.setCell ⟨lo, p, none⟩ (.slice (some ⟨g, 0, none⟩) (ql + 1) cap)) tb lb n s0 H) := hid (fun w6 g cap ho hg hgg => by
   have hba := (Below.refl wr.heap.size wr).alloc (l5 _) (.cells #[.int .i64 (x : Int), .int .i64 (r : Int)] 115)
   obtain ⟨m0, m1, m2⟩ := l3 _ w6 g cap (Q ++ [((x : Int), (r : Int))]) hba (by rw [m4, <- hql, l7]; exact ho) hg (hgg.imp_right (fun e => by omega))
   refine ⟨m0, m1, World.block_lt_of_cell? _ _ m0, ?_, ?_⟩
   · rw [m4, <- hql] at m2
     refine m2.congr (fun q => ?_)
     by_cases e : q = p
     · subst e; rw [if_pos rfl, if_neg (m7 q), if_pos rfl, hQN]
     · rw [if_neg e]
       by_cases e2 : q < p
       · rw [if_pos e2, if_pos e2]
       · rw [if_neg e2, if_neg e2, if_neg e, if_neg e]
   · refine (hto.kept (w' := w6) (fun b hb hc => ?_)).kept (fun b hb hc => Below.heap_setCell _ _ _ _ (by show b ≠ lo; omega))
     have hbl : b < wr.heap.size := by obtain ⟨cs, hc | hc⟩ := hc <;> exact (l4.1 hc).1
     rw [hg.block b (by simp; omega) (fun e => ?_), hba.block b hbl]
     rcases l2.2 with ⟨h2, _⟩ | ⟨gg, cap2, cur, hv, _, hgg2, _⟩
     · rw [h2] at e; cases e
     · rw [hv] at e
       simp only [Value.ownBlock, Option.some.injEq] at e
       subst e
       obtain ⟨cs, hc | hc⟩ := hc <;> (rw [hgg2] at hc; simp at hc))
 have HOWN := hid l2
 have hw1l : w1.heap.size <= wr.heap.size := how.bel.size
 clear hids hkr how hto hrow l2 l3 hQ hql hQN
 go_wp2_with (at_builtin; refine j0u rfl _ _ 113 rfl u2h (base := w1.heap.size) (by simp; omega) rfl (HOWN.out.alloc _) ⟨wr.heap.size, 0, none⟩ 1 1 [.int .i64 (x : Int), .int .i64 (r : Int)] rfl rfl (cells2 (by simp [go_sem]) (by simp [go_sem])) (by simp [Value.oneCell']) (by decide) (by omega) (by unfold maxLen; omega) (wr.heap.size + 1) (by simp) ?_; intro g cap w6 hown6 hg6 hl6 hlt6; obtain ⟨k0, k1, k2, hnow, hnto⟩ := HNX.out w6 g cap hown6 hg6 hl6; have HNO := hid hnow; have HNT := hid hnto; clear hnow hnto hown6 hg6 hl6)
 go_roundw
 case rel => exact ⟨r + 1, by go_num, by omega, HNO.out, HNT.out⟩
 case measure => simp [intOf]; omega))
 · (
 obtain rfl : n = r := by omega
 have HFO := hid (how.congr (f' := fun q => if q < p then stpL s n lb q else if q = p then rowsL (x + 1) n Kp else []) (fun q => by (
 by_cases e2 : q < p
 · rw [if_pos e2, if_pos e2]
 · (
 rw [if_neg e2, if_neg e2]
 by_cases e : q = p
 · rw [if_pos e, if_pos e]
   unfold rowsL
   rw [l9, l7]
   simp
 · rw [if_neg e, if_neg e]))))
 clear how hto hrow
 go_wp2_with fail
 go_roundw
 case rel => exact ⟨x + 1, by go_num, by omega, HFO.out, HTY.out⟩
 case measure => simp [intOf]; omega)))
 · (
 have hc := HTX.out.gone hx0 hxl hnone
 have htl := HTX.out.lt
 have HEQ : Hid (rowsL (x + 1) n Kp = rowsL x n Kp) := hid (by (
 unfold rowsL
 rw [l9, l7]
 have : idsN (Kp x) n = [] := by (
 unfold idsN
 rw [List.filter_eq_nil_iff]
 intro r _
 rw [HKN.out x hx0 hnone r]; simp)
 simp [this]))
 clear hnone
 go_wp2_with fail
 clear x1 x4
 go_loopw [13] (fun v13 wy => v13 = .int .i64 0 /\ wy = wr) (fun _ _ => 0)
 case atStart => exact ⟨rfl, rfl⟩
 case round => (
 obtain ⟨rfl, rfl⟩ := hrel
 go_wp2_with fail
 go_roundw
 case rel => exact ⟨x + 1, by go_num, by omega, by rw [HEQ.out]; exact HOX.out, HTX.out⟩
 case measure => simp [intOf]; omega)))
 · (
 obtain rfl : lb = x := by omega
 have HFO := hid (HOX.out.congr (f' := fun q => if q < p + 1 then stpL s n lb q else []) (fun q => by (
 by_cases e : q < p
 · rw [if_pos e, if_pos (by omega)]
 · rw [if_neg e]
   by_cases e2 : q = p
   · subst e2; rw [if_pos rfl, if_pos (by omega), HSTP.out]
   · rw [if_neg e2, if_neg (by omega)])))
 go_wp2_with fail
 go_roundw
 case rel => exact ⟨p + 1, by go_num, by omega, HFO.out⟩
 case measure => simp [intOf]; omega)))))
 · (
 obtain rfl : n = p := by omega
 have hfin : StepsIn wr lo n (stpL s n lb) := by (
 have h := StepsIn.of HOW2.out.rows
 refine ⟨fun q hq => ?_, h.lt⟩
 have := h.at_ q hq
 rw [if_pos hq] at this
 exact this)
 have HFN := hid hfin
 have hbf := (HB0.out.trans (HBW.out.mono HB0.out.size)).trans (HBR.out.mono (Nat.le_trans HB0.out.size HBW.out.size))
 have HBF := hid hbf
 clear hfin hbf
 go_wp2_with fail
 go_ret
 exact ⟨lo, rfl, HFN.out, by have := HLO.out; have h1 := HB0.out.size; have h2 := HBW.out.size; omega, HBF.out⟩)))
end Go.Proofs.YtbaccmlfnbgehaaGreatDoor

/-
  Lemmas.
-/
import Derived.Test.YtgikimbafakmcaaGreatDoorGBrL
import Derived.Test.YtgikimbafakmcaaGreatDoorGReach
import Derived.Test.YtgikimbafakmcaaGreatDoorGQuoE
import Derived.Test.YtgikimbafakmcaaGreatDoorGGraphA
import Derived.Test.YtgikimbafakmcaaGreatDoorGFault
import Derived.Test.YtgikimbafakmcaaGreatDoorGPl6
import Derived.Deep.RegionHeld3
import Derived.Deep.Cut
import Derived.Deep.CutRange
import Derived.Deep.QuietTactic
import Derived.BigQuiet
import Derived.IntWalk
import Derived.Deep.DeepMust
set_option maxHeartbeats 8000000
set_option maxRecDepth 100000
namespace Go.Proofs.YtgikimbafakmcaaGreatDoor
open Go.RowKit Pl
open Lib (hid)
theorem unionZ_any {p : Addr} {s t : Lts} (hs : s.Right) (ht : t.Right) (hn : s.st = 0) (h1 : s.st + t.st <= 1000) (h2 : s.es.length + t.es.length <= 10000) {a a2 : Option Addr} {b off c b2 off2 c2 : Nat} {w : World} (hG : GErr 0 p w) (hS : SlAt encE 3 w a b off s.es) (hT : SlAt encE 3 w a2 b2 off2 t.es) :
    Calls Tryz.prog 7 #[.agg #[.int .i64 s.st, .int .i64 s.lb, .int .i64 s.s0, .slice a s.es.length c], .agg #[.int .i64 t.st, .int .i64 t.lb, .int .i64 t.s0, .slice a2 t.es.length c2]] w (UniOwn s t w) := by
 have HR := hid hs; have HRT := hid ht; have HG := hid hG; have HS := hid hS; have HT := hid hT
 have H1 := hid h1; have H2 := hid h2; have HN := hid hn
 clear hs ht hG hS hT h1 h2 hn
 go_enter Tryz.func7, Tryz.ntmps7
 go_upto_region 1 with fail
 obtain ⟨w0, hw0⟩ : ∃ w0, w0 = ((w.alloc (.cells #[.int .i64 s.st, .int .i64 s.lb, .int .i64 s.s0, .slice a s.es.length c] 24)).alloc (.cells #[.int .i64 t.st, .int .i64 t.lb, .int .i64 t.s0, .slice a2 t.es.length c2] 24)).alloc (.cells #[.int .i64 0, .int .i64 0, .int .i64 0, .slice none 0 0] 24) := ⟨_, rfl⟩
 have hB0 : Below w.heap.size w w0 := by rw [hw0]; exact (((Below.refl w.heap.size w).alloc (Nat.le_refl _) _).alloc (by simp) _).alloc (by simp; omega) _
 have hx : w0.heap[w.heap.size]? = some (.cells #[.int .i64 s.st, .int .i64 s.lb, .int .i64 s.s0, .slice a s.es.length c] 24 (0, 0)) := by
   rw [hw0]
   exact ((((Below.refl (w.heap.size + 1) (w.alloc (Obj.cells #[.int .i64 s.st, .int .i64 s.lb, .int .i64 s.s0, .slice a s.es.length c] 24))).alloc (by simp) _).alloc (by simp) _).block w.heap.size (by omega)).trans (heap_alloc_new w _)
 have hz : w0.heap[w.heap.size + 1]? = some (.cells #[.int .i64 t.st, .int .i64 t.lb, .int .i64 t.s0, .slice a2 t.es.length c2] 24 (0, 0)) := by
   rw [hw0]
   exact ((Below.refl (w.heap.size + 2) _).alloc (by simp) _ |>.block (w.heap.size + 1) (by omega)).trans (heap_alloc_at _ _ (w.heap.size + 1) (by simp))
 have hy : w0.heap[w.heap.size + 1 + 1]? = some (.cells #[.int .i64 0, .int .i64 0, .int .i64 0, .slice none 0 0] 24 (0, 0)) := by
   rw [hw0]
   exact heap_alloc_at _ _ (w.heap.size + 1 + 1) (by simp)
 have HB0 := hid hB0; have HX := hid hx; have HZ := hid hz; have HY := hid hy
 rw [<- hw0]
 obtain ⟨X, hX⟩ : ∃ X, X = w.heap.size := ⟨_, rfl⟩
 obtain ⟨Z, hZ⟩ : ∃ Z, Z = w.heap.size + 1 := ⟨_, rfl⟩
 obtain ⟨Y, hY⟩ : ∃ Y, Y = w.heap.size + 1 + 1 := ⟨_, rfl⟩
 have HYW : Hid (w.heap.size <= Y) := hid (by omega)
 have HXY : Hid (¬ X = Y) := hid (by omega)
 rw [<- hX] at HX
 rw [<- hZ] at HZ
 rw [<- hY] at HY
 rw [<- hY, <- hZ, <- hX]
 obtain ⟨x0, x1, x2, x3, x4⟩ := sys9 HX.out
 obtain ⟨z0, z1, z2, z3, z4⟩ := sys9 HZ.out
 clear hw0 hB0 hx hz hy hX hZ hY
 go_upto_region 2 with fail
 clear x0 x1 x2 x3 x4 z0 z1 z2 z3 z4
 go_loopw [8, 9, 16] (fun _ _ v16 wx => ∃ i : Nat, v16 = .int .i64 i /\ i <= 2 /\ Below w0.heap.size w0 wx) (fun _ _ v16 _ => 2 - (intOf v16).toNat)
 case atStart => exact ⟨0, rfl, by omega, Below.refl _ _⟩
 case round => (
 obtain ⟨i, rfl, hi, hb⟩ := hrel
 have HB := hid hb
 by_cases h0 : i = 0
 · (
 subst h0
 have hix := fun W => (index2 (.int .i64 s.st) (.int .i64 s.lb) (.int .i64 s.s0) (.slice a s.es.length c) (.int .i64 t.st) (.int .i64 t.lb) (.int .i64 t.s0) (.slice a2 t.es.length c2) W).1
 have hbz := hb.alloc hb.size (.cells #[.int .i64 s.st, .int .i64 s.lb, .int .i64 s.s0, .slice a s.es.length c] 24)
 have HBZ := hid hbz
 have HCK := hid (check_ok HR.out a b off c (wr.alloc (.cells #[.int .i64 s.st, .int .i64 s.lb, .int .i64 s.s0, .slice a s.es.length c] 24)) (HG.out.below (HB0.out.trans (hbz.mono HB0.out.size))) (HS.out.below (HB0.out.trans (hbz.mono HB0.out.size)) (Nat.le_refl _)))
 clear hb hbz
 go_wp2_with fail
 refine HCK.out.mono ?_
 rintro e w1 ⟨rfl, hB1⟩
 have HB1 := hid (HBZ.out.trans (hB1.mono HBZ.out.size))
 clear hB1
 go_wp2_with fail
 go_roundw
 case rel => exact ⟨1, rfl, by omega, HB1.out⟩
 case measure => simp [intOf])
 by_cases h1 : i = 1
 · (
 subst h1
 have hix := fun W => (index2 (.int .i64 s.st) (.int .i64 s.lb) (.int .i64 s.s0) (.slice a s.es.length c) (.int .i64 t.st) (.int .i64 t.lb) (.int .i64 t.s0) (.slice a2 t.es.length c2) W).2
 have hbz := hb.alloc hb.size (.cells #[.int .i64 t.st, .int .i64 t.lb, .int .i64 t.s0, .slice a2 t.es.length c2] 24)
 have HBZ := hid hbz
 have HCK := hid (check_ok HRT.out a2 b2 off2 c2 (wr.alloc (.cells #[.int .i64 t.st, .int .i64 t.lb, .int .i64 t.s0, .slice a2 t.es.length c2] 24)) (HG.out.below (HB0.out.trans (hbz.mono HB0.out.size))) (HT.out.below (HB0.out.trans (hbz.mono HB0.out.size)) (Nat.le_refl _)))
 clear hb hbz h0
 go_wp2_with fail
 refine HCK.out.mono ?_
 rintro e w1 ⟨rfl, hB1⟩
 have HB1 := hid (HBZ.out.trans (hB1.mono HBZ.out.size))
 clear hB1
 go_wp2_with fail
 go_roundw
 case rel => exact ⟨2, rfl, by omega, HB1.out⟩
 case measure => simp [intOf])
 obtain rfl : i = 2 := by omega
 have HXR := hid ((hb.block X (Array.getElem?_eq_some_iff.1 HX.out).1).trans HX.out)
 have HZR := hid ((hb.block Z (Array.getElem?_eq_some_iff.1 HZ.out).1).trans HZ.out)
 have HYR := hid ((hb.block Y (Array.getElem?_eq_some_iff.1 HY.out).1).trans HY.out)
 obtain ⟨x0, x1, x2, x3, x4⟩ := sys9 HXR.out
 obtain ⟨z0, z1, z2, z3, z4⟩ := sys9 HZR.out
 have k1 := HR.out.st0; have k2 := HRT.out.st0; have k3 := H1.out; have k4 := H2.out; have k5 := HN.out
 have g1 : ¬ (s.st + t.st > 1000) := by omega
 have g2 : ¬ ((s.es.length : Int) + (t.es.length : Int) > 10000) := by omega
 have g3 : IntKind.i64.wrap (s.st + t.st) = s.st + t.st := IntWalk.i64_in _ (by omega)
 have g4 : IntKind.i64.wrap ((s.es.length : Int) + (t.es.length : Int)) = (s.es.length : Int) + (t.es.length : Int) := IntWalk.i64_in _ (by omega)
 have g5 : (s.st == 0) = true := by simp [HN.out]
 clear hb h0 h1 hi k1 k2 k3 k4 k5
 go_upto_region 15 with fail
 obtain ⟨ml, hml⟩ : ∃ ml, ml = max s.lb t.lb := ⟨_, rfl⟩
 have HML := hid hml
 have hif : (if s.lb < t.lb then t.lb else s.lb) = ml := by rw [hml]; split <;> omega
 first | rw [hif] | rw [<- hml]
 obtain ⟨w4, hw4⟩ : ∃ w4, w4 = wr.alloc (.cells #[.int .i64 (s.st + t.st), .int .i64 ml, .int .i64 t.s0, .slice a s.es.length c] 24) := ⟨_, rfl⟩
 obtain ⟨tb, htb⟩ : ∃ tb, tb = wr.heap.size := ⟨_, rfl⟩
 have hr4 := (Rws.nil (Below.refl wr.heap.size wr)).addLit #[.int .i64 (s.st + t.st), .int .i64 ml, .int .i64 t.s0, .slice a s.es.length c] 24 (k := 4) (n := 1) (by decide) rfl
 rw [<- hw4, <- htb] at hr4
 have hr4 : Rws wr w4 [RQ tb (s.st + t.st) ml t.s0 (.slice a s.es.length c)] := hr4
 rw [<- hw4, <- htb]
 have HBW : Hid (Below w.heap.size w wr) := hid (HB0.out.trans (HB.out.mono HB0.out.size))
 have HWX : Hid (X < wr.heap.size /\ Z < wr.heap.size /\ Y < wr.heap.size) := hid ⟨x4, z4, (Array.getElem?_eq_some_iff.1 HYR.out).1⟩
 have HCN := hid (cloneE_any (c := c) (HS.out.below (HBW.out.trans (hr4.bel.mono HBW.out.size)) (Nat.le_refl _)) (by have := H2.out; omega))
 have HR4 := hid hr4
 clear hml hif hw4 htb x0 x1 x2 x3 x4 z0 z1 z2 z3 z4 g1 g2 g3 g4
 have hx4 := (hr4.bel.block X HWX.out.1).trans HXR.out
 have hz4 := (hr4.bel.block Z HWX.out.2.1).trans HZR.out
 obtain ⟨x0, x1, x2, x3, x4⟩ := sys9 hx4
 obtain ⟨z0, z1, z2, z3, z4⟩ := sys9 hz4
 have HX4 := hid hx4; have HZ4 := hid hz4
 clear hr4 hx4 hz4
 go_wp2_with fail
 refine HCN.out.mono ?_
 rintro e w5 ⟨v, rfl, hown, hB5⟩
 have hr5 := HR4.out.add hB5 hown
 obtain ⟨ra, rc, rb, rfl, _, _, _, _⟩ := slAt_own lenE hown
 have t3 := hr5.cell (i := 1) rfl (j := 3) rfl
 have tf := hr5.fz (i := 1) rfl 3
 have tl := (hr5.lt (i := 1) rfl).2
 have hr6 := hr5.set 1 rfl 3 (.slice ra s.es.length rc)
 have hr6 : Rws wr (w5.setCell ⟨tb, 3, none⟩ (.slice ra s.es.length rc)) [REq ra s.es.length rc s.es, RQ tb (s.st + t.st) ml t.s0 (.slice ra s.es.length rc)] := hr6
 have HR6 := hid hr6
 clear x0 x1 x2 x3 x4 z0 z1 z2 z3 z4
 have hx6 := (hr6.bel.block X HWX.out.1).trans HXR.out
 have hz6 := (hr6.bel.block Z HWX.out.2.1).trans HZR.out
 have HX6 := hid hx6; have HZ6 := hid hz6
 clear hr5 hr6 hown hB5 hx6 hz6 HX4 HZ4 HR4 HCN
 go_upto_region 16 with fail
 obtain ⟨w6, hw6⟩ : ∃ w6, w6 = w5.setCell ⟨tb, 3, none⟩ (.slice ra s.es.length rc) := ⟨_, rfl⟩
 rw [<- hw6] at HR6 HX6 HZ6 ⊢
 clear hw6 t3 tf tl
 obtain ⟨x0, x1, x2, x3, x4⟩ := sys9 HX6.out
 obtain ⟨z0, z1, z2, z3, z4⟩ := sys9 HZ6.out
 go_wp2_with fail
 clear x0 x1 x2 x3 x4 z0 z1 z2 z3 z4
 obtain ⟨wb, rfl⟩ : ∃ wb, wb = wr := ⟨_, rfl⟩
 obtain ⟨m, hm⟩ : ∃ m, m = t.es.length := ⟨_, rfl⟩
 rw [<- hm]
 have HM := hid hm
 have hmb : m <= 10000 := by have := H2.out; omega
 clear hm
 go_loopw [12, 72] (fun _ v72 wx => ∃ (j : Nat) (ea : Option Addr) (k ec : Nat), v72 = .int .i64 j /\ j <= m /\ k = s.es.length + j /\ Rws wb wx [REq ea k ec (uniK s t j), RQ tb (s.st + t.st) ml t.s0 (.slice ea k ec)]) (fun _ v72 _ => m - (intOf v72).toNat)
 case atStart => exact ⟨0, ra, s.es.length, rc, rfl, Nat.zero_le _, rfl, by unfold uniK; simpa using HR6.out⟩
 case round => (
 obtain ⟨j, ea, k, ec, rfl, hj, hk, hrw⟩ := hrel
 have HRW := hid hrw; have HK := hid hk
 have hw2 := hrw.bel.size
 have hx7 := (hrw.bel.block X HWX.out.1).trans HXR.out
 have hz7 := (hrw.bel.block Z HWX.out.2.1).trans HZR.out
 obtain ⟨x0, x1, x2, x3, x4⟩ := sys9 hx7
 obtain ⟨z0, z1, z2, z3, z4⟩ := sys9 hz7
 clear hrw hx7 hz7
 by_cases hjm : j < m
 · (
 obtain ⟨x, hx⟩ := getElem?_of_lt (xs := t.es) (i := j) (by rw [<- HM.out]; exact hjm)
 have HBR : Hid (Below w.heap.size w wr) := hid (HBW.out.trans (HRW.out.bel.mono HBW.out.size))
 have hss := HT.out.below HBR.out (Nat.le_refl _)
 obtain rfl := hss.ad (by rw [<- HM.out]; omega)
 have d0 := hss.e0 hx; have d1 := hss.e1 hx; have d2 := hss.e2 hx
 have dl := hss.lt (by rw [<- HM.out]; omega)
 have hxr := offB_false.1 (HRT.out.edges _ (List.mem_of_getElem? hx))
 have HSN := hid (uniK_snoc (s := s) hx)
 have k1 := HR.out.st0; have k2 := H1.out; have k3 := HN.out; have k4 := H2.out; have k5 := HM.out
 obtain ⟨q1, q2, q3⟩ := x
 simp only at hxr d0 d1 d2
 have g1 : IntKind.i64.wrap (q1 + s.st) = q1 + s.st := IntWalk.i64_in _ (by omega)
 have g2 : IntKind.i64.wrap (q3 + s.st) = q3 + s.st := IntWalk.i64_in _ (by omega)
 have hjI : (j : Int) < (m : Int) := by omega
 have hkl : k <= 10000 := by omega
 have t3 := HRW.out.cell (i := 1) rfl (j := 3) rfl
 have tl := (HRW.out.lt (i := 1) rfl).2
 clear hx hss hxr k1 k2 k3 k4 k5 hk
 go_wp2_with (at_builtin; refine wpList_lie rfl _ _ _ rfl rowE (base := wb.heap.size) (by simp; omega) rfl (show ((wr.alloc (.cells #[.int .i64 q1, .int .i64 q2, .int .i64 q3] 57)).alloc (.cells #[.int .i64 (q1 + s.st), .int .i64 q2, .int .i64 (q3 + s.st)] 57)).ownsRow wb.heap.size 57 3 (.slice ea k ec) k ((uniK s t j).flatMap encE) from ((HRW.out.alloc _).alloc _).get (i := 0) rfl) ⟨wr.heap.size + 1, 0, none⟩ 1 1 [.int .i64 (q1 + s.st), .int .i64 q2, .int .i64 (q3 + s.st)] rfl rfl (cells3 (by simp [go_sem]) (by simp [go_sem]) (by simp [go_sem])) (by simp [Value.oneCell']) (by decide) (by omega) (by unfold maxLen; omega) wr.heap.size (by simp; omega) ?_; intro g cap w8 hown8 hg8 hl8 hlt8; have hr8 := edGrow (x := (q1 + s.st, q2, q3 + s.st)) HRW.out (((Below.refl wr.heap.size wr).alloc (Nat.le_refl _) _).alloc (by simp) _) (i := 0) rfl hown8 hg8 hl8; have u3 := hr8.cell (i := 1) rfl (j := 3) rfl; have uf := hr8.fz (i := 1) rfl 3; have ul := (hr8.lt (i := 1) rfl).2; have HR8 := hid hr8; clear hr8 hown8 hg8 hl8 d0 d1 d2 dl t3 tl)
 have hr9 := HR8.out.set 1 rfl 3 (.slice (some ⟨g, 0, none⟩) (k + 1) cap)
 have HR9 : Hid (Rws wb (w8.setCell ⟨tb, 3, none⟩ (.slice (some ⟨g, 0, none⟩) (k + 1) cap)) [REq (some ⟨g, 0, none⟩) (k + 1) cap (uniK s t (j + 1)), RQ tb (s.st + t.st) ml t.s0 (.slice (some ⟨g, 0, none⟩) (k + 1) cap)]) := hid (by rw [HSN.out]; exact hr9)
 clear hr9 HR8 u3 uf ul
 go_roundw
 case rel => exact ⟨j + 1, some ⟨g, 0, none⟩, k + 1, cap, by go_num, by omega, by have := HK.out; omega, HR9.out⟩
 case measure => simp [intOf]; omega)
 · (
 obtain rfl : j = m := by omega
 have HBR : Hid (Below w.heap.size w wr) := hid (HBW.out.trans (HRW.out.bel.mono HBW.out.size))
 have t0 := HRW.out.cell (i := 1) rfl (j := 0) rfl
 have t1 := HRW.out.cell (i := 1) rfl (j := 1) rfl
 have t2 := HRW.out.cell (i := 1) rfl (j := 2) rfl
 have t3 := HRW.out.cell (i := 1) rfl (j := 3) rfl
 have tl := (HRW.out.lt (i := 1) rfl).2
 have hy8 := (HRW.out.bel.block Y HWX.out.2.2).trans HYR.out
 obtain ⟨y0, y1, y2, y3, y4⟩ := sys9 hy8
 have yf0 : wr.frozen? ⟨Y, 0, none⟩ = false := by simp [World.frozen?, hy8]
 have yf1 : wr.frozen? ⟨Y, 1, none⟩ = false := by simp [World.frozen?, hy8]
 have yf2 : wr.frozen? ⟨Y, 2, none⟩ = false := by simp [World.frozen?, hy8]
 have yf3 : wr.frozen? ⟨Y, 3, none⟩ = false := by simp [World.frozen?, hy8]
 have HRD := hid HRW.out.drew
 have hXY := HXY.out
 clear hy8 z0 z1 z2 z3 z4 hk
 go_upto_region 21 with fail
 go_region
 go_wp2
 have hQ : uniS s t = ⟨s.st + t.st, ml, t.s0, uniK s t j⟩ := by (
 rw [HM.out, uniK_all, HML.out]
 unfold uniS
 rw [if_pos HN.out])
 have hlen : (uniK s t j).length = k := by
   rw [uniK_len (by rw [<- HM.out]; exact Nat.le_refl _)]; exact HK.out.symm
 have hyw := HYW.out
 refine bodyPost_ret (v := .tuple #[.agg #[.int .i64 (s.st + t.st), .int .i64 ml, .int .i64 t.s0, .slice ea k ec], .int .i64 s.st, .nilIface]) (by simp [results, Tryz.results7, go_sem, y0, y1, y2, y3]) rfl ⟨ea, ec, by rw [hQ, <- hlen], ?_, ?_⟩
 · (
 rw [hQ]
 have ho := HRD.out.get (i := 0) rfl
 dsimp only [REq] at ho ⊢
 have hlo := HWX.out.2.2
 rw [hlen]
 exact own_mono (ownsRow_setCell_below (ownsRow_setCell_below (ownsRow_setCell_below (ownsRow_setCell_below ho hlo _) hlo _) hlo _) hlo _) HBW.out.size)
 · exact ((((HBR.out.setCell (by show w.heap.size <= Y; omega) _).setCell (by show w.heap.size <= Y; omega) _).setCell (by show w.heap.size <= Y; omega) _).setCell (by show w.heap.size <= Y; omega) _).drew)))
end Go.Proofs.YtgikimbafakmcaaGreatDoor
namespace Go.Proofs.YtgikimbafakmcaaGreatDoor
open Go.RowKit Pl
open Lib (hid)
def SamErr (s t : Lts) (p : Addr) (w : World) (e : Ending) (w' : World) : Prop :=
  ∃ v, e = .returned (.tuple #[.bool false, v]) /\ (s.Right /\ t.Right -> FaultAt w' v quoName (.iface 270 (.pointer (some p)))) /\ (¬ (s.Right /\ t.Right) -> FaultQ w' p v) /\ Below w.heap.size w w'
theorem sameErr_any {p : Addr} {s t : Lts} (hno : ¬ (s.Right /\ t.Right /\ s.st + t.st <= 1000 /\ s.es.length + t.es.length <= 10000)) {a a2 : Option Addr} {b off c b2 off2 c2 : Nat} {w : World} (hG : GErr 0 p w) (hTy : ErrType w) (hS : SlAt encE 3 w a b off s.es) (hT : SlAt encE 3 w a2 b2 off2 t.es) :
    Calls Tryz.prog 13 #[.agg #[.int .i64 s.st, .int .i64 s.lb, .int .i64 s.s0, .slice a s.es.length c], .agg #[.int .i64 t.st, .int .i64 t.lb, .int .i64 t.s0, .slice a2 t.es.length c2]] w (SamErr s t p w) := by
 have hB0 := ((Below.refl w.heap.size w).alloc (Nat.le_refl _) (Obj.cells #[.int .i64 s.st, .int .i64 s.lb, .int .i64 s.s0, .slice a s.es.length c] 24)).alloc (by simp) (Obj.cells #[.int .i64 t.st, .int .i64 t.lb, .int .i64 t.s0, .slice a2 t.es.length c2] 24)
 have HUN := hid (unionErr_any (c := c) (c2 := c2) hno (hG.below hB0) (hTy.below hB0) (hS.below hB0 (Nat.le_refl _)) (hT.below hB0 (Nat.le_refl _)))
 have HB0 := hid hB0
 clear hB0 hG hTy hS hT hno
 go_enter Tryz.func13, Tryz.ntmps13
 go_wp2_with fail
 refine HUN.out.mono ?_
 rintro e w1 ⟨v, rfl, h1, h2, hB1⟩
 have hsh : ∃ fb, v = .iface 69 (.pointer (some ⟨fb, 0, none⟩)) := by (
 by_cases hr : s.Right /\ t.Right
 · obtain ⟨fb, rfl, _⟩ := (h1 hr).ex
   exact ⟨fb, rfl⟩
 · obtain ⟨vi, h3, _⟩ := h2 hr
   obtain ⟨fb, rfl, _⟩ := h3.ex
   exact ⟨fb, rfl⟩)
 obtain ⟨fb, rfl⟩ := hsh
 have hb := (Below.refl w1.heap.size w1).alloc (Nat.le_refl _) (Obj.cells #[.int .i64 0, .int .i64 0, .int .i64 0, .slice none 0 0] 24)
 have HF1 := hid (fun h => (h1 h).below hb); have HF2 := hid (fun h => (h2 h).below hb)
 have HB2 := hid (HB0.out.trans ((hB1.trans (hb.mono hB1.size)).mono HB0.out.size))
 clear h1 h2 hB1 hb HUN HB0
 go_wp2_with fail
 go_ret2
 exact ⟨_, rfl, HF1.out, HF2.out, HB2.out⟩
theorem unionRow_any {p : Addr} {s t : Lts} (hs : s.Right) (ht : t.Right) (h1 : s.st + t.st <= 1000) (h2 : s.es.length + t.es.length <= 10000) {a a2 : Option Addr} {b off c b2 off2 c2 : Nat} {w : World} (hG : GErr 0 p w) (hS : SlAt encE 3 w a b off s.es) (hT : SlAt encE 3 w a2 b2 off2 t.es) :
    Calls Tryz.prog 7 #[.agg #[.int .i64 s.st, .int .i64 s.lb, .int .i64 s.s0, .slice a s.es.length c], .agg #[.int .i64 t.st, .int .i64 t.lb, .int .i64 t.s0, .slice a2 t.es.length c2]] w (UniOwn s t w) := by
 by_cases h : s.st = 0
 · exact unionZ_any hs ht h h1 h2 hG hS hT
 · exact unionO_any hs ht (by have := hs.st0; omega) h1 h2 hG hS hT
theorem sameIx_any {p p3 : Addr} {s t : Lts} (hs : s.Right) (ht : t.Right) (h1 : s.st + t.st <= 1000) (h2 : s.es.length + t.es.length <= 10000) (hz : s.st = 0 ∨ t.st = 0) {a a2 : Option Addr} {b off c b2 off2 c2 : Nat} {w : World} (hG : GErr 0 p w) (hI : GErr 1 p3 w) (hS : SlAt encE 3 w a b off s.es) (hT : SlAt encE 3 w a2 b2 off2 t.es) :
    Calls Tryz.prog 13 #[.agg #[.int .i64 s.st, .int .i64 s.lb, .int .i64 s.s0, .slice a s.es.length c], .agg #[.int .i64 t.st, .int .i64 t.lb, .int .i64 t.s0, .slice a2 t.es.length c2]] w fun e w' => ∃ v, e = .returned (.tuple #[.bool false, v]) /\ FaultAt w' v quoName (.iface 270 (.pointer (some p3))) /\ Below w.heap.size w w' := by
 have hB0 := ((Below.refl w.heap.size w).alloc (Nat.le_refl _) (Obj.cells #[.int .i64 s.st, .int .i64 s.lb, .int .i64 s.s0, .slice a s.es.length c] 24)).alloc (by simp) (Obj.cells #[.int .i64 t.st, .int .i64 t.lb, .int .i64 t.s0, .slice a2 t.es.length c2] 24)
 have hx0 := (((Below.refl _ _).alloc (Nat.le_refl _) (Obj.cells #[.int .i64 t.st, .int .i64 t.lb, .int .i64 t.s0, .slice a2 t.es.length c2] 24)).block w.heap.size (by simp)).trans (heap_alloc_new w (Obj.cells #[.int .i64 s.st, .int .i64 s.lb, .int .i64 s.s0, .slice a s.es.length c] 24))
 have hy0 := heap_alloc_at (w.alloc (Obj.cells #[.int .i64 s.st, .int .i64 s.lb, .int .i64 s.s0, .slice a s.es.length c] 24)) (Obj.cells #[.int .i64 t.st, .int .i64 t.lb, .int .i64 t.s0, .slice a2 t.es.length c2] 24) (w.heap.size + 1) (by simp)
 have HUN := hid (unionRow_any (c := c) (c2 := c2) hs ht h1 h2 (hG.below hB0) (hS.below hB0 (Nat.le_refl _)) (hT.below hB0 (Nat.le_refl _)))
 have HB0 := hid hB0; have HX0 := hid hx0; have HY0 := hid hy0; have HI := hid (hI.below hB0)
 obtain ⟨u, hu⟩ : ∃ u, u = uniS s t := ⟨_, rfl⟩
 unfold UniOwn at HUN
 rw [<- hu] at HUN
 have key : (s.st == 0) = true ∨ ((s.st == 0) = false /\ (t.st == 0) = true) := by (
 by_cases h : s.st = 0
 · exact .inl (by simp [h])
 · exact .inr ⟨by simp [h], by simp [hz.resolve_left h]⟩)
 have hfn := faultNew_any quoName 270 (.pointer (some p3))
 unfold quoName at hfn
 clear hB0 hx0 hy0 hG hI hS hT hs ht h1 h2 hz hu
 go_enter Tryz.func13, Tryz.ntmps13
 go_wp2_with fail
 refine HUN.out.mono ?_
 rintro e w1 ⟨ea, ec, rfl, _, hB1⟩
 have hb := (Below.refl w1.heap.size w1).alloc (Nat.le_refl _) (Obj.cells #[.int .i64 u.st, .int .i64 u.lb, .int .i64 u.s0, .slice ea u.es.length ec] 24)
 have hb1 := hB1.trans (hb.mono hB1.size)
 have HB2 := hid (HB0.out.trans (hb1.mono HB0.out.size))
 obtain ⟨x0, x1, x2, x3, x4⟩ := sys9 ((hB1.block w.heap.size (by simp; omega)).trans HX0.out)
 obtain ⟨z0, z1, z2, z3, z4⟩ := sys9 ((hB1.block (w.heap.size + 1) (by simp)).trans HY0.out)
 have hl := HI.out.below hB1
 have l0 := hl.cell; have ll := hl.lt
 clear hB1 hb hb1 hl HUN HB0 HX0 HY0
 rcases key with g1 | ⟨g1, g2⟩
 all_goals (
 go_wp2_with fail
 refine (hfn _).mono ?_
 rintro e w3 ⟨rfl, hw3⟩
 have hF : FaultAt w3 (.iface 69 (.pointer (some ⟨w1.heap.size + 1, 0, none⟩))) quoName (.iface 270 (.pointer (some p3))) := ⟨_, rfl, by rw [hw3]; exact heap_alloc_at _ _ (w1.heap.size + 1) (by simp)⟩
 have HF := hid hF
 have HB3 : Hid (Below w.heap.size w w3) := hid (by rw [hw3]; exact HB2.out.alloc HB2.out.size _)
 clear hw3 hF
 go_wp2_with fail
 go_ret2
 exact ⟨_, rfl, HF.out, HB3.out⟩)
end Go.Proofs.YtgikimbafakmcaaGreatDoor
namespace Go.Proofs.YtgikimbafakmcaaGreatDoor
namespace Pl
section
variable {κ : Type} [DecidableEq κ] {key : Nat -> κ} {n : Nat}
def rep (key : Nat -> κ) (i : Nat) : Nat := ((List.range (i + 1)).find? (fun j => decide (key j = key i))).getD i
theorem rep_some (key : Nat -> κ) (i : Nat) : (List.range (i + 1)).find? (fun j => decide (key j = key i)) = some (rep key i) := by
 unfold rep
 cases h : (List.range (i + 1)).find? (fun j => decide (key j = key i)) with
 | none =>
   have := List.find?_eq_none.1 h i (List.mem_range.2 (by omega))
   simp at this
 | some j => rfl
theorem rep_le (key : Nat -> κ) (i : Nat) : rep key i <= i := by
 have := List.mem_range.1 (List.mem_of_find?_eq_some (rep_some key i)); omega
theorem rep_key (key : Nat -> κ) (i : Nat) : key (rep key i) = key i := by
 have := List.find?_some (rep_some key i)
 simpa using this
theorem rep_min {i j : Nat} (h : key j = key i) : rep key i <= j := by
 rcases Nat.lt_or_ge i j with h1 | h1
 · exact Nat.le_trans (rep_le key i) (by omega)
 · refine Nat.le_of_not_lt (fun hlt => ?_)
   have h2 := rep_some key i
   rw [List.find?_range_eq_some] at h2
   have := h2.2.2 j hlt
   simp [h] at this
theorem rep_iff {i j : Nat} : rep key i = rep key j ↔ key i = key j := by
 constructor
 · intro h
   have h1 := rep_key key i
   have h2 := rep_key key j
   rw [h] at h1
   exact h1.symm.trans h2
 · intro h
   exact Nat.le_antisymm (rep_min ((rep_key key j).trans h.symm)) (rep_min ((rep_key key i).trans h))
theorem rep_rep (i : Nat) : rep key (rep key i) = rep key i := rep_iff.2 (rep_key key i)
def repL (key : Nat -> κ) (n : Nat) : List Int := fl n (fun i => (rep key i : Int))
theorem repL_get {i : Nat} (h : i < n) : (repL key n)[i]? = some (rep key i : Int) := fl_get _ h
theorem repL_take {i : Nat} (h : i <= n) : (repL key n).take i = repL key i := by
 apply List.ext_getElem?
 intro j
 rw [List.getElem?_take]
 by_cases hj : j < i
 · rw [if_pos hj, repL_get (by omega), repL_get hj]
 · rw [if_neg hj, List.getElem?_eq_none (by unfold repL; rw [fl_len]; omega)]
theorem mem_rep {i : Nat} {x : Int} : x ∈ dist (repL key i) ↔ ∃ q, q < i /\ x = (q : Int) /\ rep key q = q := by
 unfold repL
 rw [mem_dist_fl]
 constructor
 · rintro ⟨p, hp, rfl⟩
   exact ⟨rep key p, Nat.lt_of_le_of_lt (rep_le key p) hp, rfl, rep_rep p⟩
 · rintro ⟨q, hq, rfl, h⟩
   exact ⟨q, hq, by rw [h]⟩
theorem rep_found {i k q : Nat} (hk : (dist (repL key i))[k]? = some (q : Int)) (h : key q = key i) : (rep key i : Int) ∈ dist (repL key i) /\ (dist (repL key i)).idxOf (rep key i : Int) = k := by
 have hm := List.mem_of_getElem? hk
 obtain ⟨q', hq, e, hr⟩ := mem_rep.1 hm
 obtain rfl : q = q' := by omega
 have h1 : rep key i = q := by rw [<- hr]; exact rep_iff.2 h.symm
 rw [h1]
 refine ⟨hm, ?_⟩
 obtain ⟨h2, h3⟩ := List.getElem?_eq_some_iff.1 hk
 rw [<- h3]
 exact (nodup_dist (repL key i)).idxOf_getElem k h2
theorem rep_new {i : Nat} (h : ∀ k q : Nat, (dist (repL key i))[k]? = some (q : Int) -> key q ≠ key i) : rep key i = i /\ (rep key i : Int) ∉ dist (repL key i) := by
 have hn : (rep key i : Int) ∉ dist (repL key i) := fun hm => by
   obtain ⟨k, hk⟩ := List.getElem?_of_mem hm
   exact h k _ hk (rep_key key i)
 refine ⟨?_, hn⟩
 rcases Nat.eq_or_lt_of_le (rep_le key i) with e | e
 · exact e
 · exact absurd (mem_rep.2 ⟨rep key i, e, rfl, rep_rep i⟩) hn
end
end Pl
end Go.Proofs.YtgikimbafakmcaaGreatDoor
namespace Go.Proofs.YtgikimbafakmcaaGreatDoor
open Go.RowKit Pl
theorem less_any (x y : E) (w : World) : Calls Tryz.prog 165 #[.agg #[.int .i64 x.1, .int .i64 x.2.1, .int .i64 x.2.2], .agg #[.int .i64 y.1, .int .i64 y.2.1, .int .i64 y.2.2]] w fun e w' =>
    e = .returned (.bool (ltE x y)) /\ Below w.heap.size w w' := by
 by_cases h1 : x.1 = y.1
 · have b1 : (x.1 != y.1) = false := by simp [h1]
   by_cases h2 : x.2.1 = y.2.1
   · have b2 : (x.2.1 != y.2.1) = false := by simp [h2]
     have hr : ltE x y = decide (x.2.2 < y.2.2) := by simp [ltE, h1, h2]
     rw [hr]
     clear h1 h2 hr
     go_enter Tryz.func165, Tryz.ntmps165
     go_wp2
     go_ret
     exact ⟨rfl, ((Below.refl _ _).alloc (Nat.le_refl _) _).alloc (by simp) _⟩
   · have b2 : (x.2.1 != y.2.1) = true := by simp [h2]
     have hr : ltE x y = decide (x.2.1 < y.2.1) := by simp [ltE, h1, h2]
     rw [hr]
     clear h1 h2 hr
     go_enter Tryz.func165, Tryz.ntmps165
     go_wp2
     go_ret
     exact ⟨rfl, ((Below.refl _ _).alloc (Nat.le_refl _) _).alloc (by simp) _⟩
 · have b1 : (x.1 != y.1) = true := by simp [h1]
   have hr : ltE x y = decide (x.1 < y.1) := by simp [ltE, h1]
   rw [hr]
   clear h1 hr
   go_enter Tryz.func165, Tryz.ntmps165
   go_wp2
   go_ret
   exact ⟨rfl, ((Below.refl _ _).alloc (Nat.le_refl _) _).alloc (by simp) _⟩
end Go.Proofs.YtgikimbafakmcaaGreatDoor

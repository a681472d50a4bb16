/-
  Lemmas.
-/
import Derived.Test.YtgikimbafakmcaaGreatDoorGStrG
set_option maxHeartbeats 4000000
set_option maxRecDepth 100000
namespace Go.Proofs.YtgikimbafakmcaaGreatDoor
open Go.RowKit Pl
open Lib (hid)
theorem newRowsOut_any (n : Nat) (hn : n <= 1000) {a : Option Addr} {b off c : Nat} {xs : List E} {w : World} (hS : SlAt encE 3 w a b off xs) (hl : xs.length <= 10000) (hk : ∀ x ∈ xs, 0 <= x.1 /\ x.1 < n) :
    Calls Tryz.prog 139 #[.int .i64 n, .slice a xs.length c, .func (.func 140) #[] #[], .func (.func 141) #[] #[]] w fun e w' =>
      ∃ va, e = .returned (.agg #[va, .slice (some ⟨w.heap.size + 1, 0, none⟩) (n + 1) (n + 1)]) /\ w'.ownsRow (w.heap.size + 3) 129 2 va xs.length ((xs.map fun x => (x.2.1, x.2.2)).flatMap encS) /\
        w'.rowIs (w.heap.size + 1) 3 (n + 1) (fun j => .int .i64 (xs.filter (fun x => decide (x.1 < (j : Int)))).length) /\ Below w.heap.size w w' := by
 have hmk := run_make_row' (P := Tryz.prog) 58 3 (.int .i64 0) 8 Tryz.underlying58 (by kernel_rfl) rfl .i64 .i64 (n + 1) (by omega) (by omega)
 rw [show ((n + 1 : Nat) : Int) = (n : Int) + 1 by omega] at hmk
 go_enter Tryz.func139, Tryz.ntmps139
 go_wp2
 clear hmk
 have hstart : NR w _ n (cntk (fun x => x.1) (xs.take 0)) (.slice none 0 0) ((xs.take 0).map fun x => (x.2.1, x.2.2)) := NR.start w n _ (by intro i; simp [cntk])
 have HST := hid hstart
 clear hstart
 go_loopw [19] (fun i wr => ∃ (k : Nat) (va : Value), k <= xs.length /\ i = .int .i64 k /\ NR w wr n (cntk (fun x => x.1) (xs.take k)) va ((xs.take k).map fun x => (x.2.1, x.2.2)))
   (fun i _ => xs.length - (intOf i).toNat)
 case atStart => exact ⟨0, _, Nat.zero_le _, rfl, HST.out⟩
 case round => (
 obtain ⟨k, va, hkl, rfl, hN⟩ := hrel
 have HN := hid hN; clear hN HST
 have hsz := HN.out.size
 by_cases hlt : k < xs.length
 · (
 obtain ⟨x, hx⟩ := getElem?_of_lt hlt
 obtain rfl := hS.ad (by omega)
 have hS' := hS.below HN.out.below (Nat.le_refl _)
 have e0 := hS'.e0 hx; have e1 := hS'.e1 hx; have e2 := hS'.e2 hx
 have hbl := hS'.lt (by omega)
 have hkx := hk x (List.mem_of_getElem? hx)
 obtain ⟨x1, x2, x3⟩ := x
 obtain ⟨K, hK⟩ : ∃ K : Nat, x1 = (K : Int) := ⟨(x1).toNat, by simp only at hkx; omega⟩
 subst hK
 simp only at e0 e1 e2 hkx
 have hKn : K < n := by omega
 have HX := hid hx
 have HS := hid hS; have HK := hid hk
 clear hS hS' hx hk hkx
 have hc0 := HN.out.c0; have hc1 := HN.out.c1
 have hcK : wr.cell? ⟨w.heap.size + 1, K + 1, none⟩ = some (.int .i64 (cntk (fun x => x.1) (xs.take k) (K + 1))) := HN.out.b1.cell (i := K + 1) (by omega)
 have hfK : wr.frozen? ⟨w.heap.size + 1, K + 1, none⟩ = false := HN.out.b1.frozen (K + 1)
 have hcb := cntk_le (fun x => x.1) (xs.take k) (K + 1)
 have hlk : (xs.take k).length <= xs.length := by simp; omega
 obtain ⟨cv, hcv⟩ : ∃ cv, cv = cntk (fun x => x.1) (xs.take k) (K + 1) := ⟨_, rfl⟩
 rw [<- hcv] at hcK hcb
 have HCV := hid hcv; clear hcv
 have hcv0 : 0 <= cv := hcb.1
 have hcv1 : cv <= 10000 := by omega
 clear hcb
 have hK1 : (K : Int) < (n : Int) := by omega
 have hK2 : (0 : Int) <= (K : Int) + 1 := by omega
 have hK3 : IntKind.i64.wrap ((K : Int) + 1) = (K : Int) + 1 := IntWalk.i64_in _ (by omega)
 have hK4 : ((K : Int) + 1).toNat = K + 1 := by omega
 have hK5 : IntKind.i64.wrap (cv + 1) = cv + 1 := IntWalk.i64_in _ (by omega)
 have hb0 : w.heap.size < wr.heap.size := by omega
 have hb1 : w.heap.size + 1 < wr.heap.size := by omega
 have hb2 : w.heap.size + 1 + 1 < wr.heap.size := by omega
 have hc1' : wr.cell? ⟨w.heap.size + 1 + 1, 1, none⟩ = some (.slice (some ⟨w.heap.size + 1, 0, none⟩) (n + 1) (n + 1)) := hc1
 have hc0' : wr.cell? ⟨w.heap.size + 1 + 1, 0, none⟩ = some va := hc0
 clear hc0 hc1
 go_upto_region 5 with fail
 go_cut [11] from 23 to 41 (fun s11 wx => s11 = .pointer (some ⟨wr.heap.size, 0, none⟩) /\ NR w wx n (cntk (fun x => x.1) (xs.take (k + 1))) va ((xs.take k).map fun x => (x.2.1, x.2.2)) /\ wr.heap.size < wx.heap.size /\
     wx.cell? ⟨wr.heap.size, 0, none⟩ = some (.int .i64 (K : Int)) /\ wx.cell? ⟨wr.heap.size, 1, none⟩ = some (.int .i64 x2) /\ wx.cell? ⟨wr.heap.size, 2, none⟩ = some (.int .i64 x3))
 case first => (
 go_region_with (go_at_call 140; refine (key1_any ((K : Int), x2, x3) _).mono ?_; rintro e w' ⟨rfl, rfl⟩)
 all_goals
   go_wp2_with fail
   go_meet
 all_goals (
 refine ⟨rfl, ((((HN.out.setFrom (K + 1) (cv + 1)).alloc _).alloc _).drewN 1).congr (fun i => ?_), by simp [go_sem, World.setCell], by simp [go_sem, World.setCell], by simp [go_sem, World.setCell], by simp [go_sem, World.setCell]⟩
 rw [take_snoc HX.out, cntk_snoc, HCV.out]
 by_cases hi : i = K + 1
 · subst hi; rw [if_pos rfl, if_pos (by simp)]
 · rw [if_neg hi, if_neg (by simp only; omega)]; omega))
 case rest => (
 obtain ⟨rfl, hN2, hszx, f0, f1, f2⟩ := hcut
 have hsz2 := hN2.size
 have g0 : wc.cell? ⟨w.heap.size + 1 + 1, 0, none⟩ = some va := hN2.c0
 have gz : wc.frozen? ⟨w.heap.size + 1 + 1, 0, none⟩ = false := hN2.fz 0
 have HN2 := hid hN2
 have hb0 : w.heap.size < wc.heap.size := by omega
 have hb1 : w.heap.size + 1 < wc.heap.size := by omega
 have hb2 : w.heap.size + 1 + 1 < wc.heap.size := by omega
 clear hN2 hcK hfK hc1' hc0'
 go_wp2_with fail
 go_region_law (first
   | (refine step_app1 rfl _ _ _ rfl rowS rfl (World.ownsRow.drew (((HN2.out.all.alloc _).alloc _).alloc _)) ⟨wc.heap.size + 2, 0, none⟩ 1 1 [.int .i64 x2, .int .i64 x3] rfl rfl (cells2 (by simp [go_sem]) (by simp [go_sem])) (by simp [Value.oneCell']) (by decide) (by simp; omega) (by unfold maxLen; simp; omega) (by simp; omega) ?_; intro g cap w1 hown1 hg1; have kp := NR.keep ((((HN2.out.alloc _).alloc _).alloc _).drewN 1) hg1; have kp0 := kp.1; have kp1 := kp.2; clear kp)
   | (go_simp; go_at_call 141; refine (step2_any ((K : Int), x2, x3) _).mono ?_; rintro e w' ⟨rfl, rfl⟩))
 all_goals (
 have hss : (xs.take (k + 1)).map (fun x => (x.2.1, x.2.2)) = (xs.take k).map (fun x => (x.2.1, x.2.2)) ++ [(x2, x3)] := by rw [take_snoc HX.out, List.map_append]; rfl
 have hlk2 : ((xs.take k).map fun x => (x.2.1, x.2.2)).length = k := by simp; omega
 rw [hlk2] at hown1
 have hN4 := NR.setAll (va' := .slice (some ⟨g, 0, none⟩) (k + 1) cap) (ss' := (xs.take k).map (fun x => (x.2.1, x.2.2)) ++ [(x2, x3)]) ((((HN2.out.alloc _).alloc _).alloc _).drewN 1) (by rw [List.length_append, hlk2, List.flatMap_append]; exact hown1) hg1
 rw [<- hss] at hN4
 have HN4 := hid hN4
 clear hN4 hss hlk2 hown1 hg1 kp0 kp1 g0 gz f0 f1 f2
 go_wp2
 go_roundw
 case rel => exact ⟨k + 1, _, by omega, by go_num, HN4.out⟩
 case measure => simp [intOf]; omega)))
 · (
 obtain rfl : k = xs.length := by omega
 have hN0 : NR w wr n (frOf (fun x => x.1) xs 0) va (xs.map fun x => (x.2.1, x.2.2)) := by (
 have h0 := HN.out
 simp only [List.take_length] at h0
 exact h0.congr (fun i => (frOf_zero _ (fun x hx => (hk x hx).1) i).symm))
 have HN0 := hid hN0
 clear hN0 HN hS
 go_wp2
 go_loopw [43] (fun i wr => ∃ k : Nat, k <= n /\ i = .int .i64 k /\ NR w wr n (frOf (fun x => x.1) xs k) va (xs.map fun x => (x.2.1, x.2.2)))
   (fun i _ => n - (intOf i).toNat)
 case atStart => exact ⟨0, Nat.zero_le _, rfl, HN0.out⟩
 case round => (
 obtain ⟨k, hkn, rfl, hM⟩ := hrel
 have HM := hid hM; clear hM HN0
 have hsy := HM.out.size
 by_cases hlt2 : k < n
 · (
 have hc1' : wr.cell? ⟨w.heap.size + 1 + 1, 1, none⟩ = some (.slice (some ⟨w.heap.size + 1, 0, none⟩) (n + 1) (n + 1)) := HM.out.c1
 have hcK : wr.cell? ⟨w.heap.size + 1, k, none⟩ = some (.int .i64 (frOf (fun x => x.1) xs k k)) := HM.out.b1.cell (i := k) (by omega)
 have hcK1 : wr.cell? ⟨w.heap.size + 1, k + 1, none⟩ = some (.int .i64 (frOf (fun x => x.1) xs k (k + 1))) := HM.out.b1.cell (i := k + 1) (by omega)
 have hfK1 : wr.frozen? ⟨w.heap.size + 1, k + 1, none⟩ = false := HM.out.b1.frozen (k + 1)
 have hstep := frOf_step (fun x => x.1) xs k
 have hp1 := frOf_bd (fun x => x.1) xs k k
 have hp2 := frOf_bd (fun x => x.1) xs k (k + 1)
 have hcong := fun i => frOf_next (fun x => x.1) xs k i
 have HCG := hid hcong
 obtain ⟨u, hu⟩ : ∃ u, u = frOf (fun x => x.1) xs k k := ⟨_, rfl⟩
 obtain ⟨v, hv⟩ : ∃ v, v = frOf (fun x => x.1) xs k (k + 1) := ⟨_, rfl⟩
 rw [<- hu] at hcK hp1; rw [<- hv] at hcK1 hp2
 have HU := hid hu; have HV := hid hv
 have hu0 := hp1.1; have hv0 := hp2.1
 have hu1 : u <= 10000 := by omega
 have hv1 : v <= 10000 := by omega
 clear hu hv hcong hstep hp1 hp2
 have hK1 : (k : Int) < (n : Int) := by omega
 have hK2 : (0 : Int) <= (k : Int) + 1 := by omega
 have hK6 : (k : Int) < (n : Int) + 1 := by omega
 have hK3 : IntKind.i64.wrap ((k : Int) + 1) = (k : Int) + 1 := IntWalk.i64_in _ (by omega)
 have hK4 : ((k : Int) + 1).toNat = k + 1 := by omega
 have hK5 : IntKind.i64.wrap (v + u) = v + u := IntWalk.i64_in _ (by omega)
 go_upto_region 11 with fail
 go_region
 have hN5 := ((HM.out.setFrom (k + 1) (v + u)).drewN 1).congr (fr' := frOf (fun x => x.1) xs (k + 1)) (fun i => by rw [HU.out, HV.out]; exact HCG.out i)
 have HN5 := hid hN5
 clear hN5 hc1' hcK hcK1 hfK1
 go_wp2
 go_roundw
 case rel => exact ⟨k + 1, by omega, by go_num, HN5.out⟩
 case measure => simp [intOf]; omega)
 · (
 obtain rfl : k = n := by omega
 have hc0' : wr.cell? ⟨w.heap.size + 1 + 1, 0, none⟩ = some va := HM.out.c0
 have hc1' : wr.cell? ⟨w.heap.size + 1 + 1, 1, none⟩ = some (.slice (some ⟨w.heap.size + 1, 0, none⟩) (k + 1) (k + 1)) := HM.out.c1
 have hd0 := HM.out.d0; have hd1 := HM.out.d1
 have hz0 := HM.out.dz 0; have hz1 := HM.out.dz 1
 obtain ⟨ga, gn, gc, hva⟩ : ∃ ga gn gc, va = .slice ga gn gc := by (
 rcases HM.out.all.2 with ⟨h, _⟩ | ⟨g, cap, cur, h, _⟩
 · exact ⟨_, _, _, h⟩
 · exact ⟨_, _, _, h⟩)
 subst hva
 have hall := HM.out.all
 rw [List.length_map] at hall
 have HALL := hid hall; clear hall
 go_wp2
 refine bodyPost_ret (v := .agg #[.slice ga gn gc, .slice (some ⟨w.heap.size + 1, 0, none⟩) (k + 1) (k + 1)]) (by simp [results, Tryz.results139, go_sem, hd0, hd1]) rfl ⟨_, rfl, ?_, ?_, ?_⟩
 · exact ownsRow_setCell_below (ownsRow_setCell_below HALL.out (by show w.heap.size < w.heap.size + 3; omega) _) (by show w.heap.size < w.heap.size + 3; omega) _
 · exact ((HM.out.b1.setOther (by show w.heap.size + 1 ≠ w.heap.size; omega) _).setOther (by show w.heap.size + 1 ≠ w.heap.size; omega) _).congr (fun i hi => by unfold frOf; rw [if_pos (by omega)])
 · exact (HM.out.below.setCell (Nat.le_refl _) _).setCell (Nat.le_refl _) _))))
theorem newRowsIn_any (n : Nat) (hn : n <= 1000) {a : Option Addr} {b off c : Nat} {xs : List E} {w : World} (hS : SlAt encE 3 w a b off xs) (hl : xs.length <= 10000) (hk : ∀ x ∈ xs, 0 <= x.2.2 /\ x.2.2 < n) :
    Calls Tryz.prog 139 #[.int .i64 n, .slice a xs.length c, .func (.func 146) #[] #[], .func (.func 147) #[] #[]] w fun e w' =>
      ∃ va, e = .returned (.agg #[va, .slice (some ⟨w.heap.size + 1, 0, none⟩) (n + 1) (n + 1)]) /\ w'.ownsRow (w.heap.size + 3) 129 2 va xs.length ((xs.map fun x => (x.2.1, x.1)).flatMap encS) /\
        w'.rowIs (w.heap.size + 1) 3 (n + 1) (fun j => .int .i64 (xs.filter (fun x => decide (x.2.2 < (j : Int)))).length) /\ Below w.heap.size w w' := by
 have hmk := run_make_row' (P := Tryz.prog) 58 3 (.int .i64 0) 8 Tryz.underlying58 (by kernel_rfl) rfl .i64 .i64 (n + 1) (by omega) (by omega)
 rw [show ((n + 1 : Nat) : Int) = (n : Int) + 1 by omega] at hmk
 go_enter Tryz.func139, Tryz.ntmps139
 go_wp2
 clear hmk
 have hstart : NR w _ n (cntk (fun x => x.2.2) (xs.take 0)) (.slice none 0 0) ((xs.take 0).map fun x => (x.2.1, x.1)) := NR.start w n _ (by intro i; simp [cntk])
 have HST := hid hstart
 clear hstart
 go_loopw [19] (fun i wr => ∃ (k : Nat) (va : Value), k <= xs.length /\ i = .int .i64 k /\ NR w wr n (cntk (fun x => x.2.2) (xs.take k)) va ((xs.take k).map fun x => (x.2.1, x.1)))
   (fun i _ => xs.length - (intOf i).toNat)
 case atStart => exact ⟨0, _, Nat.zero_le _, rfl, HST.out⟩
 case round => (
 obtain ⟨k, va, hkl, rfl, hN⟩ := hrel
 have HN := hid hN; clear hN HST
 have hsz := HN.out.size
 by_cases hlt : k < xs.length
 · (
 obtain ⟨x, hx⟩ := getElem?_of_lt hlt
 obtain rfl := hS.ad (by omega)
 have hS' := hS.below HN.out.below (Nat.le_refl _)
 have e0 := hS'.e0 hx; have e1 := hS'.e1 hx; have e2 := hS'.e2 hx
 have hbl := hS'.lt (by omega)
 have hkx := hk x (List.mem_of_getElem? hx)
 obtain ⟨x1, x2, x3⟩ := x
 obtain ⟨K, hK⟩ : ∃ K : Nat, x3 = (K : Int) := ⟨(x3).toNat, by simp only at hkx; omega⟩
 subst hK
 simp only at e0 e1 e2 hkx
 have hKn : K < n := by omega
 have HX := hid hx
 have HS := hid hS; have HK := hid hk
 clear hS hS' hx hk hkx
 have hc0 := HN.out.c0; have hc1 := HN.out.c1
 have hcK : wr.cell? ⟨w.heap.size + 1, K + 1, none⟩ = some (.int .i64 (cntk (fun x => x.2.2) (xs.take k) (K + 1))) := HN.out.b1.cell (i := K + 1) (by omega)
 have hfK : wr.frozen? ⟨w.heap.size + 1, K + 1, none⟩ = false := HN.out.b1.frozen (K + 1)
 have hcb := cntk_le (fun x => x.2.2) (xs.take k) (K + 1)
 have hlk : (xs.take k).length <= xs.length := by simp; omega
 obtain ⟨cv, hcv⟩ : ∃ cv, cv = cntk (fun x => x.2.2) (xs.take k) (K + 1) := ⟨_, rfl⟩
 rw [<- hcv] at hcK hcb
 have HCV := hid hcv; clear hcv
 have hcv0 : 0 <= cv := hcb.1
 have hcv1 : cv <= 10000 := by omega
 clear hcb
 have hK1 : (K : Int) < (n : Int) := by omega
 have hK2 : (0 : Int) <= (K : Int) + 1 := by omega
 have hK3 : IntKind.i64.wrap ((K : Int) + 1) = (K : Int) + 1 := IntWalk.i64_in _ (by omega)
 have hK4 : ((K : Int) + 1).toNat = K + 1 := by omega
 have hK5 : IntKind.i64.wrap (cv + 1) = cv + 1 := IntWalk.i64_in _ (by omega)
 have hb0 : w.heap.size < wr.heap.size := by omega
 have hb1 : w.heap.size + 1 < wr.heap.size := by omega
 have hb2 : w.heap.size + 1 + 1 < wr.heap.size := by omega
 have hc1' : wr.cell? ⟨w.heap.size + 1 + 1, 1, none⟩ = some (.slice (some ⟨w.heap.size + 1, 0, none⟩) (n + 1) (n + 1)) := hc1
 have hc0' : wr.cell? ⟨w.heap.size + 1 + 1, 0, none⟩ = some va := hc0
 clear hc0 hc1
 go_upto_region 5 with fail
 go_cut [11] from 23 to 41 (fun s11 wx => s11 = .pointer (some ⟨wr.heap.size, 0, none⟩) /\ NR w wx n (cntk (fun x => x.2.2) (xs.take (k + 1))) va ((xs.take k).map fun x => (x.2.1, x.1)) /\ wr.heap.size < wx.heap.size /\
     wx.cell? ⟨wr.heap.size, 0, none⟩ = some (.int .i64 x1) /\ wx.cell? ⟨wr.heap.size, 1, none⟩ = some (.int .i64 x2) /\ wx.cell? ⟨wr.heap.size, 2, none⟩ = some (.int .i64 (K : Int)))
 case first => (
 go_region_with (go_at_call 146; refine (key4_any (x1, x2, (K : Int)) _).mono ?_; rintro e w' ⟨rfl, rfl⟩)
 all_goals
   go_wp2_with fail
   go_meet
 all_goals (
 refine ⟨rfl, ((((HN.out.setFrom (K + 1) (cv + 1)).alloc _).alloc _).drewN 1).congr (fun i => ?_), by simp [go_sem, World.setCell], by simp [go_sem, World.setCell], by simp [go_sem, World.setCell], by simp [go_sem, World.setCell]⟩
 rw [take_snoc HX.out, cntk_snoc, HCV.out]
 by_cases hi : i = K + 1
 · subst hi; rw [if_pos rfl, if_pos (by simp)]
 · rw [if_neg hi, if_neg (by simp only; omega)]; omega))
 case rest => (
 obtain ⟨rfl, hN2, hszx, f0, f1, f2⟩ := hcut
 have hsz2 := hN2.size
 have g0 : wc.cell? ⟨w.heap.size + 1 + 1, 0, none⟩ = some va := hN2.c0
 have gz : wc.frozen? ⟨w.heap.size + 1 + 1, 0, none⟩ = false := hN2.fz 0
 have HN2 := hid hN2
 have hb0 : w.heap.size < wc.heap.size := by omega
 have hb1 : w.heap.size + 1 < wc.heap.size := by omega
 have hb2 : w.heap.size + 1 + 1 < wc.heap.size := by omega
 clear hN2 hcK hfK hc1' hc0'
 go_wp2_with fail
 go_region_law (first
   | (refine step_app1 rfl _ _ _ rfl rowS rfl (World.ownsRow.drew (((HN2.out.all.alloc _).alloc _).alloc _)) ⟨wc.heap.size + 2, 0, none⟩ 1 1 [.int .i64 x2, .int .i64 x1] rfl rfl (cells2 (by simp [go_sem]) (by simp [go_sem])) (by simp [Value.oneCell']) (by decide) (by simp; omega) (by unfold maxLen; simp; omega) (by simp; omega) ?_; intro g cap w1 hown1 hg1; have kp := NR.keep ((((HN2.out.alloc _).alloc _).alloc _).drewN 1) hg1; have kp0 := kp.1; have kp1 := kp.2; clear kp)
   | (go_simp; go_at_call 147; refine (step5_any (x1, x2, (K : Int)) _).mono ?_; rintro e w' ⟨rfl, rfl⟩))
 all_goals (
 have hss : (xs.take (k + 1)).map (fun x => (x.2.1, x.1)) = (xs.take k).map (fun x => (x.2.1, x.1)) ++ [(x2, x1)] := by rw [take_snoc HX.out, List.map_append]; rfl
 have hlk2 : ((xs.take k).map fun x => (x.2.1, x.1)).length = k := by simp; omega
 rw [hlk2] at hown1
 have hN4 := NR.setAll (va' := .slice (some ⟨g, 0, none⟩) (k + 1) cap) (ss' := (xs.take k).map (fun x => (x.2.1, x.1)) ++ [(x2, x1)]) ((((HN2.out.alloc _).alloc _).alloc _).drewN 1) (by rw [List.length_append, hlk2, List.flatMap_append]; exact hown1) hg1
 rw [<- hss] at hN4
 have HN4 := hid hN4
 clear hN4 hss hlk2 hown1 hg1 kp0 kp1 g0 gz f0 f1 f2
 go_wp2
 go_roundw
 case rel => exact ⟨k + 1, _, by omega, by go_num, HN4.out⟩
 case measure => simp [intOf]; omega)))
 · (
 obtain rfl : k = xs.length := by omega
 have hN0 : NR w wr n (frOf (fun x => x.2.2) xs 0) va (xs.map fun x => (x.2.1, x.1)) := by (
 have h0 := HN.out
 simp only [List.take_length] at h0
 exact h0.congr (fun i => (frOf_zero _ (fun x hx => (hk x hx).1) i).symm))
 have HN0 := hid hN0
 clear hN0 HN hS
 go_wp2
 go_loopw [43] (fun i wr => ∃ k : Nat, k <= n /\ i = .int .i64 k /\ NR w wr n (frOf (fun x => x.2.2) xs k) va (xs.map fun x => (x.2.1, x.1)))
   (fun i _ => n - (intOf i).toNat)
 case atStart => exact ⟨0, Nat.zero_le _, rfl, HN0.out⟩
 case round => (
 obtain ⟨k, hkn, rfl, hM⟩ := hrel
 have HM := hid hM; clear hM HN0
 have hsy := HM.out.size
 by_cases hlt2 : k < n
 · (
 have hc1' : wr.cell? ⟨w.heap.size + 1 + 1, 1, none⟩ = some (.slice (some ⟨w.heap.size + 1, 0, none⟩) (n + 1) (n + 1)) := HM.out.c1
 have hcK : wr.cell? ⟨w.heap.size + 1, k, none⟩ = some (.int .i64 (frOf (fun x => x.2.2) xs k k)) := HM.out.b1.cell (i := k) (by omega)
 have hcK1 : wr.cell? ⟨w.heap.size + 1, k + 1, none⟩ = some (.int .i64 (frOf (fun x => x.2.2) xs k (k + 1))) := HM.out.b1.cell (i := k + 1) (by omega)
 have hfK1 : wr.frozen? ⟨w.heap.size + 1, k + 1, none⟩ = false := HM.out.b1.frozen (k + 1)
 have hstep := frOf_step (fun x => x.2.2) xs k
 have hp1 := frOf_bd (fun x => x.2.2) xs k k
 have hp2 := frOf_bd (fun x => x.2.2) xs k (k + 1)
 have hcong := fun i => frOf_next (fun x => x.2.2) xs k i
 have HCG := hid hcong
 obtain ⟨u, hu⟩ : ∃ u, u = frOf (fun x => x.2.2) xs k k := ⟨_, rfl⟩
 obtain ⟨v, hv⟩ : ∃ v, v = frOf (fun x => x.2.2) xs k (k + 1) := ⟨_, rfl⟩
 rw [<- hu] at hcK hp1; rw [<- hv] at hcK1 hp2
 have HU := hid hu; have HV := hid hv
 have hu0 := hp1.1; have hv0 := hp2.1
 have hu1 : u <= 10000 := by omega
 have hv1 : v <= 10000 := by omega
 clear hu hv hcong hstep hp1 hp2
 have hK1 : (k : Int) < (n : Int) := by omega
 have hK2 : (0 : Int) <= (k : Int) + 1 := by omega
 have hK6 : (k : Int) < (n : Int) + 1 := by omega
 have hK3 : IntKind.i64.wrap ((k : Int) + 1) = (k : Int) + 1 := IntWalk.i64_in _ (by omega)
 have hK4 : ((k : Int) + 1).toNat = k + 1 := by omega
 have hK5 : IntKind.i64.wrap (v + u) = v + u := IntWalk.i64_in _ (by omega)
 go_upto_region 11 with fail
 go_region
 have hN5 := ((HM.out.setFrom (k + 1) (v + u)).drewN 1).congr (fr' := frOf (fun x => x.2.2) xs (k + 1)) (fun i => by rw [HU.out, HV.out]; exact HCG.out i)
 have HN5 := hid hN5
 clear hN5 hc1' hcK hcK1 hfK1
 go_wp2
 go_roundw
 case rel => exact ⟨k + 1, by omega, by go_num, HN5.out⟩
 case measure => simp [intOf]; omega)
 · (
 obtain rfl : k = n := by omega
 have hc0' : wr.cell? ⟨w.heap.size + 1 + 1, 0, none⟩ = some va := HM.out.c0
 have hc1' : wr.cell? ⟨w.heap.size + 1 + 1, 1, none⟩ = some (.slice (some ⟨w.heap.size + 1, 0, none⟩) (k + 1) (k + 1)) := HM.out.c1
 have hd0 := HM.out.d0; have hd1 := HM.out.d1
 have hz0 := HM.out.dz 0; have hz1 := HM.out.dz 1
 obtain ⟨ga, gn, gc, hva⟩ : ∃ ga gn gc, va = .slice ga gn gc := by (
 rcases HM.out.all.2 with ⟨h, _⟩ | ⟨g, cap, cur, h, _⟩
 · exact ⟨_, _, _, h⟩
 · exact ⟨_, _, _, h⟩)
 subst hva
 have hall := HM.out.all
 rw [List.length_map] at hall
 have HALL := hid hall; clear hall
 go_wp2
 refine bodyPost_ret (v := .agg #[.slice ga gn gc, .slice (some ⟨w.heap.size + 1, 0, none⟩) (k + 1) (k + 1)]) (by simp [results, Tryz.results139, go_sem, hd0, hd1]) rfl ⟨_, rfl, ?_, ?_, ?_⟩
 · exact ownsRow_setCell_below (ownsRow_setCell_below HALL.out (by show w.heap.size < w.heap.size + 3; omega) _) (by show w.heap.size < w.heap.size + 3; omega) _
 · exact ((HM.out.b1.setOther (by show w.heap.size + 1 ≠ w.heap.size; omega) _).setOther (by show w.heap.size + 1 ≠ w.heap.size; omega) _).congr (fun i hi => by unfold frOf; rw [if_pos (by omega)])
 · exact (HM.out.below.setCell (Nat.le_refl _) _).setCell (Nat.le_refl _) _))))
end Go.Proofs.YtgikimbafakmcaaGreatDoor

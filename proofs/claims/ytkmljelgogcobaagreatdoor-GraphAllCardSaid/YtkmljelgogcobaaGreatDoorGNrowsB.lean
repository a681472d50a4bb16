/-
  system.newRows: the walk.
  cmp.Compare, cmp.Or, system.order: the order of edges.
  slices.SortFunc at edges, by the shelf's contract; system.Sorted: the normal form of a list of edges.
-/
import Derived.Test.YtkmljelgogcobaaGreatDoorGGraphC
import Derived.Test.YtkmljelgogcobaaGreatDoorGBase
import Derived.Sort.Grow
import Derived.Deep.QuietTactic
import Derived.BigQuiet
import Derived.Deep.RegionHeld3
import Derived.Deep.RegionWith
import Derived.Test.YtkmljelgogcobaaGreatDoorShelf
import Derived.Test.YtkmljelgogcobaaGreatDoorCompact2
import Derived.Test.YtkmljelgogcobaaGreatDoorGPl1
import Derived.Sort.OwnSortedInts
namespace Go.Proofs.YtkmljelgogcobaaGreatDoor
open Go.RowKit Pl

set_option maxRecDepth 100000 in
set_option maxHeartbeats 4000000 in
theorem newRowsOut_any (n : Nat) (hn : n ≤ 1000) {a : Option Addr} {b off c : Nat} {xs : List E} {w : World} (hS : SlAt encE 3 w a b off xs) (hl : xs.length ≤ 10000) (hk : ∀ x ∈ xs, 0 ≤ x.1 ∧ x.1 < n) :
    Calls Tryz.prog 47 #[.int .i64 n, .slice a xs.length c, .func (.func 48) #[] #[], .func (.func 49) #[] #[]] w fun e w' =>
      ∃ va, e = .returned (.agg #[va, .slice (some ⟨w.heap.size + 1, 0, none⟩) (n + 1) (n + 1)]) ∧ w'.ownsRow (w.heap.size + 3) 92 2 va xs.length ((xs.map fun x => (x.2.1, x.2.2)).flatMap encS) ∧
        w'.rowIs (w.heap.size + 1) 3 (n + 1) (fun j => .int .i64 (xs.filter (fun x => decide (x.1 < (j : Int)))).length) ∧ Below w.heap.size w w' := by
  have hmk := run_make_row' (P := Tryz.prog) 49 3 (.int .i64 0) 8 Tryz.underlying49 (by kernel_rfl) rfl .i64 .i64 (n + 1) (by omega) (by omega)
  rw [show ((n + 1 : Nat) : Int) = (n : Int) + 1 by omega] at hmk
  go_enter Tryz.func47, Tryz.ntmps47
  go_wp2
  clear hmk
  have hstart : NR w _ n (cntk (fun x => x.1) (xs.take 0)) (.slice none 0 0) ((xs.take 0).map fun x => (x.2.1, x.2.2)) := NR.start w n _ (by intro i; simp [cntk])
  have HST := Lib.hid hstart
  clear hstart
  go_loopw [19] (fun i wr => ∃ (k : Nat) (va : Value), k ≤ xs.length ∧ i = .int .i64 k ∧ NR w wr n (cntk (fun x => x.1) (xs.take k)) va ((xs.take k).map fun x => (x.2.1, x.2.2)))
    (fun i _ => xs.length - (intOf i).toNat)
  case atStart => exact ⟨0, _, Nat.zero_le _, rfl, HST.out⟩
  case round =>
    obtain ⟨k, va, hkl, rfl, hN⟩ := hrel
    have HN := Lib.hid hN; clear hN HST
    have hsz := HN.out.size
    by_cases hlt : k < xs.length
    · obtain ⟨x, hx⟩ := getElem?_of_lt hlt
      obtain rfl := hS.ad (by omega)
      have hS' := hS.below HN.out.below (Nat.le_refl _)
      have e0 := hS'.e0 hx; have e1 := hS'.e1 hx; have e2 := hS'.e2 hx
      have hbl := hS'.lt (by omega)
      have hkx := hk x (List.mem_of_getElem? hx)
      obtain ⟨x1, x2, x3⟩ := x
      obtain ⟨K, hK⟩ : ∃ K : Nat, x1 = (K : Int) := ⟨(x1).toNat, by simp only at hkx; omega⟩
      subst hK
      simp only at e0 e1 e2 hkx
      have hKn : K < n := by omega
      have HX := Lib.hid hx
      have HS := Lib.hid hS; have HK := Lib.hid hk
      clear hS hS' hx hk hkx
      have hc0 := HN.out.c0; have hc1 := HN.out.c1
      have hcK : wr.cell? ⟨w.heap.size + 1, K + 1, none⟩ = some (.int .i64 (cntk (fun x => x.1) (xs.take k) (K + 1))) := HN.out.b1.cell (i := K + 1) (by omega)
      have hfK : wr.frozen? ⟨w.heap.size + 1, K + 1, none⟩ = false := HN.out.b1.frozen (K + 1)
      have hcb := cntk_le (fun x => x.1) (xs.take k) (K + 1)
      have hlk : (xs.take k).length ≤ xs.length := by simp; omega
      obtain ⟨cv, hcv⟩ : ∃ cv, cv = cntk (fun x => x.1) (xs.take k) (K + 1) := ⟨_, rfl⟩
      rw [← hcv] at hcK hcb
      have HCV := Lib.hid hcv; clear hcv
      have hcv0 : 0 ≤ cv := hcb.1
      have hcv1 : cv ≤ 10000 := by omega
      clear hcb
      have hK1 : (K : Int) < (n : Int) := by omega
      have hK2 : (0 : Int) ≤ (K : Int) + 1 := by omega
      have hK3 : IntKind.i64.wrap ((K : Int) + 1) = (K : Int) + 1 := IntWalk.i64_in _ (by omega)
      have hK4 : ((K : Int) + 1).toNat = K + 1 := by omega
      have hK5 : IntKind.i64.wrap (cv + 1) = cv + 1 := IntWalk.i64_in _ (by omega)
      have hb0 : w.heap.size < wr.heap.size := by omega
      have hb1 : w.heap.size + 1 < wr.heap.size := by omega
      have hb2 : w.heap.size + 1 + 1 < wr.heap.size := by omega
      have hc1' : wr.cell? ⟨w.heap.size + 1 + 1, 1, none⟩ = some (.slice (some ⟨w.heap.size + 1, 0, none⟩) (n + 1) (n + 1)) := hc1
      have hc0' : wr.cell? ⟨w.heap.size + 1 + 1, 0, none⟩ = some va := hc0
      clear hc0 hc1
      go_upto_region 5 with fail
      go_cut [11] from 23 to 41 (fun s11 wx => s11 = .pointer (some ⟨wr.heap.size, 0, none⟩) ∧ NR w wx n (cntk (fun x => x.1) (xs.take (k + 1))) va ((xs.take k).map fun x => (x.2.1, x.2.2)) ∧ wr.heap.size < wx.heap.size ∧
          wx.cell? ⟨wr.heap.size, 0, none⟩ = some (.int .i64 (K : Int)) ∧ wx.cell? ⟨wr.heap.size, 1, none⟩ = some (.int .i64 x2) ∧ wx.cell? ⟨wr.heap.size, 2, none⟩ = some (.int .i64 x3))
      case first =>
        go_region_with (go_at_call 48; refine (key1_any ((K : Int), x2, x3) _).mono ?_; rintro e w' ⟨rfl, rfl⟩)
        all_goals
          go_wp2_with fail
          go_meet
        all_goals
          refine ⟨rfl, ((((HN.out.setFrom (K + 1) (cv + 1)).alloc _).alloc _).drewN 1).congr (fun i => ?_), by simp [go_sem, World.setCell], by simp [go_sem, World.setCell], by simp [go_sem, World.setCell], by simp [go_sem, World.setCell]⟩
          rw [take_snoc HX.out, cntk_snoc, HCV.out]
          by_cases hi : i = K + 1
          · subst hi; rw [if_pos rfl, if_pos (by simp)]
          · rw [if_neg hi, if_neg (by simp only; omega)]; omega
      case rest =>
        obtain ⟨rfl, hN2, hszx, f0, f1, f2⟩ := hcut
        have hsz2 := hN2.size
        have g0 : wc.cell? ⟨w.heap.size + 1 + 1, 0, none⟩ = some va := hN2.c0
        have gz : wc.frozen? ⟨w.heap.size + 1 + 1, 0, none⟩ = false := hN2.fz 0
        have HN2 := Lib.hid hN2
        have hb0 : w.heap.size < wc.heap.size := by omega
        have hb1 : w.heap.size + 1 < wc.heap.size := by omega
        have hb2 : w.heap.size + 1 + 1 < wc.heap.size := by omega
        clear hN2 hcK hfK hc1' hc0'
        go_wp2_with fail
        go_region_law (first
          | (refine step_app1 rfl _ _ _ rfl rowS rfl (World.ownsRow.drew (((HN2.out.all.alloc _).alloc _).alloc _)) ⟨wc.heap.size + 2, 0, none⟩ 1 1 [.int .i64 x2, .int .i64 x3] rfl rfl (cells2 (by simp [go_sem]) (by simp [go_sem])) (by simp [Value.oneCell']) (by decide) (by simp; omega) (by unfold maxLen; simp; omega) (by simp; omega) ?_; intro g cap w1 hown1 hg1; have kp := NR.keep ((((HN2.out.alloc _).alloc _).alloc _).drewN 1) hg1; have kp0 := kp.1; have kp1 := kp.2; clear kp)
          | (go_simp; go_at_call 49; refine (step2_any ((K : Int), x2, x3) _).mono ?_; rintro e w' ⟨rfl, rfl⟩))
        all_goals
          have hss : (xs.take (k + 1)).map (fun x => (x.2.1, x.2.2)) = (xs.take k).map (fun x => (x.2.1, x.2.2)) ++ [(x2, x3)] := by rw [take_snoc HX.out, List.map_append]; rfl
          have hlk2 : ((xs.take k).map fun x => (x.2.1, x.2.2)).length = k := by simp; omega
          rw [hlk2] at hown1
          have hN4 := NR.setAll (va' := .slice (some ⟨g, 0, none⟩) (k + 1) cap) (ss' := (xs.take k).map (fun x => (x.2.1, x.2.2)) ++ [(x2, x3)]) ((((HN2.out.alloc _).alloc _).alloc _).drewN 1) (by rw [List.length_append, hlk2, List.flatMap_append]; exact hown1) hg1
          rw [← hss] at hN4
          have HN4 := Lib.hid hN4
          clear hN4 hss hlk2 hown1 hg1 kp0 kp1 g0 gz f0 f1 f2
          go_wp2
          go_roundw
          case rel => exact ⟨k + 1, _, by omega, by go_num, HN4.out⟩
          case measure => simp [intOf]; omega
    · obtain rfl : k = xs.length := by omega
      have hN0 : NR w wr n (frOf (fun x => x.1) xs 0) va (xs.map fun x => (x.2.1, x.2.2)) := by
        have h0 := HN.out
        simp only [List.take_length] at h0
        exact h0.congr (fun i => (frOf_zero _ (fun x hx => (hk x hx).1) i).symm)
      have HN0 := Lib.hid hN0
      clear hN0 HN hS
      go_wp2
      go_loopw [43] (fun i wr => ∃ k : Nat, k ≤ n ∧ i = .int .i64 k ∧ NR w wr n (frOf (fun x => x.1) xs k) va (xs.map fun x => (x.2.1, x.2.2)))
        (fun i _ => n - (intOf i).toNat)
      case atStart => exact ⟨0, Nat.zero_le _, rfl, HN0.out⟩
      case round =>
        obtain ⟨k, hkn, rfl, hM⟩ := hrel
        have HM := Lib.hid hM; clear hM HN0
        have hsy := HM.out.size
        by_cases hlt2 : k < n
        · have hc1' : wr.cell? ⟨w.heap.size + 1 + 1, 1, none⟩ = some (.slice (some ⟨w.heap.size + 1, 0, none⟩) (n + 1) (n + 1)) := HM.out.c1
          have hcK : wr.cell? ⟨w.heap.size + 1, k, none⟩ = some (.int .i64 (frOf (fun x => x.1) xs k k)) := HM.out.b1.cell (i := k) (by omega)
          have hcK1 : wr.cell? ⟨w.heap.size + 1, k + 1, none⟩ = some (.int .i64 (frOf (fun x => x.1) xs k (k + 1))) := HM.out.b1.cell (i := k + 1) (by omega)
          have hfK1 : wr.frozen? ⟨w.heap.size + 1, k + 1, none⟩ = false := HM.out.b1.frozen (k + 1)
          have hstep := frOf_step (fun x => x.1) xs k
          have hp1 := frOf_bd (fun x => x.1) xs k k
          have hp2 := frOf_bd (fun x => x.1) xs k (k + 1)
          have hcong := fun i => frOf_next (fun x => x.1) xs k i
          have HCG := Lib.hid hcong
          obtain ⟨u, hu⟩ : ∃ u, u = frOf (fun x => x.1) xs k k := ⟨_, rfl⟩
          obtain ⟨v, hv⟩ : ∃ v, v = frOf (fun x => x.1) xs k (k + 1) := ⟨_, rfl⟩
          rw [← hu] at hcK hp1; rw [← hv] at hcK1 hp2
          have HU := Lib.hid hu; have HV := Lib.hid hv
          have hu0 := hp1.1; have hv0 := hp2.1
          have hu1 : u ≤ 10000 := by omega
          have hv1 : v ≤ 10000 := by omega
          clear hu hv hcong hstep hp1 hp2
          have hK1 : (k : Int) < (n : Int) := by omega
          have hK2 : (0 : Int) ≤ (k : Int) + 1 := by omega
          have hK6 : (k : Int) < (n : Int) + 1 := by omega
          have hK3 : IntKind.i64.wrap ((k : Int) + 1) = (k : Int) + 1 := IntWalk.i64_in _ (by omega)
          have hK4 : ((k : Int) + 1).toNat = k + 1 := by omega
          have hK5 : IntKind.i64.wrap (v + u) = v + u := IntWalk.i64_in _ (by omega)
          go_upto_region 11 with fail
          go_region
          have hN5 := ((HM.out.setFrom (k + 1) (v + u)).drewN 1).congr (fr' := frOf (fun x => x.1) xs (k + 1)) (fun i => by rw [HU.out, HV.out]; exact HCG.out i)
          have HN5 := Lib.hid hN5
          clear hN5 hc1' hcK hcK1 hfK1
          go_wp2
          go_roundw
          case rel => exact ⟨k + 1, by omega, by go_num, HN5.out⟩
          case measure => simp [intOf]; omega
        · obtain rfl : k = n := by omega
          have hc0' : wr.cell? ⟨w.heap.size + 1 + 1, 0, none⟩ = some va := HM.out.c0
          have hc1' : wr.cell? ⟨w.heap.size + 1 + 1, 1, none⟩ = some (.slice (some ⟨w.heap.size + 1, 0, none⟩) (k + 1) (k + 1)) := HM.out.c1
          have hd0 := HM.out.d0; have hd1 := HM.out.d1
          have hz0 := HM.out.dz 0; have hz1 := HM.out.dz 1
          obtain ⟨ga, gn, gc, hva⟩ : ∃ ga gn gc, va = .slice ga gn gc := by
            rcases HM.out.all.2 with ⟨h, _⟩ | ⟨g, cap, cur, h, _⟩
            · exact ⟨_, _, _, h⟩
            · exact ⟨_, _, _, h⟩
          subst hva
          have hall := HM.out.all
          rw [List.length_map] at hall
          have HALL := Lib.hid hall; clear hall
          go_wp2
          refine bodyPost_ret (v := .agg #[.slice ga gn gc, .slice (some ⟨w.heap.size + 1, 0, none⟩) (k + 1) (k + 1)]) (by simp [results, Tryz.results47, go_sem, hd0, hd1]) rfl ⟨_, rfl, ?_, ?_, ?_⟩
          · exact ownsRow_setCell_below (ownsRow_setCell_below HALL.out (by show w.heap.size < w.heap.size + 3; omega) _) (by show w.heap.size < w.heap.size + 3; omega) _
          · exact ((HM.out.b1.setOther (by show w.heap.size + 1 ≠ w.heap.size; omega) _).setOther (by show w.heap.size + 1 ≠ w.heap.size; omega) _).congr (fun i hi => by unfold frOf; rw [if_pos (by omega)])
          · exact (HM.out.below.setCell (Nat.le_refl _) _).setCell (Nat.le_refl _) _

set_option maxRecDepth 100000 in
set_option maxHeartbeats 4000000 in
theorem newRowsIn_any (n : Nat) (hn : n ≤ 1000) {a : Option Addr} {b off c : Nat} {xs : List E} {w : World} (hS : SlAt encE 3 w a b off xs) (hl : xs.length ≤ 10000) (hk : ∀ x ∈ xs, 0 ≤ x.2.2 ∧ x.2.2 < n) :
    Calls Tryz.prog 47 #[.int .i64 n, .slice a xs.length c, .func (.func 55) #[] #[], .func (.func 56) #[] #[]] w fun e w' =>
      ∃ va, e = .returned (.agg #[va, .slice (some ⟨w.heap.size + 1, 0, none⟩) (n + 1) (n + 1)]) ∧ w'.ownsRow (w.heap.size + 3) 92 2 va xs.length ((xs.map fun x => (x.2.1, x.1)).flatMap encS) ∧
        w'.rowIs (w.heap.size + 1) 3 (n + 1) (fun j => .int .i64 (xs.filter (fun x => decide (x.2.2 < (j : Int)))).length) ∧ Below w.heap.size w w' := by
  have hmk := run_make_row' (P := Tryz.prog) 49 3 (.int .i64 0) 8 Tryz.underlying49 (by kernel_rfl) rfl .i64 .i64 (n + 1) (by omega) (by omega)
  rw [show ((n + 1 : Nat) : Int) = (n : Int) + 1 by omega] at hmk
  go_enter Tryz.func47, Tryz.ntmps47
  go_wp2
  clear hmk
  have hstart : NR w _ n (cntk (fun x => x.2.2) (xs.take 0)) (.slice none 0 0) ((xs.take 0).map fun x => (x.2.1, x.1)) := NR.start w n _ (by intro i; simp [cntk])
  have HST := Lib.hid hstart
  clear hstart
  go_loopw [19] (fun i wr => ∃ (k : Nat) (va : Value), k ≤ xs.length ∧ i = .int .i64 k ∧ NR w wr n (cntk (fun x => x.2.2) (xs.take k)) va ((xs.take k).map fun x => (x.2.1, x.1)))
    (fun i _ => xs.length - (intOf i).toNat)
  case atStart => exact ⟨0, _, Nat.zero_le _, rfl, HST.out⟩
  case round =>
    obtain ⟨k, va, hkl, rfl, hN⟩ := hrel
    have HN := Lib.hid hN; clear hN HST
    have hsz := HN.out.size
    by_cases hlt : k < xs.length
    · obtain ⟨x, hx⟩ := getElem?_of_lt hlt
      obtain rfl := hS.ad (by omega)
      have hS' := hS.below HN.out.below (Nat.le_refl _)
      have e0 := hS'.e0 hx; have e1 := hS'.e1 hx; have e2 := hS'.e2 hx
      have hbl := hS'.lt (by omega)
      have hkx := hk x (List.mem_of_getElem? hx)
      obtain ⟨x1, x2, x3⟩ := x
      obtain ⟨K, hK⟩ : ∃ K : Nat, x3 = (K : Int) := ⟨(x3).toNat, by simp only at hkx; omega⟩
      subst hK
      simp only at e0 e1 e2 hkx
      have hKn : K < n := by omega
      have HX := Lib.hid hx
      have HS := Lib.hid hS; have HK := Lib.hid hk
      clear hS hS' hx hk hkx
      have hc0 := HN.out.c0; have hc1 := HN.out.c1
      have hcK : wr.cell? ⟨w.heap.size + 1, K + 1, none⟩ = some (.int .i64 (cntk (fun x => x.2.2) (xs.take k) (K + 1))) := HN.out.b1.cell (i := K + 1) (by omega)
      have hfK : wr.frozen? ⟨w.heap.size + 1, K + 1, none⟩ = false := HN.out.b1.frozen (K + 1)
      have hcb := cntk_le (fun x => x.2.2) (xs.take k) (K + 1)
      have hlk : (xs.take k).length ≤ xs.length := by simp; omega
      obtain ⟨cv, hcv⟩ : ∃ cv, cv = cntk (fun x => x.2.2) (xs.take k) (K + 1) := ⟨_, rfl⟩
      rw [← hcv] at hcK hcb
      have HCV := Lib.hid hcv; clear hcv
      have hcv0 : 0 ≤ cv := hcb.1
      have hcv1 : cv ≤ 10000 := by omega
      clear hcb
      have hK1 : (K : Int) < (n : Int) := by omega
      have hK2 : (0 : Int) ≤ (K : Int) + 1 := by omega
      have hK3 : IntKind.i64.wrap ((K : Int) + 1) = (K : Int) + 1 := IntWalk.i64_in _ (by omega)
      have hK4 : ((K : Int) + 1).toNat = K + 1 := by omega
      have hK5 : IntKind.i64.wrap (cv + 1) = cv + 1 := IntWalk.i64_in _ (by omega)
      have hb0 : w.heap.size < wr.heap.size := by omega
      have hb1 : w.heap.size + 1 < wr.heap.size := by omega
      have hb2 : w.heap.size + 1 + 1 < wr.heap.size := by omega
      have hc1' : wr.cell? ⟨w.heap.size + 1 + 1, 1, none⟩ = some (.slice (some ⟨w.heap.size + 1, 0, none⟩) (n + 1) (n + 1)) := hc1
      have hc0' : wr.cell? ⟨w.heap.size + 1 + 1, 0, none⟩ = some va := hc0
      clear hc0 hc1
      go_upto_region 5 with fail
      go_cut [11] from 23 to 41 (fun s11 wx => s11 = .pointer (some ⟨wr.heap.size, 0, none⟩) ∧ NR w wx n (cntk (fun x => x.2.2) (xs.take (k + 1))) va ((xs.take k).map fun x => (x.2.1, x.1)) ∧ wr.heap.size < wx.heap.size ∧
          wx.cell? ⟨wr.heap.size, 0, none⟩ = some (.int .i64 x1) ∧ wx.cell? ⟨wr.heap.size, 1, none⟩ = some (.int .i64 x2) ∧ wx.cell? ⟨wr.heap.size, 2, none⟩ = some (.int .i64 (K : Int)))
      case first =>
        go_region_with (go_at_call 55; refine (key4_any (x1, x2, (K : Int)) _).mono ?_; rintro e w' ⟨rfl, rfl⟩)
        all_goals
          go_wp2_with fail
          go_meet
        all_goals
          refine ⟨rfl, ((((HN.out.setFrom (K + 1) (cv + 1)).alloc _).alloc _).drewN 1).congr (fun i => ?_), by simp [go_sem, World.setCell], by simp [go_sem, World.setCell], by simp [go_sem, World.setCell], by simp [go_sem, World.setCell]⟩
          rw [take_snoc HX.out, cntk_snoc, HCV.out]
          by_cases hi : i = K + 1
          · subst hi; rw [if_pos rfl, if_pos (by simp)]
          · rw [if_neg hi, if_neg (by simp only; omega)]; omega
      case rest =>
        obtain ⟨rfl, hN2, hszx, f0, f1, f2⟩ := hcut
        have hsz2 := hN2.size
        have g0 : wc.cell? ⟨w.heap.size + 1 + 1, 0, none⟩ = some va := hN2.c0
        have gz : wc.frozen? ⟨w.heap.size + 1 + 1, 0, none⟩ = false := hN2.fz 0
        have HN2 := Lib.hid hN2
        have hb0 : w.heap.size < wc.heap.size := by omega
        have hb1 : w.heap.size + 1 < wc.heap.size := by omega
        have hb2 : w.heap.size + 1 + 1 < wc.heap.size := by omega
        clear hN2 hcK hfK hc1' hc0'
        go_wp2_with fail
        go_region_law (first
          | (refine step_app1 rfl _ _ _ rfl rowS rfl (World.ownsRow.drew (((HN2.out.all.alloc _).alloc _).alloc _)) ⟨wc.heap.size + 2, 0, none⟩ 1 1 [.int .i64 x2, .int .i64 x1] rfl rfl (cells2 (by simp [go_sem]) (by simp [go_sem])) (by simp [Value.oneCell']) (by decide) (by simp; omega) (by unfold maxLen; simp; omega) (by simp; omega) ?_; intro g cap w1 hown1 hg1; have kp := NR.keep ((((HN2.out.alloc _).alloc _).alloc _).drewN 1) hg1; have kp0 := kp.1; have kp1 := kp.2; clear kp)
          | (go_simp; go_at_call 56; refine (step5_any (x1, x2, (K : Int)) _).mono ?_; rintro e w' ⟨rfl, rfl⟩))
        all_goals
          have hss : (xs.take (k + 1)).map (fun x => (x.2.1, x.1)) = (xs.take k).map (fun x => (x.2.1, x.1)) ++ [(x2, x1)] := by rw [take_snoc HX.out, List.map_append]; rfl
          have hlk2 : ((xs.take k).map fun x => (x.2.1, x.1)).length = k := by simp; omega
          rw [hlk2] at hown1
          have hN4 := NR.setAll (va' := .slice (some ⟨g, 0, none⟩) (k + 1) cap) (ss' := (xs.take k).map (fun x => (x.2.1, x.1)) ++ [(x2, x1)]) ((((HN2.out.alloc _).alloc _).alloc _).drewN 1) (by rw [List.length_append, hlk2, List.flatMap_append]; exact hown1) hg1
          rw [← hss] at hN4
          have HN4 := Lib.hid hN4
          clear hN4 hss hlk2 hown1 hg1 kp0 kp1 g0 gz f0 f1 f2
          go_wp2
          go_roundw
          case rel => exact ⟨k + 1, _, by omega, by go_num, HN4.out⟩
          case measure => simp [intOf]; omega
    · obtain rfl : k = xs.length := by omega
      have hN0 : NR w wr n (frOf (fun x => x.2.2) xs 0) va (xs.map fun x => (x.2.1, x.1)) := by
        have h0 := HN.out
        simp only [List.take_length] at h0
        exact h0.congr (fun i => (frOf_zero _ (fun x hx => (hk x hx).1) i).symm)
      have HN0 := Lib.hid hN0
      clear hN0 HN hS
      go_wp2
      go_loopw [43] (fun i wr => ∃ k : Nat, k ≤ n ∧ i = .int .i64 k ∧ NR w wr n (frOf (fun x => x.2.2) xs k) va (xs.map fun x => (x.2.1, x.1)))
        (fun i _ => n - (intOf i).toNat)
      case atStart => exact ⟨0, Nat.zero_le _, rfl, HN0.out⟩
      case round =>
        obtain ⟨k, hkn, rfl, hM⟩ := hrel
        have HM := Lib.hid hM; clear hM HN0
        have hsy := HM.out.size
        by_cases hlt2 : k < n
        · have hc1' : wr.cell? ⟨w.heap.size + 1 + 1, 1, none⟩ = some (.slice (some ⟨w.heap.size + 1, 0, none⟩) (n + 1) (n + 1)) := HM.out.c1
          have hcK : wr.cell? ⟨w.heap.size + 1, k, none⟩ = some (.int .i64 (frOf (fun x => x.2.2) xs k k)) := HM.out.b1.cell (i := k) (by omega)
          have hcK1 : wr.cell? ⟨w.heap.size + 1, k + 1, none⟩ = some (.int .i64 (frOf (fun x => x.2.2) xs k (k + 1))) := HM.out.b1.cell (i := k + 1) (by omega)
          have hfK1 : wr.frozen? ⟨w.heap.size + 1, k + 1, none⟩ = false := HM.out.b1.frozen (k + 1)
          have hstep := frOf_step (fun x => x.2.2) xs k
          have hp1 := frOf_bd (fun x => x.2.2) xs k k
          have hp2 := frOf_bd (fun x => x.2.2) xs k (k + 1)
          have hcong := fun i => frOf_next (fun x => x.2.2) xs k i
          have HCG := Lib.hid hcong
          obtain ⟨u, hu⟩ : ∃ u, u = frOf (fun x => x.2.2) xs k k := ⟨_, rfl⟩
          obtain ⟨v, hv⟩ : ∃ v, v = frOf (fun x => x.2.2) xs k (k + 1) := ⟨_, rfl⟩
          rw [← hu] at hcK hp1; rw [← hv] at hcK1 hp2
          have HU := Lib.hid hu; have HV := Lib.hid hv
          have hu0 := hp1.1; have hv0 := hp2.1
          have hu1 : u ≤ 10000 := by omega
          have hv1 : v ≤ 10000 := by omega
          clear hu hv hcong hstep hp1 hp2
          have hK1 : (k : Int) < (n : Int) := by omega
          have hK2 : (0 : Int) ≤ (k : Int) + 1 := by omega
          have hK6 : (k : Int) < (n : Int) + 1 := by omega
          have hK3 : IntKind.i64.wrap ((k : Int) + 1) = (k : Int) + 1 := IntWalk.i64_in _ (by omega)
          have hK4 : ((k : Int) + 1).toNat = k + 1 := by omega
          have hK5 : IntKind.i64.wrap (v + u) = v + u := IntWalk.i64_in _ (by omega)
          go_upto_region 11 with fail
          go_region
          have hN5 := ((HM.out.setFrom (k + 1) (v + u)).drewN 1).congr (fr' := frOf (fun x => x.2.2) xs (k + 1)) (fun i => by rw [HU.out, HV.out]; exact HCG.out i)
          have HN5 := Lib.hid hN5
          clear hN5 hc1' hcK hcK1 hfK1
          go_wp2
          go_roundw
          case rel => exact ⟨k + 1, by omega, by go_num, HN5.out⟩
          case measure => simp [intOf]; omega
        · obtain rfl : k = n := by omega
          have hc0' : wr.cell? ⟨w.heap.size + 1 + 1, 0, none⟩ = some va := HM.out.c0
          have hc1' : wr.cell? ⟨w.heap.size + 1 + 1, 1, none⟩ = some (.slice (some ⟨w.heap.size + 1, 0, none⟩) (k + 1) (k + 1)) := HM.out.c1
          have hd0 := HM.out.d0; have hd1 := HM.out.d1
          have hz0 := HM.out.dz 0; have hz1 := HM.out.dz 1
          obtain ⟨ga, gn, gc, hva⟩ : ∃ ga gn gc, va = .slice ga gn gc := by
            rcases HM.out.all.2 with ⟨h, _⟩ | ⟨g, cap, cur, h, _⟩
            · exact ⟨_, _, _, h⟩
            · exact ⟨_, _, _, h⟩
          subst hva
          have hall := HM.out.all
          rw [List.length_map] at hall
          have HALL := Lib.hid hall; clear hall
          go_wp2
          refine bodyPost_ret (v := .agg #[.slice ga gn gc, .slice (some ⟨w.heap.size + 1, 0, none⟩) (k + 1) (k + 1)]) (by simp [results, Tryz.results47, go_sem, hd0, hd1]) rfl ⟨_, rfl, ?_, ?_, ?_⟩
          · exact ownsRow_setCell_below (ownsRow_setCell_below HALL.out (by show w.heap.size < w.heap.size + 3; omega) _) (by show w.heap.size < w.heap.size + 3; omega) _
          · exact ((HM.out.b1.setOther (by show w.heap.size + 1 ≠ w.heap.size; omega) _).setOther (by show w.heap.size + 1 ≠ w.heap.size; omega) _).congr (fun i hi => by unfold frOf; rw [if_pos (by omega)])
          · exact (HM.out.below.setCell (Nat.le_refl _) _).setCell (Nat.le_refl _) _

end Go.Proofs.YtkmljelgogcobaaGreatDoor

namespace Go.Proofs.YtkmljelgogcobaaGreatDoor
open Go.RowKit Pl

def cmpI (x y : Int) : Int := if x < y then -1 else if y < x then 1 else 0

theorem compare_any (x y : Int) (w : World) : Calls Tryz.prog 54 #[.int .i64 x, .int .i64 y] w fun e w' => e = .returned (.int .i64 (cmpI x y)) ∧ w = w' := by
  unfold cmpI
  go_enter Tryz.func54, Tryz.ntmps54
  go_wp2
  all_goals (go_ret; exact ⟨by simp [*], rfl⟩)

def orL : List Int → Int
  | [] => 0
  | x :: l => if x = 0 then orL l else x

theorem orL_drop {xs : List Int} {k : Nat} (h : ∀ j, j < k → xs[j]? = some 0) : orL xs = orL (xs.drop k) := by
  induction k generalizing xs with
  | zero => simp
  | succ k ih =>
    match xs, h with
    | [], _ => simp [orL]
    | x :: xs, h =>
      have h0 : x = 0 := by simpa using h 0 (by omega)
      rw [orL, if_pos h0, List.drop_succ_cons]
      exact ih fun j hj => by simpa using h (j + 1) (by omega)
theorem orL_at {xs : List Int} {k : Nat} {x : Int} (h : ∀ j, j < k → xs[j]? = some 0) (hx : xs[k]? = some x) (h0 : x ≠ 0) : orL xs = x := by
  rw [orL_drop h, List.drop_eq_getElem?_toList_append, hx]
  simp [orL, h0]
theorem orL_none {xs : List Int} (h : ∀ j, j < xs.length → xs[j]? = some 0) : orL xs = 0 := by
  rw [orL_drop h]; simp [orL]

set_option maxRecDepth 100000 in
theorem or_any {a : Option Addr} {b off c : Nat} {xs : List Int} {w : World} (h : SlAt encI 1 w a b off xs) (hl : xs.length ≤ 4611686018427387904) :
   Calls Tryz.prog 53 #[.slice a xs.length c] w fun e w' => e = .returned (.int .i64 (orL xs)) ∧ w = w' := by
  go_enter Tryz.func53, Tryz.ntmps53
  go_wp2
  go_loop [5, 8] (fun _ i => ∃ k : Nat, k ≤ xs.length ∧ i = .int .i64 k ∧ (∀ j, j < k → xs[j]? = some 0)) (fun _ i => xs.length - (intOf i).toNat)
  case atStart => exact ⟨0, Nat.zero_le _, rfl, by intro j hj; omega⟩
  case round =>
    obtain ⟨k, hk, rfl, hz⟩ := hrel
    have HZ := Lib.hid hz; clear hz
    by_cases hlt : k < xs.length
    · obtain ⟨x, hx⟩ := getElem?_of_lt hlt
      obtain rfl := h.ad (by omega)
      have hc := h.ci hx
      have HX := Lib.hid hx; clear h hx
      by_cases h0 : x = 0
      · subst h0
        go_wp2
        go_round
        case rel => exact ⟨k + 1, by omega, by go_num, by
            intro j hj
            by_cases hjk : j = k
            · subst hjk; exact HX.out
            · exact HZ.out j (by omega)⟩
        case measure => simp [intOf]; omega
      · have hb : (x != 0) = true := by simp [h0]
        have H0 := Lib.hid h0; clear h0
        go_wp2
        go_ret
        exact ⟨ret_i (orL_at HZ.out HX.out H0.out).symm, rfl⟩
    · clear h
      go_wp2
      go_ret
      obtain rfl : k = xs.length := by omega
      exact ⟨ret_i (orL_none HZ.out).symm, rfl⟩

def cmpE (a b : E) : Int := orL [cmpI a.1 b.1, cmpI a.2.1 b.2.1, cmpI a.2.2 b.2.2]

theorem slAt_lit3 {w : World} {n : Nat} {x y z : Int} (h0 : w.cell? ⟨n, 0, none⟩ = some (.int .i64 x)) (h1 : w.cell? ⟨n, 1, none⟩ = some (.int .i64 y)) (h2 : w.cell? ⟨n, 2, none⟩ = some (.int .i64 z)) :
    SlAt encI 1 w (some ⟨n, 0, none⟩) n 0 [x, y, z] where
  ad _ := rfl
  lt _ := World.block_lt_of_cell? _ _ h0
  cell := by
    intro i v hv j u hu
    match j, hu with
    | 0, hu =>
      simp [encI] at hu; subst hu
      match i, hv with
      | 0, hv => simp at hv; subst hv; exact h0
      | 1, hv => simp at hv; subst hv; exact h1
      | 2, hv => simp at hv; subst hv; exact h2

set_option maxRecDepth 100000 in
theorem order_any (x y : E) (w : World) : Calls Tryz.prog 127 #[.agg #[.int .i64 x.1, .int .i64 x.2.1, .int .i64 x.2.2], .agg #[.int .i64 y.1, .int .i64 y.2.1, .int .i64 y.2.2]] w fun e w' => e = .returned (.int .i64 (cmpE x y)) ∧ ∃ q os', w' = Go.Sort.grow (w.drewN q) os' := by
  unfold cmpE
  go_enter Tryz.func127, Tryz.ntmps127
  go_wp2
  go_region_held3 (fun w' => w'.cell? ⟨w.heap.size, 0, none⟩ = some (.int .i64 x.1) ∧ w'.cell? ⟨w.heap.size, 1, none⟩ = some (.int .i64 x.2.1) ∧ w'.cell? ⟨w.heap.size, 2, none⟩ = some (.int .i64 x.2.2) ∧ w'.cell? ⟨w.heap.size + 1, 0, none⟩ = some (.int .i64 y.1) ∧ w'.cell? ⟨w.heap.size + 1, 1, none⟩ = some (.int .i64 y.2.1) ∧ w'.cell? ⟨w.heap.size + 1, 2, none⟩ = some (.int .i64 y.2.2)) (simp [go_sem, World.cell?_alloc_past])
    (first
      | (go_at_call 54; refine (compare_any _ _ _).mono ?_; rintro e w' ⟨rfl, rfl⟩)
      | (go_at_call 53; refine (or_any (slAt_lit3 (x := cmpI x.1 y.1) (y := cmpI x.2.1 y.2.1) (z := cmpI x.2.2 y.2.2) (by simp [go_sem]) (by simp [go_sem]) (by simp [go_sem])) (by simp)).mono ?_; rintro e w' ⟨rfl, rfl⟩))
  go_wp2
  go_ret
  exact ⟨rfl, 1, _, by rw [Go.Sort.alloc_eq_grow, Go.Sort.alloc_eq_grow, Go.Sort.alloc_eq_grow, Go.Sort.grow_grow, Go.Sort.grow_grow]; rfl⟩

end Go.Proofs.YtkmljelgogcobaaGreatDoor

namespace Go.Proofs.YtkmljelgogcobaaGreatDoor
open Go.RowKit Pl Go.Sort Go.Shelf Go.Lib

section
variable {α : Type} [Inhabited α] {enc : α → List Value} {k : Nat} {w : World} {base g n cap : Nat} {e : TypeId}

theorem flatK_toList (hk : ∀ x, (enc x).length = k) (hk0 : 0 < k) (d : Array α) : (flatK enc k d).toList = d.toList.flatMap enc := by
  apply List.ext_getElem?
  intro t
  by_cases ht : t < d.size * k
  · have hi : t / k < d.size := by rw [Nat.div_lt_iff_lt_mul hk0]; exact ht
    have hm : t % k < k := Nat.mod_lt _ hk0
    have hx : d.toList[t / k]? = some d[t / k]! := by
      rw [Array.getElem?_toList, Array.getElem?_eq_getElem hi, getElem!_pos d (t / k) hi]
    have h1 := getElem?_flatMap hk d.toList (t / k) _ hx (t % k) _ (List.getElem?_eq_getElem (by rw [hk]; exact hm))
    rw [show t / k * k + t % k = t from Nat.div_add_mod' t k] at h1
    rw [h1, Array.getElem?_toList]
    have h2 := get_flatK enc k d t ht
    rw [getElem!_pos _ _ (by simpa using ht)] at h2
    rw [Array.getElem?_eq_getElem (by simpa using ht), h2, getElem!_pos _ _ (by rw [hk]; exact hm)]
  · rw [List.getElem?_eq_none (by simp; omega), List.getElem?_eq_none (by rw [length_flatMap hk]; simp; omega)]

theorem holdsK_own (hk : ∀ x, (enc x).length = k) (hk0 : 0 < k) {xs : List α} (h : w.ownsRow base e k (.slice (some ⟨g, 0, none⟩) n cap) xs.length (xs.flatMap enc)) : HoldsK enc k w g 0 xs.toArray := by
  have hS := slAt_row hk h
  intro j hj
  rw [size_flatK] at hj
  refine ⟨?_, row_frozen h _⟩
  have hf := slAt_flat hk hS j
  have hj2 : j < (xs.flatMap enc).length := by rw [length_flatMap hk]; simpa using hj
  have := hf _ (List.getElem?_eq_getElem hj2)
  have hadd : (⟨g, 0, none⟩ : Addr).add j = ⟨g, 0 + j, none⟩ := by unfold Addr.add; split <;> simp_all
  rw [hadd] at this
  rw [this]
  have h2 := flatK_toList hk hk0 xs.toArray
  have h3 : (flatK enc k xs.toArray).toList[j]? = some (xs.flatMap enc)[j] := by rw [h2]; exact List.getElem?_eq_getElem hj2
  rw [Array.getElem?_toList] at h3
  rw [getElem!_pos _ _ (by simpa using hj)]
  rw [Array.getElem?_eq_getElem (by simpa using hj)] at h3
  exact h3.symm

theorem ownsRow_sortedK (hk : ∀ x, (enc x).length = k) (hk0 : 0 < k) {L : List Value} {m : Nat} {os : Array Obj} {d : Array α} (h : w.ownsRow base e k (.slice (some ⟨g, 0, none⟩) n cap) n L) (hd : d.size = n) :
    (sortWorldK enc k w g 0 m d os).ownsRow base e k (.slice (some ⟨g, 0, none⟩) n cap) n (d.toList.flatMap enc) := by
  subst hd
  rcases h.2 with ⟨h', _⟩ | ⟨g', cap', cur, h', hb, hg, hnc, hcm, hcs, htake⟩
  · simp at h'
  · simp only [Value.slice.injEq, Option.some.injEq, Addr.mk.injEq, and_true, true_and] at h'
    obtain ⟨rfl, rfl⟩ := h'
    have hlt : g < w.heap.size := (Array.getElem?_eq_some_iff.1 hg).1
    refine ⟨by rw [length_flatMap hk]; simp, .inr ⟨g, cap, putCells id 0 (flatK enc k d) cur, rfl, hb, ?_, hnc, hcm, by simp [putCells, hcs], ?_⟩⟩
    · show (grow (putRowK enc k (Sort.ahead w m) g 0 d) os).heap[g]? = _
      unfold grow putRowK putRow mapBlock Sort.ahead
      simp only
      rw [Array.getElem?_append_left (by simpa using hlt), Array.getElem?_modify, if_pos rfl, hg]
      rfl
    · rw [← flatK_toList hk hk0]
      have hc : d.size * k ≤ cur.size := by rw [hcs]; exact Nat.mul_le_mul_right _ hnc
      apply List.ext_getElem?
      intro t
      rw [List.getElem?_take]
      by_cases ht : t < d.size * k
      · rw [if_pos ht, Array.getElem?_toList, Array.getElem?_toList]
        unfold putCells
        rw [Array.getElem?_mapIdx, Array.getElem?_eq_getElem (show t < cur.size by omega), Array.getElem?_eq_getElem (show t < (flatK enc k d).size by simpa using ht)]
        simp only [Option.map_some, Nat.zero_le, Nat.zero_add, size_flatK, true_and, ht, if_true, Nat.sub_zero, id]
        rw [getElem!_pos _ _ (by simpa using ht)]
      · rw [if_neg ht, List.getElem?_eq_none (by simp; omega)]

theorem below_sortK {w0 : World} {B m : Nat} {os : Array Obj} {d : Array α} (h : Below B w0 w) (hb : B ≤ g) (hg : g < w.heap.size) : Below B w0 (sortWorldK enc k w g 0 m d os) :=
  h.trans ⟨rfl, rfl, rfl, by simp [sortWorldK, grow, putRowK, putRow, mapBlock, Sort.ahead], fun i hi => by
    show (grow (putRowK enc k (Sort.ahead w m) g 0 d) os).heap[i]? = _
    unfold grow putRowK putRow mapBlock Sort.ahead
    simp only
    rw [Array.getElem?_append_left (by simp; omega), Array.getElem?_modify, if_neg (by omega)]⟩

end

theorem ltOf_cmpE (x y : E) : ltOf cmpE x y = ltE x y := by
  rw [Bool.eq_iff_iff, ltE_iff]
  unfold ltOf cmpE orL orL orL orL cmpI
  simp only [decide_eq_true_eq]
  repeat' split
  all_goals omega

theorem swoE : SWO (ltOf cmpE) where
  irrefl x := by rw [ltOf_cmpE]; exact stoE.irrefl x
  trans x y z := by rw [ltOf_cmpE, ltOf_cmpE, ltOf_cmpE]; exact stoE.trans x y z
  ntrans x y z := by
    rw [ltOf_cmpE, ltOf_cmpE, ltOf_cmpE]
    simp only [Bool.eq_false_iff, ne_eq, ltE_iff]
    omega

/-- slices.SortFunc(s, f), s an edge row of the call's own, f a function that orders edges by 'cf'. -/
theorem sortFuncE (cf : E → E → Int) (hO : SWO (ltOf cf)) (f : Nat) (eg : ∀ args w, (callFunc f args).run Tryz.prog w = .ok (.enter f args) w)
    (hcmp : ∀ (x y : E) (W : World), Calls Tryz.prog f #[.agg #[.int .i64 x.1, .int .i64 x.2.1, .int .i64 x.2.2], .agg #[.int .i64 y.1, .int .i64 y.2.1, .int .i64 y.2.2]] W fun e w' => e = .returned (.int .i64 (cf x y)) ∧ ∃ q os', w' = Go.Sort.grow (W.drewN q) os')
    {base g n cap : Nat} {xs : List E} {w : World} (h : w.ownsRow base 79 3 (.slice (some ⟨g, 0, none⟩) n cap) xs.length (xs.flatMap encE)) (hn : n = xs.length) (hl : xs.length ≤ 1000000) :
    Calls Tryz.prog 51 #[.slice (some ⟨g, 0, none⟩) n cap, .func (.func f) #[] #[]] w fun e w' => e = .returned (.tuple #[]) ∧
      ∃ ys : List E, ys.Perm xs ∧ ys.Pairwise (fun a b => ltOf cf b a = false) ∧ w'.ownsRow base 79 3 (.slice (some ⟨g, 0, none⟩) n cap) n (ys.flatMap encE) ∧ (∀ {w0 : World}, Below base w0 w → Below base w0 w') := by
  subst hn
  have hlt := h.lt g rfl
  have hcon := AnyQ.slices_SortFunc Tryz.sortE 3 Tryz.isAgg79 Tryz.sizeOf79 encE lenE (fun x v hv => by simp [encE] at hv; rcases hv with rfl | rfl | rfl <;> rfl) cf hO f #[] g 0 cap xs.toArray w eg
    (fun m os dk _ x y => hcmp x y _) (holdsK_own lenE (by decide) h) hlt.2 (by simpa using by omega)
  change Calls Tryz.prog 51 _ _ _ at hcon
  refine hcon.mono ?_
  rintro e w' ⟨rfl, d', m, os, hp, hs, rfl⟩
  have hsz : d'.size = xs.length := by simpa using hp.1
  refine ⟨rfl, d'.toList, ?_, ?_, ?_, fun hB => below_sortK hB hlt.1 hlt.2⟩
  · have := hp.2.2
    simp only [Array.toList_extract, List.size_toArray, List.extract_eq_take_drop, Nat.sub_zero, List.drop_zero] at this
    rw [List.take_of_length_le (by simp [hsz]), List.take_of_length_le (Nat.le_refl _)] at this
    exact this
  · rw [List.pairwise_iff_getElem]
    intro i j hi hj hij
    have := hs i j (Nat.zero_le _) hij (by simpa [← hsz] using hj)
    rw [getElem!_pos _ _ (by simpa using hj), getElem!_pos _ _ (by simpa using hi)] at this
    simpa using this
  · have := ownsRow_sortedK (m := m) (os := os) (d := d') lenE (by decide) h hsz
    simpa using this

/-- .. of whatever row of the call's own, a nil one too. -/
theorem sortFuncE_v (cf : E → E → Int) (hO : SWO (ltOf cf)) (f : Nat) (eg : ∀ args w, (callFunc f args).run Tryz.prog w = .ok (.enter f args) w)
    (hcmp : ∀ (x y : E) (W : World), Calls Tryz.prog f #[.agg #[.int .i64 x.1, .int .i64 x.2.1, .int .i64 x.2.2], .agg #[.int .i64 y.1, .int .i64 y.2.1, .int .i64 y.2.2]] W fun e w' => e = .returned (.int .i64 (cf x y)) ∧ ∃ q os', w' = Go.Sort.grow (W.drewN q) os')
    {base : Nat} {v : Value} {xs : List E} {w : World} (h : w.ownsRow base 79 3 v xs.length (xs.flatMap encE)) (hl : xs.length ≤ 1000000) :
    Calls Tryz.prog 51 #[v, .func (.func f) #[] #[]] w fun e w' => e = .returned (.tuple #[]) ∧
      ∃ ys : List E, ys.Perm xs ∧ ys.Pairwise (fun a b => ltOf cf b a = false) ∧ w'.ownsRow base 79 3 v ys.length (ys.flatMap encE) ∧ (∀ {w0 : World}, Below base w0 w → Below base w0 w') := by
  rcases h.2 with ⟨rfl, hn⟩ | ⟨g, cap, cur, rfl, r⟩
  · have hx : xs = [] := List.eq_nil_of_length_eq_zero hn
    subst hx
    have hcon := AnyF.slices_SortFunc_none Tryz.sortE none 0 (.func (.func f) #[] #[]) w
    change Calls Tryz.prog 51 _ _ _ at hcon
    refine hcon.mono ?_
    rintro e w' ⟨rfl, rfl⟩
    exact ⟨rfl, [], List.Perm.refl _, List.Pairwise.nil, h, fun hB => hB⟩
  · refine (sortFuncE cf hO f eg hcmp h rfl hl).mono ?_
    rintro e w' ⟨rfl, ys, hp, hs, ho, hB⟩
    exact ⟨rfl, ys, hp, hs, by rw [hp.length_eq]; exact ho, hB⟩

set_option maxRecDepth 100000 in
theorem compactE_nil (w : World) : Calls Tryz.prog 128 #[.slice none 0 0] w fun e w' => e = .returned (.slice none 0 0) ∧ w = w' := by
  go_enter Tryz.func128, Tryz.ntmps128
  go_wp2
  go_ret
  exact ⟨rfl, rfl⟩

theorem compactE_v {base : Nat} {v : Value} {xs : List E} {w : World} (h : w.ownsRow base 79 3 v xs.length (xs.flatMap encE)) (hl : xs.length ≤ 1000000) :
    Calls Tryz.prog 128 #[v] w fun e w' => ∃ v', e = .returned v' ∧ w'.ownsRow base 79 3 v' (cmpt xs).length ((cmpt xs).flatMap encE) ∧ (∀ {w0 : World}, Below base w0 w → Below base w0 w') := by
  rcases h.2 with ⟨rfl, hn⟩ | ⟨g, cap, cur, rfl, hbg, hg, hnc, r⟩
  · have hx : xs = [] := List.eq_nil_of_length_eq_zero hn
    subst hx
    refine (compactE_nil w).mono ?_
    rintro e w' ⟨rfl, rfl⟩
    exact ⟨_, rfl, h, fun hB => hB⟩
  · refine (compactE_any h rfl hl hbg hnc).mono ?_
    rintro e w' ⟨m, rfl, ho, rfl, hB⟩
    exact ⟨_, rfl, ho, fun hB0 => hB0.trans hB⟩

set_option maxRecDepth 100000 in
/-- system.Sorted. -/
theorem sorted_any {a : Option Addr} {b off c : Nat} {xs : List E} {w : World} (h : SlAt encE 3 w a b off xs) (hl : xs.length ≤ 1000000) :
    Calls Tryz.prog 64 #[.slice a xs.length c] w fun e w' => ∃ v, e = .returned v ∧ w'.ownsRow w.heap.size 79 3 v (nf ltE xs).length ((nf ltE xs).flatMap encE) ∧ Below w.heap.size w w' := by
  have eg : ∀ args w, (callFunc 127 args).run Tryz.prog w = .ok (.enter 127 args) w := enters_of Tryz.func127 (by kernel_rfl) rfl
  have HE := Lib.hid eg; clear eg
  have hcl := cloneE_any (c := c) h hl
  have HC := Lib.hid hcl
  clear h hcl
  go_enter Tryz.func64, Tryz.ntmps64
  go_wp2_with (go_at_call 50; refine (HC.out).mono ?_; rintro e w1 ⟨v, rfl, hown, hB⟩; have HO := Lib.hid hown; clear hown)
  refine (sortFuncE_v cmpE swoE 127 HE.out (fun x y W => order_any x y W) HO.out hl).mono ?_
  rintro e w2 ⟨rfl, ys, hp, hs, hown, hB2⟩
  have hl2 : ys.length ≤ 1000000 := by rw [hp.length_eq]; exact hl
  have hfin : cmpt ys = nf ltE xs := by
    refine cmpt_eq_nf stoE ?_ (fun x => hp.mem_iff)
    exact hs.imp (fun {a b} h => by rw [ltOf_cmpE] at h; exact h)
  have HF := Lib.hid hfin
  have HO2 := Lib.hid hown
  have hB3 := hB2 hB
  clear hp hs hfin hown hB2 hB
  go_wp2_with (go_at_call 128; refine (compactE_v HO2.out hl2).mono ?_; rintro e w3 ⟨v3, rfl, hown3, hB4⟩)
  go_ret
  exact ⟨_, rfl, by rw [← HF.out]; exact hown3, hB4 hB3⟩

end Go.Proofs.YtkmljelgogcobaaGreatDoor

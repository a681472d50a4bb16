/-
  system.newRows: the walk.
  system.Normal, system.New.
  The closure of system.New by which edges are put in order the other way: by To, Label, From.
  system.New: the graph of a system, a fault of what is none.
  system.New: the graph of a system.
-/
import Derived.Test.YtkmljelgogcobaaGreatDoorGLaidCya
import Derived.Laws.EntriesVeiled
namespace Go.Proofs.YtkmljelgogcobaaGreatDoor
open Go.RowKit Pl

set_option maxRecDepth 100000 in
set_option maxHeartbeats 4000000 in
theorem newRowsOut_any (n : Nat) (hn : n ≤ 1000) {a : Option Addr} {b off c : Nat} {xs : List E} {w : World} (hS : SlAt encE 3 w a b off xs) (hl : xs.length ≤ 10000) (hk : ∀ x ∈ xs, 0 ≤ x.1 ∧ x.1 < n) :
    Calls Tryz.prog 47 #[.int .i64 n, .slice a xs.length c, .func (.func 48) #[] #[], .func (.func 49) #[] #[]] w fun e w' =>
      ∃ va, e = .returned (.agg #[va, .slice (some ⟨w.heap.size + 1, 0, none⟩) (n + 1) (n + 1)]) ∧ w'.ownsRow (w.heap.size + 3) 92 2 va xs.length ((xs.map fun x => (x.2.1, x.2.2)).flatMap encS) ∧
        w'.rowIs (w.heap.size + 1) 3 (n + 1) (fun j => .int .i64 (xs.filter (fun x => decide (x.1 < (j : Int)))).length) ∧ Below w.heap.size w w' := by
  have hmk := run_make_row' (P := Tryz.prog) 49 3 (.int .i64 0) 8 Tryz.underlying49 (by kernel_rfl) rfl .i64 .i64 (n + 1) (by omega) (by omega)
  rw [show ((n + 1 : Nat) : Int) = (n : Int) + 1 by omega] at hmk
  go_enter Tryz.func47, Tryz.ntmps47
  go_wp2
  clear hmk
  have hstart : NR w _ n (cntk (fun x => x.1) (xs.take 0)) (.slice none 0 0) ((xs.take 0).map fun x => (x.2.1, x.2.2)) := NR.start w n _ (by intro i; simp [cntk])
  have HST := Lib.hid hstart
  clear hstart
  go_loopw [19] (fun i wr => ∃ (k : Nat) (va : Value), k ≤ xs.length ∧ i = .int .i64 k ∧ NR w wr n (cntk (fun x => x.1) (xs.take k)) va ((xs.take k).map fun x => (x.2.1, x.2.2)))
    (fun i _ => xs.length - (intOf i).toNat)
  case atStart => exact ⟨0, _, Nat.zero_le _, rfl, HST.out⟩
  case round =>
    obtain ⟨k, va, hkl, rfl, hN⟩ := hrel
    have HN := Lib.hid hN; clear hN HST
    have hsz := HN.out.size
    by_cases hlt : k < xs.length
    · obtain ⟨x, hx⟩ := getElem?_of_lt hlt
      obtain rfl := hS.ad (by omega)
      have hS' := hS.below HN.out.below (Nat.le_refl _)
      have e0 := hS'.e0 hx; have e1 := hS'.e1 hx; have e2 := hS'.e2 hx
      have hbl := hS'.lt (by omega)
      have hkx := hk x (List.mem_of_getElem? hx)
      obtain ⟨x1, x2, x3⟩ := x
      obtain ⟨K, hK⟩ : ∃ K : Nat, x1 = (K : Int) := ⟨(x1).toNat, by simp only at hkx; omega⟩
      subst hK
      simp only at e0 e1 e2 hkx
      have hKn : K < n := by omega
      have HX := Lib.hid hx
      have HS := Lib.hid hS; have HK := Lib.hid hk
      clear hS hS' hx hk hkx
      have hc0 := HN.out.c0; have hc1 := HN.out.c1
      have hcK : wr.cell? ⟨w.heap.size + 1, K + 1, none⟩ = some (.int .i64 (cntk (fun x => x.1) (xs.take k) (K + 1))) := HN.out.b1.cell (i := K + 1) (by omega)
      have hfK : wr.frozen? ⟨w.heap.size + 1, K + 1, none⟩ = false := HN.out.b1.frozen (K + 1)
      have hcb := cntk_le (fun x => x.1) (xs.take k) (K + 1)
      have hlk : (xs.take k).length ≤ xs.length := by simp; omega
      obtain ⟨cv, hcv⟩ : ∃ cv, cv = cntk (fun x => x.1) (xs.take k) (K + 1) := ⟨_, rfl⟩
      rw [← hcv] at hcK hcb
      have HCV := Lib.hid hcv; clear hcv
      have hcv0 : 0 ≤ cv := hcb.1
      have hcv1 : cv ≤ 10000 := by omega
      clear hcb
      have hK1 : (K : Int) < (n : Int) := by omega
      have hK2 : (0 : Int) ≤ (K : Int) + 1 := by omega
      have hK3 : IntKind.i64.wrap ((K : Int) + 1) = (K : Int) + 1 := IntWalk.i64_in _ (by omega)
      have hK4 : ((K : Int) + 1).toNat = K + 1 := by omega
      have hK5 : IntKind.i64.wrap (cv + 1) = cv + 1 := IntWalk.i64_in _ (by omega)
      have hb0 : w.heap.size < wr.heap.size := by omega
      have hb1 : w.heap.size + 1 < wr.heap.size := by omega
      have hb2 : w.heap.size + 1 + 1 < wr.heap.size := by omega
      have hc1' : wr.cell? ⟨w.heap.size + 1 + 1, 1, none⟩ = some (.slice (some ⟨w.heap.size + 1, 0, none⟩) (n + 1) (n + 1)) := hc1
      have hc0' : wr.cell? ⟨w.heap.size + 1 + 1, 0, none⟩ = some va := hc0
      clear hc0 hc1
      go_upto_region 5 with fail
      go_cut [11] from 23 to 41 (fun s11 wx => s11 = .pointer (some ⟨wr.heap.size, 0, none⟩) ∧ NR w wx n (cntk (fun x => x.1) (xs.take (k + 1))) va ((xs.take k).map fun x => (x.2.1, x.2.2)) ∧ wr.heap.size < wx.heap.size ∧
          wx.cell? ⟨wr.heap.size, 0, none⟩ = some (.int .i64 (K : Int)) ∧ wx.cell? ⟨wr.heap.size, 1, none⟩ = some (.int .i64 x2) ∧ wx.cell? ⟨wr.heap.size, 2, none⟩ = some (.int .i64 x3))
      case first =>
        go_region_with (go_at_call 48; refine (key1_any ((K : Int), x2, x3) _).mono ?_; rintro e w' ⟨rfl, rfl⟩)
        all_goals
          go_wp2_with fail
          go_meet
        all_goals
          refine ⟨rfl, ((((HN.out.setFrom (K + 1) (cv + 1)).alloc _).alloc _).drewN 1).congr (fun i => ?_), by simp [go_sem, World.setCell], by simp [go_sem, World.setCell], by simp [go_sem, World.setCell], by simp [go_sem, World.setCell]⟩
          rw [take_snoc HX.out, cntk_snoc, HCV.out]
          by_cases hi : i = K + 1
          · subst hi; rw [if_pos rfl, if_pos (by simp)]
          · rw [if_neg hi, if_neg (by simp only; omega)]; omega
      case rest =>
        obtain ⟨rfl, hN2, hszx, f0, f1, f2⟩ := hcut
        have hsz2 := hN2.size
        have g0 : wc.cell? ⟨w.heap.size + 1 + 1, 0, none⟩ = some va := hN2.c0
        have gz : wc.frozen? ⟨w.heap.size + 1 + 1, 0, none⟩ = false := hN2.fz 0
        have HN2 := Lib.hid hN2
        have hb0 : w.heap.size < wc.heap.size := by omega
        have hb1 : w.heap.size + 1 < wc.heap.size := by omega
        have hb2 : w.heap.size + 1 + 1 < wc.heap.size := by omega
        clear hN2 hcK hfK hc1' hc0'
        go_wp2_with fail
        go_region_law (first
          | (refine step_app1 rfl _ _ _ rfl rowS rfl (World.ownsRow.drew (((HN2.out.all.alloc _).alloc _).alloc _)) ⟨wc.heap.size + 2, 0, none⟩ 1 1 [.int .i64 x2, .int .i64 x3] rfl rfl (cells2 (by simp [go_sem]) (by simp [go_sem])) (by simp [Value.oneCell']) (by decide) (by simp; omega) (by unfold maxLen; simp; omega) (by simp; omega) ?_; intro g cap w1 hown1 hg1; have kp := NR.keep ((((HN2.out.alloc _).alloc _).alloc _).drewN 1) hg1; have kp0 := kp.1; have kp1 := kp.2; clear kp)
          | (go_simp; go_at_call 49; refine (step2_any ((K : Int), x2, x3) _).mono ?_; rintro e w' ⟨rfl, rfl⟩))
        all_goals
          have hss : (xs.take (k + 1)).map (fun x => (x.2.1, x.2.2)) = (xs.take k).map (fun x => (x.2.1, x.2.2)) ++ [(x2, x3)] := by rw [take_snoc HX.out, List.map_append]; rfl
          have hlk2 : ((xs.take k).map fun x => (x.2.1, x.2.2)).length = k := by simp; omega
          rw [hlk2] at hown1
          have hN4 := NR.setAll (va' := .slice (some ⟨g, 0, none⟩) (k + 1) cap) (ss' := (xs.take k).map (fun x => (x.2.1, x.2.2)) ++ [(x2, x3)]) ((((HN2.out.alloc _).alloc _).alloc _).drewN 1) (by rw [List.length_append, hlk2, List.flatMap_append]; exact hown1) hg1
          rw [← hss] at hN4
          have HN4 := Lib.hid hN4
          clear hN4 hss hlk2 hown1 hg1 kp0 kp1 g0 gz f0 f1 f2
          go_wp2
          go_roundw
          case rel => exact ⟨k + 1, _, by omega, by go_num, HN4.out⟩
          case measure => simp [intOf]; omega
    · obtain rfl : k = xs.length := by omega
      have hN0 : NR w wr n (frOf (fun x => x.1) xs 0) va (xs.map fun x => (x.2.1, x.2.2)) := by
        have h0 := HN.out
        simp only [List.take_length] at h0
        exact h0.congr (fun i => (frOf_zero _ (fun x hx => (hk x hx).1) i).symm)
      have HN0 := Lib.hid hN0
      clear hN0 HN hS
      go_wp2
      go_loopw [43] (fun i wr => ∃ k : Nat, k ≤ n ∧ i = .int .i64 k ∧ NR w wr n (frOf (fun x => x.1) xs k) va (xs.map fun x => (x.2.1, x.2.2)))
        (fun i _ => n - (intOf i).toNat)
      case atStart => exact ⟨0, Nat.zero_le _, rfl, HN0.out⟩
      case round =>
        obtain ⟨k, hkn, rfl, hM⟩ := hrel
        have HM := Lib.hid hM; clear hM HN0
        have hsy := HM.out.size
        by_cases hlt2 : k < n
        · have hc1' : wr.cell? ⟨w.heap.size + 1 + 1, 1, none⟩ = some (.slice (some ⟨w.heap.size + 1, 0, none⟩) (n + 1) (n + 1)) := HM.out.c1
          have hcK : wr.cell? ⟨w.heap.size + 1, k, none⟩ = some (.int .i64 (frOf (fun x => x.1) xs k k)) := HM.out.b1.cell (i := k) (by omega)
          have hcK1 : wr.cell? ⟨w.heap.size + 1, k + 1, none⟩ = some (.int .i64 (frOf (fun x => x.1) xs k (k + 1))) := HM.out.b1.cell (i := k + 1) (by omega)
          have hfK1 : wr.frozen? ⟨w.heap.size + 1, k + 1, none⟩ = false := HM.out.b1.frozen (k + 1)
          have hstep := frOf_step (fun x => x.1) xs k
          have hp1 := frOf_bd (fun x => x.1) xs k k
          have hp2 := frOf_bd (fun x => x.1) xs k (k + 1)
          have hcong := fun i => frOf_next (fun x => x.1) xs k i
          have HCG := Lib.hid hcong
          obtain ⟨u, hu⟩ : ∃ u, u = frOf (fun x => x.1) xs k k := ⟨_, rfl⟩
          obtain ⟨v, hv⟩ : ∃ v, v = frOf (fun x => x.1) xs k (k + 1) := ⟨_, rfl⟩
          rw [← hu] at hcK hp1; rw [← hv] at hcK1 hp2
          have HU := Lib.hid hu; have HV := Lib.hid hv
          have hu0 := hp1.1; have hv0 := hp2.1
          have hu1 : u ≤ 10000 := by omega
          have hv1 : v ≤ 10000 := by omega
          clear hu hv hcong hstep hp1 hp2
          have hK1 : (k : Int) < (n : Int) := by omega
          have hK2 : (0 : Int) ≤ (k : Int) + 1 := by omega
          have hK6 : (k : Int) < (n : Int) + 1 := by omega
          have hK3 : IntKind.i64.wrap ((k : Int) + 1) = (k : Int) + 1 := IntWalk.i64_in _ (by omega)
          have hK4 : ((k : Int) + 1).toNat = k + 1 := by omega
          have hK5 : IntKind.i64.wrap (v + u) = v + u := IntWalk.i64_in _ (by omega)
          go_upto_region 11 with fail
          go_region
          have hN5 := ((HM.out.setFrom (k + 1) (v + u)).drewN 1).congr (fr' := frOf (fun x => x.1) xs (k + 1)) (fun i => by rw [HU.out, HV.out]; exact HCG.out i)
          have HN5 := Lib.hid hN5
          clear hN5 hc1' hcK hcK1 hfK1
          go_wp2
          go_roundw
          case rel => exact ⟨k + 1, by omega, by go_num, HN5.out⟩
          case measure => simp [intOf]; omega
        · obtain rfl : k = n := by omega
          have hc0' : wr.cell? ⟨w.heap.size + 1 + 1, 0, none⟩ = some va := HM.out.c0
          have hc1' : wr.cell? ⟨w.heap.size + 1 + 1, 1, none⟩ = some (.slice (some ⟨w.heap.size + 1, 0, none⟩) (k + 1) (k + 1)) := HM.out.c1
          have hd0 := HM.out.d0; have hd1 := HM.out.d1
          have hz0 := HM.out.dz 0; have hz1 := HM.out.dz 1
          obtain ⟨ga, gn, gc, hva⟩ : ∃ ga gn gc, va = .slice ga gn gc := by
            rcases HM.out.all.2 with ⟨h, _⟩ | ⟨g, cap, cur, h, _⟩
            · exact ⟨_, _, _, h⟩
            · exact ⟨_, _, _, h⟩
          subst hva
          have hall := HM.out.all
          rw [List.length_map] at hall
          have HALL := Lib.hid hall; clear hall
          go_wp2
          refine bodyPost_ret (v := .agg #[.slice ga gn gc, .slice (some ⟨w.heap.size + 1, 0, none⟩) (k + 1) (k + 1)]) (by simp [results, Tryz.results47, go_sem, hd0, hd1]) rfl ⟨_, rfl, ?_, ?_, ?_⟩
          · exact ownsRow_setCell_below (ownsRow_setCell_below HALL.out (by show w.heap.size < w.heap.size + 3; omega) _) (by show w.heap.size < w.heap.size + 3; omega) _
          · exact ((HM.out.b1.setOther (by show w.heap.size + 1 ≠ w.heap.size; omega) _).setOther (by show w.heap.size + 1 ≠ w.heap.size; omega) _).congr (fun i hi => by unfold frOf; rw [if_pos (by omega)])
          · exact (HM.out.below.setCell (Nat.le_refl _) _).setCell (Nat.le_refl _) _

set_option maxRecDepth 100000 in
set_option maxHeartbeats 4000000 in
theorem newRowsIn_any (n : Nat) (hn : n ≤ 1000) {a : Option Addr} {b off c : Nat} {xs : List E} {w : World} (hS : SlAt encE 3 w a b off xs) (hl : xs.length ≤ 10000) (hk : ∀ x ∈ xs, 0 ≤ x.2.2 ∧ x.2.2 < n) :
    Calls Tryz.prog 47 #[.int .i64 n, .slice a xs.length c, .func (.func 55) #[] #[], .func (.func 56) #[] #[]] w fun e w' =>
      ∃ va, e = .returned (.agg #[va, .slice (some ⟨w.heap.size + 1, 0, none⟩) (n + 1) (n + 1)]) ∧ w'.ownsRow (w.heap.size + 3) 92 2 va xs.length ((xs.map fun x => (x.2.1, x.1)).flatMap encS) ∧
        w'.rowIs (w.heap.size + 1) 3 (n + 1) (fun j => .int .i64 (xs.filter (fun x => decide (x.2.2 < (j : Int)))).length) ∧ Below w.heap.size w w' := by
  have hmk := run_make_row' (P := Tryz.prog) 49 3 (.int .i64 0) 8 Tryz.underlying49 (by kernel_rfl) rfl .i64 .i64 (n + 1) (by omega) (by omega)
  rw [show ((n + 1 : Nat) : Int) = (n : Int) + 1 by omega] at hmk
  go_enter Tryz.func47, Tryz.ntmps47
  go_wp2
  clear hmk
  have hstart : NR w _ n (cntk (fun x => x.2.2) (xs.take 0)) (.slice none 0 0) ((xs.take 0).map fun x => (x.2.1, x.1)) := NR.start w n _ (by intro i; simp [cntk])
  have HST := Lib.hid hstart
  clear hstart
  go_loopw [19] (fun i wr => ∃ (k : Nat) (va : Value), k ≤ xs.length ∧ i = .int .i64 k ∧ NR w wr n (cntk (fun x => x.2.2) (xs.take k)) va ((xs.take k).map fun x => (x.2.1, x.1)))
    (fun i _ => xs.length - (intOf i).toNat)
  case atStart => exact ⟨0, _, Nat.zero_le _, rfl, HST.out⟩
  case round =>
    obtain ⟨k, va, hkl, rfl, hN⟩ := hrel
    have HN := Lib.hid hN; clear hN HST
    have hsz := HN.out.size
    by_cases hlt : k < xs.length
    · obtain ⟨x, hx⟩ := getElem?_of_lt hlt
      obtain rfl := hS.ad (by omega)
      have hS' := hS.below HN.out.below (Nat.le_refl _)
      have e0 := hS'.e0 hx; have e1 := hS'.e1 hx; have e2 := hS'.e2 hx
      have hbl := hS'.lt (by omega)
      have hkx := hk x (List.mem_of_getElem? hx)
      obtain ⟨x1, x2, x3⟩ := x
      obtain ⟨K, hK⟩ : ∃ K : Nat, x3 = (K : Int) := ⟨(x3).toNat, by simp only at hkx; omega⟩
      subst hK
      simp only at e0 e1 e2 hkx
      have hKn : K < n := by omega
      have HX := Lib.hid hx
      have HS := Lib.hid hS; have HK := Lib.hid hk
      clear hS hS' hx hk hkx
      have hc0 := HN.out.c0; have hc1 := HN.out.c1
      have hcK : wr.cell? ⟨w.heap.size + 1, K + 1, none⟩ = some (.int .i64 (cntk (fun x => x.2.2) (xs.take k) (K + 1))) := HN.out.b1.cell (i := K + 1) (by omega)
      have hfK : wr.frozen? ⟨w.heap.size + 1, K + 1, none⟩ = false := HN.out.b1.frozen (K + 1)
      have hcb := cntk_le (fun x => x.2.2) (xs.take k) (K + 1)
      have hlk : (xs.take k).length ≤ xs.length := by simp; omega
      obtain ⟨cv, hcv⟩ : ∃ cv, cv = cntk (fun x => x.2.2) (xs.take k) (K + 1) := ⟨_, rfl⟩
      rw [← hcv] at hcK hcb
      have HCV := Lib.hid hcv; clear hcv
      have hcv0 : 0 ≤ cv := hcb.1
      have hcv1 : cv ≤ 10000 := by omega
      clear hcb
      have hK1 : (K : Int) < (n : Int) := by omega
      have hK2 : (0 : Int) ≤ (K : Int) + 1 := by omega
      have hK3 : IntKind.i64.wrap ((K : Int) + 1) = (K : Int) + 1 := IntWalk.i64_in _ (by omega)
      have hK4 : ((K : Int) + 1).toNat = K + 1 := by omega
      have hK5 : IntKind.i64.wrap (cv + 1) = cv + 1 := IntWalk.i64_in _ (by omega)
      have hb0 : w.heap.size < wr.heap.size := by omega
      have hb1 : w.heap.size + 1 < wr.heap.size := by omega
      have hb2 : w.heap.size + 1 + 1 < wr.heap.size := by omega
      have hc1' : wr.cell? ⟨w.heap.size + 1 + 1, 1, none⟩ = some (.slice (some ⟨w.heap.size + 1, 0, none⟩) (n + 1) (n + 1)) := hc1
      have hc0' : wr.cell? ⟨w.heap.size + 1 + 1, 0, none⟩ = some va := hc0
      clear hc0 hc1
      go_upto_region 5 with fail
      go_cut [11] from 23 to 41 (fun s11 wx => s11 = .pointer (some ⟨wr.heap.size, 0, none⟩) ∧ NR w wx n (cntk (fun x => x.2.2) (xs.take (k + 1))) va ((xs.take k).map fun x => (x.2.1, x.1)) ∧ wr.heap.size < wx.heap.size ∧
          wx.cell? ⟨wr.heap.size, 0, none⟩ = some (.int .i64 x1) ∧ wx.cell? ⟨wr.heap.size, 1, none⟩ = some (.int .i64 x2) ∧ wx.cell? ⟨wr.heap.size, 2, none⟩ = some (.int .i64 (K : Int)))
      case first =>
        go_region_with (go_at_call 55; refine (key4_any (x1, x2, (K : Int)) _).mono ?_; rintro e w' ⟨rfl, rfl⟩)
        all_goals
          go_wp2_with fail
          go_meet
        all_goals
          refine ⟨rfl, ((((HN.out.setFrom (K + 1) (cv + 1)).alloc _).alloc _).drewN 1).congr (fun i => ?_), by simp [go_sem, World.setCell], by simp [go_sem, World.setCell], by simp [go_sem, World.setCell], by simp [go_sem, World.setCell]⟩
          rw [take_snoc HX.out, cntk_snoc, HCV.out]
          by_cases hi : i = K + 1
          · subst hi; rw [if_pos rfl, if_pos (by simp)]
          · rw [if_neg hi, if_neg (by simp only; omega)]; omega
      case rest =>
        obtain ⟨rfl, hN2, hszx, f0, f1, f2⟩ := hcut
        have hsz2 := hN2.size
        have g0 : wc.cell? ⟨w.heap.size + 1 + 1, 0, none⟩ = some va := hN2.c0
        have gz : wc.frozen? ⟨w.heap.size + 1 + 1, 0, none⟩ = false := hN2.fz 0
        have HN2 := Lib.hid hN2
        have hb0 : w.heap.size < wc.heap.size := by omega
        have hb1 : w.heap.size + 1 < wc.heap.size := by omega
        have hb2 : w.heap.size + 1 + 1 < wc.heap.size := by omega
        clear hN2 hcK hfK hc1' hc0'
        go_wp2_with fail
        go_region_law (first
          | (refine step_app1 rfl _ _ _ rfl rowS rfl (World.ownsRow.drew (((HN2.out.all.alloc _).alloc _).alloc _)) ⟨wc.heap.size + 2, 0, none⟩ 1 1 [.int .i64 x2, .int .i64 x1] rfl rfl (cells2 (by simp [go_sem]) (by simp [go_sem])) (by simp [Value.oneCell']) (by decide) (by simp; omega) (by unfold maxLen; simp; omega) (by simp; omega) ?_; intro g cap w1 hown1 hg1; have kp := NR.keep ((((HN2.out.alloc _).alloc _).alloc _).drewN 1) hg1; have kp0 := kp.1; have kp1 := kp.2; clear kp)
          | (go_simp; go_at_call 56; refine (step5_any (x1, x2, (K : Int)) _).mono ?_; rintro e w' ⟨rfl, rfl⟩))
        all_goals
          have hss : (xs.take (k + 1)).map (fun x => (x.2.1, x.1)) = (xs.take k).map (fun x => (x.2.1, x.1)) ++ [(x2, x1)] := by rw [take_snoc HX.out, List.map_append]; rfl
          have hlk2 : ((xs.take k).map fun x => (x.2.1, x.1)).length = k := by simp; omega
          rw [hlk2] at hown1
          have hN4 := NR.setAll (va' := .slice (some ⟨g, 0, none⟩) (k + 1) cap) (ss' := (xs.take k).map (fun x => (x.2.1, x.1)) ++ [(x2, x1)]) ((((HN2.out.alloc _).alloc _).alloc _).drewN 1) (by rw [List.length_append, hlk2, List.flatMap_append]; exact hown1) hg1
          rw [← hss] at hN4
          have HN4 := Lib.hid hN4
          clear hN4 hss hlk2 hown1 hg1 kp0 kp1 g0 gz f0 f1 f2
          go_wp2
          go_roundw
          case rel => exact ⟨k + 1, _, by omega, by go_num, HN4.out⟩
          case measure => simp [intOf]; omega
    · obtain rfl : k = xs.length := by omega
      have hN0 : NR w wr n (frOf (fun x => x.2.2) xs 0) va (xs.map fun x => (x.2.1, x.1)) := by
        have h0 := HN.out
        simp only [List.take_length] at h0
        exact h0.congr (fun i => (frOf_zero _ (fun x hx => (hk x hx).1) i).symm)
      have HN0 := Lib.hid hN0
      clear hN0 HN hS
      go_wp2
      go_loopw [43] (fun i wr => ∃ k : Nat, k ≤ n ∧ i = .int .i64 k ∧ NR w wr n (frOf (fun x => x.2.2) xs k) va (xs.map fun x => (x.2.1, x.1)))
        (fun i _ => n - (intOf i).toNat)
      case atStart => exact ⟨0, Nat.zero_le _, rfl, HN0.out⟩
      case round =>
        obtain ⟨k, hkn, rfl, hM⟩ := hrel
        have HM := Lib.hid hM; clear hM HN0
        have hsy := HM.out.size
        by_cases hlt2 : k < n
        · have hc1' : wr.cell? ⟨w.heap.size + 1 + 1, 1, none⟩ = some (.slice (some ⟨w.heap.size + 1, 0, none⟩) (n + 1) (n + 1)) := HM.out.c1
          have hcK : wr.cell? ⟨w.heap.size + 1, k, none⟩ = some (.int .i64 (frOf (fun x => x.2.2) xs k k)) := HM.out.b1.cell (i := k) (by omega)
          have hcK1 : wr.cell? ⟨w.heap.size + 1, k + 1, none⟩ = some (.int .i64 (frOf (fun x => x.2.2) xs k (k + 1))) := HM.out.b1.cell (i := k + 1) (by omega)
          have hfK1 : wr.frozen? ⟨w.heap.size + 1, k + 1, none⟩ = false := HM.out.b1.frozen (k + 1)
          have hstep := frOf_step (fun x => x.2.2) xs k
          have hp1 := frOf_bd (fun x => x.2.2) xs k k
          have hp2 := frOf_bd (fun x => x.2.2) xs k (k + 1)
          have hcong := fun i => frOf_next (fun x => x.2.2) xs k i
          have HCG := Lib.hid hcong
          obtain ⟨u, hu⟩ : ∃ u, u = frOf (fun x => x.2.2) xs k k := ⟨_, rfl⟩
          obtain ⟨v, hv⟩ : ∃ v, v = frOf (fun x => x.2.2) xs k (k + 1) := ⟨_, rfl⟩
          rw [← hu] at hcK hp1; rw [← hv] at hcK1 hp2
          have HU := Lib.hid hu; have HV := Lib.hid hv
          have hu0 := hp1.1; have hv0 := hp2.1
          have hu1 : u ≤ 10000 := by omega
          have hv1 : v ≤ 10000 := by omega
          clear hu hv hcong hstep hp1 hp2
          have hK1 : (k : Int) < (n : Int) := by omega
          have hK2 : (0 : Int) ≤ (k : Int) + 1 := by omega
          have hK6 : (k : Int) < (n : Int) + 1 := by omega
          have hK3 : IntKind.i64.wrap ((k : Int) + 1) = (k : Int) + 1 := IntWalk.i64_in _ (by omega)
          have hK4 : ((k : Int) + 1).toNat = k + 1 := by omega
          have hK5 : IntKind.i64.wrap (v + u) = v + u := IntWalk.i64_in _ (by omega)
          go_upto_region 11 with fail
          go_region
          have hN5 := ((HM.out.setFrom (k + 1) (v + u)).drewN 1).congr (fr' := frOf (fun x => x.2.2) xs (k + 1)) (fun i => by rw [HU.out, HV.out]; exact HCG.out i)
          have HN5 := Lib.hid hN5
          clear hN5 hc1' hcK hcK1 hfK1
          go_wp2
          go_roundw
          case rel => exact ⟨k + 1, by omega, by go_num, HN5.out⟩
          case measure => simp [intOf]; omega
        · obtain rfl : k = n := by omega
          have hc0' : wr.cell? ⟨w.heap.size + 1 + 1, 0, none⟩ = some va := HM.out.c0
          have hc1' : wr.cell? ⟨w.heap.size + 1 + 1, 1, none⟩ = some (.slice (some ⟨w.heap.size + 1, 0, none⟩) (k + 1) (k + 1)) := HM.out.c1
          have hd0 := HM.out.d0; have hd1 := HM.out.d1
          have hz0 := HM.out.dz 0; have hz1 := HM.out.dz 1
          obtain ⟨ga, gn, gc, hva⟩ : ∃ ga gn gc, va = .slice ga gn gc := by
            rcases HM.out.all.2 with ⟨h, _⟩ | ⟨g, cap, cur, h, _⟩
            · exact ⟨_, _, _, h⟩
            · exact ⟨_, _, _, h⟩
          subst hva
          have hall := HM.out.all
          rw [List.length_map] at hall
          have HALL := Lib.hid hall; clear hall
          go_wp2
          refine bodyPost_ret (v := .agg #[.slice ga gn gc, .slice (some ⟨w.heap.size + 1, 0, none⟩) (k + 1) (k + 1)]) (by simp [results, Tryz.results47, go_sem, hd0, hd1]) rfl ⟨_, rfl, ?_, ?_, ?_⟩
          · exact ownsRow_setCell_below (ownsRow_setCell_below HALL.out (by show w.heap.size < w.heap.size + 3; omega) _) (by show w.heap.size < w.heap.size + 3; omega) _
          · exact ((HM.out.b1.setOther (by show w.heap.size + 1 ≠ w.heap.size; omega) _).setOther (by show w.heap.size + 1 ≠ w.heap.size; omega) _).congr (fun i hi => by unfold frOf; rw [if_pos (by omega)])
          · exact (HM.out.below.setCell (Nat.le_refl _) _).setCell (Nat.le_refl _) _

end Go.Proofs.YtkmljelgogcobaaGreatDoor

namespace Go.Proofs.YtkmljelgogcobaaGreatDoor
open Go.RowKit Pl

theorem own_slice {w : World} {base : Nat} {e : TypeId} {k n : Nat} {v : Value} {xs : List Value} (h : w.ownsRow base e k v n xs) : ∃ a m c, v = .slice a m c := by
  rcases h.2 with ⟨rfl, _⟩ | ⟨g, cap, cur, rfl, _⟩
  · exact ⟨_, _, _, rfl⟩
  · exact ⟨_, _, _, rfl⟩

def sysName : ByteArray := ⟨#[115, 121, 115, 116, 101, 109]⟩

set_option maxRecDepth 100000 in
theorem normal_ok {p : Addr} {s : Lts} (h : s.Right) {a : Option Addr} {b off c : Nat} {w : World} (hG : GErr 0 p w) (hS : SlAt encE 3 w a b off s.es) :
    Calls Tryz.prog 18 #[.agg #[.int .i64 s.st, .int .i64 s.lb, .int .i64 s.s0, .slice a s.es.length c]] w fun e w' =>
      ∃ v, e = .returned (.tuple #[.agg #[.int .i64 s.st, .int .i64 s.lb, .int .i64 s.s0, v], .nilIface]) ∧ w'.ownsRow w.heap.size 79 3 v (nf ltE s.es).length ((nf ltE s.es).flatMap encE) ∧ Below w.heap.size w w' := by
  have hl := h.st0
  have hck := fun w hG hS => check_ok (c := c) (p := p) h a b off w hG hS
  have HCK := Lib.hid hck; have HG := Lib.hid hG; have HS := Lib.hid hS
  have hso := fun w hS => sorted_any (w := w) (c := c) (a := a) (b := b) (off := off) (xs := s.es) hS (by omega)
  have HSO := Lib.hid hso
  clear hck hG hS hso
  go_enter Tryz.func18, Tryz.ntmps18
  go_wp2_with fail
  have hB0 := ((Below.refl w.heap.size w).alloc (Nat.le_refl _) (Obj.cells #[.int .i64 s.st, .int .i64 s.lb, .int .i64 s.s0, .slice a s.es.length c] 24)).alloc (by simp) (Obj.cells #[.int .i64 0, .int .i64 0, .int .i64 0, .slice none 0 0] 24)
  refine (HCK.out _ (HG.out.below hB0) (HS.out.below hB0 (Nat.le_refl _))).mono ?_
  rintro e w1 ⟨rfl, hB1⟩
  have hB1' := hB0.trans (hB1.mono (by simp; omega))
  have q0 : w1.heap[w.heap.size]? = some (Obj.cells #[.int .i64 s.st, .int .i64 s.lb, .int .i64 s.s0, .slice a s.es.length c] 24) := by
    rw [hB1.block _ (by simp; omega), Below.heap_alloc _ _ _ (by simp), heap_alloc_new]
  have q1 : w1.heap[w.heap.size + 1]? = some (Obj.cells #[.int .i64 0, .int .i64 0, .int .i64 0, .slice none 0 0] 24) := by
    rw [hB1.block _ (by simp)]
    simpa using heap_alloc_new (w.alloc (Obj.cells #[.int .i64 s.st, .int .i64 s.lb, .int .i64 s.s0, .slice a s.es.length c] 24)) (Obj.cells #[.int .i64 0, .int .i64 0, .int .i64 0, .slice none 0 0] 24)
  have hsz1 : w.heap.size + 2 ≤ w1.heap.size := by have := hB1.size; simpa using this
  have t3 : w1.cell? ⟨w.heap.size, 3, none⟩ = some (.slice a s.es.length c) := by simp [World.cell?, q0]
  have Q0 := Lib.hid q0; have Q1 := Lib.hid q1; have HB1 := Lib.hid hB1'
  clear q0 q1 hB1 hB0 hB1'
  go_wp2_with fail
  refine (HSO.out _ (HS.out.below HB1.out (Nat.le_refl _))).mono ?_
  rintro e w2 ⟨v, rfl, hown, hB2⟩
  have q0 : w2.heap[w.heap.size]? = some (Obj.cells #[.int .i64 s.st, .int .i64 s.lb, .int .i64 s.s0, .slice a s.es.length c] 24) := by
    rw [hB2.block _ (by omega)]; exact Q0.out
  have q1 : w2.heap[w.heap.size + 1]? = some (Obj.cells #[.int .i64 0, .int .i64 0, .int .i64 0, .slice none 0 0] 24) := by
    rw [hB2.block _ (by omega)]; exact Q1.out
  obtain ⟨ga, gn, gc, hv⟩ := own_slice hown
  subst hv
  have hB2' := HB1.out.trans (hB2.mono (by omega))
  have e0 : w2.cell? ⟨w.heap.size, 0, none⟩ = some (.int .i64 s.st) := by simp [World.cell?, q0]
  have e1 : w2.cell? ⟨w.heap.size, 1, none⟩ = some (.int .i64 s.lb) := by simp [World.cell?, q0]
  have e2 : w2.cell? ⟨w.heap.size, 2, none⟩ = some (.int .i64 s.s0) := by simp [World.cell?, q0]
  have e3 : w2.cell? ⟨w.heap.size, 3, none⟩ = some (.slice a s.es.length c) := by simp [World.cell?, q0]
  have e4 : w2.frozen? ⟨w.heap.size, 3, none⟩ = false := by simp [World.frozen?, q0]
  have z0 : w2.cell? ⟨w.heap.size + 1, 0, none⟩ = some (.int .i64 0) := by simp [World.cell?, q1]
  have z1 : w2.cell? ⟨w.heap.size + 1, 1, none⟩ = some (.int .i64 0) := by simp [World.cell?, q1]
  have z2 : w2.cell? ⟨w.heap.size + 1, 2, none⟩ = some (.int .i64 0) := by simp [World.cell?, q1]
  have z3 : w2.cell? ⟨w.heap.size + 1, 3, none⟩ = some (.slice none 0 0) := by simp [World.cell?, q1]
  have zf : ∀ j, w2.frozen? ⟨w.heap.size + 1, j, none⟩ = false := by intro j; simp [World.frozen?, q1]
  have zf0 := zf 0; have zf1 := zf 1; have zf2 := zf 2; have zf3 := zf 3
  have HO2 := Lib.hid hown; have HB2 := Lib.hid hB2'
  clear q0 q1 hown hB2 hB2' zf t3
  go_wp2
  have hbA : w.heap.size < w1.heap.size := by omega
  have hbB : w.heap.size + 1 < w1.heap.size := by omega
  refine bodyPost_ret (v := .tuple #[.agg #[.int .i64 s.st, .int .i64 s.lb, .int .i64 s.s0, .slice ga gn gc], .nilIface]) (by simp [results, Tryz.results18, go_sem, z0, z1, z2, z3]) rfl ⟨_, rfl, ?_, ?_⟩
  · exact own_mono (ownsRow_setCell_below (ownsRow_setCell_below (ownsRow_setCell_below (ownsRow_setCell_below (ownsRow_setCell_below HO2.out hbA _) hbB _) hbB _) hbB _) hbB _) (by omega)
  · exact ((((HB2.out.setCell (Nat.le_refl _) _).setCell (by show w.heap.size ≤ w.heap.size + 1; omega) _).setCell (by show w.heap.size ≤ w.heap.size + 1; omega) _).setCell (by show w.heap.size ≤ w.heap.size + 1; omega) _).setCell (by show w.heap.size ≤ w.heap.size + 1; omega) _

theorem FaultAt.below {w w' : World} {v : Value} {l : ByteArray} {i : Value} (h : FaultAt w v l i) (hB : Below w.heap.size w w') : FaultAt w' v l i := by
  obtain ⟨b, h1, h2⟩ := h.ex
  exact ⟨b, h1, by rw [hB.block _ (Array.getElem?_eq_some_iff.1 h2).1]; exact h2⟩

set_option maxRecDepth 100000 in
theorem normal_no {p : Addr} {s : Lts} (h : ¬ s.Right) {a : Option Addr} {b off c : Nat} {w : World} (hG : GErr 0 p w) (hS : SlAt encE 3 w a b off s.es) :
    Calls Tryz.prog 18 #[.agg #[.int .i64 s.st, .int .i64 s.lb, .int .i64 s.s0, .slice a s.es.length c]] w fun e w' =>
      ∃ v, e = .returned (.tuple #[.agg #[.int .i64 0, .int .i64 0, .int .i64 0, .slice none 0 0], v]) ∧ FaultAt w' v sysName (.iface 248 (.pointer (some p))) ∧ Below w.heap.size w w' := by
  have hck := fun w hG hS => check_no (c := c) (p := p) h a b off w hG hS
  have HCK := Lib.hid hck; have HG := Lib.hid hG; have HS := Lib.hid hS
  clear hck hG hS
  go_enter Tryz.func18, Tryz.ntmps18
  go_wp2_with fail
  have hB0 := ((Below.refl w.heap.size w).alloc (Nat.le_refl _) (Obj.cells #[.int .i64 s.st, .int .i64 s.lb, .int .i64 s.s0, .slice a s.es.length c] 24)).alloc (by simp) (Obj.cells #[.int .i64 0, .int .i64 0, .int .i64 0, .slice none 0 0] 24)
  refine (HCK.out _ (HG.out.below hB0) (HS.out.below hB0 (Nat.le_refl _))).mono ?_
  rintro e w1 ⟨v, rfl, hF, hB1⟩
  have hB1' := hB0.trans (hB1.mono (by simp; omega))
  obtain ⟨fb, rfl, hfb⟩ := hF.ex
  have q1 : w1.heap[w.heap.size + 1]? = some (Obj.cells #[.int .i64 0, .int .i64 0, .int .i64 0, .slice none 0 0] 24) := by
    rw [hB1.block _ (by simp)]
    simpa using heap_alloc_new (w.alloc (Obj.cells #[.int .i64 s.st, .int .i64 s.lb, .int .i64 s.s0, .slice a s.es.length c] 24)) (Obj.cells #[.int .i64 0, .int .i64 0, .int .i64 0, .slice none 0 0] 24)
  have z0 : w1.cell? ⟨w.heap.size + 1, 0, none⟩ = some (.int .i64 0) := by simp [World.cell?, q1]
  have z1 : w1.cell? ⟨w.heap.size + 1, 1, none⟩ = some (.int .i64 0) := by simp [World.cell?, q1]
  have z2 : w1.cell? ⟨w.heap.size + 1, 2, none⟩ = some (.int .i64 0) := by simp [World.cell?, q1]
  have z3 : w1.cell? ⟨w.heap.size + 1, 3, none⟩ = some (.slice none 0 0) := by simp [World.cell?, q1]
  have zf : ∀ j, w1.frozen? ⟨w.heap.size + 1, j, none⟩ = false := by intro j; simp [World.frozen?, q1]
  have zf0 := zf 0; have zf1 := zf 1; have zf2 := zf 2; have zf3 := zf 3
  have hne : fb ≠ w.heap.size + 1 := by
    rintro rfl
    rw [q1] at hfb; simp at hfb
  have HF := Lib.hid hfb; have HB1 := Lib.hid hB1'; have HNE := Lib.hid hne
  clear hF q1 hfb hB0 hB1 hB1' zf hne
  go_wp2
  refine bodyPost_ret (v := .tuple #[.agg #[.int .i64 0, .int .i64 0, .int .i64 0, .slice none 0 0], .iface 131 (.pointer (some ⟨fb, 0, none⟩))]) (by simp [results, Tryz.results18, go_sem, z0, z1, z2, z3]) rfl ⟨_, rfl, ?_, ?_⟩
  · refine ⟨fb, rfl, ?_⟩
    rw [Below.heap_setCell _ _ _ _ HNE.out, Below.heap_setCell _ _ _ _ HNE.out, Below.heap_setCell _ _ _ _ HNE.out, Below.heap_setCell _ _ _ _ HNE.out]
    exact HF.out
  · exact (((HB1.out.setCell (by show w.heap.size ≤ w.heap.size + 1; omega) _).setCell (by show w.heap.size ≤ w.heap.size + 1; omega) _).setCell (by show w.heap.size ≤ w.heap.size + 1; omega) _).setCell (by show w.heap.size ≤ w.heap.size + 1; omega) _

end Go.Proofs.YtkmljelgogcobaaGreatDoor

namespace Go.Proofs.YtkmljelgogcobaaGreatDoor
open Go.RowKit Pl Go.Sort Go.Shelf Go.Lib

def cmpB (a b : E) : Int := orL [cmpI a.2.2 b.2.2, cmpI a.2.1 b.2.1, cmpI a.1 b.1]

set_option maxRecDepth 100000 in
theorem orderB_any (x y : E) (w : World) : Calls Tryz.prog 52 #[.agg #[.int .i64 x.1, .int .i64 x.2.1, .int .i64 x.2.2], .agg #[.int .i64 y.1, .int .i64 y.2.1, .int .i64 y.2.2]] w fun e w' => e = .returned (.int .i64 (cmpB x y)) ∧ ∃ q os', w' = Go.Sort.grow (w.drewN q) os' := by
  unfold cmpB
  go_enter Tryz.func52, Tryz.ntmps52
  go_wp2
  go_region_held3 (fun w' => w'.cell? ⟨w.heap.size, 0, none⟩ = some (.int .i64 x.1) ∧ w'.cell? ⟨w.heap.size, 1, none⟩ = some (.int .i64 x.2.1) ∧ w'.cell? ⟨w.heap.size, 2, none⟩ = some (.int .i64 x.2.2) ∧ w'.cell? ⟨w.heap.size + 1, 0, none⟩ = some (.int .i64 y.1) ∧ w'.cell? ⟨w.heap.size + 1, 1, none⟩ = some (.int .i64 y.2.1) ∧ w'.cell? ⟨w.heap.size + 1, 2, none⟩ = some (.int .i64 y.2.2)) (simp [go_sem, World.cell?_alloc_past])
    (first
      | (go_at_call 54; refine (compare_any _ _ _).mono ?_; rintro e w' ⟨rfl, rfl⟩)
      | (go_at_call 53; refine (or_any (slAt_lit3 (x := cmpI x.2.2 y.2.2) (y := cmpI x.2.1 y.2.1) (z := cmpI x.1 y.1) (by simp [go_sem]) (by simp [go_sem]) (by simp [go_sem])) (by simp)).mono ?_; rintro e w' ⟨rfl, rfl⟩))
  go_wp2
  go_ret
  exact ⟨rfl, 1, _, by rw [Go.Sort.alloc_eq_grow, Go.Sort.alloc_eq_grow, Go.Sort.alloc_eq_grow, Go.Sort.grow_grow, Go.Sort.grow_grow]; rfl⟩

theorem ltOf_cmpB (x y : E) : ltOf cmpB x y = Pl.ltB x y := by
  rw [Bool.eq_iff_iff, ltB_iff]
  unfold ltOf cmpB orL orL orL orL cmpI
  simp only [decide_eq_true_eq]
  repeat' split
  all_goals omega

theorem swoB : SWO (ltOf cmpB) where
  irrefl x := by rw [ltOf_cmpB]; exact stoB.irrefl x
  trans x y z := by rw [ltOf_cmpB, ltOf_cmpB, ltOf_cmpB]; exact stoB.trans x y z
  ntrans x y z := by
    rw [ltOf_cmpB, ltOf_cmpB, ltOf_cmpB]
    simp only [Bool.eq_false_iff, ne_eq, ltB_iff]
    omega

/-- A list without repeats that is sorted with repeats is sorted. -/
theorem nf_of_perm {l ys : List E} (hl : Srt ltE l) (hp : ys.Perm l) (hs : ys.Pairwise (fun a b => ltOf cmpB b a = false)) : ys = nf Pl.ltB l := by
  refine eq_nf stoB ?_ (fun x => hp.mem_iff)
  have hnd : l.Nodup := hl.imp (fun {a b} h e => by subst e; rw [stoE.irrefl] at h; cases h)
  have hnd2 : ys.Nodup := hp.nodup_iff.2 hnd
  refine List.Pairwise.imp₂ ?_ hs hnd2
  intro a b h1 h2
  rw [ltOf_cmpB] at h1
  rcases stoB.total a b with h | h | h
  · exact h
  · exact absurd h h2
  · rw [h1] at h; cases h

end Go.Proofs.YtkmljelgogcobaaGreatDoor

namespace Go.Proofs.YtkmljelgogcobaaGreatDoor
open Go.RowKit Pl Go.Sort

set_option maxRecDepth 100000 in
theorem new_no {p : Addr} {s : Lts} (h : ¬ s.Right) {a : Option Addr} {b off c : Nat} {w : World} (hG : GErr 0 p w) (hS : SlAt encE 3 w a b off s.es) :
    Calls Tryz.prog 7 #[.agg #[.int .i64 s.st, .int .i64 s.lb, .int .i64 s.s0, .slice a s.es.length c]] w fun e w' =>
      ∃ v, e = .returned (.tuple #[.pointer none, v]) ∧ FaultAt w' v sysName (.iface 248 (.pointer (some p))) ∧ Below w.heap.size w w' := by
  have hck := fun w hG hS => normal_no (c := c) (p := p) h (a := a) (b := b) (off := off) (w := w) hG hS
  have HCK := Lib.hid hck; have HG := Lib.hid hG; have HS := Lib.hid hS
  clear hck hG hS
  go_enter Tryz.func7, Tryz.ntmps7
  go_wp2_with fail
  have hB0 := ((Below.refl w.heap.size w).alloc (Nat.le_refl _) (Obj.cells #[.int .i64 s.st, .int .i64 s.lb, .int .i64 s.s0, .slice a s.es.length c] 24))
  refine (HCK.out _ (HG.out.below hB0) (HS.out.below hB0 (Nat.le_refl _))).mono ?_
  rintro e w1 ⟨v, rfl, hF, hB1⟩
  have hB1' := hB0.trans (hB1.mono (by simp))
  obtain ⟨fb, rfl, hfb⟩ := hF.ex
  have q1 : w1.heap[w.heap.size]? = some (Obj.cells #[.int .i64 s.st, .int .i64 s.lb, .int .i64 s.s0, .slice a s.es.length c] 24) := by
    rw [hB1.block _ (by simp), heap_alloc_new]
  have z0 : w1.cell? ⟨w.heap.size, 0, none⟩ = some (.int .i64 s.st) := by simp [World.cell?, q1]
  have z1 : w1.cell? ⟨w.heap.size, 1, none⟩ = some (.int .i64 s.lb) := by simp [World.cell?, q1]
  have z2 : w1.cell? ⟨w.heap.size, 2, none⟩ = some (.int .i64 s.s0) := by simp [World.cell?, q1]
  have z3 : w1.cell? ⟨w.heap.size, 3, none⟩ = some (.slice a s.es.length c) := by simp [World.cell?, q1]
  have zf : ∀ j, w1.frozen? ⟨w.heap.size, j, none⟩ = false := by intro j; simp [World.frozen?, q1]
  have zf0 := zf 0; have zf1 := zf 1; have zf2 := zf 2; have zf3 := zf 3
  have hne : fb ≠ w.heap.size := by
    rintro rfl
    rw [q1] at hfb; simp at hfb
  have HF := Lib.hid hfb; have HB1 := Lib.hid hB1'; have HNE := Lib.hid hne
  clear hF q1 hfb hB0 hB1 hB1' zf hne
  go_wp2
  go_ret2
  refine ⟨_, rfl, ⟨fb, rfl, ?_⟩, ?_⟩
  · rw [Below.heap_setCell _ _ _ _ HNE.out, Below.heap_setCell _ _ _ _ HNE.out, Below.heap_setCell _ _ _ _ HNE.out, Below.heap_setCell _ _ _ _ HNE.out]
    exact HF.out
  · exact (((HB1.out.setCell (Nat.le_refl _) _).setCell (Nat.le_refl _) _).setCell (Nat.le_refl _) _).setCell (Nat.le_refl _) _

theorem rowsAt_of {w : World} {va : Value} {base vb n : Nat} {key : E → Int} {st : E → S} {l : List E} (hn : n ≤ 1000) (hl : l.length ≤ 10000)
    (hown : w.ownsRow base 92 2 va l.length ((l.map st).flatMap encS))
    (hrow : w.rowIs vb 3 (n + 1) (fun j => .int .i64 (l.filter (fun x => decide (key x < (j : Int)))).length)) :
    RowsAt w va (.slice (some ⟨vb, 0, none⟩) (n + 1) (n + 1)) n (l.map st) (frK key l) where
  alls := by
    obtain ⟨a, c, b, h1, h2, h3, h4, _⟩ := slAt_own (enc := encS) (xs := l.map st) lenS (by rw [List.length_map]; exact hown)
    exact ⟨a, c, b, 0, h1, h2, h3, h4⟩
  from_ := ⟨vb, rfl, hrow.lt, fun i hi => hrow.cell (by omega)⟩
  mono i _ := frK_mono key i l
  top i _ := by rw [List.length_map]; exact frK_le _ _ _
  small := by rw [List.length_map]; exact hl
  n_le := hn

end Go.Proofs.YtkmljelgogcobaaGreatDoor

namespace Go.Proofs.YtkmljelgogcobaaGreatDoor
open Go.RowKit Pl Go.Sort

/-- All blocks from base on are the same. -/
def SameUp (base : Nat) (w W : World) : Prop := ∀ x, base ≤ x → x < w.heap.size → W.heap[x]? = w.heap[x]?
theorem SameUp.refl (base : Nat) (w : World) : SameUp base w w := fun _ _ _ => rfl
theorem own_upG {w w' : World} {lo base : Nat} {e : TypeId} {k n : Nat} {v : Value} {xs : List Value} (h : w.ownsRow base e k v n xs) (hB : SameUp lo w w') (hl : lo ≤ base) : w'.ownsRow base e k v n xs := by
  refine ⟨h.1, ?_⟩
  rcases h.2 with h2 | ⟨g, cap, cur, hv, hb, hg, r⟩
  · exact .inl h2
  · exact .inr ⟨g, cap, cur, hv, hb, by rw [hB _ (Nat.le_trans hl hb) (Array.getElem?_eq_some_iff.1 hg).1]; exact hg, r⟩
theorem slAt_upG {α : Type} {enc : α → List Value} {k : Nat} {w W : World} {a : Option Addr} {lo b off : Nat} {xs : List α} (h : SlAt enc k w a b off xs) (hB : SameUp lo w W) (hl : 0 < xs.length → lo ≤ b) : SlAt enc k W a b off xs :=
  ⟨h.ad, fun hx => by
    have h1 := hB b (hl hx) (h.lt hx)
    rw [Array.getElem?_eq_getElem (h.lt hx)] at h1
    exact (Array.getElem?_eq_some_iff.1 h1).1, fun i x hx j u hu => by
    have hx0 : 0 < xs.length := by have := (List.getElem?_eq_some_iff.1 hx).1; omega
    rw [World.cell?_of_block (w := w) (a := ⟨b, off + i * k + j, none⟩) (hB b (hl hx0) (h.lt hx0))]
    exact h.cell i x hx j u hu⟩

set_option maxRecDepth 100000 in
set_option maxHeartbeats 2000000 in
theorem new_hi {p : Addr} {n : Nat} {lb s0 : Int} {es : List E} (h : Lts.Right ⟨n, lb, s0, es⟩) {a : Option Addr} {b off c : Nat} {w : World} (hG : GErr 0 p w) (hS : SlAt encE 3 w a b off es) :
    Calls Tryz.prog 7 #[.agg #[.int .i64 n, .int .i64 lb, .int .i64 s0, .slice a es.length c]] w fun e w' =>
      ∃ gb, e = .returned (.tuple #[.pointer (some ⟨gb, 0, none⟩), .nilIface]) ∧ (∀ W, SameUp w.heap.size w' W → GraphAt W gb ⟨n, lb, s0, nf ltE es⟩) ∧ Below w.heap.size w w' ∧ w.heap.size ≤ gb := by
  have hst := h.st0
  have hn := h.norm
  simp only at hst
  have hck := fun w hG hS => normal_ok (c := c) (p := p) h (a := a) (b := b) (off := off) (w := w) hG hS
  simp only at hck
  have HCK := Lib.hid hck; have HG := Lib.hid hG; have HS := Lib.hid hS; have HR := Lib.hid hn; have HST := Lib.hid hst
  clear hck hG hS hn hst
  have eg : ∀ args w, (callFunc 52 args).run Tryz.prog w = .ok (.enter 52 args) w := enters_of Tryz.func52 (by kernel_rfl) rfl
  have HEG := Lib.hid eg; clear eg
  go_enter Tryz.func7, Tryz.ntmps7
  go_wp2_with fail
  have hB0 := ((Below.refl w.heap.size w).alloc (Nat.le_refl _) (Obj.cells #[.int .i64 n, .int .i64 lb, .int .i64 s0, .slice a es.length c] 24))
  refine (HCK.out _ (HG.out.below hB0) (HS.out.below hB0 (Nat.le_refl _))).mono ?_
  rintro e w1 ⟨v, rfl, hown, hB1⟩
  have hsz1 : w.heap.size + 1 ≤ w1.heap.size := by have := hB1.size; simpa using this
  have hB1' := hB0.trans (hB1.mono (by simp))
  have q1 : w1.heap[w.heap.size]? = some (Obj.cells #[.int .i64 n, .int .i64 lb, .int .i64 s0, .slice a es.length c] 24) := by
    rw [hB1.block _ (by simp), heap_alloc_new]
  have z0 : w1.cell? ⟨w.heap.size, 0, none⟩ = some (.int .i64 n) := by simp [World.cell?, q1]
  have z1 : w1.cell? ⟨w.heap.size, 1, none⟩ = some (.int .i64 lb) := by simp [World.cell?, q1]
  have z2 : w1.cell? ⟨w.heap.size, 2, none⟩ = some (.int .i64 s0) := by simp [World.cell?, q1]
  have z3 : w1.cell? ⟨w.heap.size, 3, none⟩ = some (.slice a es.length c) := by simp [World.cell?, q1]
  have zf : ∀ j, w1.frozen? ⟨w.heap.size, j, none⟩ = false := by intro j; simp [World.frozen?, q1]
  have zf0 := zf 0; have zf1 := zf 1; have zf2 := zf 2; have zf3 := zf 3
  have hlt1 : w.heap.size < w1.heap.size := by omega
  obtain ⟨ea, ec, eb, rfl, hec, hem, hes, heb⟩ := slAt_own lenE hown
  have HES := Lib.hid hes; have HB1 := Lib.hid hB1'; have HEB := Lib.hid heb; have HEC := Lib.hid hec
  have Q1 := Lib.hid q1
  clear q1 hown hB0 hB1 hB1' zf hes heb hem hec
  go_wp2_with fail
  obtain ⟨gb, hgb⟩ : ∃ gb, gb = w1.heap.size := ⟨_, rfl⟩
  obtain ⟨W1, hW1⟩ : ∃ W1, W1 = ((((w1.setCell ⟨w.heap.size, 0, none⟩ (.int .i64 n)).setCell ⟨w.heap.size, 1, none⟩ (.int .i64 lb)).setCell ⟨w.heap.size, 2, none⟩ (.int .i64 s0)).setCell ⟨w.heap.size, 3, none⟩ (.slice ea (nf ltE es).length ec)).alloc (.cells #[.int .i64 n, .int .i64 lb, .int .i64 s0, .slice ea (nf ltE es).length ec, .slice none 0 0, .slice none 0 0, .slice none 0 0, .slice none 0 0] 88) := ⟨_, rfl⟩
  rw [← hW1]
  have hebne : 0 < (nf ltE es).length → eb ≠ w.heap.size := fun hl e => by have := HEB.out hl; simp at this; omega
  have hsW : w1.heap.size + 1 = W1.heap.size := by rw [hW1]; simp [World.setCell]
  have hESW : SlAt encE 3 W1 ea eb 0 (nf ltE es) := by rw [hW1]; exact ((((HES.out.setOther hebne _).setOther hebne _).setOther hebne _).setOther hebne _).alloc _
  have hBW : Below w.heap.size w W1 := by rw [hW1]; exact ((((HB1.out.setCell (Nat.le_refl _) _).setCell (Nat.le_refl _) _).setCell (Nat.le_refl _) _).setCell (Nat.le_refl _) _).alloc (by simp [World.setCell]; omega) _
  have hqg : W1.heap[w1.heap.size]? = some (.cells #[.int .i64 n, .int .i64 lb, .int .i64 s0, .slice ea (nf ltE es).length ec, .slice none 0 0, .slice none 0 0, .slice none 0 0, .slice none 0 0] 88 (0, 0)) := by
    rw [hW1]; exact heap_alloc_at _ _ _ (by simp only [size_setCell])
  have hq1 : W1.heap[w.heap.size]? = some (.cells #[.int .i64 n, .int .i64 lb, .int .i64 s0, .slice ea (nf ltE es).length ec] 24 (0, 0)) := by
    rw [hW1, Below.heap_alloc _ _ _ (by simp only [size_setCell]; omega)]
    rw [heap_setCell_same _ _ _ _ _ _ (heap_setCell_same _ _ _ _ _ _ (heap_setCell_same _ _ _ _ _ _ (heap_setCell_same _ _ _ _ _ _ Q1.out)))]
    rfl
  clear hW1
  have hx0 : ∀ x ∈ nf ltE es, 0 ≤ x.1 ∧ x.1 < (n : Int) := fun x hx => by have := offB_false.1 (HR.out.edges x hx); simp only [Lts.norm] at this; omega
  have hx2 : ∀ x ∈ nf ltE es, 0 ≤ x.2.2 ∧ x.2.2 < (n : Int) := fun x hx => by have := offB_false.1 (HR.out.edges x hx); simp only [Lts.norm] at this; omega
  have hlE : (nf ltE es).length ≤ 10000 := by have := length_nf (lt := ltE) es; have := HST.out; omega
  have hn1 : n ≤ 1000 := by have := HST.out; omega
  have HX2 := Lib.hid hx2; have HESW := Lib.hid hESW
  refine (newRowsOut_any n hn1 hESW hlE hx0).mono ?_
  rintro e w2 ⟨va, rfl, hva, hvf, hB2⟩
  have HVA2 := Lib.hid hva; have HVF2 := Lib.hid hvf
  obtain ⟨a2, m2, k2, rfl⟩ := own_slice hva
  have hsz2 := hB2.size
  have q2 : w2.heap[w.heap.size]? = some (.cells #[.int .i64 n, .int .i64 lb, .int .i64 s0, .slice ea (nf ltE es).length ec] 24 (0, 0)) := by rw [hB2.block _ (by omega)]; exact hq1
  have g2 := (hB2.block w1.heap.size (by omega)).trans hqg
  have z0 : w2.cell? ⟨w.heap.size, 0, none⟩ = some (.int .i64 n) := by simp [World.cell?, q2]
  have z3 : w2.cell? ⟨w.heap.size, 3, none⟩ = some (.slice ea (nf ltE es).length ec) := by simp [World.cell?, q2]
  have y4 : w2.cell? ⟨w1.heap.size, 4, none⟩ = some (.slice none 0 0) := by simp [World.cell?, g2]
  have y5 : w2.cell? ⟨w1.heap.size, 5, none⟩ = some (.slice none 0 0) := by simp [World.cell?, g2]
  have yf : ∀ j, w2.frozen? ⟨w1.heap.size, j, none⟩ = false := by intro j; simp [World.frozen?, g2]
  have yf4 := yf 4; have yf5 := yf 5
  have hlt2 : w1.heap.size < w2.heap.size := by omega
  have hlt3 : w.heap.size < w2.heap.size := by omega
  have hne2 : ¬ w.heap.size = w1.heap.size := by omega
  have Q2 := Lib.hid q2; have G2 := Lib.hid g2
  have hES2 := hESW.below hB2 (Nat.le_refl _)
  have hBw2 := hBW.trans (hB2.mono (by omega))
  have HES2 := Lib.hid hES2; have HBW2 := Lib.hid hBw2
  clear hx2 hx0 hESW q2 g2 yf hES2 hBw2 hB2 hva hvf hqg hq1 hBW
  go_wp2_with fail
  obtain ⟨W3, hW3⟩ : ∃ W3, W3 = (w2.setCell ⟨w1.heap.size, 4, none⟩ (.slice a2 m2 k2)).setCell ⟨w1.heap.size, 5, none⟩ (.slice (some ⟨W1.heap.size + 1, 0, none⟩) (n + 1) (n + 1)) := ⟨_, rfl⟩
  rw [← hW3]
  have hs3 : W3.heap.size = w2.heap.size := by rw [hW3]; simp only [size_setCell]
  have hebg : 0 < (nf ltE es).length → eb ≠ w1.heap.size := fun hl => Nat.ne_of_lt (HES.out.lt hl)
  have hES3 : SlAt encE 3 W3 ea eb 0 (nf ltE es) := by rw [hW3]; exact (HES2.out.setOther hebg _).setOther hebg _
  have hVA3 := own_mono (base' := W1.heap.size) HVA2.out (by omega)
  have hVA3' : W3.ownsRow W1.heap.size 92 2 (.slice a2 m2 k2) (nf ltE es).length (((nf ltE es).map stO).flatMap encS) := by
    rw [hW3]; exact ownsRow_setCell_below (ownsRow_setCell_below hVA3 (by show w1.heap.size < W1.heap.size; omega) _) (by show w1.heap.size < W1.heap.size; omega) _
  have hVF3 : W3.rowIs (W1.heap.size + 1) 3 (n + 1) (fun j => .int .i64 ((nf ltE es).filter (fun x => decide (x.1 < (j : Int)))).length) := by
    rw [hW3]; exact (HVF2.out.setOther (by show W1.heap.size + 1 ≠ w1.heap.size; omega) _).setOther (by show W1.heap.size + 1 ≠ w1.heap.size; omega) _
  have hQ3 : W3.heap[w.heap.size]? = some (.cells #[.int .i64 n, .int .i64 lb, .int .i64 s0, .slice ea (nf ltE es).length ec] 24 (0, 0)) := by
    rw [hW3, Below.heap_setCell _ _ _ _ (by show w.heap.size ≠ w1.heap.size; omega), Below.heap_setCell _ _ _ _ (by show w.heap.size ≠ w1.heap.size; omega)]; exact Q2.out
  have hG3 : W3.heap[w1.heap.size]? = some (.cells #[.int .i64 n, .int .i64 lb, .int .i64 s0, .slice ea (nf ltE es).length ec, .slice a2 m2 k2, .slice (some ⟨W1.heap.size + 1, 0, none⟩) (n + 1) (n + 1), .slice none 0 0, .slice none 0 0] 88 (0, 0)) := by
    rw [hW3, heap_set2 G2.out]; rfl
  have hBW3 : Below w.heap.size w W3 := by rw [hW3]; exact (HBW2.out.setCell (by show w.heap.size ≤ w1.heap.size; omega) _).setCell (by show w.heap.size ≤ w1.heap.size; omega) _
  have HES3 := Lib.hid hES3; have HVA := Lib.hid hVA3'; have HVF := Lib.hid hVF3; have HQ3 := Lib.hid hQ3; have HG3 := Lib.hid hG3; have HBW3 := Lib.hid hBW3
  clear hW3 hES3 hVA3 hVA3' hVF3 hQ3 hG3 hBW3 z0 z3 y4 y5 yf4 yf5
  refine (cloneE_any HES3.out (by omega)).mono ?_
  rintro e w3 ⟨v3, rfl, hown3, hB3⟩
  have HO3 := Lib.hid hown3; have HB3 := Lib.hid hB3
  clear hown3 hB3
  go_wp2_with fail
  refine (sortFuncE_v cmpB swoB 52 HEG.out (fun x y W => orderB_any x y W) HO3.out (by omega)).mono ?_
  rintro e w4 ⟨rfl, ys, hp, hsrt, hown4, hB4⟩
  have hys := nf_of_perm (srt_nf stoE es) hp hsrt
  have hB4' := hB4 HB3.out
  subst hys
  have hq4 : w4.heap[w.heap.size]? = some (.cells #[.int .i64 n, .int .i64 lb, .int .i64 s0, .slice ea (nf ltE es).length ec] 24 (0, 0)) := by rw [hB4'.block _ (by omega)]; exact HQ3.out
  have z0 : w4.cell? ⟨w.heap.size, 0, none⟩ = some (.int .i64 n) := by simp [World.cell?, hq4]
  have hlB : (nf Pl.ltB (nf ltE es)).length ≤ 10000 := by have := length_nf (lt := Pl.ltB) (nf ltE es); omega
  obtain ⟨ba, bc, bb, rfl, hbc, hbm, hbs, _⟩ := slAt_own lenE hown4
  have HBS := Lib.hid hbs; have HB4 := Lib.hid hB4'
  have hs4 := hB4'.size
  clear hp hsrt hown4 hB4 hB4' hq4 hbs HO3
  go_wp2_with fail
  refine (newRowsIn_any n hn1 HBS.out hlB (fun x hx => HX2.out x ((mem_nf stoB x _).1 hx))).mono ?_
  rintro e w5 ⟨v5, rfl, hva5, hvf5, hB5⟩
  obtain ⟨a5, m5, k5, rfl⟩ := own_slice hva5
  have hB5' : Below W3.heap.size W3 w5 := HB4.out.trans (hB5.mono hs4)
  have hs5 := hB5.size
  have hg5 : w5.heap[w1.heap.size]? = _ := (hB5'.block w1.heap.size (by omega)).trans HG3.out
  have y6 : w5.cell? ⟨w1.heap.size, 6, none⟩ = some (.slice none 0 0) := by simp [World.cell?, hg5]
  have y7 : w5.cell? ⟨w1.heap.size, 7, none⟩ = some (.slice none 0 0) := by simp [World.cell?, hg5]
  have yf6 : w5.frozen? ⟨w1.heap.size, 6, none⟩ = false := by simp [World.frozen?, hg5]
  have yf7 : w5.frozen? ⟨w1.heap.size, 7, none⟩ = false := by simp [World.frozen?, hg5]
  have HVA5 := Lib.hid hva5; have HVF5 := Lib.hid hvf5; have HB5 := Lib.hid hB5'; have HG5 := Lib.hid hg5
  clear z0 hva5 hvf5 hB5 hB5' hg5
  go_wp2
  go_ret2
  have hne6 : ∀ {x : Nat}, w1.heap.size < x → x ≠ w1.heap.size := fun h => by omega
  refine ⟨w1.heap.size, rfl, fun W hW => ⟨HR.out, srt_nf stoE es, .slice ea (nf ltE es).length ec, .slice a2 m2 k2, .slice (some ⟨W1.heap.size + 1, 0, none⟩) (n + 1) (n + 1), .slice a5 m5 k5, .slice (some ⟨w4.heap.size + 1, 0, none⟩) (n + 1) (n + 1), ?_, ⟨ea, ec, eb, 0, rfl, HEC.out, ?_⟩, ?_, ?_⟩, ?_, by omega⟩
  · rw [hW w1.heap.size (by omega) (by rw [size_setCell, size_setCell]; omega), heap_set2 HG5.out]; rfl
  · exact slAt_upG (((HES3.out.below HB5.out (Nat.le_refl _)).setOther hebg _).setOther hebg _) hW (fun hp => by have := HEB.out hp; simp at this; omega)
  · have h1 := own_upG (ownsRow_setCell_below (ownsRow_setCell_below (own_below HVA.out HB5.out) (a := ⟨w1.heap.size, 6, none⟩) (by show w1.heap.size < W1.heap.size; omega) (.slice a5 m5 k5)) (a := ⟨w1.heap.size, 7, none⟩) (by show w1.heap.size < W1.heap.size; omega) (.slice (some ⟨w4.heap.size + 1, 0, none⟩) (n + 1) (n + 1))) hW (by omega)
    have h2 := ((HVF.out.of_block (HB5.out.block _ HVF.out.lt)).setOther (a := ⟨w1.heap.size, 6, none⟩) (by show W1.heap.size + 1 ≠ w1.heap.size; omega) (.slice a5 m5 k5)).setOther (a := ⟨w1.heap.size, 7, none⟩) (by show W1.heap.size + 1 ≠ w1.heap.size; omega) (.slice (some ⟨w4.heap.size + 1, 0, none⟩) (n + 1) (n + 1))
    exact rowsAt_of (key := fun x => x.1) (st := stO) hn1 hlE h1 (h2.of_block (hW _ (by omega) h2.lt))
  · have h1 := own_upG (ownsRow_setCell_below (ownsRow_setCell_below (own_mono (base' := w4.heap.size) HVA5.out (by omega)) (a := ⟨w1.heap.size, 6, none⟩) (by show w1.heap.size < w4.heap.size; omega) (.slice a5 m5 k5)) (a := ⟨w1.heap.size, 7, none⟩) (by show w1.heap.size < w4.heap.size; omega) (.slice (some ⟨w4.heap.size + 1, 0, none⟩) (n + 1) (n + 1))) hW (by omega)
    have h2 := (HVF5.out.setOther (a := ⟨w1.heap.size, 6, none⟩) (by show w4.heap.size + 1 ≠ w1.heap.size; omega) (.slice a5 m5 k5)).setOther (a := ⟨w1.heap.size, 7, none⟩) (by show w4.heap.size + 1 ≠ w1.heap.size; omega) (.slice (some ⟨w4.heap.size + 1, 0, none⟩) (n + 1) (n + 1))
    exact rowsAt_of (key := fun x => x.2.2) (st := stI) hn1 hlB h1 (h2.of_block (hW _ (by omega) h2.lt))
  · exact ((HBW3.out.trans (HB5.out.mono (by omega))).setCell (by show w.heap.size ≤ w1.heap.size; omega) _).setCell (by show w.heap.size ≤ w1.heap.size; omega) _

theorem new_up {p : Addr} {s : Lts} (h : s.Right) {a : Option Addr} {b off c : Nat} {w : World} (hG : GErr 0 p w) (hS : SlAt encE 3 w a b off s.es) :
    Calls Tryz.prog 7 #[.agg #[.int .i64 s.st, .int .i64 s.lb, .int .i64 s.s0, .slice a s.es.length c]] w fun e w' =>
      ∃ gb, e = .returned (.tuple #[.pointer (some ⟨gb, 0, none⟩), .nilIface]) ∧ (∀ W, SameUp w.heap.size w' W → GraphAt W gb s.norm) ∧ Below w.heap.size w w' ∧ w.heap.size ≤ gb := by
  obtain ⟨st, lb, s0, es⟩ := s
  obtain ⟨n, rfl⟩ := Int.eq_ofNat_of_zero_le (show 0 ≤ st from h.st0.1)
  exact new_hi h hG hS

theorem new_ok {p : Addr} {s : Lts} (h : s.Right) {a : Option Addr} {b off c : Nat} {w : World} (hG : GErr 0 p w) (hS : SlAt encE 3 w a b off s.es) :
    Calls Tryz.prog 7 #[.agg #[.int .i64 s.st, .int .i64 s.lb, .int .i64 s.s0, .slice a s.es.length c]] w fun e w' =>
      ∃ gb, e = .returned (.tuple #[.pointer (some ⟨gb, 0, none⟩), .nilIface]) ∧ GraphAt w' gb s.norm ∧ Below w.heap.size w w' ∧ w.heap.size ≤ gb := by
  refine (new_up h hG hS).mono ?_
  rintro e w' ⟨gb, h1, h2, h3, h4⟩
  exact ⟨gb, h1, h2 _ (SameUp.refl _ _), h3, h4⟩

end Go.Proofs.YtkmljelgogcobaaGreatDoor

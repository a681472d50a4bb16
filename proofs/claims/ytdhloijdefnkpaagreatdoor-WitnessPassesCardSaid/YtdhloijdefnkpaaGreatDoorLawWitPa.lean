/-
  Lemmas.
-/
import Derived.Test.YtdhloijdefnkpaaGreatDoorGWkQ
import Derived.Test.YtdhloijdefnkpaaGreatDoorGWitW
namespace Go.Proofs.YtdhloijdefnkpaaGreatDoor
open Go.RowKit Pl
open Lib (hid)
set_option maxRecDepth 100000 in
set_option maxHeartbeats 8000000 in
theorem wPasses_any {w : World} {p : Addr} (hG : WkErr p w) (hT : ErrType w) (hTab : Tab w) (htab : Lib.TabIs Tryz.prog w "internal/strconv.uint64pow10" .u64 Lib.pow10Tab) {s : Lts} {a : Option Addr} {b off c : Nat} (hS : SlAt encE 3 w a b off s.es) :
    Calls Tryz.prog 8 #[.agg #[.int .i64 s.st, .int .i64 s.lb, .int .i64 s.s0, .slice a s.es.length c]] w fun e w' => e = .returned (.bool true) ∧ Below w.heap.size w w' := by
  have hB0 := (Below.refl w.heap.size w).alloc (Nat.le_refl _) (Obj.cells #[.int .i64 s.st, .int .i64 s.lb, .int .i64 s.s0, .slice a s.es.length c] 24)
  have hbx := heap_alloc_new w (Obj.cells #[.int .i64 s.st, .int .i64 s.lb, .int .i64 s.s0, .slice a s.es.length c] 24)
  have HSM := hid (smallW_any s.s0 s.st s.lb a s.es.length c (w.alloc (Obj.cells #[.int .i64 s.st, .int .i64 s.lb, .int .i64 s.s0, .slice a s.es.length c] 24)))
  have HG := hid hG; have HTY := hid hT; have HT := hid (Lib.tabBelow_of_tabIs htab); have HTB := hid hTab; have HS := hid hS; have HB0 := hid hB0; have HBX := hid hbx
  have ALV : Hid (∀ w1 : World, Below w.heap.size w w1 → Calls Tryz.prog 26 #[] w1 fun e w' => e = .returned (.bool true) ∧ Below w.heap.size w w' ∧ Below w1.heap.size w1 w') := hid (by
    intro w1 h1
    refine (alive19_any (hG.below h1).sys).mono ?_
    rintro e w' ⟨rfl, hB⟩
    exact ⟨rfl, h1.trans (hB.mono h1.size), hB⟩)
  clear hG hT hTab htab hS hB0 hbx
  by_cases hsm : (decide (s.st ≤ 25) && decide ((s.es.length : Int) ≤ 150)) = true
  case neg =>
    simp only [Bool.not_eq_true] at hsm
    have hsm2 : (decide (s.st ≤ 25) && decide (s.es.length ≤ 150)) = false := by
      rw [← hsm]; congr 1; simp [decide_eq_decide]
      try omega
    clear hsm
    go_enter Tryz.func8, Tryz.ntmps8
    go_wp2_with fail
    refine HSM.out.mono ?_
    rintro e w1 ⟨rfl, hB1⟩
    rw [hsm2]
    have HB1 := hid (HB0.out.trans (hB1.mono (by simp)))
    clear hB1 hsm2
    go_wp2_with fail
    refine (ALV.out _ HB1.out).mono ?_
    rintro e w2 ⟨rfl, hB, _⟩
    go_wp2
    go_ret
    exact ⟨rfl, hB⟩
  case pos =>
  have hs2 : s.st ≤ 25 ∧ s.es.length ≤ 150 := by
    simp only [Bool.and_eq_true, decide_eq_true_eq] at hsm
    omega
  have hsm2 : (decide (s.st ≤ 25) && decide (s.es.length ≤ 150)) = true := by simp [hs2.1, hs2.2]
  have HS2 := hid hs2; have HSM2 := hid hsm2
  clear hsm hs2 hsm2
  by_cases hr : s.Right
  case neg =>
    have HNR := hid hr
    clear hr
    go_enter Tryz.func8, Tryz.ntmps8
    go_wp2_with fail
    refine HSM.out.mono ?_
    rintro e w1 ⟨rfl, hB1⟩
    rw [HSM2.out]
    have hb1 := HB0.out.trans (hB1.mono (by simp))
    have hx1 := (hB1.block w.heap.size (by simp)).trans HBX.out
    obtain ⟨x0, x1, x2, x3, x4⟩ := sysB hx1
    have HTO := hid (toldNo_any (c := c) HNR.out (HG.out.below hb1) (HTY.out.below hb1) (HS.out.below hb1 (Nat.le_refl _)))
    have HB1 := hid hb1
    clear hB1 hb1 hx1 HSM HBX
    go_wp2_with fail
    refine wp_loop_rounds 1 ?_
    rw [rounds_succ]
    go_wp2_with fail
    refine HTO.out.mono ?_
    rintro e w2 ⟨v, rfl, hf, hB2⟩
    obtain ⟨vi, hf1, hf2⟩ := hf
    obtain ⟨fb, rfl, h1⟩ := hf1.ex
    obtain ⟨fc, rfl, h2⟩ := hf2.ex
    have c1 : w2.cell? ⟨fb, 3, none⟩ = some (.iface 73 (.pointer (some ⟨fc, 0, none⟩))) := by simp [World.cell?, h1]
    have c2 : w2.cell? ⟨fc, 3, none⟩ = some (.iface 285 (.pointer (some p))) := by simp [World.cell?, h2]
    have hb2 := HB1.out.trans (hB2.mono HB1.out.size)
    have HC1 := hid c1; have HC2 := hid c2; have HB2 := hid hb2; have HL1 := hid (Array.getElem?_eq_some_iff.1 h1).1; have HL2 := hid (Array.getElem?_eq_some_iff.1 h2).1
    clear hf1 hf2 h1 h2 c1 c2 hB2 hb2 x0 x1 x2 x3 x4 HTO HB1
    go_wp2_with fail
    refine (ALV.out _ HB2.out).mono ?_
    rintro e w3 ⟨rfl, hB, hB3⟩
    have hge := (HG.out.below hB).sys.cell
    have hgl := (HG.out.below hB).sys.lt
    have HIS := hid (is_faultQ_same fb fc p w3 (by rw [hB3.cell (p := ⟨fb, 3, none⟩) HL1.out]; exact HC1.out) (by rw [hB3.cell (p := ⟨fc, 3, none⟩) HL2.out]; exact HC2.out))
    have HB := hid hB
    clear hB hB3
    go_wp2_with fail
    refine HIS.out.mono ?_
    rintro e w4 ⟨rfl, rfl⟩
    go_wp2_with fail
    go_ret
    exact ⟨rfl, HB.out⟩
  case pos =>
  have hst := hr.st0
  obtain ⟨n, hn⟩ : ∃ n : Nat, s.st = (n : Int) := ⟨s.st.toNat, by omega⟩
  obtain ⟨lb, hlb⟩ : ∃ lb : Nat, s.lb = (lb : Int) := ⟨s.lb.toNat, by omega⟩
  have hn25 : n ≤ 25 := by have := HS2.out; omega
  have HR := hid hr; have HN := hid hn; have HLB := hid hlb
  clear hr hst hn hlb
  go_enter Tryz.func8, Tryz.ntmps8
  go_wp2_with fail
  refine HSM.out.mono ?_
  rintro e w1 ⟨rfl, hB1⟩
  rw [HSM2.out]
  have hb1 := HB0.out.trans (hB1.mono (by simp))
  have hx1 := (hB1.block w.heap.size (by simp)).trans HBX.out
  have HB1 := hid hb1; have HX1 := hid hx1
  clear hB1 hb1 hx1 HSM HBX
  go_wp2_with fail
  go_loopw [3, 4, 5, 6, 7] (fun v3 _ _ _ _ wr => ∃ k : Nat, v3 = .int .i64 k ∧ k ≤ 3 ∧ Below w1.heap.size w1 wr) (fun v3 _ _ _ _ _ => 3 - (intOf v3).toNat)
  case atStart => exact ⟨0, rfl, by omega, Below.refl _ _⟩
  case round =>
    obtain ⟨k, rfl, hk, hB⟩ := hrel
    have hxr := (hB.block w.heap.size (Array.getElem?_eq_some_iff.1 HX1.out).1).trans HX1.out
    obtain ⟨x0, x1, x2, x3, x4⟩ := sysB hxr
    have hbr := HB1.out.trans (hB.mono HB1.out.size)
    have HBR := hid hbr; have HB := hid hB; have HXR := hid hxr
    by_cases hk3 : k < 3
    · have hkI : (k : Int) < 3 := by omega
      have HTO := hid (toldK_any (c := c) HR.out HN.out HLB.out (by have := HS2.out; omega) (by omega) (HG.out.below hbr) (HTB.out.below hbr) (HT.out _ hbr) (HS.out.below hbr (Nat.le_refl _)) hk3)
      clear hxr hbr hB
      go_wp2_with fail
      refine HTO.out.mono ?_
      unfold ToldPost
      rintro e w2 ⟨C, da, db, dc, rfl, hds, hcan, hbig, hB2⟩
      have hb2 := HBR.out.trans (hB2.mono HBR.out.size)
      have hxr := (hB2.block w.heap.size x4).trans HXR.out
      have HPA := hid (passesK_any (c := c) (cc := dc) (fl_len n C) HR.out (by have := HS2.out; omega) (show clB s.st (fl n C) = true by unfold clB; rw [hcan, fl_len, HN.out]; simp) (by rw [fl_len]; omega) (fun x hx => by
        unfold fl at hx
        obtain ⟨q, hq, rfl⟩ := List.mem_map.1 hx
        have := can_rng hcan (List.mem_range.1 hq)
        exact WalkArith.wf_i64 (by omega)) (HG.out.below hb2) (HS.out.below hb2 (Nat.le_refl _)) hds hk3)
      have HPD := hid (kind_pass HR.out HN.out hk3 hbig)
      have HB2 := hid hb2; have HBZ := hid (HB.out.trans (hB2.mono HB.out.size))
      clear x0 x1 x2 x3 x4
      obtain ⟨x0, x1, x2, x3, x4⟩ := sysB hxr
      clear hb2 hB2 hds hcan hbig hxr HTO HBR
      go_wp2_with fail
      refine HPA.out.mono ?_
      unfold PassPost
      rintro e w3 ⟨r, rfl, hr, hB3⟩
      have hrt : r = true := by rw [hr, fl_len]; exact HPD.out
      subst hrt
      have HB3 := hid (HBZ.out.trans (hB3.mono HBZ.out.size))
      clear hr hB3 x0 x1 x2 x3 x4 HPA
      go_wp2_with fail
      go_roundw
      case rel => exact ⟨k + 1, by go_num, by omega, HB3.out⟩
      case measure => simp [intOf]; omega
    · obtain rfl : k = 3 := by omega
      clear hxr hbr hB
      go_wp2_with fail
      refine (ALV.out _ HBR.out).mono ?_
      rintro e w9 ⟨rfl, hB, _⟩
      go_wp2
      go_ret
      exact ⟨rfl, hB⟩
end Go.Proofs.YtdhloijdefnkpaaGreatDoor

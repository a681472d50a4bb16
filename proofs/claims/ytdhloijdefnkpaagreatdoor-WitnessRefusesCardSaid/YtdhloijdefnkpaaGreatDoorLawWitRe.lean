/-
  Lemmas.
-/
import Derived.Test.YtdhloijdefnkpaaGreatDoorGWkQ
import Derived.Deep.QuietTactic
import Derived.BigQuiet
namespace Go.Proofs.YtdhloijdefnkpaaGreatDoor
open Go.RowKit Pl
open Lib (hid)
theorem list_fl {C : List Int} {n : Nat} (h : C.length = n) : fl n (fun i => C.getD i 0) = C := by
  apply List.ext_getElem?
  intro i
  by_cases hi : i < n
  · rw [fl_get _ hi, List.getD_eq_getElem?_getD, List.getElem?_eq_getElem (by omega)]
    rfl
  · rw [List.getElem?_eq_none (by rw [fl_len]; omega), List.getElem?_eq_none (by omega)]
set_option maxRecDepth 100000 in
set_option maxHeartbeats 8000000 in
theorem wRefuses_any {w : World} {p pc : Addr} (hG : WkErr p w) (hE : GErr 16 pc w) (hT : ErrType w) (hTab : Tab w) (htab : Lib.TabIs Tryz.prog w "internal/strconv.uint64pow10" .u64 Lib.pow10Tab) {s : Lts} {a : Option Addr} {b off c : Nat} (hS : SlAt encE 3 w a b off s.es) {C : List Int} {ca : Option Addr} {cb co cc : Nat} (hCS : SlAt encI 1 w ca cb co C) (hwf : ∀ x ∈ C, (Lit.int .i64 x).wf = true) :
    Calls Tryz.prog 9 #[.agg #[.int .i64 s.st, .int .i64 s.lb, .int .i64 s.s0, .slice a s.es.length c], .slice ca C.length cc] w fun e w' => e = .returned (.bool true) ∧ Below w.heap.size w w' := by
  have hB0 := (Below.refl w.heap.size w).alloc (Nat.le_refl _) (Obj.cells #[.int .i64 s.st, .int .i64 s.lb, .int .i64 s.s0, .slice a s.es.length c] 24)
  have hbx := heap_alloc_new w (Obj.cells #[.int .i64 s.st, .int .i64 s.lb, .int .i64 s.s0, .slice a s.es.length c] 24)
  have HSM := hid (smallW_any s.s0 s.st s.lb a s.es.length c (w.alloc (Obj.cells #[.int .i64 s.st, .int .i64 s.lb, .int .i64 s.s0, .slice a s.es.length c] 24)))
  have HG := hid hG; have HE := hid hE; have HTY := hid hT; have HT := hid (Lib.tabBelow_of_tabIs htab); have HTB := hid hTab; have HS := hid hS; have HB0 := hid hB0; have HBX := hid hbx; have HCS := hid hCS; have HWF := hid hwf
  have ALV : Hid (∀ w1 : World, Below w.heap.size w w1 → Calls Tryz.prog 26 #[] w1 fun e w' => e = .returned (.bool true) ∧ Below w.heap.size w w' ∧ Below w1.heap.size w1 w') := hid (by
    intro w1 h1
    refine (alive19_any (hG.below h1).sys).mono ?_
    rintro e w' ⟨rfl, hB⟩
    exact ⟨rfl, h1.trans (hB.mono h1.size), hB⟩)
  obtain ⟨m, hm⟩ : ∃ m, m = C.length := ⟨_, rfl⟩
  rw [← hm]
  have HM := hid hm.symm
  clear hG hE hT hTab htab hS hB0 hbx hCS hwf hm
  by_cases hsm : s.st ≤ 25 ∧ s.es.length ≤ 150
  case neg =>
    have hsm2 : (decide (s.st ≤ 25) && decide (s.es.length ≤ 150)) = false := by
      rw [Bool.eq_false_iff]; intro h; simp only [Bool.and_eq_true, decide_eq_true_eq] at h; exact hsm h
    clear hsm
    go_enter Tryz.func9, Tryz.ntmps9
    go_wp2_with fail
    refine HSM.out.mono ?_
    rintro e w1 ⟨rfl, hB1⟩
    rw [hsm2]
    have HB1 := hid (HB0.out.trans (hB1.mono (by simp)))
    clear hB1 hsm2
    go_wp2_with fail
    refine (ALV.out _ HB1.out).mono ?_
    rintro e w2 ⟨rfl, hB, _⟩
    go_wp2
    go_ret
    exact ⟨rfl, hB⟩
  case pos =>
  have hsm2 : (decide (s.st ≤ 25) && decide (s.es.length ≤ 150)) = true := by simp [hsm.1, hsm.2]
  have HS2 := hid hsm; have HSM2 := hid hsm2
  clear hsm hsm2
  by_cases hm60 : 60 < m
  · have e1 : decide ((60 : Int) < (m : Int)) = true := by simp; omega
    clear hm60
    go_enter Tryz.func9, Tryz.ntmps9
    go_wp2_with fail
    refine HSM.out.mono ?_
    rintro e w1 ⟨rfl, hB1⟩
    rw [HSM2.out]
    have HB1 := hid (HB0.out.trans (hB1.mono (by simp)))
    clear hB1
    go_wp2_with fail
    refine (ALV.out _ HB1.out).mono ?_
    rintro e w2 ⟨rfl, hB, _⟩
    go_wp2
    go_ret
    exact ⟨rfl, hB⟩
  have e1 : decide ((60 : Int) < (m : Int)) = false := by simp; omega
  have HPS : Hid (∀ w1 : World, Below w.heap.size w w1 → ∀ k : Nat, k < 3 → Calls Tryz.prog 28 #[.agg #[.int .i64 s.st, .int .i64 s.lb, .int .i64 s.s0, .slice a s.es.length c], .slice ca m cc, .int .i64 (k : Int)] w1 fun e w' => ((∃ fb : Nat, e = .returned (.tuple #[.bool false, .iface 73 (.pointer (some ⟨fb, 0, none⟩))])) ∨ ∃ r : Bool, e = .returned (.tuple #[.bool r, .nilIface]) ∧ s.Right ∧ clB s.st C = true ∧ (r = true → PassD s.norm C.length C (DKind k s.norm C))) ∧ Below w1.heap.size w1 w') := hid (by
    intro w1 h1 k hk
    by_cases hrc : s.Right ∧ clB s.st C = true
    · refine (passesK_any HM.out hrc.1 (by have := HS2.out; omega) hrc.2 (by have := HM.out; omega) HWF.out (HG.out.below h1) (HS.out.below h1 (Nat.le_refl _)) (HCS.out.below h1 (Nat.le_refl _)) hk).mono ?_
      rintro e w' ⟨r, rfl, hr, hB⟩
      exact ⟨.inr ⟨r, rfl, hrc.1, hrc.2, hr.1⟩, hB⟩
    · refine (passesE_any HM.out hrc (HTY.out.below h1) (HE.out.below h1) (by have := HM.out; omega) HWF.out (HG.out.below h1) (HS.out.below h1 (Nat.le_refl _)) (HCS.out.below h1 (Nat.le_refl _)) hk).mono ?_
      rintro e w' ⟨fb, rfl, hB⟩
      exact ⟨.inl ⟨fb, rfl⟩, hB⟩)
  clear HTY HE
  go_enter Tryz.func9, Tryz.ntmps9
  go_wp2_with fail
  refine HSM.out.mono ?_
  rintro e w1 ⟨rfl, hB1⟩
  rw [HSM2.out]
  have hb1 := HB0.out.trans (hB1.mono (by simp))
  have hx1 := (hB1.block w.heap.size (by simp)).trans HBX.out
  have HB1 := hid hb1; have HX1 := hid hx1
  clear hB1 hb1 hx1 HSM HBX
  go_wp2_with fail
  clear e1
  go_loopw [5, 6, 7, 8, 9, 10, 11] (fun v5 _ _ _ _ _ _ wr => ∃ k : Nat, v5 = .int .i64 k ∧ k ≤ 3 ∧ Below w1.heap.size w1 wr) (fun v5 _ _ _ _ _ _ _ => 3 - (intOf v5).toNat)
  case atStart => exact ⟨0, rfl, by omega, Below.refl _ _⟩
  case round =>
    obtain ⟨k, rfl, hk, hB⟩ := hrel
    have hxr := (hB.block w.heap.size (Array.getElem?_eq_some_iff.1 HX1.out).1).trans HX1.out
    obtain ⟨x0, x1, x2, x3, x4⟩ := sysB hxr
    have hbr := HB1.out.trans (hB.mono HB1.out.size)
    have HBR := hid hbr; have HB := hid hB; have HXR := hid hxr
    clear hxr hbr hB
    by_cases hk3 : k < 3
    · have hkI : (k : Int) < 3 := by omega
      have HPK := hid (HPS.out _ HBR.out k hk3)
      go_wp2_with fail
      refine HPK.out.mono ?_
      rintro e w2 ⟨hor, hB2⟩
      have HB2 := hid (HB.out.trans (hB2.mono HB.out.size))
      have hb2 := HBR.out.trans (hB2.mono HBR.out.size)
      have hxr := (hB2.block w.heap.size x4).trans HXR.out
      have HBW := hid hb2
      have HXR2 := hid hxr
      clear x0 x1 x2 x3 x4 hB2 hb2 hxr HPK HXR
      rcases hor with ⟨fb, rfl⟩ | ⟨r, rfl, hr, hc, hpd⟩
      · go_wp2_with fail
        go_roundw
        case rel => exact ⟨k + 1, by go_num, by omega, HB2.out⟩
        case measure => simp [intOf]; omega
      · have HPD := hid hpd
        have hst := hr.st0
        obtain ⟨n, hn⟩ : ∃ n : Nat, s.st = (n : Int) := ⟨s.st.toNat, by omega⟩
        obtain ⟨lb, hlb⟩ : ∃ lb : Nat, s.lb = (lb : Int) := ⟨s.lb.toNat, by omega⟩
        have hn25 : n ≤ 25 := by have := HS2.out; omega
        have hmn : m = n := by
          have h1 := HM.out
          unfold clB at hc
          simp only [Bool.and_eq_true, decide_eq_true_eq] at hc
          omega
        have HR := hid hr; have HN := hid hn; have HLB := hid hlb; have HC := hid hc
        subst hmn
        rcases r with _ | _
        · clear hpd hst hlb hn hr hc
          go_wp2_with fail
          go_roundw
          case rel => exact ⟨k + 1, by go_num, by omega, HB2.out⟩
          case measure => simp [intOf]; omega
        · have hx2 := HXR2.out
          obtain ⟨x0, x1, x2, x3, x4⟩ := sysB hx2
          have HTO := hid (toldK_any (c := c) HR.out HN.out HLB.out (by have := HS2.out; omega) (by omega) (HG.out.below HBW.out) (HTB.out.below HBW.out) (HT.out _ HBW.out) (HS.out.below HBW.out (Nat.le_refl _)) hk3)
          clear hpd hst hlb hn hr hc hx2
          go_wp2_with fail
          refine HTO.out.mono ?_
          unfold ToldPost
          rintro e w3 ⟨D, da, db, dc, rfl, hds, hcan, hbig, hB3⟩
          have HCO : Hid (∀ i j, i < m → j < m → C.getD i 0 = C.getD j 0 → D i = D j) := hid (fun i j hi hj e => by
            have h1 := HPD.out trivial
            have h2 := HM.out
            rw [← list_fl h2, fl_len] at h1
            exact kind_within (f := fun i => C.getD i 0) HR.out HN.out hk3 h1 hbig hi hj e)
          have HDS := hid hds
          have HB3 := hid (HB2.out.trans (hB3.mono HB2.out.size))
          have HCS3 := hid ((HCS.out.below HBW.out (Nat.le_refl _)).below hB3 (Nat.le_refl _))
          have HX3 := hid ((hB3.block w.heap.size x4).trans HXR2.out)
          obtain ⟨W, hW⟩ : ∃ W, W = w3 := ⟨_, rfl⟩
          subst hW
          clear x0 x1 x2 x3 x4 hds hcan hbig hB3 HTO HPD HBR HB HBW HXR2 HB2
          have HX4 := hid HX3.out
          rw [HN.out] at HX4
          obtain ⟨x0, x1, x2, x3, x4⟩ := sysB HX4.out
          clear HX3
          go_wp2_with fail
          clear x0 x1 x2 x3 x4
          go_loopw [10, 11] (fun v10 _ wx => ∃ i : Nat, v10 = .int .i64 i ∧ i ≤ m ∧ Below W.heap.size W wx) (fun v10 _ _ => m - (intOf v10).toNat)
          case atStart => exact ⟨0, rfl, Nat.zero_le _, Below.refl _ _⟩
          case round =>
            obtain ⟨i, rfl, hi, hBx⟩ := hrel
            have HBX := hid hBx
            have hxo := (hBx.block w.heap.size (Array.getElem?_eq_some_iff.1 HX4.out).1).trans HX4.out
            obtain ⟨x0, x1, x2, x3, x4⟩ := sysB hxo
            clear hBx hxo x1 x2 x3
            by_cases hin : i < m
            · have hiI : (i : Int) < (m : Int) := by omega
              go_wp2_with fail
              clear x0 x4
              go_loopw [11] (fun v11 wy => ∃ j : Nat, v11 = .int .i64 j ∧ j ≤ i ∧ Below W.heap.size W wy) (fun v11 _ => i - (intOf v11).toNat)
              case atStart => exact ⟨0, rfl, Nat.zero_le _, HBX.out⟩
              case round =>
                obtain ⟨j, rfl, hj, hBy⟩ := hrel
                have HBY := hid hBy
                by_cases hji : j < i
                · have hjn : j < m := by omega
                  have hrs := HCS3.out.below hBy (Nat.le_refl _)
                  have hds := HDS.out.below hBy (Nat.le_refl _)
                  have hml := HM.out
                  obtain ⟨ci, hci⟩ := getElem?_of_lt (xs := C) (i := i) (by omega)
                  obtain ⟨cj, hcj⟩ := getElem?_of_lt (xs := C) (i := j) (by omega)
                  obtain rfl := hrs.ad (by omega)
                  obtain rfl := hds.ad (by rw [fl_len]; omega)
                  have r0 := hrs.ci hci; have r1 := hrs.ci hcj; have rl := hrs.lt (by omega)
                  have d0 := hds.ci (fl_get D hin); have d1 := hds.ci (fl_get D hjn); have dl := hds.lt (by rw [fl_len]; omega)
                  simp only [Nat.zero_add] at d0 d1
                  have hst1 : ci = cj → D i = D j := fun e => HCO.out i j hin hjn (by rw [List.getD_eq_getElem?_getD, List.getD_eq_getElem?_getD, hci, hcj]; exact e)
                  obtain ⟨di, hdi⟩ : ∃ di, di = D i := ⟨_, rfl⟩
                  obtain ⟨dj, hdj⟩ : ∃ dj, dj = D j := ⟨_, rfl⟩
                  rw [← hdi] at d0 hst1; rw [← hdj] at d1 hst1
                  have hjI : (j : Int) < (i : Int) := by omega
                  have hjnI : (j : Int) < (m : Int) := by omega
                  clear hrs hds hci hcj hdi hdj hBy hml
                  by_cases he : ci = cj
                  · have he2 := hst1 he
                    subst he; subst he2
                    clear hst1
                    go_wp2_with fail
                    go_quiet (fail)
                    go_wp2_with fail
                    go_roundw
                    case rel => exact ⟨j + 1, by go_num, by omega, bdrew HBY.out⟩
                    case measure => simp [intOf]; omega
                  · have hb2 : (ci == cj) = false := by simp [he]
                    clear hst1 he
                    go_wp2_with fail
                    go_quiet (fail)
                    go_wp2_with fail
                    go_roundw
                    case rel => exact ⟨j + 1, by go_num, by omega, bdrew HBY.out⟩
                    case measure => simp [intOf]; omega
                · obtain rfl : i = j := by omega
                  clear hBy
                  go_wp2_with fail
                  go_roundw
                  case rel => exact ⟨i + 1, by go_num, by omega, HBY.out⟩
                  case measure => simp [intOf]; omega
            · obtain rfl : m = i := by omega
              go_wp2_with fail
              go_roundw
              case rel => exact ⟨k + 1, by go_num, by omega, HB3.out.trans (HBX.out.mono HB3.out.size)⟩
              case measure => simp [intOf]; omega
    · obtain rfl : k = 3 := by omega
      go_wp2_with fail
      refine (ALV.out _ HBR.out).mono ?_
      rintro e w9 ⟨rfl, hB, _⟩
      go_wp2
      go_ret
      exact ⟨rfl, hB⟩
end Go.Proofs.YtdhloijdefnkpaaGreatDoor

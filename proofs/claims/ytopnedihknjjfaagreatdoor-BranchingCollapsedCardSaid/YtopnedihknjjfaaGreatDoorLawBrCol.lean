/-
  law12.BranchingCollapsed.
-/
import Derived.Test.YtopnedihknjjfaaGreatDoorAlive12
namespace Go.Proofs.YtopnedihknjjfaaGreatDoor
open Go.RowKit Pl

set_option maxRecDepth 100000 in
set_option maxHeartbeats 8000000 in
theorem brCollapsed_any {w : World} {p : Addr} (hG : GErr 0 p w) (hT : ErrType w) (htab : Lib.TabIs Tryz.prog w "internal/strconv.uint64pow10" .u64 Lib.pow10Tab) {s : Lts} {a : Option Addr} {b off c : Nat} (hS : SlAt encE 3 w a b off s.es) :
    Calls Tryz.prog 3 #[.agg #[.int .i64 s.st, .int .i64 s.lb, .int .i64 s.s0, .slice a s.es.length c]] w fun e w' => e = .returned (.bool true) ∧ Below w.heap.size w w' := by
  have hB0 := (Below.refl w.heap.size w).alloc (Nat.le_refl _) (Obj.cells #[.int .i64 s.st, .int .i64 s.lb, .int .i64 s.s0, .slice a s.es.length c] 24)
  have hbx := heap_alloc_new w (Obj.cells #[.int .i64 s.st, .int .i64 s.lb, .int .i64 s.s0, .slice a s.es.length c] 24)
  have HG := Lib.hid hG; have HTY := Lib.hid hT; have HT := Lib.hid (Lib.tabBelow_of_tabIs htab); have HS := Lib.hid hS; have HB0 := Lib.hid hB0; have HBX := Lib.hid hbx
  have HSM := Lib.hid (small12_any s.s0 s.st s.lb a s.es.length c (w.alloc (Obj.cells #[.int .i64 s.st, .int .i64 s.lb, .int .i64 s.s0, .slice a s.es.length c] 24)))
  clear hG hT htab hS hB0 hbx
  have ALV : RowKit.Hid (∀ w1 : World, Below w.heap.size w w1 → Calls Tryz.prog 13 #[] w1 fun e w' => e = .returned (.bool true) ∧ Below w.heap.size w w' ∧ Below w1.heap.size w1 w') := Lib.hid (by
    intro w1 h1
    refine (alive12_any (HG.out.below h1) (HT.out _ h1)).mono ?_
    rintro e w' ⟨rfl, hB⟩
    exact ⟨rfl, h1.trans (hB.mono h1.size), hB⟩)
  by_cases hsm : (decide (s.st ≤ 40) && decide (s.es.length ≤ 250)) = true
  case neg =>
    have hsf : (decide (s.st ≤ 40) && decide (s.es.length ≤ 250)) = false := by simpa using hsm
    rw [hsf] at HSM
    clear hsm hsf
    go_enter Tryz.func3, Tryz.ntmps3
    go_wp2_with fail
    refine HSM.out.mono ?_
    rintro e w1 ⟨rfl, hB1⟩
    have HB1 := Lib.hid (HB0.out.trans (hB1.mono (by simp)))
    clear hB1
    go_wp2_with fail
    refine (ALV.out _ HB1.out).mono ?_
    rintro e w2 ⟨rfl, hB, _⟩
    go_wp2
    go_ret
    exact ⟨rfl, hB⟩
  rw [hsm] at HSM
  have hs1 : s.st ≤ 40 ∧ s.es.length ≤ 250 := by simpa using hsm
  clear hsm
  by_cases hr : s.Right
  case neg =>
    go_enter Tryz.func3, Tryz.ntmps3
    go_wp2_with fail
    refine HSM.out.mono ?_
    rintro e w1 ⟨rfl, hB1⟩
    have hb1 := HB0.out.trans (hB1.mono (by simp))
    have hx1 := (hB1.block w.heap.size (by simp)).trans HBX.out
    have HB1 := Lib.hid hb1; have HX1 := Lib.hid hx1
    have HCO := Lib.hid (collapseNo_any (c := c) hr (HG.out.below hb1) (HTY.out.below hb1) (HS.out.below hb1 (Nat.le_refl _)))
    obtain ⟨x0, x1, x2, x3, x4⟩ := sysB hx1
    clear hB1 hb1 hx1 HSM HB0 HBX
    go_wp2_with fail
    refine HCO.out.mono ?_
    rintro e w2 ⟨v, rfl, hF, hB2⟩
    obtain ⟨vi, hf1, hf2⟩ := id hF
    obtain ⟨fb, rfl, _⟩ := hf1.ex
    have hb2 := HB1.out.trans (hB2.mono HB1.out.size)
    have hx2 := (hB2.block w.heap.size x4).trans HX1.out
    have hb3 := bAlloc hb2 (.cells #[.int .i64 0, .int .i64 0, .int .i64 0, .slice none 0 0] 24)
    have hx3 := (((Below.refl w2.heap.size w2).alloc (Nat.le_refl _) (.cells #[.int .i64 0, .int .i64 0, .int .i64 0, .slice none 0 0] 24)).block w.heap.size (Array.getElem?_eq_some_iff.1 hx2).1).trans hx2
    have HB3 := Lib.hid hb3
    have HCL := Lib.hid (brClassesNo_any (c := c) hr (HG.out.below hb3) (HTY.out.below hb3) (HS.out.below hb3 (Nat.le_refl _)))
    clear x0 x1 x2 x3 x4
    obtain ⟨x0, x1, x2, x3, x4⟩ := sysB hx2
    obtain ⟨y0, y1, y2, y3, y4⟩ := sysB hx3
    clear hf1 hf2 hF hB2 hb2 hx2 hb3 hx3 HCO HB1 HX1 hr
    go_wp2_with fail
    refine HCL.out.mono ?_
    rintro e w4 ⟨fb2, rfl, hB4⟩
    have HB4 := Lib.hid (HB3.out.trans (hB4.mono HB3.out.size))
    clear hB4 HCL HB3 x0 x1 x2 x3 x4 y0 y1 y2 y3 y4
    go_wp2_with fail
    refine (ALV.out _ HB4.out).mono ?_
    rintro e w5 ⟨rfl, hB, _⟩
    have HB := Lib.hid hB
    clear hB
    go_wp2_with fail
    go_ret
    exact ⟨rfl, HB.out⟩
  case pos =>
  have hst := hr.st0
  obtain ⟨n, hn⟩ : ∃ n : Nat, s.st = (n : Int) := ⟨s.st.toNat, by omega⟩
  have hn40 : n ≤ 40 := by omega
  have HR := Lib.hid hr; have HN := Lib.hid hn; have HEL := Lib.hid hs1.2
  rw [hn] at HSM HB0 HBX ⊢
  clear hr hn hst hs1
  go_enter Tryz.func3, Tryz.ntmps3
  go_wp2_with fail
  refine HSM.out.mono ?_
  rintro e w1 ⟨rfl, hB1⟩
  have hb1 := HB0.out.trans (hB1.mono (by simp))
  have hx1 := (hB1.block w.heap.size (by simp)).trans HBX.out
  have HB1 := Lib.hid hb1; have HX1 := Lib.hid hx1
  have hco := collapseYes_any (c := c) HR.out HN.out (HG.out.below hb1) (HS.out.below hb1 (Nat.le_refl _))
  rw [HN.out] at hco
  have HCO := Lib.hid hco
  obtain ⟨x0, x1, x2, x3, x4⟩ := sysB hx1
  clear hB1 hb1 hx1 hco HSM HB0 HBX
  go_wp2_with fail
  refine HCO.out.mono ?_
  unfold ColPost
  rintro e w2 ⟨f, v, ve, hcyc, rfl, hown, howne, hB2⟩
  obtain ⟨t, ht⟩ : ∃ t, t = col s (fl n (clf n f)) := ⟨_, rfl⟩
  obtain ⟨m, hm⟩ : ∃ m, m = (dist (fl n f)).length := ⟨_, rfl⟩
  have htst : t.st = (m : Int) := by rw [ht, hm]; exact col_st s n f
  rw [← ht] at howne ⊢
  obtain ⟨ca, cc, cb, rfl, _, _, hcs, _⟩ := slAt_own (xs := fl n (clf n f)) lenI (by rw [fl_len]; exact hown)
  obtain ⟨ea, ec, eb, rfl, _, _, hes, _⟩ := slAt_own lenE howne
  rw [fl_len]
  have hmn : m ≤ n := by rw [hm]; have := dist_len (fl n f); rw [fl_len] at this; exact this
  have htr : t.Right := by rw [ht]; exact col_right HR.out HN.out
  have htl : t.es.length ≤ 900 := by
    rw [ht]
    have h1 := colE_len (fl n (clf n f)) s.es
    have h2 := length_nf (lt := ltE) (colE (fl n (clf n f)) s.es)
    have h3 := HEL.out
    show (nf ltE (colE (fl n (clf n f)) s.es)).length ≤ 900
    omega
  rw [htst]
  have hb2 := HB1.out.trans (hB2.mono HB1.out.size)
  have hx2 := (hB2.block w.heap.size x4).trans HX1.out
  have hBe := (Below.refl w2.heap.size w2).alloc (Nat.le_refl _) (Obj.cells #[.int .i64 m, .int .i64 t.lb, .int .i64 t.s0, .slice ea t.es.length ec] 24)
  have hb3 := hb2.trans (hBe.mono hb2.size)
  have HX3 := Lib.hid ((hBe.block w.heap.size (Array.getElem?_eq_some_iff.1 hx2).1).trans hx2)
  have HU3 := Lib.hid (heap_alloc_new w2 (Obj.cells #[.int .i64 m, .int .i64 t.lb, .int .i64 t.s0, .slice ea t.es.length ec] 24))
  have HES := Lib.hid (hes.below hBe (Nat.le_refl _)); have HCS := Lib.hid (hcs.below hBe (Nat.le_refl _)); have HB3 := Lib.hid hb3
  have hcl := brClasses_any (c := c) HR.out HN.out (by have := HEL.out; omega) (HG.out.below hb3) (HT.out _ hb3) (HS.out.below hb3 (Nat.le_refl _))
  rw [HN.out] at hcl
  have HCL := Lib.hid hcl
  have HTR := Lib.hid htr; have HTL := Lib.hid htl; have HTST := Lib.hid htst
  have HCOL : RowKit.Hid (∀ R R', BrRes s n R → BrRes t m R' → ∃ C C', R = fl n C ∧ R' = fl m C' ∧ ∀ x y, x < n → y < n → (C x = C y ↔ C' (asF n f x) = C' (asF n f y))) := Lib.hid (fun R R' h1 h2 => by
    rw [ht, hm] at h2
    rw [hm]
    exact h1.col HR.out HN.out hcyc h2)
  have HAS : RowKit.Hid (∀ x, x < n → clf n f x = (asF n f x : Int) ∧ asF n f x < m) := Lib.hid (fun x hx => ⟨asF_eq hx, by rw [hm]; exact asF_lt hx⟩)
  clear hown howne hcs hes hB2 ht hm htst htr htl hb2 hx2 hBe hb3 hcl hcyc x0 x1 x2 x3 x4 HCO HB1 HX1
  go_upto_region 4 with fail
  obtain ⟨W3, hW3⟩ : ∃ W3, W3 = w2.alloc (Obj.cells #[.int .i64 m, .int .i64 t.lb, .int .i64 t.s0, .slice ea t.es.length ec] 24) := ⟨_, rfl⟩
  obtain ⟨tb, htb⟩ : ∃ tb, tb = w2.heap.size := ⟨_, rfl⟩
  rw [← hW3] at HX3 HU3 HES HCS HB3 HCL ⊢
  rw [← htb] at HU3 ⊢
  clear hW3 htb
  obtain ⟨x0, x1, x2, x3, x4⟩ := sysB HX3.out
  obtain ⟨y0, y1, y2, y3, y4⟩ := sysB HU3.out
  go_wp2_with fail
  refine HCL.out.mono ?_
  unfold BrPost
  rintro e w4 ⟨R, ra, rb, rc, hres, rfl, _, hrs, hB4⟩
  have hb4 := HB3.out.trans (hB4.mono HB3.out.size)
  have HX4 := Lib.hid ((hB4.block w.heap.size x4).trans HX3.out)
  have HU4 := Lib.hid ((hB4.block tb y4).trans HU3.out)
  have hct := brClasses_any (c := ec) HTR.out HTST.out HTL.out (HG.out.below hb4) (HT.out _ hb4) (HES.out.below hB4 (Nat.le_refl _))
  rw [HTST.out] at hct
  have HCT := Lib.hid hct; have HCS4 := Lib.hid (HCS.out.below hB4 (Nat.le_refl _)); have HB4 := Lib.hid hb4; have HRES := Lib.hid hres; have HRS4 := Lib.hid hrs
  clear x0 x1 x2 x3 x4 y0 y1 y2 y3 y4
  obtain ⟨x0, x1, x2, x3, x4⟩ := sysB HX4.out
  obtain ⟨y0, y1, y2, y3, y4⟩ := sysB HU4.out
  clear hres hrs hB4 hb4 hct HX3 HU3 HES HCS HB3 HCL
  go_wp2_with fail
  refine HCT.out.mono ?_
  unfold BrPost
  rintro e w5 ⟨R', da, db, dc, hres', rfl, _, hds, hB5⟩
  obtain ⟨C, C', rfl, rfl, hiff⟩ := HCOL.out R R' HRES.out hres'
  have hb5 := HB4.out.trans (hB5.mono HB4.out.size)
  have HX5 := Lib.hid ((hB5.block w.heap.size x4).trans HX4.out)
  have HU5 := Lib.hid ((hB5.block tb y4).trans HU4.out)
  have HCS5 := Lib.hid (HCS4.out.below hB5 (Nat.le_refl _)); have HB5 := Lib.hid hb5; have HRS5 := Lib.hid (HRS4.out.below hB5 (Nat.le_refl _)); have HDS5 := Lib.hid hds; have HIFF := Lib.hid hiff
  clear x0 x1 x2 x3 x4 y0 y1 y2 y3 y4
  obtain ⟨x0, x1, x2, x3, x4⟩ := sysB HX5.out
  obtain ⟨y0, y1, y2, y3, y4⟩ := sysB HU5.out
  clear hres' hds hB5 hb5 hiff HX4 HU4 HCS4 HB4 HRS4 HCT HRES HCOL
  go_wp2_with fail
  clear x0 x1 x2 x3 x4 y0 y1 y2 y3 y4
  go_loopw [10, 11] (fun v10 _ wr => ∃ i : Nat, v10 = .int .i64 i ∧ i ≤ n ∧ Below w5.heap.size w5 wr) (fun v10 _ _ => n - (intOf v10).toNat)
  case atStart => exact ⟨0, rfl, Nat.zero_le _, Below.refl _ _⟩
  case round =>
    obtain ⟨i, rfl, hi, hBx⟩ := hrel
    have HBX := Lib.hid hBx
    have hxo := (hBx.block w.heap.size (Array.getElem?_eq_some_iff.1 HX5.out).1).trans HX5.out
    obtain ⟨x0, x1, x2, x3, x4⟩ := sysB hxo
    clear hBx hxo x1 x2 x3
    by_cases hin : i < n
    · have hiI : (i : Int) < (n : Int) := by omega
      go_wp2_with fail
      clear x0 x4
      go_loopw [11] (fun v11 wy => ∃ j : Nat, v11 = .int .i64 j ∧ j ≤ i ∧ Below w5.heap.size w5 wy) (fun v11 _ => i - (intOf v11).toNat)
      case atStart => exact ⟨0, rfl, Nat.zero_le _, HBX.out⟩
      case round =>
        obtain ⟨j, rfl, hj, hBy⟩ := hrel
        have HBY := Lib.hid hBy
        by_cases hji : j < i
        · have hjn : j < n := by omega
          have hrs := HRS5.out.below hBy (Nat.le_refl _)
          have hds := HDS5.out.below hBy (Nat.le_refl _)
          have hcs := HCS5.out.below hBy (Nat.le_refl _)
          obtain rfl := hrs.ad (by rw [fl_len]; omega)
          obtain rfl := hcs.ad (by rw [fl_len]; omega)
          have hai := HAS.out i hin
          have haj := HAS.out j hjn
          obtain rfl := hds.ad (by rw [fl_len]; omega)
          have r0 := hrs.ci (fl_get C hin); have r1 := hrs.ci (fl_get C hjn); have rl := hrs.lt (by rw [fl_len]; omega)
          have a0 := hcs.ci (fl_get (clf n f) hin); have a1 := hcs.ci (fl_get (clf n f) hjn); have al := hcs.lt (by rw [fl_len]; omega)
          have d0 := hds.ci (fl_get C' hai.2); have d1 := hds.ci (fl_get C' haj.2); have dl := hds.lt (by rw [fl_len]; omega)
          rw [hai.1] at a0; rw [haj.1] at a1
          have hif := HIFF.out i j hin hjn
          simp only [Nat.zero_add] at r0 r1 a0 a1 d0 d1
          have hm0 := hai.2; have hm1 := haj.2
          obtain ⟨ai, hai'⟩ : ∃ ai, ai = asF n f i := ⟨_, rfl⟩
          obtain ⟨aj, haj'⟩ : ∃ aj, aj = asF n f j := ⟨_, rfl⟩
          rw [← hai'] at a0 d0 hif hm0; rw [← haj'] at a1 d1 hif hm1
          obtain ⟨ci, hci⟩ : ∃ ci, ci = C i := ⟨_, rfl⟩
          obtain ⟨cj, hcj⟩ : ∃ cj, cj = C j := ⟨_, rfl⟩
          obtain ⟨di, hdi⟩ : ∃ di, di = C' ai := ⟨_, rfl⟩
          obtain ⟨dj, hdj⟩ : ∃ dj, dj = C' aj := ⟨_, rfl⟩
          rw [← hci] at r0 hif; rw [← hcj] at r1 hif; rw [← hdi] at d0 hif; rw [← hdj] at d1 hif
          have hjI : (j : Int) < (i : Int) := by omega
          have hjnI : (j : Int) < (n : Int) := by omega
          have h0I : (ai : Int) < (m : Int) := by omega
          have h1I : (aj : Int) < (m : Int) := by omega
          clear hrs hds hcs hai haj hai' haj' hci hcj hdi hdj hBy
          by_cases he : ci = cj
          · have he2 := hif.1 he
            subst he; subst he2
            clear hif
            go_wp2_with fail
            go_quiet (fail)
            go_wp2_with fail
            go_roundw
            case rel => exact ⟨j + 1, by go_num, by omega, bdrew HBY.out⟩
            case measure => simp [intOf]; omega
          · have he2 : ¬ di = dj := fun h => he (hif.2 h)
            have hb1 : (ci == cj) = false := by simp [he]
            have hb2 : (di == dj) = false := by simp [he2]
            clear hif he he2
            go_wp2_with fail
            go_quiet (fail)
            go_wp2_with fail
            go_roundw
            case rel => exact ⟨j + 1, by go_num, by omega, bdrew HBY.out⟩
            case measure => simp [intOf]; omega
        · obtain rfl : i = j := by omega
          clear hBy
          go_wp2_with fail
          go_roundw
          case rel => exact ⟨i + 1, by go_num, by omega, HBY.out⟩
          case measure => simp [intOf]; omega
    · obtain rfl : n = i := by omega
      go_wp2_with fail
      refine (ALV.out _ (HB5.out.trans (HBX.out.mono HB5.out.size))).mono ?_
      rintro e w9 ⟨rfl, hB, _⟩
      go_wp2
      go_ret
      exact ⟨rfl, hB⟩
end Go.Proofs.YtopnedihknjjfaaGreatDoor

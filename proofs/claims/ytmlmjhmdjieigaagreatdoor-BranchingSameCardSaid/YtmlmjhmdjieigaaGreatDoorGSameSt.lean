/-
  semblancebook.SameSteps.
  law12.BranchingSame.
-/
import Derived.Test.YtmlmjhmdjieigaaGreatDoorGGraphA
import Derived.Test.YtmlmjhmdjieigaaGreatDoorCompactS
import Derived.Test.YtmlmjhmdjieigaaGreatDoorGMem
import Derived.Deep.RegionHeld3
import Derived.Deep.Cut
import Derived.Deep.CutRange
import Derived.Deep.QuietTactic
import Derived.BigQuiet
import Derived.IntWalk
import Derived.Deep.DeepMust
import Derived.Test.YtmlmjhmdjieigaaGreatDoorGAlive12
import Derived.Test.YtmlmjhmdjieigaaGreatDoorBrH
namespace Go.Proofs.YtmlmjhmdjieigaaGreatDoor
open Go.RowKit Pl

theorem eq_uptoSt {α : Type} {xs ys : List α} (hl : xs.length = ys.length) (h : ∀ j, j < xs.length → xs[j]? = ys[j]?) : xs = ys := by
  apply List.ext_getElem?
  intro j
  by_cases hj : j < xs.length
  · exact h j hj
  · rw [List.getElem?_eq_none (by omega), List.getElem?_eq_none (by omega)]

set_option maxRecDepth 100000 in
theorem sameSteps_any {a1 a2 : Option Addr} {b1 o1 c1 b2 o2 c2 : Nat} {xs ys : List S} {w : World} (h1 : SlAt encS 2 w a1 b1 o1 xs) (h2 : SlAt encS 2 w a2 b2 o2 ys) (hx : xs.length ≤ 1000000) (hy : ys.length ≤ 1000000) :
    Calls Tryz.prog 11 #[.slice a1 xs.length c1, .slice a2 ys.length c2] w fun e w' => e = .returned (.bool (decide (xs = ys))) ∧ ∃ n, w' = w.drewN n := by
  by_cases hl : xs.length = ys.length
  · have hlB : ((xs.length : Int) != (ys.length : Int)) = false := by simp [hl]
    have HL := Lib.hid hl; clear hl
    go_enter Tryz.func11, Tryz.ntmps11
    go_wp2
    go_loopw [5] (fun i wr => ∃ k m : Nat, k ≤ xs.length ∧ i = .int .i64 k ∧ (∀ j, j < k → xs[j]? = ys[j]?) ∧ wr = w.drewN m)
      (fun i _ => xs.length - (intOf i).toNat)
    case atStart => exact ⟨0, 0, Nat.zero_le _, rfl, by intro j hj; omega, rfl⟩
    case round =>
      obtain ⟨k, m, hk, rfl, heq, rfl⟩ := hrel
      have HE := Lib.hid heq; clear heq
      by_cases hlt : k < xs.length
      · have hlt2 : k < ys.length := by rw [← HL.out]; exact hlt
        obtain ⟨x, hxk⟩ := getElem?_of_lt hlt
        obtain ⟨y, hyk⟩ := getElem?_of_lt hlt2
        obtain rfl := h1.ad (by omega)
        obtain rfl := h2.ad (by omega)
        have c0 := h1.s0 hxk; have c1' := h1.s1 hxk
        have d0 := h2.s0 hyk; have d1 := h2.s1 hyk
        have hq := fun w => eqlS x y w
        have hgd := guardS
        have hi1 : (k : Int) < (xs.length : Int) := by omega
        have hi2 : (k : Int) < (ys.length : Int) := by omega
        have HX := Lib.hid hxk; have HY := Lib.hid hyk
        clear h1 h2 hxk hyk
        by_cases hxy : x = y
        · have hb : decide (x = y) = true := by simp [hxy]
          have HXY := Lib.hid hxy; clear hxy
          go_wp2_with fail
          go_quiet (fail)
          go_wp2
          go_roundw
          case rel => exact ⟨k + 1, _, by omega, by go_num, by
            intro j hj
            by_cases hjk : j = k
            · subst hjk; rw [HX.out, HY.out, HXY.out]
            · exact HE.out j (by omega), rfl⟩
          case measure => simp [intOf]; omega
        · have hb : decide (x = y) = false := by simp [hxy]
          have HXY := Lib.hid hxy; clear hxy
          go_wp2_with fail
          go_quiet (fail)
          go_wp2
          go_ret
          refine ⟨?_, _, World.drewN_drewN _ _ _⟩
          have : xs ≠ ys := fun e => HXY.out (by have h1 := HX.out; have h2 := HY.out; rw [e, h2] at h1; simpa using h1.symm)
          simp [this]
      · clear h1 h2
        have hkk : k = xs.length := by omega
        go_wp2
        go_ret
        refine ⟨?_, _, rfl⟩
        have : xs = ys := eq_uptoSt HL.out (by rw [← hkk]; exact HE.out)
        simp [this]
  · have hlB : ((xs.length : Int) != (ys.length : Int)) = true := by simp; omega
    go_enter Tryz.func11, Tryz.ntmps11
    go_wp2
    go_ret
    have : xs ≠ ys := fun e => hl (by rw [e])
    exact ⟨by simp [this], 0, rfl⟩
end Go.Proofs.YtmlmjhmdjieigaaGreatDoor

namespace Go.Proofs.YtmlmjhmdjieigaaGreatDoor
open Go.RowKit Pl
namespace Pl
theorem big_norm {s : Lts} {n : Nat} {C : Nat → Int} (h : BrBig s n C) : BrBig s.norm n C where
  still := by
    have key : ∀ p l c, Sg s.norm C p l c ↔ Sg s C p l c := fun p l c => by
      constructor
      · intro h
        induction h with
        | here h1 h2 => exact .here (stp_normO.1 h1) h2
        | on h1 h2 _ ih => exact .on (stp_normO.1 h1) h2 ih
      · intro h
        induction h with
        | here h1 h2 => exact .here (stp_normO.2 h1) h2
        | on h1 h2 _ ih => exact .on (stp_normO.2 h1) h2 ih
    intro p q hp hq hc l c hs
    exact (key q l c).2 (h.still p q hp hq hc l c ((key p l c).1 hs))
  all := by
    intro R hR p q hp hq hpq
    have hv : ∀ {X : Nat → Prop} {x y}, Via s.norm X x y → Via s X x y := fun h => by
      induction h with
      | refl h => exact .refl h
      | tail _ h1 h2 ih => exact .tail ih (stp_normO.1 h1) h2
    refine h.all R ⟨fun a b ha hb hab l a' ha' hst => ?_, fun a b ha hb hab l b' hb' hst => ?_⟩ p q hp hq hpq
    · rcases hR.fwd a b ha hb hab l a' ha' (stp_normO.2 hst) with h1 | ⟨q0, q', h1, h2, h3, h4⟩
      · exact .inl h1
      · exact .inr ⟨q0, q', hv h1, h2, stp_normO.1 h3, h4⟩
    · rcases hR.bwd a b ha hb hab l b' hb' (stp_normO.2 hst) with h1 | ⟨q0, q', h1, h2, h3, h4⟩
      · exact .inl h1
      · exact .inr ⟨q0, q', hv h1, h2, stp_normO.1 h3, h4⟩
end Pl

set_option maxRecDepth 100000 in
set_option maxHeartbeats 8000000 in
theorem brSame_any {w : World} {p : Addr} (hG : GErr 10 p w) (hT : ErrType w) (htab : Lib.TabIs Tryz.prog w "internal/strconv.uint64pow10" .u64 Lib.pow10Tab) {s : Lts} {a : Option Addr} {b off c : Nat} (hS : SlAt encE 3 w a b off s.es) :
    Calls Tryz.prog 3 #[.agg #[.int .i64 s.st, .int .i64 s.lb, .int .i64 s.s0, .slice a s.es.length c]] w fun e w' => e = .returned (.bool true) ∧ Below w.heap.size w w' := by
  have hB0 := (Below.refl w.heap.size w).alloc (Nat.le_refl _) (Obj.cells #[.int .i64 s.st, .int .i64 s.lb, .int .i64 s.s0, .slice a s.es.length c] 24)
  have hbx := heap_alloc_new w (Obj.cells #[.int .i64 s.st, .int .i64 s.lb, .int .i64 s.s0, .slice a s.es.length c] 24)
  have HG := Lib.hid hG; have HTY := Lib.hid hT; have HT := Lib.hid (Lib.tabBelow_of_tabIs htab); have HS := Lib.hid hS; have HB0 := Lib.hid hB0; have HBX := Lib.hid hbx
  have HSM := Lib.hid (small12_any s.s0 s.st s.lb a s.es.length c (w.alloc (Obj.cells #[.int .i64 s.st, .int .i64 s.lb, .int .i64 s.s0, .slice a s.es.length c] 24)))
  clear hG hT htab hS hB0 hbx
  have ALV : RowKit.Hid (∀ w1 : World, Below w.heap.size w w1 → Calls Tryz.prog 8 #[] w1 fun e w' => e = .returned (.bool true) ∧ Below w.heap.size w w' ∧ Below w1.heap.size w1 w') := Lib.hid (by
    intro w1 h1
    refine (alive12_any (HG.out.below h1) (HT.out _ h1)).mono ?_
    rintro e w' ⟨rfl, hB⟩
    exact ⟨rfl, h1.trans (hB.mono h1.size), hB⟩)
  by_cases hsm : (decide (s.st ≤ 40) && decide (s.es.length ≤ 250)) = true
  case neg =>
    have hsf : (decide (s.st ≤ 40) && decide (s.es.length ≤ 250)) = false := by simpa using hsm
    rw [hsf] at HSM
    clear hsm hsf
    go_enter Tryz.func3, Tryz.ntmps3
    go_wp2_with fail
    refine HSM.out.mono ?_
    rintro e w1 ⟨rfl, hB1⟩
    have HB1 := Lib.hid (HB0.out.trans (hB1.mono (by simp)))
    clear hB1
    go_wp2_with fail
    refine (ALV.out _ HB1.out).mono ?_
    rintro e w2 ⟨rfl, hB, _⟩
    go_wp2
    go_ret
    exact ⟨rfl, hB⟩
  rw [hsm] at HSM
  have hs1 : s.st ≤ 40 ∧ s.es.length ≤ 250 := by simpa using hsm
  clear hsm
  by_cases hr : s.Right
  case neg =>
    go_enter Tryz.func3, Tryz.ntmps3
    go_wp2_with fail
    refine HSM.out.mono ?_
    rintro e w1 ⟨rfl, hB1⟩
    have hb1 := HB0.out.trans (hB1.mono (by simp))
    have hx1 := (hB1.block w.heap.size (by simp)).trans HBX.out
    have HB1 := Lib.hid hb1; have HX1 := Lib.hid hx1
    have HCO := Lib.hid (brClassesNo_any (c := c) hr (HG.out.below hb1) (HTY.out.below hb1) (HS.out.below hb1 (Nat.le_refl _)))
    obtain ⟨x0, x1, x2, x3, x4⟩ := sysB hx1
    clear hB1 hb1 hx1 HSM HB0 HBX
    go_wp2_with fail
    refine HCO.out.mono ?_
    rintro e w2 ⟨fb, rfl, hB2⟩
    have hb2 := HB1.out.trans (hB2.mono HB1.out.size)
    have hx2 := (hB2.block w.heap.size x4).trans HX1.out
    have HB2 := Lib.hid hb2
    clear hB2 hb2 hx2 HCO HB1 HX1 hr x0 x1 x2 x3 x4
    go_wp2_with fail
    refine (ALV.out _ HB2.out).mono ?_
    rintro e w5 ⟨rfl, hB, _⟩
    have HB := Lib.hid hB
    clear hB
    go_wp2_with fail
    go_ret
    exact ⟨rfl, HB.out⟩
  case pos =>
  have hst := hr.st0
  obtain ⟨n, hn⟩ : ∃ n : Nat, s.st = (n : Int) := ⟨s.st.toNat, by omega⟩
  have hn40 : n ≤ 40 := by omega
  have HR := Lib.hid hr; have HN := Lib.hid hn; have HEL := Lib.hid hs1.2
  rw [hn] at HSM HB0 HBX ⊢
  clear hr hn hst hs1
  go_enter Tryz.func3, Tryz.ntmps3
  go_wp2_with fail
  refine HSM.out.mono ?_
  rintro e w1 ⟨rfl, hB1⟩
  have hb1 := HB0.out.trans (hB1.mono (by simp))
  have hx1 := (hB1.block w.heap.size (by simp)).trans HBX.out
  have HB1 := Lib.hid hb1; have HX1 := Lib.hid hx1
  have hcl := brClasses_any (c := c) HR.out HN.out (by have := HEL.out; omega) (HG.out.below hb1) (HT.out _ hb1) (HS.out.below hb1 (Nat.le_refl _))
  rw [HN.out] at hcl
  have HCL := Lib.hid hcl
  obtain ⟨x0, x1, x2, x3, x4⟩ := sysB hx1
  clear hB1 hb1 hx1 hcl HSM HB0 HBX
  go_wp2_with fail
  refine HCL.out.mono ?_
  unfold BrPost
  rintro e w2 ⟨R, ra, rb, rc, hres, rfl, _, hrs, hB2⟩
  obtain ⟨C, hbig, rfl, hcan, hrng⟩ := hres.big HR.out HN.out
  have hb2 := HB1.out.trans (hB2.mono HB1.out.size)
  have hx2 := (hB2.block w.heap.size x4).trans HX1.out
  have hwf : ∀ x ∈ fl n C, (Lit.int .i64 x).wf = true := fun x hx => by
    obtain ⟨j, hj, rfl⟩ := List.mem_map.1 hx
    have := hrng j (List.mem_range.1 hj)
    exact WalkArith.wf_i64 (by omega)
  have hst2 := stepsB_any (c := c) (cc := rc) HR.out HN.out (by have := HEL.out; omega) (HG.out.below hb2) (HS.out.below hb2 (Nat.le_refl _)) hrs (by unfold clB; rw [hcan, fl_len]; simp) hwf
  rw [HN.out] at hst2
  have HST := Lib.hid hst2; have HB2 := Lib.hid hb2; have HX2 := Lib.hid hx2; have HRS := Lib.hid hrs; have HBG := Lib.hid hbig; have HCR := Lib.hid hrng
  clear x0 x1 x2 x3 x4
  obtain ⟨x0, x1, x2, x3, x4⟩ := sysB hx2
  clear hres hrs hbig hB2 hb2 hx2 hcan hrng hwf hst2 HB1 HX1 HCL
  go_wp2_with fail
  refine HST.out.mono ?_
  rintro e w3 ⟨tb, base, F, rfl, hrows, htb, hbs, hB3, hF⟩
  have hb3 := HB2.out.trans (hB3.mono HB2.out.size)
  have hx3 := (hB3.block w.heap.size x4).trans HX2.out
  have HB3 := Lib.hid hb3; have HX3 := Lib.hid hx3; have HRW := Lib.hid hrows; have HRS3 := Lib.hid (HRS.out.below hB3 (Nat.le_refl _))
  have HEQ : RowKit.Hid (∀ p q, p < n → q < n → (C p = C q ↔ F p = F q)) := Lib.hid (fun p q hp hq => same_iff HR.out.norm HN.out (big_norm HBG.out) hp hq (hF p hp) (hF q hq))
  have HFL : RowKit.Hid (∀ p, p < n → (F p).length ≤ 250) := Lib.hid (fun p hp => Nat.le_trans (hF p hp).len (Nat.le_trans (length_nf s.es) (by have := HEL.out; omega)))
  clear x0 x1 x2 x3 x4
  obtain ⟨x0, x1, x2, x3, x4⟩ := sysB hx3
  have hnn : ((n : Int) != (n : Int)) = false := by simp
  clear hB3 hb3 hx3 hrows hF HST HB2 HX2 HRS HBG x1 x2 x3
  go_wp2_with fail
  go_loopw [7, 8] (fun v7 _ wx => ∃ i : Nat, v7 = .int .i64 i ∧ i ≤ n ∧ Below w3.heap.size w3 wx) (fun v7 _ _ => n - (intOf v7).toNat)
  case atStart => exact ⟨0, rfl, Nat.zero_le _, Below.refl _ _⟩
  case round =>
    obtain ⟨i, rfl, hi, hBx⟩ := hrel
    have HBX := Lib.hid hBx
    have hwx := hBx.size
    have y0 : wr.cell? ⟨w.heap.size, 0, none⟩ = some (.int .i64 (n : Int)) := by
      rw [World.cell?_of_block (w := w3) (a := ⟨w.heap.size, 0, none⟩) (hBx.block _ x4)]; exact x0
    have y4 : w.heap.size < wr.heap.size := by omega
    clear hBx
    by_cases hin : i < n
    · have hinI : (i : Int) < (n : Int) := by omega
      go_wp2_with fail
      go_loopw [8] (fun v8 wx => ∃ j : Nat, v8 = .int .i64 j ∧ j ≤ i ∧ Below w3.heap.size w3 wx) (fun v8 _ => i - (intOf v8).toNat)
      case atStart => exact ⟨0, rfl, Nat.zero_le _, HBX.out⟩
      case round =>
        obtain ⟨j, rfl, hj, hBy⟩ := hrel
        have HBY := Lib.hid hBy
        have hwy := hBy.size
        clear hBy HBX
        by_cases hji : j < i
        · have hjI : (j : Int) < (i : Int) := by omega
          have hjn : j < n := by omega
          have hjnI : (j : Int) < (n : Int) := by omega
          have KEEP : RowKit.Hid (∀ V, Below w3.heap.size w3 V → V.cell? ⟨rb, i, none⟩ = some (.int .i64 (C i)) ∧ V.cell? ⟨rb, j, none⟩ = some (.int .i64 (C j)) ∧ rb < V.heap.size ∧ tb < V.heap.size) := Lib.hid (fun V hV => by
            have h1 := HRS3.out.below hV (Nat.le_refl _)
            have h2 := h1.ci (fl_get C hin); have h3 := h1.ci (fl_get C hjn)
            simp only [Nat.zero_add] at h2 h3
            exact ⟨h2, h3, h1.lt (by rw [fl_len]; omega), (HRW.out.call hV).size⟩)
          obtain rfl := HRS3.out.ad (by rw [fl_len]; omega)
          obtain ⟨vi, hvi, _, hoi⟩ := HRW.out.at hin
          obtain ⟨vj, hvj, _, hoj⟩ := HRW.out.at hjn
          obtain ⟨ia, ic, ib, rfl, _, _, his, _⟩ := slAt_own lenS hoi
          obtain ⟨ja, jc, jb, rfl, _, _, hjs, _⟩ := slAt_own lenS hoj
          have HVI := Lib.hid hvi; have HVJ := Lib.hid hvj
          have htbl := HRW.out.size
          have KEEP2 : RowKit.Hid (∀ V, Below w3.heap.size w3 V → V.cell? ⟨tb, i, none⟩ = some (.slice ia (F i).length ic) ∧ V.cell? ⟨tb, j, none⟩ = some (.slice ja (F j).length jc)) := Lib.hid (fun V hV => by
            constructor
            · rw [World.cell?_of_block (w := w3) (a := ⟨tb, i, none⟩) (hV.block _ htbl)]; exact HVI.out
            · rw [World.cell?_of_block (w := w3) (a := ⟨tb, j, none⟩) (hV.block _ htbl)]; exact HVJ.out)
          have hl1 := HFL.out i hin; have hl2 := HFL.out j hjn
          obtain ⟨bt, hbt⟩ : ∃ bt, bt = decide (F i = F j) := ⟨_, rfl⟩
          have hcb : (C i == C j) = bt := by
            rw [hbt]
            have := HEQ.out i j hin hjn
            by_cases h : C i = C j
            · rw [decide_eq_true (this.1 h)]; simp [h]
            · rw [decide_eq_false (fun e => h (this.2 e))]; simp [h]
          have CA : RowKit.Hid (∀ V, Below w3.heap.size w3 V → Calls Tryz.prog 11 #[.slice ia (F i).length ic, .slice ja (F j).length jc] V fun e w' => e = .returned (.bool bt) ∧ Below w3.heap.size w3 w') := Lib.hid (fun V hV => (sameSteps_any (c1 := ic) (c2 := jc) (his.below hV (Nat.le_refl _)) (hjs.below hV (Nat.le_refl _)) (by omega) (by omega)).mono (by
            rintro e w' ⟨rfl, m, rfl⟩
            exact ⟨by rw [hbt], bdrew hV⟩))
          obtain ⟨li, hli⟩ : ∃ li, li = (F i).length := ⟨_, rfl⟩
          obtain ⟨lj, hlj⟩ : ∃ lj, lj = (F j).length := ⟨_, rfl⟩
          rw [← hli, ← hlj] at CA KEEP2
          obtain ⟨ci, hci⟩ : ∃ ci, ci = C i := ⟨_, rfl⟩
          obtain ⟨cj, hcj⟩ : ∃ cj, cj = C j := ⟨_, rfl⟩
          rw [← hci, ← hcj] at hcb KEEP
          have hbb : (bt != bt) = false := by simp
          have B0 := Lib.hid (HBY.out.trans ((Below.refl wr.heap.size wr).drew.mono hwy))
          obtain ⟨k1, k2, k3, k4⟩ := KEEP.out _ B0.out
          obtain ⟨k5, k6⟩ := KEEP2.out _ B0.out
          clear hvi hvj hoi hoj his hjs hbt hli hlj hci hcj hl1 hl2 HVI HVJ
          go_wp2_with fail
          go_region_with (first
            | (go_at_call 11; refine (CA.out _ B0.out).mono ?_; rintro e V ⟨rfl, hB2⟩; obtain ⟨k1', k2', k3', k4'⟩ := KEEP.out _ hB2; obtain ⟨k5', k6'⟩ := KEEP2.out _ hB2))
          all_goals
            have HB2 := Lib.hid hB2
            clear hB2 k1' k2' k3' k4' k5' k6'
            go_wp2_with fail
            go_roundw
            case rel => exact ⟨j + 1, by go_num, by omega, HB2.out⟩
            case measure => simp [intOf]; omega
        · obtain rfl : j = i := by omega
          go_wp2_with fail
          go_roundw
          case rel => exact ⟨j + 1, by go_num, by omega, HBY.out⟩
          case measure => simp [intOf]; omega
    · obtain rfl : i = n := by omega
      have HB9 := Lib.hid (HB3.out.trans (HBX.out.mono HB3.out.size))
      go_wp2_with fail
      refine (ALV.out _ HB9.out).mono ?_
      rintro e w9 ⟨rfl, hB, _⟩
      have HB := Lib.hid hB
      clear hB
      go_wp2_with fail
      go_ret
      exact ⟨rfl, HB.out⟩
end Go.Proofs.YtmlmjhmdjieigaaGreatDoor

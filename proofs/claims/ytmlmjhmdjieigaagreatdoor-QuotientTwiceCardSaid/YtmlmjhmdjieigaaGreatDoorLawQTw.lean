/-
  law14.QuotientTwice.
-/
import Derived.Test.YtmlmjhmdjieigaaGreatDoorGQuoY
import Derived.Test.YtmlmjhmdjieigaaGreatDoorSameSys
namespace Go.Proofs.YtmlmjhmdjieigaaGreatDoor
open Go.RowKit Pl

theorem eqv_refl {s : Lts} {n p : Nat} : Eqv s n p s n p :=
  ⟨fun a b => a = b, ⟨fun a b _ _ e l a' ha' hs => ⟨a', ha', by rw [← e]; exact hs, rfl⟩, fun a b _ _ e l b' hb' hs => ⟨b', hb', by rw [e]; exact hs, rfl⟩⟩, rfl⟩

set_option maxRecDepth 100000 in
set_option maxHeartbeats 8000000 in
theorem quoTwice_any {w : World} {p : Addr} (hG : GErr 10 p w) (hT : ErrType w) (htab : Lib.TabIs Tryz.prog w "internal/strconv.uint64pow10" .u64 Lib.pow10Tab) {s : Lts} {a : Option Addr} {b off c : Nat} (hS : SlAt encE 3 w a b off s.es) (kind : Bool) :
    Calls Tryz.prog 5 #[.agg #[.int .i64 s.st, .int .i64 s.lb, .int .i64 s.s0, .slice a s.es.length c], .bool kind] w fun e w' => e = .returned (.bool true) ∧ Below w.heap.size w w' := by
  have hB0 := (Below.refl w.heap.size w).alloc (Nat.le_refl _) (Obj.cells #[.int .i64 s.st, .int .i64 s.lb, .int .i64 s.s0, .slice a s.es.length c] 24)
  have hbx := heap_alloc_new w (Obj.cells #[.int .i64 s.st, .int .i64 s.lb, .int .i64 s.s0, .slice a s.es.length c] 24)
  have HG := Lib.hid hG; have HTY := Lib.hid hT; have HT := Lib.hid (Lib.tabBelow_of_tabIs htab); have HS := Lib.hid hS; have HB0 := Lib.hid hB0; have HBX := Lib.hid hbx
  have HSM := Lib.hid (small14_any s.s0 s.st s.lb a s.es.length c (w.alloc (Obj.cells #[.int .i64 s.st, .int .i64 s.lb, .int .i64 s.s0, .slice a s.es.length c] 24)))
  clear hG hT htab hS hB0 hbx
  have ALV : RowKit.Hid (∀ w1 : World, Below w.heap.size w w1 → Calls Tryz.prog 13 #[] w1 fun e w' => e = .returned (.bool true) ∧ Below w.heap.size w w' ∧ Below w1.heap.size w1 w') := Lib.hid (by
    intro w1 h1
    refine (alive14_any (HG.out.below h1)).mono ?_
    rintro e w' ⟨rfl, hB⟩
    exact ⟨rfl, h1.trans (hB.mono h1.size), hB⟩)
  by_cases hsm : (decide (s.st ≤ 40) && decide (s.es.length ≤ 250)) = true
  case neg =>
    have hsf : (decide (s.st ≤ 40) && decide (s.es.length ≤ 250)) = false := by simpa using hsm
    rw [hsf] at HSM
    clear hsm hsf
    go_enter Tryz.func5, Tryz.ntmps5
    go_wp2_with fail
    refine HSM.out.mono ?_
    rintro e w1 ⟨rfl, hB1⟩
    have HB1 := Lib.hid (HB0.out.trans (hB1.mono (by simp)))
    clear hB1
    go_wp2_with fail
    refine (ALV.out _ HB1.out).mono ?_
    rintro e w2 ⟨rfl, hB, _⟩
    go_wp2
    go_ret
    exact ⟨rfl, hB⟩
  rw [hsm] at HSM
  have hs1 : s.st ≤ 40 ∧ s.es.length ≤ 250 := by simpa using hsm
  clear hsm
  by_cases hr : s.Right
  case neg =>
    have HMD := Lib.hid (fun (W : World) (hB : Below w.heap.size w W) => made_no (c := c) hr (HG.out.below hB) (HTY.out.below hB) (HS.out.below hB (Nat.le_refl _)) kind)
    clear hr hs1
    go_enter Tryz.func5, Tryz.ntmps5
    go_wp2_with fail
    refine HSM.out.mono ?_
    rintro e w1 ⟨rfl, hB1⟩
    have hb1 := HB0.out.trans (hB1.mono (by simp))
    have hx1 := (hB1.block w.heap.size (by simp)).trans HBX.out
    have HB1 := Lib.hid hb1; have HX1 := Lib.hid hx1
    obtain ⟨x0, x1, x2, x3, x4⟩ := sys9 hx1
    clear hB1 hb1 hx1 HSM HB0 HBX
    go_wp2_with fail
    refine (HMD.out _ HB1.out).mono ?_
    unfold Q3
    rintro e w2 ⟨Q, T, ev, ea, ta, eb, ec, tb, tc, rfl, ⟨rfl, rfl, fb, rfl⟩, hz1, hz2, hz3, hz4, hB2⟩
    have hb2 := HB1.out.trans (hB2.mono HB1.out.size)
    have HB2 := Lib.hid (bAlloc hb2 (.cells #[.int .i64 0, .int .i64 0, .int .i64 0, .slice ea 0 ec] 24))
    clear hz1 hz2 hz3 hz4 hB2 hb2 HMD x0 x1 x2 x3 x4
    go_wp2_with fail
    refine (ALV.out _ HB2.out).mono ?_
    rintro e w5 ⟨rfl, hB, _⟩
    go_wp2
    go_ret
    exact ⟨rfl, hB⟩
  have hst := hr.st0
  obtain ⟨n, hn⟩ : ∃ n : Nat, s.st = (n : Int) := ⟨s.st.toNat, by omega⟩
  have hn40 : n ≤ 40 := by omega
  rcases Nat.eq_zero_or_pos n with rfl | hn0
  · have hn' : s.st = 0 := by rw [hn]; rfl
    have HMD := Lib.hid (fun (W : World) (hB : Below w.heap.size w W) => made_zero (c := c) hr hn' (HG.out.below hB) (HT.out _ hB) (HS.out.below hB (Nat.le_refl _)) kind)
    have hrz : Lts.Right ⟨0, s.lb, 0, []⟩ := by
      refine ⟨?_, fun x hx => by simp at hx⟩
      have h0 := hr.head
      unfold HeadBad at h0 ⊢
      simp only [List.length_nil] at h0 ⊢
      omega
    have HMZ := Lib.hid (fun (W : World) (hB : Below w.heap.size w W) (ea : Option Addr) (ec : Nat) => made_zero (s := ⟨0, s.lb, 0, []⟩) (a := ea) (b := 0) (off := 0) (c := ec) hrz rfl (HG.out.below hB) (HT.out _ hB) (slAt_nil _ _ _ _) kind)
    rw [hn'] at HSM HB0 HBX HMD ⊢
    clear hr hst hn hn' hrz hs1
    go_enter Tryz.func5, Tryz.ntmps5
    go_wp2_with fail
    refine HSM.out.mono ?_
    rintro e w1 ⟨rfl, hB1⟩
    have hb1 := HB0.out.trans (hB1.mono (by simp))
    have hx1 := (hB1.block w.heap.size (by simp)).trans HBX.out
    have HB1 := Lib.hid hb1; have HX1 := Lib.hid hx1
    obtain ⟨x0, x1, x2, x3, x4⟩ := sys9 hx1
    clear hB1 hb1 hx1 HSM HB0 HBX
    go_wp2_with fail
    refine (HMD.out _ HB1.out).mono ?_
    unfold Q3
    rintro e w2 ⟨Q, T, ev, ea, ta, eb, ec, tb, tc, rfl, ⟨rfl, rfl, rfl⟩, hz1, hz2, hz3, hz4, hB2⟩
    have hb2 := HB1.out.trans (hB2.mono HB1.out.size)
    have HB2 := Lib.hid (bAlloc hb2 (.cells #[.int .i64 0, .int .i64 s.lb, .int .i64 0, .slice ea 0 ec] 24))
    have HMZ2 := Lib.hid (HMZ.out _ HB2.out ea ec)
    have hq2 := heap_alloc_new w2 (Obj.cells #[.int .i64 0, .int .i64 s.lb, .int .i64 0, .slice ea 0 ec] 24)
    have HQ2 := Lib.hid hq2
    clear hz1 hz2 hz3 hz4 hB2 hb2 hq2 HMD HMZ x0 x1 x2 x3 x4
    go_wp2_with fail
    refine HMZ2.out.mono ?_
    unfold Q3
    rintro e w3 ⟨Q, T, ev, fa, ta2, fb, fc, tb2, tc2, rfl, ⟨rfl, rfl, rfl⟩, hz1, hz2, hz3, hz4, hB3⟩
    have hb3 := HB2.out.trans (hB3.mono HB2.out.size)
    have HB3 := Lib.hid (bAlloc hb3 (.cells #[.int .i64 0, .int .i64 s.lb, .int .i64 0, .slice fa 0 fc] 24))
    have hq3 := (hB3.block w2.heap.size (by simp)).trans HQ2.out
    obtain ⟨q0, q1, q2, q3, q4⟩ := sys9 hq3
    have hne : w2.heap.size ≠ w3.heap.size := by omega
    clear hz1 hz2 hz3 hz4 hB3 hb3 hq3 HMZ2 HQ2 HB2
    go_wp2_with fail
    refine wp_loop_rounds 1 ?_
    rw [rounds_succ]
    go_wp2_with fail
    refine (ALV.out _ HB3.out).mono ?_
    rintro e w5 ⟨rfl, hB, _⟩
    go_wp2
    go_ret
    exact ⟨rfl, hB⟩
  · have hbm : n * s.es.length ≤ 10000 := Nat.le_trans (Nat.mul_le_mul hn40 hs1.2) (by decide)
    have HMD := Lib.hid (fun (W : World) (hB : Below w.heap.size w W) => made_yes (c := c) hr hn hn0 hbm (by omega) (HG.out.below hB) (HT.out _ hB) (HS.out.below hB (Nat.le_refl _)) kind)
    have HNR : RowKit.Hid s.norm.Right := Lib.hid hr.norm
    have HNN : RowKit.Hid (s.norm.st = (n : Int)) := Lib.hid hn
    have HNL : RowKit.Hid (s.norm.es.length ≤ 250) := Lib.hid (Nat.le_trans (length_nf (lt := ltE) s.es) hs1.2)
    rw [hn] at HSM HB0 HBX HMD ⊢
    clear hr hst hn hs1 hbm
    go_enter Tryz.func5, Tryz.ntmps5
    go_wp2_with fail
    refine HSM.out.mono ?_
    rintro e w1 ⟨rfl, hB1⟩
    have hb1 := HB0.out.trans (hB1.mono (by simp))
    have hx1 := (hB1.block w.heap.size (by simp)).trans HBX.out
    have HB1 := Lib.hid hb1; have HX1 := Lib.hid hx1
    obtain ⟨x0, x1, x2, x3, x4⟩ := sys9 hx1
    clear hB1 hb1 hx1 HSM HB0 HBX
    go_wp2_with fail
    refine (HMD.out _ HB1.out).mono ?_
    unfold Q3
    rintro e w2 ⟨Q, T, ev, ea, ta, eb, ec, tb, tc, rfl, ⟨C, hK, hQ, hT, rfl⟩, hes, hto, hz3, hz4, hB2⟩
    have hqr := quo_RightI (inert := !kind) HNR.out HNN.out hn0 (fl n C) (by have := HNL.out; omega)
    have hql := quo_lenI (!kind) s.norm (fl n C)
    have hqn := quoSI_norm (!kind) s.norm (fl n C)
    rw [← hQ] at hqr hql hqn
    have hql2 : Q.es.length ≤ 250 := Nat.le_trans hql HNL.out
    obtain ⟨m, hm⟩ : ∃ m : Nat, Q.st = (m : Int) := ⟨Q.st.toNat, by omega⟩
    have hm0 : 0 < m := by omega
    have hmn : m ≤ 40 := by omega
    obtain ⟨y, hy⟩ : ∃ y : Nat, Q.s0 = (y : Int) := ⟨Q.s0.toNat, by have := hqr.1.st0; omega⟩
    have hbm : m * Q.es.length ≤ 10000 := Nat.le_trans (Nat.mul_le_mul hmn hql2) (by decide)
    have hb2 := HB1.out.trans (hB2.mono HB1.out.size)
    have hBe := (Below.refl w2.heap.size w2).alloc (Nat.le_refl _) (Obj.cells #[.int .i64 Q.st, .int .i64 Q.lb, .int .i64 Q.s0, .slice ea Q.es.length ec] 24)
    have hb3 := hb2.trans (hBe.mono hb2.size)
    have hes3 := hes.below hBe (Nat.le_refl _)
    have hq3 := heap_alloc_new w2 (Obj.cells #[.int .i64 Q.st, .int .i64 Q.lb, .int .i64 Q.s0, .slice ea Q.es.length ec] 24)
    have HTW : RowKit.Hid (∀ Q2 T2 ev, phiYes kind Q m Q2 T2 ev → Q2 = Q ∧ T2 = (List.range m).map Int.ofNat ∧ ev = .nilIface) := Lib.hid (fun Q2 T2 ev ⟨K, hK2, h1, h2, h3⟩ => by
      rw [hqn] at h1 h2
      have hKn := hK.norm
      have hm2 : (quoSI (!kind) s.norm (fl n C)).st = (m : Int) := by rw [← hQ]; exact hm
      have hr2 : (quoSI (!kind) s.norm (fl n C)).Right := by rw [← hQ]; exact hqr.1
      have hK3 : KBig kind (quoSI (!kind) s.norm (fl n C)) m K := by rw [← hQ]; exact hK2
      have h4 := twice_all HNR.out HNN.out hn0 hKn hm2 hr2 hK3
      rw [← hQ] at h4
      exact ⟨h1.trans h4.1, h2.trans h4.2, h3⟩)
    have hmd := made_yes (s := Q) (c := ec) hqr.1 hm hm0 hbm (by omega) (HG.out.below hb3) (HT.out _ hb3) hes3 kind
    have HSA := Lib.hid (fun (W : World) (hB : Below w.heap.size w W) (a1 a2 : Option Addr) (b1 b2 c1 c2 : Nat) (h1 : SlAt encE 3 W a1 b1 0 Q.es) (h2 : SlAt encE 3 W a2 b2 0 Q.es) => same_any (c := c1) (c2 := c2) hqr.1 hqr.1 hm hm hm0 hm0 hy hy (by omega) (by omega) (HG.out.below hB) h1 h2)
    have HB3 := Lib.hid hb3; have HES3 := Lib.hid hes3; have HQ3 := Lib.hid hq3
    rw [hm] at hmd HQ3 HSA HB3 HES3 ⊢
    have HMD2 := Lib.hid hmd
    have HM2 := Lib.hid hm
    obtain ⟨el, hel⟩ : ∃ el, el = Q.es.length := ⟨_, rfl⟩
    have HEL := Lib.hid hel; have HEL2 := Lib.hid hel
    rw [← hel] at HMD2 HQ3 HSA HB3 HES3 hql2 ⊢
    clear hz3 hz4 hes hto hqr hql hqn hm hy hbm hb2 hBe hb3 hes3 hq3 hmd hel hB2 hK hQ hT HMD x0 x1 x2 x3 x4
    go_upto_region 4 with fail
    obtain ⟨W3, hW3⟩ : ∃ W3, W3 = w2.alloc (Obj.cells #[.int .i64 (m : Int), .int .i64 Q.lb, .int .i64 Q.s0, .slice ea el ec] 24) := ⟨_, rfl⟩
    obtain ⟨qb, hqb⟩ : ∃ qb, qb = w2.heap.size := ⟨_, rfl⟩
    rw [← hW3] at HQ3 HB3 HES3 HMD2 ⊢
    rw [← hqb] at HQ3 ⊢
    clear hW3 hqb
    obtain ⟨q0, q1, q2, q3, q4⟩ := sys9 HQ3.out
    go_wp2_with fail
    refine HMD2.out.mono ?_
    unfold Q3
    rintro e w4 ⟨Q2, T2, ev, fa, ta2, fb, fc, tb2, tc2, rfl, hphi, hfs, hts, hz3, hz4, hB4⟩
    obtain ⟨rfl, rfl, rfl⟩ := HTW.out Q2 T2 ev hphi
    have hlr : ((List.range m).map Int.ofNat).length = m := by simp
    rw [HM2.out, ← HEL.out, hlr]
    have hb4 := HB3.out.trans (hB4.mono HB3.out.size)
    have hBe := (Below.refl w4.heap.size w4).alloc (Nat.le_refl _) (Obj.cells #[.int .i64 (m : Int), .int .i64 Q2.lb, .int .i64 Q2.s0, .slice fa el fc] 24)
    have hb5 := hb4.trans (hBe.mono hb4.size)
    have HU5 := Lib.hid (heap_alloc_new w4 (Obj.cells #[.int .i64 (m : Int), .int .i64 Q2.lb, .int .i64 Q2.s0, .slice fa el fc] 24))
    have HQ5 := Lib.hid ((hBe.block qb (by have := hB4.size; omega)).trans ((hB4.block qb q4).trans HQ3.out))
    have HES5 := Lib.hid (HES3.out.below (hB4.trans (hBe.mono hB4.size)) (Nat.le_refl _))
    have HFS5 := Lib.hid (hfs.below hBe (Nat.le_refl _)); have HTS5 := Lib.hid (hts.below hBe (Nat.le_refl _)); have HB5 := Lib.hid hb5
    clear q0 q1 q2 q3 q4 hz3 hz4 hfs hts hphi hb4 hBe hb5 hlr hB4 HTW HMD2 HQ3 HES3 HB3 HM2 HEL
    go_upto_region 7 with fail
    obtain ⟨W5, hW5⟩ : ∃ W5, W5 = w4.alloc (Obj.cells #[.int .i64 (m : Int), .int .i64 Q2.lb, .int .i64 Q2.s0, .slice fa el fc] 24) := ⟨_, rfl⟩
    obtain ⟨ub, hub⟩ : ∃ ub, ub = w4.heap.size := ⟨_, rfl⟩
    rw [← hW5] at HU5 HQ5 HES5 HFS5 HTS5 HB5 ⊢
    rw [← hub] at HU5 ⊢
    clear hW5 hub
    obtain ⟨q0, q1, q2, q3, q4⟩ := sys9 HQ5.out
    obtain ⟨ub0, ub1, ub2, ub3, ub4⟩ := sys9 HU5.out
    obtain rfl := HTS5.out.ad (by simp; omega)
    go_wp2_with fail
    go_loop [11] (fun v11 => ∃ i : Nat, v11 = .int .i64 i ∧ i ≤ m) (fun v11 => m - (intOf v11).toNat)
    case atStart => exact ⟨0, rfl, Nat.zero_le _⟩
    case round =>
      obtain ⟨i, rfl, hi⟩ := hrel
      by_cases him : i < m
      · have d0 := HTS5.out.ci (i := i) (x := (i : Int)) (by simp [him])
        simp only [Nat.zero_add] at d0
        have dl := HTS5.out.lt (by simp; omega)
        have hiI : (i : Int) < (m : Int) := by omega
        go_wp2_with fail
        go_round
        case rel => exact ⟨i + 1, by go_num, by omega⟩
        case measure => simp [intOf]; omega
      · obtain rfl : m = i := by omega
        have hmz : ¬ m = 0 := by omega
        have hsm := HSA.out W5 HB5.out ea fa eb fb ec fc HES5.out HFS5.out
        have HSM := Lib.hid hsm
        clear hsm
        go_wp2_with fail
        refine HSM.out.mono ?_
        unfold SamePost
        rintro e w6 ⟨r, rfl, hre, hB6⟩
        obtain rfl : r = true := hre.2 eqv_refl
        have hb6 := HB5.out.trans (hB6.mono HB5.out.size)
        have HB6 := Lib.hid hb6
        have HQ6 := Lib.hid ((hB6.block qb q4).trans HQ5.out); have HU6 := Lib.hid ((hB6.block ub ub4).trans HU5.out)
        have HES6 := Lib.hid (HES5.out.below hB6 (Nat.le_refl _)); have HFS6 := Lib.hid (HFS5.out.below hB6 (Nat.le_refl _))
        have g4 : qb < w6.heap.size := Nat.lt_of_lt_of_le q4 hB6.size
        have g5 : ub < w6.heap.size := Nat.lt_of_lt_of_le ub4 hB6.size
        clear q0 q1 q2 q3 q4 ub0 ub1 ub2 ub3 ub4 hre hB6 hb6 HQ5 HU5 HES5 HFS5 HTS5 HB5 HSM HSA
        go_wp2_with fail
        refine (ALV.out _ HB6.out).mono ?_
        rintro e w7 ⟨rfl, hB7, hB7s⟩
        have hss := sameSystem_yes (m : Int) Q2.lb Q2.s0 (c1 := ec) (c2 := fc) (HES6.out.below hB7s (Nat.le_refl _)) (HFS6.out.below hB7s (Nat.le_refl _)) (by rw [← HEL2.out]; omega)
        rw [← HEL2.out] at hss
        have HSS := Lib.hid hss; have HB7 := Lib.hid hB7
        obtain ⟨q0, q1, q2, q3, q4⟩ := sys9 ((hB7s.block qb g4).trans HQ6.out)
        obtain ⟨ub0, ub1, ub2, ub3, ub4⟩ := sys9 ((hB7s.block ub g5).trans HU6.out)
        clear hss hB7 hB7s
        go_wp2_with fail
        refine HSS.out.mono ?_
        rintro e w8 ⟨rfl, hB8⟩
        have HB8 := Lib.hid (HB7.out.trans (hB8.mono HB7.out.size))
        clear hB8
        go_wp2_with fail
        go_ret
        exact ⟨rfl, HB8.out⟩
end Go.Proofs.YtmlmjhmdjieigaaGreatDoor

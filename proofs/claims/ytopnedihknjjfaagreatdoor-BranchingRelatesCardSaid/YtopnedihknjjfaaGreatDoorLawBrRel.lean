/-
  law12.BranchingRelates.
-/
import Derived.Test.YtopnedihknjjfaaGreatDoorAlive12
import Derived.Test.YtopnedihknjjfaaGreatDoorBrZ
import Derived.Test.YtopnedihknjjfaaGreatDoorGNew
import Derived.Deep.Cut
import Derived.Deep.CutRange
namespace Go.Proofs.YtopnedihknjjfaaGreatDoor
open Go.RowKit Pl

namespace Pl
/-- Does a step from r to y meet one to t, from q's class? -/
def metB (C : Nat → Int) (q t : Nat) (r y : Int) : Bool := (C r.toNat == C q) && (C y.toNat == C t)
/-- What is found among the first k near states. -/
def okB (N : Lts) (C : Nat → Int) (q t : Nat) (l : Int) (L : List Int) (k : Nat) : Bool := (decide (l = 0) && (C t == C q)) || (L.take k).any (fun r => (withL l (N.outs r)).any (metB C q t r))
theorem okB_zero (N : Lts) (C : Nat → Int) (q t : Nat) (l : Int) (L : List Int) : okB N C q t l L 0 = (decide (l = 0) && (C t == C q)) := by unfold okB; simp
theorem okB_step (N : Lts) (C : Nat → Int) (q t : Nat) (l : Int) {L : List Int} {k : Nat} {r : Int} (h : L[k]? = some r) : okB N C q t l L (k + 1) = (okB N C q t l L k || (withL l (N.outs r)).any (metB C q t r)) := by
  unfold okB
  rw [take_snoc h, List.any_append]
  simp [Bool.or_assoc]
theorem okB_all {s : Lts} {n : Nat} {C : Nat → Int} (hb : BrBig s n C) {L : List Int} {p q t : Nat} {l : Int} (hL : NearI s.norm q L L.length) (hp : p < n) (hq : q < n) (he : C p = C q) (hs : (l, (t : Int)) ∈ s.norm.outs (p : Int)) : okB s.norm C q t l L L.length = true := by
  have hst : stp s p l t := (mem_nf stoE _ s.es).1 (mem_outs.1 hs)
  unfold okB
  rw [List.take_length, Bool.or_eq_true]
  by_cases hi : l = 0 ∧ C t = C p
  · left
    rw [← he]
    simp [hi.1, hi.2]
  · right
    obtain ⟨q0, u, h1, h2, h3, _⟩ := (hb.still p q hp hq he l (C t) (.here hst hi)).way
    have hv : Via s.norm (fun x => C x = C q) q q0 := by
      clear h2
      induction h1 with
      | refl h => exact .refl h
      | tail _ h5 h6 ih => exact .tail ih ((mem_nf stoE _ s.es).2 h5) h6
    rw [List.any_eq_true]
    refine ⟨(q0 : Int), hL.all hv, ?_⟩
    rw [List.any_eq_true]
    refine ⟨(u : Int), mem_withLB.2 (mem_outs.2 ((mem_nf stoE _ s.es).2 h2)), ?_⟩
    unfold metB
    simp only [Int.toNat_natCast]
    rw [h1.last, h3]
    simp
end Pl

set_option maxRecDepth 100000 in
set_option maxHeartbeats 8000000 in
theorem brRelates_any {w : World} {p : Addr} (hG : GErr 0 p w) (hT : ErrType w) (htab : Lib.TabIs Tryz.prog w "internal/strconv.uint64pow10" .u64 Lib.pow10Tab) {s : Lts} {a : Option Addr} {b off c : Nat} (hS : SlAt encE 3 w a b off s.es) :
    Calls Tryz.prog 5 #[.agg #[.int .i64 s.st, .int .i64 s.lb, .int .i64 s.s0, .slice a s.es.length c]] w fun e w' => e = .returned (.bool true) ∧ Below w.heap.size w w' := by
  have hB0 := (Below.refl w.heap.size w).alloc (Nat.le_refl _) (Obj.cells #[.int .i64 s.st, .int .i64 s.lb, .int .i64 s.s0, .slice a s.es.length c] 24)
  have hbx := heap_alloc_new w (Obj.cells #[.int .i64 s.st, .int .i64 s.lb, .int .i64 s.s0, .slice a s.es.length c] 24)
  have HG := Lib.hid hG; have HTY := Lib.hid hT; have HT := Lib.hid (Lib.tabBelow_of_tabIs htab); have HS := Lib.hid hS; have HB0 := Lib.hid hB0; have HBX := Lib.hid hbx
  have HSM := Lib.hid (small12_any s.s0 s.st s.lb a s.es.length c (w.alloc (Obj.cells #[.int .i64 s.st, .int .i64 s.lb, .int .i64 s.s0, .slice a s.es.length c] 24)))
  clear hG hT htab hS hB0 hbx
  have ALV : RowKit.Hid (∀ w1 : World, Below w.heap.size w w1 → Calls Tryz.prog 13 #[] w1 fun e w' => e = .returned (.bool true) ∧ Below w.heap.size w w' ∧ Below w1.heap.size w1 w') := Lib.hid (by
    intro w1 h1
    refine (alive12_any (HG.out.below h1) (HT.out _ h1)).mono ?_
    rintro e w' ⟨rfl, hB⟩
    exact ⟨rfl, h1.trans (hB.mono h1.size), hB⟩)
  by_cases hsm : (decide (s.st ≤ 40) && decide (s.es.length ≤ 250)) = true
  case neg =>
    have hsf : (decide (s.st ≤ 40) && decide (s.es.length ≤ 250)) = false := by simpa using hsm
    rw [hsf] at HSM
    clear hsm hsf
    go_enter Tryz.func5, Tryz.ntmps5
    go_wp2_with fail
    refine HSM.out.mono ?_
    rintro e w1 ⟨rfl, hB1⟩
    have HB1 := Lib.hid (HB0.out.trans (hB1.mono (by simp)))
    clear hB1
    go_wp2_with fail
    refine (ALV.out _ HB1.out).mono ?_
    rintro e w2 ⟨rfl, hB, _⟩
    go_wp2
    go_ret
    exact ⟨rfl, hB⟩
  rw [hsm] at HSM
  have hs1 : s.st ≤ 40 ∧ s.es.length ≤ 250 := by simpa using hsm
  clear hsm
  by_cases hr : s.Right
  case neg =>
    go_enter Tryz.func5, Tryz.ntmps5
    go_wp2_with fail
    refine HSM.out.mono ?_
    rintro e w1 ⟨rfl, hB1⟩
    have hb1 := HB0.out.trans (hB1.mono (by simp))
    have hx1 := (hB1.block w.heap.size (by simp)).trans HBX.out
    have HB1 := Lib.hid hb1; have HX1 := Lib.hid hx1
    have HCO := Lib.hid (brClassesNo_any (c := c) hr (HG.out.below hb1) (HTY.out.below hb1) (HS.out.below hb1 (Nat.le_refl _)))
    obtain ⟨x0, x1, x2, x3, x4⟩ := sysB hx1
    clear hB1 hb1 hx1 HSM HB0 HBX
    go_wp2_with fail
    refine HCO.out.mono ?_
    rintro e w2 ⟨fb, rfl, hB2⟩
    have hb2 := HB1.out.trans (hB2.mono HB1.out.size)
    have hx2 := (hB2.block w.heap.size x4).trans HX1.out
    have HB2 := Lib.hid hb2
    have HCL := Lib.hid (new_no (c := c) hr (HG.out.below hb2) (HS.out.below hb2 (Nat.le_refl _)))
    clear x0 x1 x2 x3 x4
    obtain ⟨x0, x1, x2, x3, x4⟩ := sysB hx2
    clear hB2 hb2 hx2 HCO HB1 HX1 hr
    go_wp2_with fail
    refine HCL.out.mono ?_
    rintro e w4 ⟨v, rfl, hf, hB4⟩
    obtain ⟨fb2, rfl, _⟩ := hf.ex
    have HB4 := Lib.hid (HB2.out.trans (hB4.mono HB2.out.size))
    clear hB4 hf HCL HB2 x0 x1 x2 x3 x4
    go_wp2_with fail
    refine (ALV.out _ HB4.out).mono ?_
    rintro e w5 ⟨rfl, hB, _⟩
    have HB := Lib.hid hB
    clear hB
    go_wp2_with fail
    go_ret
    exact ⟨rfl, HB.out⟩
  case pos =>
  have hst := hr.st0
  obtain ⟨n, hn⟩ : ∃ n : Nat, s.st = (n : Int) := ⟨s.st.toNat, by omega⟩
  have hn40 : n ≤ 40 := by omega
  have HR := Lib.hid hr; have HN := Lib.hid hn; have HEL := Lib.hid hs1.2
  have HNR : RowKit.Hid s.norm.Right := Lib.hid hr.norm
  have HNN : RowKit.Hid (s.norm.st = (n : Int)) := Lib.hid hn
  rw [hn] at HSM HB0 HBX ⊢
  clear hr hn hst hs1
  go_enter Tryz.func5, Tryz.ntmps5
  go_wp2_with fail
  refine HSM.out.mono ?_
  rintro e w1 ⟨rfl, hB1⟩
  have hb1 := HB0.out.trans (hB1.mono (by simp))
  have hx1 := (hB1.block w.heap.size (by simp)).trans HBX.out
  have HB1 := Lib.hid hb1; have HX1 := Lib.hid hx1
  have hcl := brClasses_any (c := c) HR.out HN.out (by have := HEL.out; omega) (HG.out.below hb1) (HT.out _ hb1) (HS.out.below hb1 (Nat.le_refl _))
  rw [HN.out] at hcl
  have HCL := Lib.hid hcl
  obtain ⟨x0, x1, x2, x3, x4⟩ := sysB hx1
  clear hB1 hb1 hx1 hcl HSM HB0 HBX
  go_wp2_with fail
  refine HCL.out.mono ?_
  unfold BrPost
  rintro e w2 ⟨R, ra, rb, rc, hres, rfl, hz0, hrs, hB2⟩
  obtain ⟨C, hbig, rfl, hcan, hrng⟩ := hres.big HR.out HN.out
  have hb2 := HB1.out.trans (hB2.mono HB1.out.size)
  have HX2 := Lib.hid ((hB2.block w.heap.size x4).trans HX1.out)
  have hnw := new_ok (c := c) HR.out (HG.out.below hb2) (HS.out.below hb2 (Nat.le_refl _))
  rw [HN.out] at hnw
  have HNW := Lib.hid hnw; have HB2 := Lib.hid hb2; have HRS := Lib.hid hrs; have HBG := Lib.hid hbig
  have HCLB : RowKit.Hid (clB (n : Int) (fl n C) = true) := Lib.hid (by unfold clB; rw [hcan, fl_len]; simp)
  have HWF : RowKit.Hid (∀ x ∈ fl n C, (Lit.int .i64 x).wf = true) := Lib.hid (fun x hx => by
    obtain ⟨j, hj, rfl⟩ := List.mem_map.1 hx
    have h2 := hrng j (List.mem_range.1 hj)
    exact WalkArith.wf_i64 (by omega))
  clear x0 x1 x2 x3 x4
  obtain ⟨x0, x1, x2, x3, x4⟩ := sysB HX2.out
  clear hres hz0 hrs hbig hcan hrng hB2 hb2 hnw HB1 HX1 HCL
  go_wp2_with fail
  refine HNW.out.mono ?_
  rintro e w3 ⟨gb, rfl, hgr, hB3, hz0⟩
  have hb3 := HB2.out.trans (hB3.mono HB2.out.size)
  have HX3 := Lib.hid ((hB3.block w.heap.size x4).trans HX2.out)
  have hcs := classes_any (c := rc) (n : Int) s.lb s.s0 (.slice a s.es.length c) (HRS.out.below hB3 (Nat.le_refl _)) (by rw [fl_len]; omega) HWF.out
  rw [fl_len, HCLB.out] at hcs
  have HCS := Lib.hid hcs; have HB3 := Lib.hid hb3; have HRS3 := Lib.hid (HRS.out.below hB3 (Nat.le_refl _)); have HGR := Lib.hid hgr
  clear x0 x1 x2 x3 x4
  obtain ⟨x0, x1, x2, x3, x4⟩ := sysB HX3.out
  clear hz0 hgr hB3 hb3 hcs HNW HX2 HRS HB2
  go_wp2_with fail
  refine HCS.out.mono ?_
  rintro e w4 ⟨rfl, hB4⟩
  have hb4 := HB3.out.trans (hB4.mono HB3.out.size)
  have HX4 := Lib.hid ((hB4.block w.heap.size x4).trans HX3.out)
  have HB4 := Lib.hid hb4; have HRS4 := Lib.hid (HRS3.out.below hB4 (Nat.le_refl _)); have HGR4 := Lib.hid (HGR.out.below hB4)
  clear x0 x1 x2 x3 x4
  obtain ⟨x0, x1, x2, x3, x4⟩ := sysB HX4.out
  clear hB4 hb4 HCS HX3 HRS3 HB3 HGR HCLB HWF
  go_wp2_with fail
  clear x0 x1 x2 x3 x4
  obtain ⟨W, hW⟩ : ∃ W, W = w4 := ⟨_, rfl⟩
  subst hW
  go_loopw [7, 8, 9, 11, 12, 14, 16] (fun v7 _ _ _ _ _ _ wx => ∃ i : Nat, v7 = .int .i64 i ∧ i ≤ n ∧ Below W.heap.size W wx) (fun v7 _ _ _ _ _ _ _ => n - (intOf v7).toNat)
  case atStart => exact ⟨0, rfl, Nat.zero_le _, Below.refl _ _⟩
  case round =>
    obtain ⟨i, rfl, hi, hBx⟩ := hrel
    have HBX := Lib.hid hBx
    have hxo := (hBx.block w.heap.size (Array.getElem?_eq_some_iff.1 HX4.out).1).trans HX4.out
    obtain ⟨x0, x1, x2, x3, x4⟩ := sysB hxo
    clear hBx hxo x1 x2 x3
    by_cases hin : i < n
    · have hiI : (i : Int) < (n : Int) := by omega
      have HSL := Lib.hid (silent_any (HGR4.out.below HBX.out) HNR.out HNN.out hin)
      go_wp2_with fail
      refine HSL.out.mono ?_
      rintro e w5 ⟨L, lg, lc, lm, rfl, hlm, hnear, hls, hB5⟩
      have HB5 := Lib.hid (HBX.out.trans (hB5.mono HBX.out.size)); have HLS := Lib.hid hls; have HNE := Lib.hid hnear; have HLM := Lib.hid hlm
      have hlmn : lm ≤ n := by rw [hlm]; exact hnear.len HNN.out
      have hx5 := (HB5.out.block w.heap.size (Array.getElem?_eq_some_iff.1 HX4.out).1).trans HX4.out
      clear x0 x4
      obtain ⟨x0, x1, x2, x3, x4⟩ := sysB hx5
      clear hB5 hls hnear hlm hx5 x1 x2 x3 HBX HSL
      go_wp2_with fail
      clear x0 x4
      obtain ⟨V, hV⟩ : ∃ V, V = w5 := ⟨_, rfl⟩
      subst hV
      go_loopw [9, 11, 12, 14, 16] (fun v9 _ _ _ _ wy => ∃ j : Nat, v9 = .int .i64 j ∧ j ≤ n ∧ Below V.heap.size V wy) (fun v9 _ _ _ _ _ => n - (intOf v9).toNat)
      case atStart => exact ⟨0, rfl, Nat.zero_le _, Below.refl _ _⟩
      case round =>
        obtain ⟨j, rfl, hj, hBy⟩ := hrel
        have HBY := Lib.hid hBy
        have hbW := HB5.out.trans (hBy.mono HB5.out.size)
        have hxo := (hbW.block w.heap.size (Array.getElem?_eq_some_iff.1 HX4.out).1).trans HX4.out
        obtain ⟨x0, x1, x2, x3, x4⟩ := sysB hxo
        have HBW := Lib.hid hbW
        clear hxo x1 x2 x3 hBy
        by_cases hjn : j < n
        · have hjI : (j : Int) < (n : Int) := by omega
          have hrs := HRS4.out.below hbW (Nat.le_refl _)
          obtain rfl := hrs.ad (by rw [fl_len]; omega)
          have r0 := hrs.ci (fl_get C hjn); have r1 := hrs.ci (fl_get C hin); have rl := hrs.lt (by rw [fl_len]; omega)
          simp only [Nat.zero_add] at r0 r1
          obtain ⟨cj, hcj⟩ : ∃ cj, cj = C j := ⟨_, rfl⟩
          obtain ⟨ci, hci⟩ : ∃ ci, ci = C i := ⟨_, rfl⟩
          rw [← hcj] at r0; rw [← hci] at r1
          have HCI := Lib.hid hci
          have HCJ := Lib.hid hcj
          clear hrs hcj hci hbW
          by_cases he : cj = ci
          · have HSAME : RowKit.Hid (C j = C i) := Lib.hid (by rw [← HCJ.out, ← HCI.out]; exact he)
            subst he
            have HOUT := Lib.hid (fun q => getOut_any (HGR4.out.below (bdrew (n := q) HBW.out)) (j : Int))
            go_wp2_with fail
            go_quiet (fail)
            go_wp2_with fail
            clear r0 r1 rl x0 x4
            refine (HOUT.out _).mono ?_
            rintro e w6 ⟨v, rfl, hown, hB6⟩
            obtain ⟨oa, oc, ob, rfl, hz1, hz2, hos, hz3⟩ := slAt_own lenS hown
            have hb6 : Below V.heap.size V w6 := HBY.out.trans ((show Below wr.heap.size wr w6 from ⟨hB6.os, hB6.tape, hB6.output, hB6.size, hB6.block⟩).mono HBY.out.size)
            have hol := outs_len HNR.out (j : Int)
            obtain ⟨ol, hole⟩ : ∃ ol, ol = (s.norm.outs (j : Int)).length := ⟨_, rfl⟩
            rw [← hole] at hol ⊢
            have HB6 := Lib.hid hb6; have HOS := Lib.hid hos; have HOL := Lib.hid hole
            clear hz1 hz2 hz3 hown hos hB6 hb6 hole HOUT HBY HBW
            go_wp2_with fail
            obtain ⟨U, hU⟩ : ∃ U, U = w6 := ⟨_, rfl⟩
            subst hU
            go_loopw [11, 12, 14, 16, 74] (fun _ _ _ _ v74 wz => ∃ r : Nat, v74 = .int .i64 r ∧ r ≤ ol ∧ Below U.heap.size U wz) (fun _ _ _ _ v74 _ => ol - (intOf v74).toNat)
            case atStart => exact ⟨0, rfl, Nat.zero_le _, Below.refl _ _⟩
            case round =>
              obtain ⟨r, rfl, hro, hBz⟩ := hrel
              have HBZ := Lib.hid hBz
              have hwz := hBz.size
              by_cases hrl : r < ol
              · obtain ⟨y, hy⟩ := getElem?_of_lt (xs := s.norm.outs (j : Int)) (i := r) (by rw [← HOL.out]; exact hrl)
                have hss := HOS.out.below hBz (Nat.le_refl _)
                obtain rfl := hss.ad (by rw [← HOL.out]; omega)
                have d0 := hss.s0 hy; have d1 := hss.s1 hy
                have dl := hss.lt (by rw [← HOL.out]; omega)
                have hyr := offB_false.1 (HNR.out.edges _ (mem_outs.1 (List.mem_of_getElem? hy)))
                have HYM := Lib.hid (List.mem_of_getElem? hy)
                obtain ⟨y1, y2⟩ := y
                simp only [Nat.zero_add] at hyr d0 d1
                obtain ⟨t, rfl⟩ := Int.eq_ofNat_of_zero_le hyr.2.2.2.2.1
                have htn : t < n := by have := HNN.out; omega
                have hrI : (r : Int) < (ol : Int) := by omega
                have htI : (t : Int) < (n : Int) := by omega
                have HXC := Lib.hid (heap_alloc_new wr (.cells #[.int .i64 y1, .int .i64 (t : Int)] 46))
                have HBX := Lib.hid ((HB6.out.trans (HBZ.out.mono HB6.out.size)).alloc (by have := HB6.out.size; omega) (.cells #[.int .i64 y1, .int .i64 (t : Int)] 46))
                have HBU := Lib.hid (HBZ.out.alloc hwz (.cells #[.int .i64 y1, .int .i64 (t : Int)] 46))
                clear hss hy hyr hBz
                go_upto_region 20 with fail
                obtain ⟨X, hX⟩ : ∃ X, X = wr.alloc (.cells #[.int .i64 y1, .int .i64 (t : Int)] 46) := ⟨_, rfl⟩
                obtain ⟨xb, hxb⟩ : ∃ xb, xb = wr.heap.size := ⟨_, rfl⟩
                rw [← hX] at HXC HBX HBU ⊢
                rw [← hxb] at HXC ⊢
                clear hX hxb d0 d1 dl HBZ
                have hcx := HRS4.out.below (HB5.out.trans (HBX.out.mono HB5.out.size)) (Nat.le_refl _)
                have r0 := hcx.ci (fl_get C htn); have r1 := hcx.ci (fl_get C hin); have rl := hcx.lt (by rw [fl_len]; omega)
                simp only [Nat.zero_add] at r0 r1
                have g0 : X.cell? ⟨xb, 0, none⟩ = some (.int .i64 y1) := by simp [World.cell?, HXC.out]
                have g1 : X.cell? ⟨xb, 1, none⟩ = some (.int .i64 (t : Int)) := by simp [World.cell?, HXC.out]
                have gl := (Array.getElem?_eq_some_iff.1 HXC.out).1
                obtain ⟨ct, hct⟩ : ∃ ct, ct = C t := ⟨_, rfl⟩
                obtain ⟨ci, hci⟩ : ∃ ci, ci = C i := ⟨_, rfl⟩
                rw [← hct] at r0; rw [← hci] at r1
                have HCT := Lib.hid hct; have HCI2 := Lib.hid hci
                clear hcx hct hci
                go_cut [12] from 76 to 136 (fun s12 wx => s12 = .bool (decide (y1 = 0) && (ct == ci)) ∧ ∃ nq, wx = X.drewN nq)
                case first =>
                  by_cases hy0 : y1 = 0
                  · subst hy0
                    go_wp2_with fail
                    go_quiet (fail)
                    go_wp2_with fail
                    go_meet
                    exact ⟨by simp, _, rfl⟩
                  · have hb : (y1 == 0) = false := by simp [hy0]
                    go_wp2_with fail
                    go_quiet (fail)
                    go_wp2_with fail
                    go_meet
                    exact ⟨by simp [hy0], _, rfl⟩
                case rest =>
                  obtain ⟨rfl, nq, rfl⟩ := hcut
                  have HALL : RowKit.Hid (okB s.norm C i t y1 L lm = true) := Lib.hid (by
                    rw [HLM.out]
                    exact okB_all HBG.out HNE.out hjn hin HSAME.out HYM.out)
                  have HOK0 : RowKit.Hid ((decide (y1 = 0) && (ct == ci)) = okB s.norm C i t y1 L 0) := Lib.hid (by rw [okB_zero, HCT.out, HCI2.out])
                  rw [HOK0.out]
                  have HBXD : RowKit.Hid (Below V.heap.size V (X.drewN nq)) := Lib.hid (bdrew HBX.out)
                  have HXD : RowKit.Hid ((X.drewN nq).heap[xb]? = some (.cells #[.int .i64 y1, .int .i64 (t : Int)] 46 (0, 0))) := Lib.hid HXC.out
                  have HBUD : RowKit.Hid (Below U.heap.size U (X.drewN nq)) := Lib.hid (bdrew HBU.out)
                  obtain ⟨Y, hY⟩ : ∃ Y, Y = X.drewN nq := ⟨_, rfl⟩
                  rw [← hY] at HBXD HXD HBUD ⊢
                  clear hY r0 r1 rl g0 g1 gl HOK0 HBX HXC HBU
                  go_wp2_with fail
                  go_loopw [12, 14, 16, 95] (fun v12 _ _ v95 wa => ∃ k : Nat, v95 = .int .i64 k ∧ k ≤ lm ∧ v12 = .bool (okB s.norm C i t y1 L k) ∧ Below Y.heap.size Y wa) (fun _ _ _ v95 _ => lm - (intOf v95).toNat)
                  case atStart => exact ⟨0, rfl, Nat.zero_le _, rfl, Below.refl _ _⟩
                  case round =>
                    obtain ⟨k, rfl, hk, rfl, hBa⟩ := hrel
                    have HBA := Lib.hid hBa
                    by_cases hkl : k < lm
                    · obtain ⟨z, hz⟩ := getElem?_of_lt (xs := L) (i := k) (by have := HLM.out; omega)
                      have hbVa := HBXD.out.trans (hBa.mono HBXD.out.size)
                      have hls := HLS.out.below hbVa (Nat.le_refl _)
                      have d0 := hls.ci hz
                      simp only [Nat.zero_add] at d0
                      have dl := hls.lt (by have := HLM.out; omega)
                      obtain ⟨q, rfl, hqs⟩ := HNE.out.rng z (List.mem_of_getElem? hz)
                      have hqn : q < n := by have := HNN.out; omega
                      have HST := Lib.hid (okB_step s.norm C i t y1 hz)
                      have hxc := (hBa.block xb (Array.getElem?_eq_some_iff.1 HXD.out).1).trans HXD.out
                      have g0 : wr.cell? ⟨xb, 0, none⟩ = some (.int .i64 y1) := by simp [World.cell?, hxc]
                      have gl := (Array.getElem?_eq_some_iff.1 hxc).1
                      have HBY2 := Lib.hid (getBy_any (HGR4.out.below (HB5.out.trans (hbVa.mono HB5.out.size))) (q : Int) y1)
                      have HBVA := Lib.hid hbVa
                      have hkI : (k : Int) < (lm : Int) := by omega
                      obtain ⟨bk, hbk⟩ : ∃ bk, bk = okB s.norm C i t y1 L k := ⟨_, rfl⟩
                      rw [← hbk] at HST ⊢
                      have HXCA := Lib.hid hxc
                      clear hls hz hbk hBa hbVa hxc
                      go_wp2_with fail
                      refine HBY2.out.mono ?_
                      rintro e w7 ⟨v, rfl, hown, hB7⟩
                      obtain ⟨M, hM⟩ : ∃ M, M = withL y1 (s.norm.outs (q : Int)) := ⟨_, rfl⟩
                      rw [← hM] at hown HST
                      obtain ⟨ma, mc, mb, rfl, hz1, hz2, hms, hz3⟩ := slAt_own lenI hown
                      have hb7 := HBVA.out.trans (hB7.mono HBVA.out.size)
                      have HX7 := Lib.hid ((hB7.block xb gl).trans HXCA.out)
                      have HY7 := Lib.hid (HBA.out.trans (hB7.mono HBA.out.size))
                      have HB7 := Lib.hid hb7; have HMS := Lib.hid hms
                      have HMR : RowKit.Hid (∀ z ∈ M, ∃ u : Nat, z = (u : Int) ∧ u < n) := Lib.hid (fun z hz => by
                        rw [hM] at hz
                        have := offB_false.1 (HNR.out.edges _ (mem_outs.1 (mem_withLB.1 hz)))
                        simp only at this
                        have h2 := HNN.out
                        exact ⟨z.toNat, by omega, by omega⟩)
                      have hmlb : M.length ≤ 10000 := by rw [hM]; exact Nat.le_trans (withL_lenB _ _) (outs_len HNR.out (q : Int))
                      obtain ⟨ml, hml⟩ : ∃ ml, ml = M.length := ⟨_, rfl⟩
                      rw [← hml] at hmlb ⊢
                      have HML := Lib.hid hml
                      clear hz1 hz2 hz3 hown hms hB7 hb7 hM hml d0 dl g0 gl HBY2 HBVA HXCA HBA
                      go_wp2_with fail
                      obtain ⟨Z, hZ⟩ : ∃ Z, Z = w7 := ⟨_, rfl⟩
                      subst hZ
                      go_loopw [12, 16, 105] (fun v12 _ v105 wc => ∃ h : Nat, v105 = .int .i64 h ∧ h ≤ ml ∧ v12 = .bool (bk || (M.take h).any (metB C i t (q : Int))) ∧ Below Z.heap.size Z wc) (fun _ _ v105 _ => ml - (intOf v105).toNat)
                      case atStart => exact ⟨0, rfl, Nat.zero_le _, by simp, Below.refl _ _⟩
                      case round =>
                        obtain ⟨h, rfl, hh, rfl, hBc⟩ := hrel
                        have HBC := Lib.hid hBc
                        by_cases hhl : h < ml
                        · obtain ⟨z, hz⟩ := getElem?_of_lt (xs := M) (i := h) (by have := HML.out; omega)
                          have hms := HMS.out.below hBc (Nat.le_refl _)
                          obtain rfl := hms.ad (by have := HML.out; omega)
                          have d0 := hms.ci hz
                          simp only [Nat.zero_add] at d0
                          have dl := hms.lt (by have := HML.out; omega)
                          obtain ⟨u, rfl, hun⟩ := HMR.out z (List.mem_of_getElem? hz)
                          have HSN : RowKit.Hid ((bk || (M.take (h + 1)).any (metB C i t (q : Int))) = ((bk || (M.take h).any (metB C i t (q : Int))) || ((C q == C i) && (C u == C t)))) := Lib.hid (by
                            rw [take_snoc hz, List.any_append]
                            simp [Bool.or_assoc, metB])
                          have hbc := HB7.out.trans (hBc.mono HB7.out.size)
                          have hcx := HRS4.out.below (HB5.out.trans (hbc.mono HB5.out.size)) (Nat.le_refl _)
                          have r0 := hcx.ci (fl_get C hqn); have r1 := hcx.ci (fl_get C hin); have r2 := hcx.ci (fl_get C hun); have r3 := hcx.ci (fl_get C htn); have rl := hcx.lt (by rw [fl_len]; omega)
                          simp only [Nat.zero_add] at r0 r1 r2 r3
                          have hxc := (hBc.block xb (Array.getElem?_eq_some_iff.1 HX7.out).1).trans HX7.out
                          have g1 : wr.cell? ⟨xb, 1, none⟩ = some (.int .i64 (t : Int)) := by simp [World.cell?, hxc]
                          have gl := (Array.getElem?_eq_some_iff.1 hxc).1
                          obtain ⟨cq, hcq⟩ : ∃ cq, cq = C q := ⟨_, rfl⟩
                          obtain ⟨cu, hcu⟩ : ∃ cu, cu = C u := ⟨_, rfl⟩
                          rw [← hcq] at r0 HSN; rw [← hcu] at r2 HSN
                          rw [← HCI2.out] at r1 HSN; rw [← HCT.out] at r3 HSN
                          obtain ⟨bb, hbb⟩ : ∃ bb, bb = (bk || (M.take h).any (metB C i t (q : Int))) := ⟨_, rfl⟩
                          rw [← hbb] at HSN ⊢
                          have hhI : (h : Int) < (ml : Int) := by omega
                          have hqI : (q : Int) < (n : Int) := by omega
                          have huI : (u : Int) < (n : Int) := by omega
                          clear hz hms hbc hcx hxc hcq hcu hbb hBc
                          cases bb
                          · by_cases h1 : cq = ci
                            · subst h1
                              go_wp2_with fail
                              go_quiet (fail)
                              go_wp2_with fail
                              go_roundw
                              case rel => exact ⟨h + 1, by go_num, by omega, by rw [HSN.out]; simp, bdrew HBC.out⟩
                              case measure => simp [intOf]; omega
                            · have hb : (cq == ci) = false := by simp [h1]
                              go_wp2_with fail
                              go_quiet (fail)
                              go_wp2_with fail
                              go_roundw
                              case rel => exact ⟨h + 1, by go_num, by omega, by rw [HSN.out, hb]; rfl, bdrew HBC.out⟩
                              case measure => simp [intOf]; omega
                          · go_wp2_with fail
                            go_quiet (fail)
                            go_wp2_with fail
                            go_roundw
                            case rel => exact ⟨h + 1, by go_num, by omega, by rw [HSN.out]; rfl, bdrew HBC.out⟩
                            case measure => simp [intOf]; omega
                        · obtain rfl : ml = h := by omega
                          have HFIN : RowKit.Hid ((bk || (M.take ml).any (metB C i t (q : Int))) = okB s.norm C i t y1 L (k + 1)) := Lib.hid (by rw [HML.out, List.take_length]; exact HST.out.symm)
                          rw [HFIN.out]
                          have HYF := Lib.hid (HY7.out.trans (HBC.out.mono HY7.out.size))
                          clear hBc
                          go_wp2_with fail
                          go_roundw
                          case rel => exact ⟨k + 1, by go_num, by omega, rfl, HYF.out⟩
                          case measure => simp [intOf]; omega
                    · obtain rfl : lm = k := by omega
                      rw [HALL.out]
                      have HUF := Lib.hid (HBUD.out.trans (HBA.out.mono HBUD.out.size))
                      clear hBa
                      go_wp2_with fail
                      go_roundw
                      case rel => exact ⟨r + 1, by go_num, by omega, HUF.out⟩
                      case measure => simp [intOf]; omega
              · obtain rfl : ol = r := by omega
                have HVF := Lib.hid (HB6.out.trans (HBZ.out.mono HB6.out.size))
                clear hBz
                go_wp2_with fail
                go_roundw
                case rel => exact ⟨j + 1, by go_num, by omega, HVF.out⟩
                case measure => simp [intOf]; omega
          · have hb : (cj != ci) = true := by simp [he]
            clear he
            go_wp2_with fail
            go_quiet (fail)
            go_wp2_with fail
            go_roundw
            case rel => exact ⟨j + 1, by go_num, by omega, bdrew HBY.out⟩
            case measure => simp [intOf]; omega
        · obtain rfl : n = j := by omega
          clear hbW
          go_wp2_with fail
          go_roundw
          case rel => exact ⟨i + 1, by go_num, by omega, HBW.out⟩
          case measure => simp [intOf]; omega
    · obtain rfl : n = i := by omega
      go_wp2_with fail
      refine (ALV.out _ (HB4.out.trans (HBX.out.mono HB4.out.size))).mono ?_
      rintro e w9 ⟨rfl, hB, _⟩
      go_wp2
      go_ret
      exact ⟨rfl, hB⟩
end Go.Proofs.YtopnedihknjjfaaGreatDoor

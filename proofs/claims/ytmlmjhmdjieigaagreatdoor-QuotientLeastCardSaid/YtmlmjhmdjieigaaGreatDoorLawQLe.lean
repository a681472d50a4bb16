/-
  law14.QuotientLeast.
-/
import Derived.Test.YtmlmjhmdjieigaaGreatDoorCls14
import Derived.Test.YtmlmjhmdjieigaaGreatDoorGQuoY
import Derived.Test.YtmlmjhmdjieigaaGreatDoorGParG
namespace Go.Proofs.YtmlmjhmdjieigaaGreatDoor
open Go.RowKit Pl

namespace Pl
theorem dist_apart {m : Nat} {K : Nat → Int} (h : ∀ i j, i < m → j < m → K i = K j → i = j) : (dist (fl m K)).length = m := by
  rw [← dist_clf_len (f := K), ← canon_fl, canon_inj h, dist_ofNat]
  simp
end Pl

set_option maxRecDepth 100000 in
set_option maxHeartbeats 8000000 in
theorem quoLeast_any {w : World} {p : Addr} (hG : GErr 10 p w) (hT : ErrType w) (htab : Lib.TabIs Tryz.prog w "internal/strconv.uint64pow10" .u64 Lib.pow10Tab) {s : Lts} {a : Option Addr} {b off c : Nat} (hS : SlAt encE 3 w a b off s.es) (kind : Bool) :
    Calls Tryz.prog 4 #[.agg #[.int .i64 s.st, .int .i64 s.lb, .int .i64 s.s0, .slice a s.es.length c], .bool kind] w fun e w' => e = .returned (.bool true) ∧ Below w.heap.size w w' := by
  have hB0 := (Below.refl w.heap.size w).alloc (Nat.le_refl _) (Obj.cells #[.int .i64 s.st, .int .i64 s.lb, .int .i64 s.s0, .slice a s.es.length c] 24)
  have hbx := heap_alloc_new w (Obj.cells #[.int .i64 s.st, .int .i64 s.lb, .int .i64 s.s0, .slice a s.es.length c] 24)
  have HG := Lib.hid hG; have HTY := Lib.hid hT; have HT := Lib.hid (Lib.tabBelow_of_tabIs htab); have HS := Lib.hid hS; have HB0 := Lib.hid hB0; have HBX := Lib.hid hbx
  have HSM := Lib.hid (small14_any s.s0 s.st s.lb a s.es.length c (w.alloc (Obj.cells #[.int .i64 s.st, .int .i64 s.lb, .int .i64 s.s0, .slice a s.es.length c] 24)))
  clear hG hT htab hS hB0 hbx
  have ALV : RowKit.Hid (∀ w1 : World, Below w.heap.size w w1 → Calls Tryz.prog 13 #[] w1 fun e w' => e = .returned (.bool true) ∧ Below w.heap.size w w' ∧ Below w1.heap.size w1 w') := Lib.hid (by
    intro w1 h1
    refine (alive14_any (HG.out.below h1)).mono ?_
    rintro e w' ⟨rfl, hB⟩
    exact ⟨rfl, h1.trans (hB.mono h1.size), hB⟩)
  by_cases hsm : (decide (s.st ≤ 40) && decide (s.es.length ≤ 250)) = true
  case neg =>
    have hsf : (decide (s.st ≤ 40) && decide (s.es.length ≤ 250)) = false := by simpa using hsm
    rw [hsf] at HSM
    clear hsm hsf
    go_enter Tryz.func4, Tryz.ntmps4
    go_wp2_with fail
    refine HSM.out.mono ?_
    rintro e w1 ⟨rfl, hB1⟩
    have HB1 := Lib.hid (HB0.out.trans (hB1.mono (by simp)))
    clear hB1
    go_wp2_with fail
    refine (ALV.out _ HB1.out).mono ?_
    rintro e w2 ⟨rfl, hB, _⟩
    go_wp2
    go_ret
    exact ⟨rfl, hB⟩
  rw [hsm] at HSM
  have hs1 : s.st ≤ 40 ∧ s.es.length ≤ 250 := by simpa using hsm
  clear hsm
  by_cases hr : s.Right
  case neg =>
    have HMD := Lib.hid (fun (W : World) (hB : Below w.heap.size w W) => made_no (c := c) hr (HG.out.below hB) (HTY.out.below hB) (HS.out.below hB (Nat.le_refl _)) kind)
    clear hr hs1
    go_enter Tryz.func4, Tryz.ntmps4
    go_wp2_with fail
    refine HSM.out.mono ?_
    rintro e w1 ⟨rfl, hB1⟩
    have hb1 := HB0.out.trans (hB1.mono (by simp))
    have hx1 := (hB1.block w.heap.size (by simp)).trans HBX.out
    have HB1 := Lib.hid hb1; have HX1 := Lib.hid hx1
    obtain ⟨x0, x1, x2, x3, x4⟩ := sys9 hx1
    clear hB1 hb1 hx1 HSM HB0 HBX
    go_wp2_with fail
    refine (HMD.out _ HB1.out).mono ?_
    unfold Q3
    rintro e w2 ⟨Q, T, ev, ea, ta, eb, ec, tb, tc, rfl, ⟨rfl, rfl, fb, rfl⟩, hz1, hz2, hz3, hz4, hB2⟩
    have hb2 := HB1.out.trans (hB2.mono HB1.out.size)
    have HB2 := Lib.hid (bAlloc hb2 (.cells #[.int .i64 0, .int .i64 0, .int .i64 0, .slice ea 0 ec] 24))
    clear hz1 hz2 hz3 hz4 hB2 hb2 HMD x0 x1 x2 x3 x4
    go_wp2_with fail
    refine (ALV.out _ HB2.out).mono ?_
    rintro e w5 ⟨rfl, hB, _⟩
    go_wp2
    go_ret
    exact ⟨rfl, hB⟩
  have hst := hr.st0
  obtain ⟨n, hn⟩ : ∃ n : Nat, s.st = (n : Int) := ⟨s.st.toNat, by omega⟩
  have hn40 : n ≤ 40 := by omega
  rcases Nat.eq_zero_or_pos n with rfl | hn0
  · have hn' : s.st = 0 := by rw [hn]; rfl
    have HMD := Lib.hid (fun (W : World) (hB : Below w.heap.size w W) => made_zero (c := c) hr hn' (HG.out.below hB) (HT.out _ hB) (HS.out.below hB (Nat.le_refl _)) kind)
    have hrz : Lts.Right ⟨0, s.lb, 0, []⟩ := by
      refine ⟨?_, fun x hx => by simp at hx⟩
      have h0 := hr.head
      unfold HeadBad at h0 ⊢
      simp only [List.length_nil] at h0 ⊢
      omega
    have HCZ := Lib.hid (fun (W : World) (hB : Below w.heap.size w W) (ea : Option Addr) (ec : Nat) => cls14_any (s := ⟨0, s.lb, 0, []⟩) (n := 0) (a := ea) (b := 0) (off := 0) (c := ec) hrz rfl (by simp) (HG.out.below hB) (HT.out _ hB) (slAt_nil _ _ _ _) kind)
    have HNZ := Lib.hid (fun (W : World) (hB : Below w.heap.size w W) (ea : Option Addr) (ec : Nat) => new_ok (s := ⟨0, s.lb, 0, []⟩) (a := ea) (b := 0) (off := 0) (c := ec) hrz (HG.out.below hB) (slAt_nil _ _ _ _))
    have HCS := Lib.hid (fun (W : World) (hB : Below w.heap.size w W) => cls14_any (c := c) hr hn (by omega) (HG.out.below hB) (HT.out _ hB) (HS.out.below hB (Nat.le_refl _)) kind)
    have HNW := Lib.hid (fun (W : World) (hB : Below w.heap.size w W) => new_ok (c := c) hr (HG.out.below hB) (HS.out.below hB (Nat.le_refl _)))
    have HNN : RowKit.Hid (s.norm.st = 0) := Lib.hid hn'
    rw [hn'] at HSM HB0 HBX HMD HCS HNW ⊢
    clear hr hst hn hn' hrz hs1
    go_enter Tryz.func4, Tryz.ntmps4
    go_wp2_with fail
    refine HSM.out.mono ?_
    rintro e w1 ⟨rfl, hB1⟩
    have hb1 := HB0.out.trans (hB1.mono (by simp))
    have hx1 := (hB1.block w.heap.size (by simp)).trans HBX.out
    have HB1 := Lib.hid hb1; have HX1 := Lib.hid hx1
    obtain ⟨x0, x1, x2, x3, x4⟩ := sys9 hx1
    clear hB1 hb1 hx1 HSM HB0 HBX
    go_wp2_with fail
    refine (HMD.out _ HB1.out).mono ?_
    unfold Q3
    rintro e w2 ⟨Q, T, ev, ea, ta, eb, ec, tb, tc, rfl, ⟨rfl, rfl, rfl⟩, hz1, hz2, hz3, hz4, hB2⟩
    have hb2 := HB1.out.trans (hB2.mono HB1.out.size)
    have hBe := (Below.refl w2.heap.size w2).alloc (Nat.le_refl _) (Obj.cells #[.int .i64 0, .int .i64 s.lb, .int .i64 0, .slice ea 0 ec] 24)
    have hb3 := hb2.trans (hBe.mono hb2.size)
    have hq3 := heap_alloc_new w2 (Obj.cells #[.int .i64 0, .int .i64 s.lb, .int .i64 0, .slice ea 0 ec] 24)
    have hx3 := (hBe.block w.heap.size (by have := hB2.size; omega)).trans ((hB2.block w.heap.size x4).trans HX1.out)
    have HCQ := Lib.hid (HCZ.out _ hb3 ea ec)
    have HB3 := Lib.hid hb3; have HQ3 := Lib.hid hq3; have HX3 := Lib.hid hx3
    clear hz1 hz2 hz3 hz4 hb2 hBe hb3 hq3 hx3 hB2 HMD HX1 HCZ x0 x1 x2 x3 x4
    go_upto_region 4 with fail
    obtain ⟨W3, hW3⟩ : ∃ W3, W3 = w2.alloc (Obj.cells #[.int .i64 0, .int .i64 s.lb, .int .i64 0, .slice ea 0 ec] 24) := ⟨_, rfl⟩
    obtain ⟨qb, hqb⟩ : ∃ qb, qb = w2.heap.size := ⟨_, rfl⟩
    rw [← hW3] at HQ3 HB3 HX3 HCQ ⊢
    rw [← hqb] at HQ3 ⊢
    clear hW3 hqb
    obtain ⟨q0, q1, q2, q3, q4⟩ := sys9 HQ3.out
    obtain ⟨x0, x1, x2, x3, x4⟩ := sys9 HX3.out
    go_wp2_with fail
    refine HCQ.out.mono ?_
    unfold Q2
    rintro e w4 ⟨K, ka, kb, kc, hK, hKr, rfl, hks, hB4⟩
    have hb4 := HB3.out.trans (hB4.mono HB3.out.size)
    have HQ4 := Lib.hid ((hB4.block qb q4).trans HQ3.out); have HX4 := Lib.hid ((hB4.block w.heap.size x4).trans HX3.out)
    have HNW4 := Lib.hid (HNZ.out _ hb4 ea ec)
    have HKS := Lib.hid hks; have HB4 := Lib.hid hb4
    clear q0 q1 q2 q3 q4 x0 x1 x2 x3 x4
    obtain ⟨q0, q1, q2, q3, q4⟩ := sys9 HQ4.out
    obtain ⟨x0, x1, x2, x3, x4⟩ := sys9 HX4.out
    clear hK hKr hks hB4 hb4 HQ3 HX3 HB3 HNZ HCQ
    go_wp2_with fail
    refine HNW4.out.mono ?_
    rintro e w5 ⟨gb, rfl, hgr, hB5, hz5⟩
    have hb5 := HB4.out.trans (hB5.mono HB4.out.size)
    have HQ5 := Lib.hid ((hB5.block qb q4).trans HQ4.out); have HX5 := Lib.hid ((hB5.block w.heap.size x4).trans HX4.out)
    have HCS5 := Lib.hid (HCS.out _ hb5)
    have HKS5 := Lib.hid (HKS.out.below hB5 (Nat.le_refl _)); have HB5 := Lib.hid hb5; have HGR := Lib.hid hgr
    clear q0 q1 q2 q3 q4 x0 x1 x2 x3 x4
    obtain ⟨q0, q1, q2, q3, q4⟩ := sys9 HQ5.out
    obtain ⟨x0, x1, x2, x3, x4⟩ := sys9 HX5.out
    clear hz5 hgr hB5 hb5 HQ4 HX4 HKS HB4 HNW4 HCS
    go_wp2_with fail
    refine HCS5.out.mono ?_
    unfold Q2
    rintro e w6 ⟨D, da, db, dc, hD, hDr, rfl, hds, hB6⟩
    have hb6 := HB5.out.trans (hB6.mono HB5.out.size)
    have HQ6 := Lib.hid ((hB6.block qb q4).trans HQ5.out); have HX6 := Lib.hid ((hB6.block w.heap.size x4).trans HX5.out)
    have HNW6 := Lib.hid (HNW.out _ hb6)
    have HKS6 := Lib.hid (HKS5.out.below hB6 (Nat.le_refl _)); have HB6 := Lib.hid hb6; have HGR6 := Lib.hid (HGR.out.below hB6)
    clear q0 q1 q2 q3 q4 x0 x1 x2 x3 x4
    obtain ⟨q0, q1, q2, q3, q4⟩ := sys9 HQ6.out
    obtain ⟨x0, x1, x2, x3, x4⟩ := sys9 HX6.out
    clear hD hDr hds hB6 hb6 HQ5 HX5 HKS5 HB5 HGR HNW HCS5
    go_wp2_with fail
    refine HNW6.out.mono ?_
    rintro e w7 ⟨rb, rfl, hrr, hB7, hz7⟩
    have hb7 := HB6.out.trans (hB7.mono HB6.out.size)
    have HQ7 := Lib.hid ((hB7.block qb q4).trans HQ6.out); have HX7 := Lib.hid ((hB7.block w.heap.size x4).trans HX6.out)
    have HKS7 := Lib.hid (HKS6.out.below hB7 (Nat.le_refl _)); have HB7 := Lib.hid hb7; have HGR7 := Lib.hid (HGR6.out.below hB7); have HRR7 := Lib.hid hrr
    clear q0 q1 q2 q3 q4 x0 x1 x2 x3 x4
    obtain ⟨q0, q1, q2, q3, q4⟩ := sys9 HQ7.out
    obtain ⟨x0, x1, x2, x3, x4⟩ := sys9 HX7.out
    clear hz7 hrr hB7 hb7 HQ6 HX6 HKS6 HB6 HGR6 HNW6
    have hmk := run_make_row' (P := Tryz.prog) 43 4 (.bool false) 1 Tryz.underlying43 (by kernel_rfl) rfl .i64 .i64 1 (by omega) (by omega)
    rw [show ((1 : Nat) : Int) = (1 : Int) from by simp] at hmk
    have hba := (Below.refl w7.heap.size w7).alloc (Nat.le_refl _) (Obj.cells (madeCells #[.bool false] 1) 4)
    have HRC := Lib.hid (reach_nil (HRR7.out.below hba) HNN.out)
    have HBA := Lib.hid hba
    clear hba
    go_wp2_with fail
    refine HRC.out.mono ?_
    rintro e wr ⟨rfl, hB9⟩
    have HBW : RowKit.Hid (Below w7.heap.size w7 wr) := Lib.hid (HBA.out.trans (hB9.mono HBA.out.size))
    clear hB9
    go_wp2_with fail
    refine wp_loop_rounds 1 ?_
    rw [rounds_succ]
    have HBZ := Lib.hid (HB7.out.trans (HBW.out.mono HB7.out.size))
    have g4 : qb < w7.heap.size := (Array.getElem?_eq_some_iff.1 HQ7.out).1
    have HKP : RowKit.Hid (∀ W, Below wr.heap.size wr W → W.cell? ⟨qb, 0, none⟩ = some (.int .i64 0) ∧ Below wr.heap.size wr W) := Lib.hid (fun W hW =>
      ⟨(sys9 ((hW.block qb (Nat.lt_of_lt_of_le g4 HBW.out.size)).trans ((HBW.out.block qb g4).trans HQ7.out))).1, hW⟩)
    have HAV : RowKit.Hid (∀ W, Below wr.heap.size wr W → Calls Tryz.prog 13 #[] W fun e w' => e = .returned (.bool true) ∧ Below wr.heap.size wr w') := Lib.hid (fun W hW =>
      (ALV.out W (HBZ.out.trans (hW.mono HBZ.out.size))).mono (by rintro e w' ⟨rfl, _, hB⟩; exact ⟨rfl, hW.trans (hB.mono hW.size)⟩))
    have HTG : RowKit.Hid (∀ W, Below wr.heap.size wr W → Calls Tryz.prog 18 #[.slice ka 0 kc] W fun e w' => e = .returned (.int .i64 0) ∧ Below wr.heap.size wr w') := Lib.hid (fun W hW =>
      (together_any (xs := []) (a := ka) (c := kc) (w := W) (b := 0) (off := 0) (slAt_nil _ _ _ _) (by simp) (fun x hx => by simp at hx)).mono (by rintro e w' ⟨rfl, hB⟩; exact ⟨rfl, hW.trans (hB.mono hW.size)⟩))
    have HRG : RowKit.Hid (∀ W, Below wr.heap.size wr W → Calls Tryz.prog 17 #[.pointer (some ⟨gb, 0, none⟩)] W fun e w' => e = .returned (.slice none 0 0) ∧ Below wr.heap.size wr w') := Lib.hid (fun W hW =>
      (reach_nil ((HGR7.out.below HBW.out).below hW) rfl).mono (by
        rintro e w' ⟨rfl, hB⟩
        exact ⟨rfl, hW.trans (hB.mono hW.size)⟩))
    obtain ⟨p0, p1⟩ := HKP.out wr (Below.refl _ _)
    have hdr : Below wr.heap.size wr wr.drew := (Below.refl _ _).drew
    have hds := hdr.size
    clear q0 q1 q2 q3 q4 x0 x1 x2 x3 x4
    go_upto_region 21 with fail
    go_region_held3 (fun W => W.cell? ⟨qb, 0, none⟩ = some (.int .i64 0) ∧ Below wr.heap.size wr W)
      (exact HKP.out _ (by assumption))
      (first
        | (go_at_call 13; go_split_ands; refine (HAV.out _ (by assumption)).mono ?_; rintro e w' ⟨rfl, hB⟩)
        | (go_at_call 18; go_split_ands; refine (HTG.out _ (by assumption)).mono ?_; rintro e w' ⟨rfl, hB⟩)
        | (go_at_call 17; go_split_ands; refine (HRG.out _ (by assumption)).mono ?_; rintro e w' ⟨rfl, hB⟩))
    all_goals go_split_ands
    all_goals go_wp2_with fail
    all_goals go_ret
    all_goals exact ⟨rfl, HBZ.out.trans (Below.mono (by assumption) HBZ.out.size)⟩
  · have hbm : n * s.es.length ≤ 10000 := Nat.le_trans (Nat.mul_le_mul hn40 hs1.2) (by decide)
    have HMD := Lib.hid (fun (W : World) (hB : Below w.heap.size w W) => made_yes (c := c) hr hn hn0 hbm (by omega) (HG.out.below hB) (HT.out _ hB) (HS.out.below hB (Nat.le_refl _)) kind)
    have HCS := Lib.hid (fun (W : World) (hB : Below w.heap.size w W) => cls14_any (c := c) hr hn (by omega) (HG.out.below hB) (HT.out _ hB) (HS.out.below hB (Nat.le_refl _)) kind)
    have HNW := Lib.hid (fun (W : World) (hB : Below w.heap.size w W) => new_ok (c := c) hr (HG.out.below hB) (HS.out.below hB (Nat.le_refl _)))
    have HNR : RowKit.Hid s.norm.Right := Lib.hid hr.norm
    have HRR := Lib.hid hr; have HRN := Lib.hid hn
    have HNN : RowKit.Hid (s.norm.st = (n : Int)) := Lib.hid hn
    have HNL : RowKit.Hid (s.norm.es.length ≤ 250) := Lib.hid (Nat.le_trans (length_nf (lt := ltE) s.es) hs1.2)
    rw [hn] at HSM HB0 HBX HMD HCS HNW ⊢
    clear hr hst hn hs1 hbm
    go_enter Tryz.func4, Tryz.ntmps4
    go_wp2_with fail
    refine HSM.out.mono ?_
    rintro e w1 ⟨rfl, hB1⟩
    have hb1 := HB0.out.trans (hB1.mono (by simp))
    have hx1 := (hB1.block w.heap.size (by simp)).trans HBX.out
    have HB1 := Lib.hid hb1; have HX1 := Lib.hid hx1
    obtain ⟨x0, x1, x2, x3, x4⟩ := sys9 hx1
    clear hB1 hb1 hx1 HSM HB0 HBX
    go_wp2_with fail
    refine (HMD.out _ HB1.out).mono ?_
    unfold Q3
    rintro e w2 ⟨Q, T, ev, ea, ta, eb, ec, tb, tc, rfl, ⟨C, hK, hQ, hT, rfl⟩, hes, hto, hz3, hz4, hB2⟩
    have hqr := quo_RightI (inert := !kind) HNR.out HNN.out hn0 (fl n C) (by have := HNL.out; omega)
    have hql := quo_lenI (!kind) s.norm (fl n C)
    have hqn := quoSI_norm (!kind) s.norm (fl n C)
    rw [← hQ] at hqr hql hqn
    have hql2 : Q.es.length ≤ 250 := Nat.le_trans hql HNL.out
    obtain ⟨m, hm⟩ : ∃ m : Nat, Q.st = (m : Int) := ⟨Q.st.toNat, by omega⟩
    have hm0 : 0 < m := by omega
    have hmn : m ≤ 40 := by omega
    have hml : (quoD s.norm (fl n C)).length = m := by
      have h1 : (quoSI (!kind) s.norm (fl n C)).st = (m : Int) := by rw [← hQ]; exact hm
      have h2 : ((quoD s.norm (fl n C)).length : Int) = (m : Int) := h1
      omega
    have hb2 := HB1.out.trans (hB2.mono HB1.out.size)
    have hBe := (Below.refl w2.heap.size w2).alloc (Nat.le_refl _) (Obj.cells #[.int .i64 Q.st, .int .i64 Q.lb, .int .i64 Q.s0, .slice ea Q.es.length ec] 24)
    have hb3 := hb2.trans (hBe.mono hb2.size)
    have hes3 := hes.below hBe (Nat.le_refl _)
    have hq3 := heap_alloc_new w2 (Obj.cells #[.int .i64 Q.st, .int .i64 Q.lb, .int .i64 Q.s0, .slice ea Q.es.length ec] 24)
    have hx3 := (hBe.block w.heap.size (by have := hB2.size; omega)).trans ((hB2.block w.heap.size x4).trans HX1.out)
    have HAP : RowKit.Hid (∀ K, KBig kind Q m K → (dist (fl m K)).length = m) := Lib.hid (fun K hK2 => by
      have hm2 : (quoSI (!kind) s.norm (fl n C)).st = (m : Int) := by rw [← hQ]; exact hm
      have hr2 : (quoSI (!kind) s.norm (fl n C)).Right := by rw [← hQ]; exact hqr.1
      have hK3 : KBig kind (quoSI (!kind) s.norm (fl n C)) m K := by rw [← hQ]; exact hK2
      exact dist_apart (fun i j hi hj e => quo_discrete HNR.out HNN.out hn0 hK.norm hm2 hr2 hK3 hi hj e))
    have HRE : RowKit.Hid ((reachL Q).length = m) := Lib.hid (by
      rw [hQ, quo_reach HNR.out HNN.out hn0]
      simp [hml])
    have HDC : RowKit.Hid (∀ D, KBig kind s n D → (clsL (fl n D) (reachL s.norm)).length = m) := Lib.hid (fun D hD => by
      rw [kbig_one HRR.out HRN.out hD hK]
      exact hml)
    have hcq := cls14_any (s := Q) (n := m) (c := ec) hqr.1 hm (by omega) (HG.out.below hb3) (HT.out _ hb3) hes3 kind
    have HNQ := Lib.hid (fun (W : World) (hB : Below w.heap.size w W) (h1 : SlAt encE 3 W ea eb 0 Q.es) => new_ok (c := ec) hqr.1 (HG.out.below hB) h1)
    have HQST := Lib.hid hm
    have HB3 := Lib.hid hb3; have HES3 := Lib.hid hes3; have HQ3 := Lib.hid hq3; have HX3 := Lib.hid hx3
    rw [hqn] at HNQ
    rw [hm] at hcq HQ3 HNQ HB3 HES3 HX3 ⊢
    have HCQ := Lib.hid hcq
    obtain ⟨el, hel⟩ : ∃ el, el = Q.es.length := ⟨_, rfl⟩
    rw [← hel] at HCQ HQ3 HNQ HB3 HES3 HX3 hql2 ⊢
    clear hz3 hz4 hes hto hqr hql hqn hm hb2 hBe hb3 hes3 hq3 hx3 hcq hel hB2 hK hQ hT hml HMD HX1 x0 x1 x2 x3 x4
    go_upto_region 4 with fail
    obtain ⟨W3, hW3⟩ : ∃ W3, W3 = w2.alloc (Obj.cells #[.int .i64 (m : Int), .int .i64 Q.lb, .int .i64 Q.s0, .slice ea el ec] 24) := ⟨_, rfl⟩
    obtain ⟨qb, hqb⟩ : ∃ qb, qb = w2.heap.size := ⟨_, rfl⟩
    rw [← hW3] at HQ3 HB3 HES3 HX3 HCQ ⊢
    rw [← hqb] at HQ3 ⊢
    clear hW3 hqb
    obtain ⟨q0, q1, q2, q3, q4⟩ := sys9 HQ3.out
    obtain ⟨x0, x1, x2, x3, x4⟩ := sys9 HX3.out
    go_wp2_with fail
    refine HCQ.out.mono ?_
    unfold Q2
    rintro e w4 ⟨K, ka, kb, kc, hK, hKr, rfl, hks, hB4⟩
    have hdK := HAP.out K hK
    have hb4 := HB3.out.trans (hB4.mono HB3.out.size)
    have HQ4 := Lib.hid ((hB4.block qb q4).trans HQ3.out); have HX4 := Lib.hid ((hB4.block w.heap.size x4).trans HX3.out)
    have HNW4 := Lib.hid (HNQ.out _ hb4 (HES3.out.below hB4 (Nat.le_refl _)))
    have HKS := Lib.hid hks; have HB4 := Lib.hid hb4; have HKR := Lib.hid hKr; have HDK := Lib.hid hdK
    clear q0 q1 q2 q3 q4 x0 x1 x2 x3 x4
    obtain ⟨q0, q1, q2, q3, q4⟩ := sys9 HQ4.out
    obtain ⟨x0, x1, x2, x3, x4⟩ := sys9 HX4.out
    clear hK hKr hks hB4 hb4 hdK HQ3 HX3 HES3 HB3 HNQ HCQ HAP
    go_wp2_with fail
    refine HNW4.out.mono ?_
    rintro e w5 ⟨gb, rfl, hgr, hB5, hz5⟩
    have hb5 := HB4.out.trans (hB5.mono HB4.out.size)
    have HQ5 := Lib.hid ((hB5.block qb q4).trans HQ4.out); have HX5 := Lib.hid ((hB5.block w.heap.size x4).trans HX4.out)
    have HCS5 := Lib.hid (HCS.out _ hb5)
    have HKS5 := Lib.hid (HKS.out.below hB5 (Nat.le_refl _)); have HB5 := Lib.hid hb5; have HGR := Lib.hid hgr
    clear q0 q1 q2 q3 q4 x0 x1 x2 x3 x4
    obtain ⟨q0, q1, q2, q3, q4⟩ := sys9 HQ5.out
    obtain ⟨x0, x1, x2, x3, x4⟩ := sys9 HX5.out
    clear hz5 hgr hB5 hb5 HQ4 HX4 HKS HB4 HNW4 HCS
    go_wp2_with fail
    refine HCS5.out.mono ?_
    unfold Q2
    rintro e w6 ⟨D, da, db, dc, hD, hDr, rfl, hds, hB6⟩
    have hdD := HDC.out D hD
    have hb6 := HB5.out.trans (hB6.mono HB5.out.size)
    have HQ6 := Lib.hid ((hB6.block qb q4).trans HQ5.out); have HX6 := Lib.hid ((hB6.block w.heap.size x4).trans HX5.out)
    have HNW6 := Lib.hid (HNW.out _ hb6)
    have HKS6 := Lib.hid (HKS5.out.below hB6 (Nat.le_refl _)); have HB6 := Lib.hid hb6; have HGR6 := Lib.hid (HGR.out.below hB6)
    have HDS := Lib.hid hds; have HDR := Lib.hid hDr; have HDD := Lib.hid hdD
    clear q0 q1 q2 q3 q4 x0 x1 x2 x3 x4
    obtain ⟨q0, q1, q2, q3, q4⟩ := sys9 HQ6.out
    obtain ⟨x0, x1, x2, x3, x4⟩ := sys9 HX6.out
    clear hD hDr hds hdD hB6 hb6 HQ5 HX5 HKS5 HB5 HGR HNW HCS5 HDC
    go_wp2_with fail
    refine HNW6.out.mono ?_
    rintro e w7 ⟨rb, rfl, hrr, hB7, hz7⟩
    have hb7 := HB6.out.trans (hB7.mono HB6.out.size)
    have HQ7 := Lib.hid ((hB7.block qb q4).trans HQ6.out); have HX7 := Lib.hid ((hB7.block w.heap.size x4).trans HX6.out)
    have HKS7 := Lib.hid (HKS6.out.below hB7 (Nat.le_refl _)); have HB7 := Lib.hid hb7; have HGR7 := Lib.hid (HGR6.out.below hB7); have HDS7 := Lib.hid (HDS.out.below hB7 (Nat.le_refl _)); have HRR7 := Lib.hid hrr
    clear q0 q1 q2 q3 q4 x0 x1 x2 x3 x4
    obtain ⟨q0, q1, q2, q3, q4⟩ := sys9 HQ7.out
    obtain ⟨x0, x1, x2, x3, x4⟩ := sys9 HX7.out
    clear hz7 hrr hB7 hb7 HQ6 HX6 HKS6 HB6 HGR6 HDS HNW6
    have hnz : ¬ ((n : Int) = 0) := by omega
    have hmk := run_make_row' (P := Tryz.prog) 43 4 (.bool false) 1 Tryz.underlying43 (by kernel_rfl) rfl .i64 .i64 (n + 1) (by omega) (by omega)
    rw [show ((n + 1 : Nat) : Int) = (n : Int) + 1 from by simp] at hmk
    obtain rfl := HDS7.out.ad (by rw [fl_len]; omega)
    obtain ⟨P, hP⟩ : ∃ P, P = reachL s.norm := ⟨_, rfl⟩
    have hPr : ∀ x ∈ P, 0 ≤ x ∧ x < (n : Int) := fun x hx => by
      have := reachL_rng (s := s.norm) (x := x) (by rw [← hP]; exact hx)
      rw [HNN.out] at this; exact this
    have hPl : P.length ≤ n := by
      have := reachL_len (s := s.norm)
      rw [← hP, HNN.out] at this; simpa using this
    rw [← hP] at HDD
    have HPR := Lib.hid hPr
    have hba := (Below.refl w7.heap.size w7).alloc (Nat.le_refl _) (Obj.cells (madeCells #[.bool false] (n + 1)) 4)
    have hrow := World.rowIs_made w7 (.bool false) (n + 1) 4
    have HRC := Lib.hid (reach_ok (HRR7.out.below hba) (by rw [HNN.out]; omega))
    rw [← hP] at HRC
    have HBA := Lib.hid hba; have HROW := Lib.hid hrow
    clear hP hPr hba hrow
    go_wp2_with fail
    refine HRC.out.mono ?_
    rintro e w9 ⟨v, rfl, hown, hB9⟩
    obtain ⟨ga, gc, g, rfl, hg1, hg2, hsl, hg3⟩ := slAt_own lenI hown
    have hsz := hB9.size
    have hszs : w7.heap.size + 1 ≤ w9.heap.size := by simpa using hsz
    have hrow9 := HROW.out.of_block (hB9.block w7.heap.size (by simp))
    have hbe9 := HBA.out.trans (hB9.mono HBA.out.size)
    have HS9 := Lib.hid hsl; have HR9 := Lib.hid hrow9; have HB9 := Lib.hid hbe9
    have HG9 : RowKit.Hid (0 < P.length → w7.heap.size + 1 ≤ g) := Lib.hid (fun h => by simpa using hg3 h)
    obtain ⟨SB, hSB⟩ : ∃ SB, SB = w7.heap.size := ⟨_, rfl⟩
    have HSB := Lib.hid hSB
    rw [← hSB] at HR9 HG9 ⊢
    clear hsz hrow9 hbe9 hsl hown hg1 hg2 hg3 hB9 hSB HRC HROW HBA hszs hmk
    go_wp2_with fail
    go_loopw [17, 84] (fun v17 v84 wr => ∃ k : Nat, v84 = .int .i64 k ∧ k ≤ P.length ∧ v17 = .int .i64 ((clsL (fl n D) (P.take k)).length : Int) ∧ wr.rowIs SB 4 (n + 1) (fun j => .bool (decide ((j : Int) ∈ clsL (fl n D) (P.take k)))) ∧ SlAt encI 1 wr ga g 0 P ∧ Below w7.heap.size w7 wr)
      (fun _ v84 _ => P.length - (intOf v84).toNat)
    case atStart => exact ⟨0, rfl, Nat.zero_le _, rfl, HR9.out.congr (fun j _ => by simp [clsL, Pl.dist]), HS9.out, HB9.out⟩
    case round =>
      obtain ⟨k, rfl, hk, rfl, hrw, hsl, hbw⟩ := hrel
      have HRW := Lib.hid hrw; have HSL := Lib.hid hsl; have HBW := Lib.hid hbw
      clear hrw hsl hbw HR9 HS9 HB9
      by_cases hkl : k < P.length
      · obtain ⟨x, hx⟩ := getElem?_of_lt hkl
        have hxr := HPR.out x (List.mem_of_getElem? hx)
        obtain ⟨z, rfl⟩ : ∃ z : Nat, x = (z : Int) := ⟨x.toNat, by omega⟩
        have hzn : z < n := by omega
        have hdz := HDR.out z hzn
        obtain ⟨d, hd⟩ : ∃ d : Nat, D z = (d : Int) := ⟨(D z).toNat, by omega⟩
        rw [hd] at hdz
        have hdn : d < n := by omega
        have hdn1 : (d : Int) < (n : Int) + 1 := by omega
        have hznI : (z : Int) < (n : Int) := by omega
        have hkI : (k : Int) < (P.length : Int) := by omega
        obtain rfl := HSL.out.ad (by omega)
        have c0 := HSL.out.ci hx
        simp only [Nat.zero_add] at c0
        have c1 := (HDS7.out.below HBW.out (Nat.le_refl _)).ci (fl_get D hzn)
        simp only [Nat.zero_add] at c1
        rw [hd] at c1
        have hsn := clsL_snoc (L := fl n D) hx
        have hat : atL (fl n D) (z : Int) = (d : Int) := by rw [atL_fl (by omega) hznI]; simpa using hd
        rw [hat] at hsn
        have c2 : wr.cell? ⟨SB, d, none⟩ = some (.bool (decide ((d : Int) ∈ clsL (fl n D) (P.take k)))) := HRW.out.cell (by omega)
        have f2 : wr.frozen? ⟨SB, d, none⟩ = false := HRW.out.frozen d
        have hsb : SB < wr.heap.size := HRW.out.lt
        have hll : (clsL (fl n D) (P.take k)).length ≤ k := clsL_len _ _ _
        have HSN := Lib.hid hsn
        have hgs : g ≠ SB := by have := HG9.out (by omega); omega
        clear hx hd hat hsn hxr hdz
        obtain ⟨X, hX⟩ : ∃ X, X = clsL (fl n D) (P.take k) := ⟨_, rfl⟩
        rw [← hX] at HSN c2 hll HRW ⊢
        clear hX
        by_cases hin : (d : Int) ∈ X
        · have hde : decide ((d : Int) ∈ X) = true := by simp [hin]
          rw [hde] at c2
          have hx1 := HSN.out
          rw [if_pos hin] at hx1
          have HX1 := Lib.hid hx1
          clear hde hin hx1
          go_wp2_with fail
          go_roundw
          case rel => exact ⟨k + 1, by go_num, by omega, by rw [HX1.out], by rw [HX1.out]; exact HRW.out, HSL.out, HBW.out⟩
          case measure => simp [intOf]; omega
        · have hde : decide ((d : Int) ∈ X) = false := by simp [hin]
          rw [hde] at c2
          have hx1 := HSN.out
          rw [if_neg hin] at hx1
          have HX1 := Lib.hid hx1
          clear hde hin hx1
          go_wp2_with fail
          go_roundw
          case rel =>
            refine ⟨k + 1, by go_num, by omega, by rw [HX1.out, List.length_append]; rfl, ?_, HSL.out.setOther (fun _ => hgs) _, HBW.out.setCell (by rw [HSB.out]; exact Nat.le_refl _) _⟩
            rw [HX1.out]
            refine (HRW.out.set d (.bool true)).congr (fun i _ => ?_)
            by_cases hi : i = d
            · subst hi; simp
            · rw [if_neg hi]; congr 1; simp only [List.mem_append, List.mem_singleton]
              have : ¬ ((i : Int) = (d : Int)) := by omega
              simp [this]
          case measure => simp [intOf]; omega
      · obtain rfl : k = P.length := by omega
        rw [List.take_of_length_le (Nat.le_refl _), HDD.out]
        have HBZ := Lib.hid (HB7.out.trans (HBW.out.mono HB7.out.size))
        obtain ⟨q0, q1, q2, q3, q4⟩ := sys9 ((HBW.out.block qb q4).trans HQ7.out)
        have g4 : qb < w7.heap.size := (Array.getElem?_eq_some_iff.1 HQ7.out).1
        have HKP : RowKit.Hid (∀ W, Below wr.heap.size wr W → W.cell? ⟨qb, 0, none⟩ = some (.int .i64 m) ∧ Below wr.heap.size wr W) := Lib.hid (fun W hW =>
          ⟨(sys9 ((hW.block qb (Nat.lt_of_lt_of_le g4 HBW.out.size)).trans ((HBW.out.block qb g4).trans HQ7.out))).1, hW⟩)
        have HAV : RowKit.Hid (∀ W, Below wr.heap.size wr W → Calls Tryz.prog 13 #[] W fun e w' => e = .returned (.bool true) ∧ Below wr.heap.size wr w') := Lib.hid (fun W hW =>
          (ALV.out W (HBZ.out.trans (hW.mono HBZ.out.size))).mono (by rintro e w' ⟨rfl, _, hB⟩; exact ⟨rfl, hW.trans (hB.mono hW.size)⟩))
        have HTG : RowKit.Hid (∀ W, Below wr.heap.size wr W → Calls Tryz.prog 18 #[.slice ka m kc] W fun e w' => e = .returned (.int .i64 (m : Int)) ∧ Below wr.heap.size wr w') := Lib.hid (fun W hW => by
          have h1 := together_any (c := kc) ((HKS7.out.below HBW.out (Nat.le_refl _)).below hW (Nat.le_refl _)) (by rw [fl_len]; omega) (fun x hx => by
            obtain ⟨i, hi⟩ := List.getElem?_of_mem hx
            have hil : i < m := by have := (List.getElem?_eq_some_iff.1 hi).1; rwa [fl_len] at this
            rw [fl_get K hil] at hi
            obtain rfl := Option.some.inj hi
            have := HKR.out i hil
            exact WalkArith.wf_i64 (by omega))
          rw [fl_len, HDK.out] at h1
          exact h1.mono (by rintro e w' ⟨rfl, hB⟩; exact ⟨rfl, hW.trans (hB.mono hW.size)⟩))
        have HRG : RowKit.Hid (∀ W, Below wr.heap.size wr W → Calls Tryz.prog 17 #[.pointer (some ⟨gb, 0, none⟩)] W fun e w' => ∃ (a7 : Option Addr) (c7 : Nat), e = .returned (.slice a7 m c7) ∧ Below wr.heap.size wr w') := Lib.hid (fun W hW =>
          (reach_ok ((HGR7.out.below HBW.out).below hW) (by rw [HQST.out]; omega)).mono (by
            rintro e w' ⟨v, rfl, hown, hB⟩
            obtain ⟨a7, c7, b7, rfl, _, _, _, _⟩ := slAt_own lenI hown
            rw [HRE.out]
            exact ⟨a7, c7, rfl, hW.trans (hB.mono hW.size)⟩))
        obtain ⟨p0, p1⟩ := HKP.out wr (Below.refl _ _)
        have hdr : Below wr.heap.size wr wr.drew := (Below.refl _ _).drew
        have hds := hdr.size
        clear q0 q1 q2 q3 q4 x0 x1 x2 x3 x4
        go_upto_region 21 with fail
        go_region_held3 (fun W => W.cell? ⟨qb, 0, none⟩ = some (.int .i64 m) ∧ Below wr.heap.size wr W)
          (exact HKP.out _ (by assumption))
          (first
            | (go_at_call 13; go_split_ands; refine (HAV.out _ (by assumption)).mono ?_; rintro e w' ⟨rfl, hB⟩)
            | (go_at_call 18; go_split_ands; refine (HTG.out _ (by assumption)).mono ?_; rintro e w' ⟨rfl, hB⟩)
            | (go_at_call 17; go_split_ands; refine (HRG.out _ (by assumption)).mono ?_; rintro e w' ⟨a7, c7, rfl, hB⟩))
        all_goals go_split_ands
        all_goals go_wp2_with fail
        all_goals go_ret
        all_goals exact ⟨rfl, HBZ.out.trans (Below.mono (by assumption) HBZ.out.size)⟩
end Go.Proofs.YtmlmjhmdjieigaaGreatDoor

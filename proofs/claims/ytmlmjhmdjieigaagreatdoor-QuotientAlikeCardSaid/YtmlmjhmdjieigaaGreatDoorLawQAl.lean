/-
  law14.QuotientAlike.
-/
import Derived.Test.YtmlmjhmdjieigaaGreatDoorGCls14
import Derived.Test.YtmlmjhmdjieigaaGreatDoorGQuoY
import Derived.Test.YtmlmjhmdjieigaaGreatDoorQuoCz
import Derived.Test.YtmlmjhmdjieigaaGreatDoorCodeQ
import Derived.Deep.RegionHeldLaw
namespace Go.Proofs.YtmlmjhmdjieigaaGreatDoor
open Go.RowKit Pl

set_option maxRecDepth 100000 in
set_option maxHeartbeats 8000000 in
theorem quoAlike_any {w : World} {p : Addr} (hE : ErrsQ p w) (hT : ErrType w) (htab : Lib.TabIs Tryz.prog w "internal/strconv.uint64pow10" .u64 Lib.pow10Tab) {s : Lts} {a : Option Addr} {b off c : Nat} (hS : SlAt encE 3 w a b off s.es) (kind : Bool) :
    Calls Tryz.prog 6 #[.agg #[.int .i64 s.st, .int .i64 s.lb, .int .i64 s.s0, .slice a s.es.length c], .bool kind] w fun e w' => e = .returned (.bool true) ∧ Below w.heap.size w w' := by
  have hB0 := (Below.refl w.heap.size w).alloc (Nat.le_refl _) (Obj.cells #[.int .i64 s.st, .int .i64 s.lb, .int .i64 s.s0, .slice a s.es.length c] 24)
  have hbx := heap_alloc_new w (Obj.cells #[.int .i64 s.st, .int .i64 s.lb, .int .i64 s.s0, .slice a s.es.length c] 24)
  have HER := Lib.hid hE; have HG := Lib.hid hE.sys; have HTY := Lib.hid hT; have HT := Lib.hid (Lib.tabBelow_of_tabIs htab); have HS := Lib.hid hS; have HB0 := Lib.hid hB0; have HBX := Lib.hid hbx
  have HSM := Lib.hid (small14_any s.s0 s.st s.lb a s.es.length c (w.alloc (Obj.cells #[.int .i64 s.st, .int .i64 s.lb, .int .i64 s.s0, .slice a s.es.length c] 24)))
  clear hE hT htab hS hB0 hbx
  have ALV : RowKit.Hid (∀ w1 : World, Below w.heap.size w w1 → Calls Tryz.prog 13 #[] w1 fun e w' => e = .returned (.bool true) ∧ Below w.heap.size w w' ∧ Below w1.heap.size w1 w') := Lib.hid (by
    intro w1 h1
    refine (alive14_any (HG.out.below h1)).mono ?_
    rintro e w' ⟨rfl, hB⟩
    exact ⟨rfl, h1.trans (hB.mono h1.size), hB⟩)
  by_cases hsm : (decide (s.st ≤ 40) && decide (s.es.length ≤ 250)) = true
  case neg =>
    have hsf : (decide (s.st ≤ 40) && decide (s.es.length ≤ 250)) = false := by simpa using hsm
    rw [hsf] at HSM
    clear hsm hsf
    go_enter Tryz.func6, Tryz.ntmps6
    go_wp2_with fail
    refine HSM.out.mono ?_
    rintro e w1 ⟨rfl, hB1⟩
    have HB1 := Lib.hid (HB0.out.trans (hB1.mono (by simp)))
    clear hB1
    go_wp2_with fail
    refine (ALV.out _ HB1.out).mono ?_
    rintro e w2 ⟨rfl, hB, _⟩
    go_wp2
    go_ret
    exact ⟨rfl, hB⟩
  rw [hsm] at HSM
  have hs1 : s.st ≤ 40 ∧ s.es.length ≤ 250 := by simpa using hsm
  clear hsm
  by_cases hr : s.Right
  case neg =>
    have HMD := Lib.hid (fun (W : World) (hB : Below w.heap.size w W) => madeF_no (c := c) hr (HG.out.below hB) (HTY.out.below hB) (HS.out.below hB (Nat.le_refl _)) kind)
    clear hr hs1
    go_enter Tryz.func6, Tryz.ntmps6
    go_wp2_with fail
    refine HSM.out.mono ?_
    rintro e w1 ⟨rfl, hB1⟩
    have hb1 := HB0.out.trans (hB1.mono (by simp))
    have hx1 := (hB1.block w.heap.size (by simp)).trans HBX.out
    have HB1 := Lib.hid hb1; have HX1 := Lib.hid hx1
    obtain ⟨x0, x1, x2, x3, x4⟩ := sys9 hx1
    clear hB1 hb1 hx1 HSM HB0 HBX
    go_wp2_with fail
    refine (HMD.out _ HB1.out).mono ?_
    unfold QuoNoF
    rintro e w2 ⟨fb, rfl, hF, hB2⟩
    have hBe := (Below.refl w2.heap.size w2).alloc (Nat.le_refl _) (Obj.cells #[.int .i64 0, .int .i64 0, .int .i64 0, .slice none 0 0] 24)
    have hb2 := HB1.out.trans (hB2.mono HB1.out.size)
    have HB2 := Lib.hid (hb2.trans (hBe.mono hb2.size))
    have HF2 := Lib.hid (hF.below hBe)
    clear hF hBe hb2 hB2 HMD x0 x1 x2 x3 x4
    go_wp2_with fail
    refine (ALV.out _ HB2.out).mono ?_
    rintro e w5 ⟨rfl, hB, hBs⟩
    have HCD := Lib.hid (codeQ_at (HER.out.below hB) (HF2.out.below hBs))
    have HB5 := Lib.hid hB
    clear hB hBs HF2
    go_wp2_with fail
    refine HCD.out.mono ?_
    rintro e w6 ⟨rfl, rfl⟩
    go_wp2_with fail
    go_ret
    exact ⟨rfl, HB5.out⟩
  have hst := hr.st0
  obtain ⟨n, hn⟩ : ∃ n : Nat, s.st = (n : Int) := ⟨s.st.toNat, by omega⟩
  have hn40 : n ≤ 40 := by omega
  rcases Nat.eq_zero_or_pos n with rfl | hn0
  · have hn' : s.st = 0 := by rw [hn]; rfl
    have hz0 : s.s0 = 0 := by
      have h0 := hr.head
      unfold HeadBad at h0
      omega
    have hel : s.es.length = 0 := by
      rcases hes : s.es with _ | ⟨x, l⟩
      · rfl
      · have h1 := offB_false.1 (hr.edges x (by rw [hes]; simp))
        omega
    have HMD := Lib.hid (fun (W : World) (hB : Below w.heap.size w W) => made_zero (c := c) hr hn' (HG.out.below hB) (HT.out _ hB) (HS.out.below hB (Nat.le_refl _)) kind)
    have hrz : Lts.Right ⟨0, s.lb, 0, []⟩ := by
      refine ⟨?_, fun x hx => by simp at hx⟩
      have h0 := hr.head
      unfold HeadBad at h0 ⊢
      simp only [List.length_nil] at h0 ⊢
      omega
    have HUZ := Lib.hid (fun (W : World) (hB : Below w.heap.size w W) (ea : Option Addr) (ec : Nat) => unionZero_any (a := a) (a2 := ea) (c := c) (c2 := ec) hrz hrz (HG.out.below hB))
    have HCZ := Lib.hid (fun (W : World) (hB : Below w.heap.size w W) (ea : Option Addr) (ec : Nat) => cls14_any (s := ⟨0, s.lb, 0, []⟩) (n := 0) (a := ea) (b := 0) (off := 0) (c := ec) hrz rfl (by simp) (HG.out.below hB) (HT.out _ hB) (slAt_nil _ _ _ _) kind)
    rw [hn', hz0, hel] at HSM HB0 HBX HMD ⊢
    clear hr hst hn hn' hrz hs1 hz0 hel
    go_enter Tryz.func6, Tryz.ntmps6
    go_wp2_with fail
    refine HSM.out.mono ?_
    rintro e w1 ⟨rfl, hB1⟩
    have hb1 := HB0.out.trans (hB1.mono (by simp))
    have hx1 := (hB1.block w.heap.size (by simp)).trans HBX.out
    have HB1 := Lib.hid hb1; have HX1 := Lib.hid hx1
    obtain ⟨x0, x1, x2, x3, x4⟩ := sys9 hx1
    clear hB1 hb1 hx1 HSM HB0 HBX
    go_wp2_with fail
    refine (HMD.out _ HB1.out).mono ?_
    unfold Q3
    rintro e w2 ⟨Q, T, ev, ea, ta, eb, ec, tb, tc, rfl, ⟨rfl, rfl, rfl⟩, hz1, hz2, hz3, hz4, hB2⟩
    have hb2 := HB1.out.trans (hB2.mono HB1.out.size)
    have hBe := (Below.refl w2.heap.size w2).alloc (Nat.le_refl _) (Obj.cells #[.int .i64 0, .int .i64 s.lb, .int .i64 0, .slice ea 0 ec] 24)
    have hb3 := hb2.trans (hBe.mono hb2.size)
    have hq3 := heap_alloc_new w2 (Obj.cells #[.int .i64 0, .int .i64 s.lb, .int .i64 0, .slice ea 0 ec] 24)
    have hx3 := (hBe.block w.heap.size (by have := hB2.size; omega)).trans ((hB2.block w.heap.size x4).trans HX1.out)
    have HUQ := Lib.hid (HUZ.out _ hb3 ea ec)
    have HB3 := Lib.hid hb3; have HQ3 := Lib.hid hq3; have HX3 := Lib.hid hx3
    clear hz1 hz2 hz3 hz4 hb2 hBe hb3 hq3 hx3 hB2 HMD HX1 HUZ x0 x1 x2 x3 x4
    go_upto_region 4 with fail
    obtain ⟨W3, hW3⟩ : ∃ W3, W3 = w2.alloc (Obj.cells #[.int .i64 0, .int .i64 s.lb, .int .i64 0, .slice ea 0 ec] 24) := ⟨_, rfl⟩
    obtain ⟨qb, hqb⟩ : ∃ qb, qb = w2.heap.size := ⟨_, rfl⟩
    rw [← hW3] at HQ3 HB3 HX3 HUQ ⊢
    rw [← hqb] at HQ3 ⊢
    clear hW3 hqb
    obtain ⟨q0, q1, q2, q3, q4⟩ := sys9 HQ3.out
    obtain ⟨x0, x1, x2, x3, x4⟩ := sys9 HX3.out
    go_wp2_with fail
    refine HUQ.out.mono ?_
    rintro e w4 ⟨ua, uc, rfl, hB4⟩
    rw [show max s.lb s.lb = s.lb from by omega]
    have hb4 := HB3.out.trans (hB4.mono HB3.out.size)
    have hBe := (Below.refl w4.heap.size w4).alloc (Nat.le_refl _) (Obj.cells #[.int .i64 0, .int .i64 s.lb, .int .i64 0, .slice ua 0 uc] 24)
    have hb5 := hb4.trans (hBe.mono hb4.size)
    have HCQ := Lib.hid (HCZ.out _ hb5 ua uc)
    have hu5 := heap_alloc_new w4 (Obj.cells #[.int .i64 0, .int .i64 s.lb, .int .i64 0, .slice ua 0 uc] 24)
    have hq5 := (hBe.block qb (by have := hB4.size; omega)).trans ((hB4.block qb q4).trans HQ3.out)
    have hx5 := (hBe.block w.heap.size (by have := hB4.size; omega)).trans ((hB4.block w.heap.size x4).trans HX3.out)
    have HB5 := Lib.hid hb5; have HU5 := Lib.hid hu5; have HQ5 := Lib.hid hq5; have HX5 := Lib.hid hx5
    clear hb4 hBe hb5 hu5 hq5 hx5 hB4 HUQ HCZ HB3 HQ3 HX3 q0 q1 q2 q3 q4 x0 x1 x2 x3 x4
    go_upto_region 7 with fail
    obtain ⟨W5, hW5⟩ : ∃ W5, W5 = w4.alloc (Obj.cells #[.int .i64 0, .int .i64 s.lb, .int .i64 0, .slice ua 0 uc] 24) := ⟨_, rfl⟩
    obtain ⟨vb, hvb⟩ : ∃ vb, vb = w4.heap.size := ⟨_, rfl⟩
    rw [← hW5] at HCQ HU5 HQ5 HX5 HB5 ⊢
    rw [← hvb] at HU5 ⊢
    clear hW5 hvb
    obtain ⟨q0, q1, q2, q3, q4⟩ := sys9 HQ5.out
    obtain ⟨x0, x1, x2, x3, x4⟩ := sys9 HX5.out
    obtain ⟨ub0, ub1, ub2, ub3, ub4⟩ := sys9 HU5.out
    go_wp2_with fail
    refine HCQ.out.mono ?_
    unfold Q2
    rintro e w6 ⟨K, ka, kb, kc, hK, hKr, rfl, hks, hB6⟩
    have hb6 := HB5.out.trans (hB6.mono HB5.out.size)
    have HQ6 := Lib.hid ((hB6.block qb q4).trans HQ5.out); have HX6 := Lib.hid ((hB6.block w.heap.size x4).trans HX5.out); have HU6 := Lib.hid ((hB6.block vb ub4).trans HU5.out)
    have HB6 := Lib.hid hb6
    clear q0 q1 q2 q3 q4 x0 x1 x2 x3 x4 ub0 ub1 ub2 ub3 ub4
    clear hK hKr hks hB6 hb6 HQ5 HX5 HU5 HCQ HB5
    obtain ⟨q0, q1, q2, q3, q4⟩ := sys9 HQ6.out
    obtain ⟨x0, x1, x2, x3, x4⟩ := sys9 HX6.out
    obtain ⟨ub0, ub1, ub2, ub3, ub4⟩ := sys9 HU6.out
    go_wp2_with fail
    refine wp_loop_rounds 1 ?_
    rw [rounds_succ]
    have g5 : w.heap.size < w6.heap.size := (Array.getElem?_eq_some_iff.1 HX6.out).1
    have HKP : RowKit.Hid (∀ W, Below w6.heap.size w6 W → W.cell? ⟨w.heap.size, 0, none⟩ = some (.int .i64 0) ∧ Below w6.heap.size w6 W) := Lib.hid (fun W hW =>
      ⟨(sys9 ((hW.block w.heap.size g5).trans HX6.out)).1, hW⟩)
    have HAV : RowKit.Hid (∀ W, Below w6.heap.size w6 W → Calls Tryz.prog 13 #[] W fun e w' => e = .returned (.bool true) ∧ Below w6.heap.size w6 w') := Lib.hid (fun W hW =>
      (ALV.out W (HB6.out.trans (hW.mono HB6.out.size))).mono (by rintro e w' ⟨rfl, _, hB⟩; exact ⟨rfl, hW.trans (hB.mono hW.size)⟩))
    have f1 : ((0 : Int) == 0) = true := by simp
    go_upto_region 15 with fail
    clear q0 q1 q2 q3 q4 x0 x1 x2 x3 x4 ub0 ub1 ub2 ub3 ub4
    obtain ⟨p0, p1⟩ := HKP.out w6 (Below.refl _ _)
    have hdr : Below w6.heap.size w6 w6.drew := (Below.refl _ _).drew
    have hds := hdr.size
    refine wp_region_held_drew (S := (fun W => W.cell? ⟨w.heap.size, 0, none⟩ = some (.int .i64 0) ∧ Below w6.heap.size w6 W)) (by kernel_rfl) (by (try dsimp only); exact HKP.out _ hdr) (fun hHeld => ?_)
    refine wpAnyH_ready (rs := [0]) (by kernel_rfl) (by simp) ?_
    refine AllReadyH.cons rfl (fun K hK => ?_) AllReadyH.nil
    go_simp
    go_at_call 13
    refine (HAV.out _ hdr).mono ?_
    rintro e w' ⟨rfl, hB⟩
    refine hK.out _ _ (by (try dsimp only); exact HKP.out _ hB) (fun hHeld => ?_)
    clear hK K
    try simp only [List.getElem_toArray, List.getElem_cons_zero, List.getElem_cons_succ, Act.put, List.setIfInBounds_toArray, List.set_cons_zero, List.set_cons_succ]
    refine wpAnyH_take (i := 1) (v := ?_) rfl (by kernel_rfl) (by kernel_rfl) (by kernel_rfl) (fun _ _ _ h => h) (Or.inl ⟨by rfl, ?_⟩) (by assumption) ?_
    rotate_left
    · intro w hSw
      try dsimp only at hSw
      go_simp
      try with_reducible rfl
    try simp only [List.getElem_toArray, List.getElem_cons_zero, List.getElem_cons_succ, Act.put, List.setIfInBounds_toArray, List.set_cons_zero, List.set_cons_succ]
    refine wpAnyH_take (i := 2) (v := ?_) rfl (by kernel_rfl) (by kernel_rfl) (by kernel_rfl) (fun _ _ _ h => h) (Or.inl ⟨by rfl, ?_⟩) (by assumption) ?_
    rotate_left
    · intro w hSw
      try dsimp only at hSw
      go_simp
      try with_reducible rfl
    try simp only [List.getElem_toArray, List.getElem_cons_zero, List.getElem_cons_succ, Act.put, List.setIfInBounds_toArray, List.set_cons_zero, List.set_cons_succ]
    refine wpAnyH_take (i := 3) (v := ?_) rfl (by kernel_rfl) (by kernel_rfl) (by kernel_rfl) (fun _ _ _ h => h) (Or.inl ⟨by rfl, ?_⟩) (by assumption) ?_
    rotate_left
    · intro w hSw
      try dsimp only at hSw
      go_simp
      try with_reducible rfl
    try simp only [List.getElem_toArray, List.getElem_cons_zero, List.getElem_cons_succ, Act.put, List.setIfInBounds_toArray, List.set_cons_zero, List.set_cons_succ]
    refine wpAnyH_take (i := 4) (v := ?_) rfl (by kernel_rfl) (by kernel_rfl) (by kernel_rfl) (fun _ _ _ h => h) (Or.inl ⟨by rfl, ?_⟩) (by assumption) ?_
    rotate_left
    · intro w hSw
      try dsimp only at hSw
      go_simp
      try with_reducible rfl
    try simp only [List.getElem_toArray, List.getElem_cons_zero, List.getElem_cons_succ, Act.put, List.setIfInBounds_toArray, List.set_cons_zero, List.set_cons_succ]
    refine wpAnyH_take (i := 5) (v := ?_) rfl (by kernel_rfl) (by kernel_rfl) (by kernel_rfl) (fun _ _ _ h => h) (Or.inl ⟨by rfl, ?_⟩) (by assumption) ?_
    rotate_left
    · intro w hSw
      try dsimp only at hSw
      go_simp
      try with_reducible rfl
    try simp only [List.getElem_toArray, List.getElem_cons_zero, List.getElem_cons_succ, Act.put, List.setIfInBounds_toArray, List.set_cons_zero, List.set_cons_succ]
    refine wpAnyH_take (i := 6) (v := undef) rfl (by kernel_rfl) (by kernel_rfl) (by kernel_rfl) (fun _ _ _ h => h) (Or.inr ⟨by rfl, rfl⟩) (by assumption) ?_
    try simp only [List.getElem_toArray, List.getElem_cons_zero, List.getElem_cons_succ, Act.put, List.setIfInBounds_toArray, List.set_cons_zero, List.set_cons_succ]
    refine wpAnyH_take (i := 7) (v := undef) rfl (by kernel_rfl) (by kernel_rfl) (by kernel_rfl) (fun _ _ _ h => h) (Or.inr ⟨by rfl, rfl⟩) (by assumption) ?_
    try simp only [List.getElem_toArray, List.getElem_cons_zero, List.getElem_cons_succ, Act.put, List.setIfInBounds_toArray, List.set_cons_zero, List.set_cons_succ]
    refine wpAnyH_take (i := 8) (v := undef) rfl (by kernel_rfl) (by kernel_rfl) (by kernel_rfl) (fun _ _ _ h => h) (Or.inr ⟨by rfl, rfl⟩) (by assumption) ?_
    try simp only [List.getElem_toArray, List.getElem_cons_zero, List.getElem_cons_succ, Act.put, List.setIfInBounds_toArray, List.set_cons_zero, List.set_cons_succ]
    refine wpAnyH_take (i := 9) (v := undef) rfl (by kernel_rfl) (by kernel_rfl) (by kernel_rfl) (fun _ _ _ h => h) (Or.inr ⟨by rfl, rfl⟩) (by assumption) ?_
    try simp only [List.getElem_toArray, List.getElem_cons_zero, List.getElem_cons_succ, Act.put, List.setIfInBounds_toArray, List.set_cons_zero, List.set_cons_succ]
    refine wpAnyH_take (i := 10) (v := undef) rfl (by kernel_rfl) (by kernel_rfl) (by kernel_rfl) (fun _ _ _ h => h) (Or.inr ⟨by rfl, rfl⟩) (by assumption) ?_
    try simp only [List.getElem_toArray, List.getElem_cons_zero, List.getElem_cons_succ, Act.put, List.setIfInBounds_toArray, List.set_cons_zero, List.set_cons_succ]
    refine wpAnyH_take (i := 11) (v := undef) rfl (by kernel_rfl) (by kernel_rfl) (by kernel_rfl) (fun _ _ _ h => h) (Or.inr ⟨by rfl, rfl⟩) (by assumption) ?_
    try simp only [List.getElem_toArray, List.getElem_cons_zero, List.getElem_cons_succ, Act.put, List.setIfInBounds_toArray, List.set_cons_zero, List.set_cons_succ]
    refine wpAnyH_take (i := 12) (v := undef) rfl (by kernel_rfl) (by kernel_rfl) (by kernel_rfl) (fun _ _ _ h => h) (Or.inr ⟨by rfl, rfl⟩) (by assumption) ?_
    try simp only [List.getElem_toArray, List.getElem_cons_zero, List.getElem_cons_succ, Act.put, List.setIfInBounds_toArray, List.set_cons_zero, List.set_cons_succ]
    refine wpAnyH_take (i := 13) (v := undef) rfl (by kernel_rfl) (by kernel_rfl) (by kernel_rfl) (fun _ _ _ h => h) (Or.inr ⟨by rfl, rfl⟩) (by assumption) ?_
    try simp only [List.getElem_toArray, List.getElem_cons_zero, List.getElem_cons_succ, Act.put, List.setIfInBounds_toArray, List.set_cons_zero, List.set_cons_succ]
    refine wpAnyH_take (i := 14) (v := ?_) rfl (by kernel_rfl) (by kernel_rfl) (by kernel_rfl) (fun _ _ _ h => h) (Or.inl ⟨by rfl, ?_⟩) (by assumption) ?_
    rotate_left
    · intro w hSw
      try dsimp only at hSw
      go_simp
      try with_reducible rfl
    try simp only [List.getElem_toArray, List.getElem_cons_zero, List.getElem_cons_succ, Act.put, List.setIfInBounds_toArray, List.set_cons_zero, List.set_cons_succ]
    refine wpAnyH_take (i := 15) (v := ?_) rfl (by kernel_rfl) (by kernel_rfl) (by kernel_rfl) (fun _ _ _ h => h) (Or.inl ⟨by rfl, ?_⟩) (by assumption) ?_
    rotate_left
    · intro w hSw
      try dsimp only at hSw
      go_simp
      try with_reducible rfl
    try simp only [List.getElem_toArray, List.getElem_cons_zero, List.getElem_cons_succ, Act.put, List.setIfInBounds_toArray, List.set_cons_zero, List.set_cons_succ]
    refine wpAnyH_take (i := 16) (v := ?_) rfl (by kernel_rfl) (by kernel_rfl) (by kernel_rfl) (fun _ _ _ h => h) (Or.inl ⟨by rfl, ?_⟩) (by assumption) ?_
    rotate_left
    · intro w hSw
      try dsimp only at hSw
      go_simp
      try with_reducible rfl
    try simp only [List.getElem_toArray, List.getElem_cons_zero, List.getElem_cons_succ, Act.put, List.setIfInBounds_toArray, List.set_cons_zero, List.set_cons_succ]
    refine wpAnyH_done (by kernel_rfl) ?_ _
    go_wp2_with fail
    go_ret
    exact ⟨rfl, HB6.out.trans (hB.mono HB6.out.size)⟩
  · have hbm : n * s.es.length ≤ 10000 := Nat.le_trans (Nat.mul_le_mul hn40 hs1.2) (by decide)
    have HMD := Lib.hid (fun (W : World) (hB : Below w.heap.size w W) => made_yes (c := c) hr hn hn0 hbm (by omega) (HG.out.below hB) (HT.out _ hB) (HS.out.below hB (Nat.le_refl _)) kind)
    have HNN : RowKit.Hid (s.norm.st = (n : Int)) := Lib.hid hn
    have HNL : RowKit.Hid (s.norm.es.length ≤ 250) := Lib.hid (Nat.le_trans (length_nf (lt := ltE) s.es) hs1.2)
    have HRR := Lib.hid hr; have HRN := Lib.hid hn; have HSL := Lib.hid hs1.2
    obtain ⟨z, hz⟩ : ∃ z : Nat, s.s0 = (z : Int) := ⟨s.s0.toNat, by omega⟩
    have hzn : z < n := by omega
    have HZ := Lib.hid hz
    rw [hn, hz] at HSM HB0 HBX HMD ⊢
    clear hr hst hn hs1 hbm hz
    go_enter Tryz.func6, Tryz.ntmps6
    go_wp2_with fail
    refine HSM.out.mono ?_
    rintro e w1 ⟨rfl, hB1⟩
    have hb1 := HB0.out.trans (hB1.mono (by simp))
    have hx1 := (hB1.block w.heap.size (by simp)).trans HBX.out
    have HB1 := Lib.hid hb1; have HX1 := Lib.hid hx1
    obtain ⟨x0, x1, x2, x3, x4⟩ := sys9 hx1
    clear hB1 hb1 hx1 HSM HB0 HBX
    go_wp2_with fail
    refine (HMD.out _ HB1.out).mono ?_
    unfold Q3
    rintro e w2 ⟨Q, T, ev, ea, ta, eb, ec, tb, tc, rfl, ⟨C, hK, hQ, hT, rfl⟩, hes, hto, hz3, hz4, hB2⟩
    have hqr := quo_RightI (inert := !kind) HRR.out.norm HNN.out hn0 (fl n C) (by have := HNL.out; omega)
    have hql := quo_lenI (!kind) s.norm (fl n C)
    rw [← hQ] at hqr hql
    have hql2 : Q.es.length ≤ 250 := Nat.le_trans hql HNL.out
    obtain ⟨m, hm⟩ : ∃ m : Nat, Q.st = (m : Int) := ⟨Q.st.toNat, by omega⟩
    have hm0 : 0 < m := by omega
    have hmn : m ≤ 40 := by omega
    obtain ⟨y, hy⟩ : ∃ y : Nat, Q.s0 = (y : Int) := ⟨Q.s0.toNat, by have := hqr.1.st0; omega⟩
    have hm2 : (quoSI (!kind) s.norm (fl n C)).st = (m : Int) := by rw [← hQ]; exact hm
    obtain ⟨F, hF⟩ : ∃ F : Nat → Int, F = fun j => toI (quoD s.norm (fl n C)) (C j) := ⟨_, rfl⟩
    have HFR : RowKit.Hid (∀ j, j < n → -1 ≤ F j ∧ F j < (m : Int)) := Lib.hid (fun j hj => by
      rw [hF]
      show -1 ≤ toI (quoD s.norm (fl n C)) (C j) ∧ toI (quoD s.norm (fl n C)) (C j) < (m : Int)
      have h2 : ((quoD s.norm (fl n C)).length : Int) = (m : Int) := hm2
      by_cases hc : C j ∈ quoD s.norm (fl n C)
      · have h1 := toI_in hc
        omega
      · unfold toI; rw [if_neg hc]; omega)
    have HKF : RowKit.Hid (∀ K, KBig kind (uniS s Q) (n + m) K → ∀ j, j < n → ∀ i : Nat, F j = (i : Int) → i < m ∧ K j = K (n + i)) := Lib.hid (fun K hK2 j hj i hi => by
      rw [hQ] at hK2
      rw [hF] at hi
      exact (alike_all HRR.out HRN.out hn0 (by have := HNL.out; omega) hK hm2 hK2 hj).2.2 i hi)
    have HFZ : RowKit.Hid (F z = (y : Int)) := Lib.hid (by
      rw [← hy, hQ, hF]
      exact alike_start (kind := kind) HZ.out hzn)
    have hTF : T = fl n F := by rw [hT, hF]
    have hTl : T.length = n := by rw [hTF, fl_len]
    rw [hTF] at hto
    have hb2 := HB1.out.trans (hB2.mono HB1.out.size)
    have hBe := (Below.refl w2.heap.size w2).alloc (Nat.le_refl _) (Obj.cells #[.int .i64 Q.st, .int .i64 Q.lb, .int .i64 Q.s0, .slice ea Q.es.length ec] 24)
    have hb3 := hb2.trans (hBe.mono hb2.size)
    have hes3 := hes.below hBe (Nat.le_refl _)
    have hto3 := hto.below hBe (Nat.le_refl _)
    have hq3 := heap_alloc_new w2 (Obj.cells #[.int .i64 Q.st, .int .i64 Q.lb, .int .i64 Q.s0, .slice ea Q.es.length ec] 24)
    have hx3 := (hBe.block w.heap.size (by have := hB2.size; omega)).trans ((hB2.block w.heap.size x4).trans HX1.out)
    have hun := union_any (s := s) (t := Q) (c := c) (c2 := ec) HRR.out hqr.1 (by have := HRN.out; omega) (by have := HRN.out; omega) (by have := HSL.out; omega) (HG.out.below hb3) (HS.out.below hb3 (Nat.le_refl _)) hes3
    have hur := uni_Right HRR.out hqr.1 (by have := HRN.out; omega) (by have := HSL.out; omega)
    have hust : (uniS s Q).st = ((n + m : Nat) : Int) := by
      show s.st + Q.st = _
      have := HRN.out; omega
    have huel : (uniS s Q).es.length ≤ 900 := by
      show (s.es ++ Q.es.map (shE s.st)).length ≤ 900
      rw [List.length_append, List.length_map]
      have := HSL.out; omega
    have HCU := Lib.hid (fun (W : World) (hB : Below w.heap.size w W) (a1 : Option Addr) (b1 c1 : Nat) (h1 : SlAt encE 3 W a1 b1 0 (uniS s Q).es) => cls14_any (s := uniS s Q) (n := n + m) (c := c1) hur hust huel (HG.out.below hB) (HT.out _ hB) h1 kind)
    have HB3 := Lib.hid hb3; have HQ3 := Lib.hid hq3; have HX3 := Lib.hid hx3; have HTO3 := Lib.hid hto3
    rw [HRN.out, HZ.out] at hun
    rw [hm, hy] at HQ3 hun HB3 HX3 HTO3 ⊢
    have HUN := Lib.hid hun; have HUS := Lib.hid hust
    rw [hTl]
    obtain ⟨el, hel⟩ : ∃ el, el = Q.es.length := ⟨_, rfl⟩
    rw [← hel] at HUN HQ3 HB3 HX3 HTO3 hql2 ⊢
    clear hz3 hz4 hes hto hqr hql hm hb2 hBe hb3 hes3 hq3 hx3 hto3 hun hel hB2 hK hQ hT HMD HX1 hy hm2 hTF hTl hF hur hust huel x0 x1 x2 x3 x4
    go_upto_region 4 with fail
    obtain ⟨W3, hW3⟩ : ∃ W3, W3 = w2.alloc (Obj.cells #[.int .i64 (m : Int), .int .i64 Q.lb, .int .i64 (y : Int), .slice ea el ec] 24) := ⟨_, rfl⟩
    obtain ⟨qb, hqb⟩ : ∃ qb, qb = w2.heap.size := ⟨_, rfl⟩
    rw [← hW3] at HQ3 HB3 HX3 HTO3 HUN ⊢
    rw [← hqb] at HQ3 ⊢
    clear hW3 hqb
    obtain ⟨q0, q1, q2, q3, q4⟩ := sys9 HQ3.out
    obtain ⟨x0, x1, x2, x3, x4⟩ := sys9 HX3.out
    go_wp2_with fail
    refine HUN.out.mono ?_
    unfold UniPost
    rintro e w4 ⟨ua, ub, uc, rfl, hus, hB4⟩
    rw [HUS.out, HRN.out]
    obtain ⟨k, hk⟩ : ∃ k, k = n + m := ⟨_, rfl⟩
    have HKN := Lib.hid hk
    have hb4 := HB3.out.trans (hB4.mono HB3.out.size)
    have hBe := (Below.refl w4.heap.size w4).alloc (Nat.le_refl _) (Obj.cells #[.int .i64 (k : Int), .int .i64 (uniS s Q).lb, .int .i64 (uniS s Q).s0, .slice ua (uniS s Q).es.length uc] 24)
    have hb5 := hb4.trans (hBe.mono hb4.size)
    have hcq := HCU.out _ hb5 ua ub uc (hus.below hBe (Nat.le_refl _))
    rw [HUS.out, ← hk] at hcq
    have HCQ := Lib.hid hcq
    have hu5 := heap_alloc_new w4 (Obj.cells #[.int .i64 (k : Int), .int .i64 (uniS s Q).lb, .int .i64 (uniS s Q).s0, .slice ua (uniS s Q).es.length uc] 24)
    have hq5 := (hBe.block qb (by have := hB4.size; omega)).trans ((hB4.block qb q4).trans HQ3.out)
    have hx5 := (hBe.block w.heap.size (by have := hB4.size; omega)).trans ((hB4.block w.heap.size x4).trans HX3.out)
    have HTO5 := Lib.hid ((HTO3.out.below hB4 (Nat.le_refl _)).below hBe (Nat.le_refl _))
    have HB5 := Lib.hid hb5; have HU5 := Lib.hid hu5; have HQ5 := Lib.hid hq5; have HX5 := Lib.hid hx5
    rw [← hk] at HKF ⊢
    obtain ⟨lu, hlu⟩ : ∃ x, x = (uniS s Q).lb := ⟨_, rfl⟩
    obtain ⟨yu, hyu⟩ : ∃ x, x = (uniS s Q).s0 := ⟨_, rfl⟩
    obtain ⟨eu, heu⟩ : ∃ x, x = (uniS s Q).es.length := ⟨_, rfl⟩
    rw [← hlu, ← hyu, ← heu] at HCQ HU5 HQ5 HX5 HTO5 HB5 ⊢
    clear hk hb4 hBe hb5 hcq hu5 hq5 hx5 hlu hyu heu hus hB4 HUN HUS HCU HB3 HQ3 HX3 HTO3 q0 q1 q2 q3 q4 x0 x1 x2 x3 x4
    go_upto_region 7 with fail
    obtain ⟨W5, hW5⟩ : ∃ W5, W5 = w4.alloc (Obj.cells #[.int .i64 (k : Int), .int .i64 lu, .int .i64 yu, .slice ua eu uc] 24) := ⟨_, rfl⟩
    obtain ⟨vb, hvb⟩ : ∃ vb, vb = w4.heap.size := ⟨_, rfl⟩
    rw [← hW5] at HCQ HU5 HQ5 HX5 HTO5 HB5 ⊢
    rw [← hvb] at HU5 ⊢
    clear hW5 hvb
    obtain ⟨q0, q1, q2, q3, q4⟩ := sys9 HQ5.out
    obtain ⟨x0, x1, x2, x3, x4⟩ := sys9 HX5.out
    obtain ⟨ub0, ub1, ub2, ub3, ub4⟩ := sys9 HU5.out
    go_wp2_with fail
    refine HCQ.out.mono ?_
    unfold Q2
    rintro e w6 ⟨K, ka, kb, kc, hK, hKr, rfl, hks, hB6⟩
    have hkf := HKF.out K hK
    have hb6 := HB5.out.trans (hB6.mono HB5.out.size)
    have HQ6 := Lib.hid ((hB6.block qb q4).trans HQ5.out); have HX6 := Lib.hid ((hB6.block w.heap.size x4).trans HX5.out); have HU6 := Lib.hid ((hB6.block vb ub4).trans HU5.out)
    have HKS := Lib.hid hks; have HB6 := Lib.hid hb6; have HKF2 := Lib.hid hkf; have HTO6 := Lib.hid (HTO5.out.below hB6 (Nat.le_refl _))
    clear q0 q1 q2 q3 q4 x0 x1 x2 x3 x4 ub0 ub1 ub2 ub3 ub4
    clear hK hKr hks hB6 hb6 hkf HQ5 HX5 HU5 HCQ HTO5 HB5 HKF
    obtain ⟨q0, q1, q2, q3, q4⟩ := sys9 HQ6.out
    obtain ⟨x0, x1, x2, x3, x4⟩ := sys9 HX6.out
    obtain ⟨ub0, ub1, ub2, ub3, ub4⟩ := sys9 HU6.out
    have hkp := HKN.out
    obtain rfl := HTO6.out.ad (by rw [fl_len]; omega)
    obtain rfl := HKS.out.ad (by rw [fl_len]; omega)
    clear hkp
    have hTl := HTO6.out.lt (by rw [fl_len]; omega)
    have hKl := HKS.out.lt (by rw [fl_len]; have := HKN.out; omega)
    go_wp2_with fail
    go_loopw [13] (fun v13 wx => ∃ j : Nat, v13 = .int .i64 j ∧ j ≤ n ∧ Below w6.heap.size w6 wx) (fun v13 _ => n - (intOf v13).toNat)
    case atStart => exact ⟨0, rfl, Nat.zero_le _, Below.refl _ _⟩
    case round =>
      obtain ⟨j, rfl, hj, hbw⟩ := hrel
      have HBW := Lib.hid hbw
      have hTl2 : tb < wr.heap.size := Nat.lt_of_lt_of_le hTl hbw.size
      have hKl2 : kb < wr.heap.size := Nat.lt_of_lt_of_le hKl hbw.size
      have HQR := Lib.hid ((hbw.block qb q4).trans HQ6.out); have HXR := Lib.hid ((hbw.block w.heap.size x4).trans HX6.out)
      clear q0 q1 q2 q3 q4 x0 x1 x2 x3 x4 ub0 ub1 ub2 ub3 ub4 hbw hTl hKl
      obtain ⟨q0, q1, q2, q3, q4⟩ := sys9 HQR.out
      obtain ⟨x0, x1, x2, x3, x4⟩ := sys9 HXR.out
      by_cases hjn : j < n
      · have hjI : (j : Int) < (n : Int) := by omega
        have d0 := (HTO6.out.below HBW.out (Nat.le_refl _)).ci (fl_get F hjn)
        have c0 := (HKS.out.below HBW.out (Nat.le_refl _)).ci (fl_get K (i := j) (by have := HKN.out; omega))
        simp only [Nat.zero_add] at d0 c0
        have hjk : (j : Int) < (k : Int) := by have := HKN.out; omega
        have hfr := HFR.out j hjn
        by_cases hneg : F j < 0
        · have hf1 : F j = -1 := by omega
          rw [hf1] at d0
          have g1 : ¬ ((-1 : Int) ≥ (m : Int)) := by omega
          clear hfr hneg hf1
          go_upto_region 13 with fail
          go_region
          go_wp2_with fail
          go_roundw
          case rel => exact ⟨j + 1, by go_num, by omega, HBW.out.drew⟩
          case measure => simp [intOf]; omega
        · obtain ⟨i, hi⟩ : ∃ i : Nat, F j = (i : Int) := ⟨(F j).toNat, by omega⟩
          obtain ⟨him, hke⟩ := HKF2.out j hjn i hi
          rw [hi] at d0
          have c1 := (HKS.out.below HBW.out (Nat.le_refl _)).ci (fl_get K (i := n + i) (by have := HKN.out; omega))
          simp only [Nat.zero_add] at c1
          rw [← hke] at c1
          have g1 : ¬ ((i : Int) ≥ (m : Int)) := by omega
          have g2 : (i : Int) ≥ 0 := by omega
          have g3 : IntKind.i64.wrap ((n : Int) + (i : Int)) = ((n + i : Nat) : Int) := by rw [IntWalk.i64_in _ (by omega)]; omega
          have g4 : ((n + i : Nat) : Int) < (k : Int) := by have := HKN.out; omega
          clear hfr hneg hke hi
          go_upto_region 13 with fail
          go_region
          go_wp2_with fail
          go_roundw
          case rel => exact ⟨j + 1, by go_num, by omega, HBW.out.drew⟩
          case measure => simp [intOf]; omega
      · obtain rfl : n = j := by omega
        have hnz : ¬ n = 0 := by omega
        have HBZ : RowKit.Hid (Below w.heap.size w wr) := Lib.hid (HB6.out.trans (HBW.out.mono HB6.out.size))
        have g4 : qb < wr.heap.size := (Array.getElem?_eq_some_iff.1 HQR.out).1
        have g5 : w.heap.size < wr.heap.size := (Array.getElem?_eq_some_iff.1 HXR.out).1
        have HTZ : RowKit.Hid (∀ W, Below wr.heap.size wr W → W.cell? ⟨tb, z, none⟩ = some (.int .i64 (y : Int))) := Lib.hid (fun W hW => by
          have h1 := ((HTO6.out.below HBW.out (Nat.le_refl _)).below hW (Nat.le_refl _)).ci (fl_get F hzn)
          simp only [Nat.zero_add] at h1
          rw [h1, HFZ.out])
        have HKP : RowKit.Hid (∀ W, Below wr.heap.size wr W → W.cell? ⟨w.heap.size, 0, none⟩ = some (.int .i64 (n : Int)) ∧ W.cell? ⟨w.heap.size, 2, none⟩ = some (.int .i64 (z : Int)) ∧ W.cell? ⟨qb, 2, none⟩ = some (.int .i64 (y : Int)) ∧ W.cell? ⟨tb, z, none⟩ = some (.int .i64 (y : Int)) ∧ tb < W.heap.size ∧ Below wr.heap.size wr W) := Lib.hid (fun W hW => by
          obtain ⟨a0, a1, a2, a3, a4⟩ := sys9 ((hW.block w.heap.size g5).trans HXR.out)
          obtain ⟨c0, c1, c2, c3, c4⟩ := sys9 ((hW.block qb g4).trans HQR.out)
          exact ⟨a0, a2, c2, HTZ.out W hW, Nat.lt_of_lt_of_le hTl2 hW.size, hW⟩)
        have HAV : RowKit.Hid (∀ W, Below wr.heap.size wr W → Calls Tryz.prog 13 #[] W fun e w' => e = .returned (.bool true) ∧ Below wr.heap.size wr w') := Lib.hid (fun W hW =>
          (ALV.out W (HBZ.out.trans (hW.mono HBZ.out.size))).mono (by rintro e w' ⟨rfl, _, hB⟩; exact ⟨rfl, hW.trans (hB.mono hW.size)⟩))
        have f1 : ((n : Int) == 0) = false := by simp; omega
        have f2 : ((y : Int) == (y : Int)) = true := by simp
        have hznI : (z : Int) < (n : Int) := by omega
        obtain ⟨p0, p1, p2, p3, p4, p5⟩ := HKP.out wr (Below.refl _ _)
        have hdr : Below wr.heap.size wr wr.drew := (Below.refl _ _).drew
        have hds := hdr.size
        clear q0 q1 q2 q3 q4 x0 x1 x2 x3 x4
        go_upto_region 15 with fail
        go_region_held3 (fun W => W.cell? ⟨w.heap.size, 0, none⟩ = some (.int .i64 (n : Int)) ∧ W.cell? ⟨w.heap.size, 2, none⟩ = some (.int .i64 (z : Int)) ∧ W.cell? ⟨qb, 2, none⟩ = some (.int .i64 (y : Int)) ∧ W.cell? ⟨tb, z, none⟩ = some (.int .i64 (y : Int)) ∧ tb < W.heap.size ∧ Below wr.heap.size wr W)
          (exact HKP.out _ (by assumption))
          ((go_at_call 13; go_split_ands; refine (HAV.out _ (by assumption)).mono ?_; rintro e w' ⟨rfl, hB⟩))
        all_goals go_split_ands
        all_goals go_wp2_with fail
        all_goals go_ret
        all_goals exact ⟨rfl, HBZ.out.trans (Below.mono (by assumption) HBZ.out.size)⟩
end Go.Proofs.YtmlmjhmdjieigaaGreatDoor

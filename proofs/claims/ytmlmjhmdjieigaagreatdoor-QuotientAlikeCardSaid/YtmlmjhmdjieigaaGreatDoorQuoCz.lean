/-
  quotient.Union of two systems without states.
-/
import Derived.Test.YtmlmjhmdjieigaaGreatDoorGQuoB
namespace Go.Proofs.YtmlmjhmdjieigaaGreatDoor
open Go.RowKit Pl

set_option maxRecDepth 100000 in
set_option maxHeartbeats 8000000 in
theorem unionZero_any {p : Addr} {l1 l2 : Int} (hs : Lts.Right ⟨0, l1, 0, []⟩) (ht : Lts.Right ⟨0, l2, 0, []⟩) {a a2 : Option Addr} {c c2 : Nat} {w : World} (hG : GErr 10 p w) :
    Calls Tryz.prog 22 #[.agg #[.int .i64 0, .int .i64 l1, .int .i64 0, .slice a 0 c], .agg #[.int .i64 0, .int .i64 l2, .int .i64 0, .slice a2 0 c2]] w fun e w' => ∃ (ea : Option Addr) (ec : Nat), e = .returned (.tuple #[.agg #[.int .i64 0, .int .i64 (max l1 l2), .int .i64 0, .slice ea 0 ec], .int .i64 0, .nilIface]) ∧ Below w.heap.size w w' := by
  have HR := Lib.hid hs; have HRT := Lib.hid ht; have HG := Lib.hid hG
  clear hs ht hG
  go_enter Tryz.func22, Tryz.ntmps22
  go_upto_region 1 with fail
  obtain ⟨w0, hw0⟩ : ∃ w0, w0 = ((w.alloc (.cells #[.int .i64 0, .int .i64 l1, .int .i64 0, .slice a 0 c] 24)).alloc (.cells #[.int .i64 0, .int .i64 l2, .int .i64 0, .slice a2 0 c2] 24)).alloc (.cells #[.int .i64 0, .int .i64 0, .int .i64 0, .slice none 0 0] 24) := ⟨_, rfl⟩
  have hB0 : Below w.heap.size w w0 := by rw [hw0]; exact (((Below.refl w.heap.size w).alloc (Nat.le_refl _) _).alloc (by simp) _).alloc (by simp; omega) _
  have hx : w0.heap[w.heap.size]? = some (.cells #[.int .i64 0, .int .i64 l1, .int .i64 0, .slice a 0 c] 24 (0, 0)) := by
    rw [hw0]
    exact ((((Below.refl (w.heap.size + 1) (w.alloc (Obj.cells #[.int .i64 0, .int .i64 l1, .int .i64 0, .slice a 0 c] 24))).alloc (by simp) _).alloc (by simp) _).block w.heap.size (by omega)).trans (heap_alloc_new w _)
  have hz : w0.heap[w.heap.size + 1]? = some (.cells #[.int .i64 0, .int .i64 l2, .int .i64 0, .slice a2 0 c2] 24 (0, 0)) := by
    rw [hw0]
    exact ((Below.refl (w.heap.size + 2) _).alloc (by simp) _ |>.block (w.heap.size + 1) (by omega)).trans (heap_alloc_at _ _ (w.heap.size + 1) (by simp))
  have hy : w0.heap[w.heap.size + 1 + 1]? = some (.cells #[.int .i64 0, .int .i64 0, .int .i64 0, .slice none 0 0] 24 (0, 0)) := by
    rw [hw0]
    exact heap_alloc_at _ _ (w.heap.size + 1 + 1) (by simp)
  have HB0 := Lib.hid hB0; have HX := Lib.hid hx; have HZ := Lib.hid hz; have HY := Lib.hid hy
  rw [← hw0]
  obtain ⟨X, hX⟩ : ∃ X, X = w.heap.size := ⟨_, rfl⟩
  obtain ⟨Z, hZ⟩ : ∃ Z, Z = w.heap.size + 1 := ⟨_, rfl⟩
  obtain ⟨Y, hY⟩ : ∃ Y, Y = w.heap.size + 1 + 1 := ⟨_, rfl⟩
  have HYW : RowKit.Hid (w.heap.size ≤ Y) := Lib.hid (by omega)
  have HXY : RowKit.Hid (¬ X = Y) := Lib.hid (by omega)
  rw [← hX] at HX
  rw [← hZ] at HZ
  rw [← hY] at HY
  rw [← hY, ← hZ, ← hX]
  obtain ⟨x0, x1, x2, x3, x4⟩ := sys9 HX.out
  obtain ⟨z0, z1, z2, z3, z4⟩ := sys9 HZ.out
  clear hw0 hB0 hx hz hy hX hZ hY
  go_upto_region 2 with fail
  clear x0 x1 x2 x3 x4 z0 z1 z2 z3 z4
  go_loopw [8, 9, 16] (fun _ _ v16 wx => ∃ i : Nat, v16 = .int .i64 i ∧ i ≤ 2 ∧ Below w0.heap.size w0 wx) (fun _ _ v16 _ => 2 - (intOf v16).toNat)
  case atStart => exact ⟨0, rfl, by omega, Below.refl _ _⟩
  case round =>
    obtain ⟨i, rfl, hi, hb⟩ := hrel
    have HB := Lib.hid hb
    by_cases h0 : i = 0
    · subst h0
      have hix := fun W => (index2 (.int .i64 0) (.int .i64 l1) (.int .i64 0) (.slice a 0 c) (.int .i64 0) (.int .i64 l2) (.int .i64 0) (.slice a2 0 c2) W).1
      have hbz := hb.alloc hb.size (.cells #[.int .i64 0, .int .i64 l1, .int .i64 0, .slice a 0 c] 24)
      have HBZ := Lib.hid hbz
      have HCK := Lib.hid (check_ok HR.out a 0 0 c (wr.alloc (.cells #[.int .i64 0, .int .i64 l1, .int .i64 0, .slice a 0 c] 24)) (HG.out.below (HB0.out.trans (hbz.mono HB0.out.size))) (slAt_nil _ _ _ _))
      clear hb hbz
      go_wp2_with fail
      refine HCK.out.mono ?_
      rintro e w1 ⟨rfl, hB1⟩
      have HB1 := Lib.hid (HBZ.out.trans (hB1.mono HBZ.out.size))
      clear hB1
      go_wp2_with fail
      go_roundw
      case rel => exact ⟨1, rfl, by omega, HB1.out⟩
      case measure => simp [intOf]
    by_cases h1 : i = 1
    · subst h1
      have hix := fun W => (index2 (.int .i64 0) (.int .i64 l1) (.int .i64 0) (.slice a 0 c) (.int .i64 0) (.int .i64 l2) (.int .i64 0) (.slice a2 0 c2) W).2
      have hbz := hb.alloc hb.size (.cells #[.int .i64 0, .int .i64 l2, .int .i64 0, .slice a2 0 c2] 24)
      have HBZ := Lib.hid hbz
      have HCK := Lib.hid (check_ok HRT.out a2 0 0 c2 (wr.alloc (.cells #[.int .i64 0, .int .i64 l2, .int .i64 0, .slice a2 0 c2] 24)) (HG.out.below (HB0.out.trans (hbz.mono HB0.out.size))) (slAt_nil _ _ _ _))
      clear hb hbz h0
      go_wp2_with fail
      refine HCK.out.mono ?_
      rintro e w1 ⟨rfl, hB1⟩
      have HB1 := Lib.hid (HBZ.out.trans (hB1.mono HBZ.out.size))
      clear hB1
      go_wp2_with fail
      go_roundw
      case rel => exact ⟨2, rfl, by omega, HB1.out⟩
      case measure => simp [intOf]
    obtain rfl : i = 2 := by omega
    have HXR := Lib.hid ((hb.block X (Array.getElem?_eq_some_iff.1 HX.out).1).trans HX.out)
    have HZR := Lib.hid ((hb.block Z (Array.getElem?_eq_some_iff.1 HZ.out).1).trans HZ.out)
    have HYR := Lib.hid ((hb.block Y (Array.getElem?_eq_some_iff.1 HY.out).1).trans HY.out)
    obtain ⟨x0, x1, x2, x3, x4⟩ := sys9 HXR.out
    obtain ⟨z0, z1, z2, z3, z4⟩ := sys9 HZR.out
    clear hb h0 h1 hi
    go_upto_region 15 with fail
    obtain ⟨ml, hml⟩ : ∃ ml, ml = max l1 l2 := ⟨_, rfl⟩
    have HML := Lib.hid hml
    have hif : (if l1 < l2 then l2 else l1) = ml := by rw [hml]; split <;> omega
    first | rw [hif] | rw [← hml]
    obtain ⟨w4, hw4⟩ : ∃ w4, w4 = wr.alloc (.cells #[.int .i64 0, .int .i64 ml, .int .i64 0, .slice a 0 c] 24) := ⟨_, rfl⟩
    obtain ⟨tb, htb⟩ : ∃ tb, tb = wr.heap.size := ⟨_, rfl⟩
    have hr4 := (Rws.nil (Below.refl wr.heap.size wr)).addLit #[.int .i64 0, .int .i64 ml, .int .i64 0, .slice a 0 c] 24 (k := 4) (n := 1) (by decide) rfl
    rw [← hw4, ← htb] at hr4
    have hr4 : Rws wr w4 [RQ tb 0 ml 0 (.slice a 0 c)] := hr4
    rw [← hw4, ← htb]
    have HBW : RowKit.Hid (Below w.heap.size w wr) := Lib.hid (HB0.out.trans (HB.out.mono HB0.out.size))
    have HWX : RowKit.Hid (X < wr.heap.size ∧ Z < wr.heap.size ∧ Y < wr.heap.size) := Lib.hid ⟨x4, z4, (Array.getElem?_eq_some_iff.1 HYR.out).1⟩
    have HCN := Lib.hid (cloneE_any (xs := []) (a := a) (b := 0) (off := 0) (c := c) (w := w4) (slAt_nil _ _ _ _) (by simp))
    have HR4 := Lib.hid hr4
    clear hml hif hw4 htb x0 x1 x2 x3 x4 z0 z1 z2 z3 z4
    have hx4 := (hr4.bel.block X HWX.out.1).trans HXR.out
    have hz4 := (hr4.bel.block Z HWX.out.2.1).trans HZR.out
    obtain ⟨x0, x1, x2, x3, x4⟩ := sys9 hx4
    obtain ⟨z0, z1, z2, z3, z4⟩ := sys9 hz4
    clear hr4 hx4 hz4
    go_wp2_with fail
    refine HCN.out.mono ?_
    rintro e w5 ⟨v, rfl, hown, hB5⟩
    have hr5 := HR4.out.add hB5 hown
    obtain ⟨ra, rc, rb, rfl, _, _, _, _⟩ := slAt_own lenE hown
    have t0 := hr5.cell (i := 1) rfl (j := 0) rfl
    have t1 := hr5.cell (i := 1) rfl (j := 1) rfl
    have t2 := hr5.cell (i := 1) rfl (j := 2) rfl
    have t3 := hr5.cell (i := 1) rfl (j := 3) rfl
    have tf := hr5.fz (i := 1) rfl 3
    have tl := (hr5.lt (i := 1) rfl).2
    have hr6 := hr5.set 1 rfl 3 (.slice ra 0 rc)
    have HR6 := Lib.hid hr6
    clear x0 x1 x2 x3 x4 z0 z1 z2 z3 z4 t0 t1 t2
    clear hr5 hr6 hown hB5 HR4 HCN
    go_upto_region 16 with fail
    obtain ⟨w6, hw6⟩ : ∃ w6, w6 = w5.setCell ⟨tb, 3, none⟩ (.slice ra 0 rc) := ⟨_, rfl⟩
    simp only [List.length_nil] at HR6
    rw [← hw6] at HR6 ⊢
    clear hw6 t3 tf tl
    have hx7 := (HR6.out.bel.block X HWX.out.1).trans HXR.out
    have hz7 := (HR6.out.bel.block Z HWX.out.2.1).trans HZR.out
    obtain ⟨x0, x1, x2, x3, x4⟩ := sys9 hx7
    obtain ⟨z0, z1, z2, z3, z4⟩ := sys9 hz7
    clear hx7 hz7
    have HBR : RowKit.Hid (Below w.heap.size w w6) := Lib.hid (HBW.out.trans (HR6.out.bel.mono HBW.out.size))
    have t0 := HR6.out.cell (i := 1) rfl (j := 0) rfl
    have t1 := HR6.out.cell (i := 1) rfl (j := 1) rfl
    have t2 := HR6.out.cell (i := 1) rfl (j := 2) rfl
    have t3 := HR6.out.cell (i := 1) rfl (j := 3) rfl
    have tl := (HR6.out.lt (i := 1) rfl).2
    have hy8 := (HR6.out.bel.block Y HWX.out.2.2).trans HYR.out
    obtain ⟨y0, y1, y2, y3, y4⟩ := sys9 hy8
    have yf0 : w6.frozen? ⟨Y, 0, none⟩ = false := by simp [World.frozen?, hy8]
    have yf1 : w6.frozen? ⟨Y, 1, none⟩ = false := by simp [World.frozen?, hy8]
    have yf2 : w6.frozen? ⟨Y, 2, none⟩ = false := by simp [World.frozen?, hy8]
    have yf3 : w6.frozen? ⟨Y, 3, none⟩ = false := by simp [World.frozen?, hy8]
    have hXY := HXY.out
    clear hy8
    go_wp2_with fail
    refine wp_loop_rounds 1 ?_
    rw [rounds_succ]
    go_upto_region 21 with fail
    go_region
    go_wp2
    have hyw := HYW.out
    refine bodyPost_ret (v := .tuple #[.agg #[.int .i64 0, .int .i64 ml, .int .i64 0, .slice ra 0 rc], .int .i64 0, .nilIface]) (by simp [results, Tryz.results22, go_sem, y0, y1, y2, y3]) rfl ⟨ra, rc, by rw [HML.out], ?_⟩
    exact ((((HBR.out.setCell (by show w.heap.size ≤ Y; omega) _).setCell (by show w.heap.size ≤ Y; omega) _).setCell (by show w.heap.size ≤ Y; omega) _).setCell (by show w.heap.size ≤ Y; omega) _).drew
end Go.Proofs.YtmlmjhmdjieigaaGreatDoor

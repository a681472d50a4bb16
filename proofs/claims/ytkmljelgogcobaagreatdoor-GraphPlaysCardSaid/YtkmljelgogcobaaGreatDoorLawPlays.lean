/-
  law7.GraphPlays.
-/
import Derived.Test.YtkmljelgogcobaaGreatDoorGDegree
import Derived.Test.YtkmljelgogcobaaGreatDoorNewC
import Derived.Test.YtkmljelgogcobaaGreatDoorRfBack
import Derived.Test.YtkmljelgogcobaaGreatDoorRefReach
import Derived.Test.YtkmljelgogcobaaGreatDoorRefFrom
import Derived.Test.YtkmljelgogcobaaGreatDoorGRefNorm
import Derived.Test.YtkmljelgogcobaaGreatDoorGEnds
import Derived.Test.YtkmljelgogcobaaGreatDoorGPlBack
import Derived.Test.YtkmljelgogcobaaGreatDoorGRefHnd
import Derived.Test.YtkmljelgogcobaaGreatDoorGLentS
import Derived.Test.YtkmljelgogcobaaGreatDoorTold
import Derived.Test.YtkmljelgogcobaaGreatDoorGTauH
import Derived.Test.YtkmljelgogcobaaGreatDoorGRowTwo
import Derived.Test.YtkmljelgogcobaaGreatDoorGRwsB
import Derived.Deep.RegionHeldLaw
namespace Go.Proofs.YtkmljelgogcobaaGreatDoor
open Go.RowKit Pl

theorem errGp {w : World} {B : Nat} {x y z : Int} {u : ByteArray} (h : w.heap[B]? = some (.cells #[.int .i64 x, .int .i64 y, .int .i64 z, .string u] 66 (0, 0))) :
    w.cell? ⟨B, 0, none⟩ = some (.int .i64 x) ∧ w.cell? ⟨B, 1, none⟩ = some (.int .i64 y) ∧ w.cell? ⟨B, 2, none⟩ = some (.int .i64 z) ∧ w.cell? ⟨B, 3, none⟩ = some (.string u) := by
  refine ⟨?_, ?_, ?_, ?_⟩ <;> simp [World.cell?, h]

set_option maxRecDepth 100000 in
set_option maxHeartbeats 16000000 in
/-- Of a wrong system, or of too many edges. -/
theorem graphPlaysNo_any {w : World} {p : Addr} (hE : ErrsK 14 p w) {s : Lts} {a : Option Addr} {b off c : Nat} (hS : SlAt encE 3 w a b off s.es) (h0 : ¬ s.Right ∨ 2000 < s.es.length) (state label : Int) :
    Calls Tryz.prog 5 #[.agg #[.int .i64 s.st, .int .i64 s.lb, .int .i64 s.s0, .slice a s.es.length c], .int .i64 state, .int .i64 label] w fun e w' => e = .returned (.bool true) ∧ Below w.heap.size w w' := by
  have hG : GErr 0 p w := hE.sys
  obtain ⟨W1, hW1⟩ : ∃ W1, W1 = w.alloc (Obj.cells #[.int .i64 s.st, .int .i64 s.lb, .int .i64 s.s0, .slice a s.es.length c] 24) := ⟨_, rfl⟩
  have hB1 : Below w.heap.size w W1 := by rw [hW1]; exact (Below.refl w.heap.size w).alloc (Nat.le_refl _) _
  have hX1 := heap_alloc_new w (Obj.cells #[.int .i64 s.st, .int .i64 s.lb, .int .i64 s.s0, .slice a s.es.length c] 24)
  rw [← hW1] at hX1
  have ALV : RowKit.Hid (∀ w1 : World, Below w.heap.size w w1 → Calls Tryz.prog 6 #[] w1 fun e w' => e = .returned (.bool true) ∧ Below w1.heap.size w1 w') := Lib.hid (fun w1 h1 => alive_any (hG.below h1))
  have HLT : RowKit.Hid (s.es.length ≤ 1000000 → ∀ w1 : World, Below w.heap.size w w1 → Calls Tryz.prog 27 #[.agg #[.int .i64 s.st, .int .i64 s.lb, .int .i64 s.s0, .slice a s.es.length c]] w1 fun e w' => ∃ g cap, e = .returned (.agg #[.int .i64 s.st, .int .i64 s.lb, .int .i64 s.s0, .slice (some ⟨g, 0, none⟩) s.es.length cap]) ∧ LentS w' w1.heap.size g cap s.es ∧ Below w1.heap.size w1 w') := Lib.hid (fun hl w1 h1 => lent_any (c := c) (hS.below h1 (Nat.le_refl _)) hl)
  have HE := Lib.hid hE; have HS := Lib.hid hS; have HG := Lib.hid hG; have H0 := Lib.hid h0
  obtain ⟨el, hel⟩ : ∃ el, el = s.es.length := ⟨_, rfl⟩
  rw [← hel] at HLT hX1 hW1 H0 ⊢
  have HB1 := Lib.hid hB1; have HX1 := Lib.hid hX1; have HEL := Lib.hid hel; have HW1 := Lib.hid hW1
  clear hE hG hS h0 hB1 hX1 hel hW1
  by_cases h2 : 2000 < el
  · have hi : (2000 : Int) < (el : Int) := by omega
    go_enter Tryz.func5, Tryz.ntmps5
    go_wp2_with fail
    rw [← HW1.out]
    refine (ALV.out _ HB1.out).mono ?_
    rintro e w2 ⟨rfl, hB⟩
    have HB2 := Lib.hid (HB1.out.trans (hB.mono HB1.out.size))
    clear hB
    go_wp2_with fail
    go_ret
    exact ⟨rfl, HB2.out⟩
  have hi : ¬ (2000 : Int) < (el : Int) := by omega
  have hr := H0.out.resolve_right h2
  clear H0
  have HLT1 := Lib.hid (HLT.out (by omega) W1 HB1.out)
  clear HLT
  go_enter Tryz.func5, Tryz.ntmps5
  go_wp2_with fail
  rw [← HW1.out]
  refine HLT1.out.mono ?_
  rintro e w2 ⟨g, cap, rfl, hlent, hB2⟩
  obtain ⟨W2, hW2⟩ : ∃ W2, W2 = w2.alloc (Obj.cells #[.int .i64 s.st, .int .i64 s.lb, .int .i64 s.s0, .slice (some ⟨g, 0, none⟩) el cap] 24) := ⟨_, rfl⟩
  have hbW : Below w2.heap.size w2 W2 := by rw [hW2]; exact (Below.refl _ _).alloc (Nat.le_refl _) _
  have HLB := Lib.hid (show W2.heap[w2.heap.size]? = some (.cells #[.int .i64 s.st, .int .i64 s.lb, .int .i64 s.s0, .slice (some ⟨g, 0, none⟩) el cap] 24 (0, 0)) by rw [hW2]; exact heap_alloc_new w2 _)
  have HL := Lib.hid (hlent.below hbW)
  have hb12 := hB2.trans (hbW.mono hB2.size)
  have HXW := Lib.hid ((hb12.block w.heap.size (Array.getElem?_eq_some_iff.1 HX1.out).1).trans HX1.out)
  have HBW := Lib.hid (HB1.out.trans (hb12.mono HB1.out.size))
  have HW2 := Lib.hid hW2
  clear hlent hB2 HLT1 hW2 hbW hb12 HX1 HB1
  have hNEW := new_no (c := cap) hr (HG.out.below HBW.out) (SlAt.preE HL.out.all.1)
  rw [← HEL.out] at hNEW
  have HNEW := Lib.hid hNEW
  clear hNEW
  go_wp2_with fail
  rw [← HW2.out]
  refine HNEW.out.mono ?_
  rintro e w3 ⟨v, rfl, hF, hB3⟩
  have hCK : ∀ V, Below w.heap.size w V → Calls Tryz.prog 38 #[.agg #[.int .i64 s.st, .int .i64 s.lb, .int .i64 s.s0, .slice a s.es.length c]] V fun e w' => e = .returned (.agg #[.int .i64 14, .int .i64 0, .int .i64 0, .string (sysName ++ ⟨#[32]⟩)]) ∧ Below V.heap.size V w' := fun V hV => refCheck_no hr (HS.out.below hV (Nat.le_refl _))
  rw [← HEL.out] at hCK
  obtain ⟨ly, hly⟩ : ∃ ly, ly = sysName ++ ⟨#[32]⟩ := ⟨_, rfl⟩
  rw [← hly] at hCK
  have HLY := Lib.hid hly
  have HCK := Lib.hid hCK
  have HB3 := Lib.hid (HBW.out.trans (hB3.mono HBW.out.size))
  have HX3 := Lib.hid ((hB3.block w.heap.size (Array.getElem?_eq_some_iff.1 HXW.out).1).trans HXW.out)
  have HLB3 := Lib.hid ((hB3.block w2.heap.size (Array.getElem?_eq_some_iff.1 HLB.out).1).trans HLB.out)
  have HL3 := Lib.hid (HL.out.below hB3)
  have HF3 := Lib.hid hF
  obtain ⟨fb, rfl, _⟩ := hF.ex
  obtain ⟨x0, x1, x2, x3⟩ := sysG HX3.out
  have xl := (Array.getElem?_eq_some_iff.1 HX3.out).1
  clear hB3 hCK hly HNEW HXW HLB HL HBW
  go_wp2_with fail
  refine (HCK.out _ HB3.out).mono ?_
  rintro e w4 ⟨rfl, hB4⟩
  obtain ⟨W4, hW4⟩ : ∃ W4, W4 = w4.alloc (Obj.cells #[.int .i64 14, .int .i64 0, .int .i64 0, .string ly] 66) := ⟨_, rfl⟩
  have hbW : Below w4.heap.size w4 W4 := by rw [hW4]; exact (Below.refl _ _).alloc (Nat.le_refl _) _
  have hEB : W4.heap[w4.heap.size]? = some (.cells #[.int .i64 14, .int .i64 0, .int .i64 0, .string ly] 66 (0, 0)) := by rw [hW4]; exact heap_alloc_new w4 _
  have hb34 := hB4.trans (hbW.mono hB4.size)
  have hLB4 := (hb34.block w2.heap.size (Array.getElem?_eq_some_iff.1 HLB3.out).1).trans HLB3.out
  have hX4 := (hb34.block w.heap.size xl).trans HX3.out
  have hL4 := HL3.out.below hb34
  have hB4' := HB3.out.trans (hb34.mono HB3.out.size)
  have HF4 := Lib.hid (HF3.out.below hb34)
  have hSYS : ∀ V, Below W4.heap.size W4 V → (V.cell? ⟨w.heap.size, 0, none⟩ = some (.int .i64 s.st) ∧ V.cell? ⟨w.heap.size, 1, none⟩ = some (.int .i64 s.lb) ∧ V.cell? ⟨w.heap.size, 2, none⟩ = some (.int .i64 s.s0) ∧ V.cell? ⟨w.heap.size, 3, none⟩ = some (.slice a el c)) ∧ w.heap.size < V.heap.size ∧
      (V.cell? ⟨w2.heap.size, 0, none⟩ = some (.int .i64 s.st) ∧ V.cell? ⟨w2.heap.size, 1, none⟩ = some (.int .i64 s.lb) ∧ V.cell? ⟨w2.heap.size, 2, none⟩ = some (.int .i64 s.s0) ∧ V.cell? ⟨w2.heap.size, 3, none⟩ = some (.slice (some ⟨g, 0, none⟩) el cap)) ∧ w2.heap.size < V.heap.size ∧
      (V.cell? ⟨w4.heap.size, 0, none⟩ = some (.int .i64 14) ∧ V.cell? ⟨w4.heap.size, 1, none⟩ = some (.int .i64 0) ∧ V.cell? ⟨w4.heap.size, 2, none⟩ = some (.int .i64 0) ∧ V.cell? ⟨w4.heap.size, 3, none⟩ = some (.string ly)) ∧ w4.heap.size < V.heap.size ∧ LentS V W1.heap.size g cap s.es ∧ Below w.heap.size w V := fun V hV => by
    have h1 := (hV.block _ (Array.getElem?_eq_some_iff.1 hX4).1).trans hX4
    have h2 := (hV.block _ (Array.getElem?_eq_some_iff.1 hLB4).1).trans hLB4
    have h3 := (hV.block _ (Array.getElem?_eq_some_iff.1 hEB).1).trans hEB
    exact ⟨sysG h1, (Array.getElem?_eq_some_iff.1 h1).1, sysG h2, (Array.getElem?_eq_some_iff.1 h2).1, errGp h3, (Array.getElem?_eq_some_iff.1 h3).1, hL4.below hV, hB4'.trans (hV.mono hB4'.size)⟩
  have HSYS := Lib.hid hSYS; have HW4 := Lib.hid hW4
  have hTO := told_one (k := 14) (by unfold CodeIn; omega) (HE.out.below hB4') HF4.out (by decide)
  rw [← HLY.out] at hTO
  have HTO := Lib.hid hTO
  clear hW4 hbW hEB hb34 hLB4 hX4 hL4 hB4' hSYS hB4 x0 x1 x2 x3 xl HX3 HLB3 HL3 HB3 HF3 HF4 hTO HCK HLY
  go_wp2_with fail
  rw [← HW4.out]
  refine HTO.out.mono ?_
  rintro e w5 ⟨rfl, hB5⟩
  have HB5 := Lib.hid hB5
  obtain ⟨⟨x0, x1, x2, x3⟩, xl, ⟨y0, y1, y2, y3⟩, yl, ⟨z0, z1, z2, z3⟩, zl, hl5, hb5⟩ := HSYS.out _ hB5
  have hST := stays_any (st := s.st) (lb := s.lb) (s0 := s.s0) (st' := s.st) (lb' := s.lb) (s0' := s.s0) (c := c) hl5 (HS.out.below hb5 (Nat.le_refl _)) (by rw [← HEL.out]; omega)
  rw [← HEL.out] at hST
  have HST := Lib.hid hST
  clear hB5 hl5 hb5 hST HTO
  go_wp2_with fail
  refine HST.out.mono ?_
  rintro e w6 ⟨rfl, hB6⟩
  have HB6 := Lib.hid (HB5.out.trans (hB6.mono HB5.out.size))
  have HE6 := Lib.hid (HSYS.out _ HB6.out).2.2.2.2.2.2.2
  clear hB6 x0 x1 x2 x3 xl y0 y1 y2 y3 yl z0 z1 z2 z3 zl HST HB5
  go_wp2_with fail
  refine (ALV.out _ HE6.out).mono ?_
  rintro e w7 ⟨rfl, hB7⟩
  have HB7 := Lib.hid (HE6.out.trans (hB7.mono HE6.out.size))
  clear hB7
  go_wp2_with fail
  go_ret
  exact ⟨rfl, HB7.out⟩

set_option maxRecDepth 100000 in
set_option maxHeartbeats 16000000 in
/-- Of a right system. -/
theorem graphPlaysYes_any {w : World} {p : Addr} (hE : ErrsK 14 p w) {s : Lts} {a : Option Addr} {b off c : Nat} (hS : SlAt encE 3 w a b off s.es) (hc : s.es.length ≤ c) (hcm : c ≤ maxLen) (hr : s.Right) (h2 : ¬ 2000 < s.es.length) (state label : Int) :
    Calls Tryz.prog 5 #[.agg #[.int .i64 s.st, .int .i64 s.lb, .int .i64 s.s0, .slice a s.es.length c], .int .i64 state, .int .i64 label] w fun e w' => e = .returned (.bool true) ∧ Below w.heap.size w w' := by
  have hG : GErr 0 p w := hE.sys
  have hst := hr.st0
  obtain ⟨n, hn⟩ : ∃ n : Nat, s.st = (n : Int) := ⟨s.st.toNat, by omega⟩
  have hn1 : n ≤ 1000 := by omega
  obtain ⟨W1, hW1⟩ : ∃ W1, W1 = w.alloc (Obj.cells #[.int .i64 s.st, .int .i64 s.lb, .int .i64 s.s0, .slice a s.es.length c] 24) := ⟨_, rfl⟩
  have hB1 : Below w.heap.size w W1 := by rw [hW1]; exact (Below.refl w.heap.size w).alloc (Nat.le_refl _) _
  have hX1 := heap_alloc_new w (Obj.cells #[.int .i64 s.st, .int .i64 s.lb, .int .i64 s.s0, .slice a s.es.length c] 24)
  rw [← hW1] at hX1
  have ALV : RowKit.Hid (∀ w1 : World, Below w.heap.size w w1 → Calls Tryz.prog 6 #[] w1 fun e w' => e = .returned (.bool true) ∧ Below w1.heap.size w1 w') := Lib.hid (fun w1 h1 => alive_any (hG.below h1))
  have HLT := Lib.hid (lent_any (c := c) (hS.below hB1 (Nat.le_refl _)) (by omega))
  have HE := Lib.hid hE; have HS := Lib.hid hS; have HG := Lib.hid hG; have HC := Lib.hid hc; have HCM := Lib.hid hcm
  have HN := Lib.hid hn; have HR := Lib.hid hr
  obtain ⟨el, hel⟩ : ∃ el, el = s.es.length := ⟨_, rfl⟩
  obtain ⟨lb, hlb⟩ : ∃ lb, lb = s.lb := ⟨_, rfl⟩
  rw [hn, ← hel, ← hlb] at HLT
  rw [hn, ← hel, ← hlb] at hX1
  rw [hn, ← hel, ← hlb] at hW1
  rw [← hel] at h2
  rw [hn, ← hel, ← hlb]
  have hi : ¬ (2000 : Int) < (el : Int) := by omega
  have HB1 := Lib.hid hB1; have HB01 := Lib.hid hB1; have HX1 := Lib.hid hX1; have HEL := Lib.hid hel; have HW1 := Lib.hid hW1; have HLBE := Lib.hid hlb
  clear hE hG hS hB1 hX1 hel hW1 hc hcm hn hr hst hlb
  go_enter Tryz.func5, Tryz.ntmps5
  go_wp2_with fail
  rw [← HW1.out]
  refine HLT.out.mono ?_
  rintro e w2 ⟨g, cap, rfl, hlent, hB2⟩
  obtain ⟨W2, hW2⟩ : ∃ W2, W2 = w2.alloc (Obj.cells #[.int .i64 (n : Int), .int .i64 lb, .int .i64 s.s0, .slice (some ⟨g, 0, none⟩) el cap] 24) := ⟨_, rfl⟩
  have hbW : Below w2.heap.size w2 W2 := by rw [hW2]; exact (Below.refl _ _).alloc (Nat.le_refl _) _
  have HLB := Lib.hid (show W2.heap[w2.heap.size]? = some (.cells #[.int .i64 (n : Int), .int .i64 lb, .int .i64 s.s0, .slice (some ⟨g, 0, none⟩) el cap] 24 (0, 0)) by rw [hW2]; exact heap_alloc_new w2 _)
  have HL := Lib.hid (hlent.below hbW)
  have hgl := (hlent.own.lt g rfl)
  have hgl2 : g < W2.heap.size := Nat.lt_of_lt_of_le hgl.2 hbW.size
  have hgw : g ≠ w2.heap.size := Nat.ne_of_lt hgl.2
  have hgx : W1.heap.size ≤ g := hgl.1
  have hb12 := hB2.trans (hbW.mono hB2.size)
  have hxl1 := (Array.getElem?_eq_some_iff.1 HX1.out).1
  have HXW := Lib.hid ((hb12.block w.heap.size hxl1).trans HX1.out)
  have HBW := Lib.hid (HB1.out.trans (hb12.mono HB1.out.size))
  have HB12 := Lib.hid hb12
  have HW2 := Lib.hid hW2
  clear hlent hB2 HLT hW2 hbW hb12 HX1 HB1 hgl
  have hNEW := new_up (c := cap) HR.out (HG.out.below HBW.out) (SlAt.preE HL.out.all.1)
  rw [HN.out, ← HLBE.out, ← HEL.out] at hNEW
  have HNEW := Lib.hid hNEW
  clear hNEW
  go_wp2_with fail
  rw [← HW2.out]
  refine HNEW.out.mono ?_
  rintro e w3 ⟨gb, rfl, hGU, hB3, hgb⟩
  have hCK : ∀ V, Below w.heap.size w V → Calls Tryz.prog 38 #[.agg #[.int .i64 s.st, .int .i64 s.lb, .int .i64 s.s0, .slice a s.es.length c]] V fun e w' => e = .returned (.agg #[.int .i64 0, .int .i64 0, .int .i64 0, .string ⟨#[]⟩]) ∧ Below V.heap.size V w' := fun V hV => refCheck_yes HR.out (HS.out.below hV (Nat.le_refl _))
  rw [HN.out, ← HLBE.out, ← HEL.out] at hCK
  have HCK := Lib.hid hCK
  have HGU := Lib.hid hGU
  have HB3 := Lib.hid (HBW.out.trans (hB3.mono HBW.out.size))
  have HB13 := Lib.hid (HB12.out.trans (hB3.mono HB12.out.size))
  have HX3 := Lib.hid ((hB3.block w.heap.size (Array.getElem?_eq_some_iff.1 HXW.out).1).trans HXW.out)
  have HLB3 := Lib.hid ((hB3.block w2.heap.size (Array.getElem?_eq_some_iff.1 HLB.out).1).trans HLB.out)
  have HL3 := Lib.hid (HL.out.below hB3)
  have hw23 := hB3.size
  obtain ⟨x0, x1, x2, x3⟩ := sysG HX3.out
  have xl := (Array.getElem?_eq_some_iff.1 HX3.out).1
  clear hB3 hCK HNEW HXW HLB HL HBW hGU HB12
  go_wp2_with fail
  refine (HCK.out _ HB3.out).mono ?_
  rintro e w4 ⟨rfl, hB4⟩
  obtain ⟨W4, hW4⟩ : ∃ W4, W4 = w4.alloc (Obj.cells #[.int .i64 0, .int .i64 0, .int .i64 0, .string ⟨#[]⟩] 66) := ⟨_, rfl⟩
  have hbW : Below w4.heap.size w4 W4 := by rw [hW4]; exact (Below.refl _ _).alloc (Nat.le_refl _) _
  have hEB : W4.heap[w4.heap.size]? = some (.cells #[.int .i64 0, .int .i64 0, .int .i64 0, .string ⟨#[]⟩] 66 (0, 0)) := by rw [hW4]; exact heap_alloc_new w4 _
  have hb34 := hB4.trans (hbW.mono hB4.size)
  have hLB4 := (hb34.block w2.heap.size (Array.getElem?_eq_some_iff.1 HLB3.out).1).trans HLB3.out
  have hX4 := (hb34.block w.heap.size xl).trans HX3.out
  have hL4 := HL3.out.below hb34
  have hB4' := HB3.out.trans (hb34.mono HB3.out.size)
  have hB14 := HB13.out.trans (hb34.mono HB13.out.size)
  have hGU4 : ∀ V, (∀ x, W2.heap.size ≤ x → x < W4.heap.size → V.heap[x]? = W4.heap[x]?) → GraphAt V gb s.norm := fun V hV => HGU.out V (fun x h1 h2 => by
    rw [hV x h1 (Nat.lt_of_lt_of_le h2 hb34.size), hb34.block x h2])
  have hSYS : ∀ V, Below W4.heap.size W4 V → (V.cell? ⟨w.heap.size, 0, none⟩ = some (.int .i64 (n : Int)) ∧ V.cell? ⟨w.heap.size, 1, none⟩ = some (.int .i64 lb) ∧ V.cell? ⟨w.heap.size, 2, none⟩ = some (.int .i64 s.s0) ∧ V.cell? ⟨w.heap.size, 3, none⟩ = some (.slice a el c)) ∧ w.heap.size < V.heap.size ∧
      (V.cell? ⟨w2.heap.size, 0, none⟩ = some (.int .i64 (n : Int)) ∧ V.cell? ⟨w2.heap.size, 1, none⟩ = some (.int .i64 lb) ∧ V.cell? ⟨w2.heap.size, 2, none⟩ = some (.int .i64 s.s0) ∧ V.cell? ⟨w2.heap.size, 3, none⟩ = some (.slice (some ⟨g, 0, none⟩) el cap)) ∧ w2.heap.size < V.heap.size ∧
      (V.cell? ⟨w4.heap.size, 0, none⟩ = some (.int .i64 0) ∧ V.cell? ⟨w4.heap.size, 1, none⟩ = some (.int .i64 0) ∧ V.cell? ⟨w4.heap.size, 2, none⟩ = some (.int .i64 0) ∧ V.cell? ⟨w4.heap.size, 3, none⟩ = some (.string ⟨#[]⟩)) ∧ w4.heap.size < V.heap.size ∧ LentS V W1.heap.size g cap s.es ∧ Below w.heap.size w V := fun V hV => by
    have h1 := (hV.block _ (Array.getElem?_eq_some_iff.1 hX4).1).trans hX4
    have h2 := (hV.block _ (Array.getElem?_eq_some_iff.1 hLB4).1).trans hLB4
    have h3 := (hV.block _ (Array.getElem?_eq_some_iff.1 hEB).1).trans hEB
    exact ⟨sysG h1, (Array.getElem?_eq_some_iff.1 h1).1, sysG h2, (Array.getElem?_eq_some_iff.1 h2).1, errGp h3, (Array.getElem?_eq_some_iff.1 h3).1, hL4.below hV, hB4'.trans (hV.mono hB4'.size)⟩
  have hw24 : W2.heap.size ≤ W4.heap.size := Nat.le_trans hw23 hb34.size
  have HGU4 := Lib.hid hGU4; have HB14 := Lib.hid hB14
  have HLB4 := Lib.hid hLB4; have HX4 := Lib.hid hX4
  have HSYS := Lib.hid hSYS; have HW4 := Lib.hid hW4
  clear hW4 hbW hEB hb34 hLB4 hX4 hL4 hB4' hSYS hB4 x0 x1 x2 x3 xl HX3 HLB3 HL3 HB3 HCK HGU HB13 hGU4 hB14 hw23
  go_wp2_with fail
  rw [← HW4.out]
  refine (told_nil 0 0 ⟨#[]⟩ _).mono ?_
  rintro e w5 ⟨rfl, hB5⟩
  have HB5 := Lib.hid hB5
  obtain ⟨⟨x0, x1, x2, x3⟩, xl, ⟨y0, y1, y2, y3⟩, yl, ⟨z0, z1, z2, z3⟩, zl, hl5, hb5⟩ := HSYS.out _ hB5
  have hST := stays_any (st := n) (lb := lb) (s0 := s.s0) (st' := n) (lb' := lb) (s0' := s.s0) (c := c) hl5 (HS.out.below hb5 (Nat.le_refl _)) (by rw [← HEL.out]; omega)
  rw [← HEL.out] at hST
  have HST := Lib.hid hST
  clear hB5 hl5 hb5 hST
  go_wp2_with fail
  refine HST.out.mono ?_
  rintro e w6 ⟨rfl, hB6⟩
  have HB6 := Lib.hid (HB5.out.trans (hB6.mono HB5.out.size))
  clear hB6 x0 x1 x2 x3 xl y0 y1 y2 y3 yl z0 z1 z2 z3 zl HST HB5
  have hw46 : W4.heap.size ≤ w6.heap.size := HB6.out.size
  have HRW : RowKit.Hid (∃ xs : List Value, xs.length = (el + 3) * 3 ∧ Rws W1 w6 [⟨79, 3, .slice (some ⟨g, 0, none⟩) (el + 3) cap, el + 3, xs⟩]) := Lib.hid (by
    have h1 := (HSYS.out _ HB6.out).2.2.2.2.2.2.1.own
    rw [← HEL.out] at h1
    exact ⟨_, h1.1, HB14.out.trans (HB6.out.mono HB14.out.size), fun r hr => by simp only [List.mem_singleton] at hr; subst hr; exact h1, List.pairwise_singleton _ _⟩)
  obtain ⟨y0, y1, y2, y3⟩ := (HSYS.out _ HB6.out).2.2.1
  have hyl6 := (HSYS.out _ HB6.out).2.2.2.1
  have hY6 := (HB6.out.block _ (Array.getElem?_eq_some_iff.1 HLB4.out).1).trans HLB4.out
  have HY6 := Lib.hid hY6
  have HX6 := Lib.hid ((HB6.out.block _ (Array.getElem?_eq_some_iff.1 HX4.out).1).trans HX4.out)
  clear y0 y1 y2 y3 hY6
  go_wp2_with fail
  go_loopw [11] (fun v11 wr => ∃ (i : Nat) (xs : List Value), v11 = .int .i64 i ∧ i ≤ el ∧ xs.length = (el + 3) * 3 ∧ Rws W1 wr [⟨79, 3, .slice (some ⟨g, 0, none⟩) (el + 3) cap, el + 3, xs⟩] ∧ wr.heap.size = w6.heap.size ∧ (∀ x, x ≠ g → wr.heap[x]? = w6.heap[x]?)) (fun v11 _ => el - (intOf v11).toNat)
  case atStart => obtain ⟨xs, h1, h2⟩ := HRW.out; exact ⟨0, xs, rfl, Nat.zero_le _, h1, h2, rfl, fun _ _ => rfl⟩
  case round =>
    obtain ⟨i, xs, rfl, hi2, hxs, hrw, hsz, hoth⟩ := hrel
    have hyb := (hoth w2.heap.size (fun e => hgw e.symm)).trans HY6.out
    obtain ⟨y0, y1, y2, y3⟩ := sysG hyb
    have hyl : w2.heap.size < wr.heap.size := by omega
    have HRX := Lib.hid hrw; have HOTH := Lib.hid hoth; have HSZ := Lib.hid hsz
    clear hyb hrw hoth hsz
    by_cases hin : i < el
    · have hinI : (i : Int) < (el : Int) := by omega
      obtain ⟨u, hu⟩ := getElem?_of_lt (xs := xs) (i := i * 3 + 2) (by omega)
      have c2 := HRX.out.cell (i := 0) rfl hu
      have f2 := HRX.out.fz (i := 0) rfl (i * 3 + 2)
      have gl := (HRX.out.lt (i := 0) rfl).2
      have HST : RowKit.Hid (Rws W1 (wr.setCell ⟨g, i * 3 + 2, none⟩ (.int .i64 (-5))) [⟨79, 3, .slice (some ⟨g, 0, none⟩) (el + 3) cap, el + 3, xs.set (i * 3 + 2) (.int .i64 (-5))⟩]) := Lib.hid (HRX.out.set 0 rfl (i * 3 + 2) (.int .i64 (-5)))
      have HXS := Lib.hid hxs
      clear hu hxs
      go_wp2_with fail
      go_roundw
      case rel => exact ⟨i + 1, _, by go_num, by omega, by rw [List.length_set]; exact HXS.out, HST.out, by rw [size_setCell]; exact HSZ.out, fun x hx => by rw [Below.heap_setCell _ _ _ _ hx]; exact HOTH.out x hx⟩
      case measure => simp [intOf]; omega
    · obtain rfl : el = i := by omega
      obtain ⟨W7, hW7⟩ : ∃ W7, W7 = wr := ⟨_, rfl⟩
      subst hW7
      have hX7 := (HOTH.out w.heap.size (fun e => by omega)).trans HX6.out
      have hb7 := HB01.out.trans (HRX.out.bel.mono HB01.out.size)
      have hGR : ∀ V, Below W7.heap.size W7 V → GraphAt V gb s.norm := fun V hV => HGU4.out V (fun x h1 h2 => by
        have h3 : x < w6.heap.size := by omega
        have h4 : x ≠ g := by omega
        rw [hV.block x (by have := HSZ.out; omega), HOTH.out x h4, HB6.out.block x h2])
      have HGR := Lib.hid hGR; have HX7 := Lib.hid hX7; have HB7 := Lib.hid hb7
      clear hX7 hb7 hGR y0 y1 y2 hxs HRX HOTH HY6 HX6 HB6 HRW HGU4 HSYS HB01
      have hSYS : ∀ V, Below W7.heap.size W7 V → (V.cell? ⟨w.heap.size, 0, none⟩ = some (.int .i64 (n : Int)) ∧ V.cell? ⟨w.heap.size, 1, none⟩ = some (.int .i64 lb) ∧ V.cell? ⟨w.heap.size, 2, none⟩ = some (.int .i64 s.s0) ∧ V.cell? ⟨w.heap.size, 3, none⟩ = some (.slice a el c)) ∧ w.heap.size < V.heap.size ∧ SlAt encE 3 V a b off s.es ∧ Below w.heap.size w V := fun V hV => by
        have h1 := (hV.block _ (Array.getElem?_eq_some_iff.1 HX7.out).1).trans HX7.out
        have h2 := HB7.out.trans (hV.mono HB7.out.size)
        exact ⟨sysG h1, (Array.getElem?_eq_some_iff.1 h1).1, HS.out.below h2 (Nat.le_refl _), h2⟩
      have HSYS := Lib.hid hSYS
      obtain ⟨⟨x0, x1, x2, x3⟩, xl, hs7, _⟩ := hSYS W7 (Below.refl _ _)
      have hNM := refNormal_any (s := s) (c := c) hs7 HC.out HCM.out (by have := HEL.out; omega)
      rw [HN.out, ← HLBE.out, ← HEL.out] at hNM
      have HNM := Lib.hid hNM
      clear hSYS hs7 hNM HX7 HB7
      go_wp2_with fail
      refine HNM.out.mono ?_
      rintro e w8 ⟨ta, tc, rfl, hown, hB8⟩
      obtain ⟨W8, hW8⟩ : ∃ W8, W8 = w8.alloc (Obj.cells #[.int .i64 (n : Int), .int .i64 lb, .int .i64 s.s0, .slice ta s.norm.es.length tc] 24) := ⟨_, rfl⟩
      have hbW : Below w8.heap.size w8 W8 := by rw [hW8]; exact (Below.refl _ _).alloc (Nat.le_refl _) _
      have hTB : W8.heap[w8.heap.size]? = some (.cells #[.int .i64 (n : Int), .int .i64 lb, .int .i64 s.s0, .slice ta s.norm.es.length tc] 24 (0, 0)) := by rw [hW8]; exact heap_alloc_new w8 _
      have HTO := Lib.hid (own_below hown hbW)
      have HB8 := Lib.hid (hB8.trans (hbW.mono hB8.size))
      obtain ⟨tl, htl⟩ : ∃ tl, tl = s.norm.es.length := ⟨_, rfl⟩
      rw [← htl] at hW8 hTB HTO ⊢
      have HTL := Lib.hid htl
      have HTB := Lib.hid hTB; have HW8 := Lib.hid hW8
      clear hown hB8 hbW hTB hW8 htl HNM x0 x1 x2 x3 xl y3 hyl
      go_upto_region 15 with fail
      rw [← HW8.out]
      obtain ⟨tb, htb⟩ : ∃ tb, tb = w8.heap.size := ⟨_, rfl⟩
      rw [← htb] at HTB ⊢
      clear HW8 htb
      have HK : RowKit.Hid (∀ V, Below W8.heap.size W8 V → (V.cell? ⟨w.heap.size, 0, none⟩ = some (.int .i64 (n : Int)) ∧ V.cell? ⟨w.heap.size, 1, none⟩ = some (.int .i64 lb) ∧ V.cell? ⟨w.heap.size, 2, none⟩ = some (.int .i64 s.s0) ∧ V.cell? ⟨w.heap.size, 3, none⟩ = some (.slice a el c) ∧ w.heap.size < V.heap.size) ∧ Below W8.heap.size W8 V) := Lib.hid (fun V hV => by
        obtain ⟨⟨x0, x1, x2, x3⟩, xl, _, _⟩ := HSYS.out V (HB8.out.trans (hV.mono HB8.out.size))
        exact ⟨⟨x0, x1, x2, x3, xl⟩, hV⟩)
      have HO1 : RowKit.Hid (∀ V, Below W8.heap.size W8 V → Calls Tryz.prog 21 #[.agg #[.int .i64 (n : Int), .int .i64 lb, .int .i64 s.s0, .slice a el c]] V fun e w' => ∃ ob, e = .returned (.slice (some ⟨ob, 0, none⟩) n n) ∧ StepsIn w' ob n (fun p => s.norm.outs (p : Int)) ∧ Below V.heap.size V w') := Lib.hid (fun V hV => by
        obtain ⟨_, _, hs, _⟩ := HSYS.out V (HB8.out.trans (hV.mono HB8.out.size))
        have h := refOut_any HR.out hs HC.out HCM.out
        rw [HN.out, ← HLBE.out, ← HEL.out] at h
        refine h.mono ?_
        rintro e w' ⟨ob, n', base, hn', rfl, hrows, _, hB⟩
        obtain rfl : n = n' := by have := HN.out; omega
        exact ⟨ob, rfl, StepsIn.of hrows, hB⟩)
      have HBK : RowKit.Hid (∀ V, Below W8.heap.size W8 V → Calls Tryz.prog 40 #[.agg #[.int .i64 (n : Int), .int .i64 lb, .int .i64 s.s0, .slice a el c]] V fun e w' => ∃ ba bb bc, e = .returned (.agg #[.int .i64 (n : Int), .int .i64 lb, .int .i64 s.s0, .slice ba (backS s).es.length bc]) ∧ SlAt encE 3 w' ba bb 0 (backS s).es ∧ (backS s).es.length ≤ bc ∧ bc ≤ maxLen ∧ Below V.heap.size V w') := Lib.hid (fun V hV => by
        obtain ⟨_, _, hs, _⟩ := HSYS.out V (HB8.out.trans (hV.mono HB8.out.size))
        have h := refBack_any (c := c) hs (by have := HEL.out; omega)
        rw [HN.out, ← HLBE.out, ← HEL.out] at h
        exact h)
      have HOB : RowKit.Hid (∀ (V : World) (ba : Option Addr) (bb bc : Nat), SlAt encE 3 V ba bb 0 (backS s).es → (backS s).es.length ≤ bc → bc ≤ maxLen → Calls Tryz.prog 21 #[.agg #[.int .i64 (n : Int), .int .i64 lb, .int .i64 s.s0, .slice ba (backS s).es.length bc]] V fun e w' => ∃ ob, e = .returned (.slice (some ⟨ob, 0, none⟩) n n) ∧ StepsIn w' ob n (fun p => s.norm.ins (p : Int)) ∧ Below V.heap.size V w') := Lib.hid (fun V ba bb bc h1 h2 h3 => by
        have h := refOut_any (backS_right HR.out) h1 h2 h3
        rw [show (backS s).st = (n : Int) from HN.out, show (backS s).lb = lb from HLBE.out.symm, show (backS s).s0 = s.s0 from rfl] at h
        refine h.mono ?_
        rintro e w' ⟨ob, n', base, hn', rfl, hrows, _, hB⟩
        obtain rfl : n = n' := by have := HN.out; have : (backS s).st = s.st := rfl; omega
        refine ⟨ob, rfl, ?_, hB⟩
        have h4 := StepsIn.of hrows
        simp only [ins_back] at h4
        exact h4)
      obtain ⟨⟨x0, x1, x2, x3, xl⟩, _⟩ := HK.out W8 (Below.refl _ _)
      have HBD := Lib.hid (Below.refl W8.heap.size W8).drew
      go_upto_region 15 with fail
      refine wp_region_held_drew (S := (fun V => (V.cell? ⟨w.heap.size, 0, none⟩ = some (.int .i64 (n : Int)) ∧ V.cell? ⟨w.heap.size, 1, none⟩ = some (.int .i64 lb) ∧ V.cell? ⟨w.heap.size, 2, none⟩ = some (.int .i64 s.s0) ∧ V.cell? ⟨w.heap.size, 3, none⟩ = some (.slice a el c) ∧ w.heap.size < V.heap.size) ∧ Below W8.heap.size W8 V)) (by kernel_rfl) (by (try dsimp only); exact HK.out _ HBD.out) (fun hHeld => ?_)
      refine wpAnyH_take (i := 0) (v := ?_) rfl (by kernel_rfl) (by kernel_rfl) (by kernel_rfl) (fun _ _ _ h => h) (Or.inl ⟨by rfl, ?_⟩) (by assumption) ?_
      rotate_left
      · intro w hSw
        try dsimp only at hSw
        go_simp
        try with_reducible rfl
      try simp only [List.getElem_toArray, List.getElem_cons_zero, Act.put, List.setIfInBounds_toArray, List.set_cons_zero, List.set_cons_succ]
      refine wpAnyH_take (i := 2) (v := ?_) rfl (by kernel_rfl) (by kernel_rfl) (by kernel_rfl) (fun _ _ _ h => h) (Or.inl ⟨by rfl, ?_⟩) (by assumption) ?_
      rotate_left
      · intro w hSw
        try dsimp only at hSw
        go_simp
        try with_reducible rfl
      try simp only [List.getElem_toArray, List.getElem_cons_zero, List.getElem_cons_succ, Act.put, List.setIfInBounds_toArray, List.set_cons_zero, List.set_cons_succ]
      refine wpAnyH_ready (rs := [1]) (by kernel_rfl) (by simp) ?_
      refine AllReadyH.cons rfl (fun K hK => ?_) AllReadyH.nil
      go_simp
      refine (HO1.out _ HBD.out).mono ?_
      rintro e wa ⟨ob, rfl, hso, hBa⟩
      have HSO := Lib.hid hso
      have HBa := Lib.hid (HBD.out.trans (hBa.mono HBD.out.size))
      clear hso hBa
      refine hK.out _ _ (by (try dsimp only); exact HK.out _ HBa.out) (fun hHeld => ?_)
      clear hK K
      try simp only [List.getElem_toArray, List.getElem_cons_zero, List.getElem_cons_succ, Act.put, List.setIfInBounds_toArray, List.set_cons_zero, List.set_cons_succ]
      refine wpAnyH_ready (rs := [3]) (by kernel_rfl) (by simp) ?_
      refine AllReadyH.cons rfl (fun K hK => ?_) AllReadyH.nil
      go_simp
      refine (HBK.out _ HBa.out).mono ?_
      rintro e wb ⟨ba, bb2, bc, rfl, hbs, hbc1, hbc2, hBb⟩
      have HO2 := Lib.hid (HOB.out wb ba bb2 bc hbs hbc1 hbc2)
      replace HSO := Lib.hid (HSO.out.below hBb)
      have HBb := Lib.hid (HBa.out.trans (hBb.mono HBa.out.size))
      clear hbs hbc1 hbc2 hBb
      refine hK.out _ _ (by (try dsimp only); exact HK.out _ HBb.out) (fun hHeld => ?_)
      clear hK K
      try simp only [List.getElem_toArray, List.getElem_cons_zero, List.getElem_cons_succ, Act.put, List.setIfInBounds_toArray, List.set_cons_zero, List.set_cons_succ]
      refine wpAnyH_ready (rs := [4]) (by kernel_rfl) (by simp) ?_
      refine AllReadyH.cons rfl (fun K hK => ?_) AllReadyH.nil
      go_simp
      refine HO2.out.mono ?_
      rintro e wc ⟨ob2, rfl, hso2, hBc⟩
      have HSO2 := Lib.hid hso2
      replace HSO := Lib.hid (HSO.out.below hBc)
      have HBc := Lib.hid (HBb.out.trans (hBc.mono HBb.out.size))
      clear hso2 hBc
      refine hK.out _ _ (by (try dsimp only); exact HK.out _ HBc.out) (fun hHeld => ?_)
      clear hK K
      try simp only [List.getElem_toArray, List.getElem_cons_zero, List.getElem_cons_succ, Act.put, List.setIfInBounds_toArray, List.set_cons_zero, List.set_cons_succ]
      refine wpAnyH_take (i := 5) (v := ?_) rfl (by kernel_rfl) (by kernel_rfl) (by kernel_rfl) (fun _ _ _ h => h) (Or.inl ⟨by rfl, ?_⟩) (by assumption) ?_
      rotate_left
      · intro w hSw
        try dsimp only at hSw
        go_simp
        try with_reducible rfl
      try simp only [List.getElem_toArray, List.getElem_cons_zero, List.getElem_cons_succ, Act.put, List.setIfInBounds_toArray, List.set_cons_zero, List.set_cons_succ]
      refine wpAnyH_take (i := 6) (v := ?_) rfl (by kernel_rfl) (by kernel_rfl) (by kernel_rfl) (fun _ _ _ h => h) (Or.inl ⟨by rfl, ?_⟩) (by assumption) ?_
      rotate_left
      · intro w hSw
        try dsimp only at hSw
        go_simp
        try with_reducible rfl
      try simp only [List.getElem_toArray, List.getElem_cons_zero, List.getElem_cons_succ, Act.put, List.setIfInBounds_toArray, List.set_cons_zero, List.set_cons_succ]
      refine wpAnyH_done (by kernel_rfl) ?_ _
      obtain ⟨w9, hw9⟩ : ∃ w9, w9 = wc := ⟨_, rfl⟩
      subst hw9
      have hTB9 := (HBc.out.block _ (Array.getElem?_eq_some_iff.1 HTB.out).1).trans HTB.out
      have hTO9 := own_below HTO.out HBc.out
      have hB79 := HB8.out.trans (HBc.out.mono HB8.out.size)
      have H9 : RowKit.Hid (∀ V, Below w9.heap.size w9 V → ((V.cell? ⟨w.heap.size, 0, none⟩ = some (.int .i64 (n : Int)) ∧ V.cell? ⟨w.heap.size, 1, none⟩ = some (.int .i64 lb) ∧ V.cell? ⟨w.heap.size, 2, none⟩ = some (.int .i64 s.s0) ∧ V.cell? ⟨w.heap.size, 3, none⟩ = some (.slice a el c)) ∧ w.heap.size < V.heap.size ∧ V.cell? ⟨tb, 3, none⟩ = some (.slice ta tl tc) ∧ tb < V.heap.size) ∧
          V.ownsRow W7.heap.size 79 3 (.slice ta tl tc) tl (s.norm.es.flatMap encE) ∧ GraphAt V gb s.norm ∧ StepsIn V ob n (fun p => s.norm.outs (p : Int)) ∧ StepsIn V ob2 n (fun p => s.norm.ins (p : Int)) ∧ SlAt encE 3 V a b off s.es ∧ Below w.heap.size w V) := Lib.hid (fun V hV => by
        have h7 := hB79.trans (hV.mono hB79.size)
        obtain ⟨hx, hxl, hs, hb⟩ := HSYS.out V h7
        have h1 := (hV.block _ (Array.getElem?_eq_some_iff.1 hTB9).1).trans hTB9
        obtain ⟨_, _, _, t3⟩ := sysG h1
        exact ⟨⟨hx, hxl, t3, (Array.getElem?_eq_some_iff.1 h1).1⟩, own_below hTO9 hV, HGR.out V h7, HSO.out.below hV, HSO2.out.below hV, hs, hb⟩)
      have HB79 := Lib.hid hB79
      clear hTB9 hTO9 hB79 HO1 HBK HOB HO2 HK HBD HBa HBb HBc HSO HSO2 HSYS HGR HTB HTO HB8 x0 x1 x2 x3 xl hHeld
      have HOL : RowKit.Hid (∀ k : Int, (s.norm.outs k).length ≤ 10000 ∧ (s.norm.ins k).length ≤ 10000) := Lib.hid (fun k => ⟨outs_len HR.out.norm k, ins_len HR.out.norm k⟩)
      go_wp2_with fail
      go_loopw [15, 16] (fun v15 v16 wr => ∃ k : Nat, v16 = .int .i64 k ∧ k ≤ n ∧ v15 = .int .i64 (degTo s.norm k) ∧ Below w9.heap.size w9 wr) (fun _ v16 _ => n - (intOf v16).toNat)
      case atStart => exact ⟨0, rfl, Nat.zero_le _, rfl, Below.refl _ _⟩
      case round =>
        obtain ⟨k, rfl, hk, rfl, hB⟩ := hrel
        have HB := Lib.hid hB
        obtain ⟨⟨⟨x0, _, _, _⟩, xl, _, _⟩, _, _, hso, hso2, _, _⟩ := H9.out _ hB
        have HSO := Lib.hid hso; have HSO2 := Lib.hid hso2
        clear hB hso hso2
        by_cases hkn : k < n
        · have hkI : (k : Int) < (n : Int) := by omega
          obtain ⟨qa, qc, qb, qo, q0, hqs⟩ := HSO.out.at_ k hkn
          obtain ⟨ra, rc, rb, ro, r0, hrs⟩ := HSO2.out.at_ k hkn
          have hql := (HOL.out k).1; have hrl := (HOL.out k).2
          have hdb := degTo_bd HR.out.norm k
          have hds : degTo s.norm (k + 1) = max (degTo s.norm k) ((s.norm.outs k).length) := rfl
          have ol := HSO.out.lt
          have HGO : RowKit.Hid (∀ V, Below w9.heap.size w9 V → Calls Tryz.prog 9 #[.pointer (some ⟨gb, 0, none⟩), .int .i64 (k : Int)] V fun e w' => ∃ v, e = .returned v ∧ w'.ownsRow V.heap.size 92 2 v (s.norm.outs (k : Int)).length ((s.norm.outs (k : Int)).flatMap encS) ∧ Below V.heap.size V w') := Lib.hid (fun V hV => getOut_any (H9.out V hV).2.2.1 (k : Int))
          have HGI : RowKit.Hid (∀ V, Below w9.heap.size w9 V → Calls Tryz.prog 10 #[.pointer (some ⟨gb, 0, none⟩), .int .i64 (k : Int)] V fun e w' => ∃ v, e = .returned v ∧ w'.ownsRow V.heap.size 92 2 v (s.norm.ins (k : Int)).length ((s.norm.ins (k : Int)).flatMap encS) ∧ Below V.heap.size V w') := Lib.hid (fun V hV => getIn_any (H9.out V hV).2.2.1 (k : Int))
          have hSM : ∀ (V : World) (v : Value) (base : Nat), Below wr.heap.size wr V → V.ownsRow base 92 2 v (s.norm.outs (k : Int)).length ((s.norm.outs (k : Int)).flatMap encS) → Calls Tryz.prog 22 #[v, .slice qa (s.norm.outs (k : Int)).length qc] V fun e w' => e = .returned (.bool true) ∧ ∃ m, w' = V.drewN m := fun V v base hV hv => by
            obtain ⟨a2, c2, b2, rfl, _, _, hs2, _⟩ := slAt_own lenS hv
            have := sameSteps_any (c1 := c2) (c2 := qc) hs2 (hqs.below hV (Nat.le_refl _)) (by omega) (by omega)
            exact this.mono (by rintro e w7 ⟨rfl, mm, rfl⟩; exact ⟨by simp, mm, rfl⟩)
          have hSN : ∀ (V : World) (v : Value) (base : Nat), Below wr.heap.size wr V → V.ownsRow base 92 2 v (s.norm.ins (k : Int)).length ((s.norm.ins (k : Int)).flatMap encS) → Calls Tryz.prog 22 #[v, .slice ra (s.norm.ins (k : Int)).length rc] V fun e w' => e = .returned (.bool true) ∧ ∃ m, w' = V.drewN m := fun V v base hV hv => by
            obtain ⟨a2, c2, b2, rfl, _, _, hs2, _⟩ := slAt_own lenS hv
            have := sameSteps_any (c1 := c2) (c2 := rc) hs2 (hrs.below hV (Nat.le_refl _)) (by omega) (by omega)
            exact this.mono (by rintro e w7 ⟨rfl, mm, rfl⟩; exact ⟨by simp, mm, rfl⟩)
          have hQ : ∀ V, Below wr.heap.size wr V → (V.cell? ⟨ob, k, none⟩ = some (.slice qa (s.norm.outs (k : Int)).length qc) ∧ ob < V.heap.size ∧ V.cell? ⟨ob2, k, none⟩ = some (.slice ra (s.norm.ins (k : Int)).length rc) ∧ ob2 < V.heap.size) ∧ Below wr.heap.size wr V := fun V hV =>
            ⟨⟨by rw [hV.cell (p := ⟨ob, k, none⟩) HSO.out.lt]; exact q0, Nat.lt_of_lt_of_le HSO.out.lt hV.size, by rw [hV.cell (p := ⟨ob2, k, none⟩) HSO2.out.lt]; exact r0, Nat.lt_of_lt_of_le HSO2.out.lt hV.size⟩, hV⟩
          obtain ⟨ql, hqle⟩ : ∃ ql, ql = (s.norm.outs (k : Int)).length := ⟨_, rfl⟩
          obtain ⟨rl, hrle⟩ : ∃ rl, rl = (s.norm.ins (k : Int)).length := ⟨_, rfl⟩
          obtain ⟨d, hd⟩ : ∃ d, d = degTo s.norm k := ⟨_, rfl⟩
          obtain ⟨d2, hd2⟩ : ∃ d2, d2 = degTo s.norm (k + 1) := ⟨_, rfl⟩
          rw [← hqle] at hSM hQ hds hql q0 HGO
          rw [← hrle] at hSN hQ HGI
          rw [← hd] at hds hdb ⊢
          rw [← hd2] at hds
          have HSM := Lib.hid hSM; have HSN := Lib.hid hSN; have HQ := Lib.hid hQ; have HD2 := Lib.hid hd2; have HDS := Lib.hid hds
          have hdb0 := hdb.1; have hdb1 := hdb.2
          clear r0 hqs hrs hSM hSN hQ hqle hrle hd hd2 hrl hds hdb
          go_upto_if 90 with fail
          go_cut [15] from 84 to 95 (fun v15 wx => v15 = .int .i64 d2 ∧ Below wr.heap.size wr wx)
          case first =>
            by_cases hgt : d < (ql : Int)
            · have hd3 : d2 = (ql : Int) := by have := HDS.out; omega
              have HD3 := Lib.hid hd3
              clear hd3
              go_wp2_with fail
              go_meet
              exact ⟨by rw [HD3.out], Below.refl _ _⟩
            · have hd3 : d2 = d := by have := HDS.out; omega
              have HD3 := Lib.hid hd3
              clear hd3
              go_wp2_with fail
              go_meet
              exact ⟨by rw [HD3.out], Below.refl _ _⟩
          case rest =>
            obtain ⟨rfl, hB⟩ := hcut
            obtain ⟨wZ, hwZ⟩ : ∃ wZ, wZ = wc := ⟨_, rfl⟩
            subst hwZ
            have HBZ := Lib.hid hB
            clear hB x0 xl q0 ol
            obtain ⟨⟨q0, ol, r0, ol2⟩, _⟩ := HQ.out _ HBZ.out
            have HBD := Lib.hid HBZ.out.drew
            have HRND : RowKit.Hid (∀ V, Below wr.heap.size wr V → ∃ j : Nat, ((k : Int) + 1 = (j : Int) ∧ j ≤ n ∧ d2 = degTo s.norm j ∧ Below w9.heap.size w9 V)) := Lib.hid (fun V hV => ⟨k + 1, by omega, by omega, HD2.out, HB.out.trans (hV.mono HB.out.size)⟩)
            by_cases h40 : k < 40
            · have h40I : (k : Int) < 40 := by omega
              go_upto_region 22 with fail
              refine wp_region_held_drew (S := (fun V => (V.cell? ⟨ob, k, none⟩ = some (.slice qa ql qc) ∧ ob < V.heap.size ∧ V.cell? ⟨ob2, k, none⟩ = some (.slice ra rl rc) ∧ ob2 < V.heap.size) ∧ Below wr.heap.size wr V)) (by kernel_rfl) (by (try dsimp only); exact HQ.out _ HBD.out) (fun hHeld => ?_)
              refine wpAnyH_take (i := 0) (v := ?_) rfl (by kernel_rfl) (by kernel_rfl) (by kernel_rfl) (fun _ _ _ h => h) (Or.inl ⟨by rfl, ?_⟩) (by assumption) ?_
              rotate_left
              · intro w hSw
                try dsimp only at hSw
                go_simp
                try with_reducible rfl
              try simp only [List.getElem_toArray, List.getElem_cons_zero, Act.put, List.setIfInBounds_toArray, List.set_cons_zero, List.set_cons_succ]
              refine wpAnyH_take (i := 1) (v := ?_) rfl (by kernel_rfl) (by kernel_rfl) (by kernel_rfl) (fun _ _ _ h => h) (Or.inl ⟨by rfl, ?_⟩) (by assumption) ?_
              rotate_left
              · intro w hSw
                try dsimp only at hSw
                go_simp
                try with_reducible rfl
              try simp only [List.getElem_toArray, List.getElem_cons_zero, List.getElem_cons_succ, Act.put, List.setIfInBounds_toArray, List.set_cons_zero, List.set_cons_succ]
              refine wpAnyH_take (i := 2) (v := ?_) rfl (by kernel_rfl) (by kernel_rfl) (by kernel_rfl) (fun _ _ _ h => h) (Or.inl ⟨by rfl, ?_⟩) (by assumption) ?_
              rotate_left
              · intro w hSw
                try dsimp only at hSw
                go_simp
                try with_reducible rfl
              try simp only [List.getElem_toArray, List.getElem_cons_zero, List.getElem_cons_succ, Act.put, List.setIfInBounds_toArray, List.set_cons_zero, List.set_cons_succ]
              refine wpAnyH_take (i := 3) (v := ?_) rfl (by kernel_rfl) (by kernel_rfl) (by kernel_rfl) (fun _ _ _ h => h) (Or.inl ⟨by rfl, ?_⟩) (by assumption) ?_
              rotate_left
              · intro w hSw
                try dsimp only at hSw
                go_simp
                try with_reducible rfl
              try simp only [List.getElem_toArray, List.getElem_cons_zero, List.getElem_cons_succ, Act.put, List.setIfInBounds_toArray, List.set_cons_zero, List.set_cons_succ]
              refine wpAnyH_take (i := 4) (v := ?_) rfl (by kernel_rfl) (by kernel_rfl) (by kernel_rfl) (fun _ _ _ h => h) (Or.inl ⟨by rfl, ?_⟩) (by assumption) ?_
              rotate_left
              · intro w hSw
                try dsimp only at hSw
                go_simp
                try with_reducible rfl
              try simp only [List.getElem_toArray, List.getElem_cons_zero, List.getElem_cons_succ, Act.put, List.setIfInBounds_toArray, List.set_cons_zero, List.set_cons_succ]
              refine wpAnyH_take (i := 6) (v := ?_) rfl (by kernel_rfl) (by kernel_rfl) (by kernel_rfl) (fun _ _ _ h => h) (Or.inl ⟨by rfl, ?_⟩) (by assumption) ?_
              rotate_left
              · intro w hSw
                try dsimp only at hSw
                go_simp
                try with_reducible rfl
              try simp only [List.getElem_toArray, List.getElem_cons_zero, List.getElem_cons_succ, Act.put, List.setIfInBounds_toArray, List.set_cons_zero, List.set_cons_succ]
              refine wpAnyH_take (i := 7) (v := ?_) rfl (by kernel_rfl) (by kernel_rfl) (by kernel_rfl) (fun _ _ _ h => h) (Or.inl ⟨by rfl, ?_⟩) (by assumption) ?_
              rotate_left
              · intro w hSw
                try dsimp only at hSw
                go_simp
                try with_reducible rfl
              try simp only [List.getElem_toArray, List.getElem_cons_zero, List.getElem_cons_succ, Act.put, List.setIfInBounds_toArray, List.set_cons_zero, List.set_cons_succ]
              refine wpAnyH_take (i := 8) (v := ?_) rfl (by kernel_rfl) (by kernel_rfl) (by kernel_rfl) (fun _ _ _ h => h) (Or.inl ⟨by rfl, ?_⟩) (by assumption) ?_
              rotate_left
              · intro w hSw
                try dsimp only at hSw
                go_simp
                try with_reducible rfl
              try simp only [List.getElem_toArray, List.getElem_cons_zero, List.getElem_cons_succ, Act.put, List.setIfInBounds_toArray, List.set_cons_zero, List.set_cons_succ]
              refine wpAnyH_take (i := 9) (v := ?_) rfl (by kernel_rfl) (by kernel_rfl) (by kernel_rfl) (fun _ _ _ h => h) (Or.inl ⟨by rfl, ?_⟩) (by assumption) ?_
              rotate_left
              · intro w hSw
                try dsimp only at hSw
                go_simp
                try with_reducible rfl
              try simp only [List.getElem_toArray, List.getElem_cons_zero, List.getElem_cons_succ, Act.put, List.setIfInBounds_toArray, List.set_cons_zero, List.set_cons_succ]
              refine wpAnyH_ready (rs := [5]) (by kernel_rfl) (by simp) ?_
              refine AllReadyH.cons rfl (fun K hK => ?_) AllReadyH.nil
              go_simp
              refine (HGO.out _ (HB.out.trans (HBD.out.mono HB.out.size))).mono ?_
              rintro e wa ⟨v7, rfl, hown7, hBa⟩
              have HOW := Lib.hid hown7
              have HBa := Lib.hid (HBD.out.trans (hBa.mono HBD.out.size))
              clear hown7 hBa
              refine hK.out _ _ (by (try dsimp only); exact HQ.out _ HBa.out) (fun hHeld => ?_)
              clear hK K
              try simp only [List.getElem_toArray, List.getElem_cons_zero, List.getElem_cons_succ, Act.put, List.setIfInBounds_toArray, List.set_cons_zero, List.set_cons_succ]
              refine wpAnyH_ready (rs := [10]) (by kernel_rfl) (by simp) ?_
              refine AllReadyH.cons rfl (fun K hK => ?_) AllReadyH.nil
              go_simp
              refine (HSM.out _ _ _ HBa.out HOW.out).mono ?_
              rintro e wb ⟨rfl, mm, rfl⟩
              have HBb := Lib.hid (bdrew (n := mm) HBa.out)
              refine hK.out _ _ (by (try dsimp only); exact HQ.out _ HBb.out) (fun hHeld => ?_)
              clear hK K
              try simp only [List.getElem_toArray, List.getElem_cons_zero, List.getElem_cons_succ, Act.put, List.setIfInBounds_toArray, List.set_cons_zero, List.set_cons_succ]
              refine wpAnyH_take (i := 11) (v := ?_) rfl (by kernel_rfl) (by kernel_rfl) (by kernel_rfl) (fun _ _ _ h => h) (Or.inl ⟨by rfl, ?_⟩) (by assumption) ?_
              rotate_left
              · intro w hSw
                try dsimp only at hSw
                go_simp
                try with_reducible rfl
              try simp only [List.getElem_toArray, List.getElem_cons_zero, List.getElem_cons_succ, Act.put, List.setIfInBounds_toArray, List.set_cons_zero, List.set_cons_succ]
              refine wpAnyH_take (i := 12) (v := ?_) rfl (by kernel_rfl) (by kernel_rfl) (by kernel_rfl) (fun _ _ _ h => h) (Or.inl ⟨by rfl, ?_⟩) (by assumption) ?_
              rotate_left
              · intro w hSw
                try dsimp only at hSw
                go_simp
                try with_reducible rfl
              try simp only [List.getElem_toArray, List.getElem_cons_zero, List.getElem_cons_succ, Act.put, List.setIfInBounds_toArray, List.set_cons_zero, List.set_cons_succ]
              refine wpAnyH_take (i := 13) (v := ?_) rfl (by kernel_rfl) (by kernel_rfl) (by kernel_rfl) (fun _ _ _ h => h) (Or.inl ⟨by rfl, ?_⟩) (by assumption) ?_
              rotate_left
              · intro w hSw
                try dsimp only at hSw
                go_simp
                try with_reducible rfl
              try simp only [List.getElem_toArray, List.getElem_cons_zero, List.getElem_cons_succ, Act.put, List.setIfInBounds_toArray, List.set_cons_zero, List.set_cons_succ]
              refine wpAnyH_take (i := 14) (v := ?_) rfl (by kernel_rfl) (by kernel_rfl) (by kernel_rfl) (fun _ _ _ h => h) (Or.inl ⟨by rfl, ?_⟩) (by assumption) ?_
              rotate_left
              · intro w hSw
                try dsimp only at hSw
                go_simp
                try with_reducible rfl
              try simp only [List.getElem_toArray, List.getElem_cons_zero, List.getElem_cons_succ, Act.put, List.setIfInBounds_toArray, List.set_cons_zero, List.set_cons_succ]
              refine wpAnyH_take (i := 16) (v := ?_) rfl (by kernel_rfl) (by kernel_rfl) (by kernel_rfl) (fun _ _ _ h => h) (Or.inl ⟨by rfl, ?_⟩) (by assumption) ?_
              rotate_left
              · intro w hSw
                try dsimp only at hSw
                go_simp
                try with_reducible rfl
              try simp only [List.getElem_toArray, List.getElem_cons_zero, List.getElem_cons_succ, Act.put, List.setIfInBounds_toArray, List.set_cons_zero, List.set_cons_succ]
              refine wpAnyH_take (i := 17) (v := ?_) rfl (by kernel_rfl) (by kernel_rfl) (by kernel_rfl) (fun _ _ _ h => h) (Or.inl ⟨by rfl, ?_⟩) (by assumption) ?_
              rotate_left
              · intro w hSw
                try dsimp only at hSw
                go_simp
                try with_reducible rfl
              try simp only [List.getElem_toArray, List.getElem_cons_zero, List.getElem_cons_succ, Act.put, List.setIfInBounds_toArray, List.set_cons_zero, List.set_cons_succ]
              refine wpAnyH_take (i := 18) (v := ?_) rfl (by kernel_rfl) (by kernel_rfl) (by kernel_rfl) (fun _ _ _ h => h) (Or.inl ⟨by rfl, ?_⟩) (by assumption) ?_
              rotate_left
              · intro w hSw
                try dsimp only at hSw
                go_simp
                try with_reducible rfl
              try simp only [List.getElem_toArray, List.getElem_cons_zero, List.getElem_cons_succ, Act.put, List.setIfInBounds_toArray, List.set_cons_zero, List.set_cons_succ]
              refine wpAnyH_take (i := 19) (v := ?_) rfl (by kernel_rfl) (by kernel_rfl) (by kernel_rfl) (fun _ _ _ h => h) (Or.inl ⟨by rfl, ?_⟩) (by assumption) ?_
              rotate_left
              · intro w hSw
                try dsimp only at hSw
                go_simp
                try with_reducible rfl
              try simp only [List.getElem_toArray, List.getElem_cons_zero, List.getElem_cons_succ, Act.put, List.setIfInBounds_toArray, List.set_cons_zero, List.set_cons_succ]
              refine wpAnyH_ready (rs := [15]) (by kernel_rfl) (by simp) ?_
              refine AllReadyH.cons rfl (fun K hK => ?_) AllReadyH.nil
              go_simp
              refine (HGI.out _ (HB.out.trans (HBb.out.mono HB.out.size))).mono ?_
              rintro e wc ⟨v8, rfl, hown8, hBc⟩
              have HOX := Lib.hid hown8
              have HBc := Lib.hid (HBb.out.trans (hBc.mono HBb.out.size))
              clear hown8 hBc
              refine hK.out _ _ (by (try dsimp only); exact HQ.out _ HBc.out) (fun hHeld => ?_)
              clear hK K
              try simp only [List.getElem_toArray, List.getElem_cons_zero, List.getElem_cons_succ, Act.put, List.setIfInBounds_toArray, List.set_cons_zero, List.set_cons_succ]
              refine wpAnyH_ready (rs := [20]) (by kernel_rfl) (by simp) ?_
              refine AllReadyH.cons rfl (fun K hK => ?_) AllReadyH.nil
              go_simp
              refine (HSN.out _ _ _ HBc.out HOX.out).mono ?_
              rintro e wd ⟨rfl, mm2, rfl⟩
              have HBd := Lib.hid (bdrew (n := mm2) HBc.out)
              refine hK.out _ _ (by (try dsimp only); exact HQ.out _ HBd.out) (fun hHeld => ?_)
              clear hK K
              try simp only [List.getElem_toArray, List.getElem_cons_zero, List.getElem_cons_succ, Act.put, List.setIfInBounds_toArray, List.set_cons_zero, List.set_cons_succ]
              refine wpAnyH_take (i := 21) (v := ?_) rfl (by kernel_rfl) (by kernel_rfl) (by kernel_rfl) (fun _ _ _ h => h) (Or.inl ⟨by rfl, ?_⟩) (by assumption) ?_
              rotate_left
              · intro w hSw
                try dsimp only at hSw
                go_simp
                try with_reducible rfl
              try simp only [List.getElem_toArray, List.getElem_cons_zero, List.getElem_cons_succ, Act.put, List.setIfInBounds_toArray, List.set_cons_zero, List.set_cons_succ]
              refine wpAnyH_take (i := 22) (v := ?_) rfl (by kernel_rfl) (by kernel_rfl) (by kernel_rfl) (fun _ _ _ h => h) (Or.inl ⟨by rfl, ?_⟩) (by assumption) ?_
              rotate_left
              · intro w hSw
                try dsimp only at hSw
                go_simp
                try with_reducible rfl
              try simp only [List.getElem_toArray, List.getElem_cons_zero, List.getElem_cons_succ, Act.put, List.setIfInBounds_toArray, List.set_cons_zero, List.set_cons_succ]
              refine wpAnyH_take (i := 23) (v := ?_) rfl (by kernel_rfl) (by kernel_rfl) (by kernel_rfl) (fun _ _ _ h => h) (Or.inl ⟨by rfl, ?_⟩) (by assumption) ?_
              rotate_left
              · intro w hSw
                try dsimp only at hSw
                go_simp
                try with_reducible rfl
              try simp only [List.getElem_toArray, List.getElem_cons_zero, List.getElem_cons_succ, Act.put, List.setIfInBounds_toArray, List.set_cons_zero, List.set_cons_succ]
              refine wpAnyH_done (by kernel_rfl) ?_ _
              go_wp2_with fail
              go_roundw
              case rel => exact ⟨k + 1, by go_num, by omega, by rw [HD2.out], HB.out.trans (HBd.out.mono HB.out.size)⟩
              case measure => simp [intOf]; omega
            · have h40I : ¬ (k : Int) < 40 := by omega
              go_upto_region 22 with fail
              refine wp_region_held_drew (S := (fun V => (V.cell? ⟨ob, k, none⟩ = some (.slice qa ql qc) ∧ ob < V.heap.size ∧ V.cell? ⟨ob2, k, none⟩ = some (.slice ra rl rc) ∧ ob2 < V.heap.size) ∧ Below wr.heap.size wr V)) (by kernel_rfl) (by (try dsimp only); exact HQ.out _ HBD.out) (fun hHeld => ?_)
              refine wpAnyH_take (i := 0) (v := ?_) rfl (by kernel_rfl) (by kernel_rfl) (by kernel_rfl) (fun _ _ _ h => h) (Or.inl ⟨by rfl, ?_⟩) (by assumption) ?_
              rotate_left
              · intro w hSw
                try dsimp only at hSw
                go_simp
                try with_reducible rfl
              try simp only [List.getElem_toArray, List.getElem_cons_zero, Act.put, List.setIfInBounds_toArray, List.set_cons_zero, List.set_cons_succ]
              refine wpAnyH_take (i := 1) (v := ?_) rfl (by kernel_rfl) (by kernel_rfl) (by kernel_rfl) (fun _ _ _ h => h) (Or.inl ⟨by rfl, ?_⟩) (by assumption) ?_
              rotate_left
              · intro w hSw
                try dsimp only at hSw
                go_simp
                try with_reducible rfl
              try simp only [List.getElem_toArray, List.getElem_cons_zero, List.getElem_cons_succ, Act.put, List.setIfInBounds_toArray, List.set_cons_zero, List.set_cons_succ]
              refine wpAnyH_take (i := 2) (v := ?_) rfl (by kernel_rfl) (by kernel_rfl) (by kernel_rfl) (fun _ _ _ h => h) (Or.inl ⟨by rfl, ?_⟩) (by assumption) ?_
              rotate_left
              · intro w hSw
                try dsimp only at hSw
                go_simp
                try with_reducible rfl
              try simp only [List.getElem_toArray, List.getElem_cons_zero, List.getElem_cons_succ, Act.put, List.setIfInBounds_toArray, List.set_cons_zero, List.set_cons_succ]
              refine wpAnyH_take (i := 3) (v := undef) rfl (by kernel_rfl) (by kernel_rfl) (by kernel_rfl) (fun _ _ _ h => h) (Or.inr ⟨by rfl, rfl⟩) (by assumption) ?_
              try simp only [List.getElem_toArray, List.getElem_cons_zero, List.getElem_cons_succ, Act.put, List.setIfInBounds_toArray, List.set_cons_zero, List.set_cons_succ]
              refine wpAnyH_take (i := 4) (v := undef) rfl (by kernel_rfl) (by kernel_rfl) (by kernel_rfl) (fun _ _ _ h => h) (Or.inr ⟨by rfl, rfl⟩) (by assumption) ?_
              try simp only [List.getElem_toArray, List.getElem_cons_zero, List.getElem_cons_succ, Act.put, List.setIfInBounds_toArray, List.set_cons_zero, List.set_cons_succ]
              refine wpAnyH_take (i := 5) (v := undef) rfl (by kernel_rfl) (by kernel_rfl) (by kernel_rfl) (fun _ _ _ h => h) (Or.inr ⟨by rfl, rfl⟩) (by assumption) ?_
              try simp only [List.getElem_toArray, List.getElem_cons_zero, List.getElem_cons_succ, Act.put, List.setIfInBounds_toArray, List.set_cons_zero, List.set_cons_succ]
              refine wpAnyH_take (i := 6) (v := undef) rfl (by kernel_rfl) (by kernel_rfl) (by kernel_rfl) (fun _ _ _ h => h) (Or.inr ⟨by rfl, rfl⟩) (by assumption) ?_
              try simp only [List.getElem_toArray, List.getElem_cons_zero, List.getElem_cons_succ, Act.put, List.setIfInBounds_toArray, List.set_cons_zero, List.set_cons_succ]
              refine wpAnyH_take (i := 7) (v := undef) rfl (by kernel_rfl) (by kernel_rfl) (by kernel_rfl) (fun _ _ _ h => h) (Or.inr ⟨by rfl, rfl⟩) (by assumption) ?_
              try simp only [List.getElem_toArray, List.getElem_cons_zero, List.getElem_cons_succ, Act.put, List.setIfInBounds_toArray, List.set_cons_zero, List.set_cons_succ]
              refine wpAnyH_take (i := 8) (v := undef) rfl (by kernel_rfl) (by kernel_rfl) (by kernel_rfl) (fun _ _ _ h => h) (Or.inr ⟨by rfl, rfl⟩) (by assumption) ?_
              try simp only [List.getElem_toArray, List.getElem_cons_zero, List.getElem_cons_succ, Act.put, List.setIfInBounds_toArray, List.set_cons_zero, List.set_cons_succ]
              refine wpAnyH_take (i := 9) (v := undef) rfl (by kernel_rfl) (by kernel_rfl) (by kernel_rfl) (fun _ _ _ h => h) (Or.inr ⟨by rfl, rfl⟩) (by assumption) ?_
              try simp only [List.getElem_toArray, List.getElem_cons_zero, List.getElem_cons_succ, Act.put, List.setIfInBounds_toArray, List.set_cons_zero, List.set_cons_succ]
              refine wpAnyH_take (i := 10) (v := undef) rfl (by kernel_rfl) (by kernel_rfl) (by kernel_rfl) (fun _ _ _ h => h) (Or.inr ⟨by rfl, rfl⟩) (by assumption) ?_
              try simp only [List.getElem_toArray, List.getElem_cons_zero, List.getElem_cons_succ, Act.put, List.setIfInBounds_toArray, List.set_cons_zero, List.set_cons_succ]
              refine wpAnyH_take (i := 11) (v := undef) rfl (by kernel_rfl) (by kernel_rfl) (by kernel_rfl) (fun _ _ _ h => h) (Or.inr ⟨by rfl, rfl⟩) (by assumption) ?_
              try simp only [List.getElem_toArray, List.getElem_cons_zero, List.getElem_cons_succ, Act.put, List.setIfInBounds_toArray, List.set_cons_zero, List.set_cons_succ]
              refine wpAnyH_take (i := 12) (v := undef) rfl (by kernel_rfl) (by kernel_rfl) (by kernel_rfl) (fun _ _ _ h => h) (Or.inr ⟨by rfl, rfl⟩) (by assumption) ?_
              try simp only [List.getElem_toArray, List.getElem_cons_zero, List.getElem_cons_succ, Act.put, List.setIfInBounds_toArray, List.set_cons_zero, List.set_cons_succ]
              refine wpAnyH_take (i := 13) (v := undef) rfl (by kernel_rfl) (by kernel_rfl) (by kernel_rfl) (fun _ _ _ h => h) (Or.inr ⟨by rfl, rfl⟩) (by assumption) ?_
              try simp only [List.getElem_toArray, List.getElem_cons_zero, List.getElem_cons_succ, Act.put, List.setIfInBounds_toArray, List.set_cons_zero, List.set_cons_succ]
              refine wpAnyH_take (i := 14) (v := undef) rfl (by kernel_rfl) (by kernel_rfl) (by kernel_rfl) (fun _ _ _ h => h) (Or.inr ⟨by rfl, rfl⟩) (by assumption) ?_
              try simp only [List.getElem_toArray, List.getElem_cons_zero, List.getElem_cons_succ, Act.put, List.setIfInBounds_toArray, List.set_cons_zero, List.set_cons_succ]
              refine wpAnyH_take (i := 15) (v := undef) rfl (by kernel_rfl) (by kernel_rfl) (by kernel_rfl) (fun _ _ _ h => h) (Or.inr ⟨by rfl, rfl⟩) (by assumption) ?_
              try simp only [List.getElem_toArray, List.getElem_cons_zero, List.getElem_cons_succ, Act.put, List.setIfInBounds_toArray, List.set_cons_zero, List.set_cons_succ]
              refine wpAnyH_take (i := 16) (v := undef) rfl (by kernel_rfl) (by kernel_rfl) (by kernel_rfl) (fun _ _ _ h => h) (Or.inr ⟨by rfl, rfl⟩) (by assumption) ?_
              try simp only [List.getElem_toArray, List.getElem_cons_zero, List.getElem_cons_succ, Act.put, List.setIfInBounds_toArray, List.set_cons_zero, List.set_cons_succ]
              refine wpAnyH_take (i := 17) (v := undef) rfl (by kernel_rfl) (by kernel_rfl) (by kernel_rfl) (fun _ _ _ h => h) (Or.inr ⟨by rfl, rfl⟩) (by assumption) ?_
              try simp only [List.getElem_toArray, List.getElem_cons_zero, List.getElem_cons_succ, Act.put, List.setIfInBounds_toArray, List.set_cons_zero, List.set_cons_succ]
              refine wpAnyH_take (i := 18) (v := undef) rfl (by kernel_rfl) (by kernel_rfl) (by kernel_rfl) (fun _ _ _ h => h) (Or.inr ⟨by rfl, rfl⟩) (by assumption) ?_
              try simp only [List.getElem_toArray, List.getElem_cons_zero, List.getElem_cons_succ, Act.put, List.setIfInBounds_toArray, List.set_cons_zero, List.set_cons_succ]
              refine wpAnyH_take (i := 19) (v := undef) rfl (by kernel_rfl) (by kernel_rfl) (by kernel_rfl) (fun _ _ _ h => h) (Or.inr ⟨by rfl, rfl⟩) (by assumption) ?_
              try simp only [List.getElem_toArray, List.getElem_cons_zero, List.getElem_cons_succ, Act.put, List.setIfInBounds_toArray, List.set_cons_zero, List.set_cons_succ]
              refine wpAnyH_take (i := 20) (v := undef) rfl (by kernel_rfl) (by kernel_rfl) (by kernel_rfl) (fun _ _ _ h => h) (Or.inr ⟨by rfl, rfl⟩) (by assumption) ?_
              try simp only [List.getElem_toArray, List.getElem_cons_zero, List.getElem_cons_succ, Act.put, List.setIfInBounds_toArray, List.set_cons_zero, List.set_cons_succ]
              refine wpAnyH_take (i := 21) (v := undef) rfl (by kernel_rfl) (by kernel_rfl) (by kernel_rfl) (fun _ _ _ h => h) (Or.inr ⟨by rfl, rfl⟩) (by assumption) ?_
              try simp only [List.getElem_toArray, List.getElem_cons_zero, List.getElem_cons_succ, Act.put, List.setIfInBounds_toArray, List.set_cons_zero, List.set_cons_succ]
              refine wpAnyH_take (i := 22) (v := undef) rfl (by kernel_rfl) (by kernel_rfl) (by kernel_rfl) (fun _ _ _ h => h) (Or.inr ⟨by rfl, rfl⟩) (by assumption) ?_
              try simp only [List.getElem_toArray, List.getElem_cons_zero, List.getElem_cons_succ, Act.put, List.setIfInBounds_toArray, List.set_cons_zero, List.set_cons_succ]
              refine wpAnyH_take (i := 23) (v := ?_) rfl (by kernel_rfl) (by kernel_rfl) (by kernel_rfl) (fun _ _ _ h => h) (Or.inl ⟨by rfl, ?_⟩) (by assumption) ?_
              rotate_left
              · intro w hSw
                try dsimp only at hSw
                go_simp
                try with_reducible rfl
              try simp only [List.getElem_toArray, List.getElem_cons_zero, List.getElem_cons_succ, Act.put, List.setIfInBounds_toArray, List.set_cons_zero, List.set_cons_succ]
              refine wpAnyH_done (by kernel_rfl) ?_ _
              go_wp2_with fail
              go_roundw
              case rel => exact ⟨k + 1, by go_num, by omega, by rw [HD2.out], HB.out.trans (HBD.out.mono HB.out.size)⟩
              case measure => simp [intOf]; omega
        · obtain rfl : n = k := by omega
          have HDG : RowKit.Hid (∀ V, Below w9.heap.size w9 V → Calls Tryz.prog 46 #[.pointer (some ⟨gb, 0, none⟩)] V fun e w' => e = .returned (.int .i64 (degTo s.norm n)) ∧ Below V.heap.size V w') := Lib.hid (fun V hV => by
            have h := degree_any (H9.out V hV).2.2.1
            rw [show s.norm.st.toNat = n from by have := HN.out; show s.st.toNat = n; omega] at h
            exact h)
          obtain ⟨dg, hdg⟩ : ∃ dg, dg = degTo s.norm n := ⟨_, rfl⟩
          rw [← hdg] at HDG ⊢
          obtain ⟨wA, hwA⟩ : ∃ wA, wA = wr := ⟨_, rfl⟩
          subst hwA
          clear hdg
          go_upto_region 26 with fail
          go_cut [127] from 120 to 126 (fun v127 wx => v127 = .bool (decide (0 ≤ state ∧ state < (n : Int))) ∧ wx = wA)
          case first =>
            by_cases h0 : 0 ≤ state
            · by_cases h1 : state < (n : Int)
              · have hd : decide (0 ≤ state ∧ state < (n : Int)) = true := by simp [h0, h1]
                go_wp2_with fail
                go_meet
                exact ⟨by rw [hd], rfl⟩
              · have hd : decide (0 ≤ state ∧ state < (n : Int)) = false := by simp [h1]
                go_wp2_with fail
                go_meet
                exact ⟨by rw [hd], rfl⟩
            · have hd : decide (0 ≤ state ∧ state < (n : Int)) = false := by simp [h0]
              go_wp2_with fail
              go_meet
              exact ⟨by rw [hd], rfl⟩
          case rest =>
            obtain ⟨rfl, rfl⟩ := hcut
            clear x0 xl
            obtain ⟨bv, hbv⟩ : ∃ bv, bv = decide (0 ≤ state ∧ state < (n : Int)) := ⟨_, rfl⟩
            rw [← hbv]
            have HBV := Lib.hid hbv
            clear hbv
            obtain ⟨wA, hwA⟩ : ∃ wA, wA = wc := ⟨_, rfl⟩
            subst hwA
            go_upto_if 127 with fail
            go_cut [17, 18, 19, 20] from 128 to 147 (fun v17 v18 v19 v20 wx => ∃ (ia ja pa ra : Option Addr) (ib ic jb jc pb po pc rb ro rc : Nat), v17 = .slice ia (withL label (s.norm.outs state)).length ic ∧ v18 = .slice ja (withL label (s.norm.ins state)).length jc ∧ v19 = .slice pa (s.norm.outs state).length pc ∧ v20 = .slice ra (s.norm.ins state).length rc ∧
              SlAt encI 1 wx ia ib 0 (withL label (s.norm.outs state)) ∧ SlAt encI 1 wx ja jb 0 (withL label (s.norm.ins state)) ∧ SlAt encS 2 wx pa pb po (s.norm.outs state) ∧ SlAt encS 2 wx ra rb ro (s.norm.ins state) ∧ Below w9.heap.size w9 wx)
            case first =>
              cases bv with
              | true =>
                have hin : 0 ≤ state ∧ state < (n : Int) := by have h := HBV.out; exact of_decide_eq_true h.symm
                obtain ⟨k, rfl⟩ := Int.eq_ofNat_of_zero_le hin.1
                have hkI := hin.2
                have hkn : k < n := by omega
                obtain ⟨qa, qc, qb, qo, q0, hqs⟩ := HSO.out.at_ k hkn
                obtain ⟨ra, rc, rb, ro, r0, hrs⟩ := HSO2.out.at_ k hkn
                have hql := (HOL.out k).1; have hrl := (HOL.out k).2
                have hEN : ∀ V, Below wA.heap.size wA V → _ := fun V (hV : Below wA.heap.size wA V) => ends_lab (c := qc) (label := label) (hqs.below hV (Nat.le_refl _)) (by omega)
                have hEM : ∀ V, Below wA.heap.size wA V → _ := fun V (hV : Below wA.heap.size wA V) => ends_lab (c := rc) (label := label) (hrs.below hV (Nat.le_refl _)) (by omega)
                have hQ : ∀ V, Below wA.heap.size wA V → (V.cell? ⟨ob, k, none⟩ = some (.slice qa (s.norm.outs (k : Int)).length qc) ∧ ob < V.heap.size ∧ V.cell? ⟨ob2, k, none⟩ = some (.slice ra (s.norm.ins (k : Int)).length rc) ∧ ob2 < V.heap.size) ∧ Below wA.heap.size wA V := fun V hV =>
                  ⟨⟨by rw [hV.cell (p := ⟨ob, k, none⟩) HSO.out.lt]; exact q0, Nat.lt_of_lt_of_le HSO.out.lt hV.size, by rw [hV.cell (p := ⟨ob2, k, none⟩) HSO2.out.lt]; exact r0, Nat.lt_of_lt_of_le HSO2.out.lt hV.size⟩, hV⟩
                obtain ⟨ql, hqle⟩ : ∃ ql, ql = (s.norm.outs (k : Int)).length := ⟨_, rfl⟩
                obtain ⟨rl, hrle⟩ : ∃ rl, rl = (s.norm.ins (k : Int)).length := ⟨_, rfl⟩
                rw [← hqle] at hEN hQ
                rw [← hrle] at hEM hQ
                have HEN := Lib.hid hEN; have HEM := Lib.hid hEM; have HQ := Lib.hid hQ; have HQS := Lib.hid hqs; have HRS := Lib.hid hrs; have HQL := Lib.hid hqle; have HRL := Lib.hid hrle
                have HBD := Lib.hid (Below.refl wA.heap.size wA).drew
                clear q0 r0 hqs hrs hEN hEM hQ hqle hrle hql hrl hin
                go_upto_region 27 with fail
                refine wp_region_held_drew (S := (fun V => (V.cell? ⟨ob, k, none⟩ = some (.slice qa ql qc) ∧ ob < V.heap.size ∧ V.cell? ⟨ob2, k, none⟩ = some (.slice ra rl rc) ∧ ob2 < V.heap.size) ∧ Below wA.heap.size wA V)) (by kernel_rfl) (by (try dsimp only); exact HQ.out _ HBD.out) (fun hHeld => ?_)
                refine wpAnyH_take (i := 0) (v := ?_) rfl (by kernel_rfl) (by kernel_rfl) (by kernel_rfl) (fun _ _ _ h => h) (Or.inl ⟨by rfl, ?_⟩) (by assumption) ?_
                rotate_left
                · intro w hSw
                  try dsimp only at hSw
                  go_simp
                  try with_reducible rfl
                try simp only [List.getElem_toArray, List.getElem_cons_zero, Act.put, List.setIfInBounds_toArray, List.set_cons_zero, List.set_cons_succ]
                refine wpAnyH_take (i := 1) (v := ?_) rfl (by kernel_rfl) (by kernel_rfl) (by kernel_rfl) (fun _ _ _ h => h) (Or.inl ⟨by rfl, ?_⟩) (by assumption) ?_
                rotate_left
                · intro w hSw
                  try dsimp only at hSw
                  go_simp
                  try with_reducible rfl
                try simp only [List.getElem_toArray, List.getElem_cons_zero, List.getElem_cons_succ, Act.put, List.setIfInBounds_toArray, List.set_cons_zero, List.set_cons_succ]
                refine wpAnyH_take (i := 2) (v := ?_) rfl (by kernel_rfl) (by kernel_rfl) (by kernel_rfl) (fun _ _ _ h => h) (Or.inl ⟨by rfl, ?_⟩) (by assumption) ?_
                rotate_left
                · intro w hSw
                  try dsimp only at hSw
                  go_simp
                  try with_reducible rfl
                try simp only [List.getElem_toArray, List.getElem_cons_zero, List.getElem_cons_succ, Act.put, List.setIfInBounds_toArray, List.set_cons_zero, List.set_cons_succ]
                refine wpAnyH_take (i := 3) (v := ?_) rfl (by kernel_rfl) (by kernel_rfl) (by kernel_rfl) (fun _ _ _ h => h) (Or.inl ⟨by rfl, ?_⟩) (by assumption) ?_
                rotate_left
                · intro w hSw
                  try dsimp only at hSw
                  go_simp
                  try with_reducible rfl
                try simp only [List.getElem_toArray, List.getElem_cons_zero, List.getElem_cons_succ, Act.put, List.setIfInBounds_toArray, List.set_cons_zero, List.set_cons_succ]
                refine wpAnyH_take (i := 4) (v := ?_) rfl (by kernel_rfl) (by kernel_rfl) (by kernel_rfl) (fun _ _ _ h => h) (Or.inl ⟨by rfl, ?_⟩) (by assumption) ?_
                rotate_left
                · intro w hSw
                  try dsimp only at hSw
                  go_simp
                  try with_reducible rfl
                try simp only [List.getElem_toArray, List.getElem_cons_zero, List.getElem_cons_succ, Act.put, List.setIfInBounds_toArray, List.set_cons_zero, List.set_cons_succ]
                refine wpAnyH_take (i := 6) (v := ?_) rfl (by kernel_rfl) (by kernel_rfl) (by kernel_rfl) (fun _ _ _ h => h) (Or.inl ⟨by rfl, ?_⟩) (by assumption) ?_
                rotate_left
                · intro w hSw
                  try dsimp only at hSw
                  go_simp
                  try with_reducible rfl
                try simp only [List.getElem_toArray, List.getElem_cons_zero, List.getElem_cons_succ, Act.put, List.setIfInBounds_toArray, List.set_cons_zero, List.set_cons_succ]
                refine wpAnyH_take (i := 7) (v := ?_) rfl (by kernel_rfl) (by kernel_rfl) (by kernel_rfl) (fun _ _ _ h => h) (Or.inl ⟨by rfl, ?_⟩) (by assumption) ?_
                rotate_left
                · intro w hSw
                  try dsimp only at hSw
                  go_simp
                  try with_reducible rfl
                try simp only [List.getElem_toArray, List.getElem_cons_zero, List.getElem_cons_succ, Act.put, List.setIfInBounds_toArray, List.set_cons_zero, List.set_cons_succ]
                refine wpAnyH_take (i := 8) (v := ?_) rfl (by kernel_rfl) (by kernel_rfl) (by kernel_rfl) (fun _ _ _ h => h) (Or.inl ⟨by rfl, ?_⟩) (by assumption) ?_
                rotate_left
                · intro w hSw
                  try dsimp only at hSw
                  go_simp
                  try with_reducible rfl
                try simp only [List.getElem_toArray, List.getElem_cons_zero, List.getElem_cons_succ, Act.put, List.setIfInBounds_toArray, List.set_cons_zero, List.set_cons_succ]
                refine wpAnyH_take (i := 9) (v := ?_) rfl (by kernel_rfl) (by kernel_rfl) (by kernel_rfl) (fun _ _ _ h => h) (Or.inl ⟨by rfl, ?_⟩) (by assumption) ?_
                rotate_left
                · intro w hSw
                  try dsimp only at hSw
                  go_simp
                  try with_reducible rfl
                try simp only [List.getElem_toArray, List.getElem_cons_zero, List.getElem_cons_succ, Act.put, List.setIfInBounds_toArray, List.set_cons_zero, List.set_cons_succ]
                refine wpAnyH_take (i := 10) (v := ?_) rfl (by kernel_rfl) (by kernel_rfl) (by kernel_rfl) (fun _ _ _ h => h) (Or.inl ⟨by rfl, ?_⟩) (by assumption) ?_
                rotate_left
                · intro w hSw
                  try dsimp only at hSw
                  go_simp
                  try with_reducible rfl
                try simp only [List.getElem_toArray, List.getElem_cons_zero, List.getElem_cons_succ, Act.put, List.setIfInBounds_toArray, List.set_cons_zero, List.set_cons_succ]
                refine wpAnyH_take (i := 12) (v := ?_) rfl (by kernel_rfl) (by kernel_rfl) (by kernel_rfl) (fun _ _ _ h => h) (Or.inl ⟨by rfl, ?_⟩) (by assumption) ?_
                rotate_left
                · intro w hSw
                  try dsimp only at hSw
                  go_simp
                  try with_reducible rfl
                try simp only [List.getElem_toArray, List.getElem_cons_zero, List.getElem_cons_succ, Act.put, List.setIfInBounds_toArray, List.set_cons_zero, List.set_cons_succ]
                refine wpAnyH_take (i := 13) (v := ?_) rfl (by kernel_rfl) (by kernel_rfl) (by kernel_rfl) (fun _ _ _ h => h) (Or.inl ⟨by rfl, ?_⟩) (by assumption) ?_
                rotate_left
                · intro w hSw
                  try dsimp only at hSw
                  go_simp
                  try with_reducible rfl
                try simp only [List.getElem_toArray, List.getElem_cons_zero, List.getElem_cons_succ, Act.put, List.setIfInBounds_toArray, List.set_cons_zero, List.set_cons_succ]
                refine wpAnyH_take (i := 14) (v := ?_) rfl (by kernel_rfl) (by kernel_rfl) (by kernel_rfl) (fun _ _ _ h => h) (Or.inl ⟨by rfl, ?_⟩) (by assumption) ?_
                rotate_left
                · intro w hSw
                  try dsimp only at hSw
                  go_simp
                  try with_reducible rfl
                try simp only [List.getElem_toArray, List.getElem_cons_zero, List.getElem_cons_succ, Act.put, List.setIfInBounds_toArray, List.set_cons_zero, List.set_cons_succ]
                refine wpAnyH_take (i := 15) (v := ?_) rfl (by kernel_rfl) (by kernel_rfl) (by kernel_rfl) (fun _ _ _ h => h) (Or.inl ⟨by rfl, ?_⟩) (by assumption) ?_
                rotate_left
                · intro w hSw
                  try dsimp only at hSw
                  go_simp
                  try with_reducible rfl
                try simp only [List.getElem_toArray, List.getElem_cons_zero, List.getElem_cons_succ, Act.put, List.setIfInBounds_toArray, List.set_cons_zero, List.set_cons_succ]
                refine wpAnyH_take (i := 16) (v := ?_) rfl (by kernel_rfl) (by kernel_rfl) (by kernel_rfl) (fun _ _ _ h => h) (Or.inl ⟨by rfl, ?_⟩) (by assumption) ?_
                rotate_left
                · intro w hSw
                  try dsimp only at hSw
                  go_simp
                  try with_reducible rfl
                try simp only [List.getElem_toArray, List.getElem_cons_zero, List.getElem_cons_succ, Act.put, List.setIfInBounds_toArray, List.set_cons_zero, List.set_cons_succ]
                refine wpAnyH_take (i := 17) (v := ?_) rfl (by kernel_rfl) (by kernel_rfl) (by kernel_rfl) (fun _ _ _ h => h) (Or.inl ⟨by rfl, ?_⟩) (by assumption) ?_
                rotate_left
                · intro w hSw
                  try dsimp only at hSw
                  go_simp
                  try with_reducible rfl
                try simp only [List.getElem_toArray, List.getElem_cons_zero, List.getElem_cons_succ, Act.put, List.setIfInBounds_toArray, List.set_cons_zero, List.set_cons_succ]
                refine wpAnyH_take (i := 18) (v := ?_) rfl (by kernel_rfl) (by kernel_rfl) (by kernel_rfl) (fun _ _ _ h => h) (Or.inl ⟨by rfl, ?_⟩) (by assumption) ?_
                rotate_left
                · intro w hSw
                  try dsimp only at hSw
                  go_simp
                  try with_reducible rfl
                try simp only [List.getElem_toArray, List.getElem_cons_zero, List.getElem_cons_succ, Act.put, List.setIfInBounds_toArray, List.set_cons_zero, List.set_cons_succ]
                refine wpAnyH_take (i := 19) (v := ?_) rfl (by kernel_rfl) (by kernel_rfl) (by kernel_rfl) (fun _ _ _ h => h) (Or.inl ⟨by rfl, ?_⟩) (by assumption) ?_
                rotate_left
                · intro w hSw
                  try dsimp only at hSw
                  go_simp
                  try with_reducible rfl
                try simp only [List.getElem_toArray, List.getElem_cons_zero, List.getElem_cons_succ, Act.put, List.setIfInBounds_toArray, List.set_cons_zero, List.set_cons_succ]
                refine wpAnyH_ready (rs := [5]) (by kernel_rfl) (by simp) ?_
                refine AllReadyH.cons rfl (fun K hK => ?_) AllReadyH.nil
                go_simp
                refine (HEN.out _ HBD.out).mono ?_
                rintro e wa ⟨v7, rfl, hown7, hBa⟩
                have HOW := Lib.hid hown7
                have HBa := Lib.hid (HBD.out.trans (hBa.mono HBD.out.size))
                clear hown7 hBa
                refine hK.out _ _ (by (try dsimp only); exact HQ.out _ HBa.out) (fun hHeld => ?_)
                clear hK K
                try simp only [List.getElem_toArray, List.getElem_cons_zero, List.getElem_cons_succ, Act.put, List.setIfInBounds_toArray, List.set_cons_zero, List.set_cons_succ]
                refine wpAnyH_ready (rs := [11]) (by kernel_rfl) (by simp) ?_
                refine AllReadyH.cons rfl (fun K hK => ?_) AllReadyH.nil
                go_simp
                refine (HEM.out _ HBa.out).mono ?_
                rintro e wb ⟨v8, rfl, hown8, hBb⟩
                have HOX := Lib.hid hown8
                have HBb := Lib.hid (HBa.out.trans (hBb.mono HBa.out.size))
                replace HOW := Lib.hid (own_below HOW.out hBb)
                clear hown8 hBb
                refine hK.out _ _ (by (try dsimp only); exact HQ.out _ HBb.out) (fun hHeld => ?_)
                clear hK K
                try simp only [List.getElem_toArray, List.getElem_cons_zero, List.getElem_cons_succ, Act.put, List.setIfInBounds_toArray, List.set_cons_zero, List.set_cons_succ]
                refine wpAnyH_take (i := 20) (v := ?_) rfl (by kernel_rfl) (by kernel_rfl) (by kernel_rfl) (fun _ _ _ h => h) (Or.inl ⟨by rfl, ?_⟩) (by assumption) ?_
                rotate_left
                · intro w hSw
                  try dsimp only at hSw
                  go_simp
                  try with_reducible rfl
                try simp only [List.getElem_toArray, List.getElem_cons_zero, List.getElem_cons_succ, Act.put, List.setIfInBounds_toArray, List.set_cons_zero, List.set_cons_succ]
                refine wpAnyH_take (i := 21) (v := ?_) rfl (by kernel_rfl) (by kernel_rfl) (by kernel_rfl) (fun _ _ _ h => h) (Or.inl ⟨by rfl, ?_⟩) (by assumption) ?_
                rotate_left
                · intro w hSw
                  try dsimp only at hSw
                  go_simp
                  try with_reducible rfl
                try simp only [List.getElem_toArray, List.getElem_cons_zero, List.getElem_cons_succ, Act.put, List.setIfInBounds_toArray, List.set_cons_zero, List.set_cons_succ]
                refine wpAnyH_take (i := 22) (v := ?_) rfl (by kernel_rfl) (by kernel_rfl) (by kernel_rfl) (fun _ _ _ h => h) (Or.inl ⟨by rfl, ?_⟩) (by assumption) ?_
                rotate_left
                · intro w hSw
                  try dsimp only at hSw
                  go_simp
                  try with_reducible rfl
                try simp only [List.getElem_toArray, List.getElem_cons_zero, List.getElem_cons_succ, Act.put, List.setIfInBounds_toArray, List.set_cons_zero, List.set_cons_succ]
                refine wpAnyH_take (i := 23) (v := ?_) rfl (by kernel_rfl) (by kernel_rfl) (by kernel_rfl) (fun _ _ _ h => h) (Or.inl ⟨by rfl, ?_⟩) (by assumption) ?_
                rotate_left
                · intro w hSw
                  try dsimp only at hSw
                  go_simp
                  try with_reducible rfl
                try simp only [List.getElem_toArray, List.getElem_cons_zero, List.getElem_cons_succ, Act.put, List.setIfInBounds_toArray, List.set_cons_zero, List.set_cons_succ]
                refine wpAnyH_done (by kernel_rfl) ?_ _
                obtain ⟨ia, ic, ib, rfl, _, _, hia, _⟩ := slAt_own lenI HOW.out
                obtain ⟨ja, jc, jb, rfl, _, _, hja, _⟩ := slAt_own lenI HOX.out
                have HIA := Lib.hid hia; have HJA := Lib.hid hja
                clear hia hja
                go_wp2_with fail
                go_meet
                exact ⟨ia, ja, qa, ra, ib, ic, jb, jc, qb, qo, qc, rb, ro, rc, rfl, rfl, by rw [HQL.out], by rw [HRL.out], HIA.out, HJA.out, HQS.out.below HBb.out (Nat.le_refl _), HRS.out.below HBb.out (Nat.le_refl _), HB.out.trans (HBb.out.mono HB.out.size)⟩
              | false =>
                have hout : state < 0 ∨ (n : Int) ≤ state := by
                  have h := of_decide_eq_false HBV.out.symm
                  omega
                have ho : s.norm.outs state = [] := outs_out HR.out.norm (by show state < 0 ∨ s.st ≤ state; rw [HN.out]; exact hout)
                have hi : s.norm.ins state = [] := ins_out HR.out.norm (by show state < 0 ∨ s.st ≤ state; rw [HN.out]; exact hout)
                have HO := Lib.hid ho; have HI := Lib.hid hi
                clear ho hi hout
                go_wp2_with fail
                go_meet
                rw [HO.out, HI.out]
                exact ⟨none, none, none, none, 0, 0, 0, 0, 0, 0, 0, 0, 0, 0, rfl, rfl, rfl, rfl, slAt_nil _ _ _ _, slAt_nil _ _ _ _, slAt_nil _ _ _ _, slAt_nil _ _ _ _, HB.out⟩
            case rest =>
              obtain ⟨ia, ja, pa, ra, ib, ic, jb, jc, pb, po, pc, rb, ro, rc, rfl, rfl, rfl, rfl, h1, h2, h3, h4, hB⟩ := hcut
              obtain ⟨wB, hwB⟩ : ∃ wB, wB = wc := ⟨_, rfl⟩
              subst hwB
              have HI1 := Lib.hid h1; have HI2 := Lib.hid h2; have HI3 := Lib.hid h3; have HI4 := Lib.hid h4; have HBB := Lib.hid hB
              obtain ⟨⟨⟨x0, x1, x2, x3⟩, xl, _, _⟩, _, _, _, _, hs9, hb9⟩ := H9.out _ hB
              have hRC := refReach_any HR.out hs9 HC.out HCM.out
              rw [HN.out, ← HLBE.out, ← HEL.out] at hRC
              have HRC := Lib.hid hRC
              clear h1 h2 h3 h4 hB hs9 hb9 hRC HBV HSO HSO2 HB
              go_wp2_with fail
              refine HRC.out.mono ?_
              rintro e wC ⟨vb, n', hn', rfl, hrow, hvb, hBC⟩
              obtain rfl : n = n' := by have := HN.out; omega
              have HROW := Lib.hid hrow
              have HBC := Lib.hid (HBB.out.trans (hBC.mono HBB.out.size))
              have HJ1 := Lib.hid (HI1.out.below hBC (Nat.le_refl _)); have HJ2 := Lib.hid (HI2.out.below hBC (Nat.le_refl _)); have HJ3 := Lib.hid (HI3.out.below hBC (Nat.le_refl _)); have HJ4 := Lib.hid (HI4.out.below hBC (Nat.le_refl _))
              clear hrow hBC hvb HRC HI1 HI2 HI3 HI4 HBB x0 x1 x2 x3 xl
              go_wp2_with fail
              go_loopw [21, 23] (fun v21 v23 wr => ∃ (k m : Nat) (la : Option Addr) (lc : Nat), v21 = .slice la m lc ∧ m = (rK s.norm k).length ∧ v23 = .int .i64 k ∧ k ≤ n ∧ wr.ownsRow wC.heap.size 3 1 (.slice la m lc) m ((rK s.norm k).flatMap encI) ∧ Below wC.heap.size wC wr) (fun _ v23 _ => n - (intOf v23).toNat)
              case atStart => exact ⟨0, 0, none, 0, rfl, by simp [rK], rfl, Nat.zero_le _, by simpa [rK] using World.ownsRow_nil _ _ _ _, Below.refl _ _⟩
              case round =>
                obtain ⟨k, m, la, lc, rfl, hm, rfl, hk, hown, hB⟩ := hrel
                have HB := Lib.hid hB; have HO := Lib.hid hown; have HM := Lib.hid hm
                have hmk : m ≤ k := by rw [hm]; exact rK_len _ _
                obtain ⟨⟨⟨x0, _, _, _⟩, xl, _, _⟩, _⟩ := H9.out _ (HBC.out.trans (hB.mono HBC.out.size))
                have hrow := HROW.out.of_block (hB.block _ HROW.out.lt)
                have hws := hB.size
                clear hB hown hm
                by_cases hkn : k < n
                · have hkI : (k : Int) < (n : Int) := by omega
                  have c0 := hrow.cell hkn
                  have cl := hrow.lt
                  by_cases hin : (k : Int) ∈ reachL s.norm
                  · have hd : decide ((k : Int) ∈ reachL s.norm) = true := by simp [hin]
                    rw [hd] at c0
                    have HKS : RowKit.Hid (rK s.norm (k + 1) = rK s.norm k ++ [(k : Int)]) := Lib.hid (by rw [rK_succ, if_pos hin])
                    clear hrow hd hin
                    go_wp2_with (at_builtin; refine wpList_lie rfl _ _ _ rfl rowI (base := wC.heap.size) (by simp; omega) rfl (HO.out.alloc _) ⟨wr.heap.size, 0, none⟩ 1 1 [.int .i64 (k : Int)] rfl rfl (cells1 (by simp [go_sem])) (by simp [Value.oneCell']) (by decide) (by omega) (by unfold maxLen; omega) wr.heap.size (by simp) ?_; intro g2 cap2 w7 hown7 hg7 hl7 hlt7; have HO7 := Lib.hid hown7; have HB7 := Lib.hid ((HB.out.alloc HB.out.size (.cells #[.int .i64 (k : Int)] 3)).grown hg7 (by simp; omega) (fun q hq => (HO.out.lt q hq).1)); clear hown7 hg7 hl7)
                    go_roundw
                    case rel => exact ⟨k + 1, m + 1, _, _, rfl, by rw [HKS.out, List.length_append, HM.out]; rfl, by go_num, by omega, by rw [HKS.out, List.flatMap_append]; exact HO7.out, HB7.out⟩
                    case measure => simp [intOf]; omega
                  · have hd : decide ((k : Int) ∈ reachL s.norm) = false := by simp [hin]
                    rw [hd] at c0
                    have HKS : RowKit.Hid (rK s.norm (k + 1) = rK s.norm k) := Lib.hid (by rw [rK_succ, if_neg hin])
                    clear hrow hd hin
                    go_wp2_with fail
                    go_roundw
                    case rel => exact ⟨k + 1, m, _, _, rfl, by rw [HKS.out, HM.out], by go_num, by omega, by rw [HKS.out]; exact HO.out, HB.out⟩
                    case measure => simp [intOf]; omega
                · obtain rfl : n = k := by omega
                  have hra : rK s.norm n = reachL s.norm := rK_all s.norm HN.out
                  have ho := HO.out; have hm := HM.out
                  rw [hra] at ho hm
                  have hml : m ≤ 1000 := by omega
                  obtain ⟨la', lc', lbk, hle, _, _, hls, _⟩ := slAt_own (xs := reachL s.norm) lenI (by rw [← hm]; exact ho)
                  rw [← hm] at hle
                  cases hle
                  obtain ⟨wD, hwD⟩ : ∃ wD, wD = wr := ⟨_, rfl⟩
                  subst hwD
                  have HLS := Lib.hid hls
                  have HBD0 := Lib.hid (HBC.out.trans (HB.out.mono HBC.out.size))
                  have HM2 := Lib.hid hm
                  have HK1 := Lib.hid (HJ1.out.below HB.out (Nat.le_refl _)); have HK2' := Lib.hid (HJ2.out.below HB.out (Nat.le_refl _)); have HK3 := Lib.hid (HJ3.out.below HB.out (Nat.le_refl _)); have HK4 := Lib.hid (HJ4.out.below HB.out (Nat.le_refl _))
                  have hwl : ∀ (l : Int) (L : List S), (withL l L).length ≤ L.length := fun l L => by unfold withL; rw [List.length_map]; exact List.length_filter_le _ _
                  have hl3 := HOL.out state
                  have hl1 := hwl label (s.norm.outs state); have hl2 := hwl label (s.norm.ins state)
                  have HBY : RowKit.Hid (∀ V, Below wD.heap.size wD V → Calls Tryz.prog 12 #[.pointer (some ⟨gb, 0, none⟩), .int .i64 state, .int .i64 label] V fun e w' => ∃ v, e = .returned v ∧ w'.ownsRow V.heap.size 3 1 v (withL label (s.norm.outs state)).length ((withL label (s.norm.outs state)).flatMap encI) ∧ Below V.heap.size V w') := Lib.hid (fun V hV => getBy_any (H9.out V (HBD0.out.trans (hV.mono HBD0.out.size))).2.2.1 state label)
                  have HFR : RowKit.Hid (∀ V, Below wD.heap.size wD V → Calls Tryz.prog 13 #[.pointer (some ⟨gb, 0, none⟩), .int .i64 state, .int .i64 label] V fun e w' => ∃ v, e = .returned v ∧ w'.ownsRow V.heap.size 3 1 v (withL label (s.norm.ins state)).length ((withL label (s.norm.ins state)).flatMap encI) ∧ Below V.heap.size V w') := Lib.hid (fun V hV => getFrom_any (H9.out V (HBD0.out.trans (hV.mono HBD0.out.size))).2.2.1 state label)
                  have HGO : RowKit.Hid (∀ V, Below wD.heap.size wD V → Calls Tryz.prog 9 #[.pointer (some ⟨gb, 0, none⟩), .int .i64 state] V fun e w' => ∃ v, e = .returned v ∧ w'.ownsRow V.heap.size 92 2 v (s.norm.outs state).length ((s.norm.outs state).flatMap encS) ∧ Below V.heap.size V w') := Lib.hid (fun V hV => getOut_any (H9.out V (HBD0.out.trans (hV.mono HBD0.out.size))).2.2.1 state)
                  have HGI : RowKit.Hid (∀ V, Below wD.heap.size wD V → Calls Tryz.prog 10 #[.pointer (some ⟨gb, 0, none⟩), .int .i64 state] V fun e w' => ∃ v, e = .returned v ∧ w'.ownsRow V.heap.size 92 2 v (s.norm.ins state).length ((s.norm.ins state).flatMap encS) ∧ Below V.heap.size V w') := Lib.hid (fun V hV => getIn_any (H9.out V (HBD0.out.trans (hV.mono HBD0.out.size))).2.2.1 state)
                  have hSI : ∀ (L : List Int) (a1 : Option Addr) (b1 c1 : Nat) (_ : SlAt encI 1 wD a1 b1 0 L) (_ : L.length ≤ 10000) (V : World) (v : Value) (base : Nat), Below wD.heap.size wD V → V.ownsRow base 3 1 v L.length (L.flatMap encI) → Calls Tryz.prog 36 #[v, .slice a1 L.length c1] V fun e w' => e = .returned (.bool true) ∧ ∃ m, w' = V.drewN m := fun L a1 b1 c1 hs hl V v base hV hv => by
                    obtain ⟨a2, c2, b2, rfl, _, _, hs2, _⟩ := slAt_own lenI hv
                    have := sameInts_any (c1 := c2) (c2 := c1) hs2 (hs.below hV (Nat.le_refl _)) (by omega) (by omega)
                    exact this.mono (by rintro e w7 ⟨rfl, mm, rfl⟩; exact ⟨by simp, mm, rfl⟩)
                  have hSS : ∀ (L : List S) (a1 : Option Addr) (b1 o1 c1 : Nat) (_ : SlAt encS 2 wD a1 b1 o1 L) (_ : L.length ≤ 10000) (V : World) (v : Value) (base : Nat), Below wD.heap.size wD V → V.ownsRow base 92 2 v L.length (L.flatMap encS) → Calls Tryz.prog 22 #[v, .slice a1 L.length c1] V fun e w' => e = .returned (.bool true) ∧ ∃ m, w' = V.drewN m := fun L a1 b1 o1 c1 hs hl V v base hV hv => by
                    obtain ⟨a2, c2, b2, rfl, _, _, hs2, _⟩ := slAt_own lenS hv
                    have := sameSteps_any (c1 := c2) (c2 := c1) hs2 (hs.below hV (Nat.le_refl _)) (by omega) (by omega)
                    exact this.mono (by rintro e w7 ⟨rfl, mm, rfl⟩; exact ⟨by simp, mm, rfl⟩)
                  have HS1 := Lib.hid (hSI _ ia ib ic HK1.out (by omega)); have HS2 := Lib.hid (hSI _ ja jb jc HK2'.out (by omega)); have HS3 := Lib.hid (hSS _ pa pb po pc HK3.out hl3.1); have HS4 := Lib.hid (hSS _ ra rb ro rc HK4.out hl3.2)
                  have hs5 := hSI _ la lbk lc HLS.out (by omega)
                  rw [← hm] at hs5
                  have HS5 := Lib.hid hs5
                  have HALV : RowKit.Hid (∀ V, Below wD.heap.size wD V → Calls Tryz.prog 6 #[] V fun e w' => e = .returned (.bool true) ∧ Below V.heap.size V w') := Lib.hid (fun V hV => ALV.out V (H9.out V (HBD0.out.trans (hV.mono HBD0.out.size))).2.2.2.2.2.2)
                  have HST1 : RowKit.Hid (∀ V, Below wD.heap.size wD V → Calls Tryz.prog 43 #[.pointer (some ⟨gb, 0, none⟩)] V fun e w' => e = .returned (.int .i64 (n : Int)) ∧ Below V.heap.size V w') := Lib.hid (fun V hV => by
                    have h := getStates_any (H9.out V (HBD0.out.trans (hV.mono HBD0.out.size))).2.2.1
                    rw [show s.norm.st = (n : Int) from HN.out] at h; exact h)
                  have HLB1 : RowKit.Hid (∀ V, Below wD.heap.size wD V → Calls Tryz.prog 44 #[.pointer (some ⟨gb, 0, none⟩)] V fun e w' => e = .returned (.int .i64 lb) ∧ Below V.heap.size V w') := Lib.hid (fun V hV => by
                    have h := getLabels_any (H9.out V (HBD0.out.trans (hV.mono HBD0.out.size))).2.2.1
                    rw [show s.norm.lb = lb from HLBE.out.symm] at h; exact h)
                  have HS01 : RowKit.Hid (∀ V, Below wD.heap.size wD V → Calls Tryz.prog 45 #[.pointer (some ⟨gb, 0, none⟩)] V fun e w' => e = .returned (.int .i64 s.s0) ∧ Below V.heap.size V w') := Lib.hid (fun V hV => by
                    have h := getStart_any (H9.out V (HBD0.out.trans (hV.mono HBD0.out.size))).2.2.1
                    exact h)
                  have hED : ∀ V, Below wD.heap.size wD V → Calls Tryz.prog 15 #[.pointer (some ⟨gb, 0, none⟩)] V fun e w' => ∃ v, e = .returned v ∧ w'.ownsRow V.heap.size 79 3 v s.norm.es.length (s.norm.es.flatMap encE) ∧ Below V.heap.size V w' := fun V hV => getEdges_any (H9.out V (HBD0.out.trans (hV.mono HBD0.out.size))).2.2.1
                  have hSE : ∀ (V : World) (v : Value) (base : Nat), Below wD.heap.size wD V → V.ownsRow base 79 3 v s.norm.es.length (s.norm.es.flatMap encE) → Calls Tryz.prog 23 #[v, .slice ta tl tc] V fun e w' => e = .returned (.bool true) ∧ ∃ m, w' = V.drewN m := fun V v base hV hv => by
                    have ht := (H9.out V (HBD0.out.trans (hV.mono HBD0.out.size))).2.1
                    rw [HTL.out] at ht ⊢
                    obtain ⟨a2, c2, b2, rfl, _, _, hs2, _⟩ := slAt_own lenE hv
                    obtain ⟨a3, c3, b3, h3, _, _, hs3, _⟩ := slAt_own lenE ht
                    cases h3
                    have hnl := HR.out.norm.st0
                    have := sameEdges_any (c1 := c2) (c2 := tc) hs2 hs3 (by omega) (by omega)
                    exact this.mono (by rintro e w7 ⟨rfl, mm, rfl⟩; exact ⟨by simp, mm, rfl⟩)
                  rw [← HTL.out] at hED hSE
                  have HRE : RowKit.Hid (∀ V, Below wD.heap.size wD V → Calls Tryz.prog 16 #[.pointer (some ⟨gb, 0, none⟩)] V fun e w' => ∃ v, e = .returned v ∧ w'.ownsRow V.heap.size 3 1 v m ((reachL s.norm).flatMap encI) ∧ Below V.heap.size V w') := Lib.hid (fun V hV => by
                    have h := reach_any (H9.out V (HBD0.out.trans (hV.mono HBD0.out.size))).2.2.1
                    rw [← HM2.out] at h; exact h)
                  have HDG1 : RowKit.Hid (∀ V, Below wD.heap.size wD V → Calls Tryz.prog 46 #[.pointer (some ⟨gb, 0, none⟩)] V fun e w' => e = .returned (.int .i64 dg) ∧ Below V.heap.size V w') := Lib.hid (fun V hV => HDG.out V (HBD0.out.trans (hV.mono HBD0.out.size)))
                  have HK2 : RowKit.Hid (∀ V, Below wD.heap.size wD V → (V.cell? ⟨w.heap.size, 0, none⟩ = some (.int .i64 (n : Int)) ∧ V.cell? ⟨w.heap.size, 1, none⟩ = some (.int .i64 lb) ∧ V.cell? ⟨w.heap.size, 2, none⟩ = some (.int .i64 s.s0) ∧ V.cell? ⟨tb, 3, none⟩ = some (.slice ta tl tc) ∧ w.heap.size < V.heap.size ∧ tb < V.heap.size) ∧ Below wD.heap.size wD V) := Lib.hid (fun V hV => by
                    obtain ⟨⟨⟨x0, x1, x2, _⟩, xl, x3, x4⟩, _⟩ := H9.out V (HBD0.out.trans (hV.mono HBD0.out.size))
                    exact ⟨⟨x0, x1, x2, x3, xl, x4⟩, hV⟩)
                  have HFIN : RowKit.Hid (∀ V, Below wD.heap.size wD V → Below w.heap.size w V) := Lib.hid (fun V hV => (H9.out V (HBD0.out.trans (hV.mono HBD0.out.size))).2.2.2.2.2.2)
                  obtain ⟨l1, hl1e⟩ : ∃ l1, l1 = (withL label (s.norm.outs state)).length := ⟨_, rfl⟩
                  obtain ⟨l2, hl2e⟩ : ∃ l2, l2 = (withL label (s.norm.ins state)).length := ⟨_, rfl⟩
                  obtain ⟨l3, hl3e⟩ : ∃ l3, l3 = (s.norm.outs state).length := ⟨_, rfl⟩
                  obtain ⟨l4, hl4e⟩ : ∃ l4, l4 = (s.norm.ins state).length := ⟨_, rfl⟩
                  rw [← hl1e] at HBY HS1 ⊢
                  rw [← hl2e] at HFR HS2 ⊢
                  rw [← hl3e] at HGO HS3 ⊢
                  rw [← hl4e] at HGI HS4 ⊢
                  have HED := Lib.hid hED; have HSE := Lib.hid hSE
                  have HB0D := Lib.hid (Below.refl wD.heap.size wD)
                  clear hra ho hm hls hwl hl3 hl1 hl2 hSI hSS hs5 hED hSE hl1e hl2e hl3e hl4e HJ1 HJ2 HJ3 HJ4 HK1 HK2' HK3 HK4 H9 HDG HROW HO HM HB hrow hws
                  go_wp2_with fail
                  clear x0 xl
                  refine (HBY.out _ HB0D.out).mono ?_
                  rintro e wa ⟨v7, rfl, hown7, hBa⟩
                  have HBa := Lib.hid hBa
                  have HW7 := Lib.hid hown7
                  clear hown7 hBa
                  go_wp2_with fail
                  refine (HS1.out _ _ _ HBa.out HW7.out).mono ?_
                  rintro e wb ⟨rfl, m1, rfl⟩
                  have HBb := Lib.hid (bdrew (n := m1) HBa.out)
                  go_wp2_with fail
                  refine (HFR.out _ HBb.out).mono ?_
                  rintro e wc2 ⟨v8, rfl, hown8, hBc⟩
                  have HBc := Lib.hid (HBb.out.trans (hBc.mono HBb.out.size))
                  have HW8 := Lib.hid hown8
                  clear hown8 hBc
                  go_wp2_with fail
                  refine (HS2.out _ _ _ HBc.out HW8.out).mono ?_
                  rintro e wd2 ⟨rfl, m2, rfl⟩
                  have HBd := Lib.hid (bdrew (n := m2) HBc.out)
                  go_wp2_with fail
                  refine (HGO.out _ HBd.out).mono ?_
                  rintro e we ⟨v9, rfl, hown9, hBe⟩
                  have HBe := Lib.hid (HBd.out.trans (hBe.mono HBd.out.size))
                  have HW9 := Lib.hid hown9
                  clear hown9 hBe
                  go_wp2_with fail
                  refine (HS3.out _ _ _ HBe.out HW9.out).mono ?_
                  rintro e wf ⟨rfl, m3, rfl⟩
                  have HBf := Lib.hid (bdrew (n := m3) HBe.out)
                  go_wp2_with fail
                  refine (HGI.out _ HBf.out).mono ?_
                  rintro e wg ⟨vA, rfl, hownA, hBg⟩
                  have HBg := Lib.hid (HBf.out.trans (hBg.mono HBf.out.size))
                  have HWA := Lib.hid hownA
                  clear hownA hBg
                  go_wp2_with fail
                  refine (HS4.out _ _ _ HBg.out HWA.out).mono ?_
                  rintro e wh ⟨rfl, m4, rfl⟩
                  have HBh := Lib.hid (bdrew (n := m4) HBg.out)
                  have HBD := Lib.hid HBh.out.drew
                  clear HBY HFR HGO HGI HS1 HS2 HS3 HS4 HBa HBb HBc HBd HBe HBf HBg HW7 HW8 HW9 HWA HB0D
                  go_upto_region 37 with fail
                  refine wp_region_held_drew (S := (fun V => (V.cell? ⟨w.heap.size, 0, none⟩ = some (.int .i64 (n : Int)) ∧ V.cell? ⟨w.heap.size, 1, none⟩ = some (.int .i64 lb) ∧ V.cell? ⟨w.heap.size, 2, none⟩ = some (.int .i64 s.s0) ∧ V.cell? ⟨tb, 3, none⟩ = some (.slice ta tl tc) ∧ w.heap.size < V.heap.size ∧ tb < V.heap.size) ∧ Below wD.heap.size wD V)) (by kernel_rfl) (by (try dsimp only); exact HK2.out _ HBD.out) (fun hHeld => ?_)
                  refine wpAnyH_ready (rs := [0]) (by kernel_rfl) (by simp) ?_
                  refine AllReadyH.cons rfl (fun K hK => ?_) AllReadyH.nil
                  go_simp
                  refine (HALV.out _ HBD.out).mono ?_
                  rintro e wa ⟨rfl, hBa⟩
                  have HBa := Lib.hid (Below.trans HBD.out (hBa.mono HBD.out.size))
                  refine hK.out _ _ (by (try dsimp only); exact HK2.out _ HBa.out) (fun hHeld => ?_)
                  clear hK K
                  try simp only [List.getElem_toArray, List.getElem_cons_zero, List.getElem_cons_succ, Act.put, List.setIfInBounds_toArray, List.set_cons_zero, List.set_cons_succ]
                  refine wpAnyH_take (i := 1) (v := ?_) rfl (by kernel_rfl) (by kernel_rfl) (by kernel_rfl) (fun _ _ _ h => h) (Or.inl ⟨by rfl, ?_⟩) (by assumption) ?_
                  rotate_left
                  · intro w hSw
                    try dsimp only at hSw
                    go_simp
                    try with_reducible rfl
                  try simp only [List.getElem_toArray, List.getElem_cons_zero, List.getElem_cons_succ, Act.put, List.setIfInBounds_toArray, List.set_cons_zero, List.set_cons_succ]
                  refine wpAnyH_take (i := 2) (v := ?_) rfl (by kernel_rfl) (by kernel_rfl) (by kernel_rfl) (fun _ _ _ h => h) (Or.inl ⟨by rfl, ?_⟩) (by assumption) ?_
                  rotate_left
                  · intro w hSw
                    try dsimp only at hSw
                    go_simp
                    try with_reducible rfl
                  try simp only [List.getElem_toArray, List.getElem_cons_zero, List.getElem_cons_succ, Act.put, List.setIfInBounds_toArray, List.set_cons_zero, List.set_cons_succ]
                  refine wpAnyH_take (i := 4) (v := ?_) rfl (by kernel_rfl) (by kernel_rfl) (by kernel_rfl) (fun _ _ _ h => h) (Or.inl ⟨by rfl, ?_⟩) (by assumption) ?_
                  rotate_left
                  · intro w hSw
                    try dsimp only at hSw
                    go_simp
                    try with_reducible rfl
                  try simp only [List.getElem_toArray, List.getElem_cons_zero, List.getElem_cons_succ, Act.put, List.setIfInBounds_toArray, List.set_cons_zero, List.set_cons_succ]
                  refine wpAnyH_take (i := 5) (v := ?_) rfl (by kernel_rfl) (by kernel_rfl) (by kernel_rfl) (fun _ _ _ h => h) (Or.inl ⟨by rfl, ?_⟩) (by assumption) ?_
                  rotate_left
                  · intro w hSw
                    try dsimp only at hSw
                    go_simp
                    try with_reducible rfl
                  try simp only [List.getElem_toArray, List.getElem_cons_zero, List.getElem_cons_succ, Act.put, List.setIfInBounds_toArray, List.set_cons_zero, List.set_cons_succ]
                  refine wpAnyH_ready (rs := [3]) (by kernel_rfl) (by simp) ?_
                  refine AllReadyH.cons rfl (fun K hK => ?_) AllReadyH.nil
                  go_simp
                  refine (HST1.out _ HBa.out).mono ?_
                  rintro e wb ⟨rfl, hBb⟩
                  have HBb := Lib.hid (Below.trans HBa.out (hBb.mono HBa.out.size))
                  refine hK.out _ _ (by (try dsimp only); exact HK2.out _ HBb.out) (fun hHeld => ?_)
                  clear hK K
                  try simp only [List.getElem_toArray, List.getElem_cons_zero, List.getElem_cons_succ, Act.put, List.setIfInBounds_toArray, List.set_cons_zero, List.set_cons_succ]
                  refine wpAnyH_take (i := 6) (v := ?_) rfl (by kernel_rfl) (by kernel_rfl) (by kernel_rfl) (fun _ _ _ h => h) (Or.inl ⟨by rfl, ?_⟩) (by assumption) ?_
                  rotate_left
                  · intro w hSw
                    try dsimp only at hSw
                    go_simp
                    try with_reducible rfl
                  try simp only [List.getElem_toArray, List.getElem_cons_zero, List.getElem_cons_succ, Act.put, List.setIfInBounds_toArray, List.set_cons_zero, List.set_cons_succ]
                  refine wpAnyH_take (i := 7) (v := ?_) rfl (by kernel_rfl) (by kernel_rfl) (by kernel_rfl) (fun _ _ _ h => h) (Or.inl ⟨by rfl, ?_⟩) (by assumption) ?_
                  rotate_left
                  · intro w hSw
                    try dsimp only at hSw
                    go_simp
                    try with_reducible rfl
                  try simp only [List.getElem_toArray, List.getElem_cons_zero, List.getElem_cons_succ, Act.put, List.setIfInBounds_toArray, List.set_cons_zero, List.set_cons_succ]
                  refine wpAnyH_take (i := 8) (v := ?_) rfl (by kernel_rfl) (by kernel_rfl) (by kernel_rfl) (fun _ _ _ h => h) (Or.inl ⟨by rfl, ?_⟩) (by assumption) ?_
                  rotate_left
                  · intro w hSw
                    try dsimp only at hSw
                    go_simp
                    try with_reducible rfl
                  try simp only [List.getElem_toArray, List.getElem_cons_zero, List.getElem_cons_succ, Act.put, List.setIfInBounds_toArray, List.set_cons_zero, List.set_cons_succ]
                  refine wpAnyH_take (i := 9) (v := ?_) rfl (by kernel_rfl) (by kernel_rfl) (by kernel_rfl) (fun _ _ _ h => h) (Or.inl ⟨by rfl, ?_⟩) (by assumption) ?_
                  rotate_left
                  · intro w hSw
                    try dsimp only at hSw
                    go_simp
                    try with_reducible rfl
                  try simp only [List.getElem_toArray, List.getElem_cons_zero, List.getElem_cons_succ, Act.put, List.setIfInBounds_toArray, List.set_cons_zero, List.set_cons_succ]
                  refine wpAnyH_take (i := 11) (v := ?_) rfl (by kernel_rfl) (by kernel_rfl) (by kernel_rfl) (fun _ _ _ h => h) (Or.inl ⟨by rfl, ?_⟩) (by assumption) ?_
                  rotate_left
                  · intro w hSw
                    try dsimp only at hSw
                    go_simp
                    try with_reducible rfl
                  try simp only [List.getElem_toArray, List.getElem_cons_zero, List.getElem_cons_succ, Act.put, List.setIfInBounds_toArray, List.set_cons_zero, List.set_cons_succ]
                  refine wpAnyH_take (i := 12) (v := ?_) rfl (by kernel_rfl) (by kernel_rfl) (by kernel_rfl) (fun _ _ _ h => h) (Or.inl ⟨by rfl, ?_⟩) (by assumption) ?_
                  rotate_left
                  · intro w hSw
                    try dsimp only at hSw
                    go_simp
                    try with_reducible rfl
                  try simp only [List.getElem_toArray, List.getElem_cons_zero, List.getElem_cons_succ, Act.put, List.setIfInBounds_toArray, List.set_cons_zero, List.set_cons_succ]
                  refine wpAnyH_ready (rs := [10]) (by kernel_rfl) (by simp) ?_
                  refine AllReadyH.cons rfl (fun K hK => ?_) AllReadyH.nil
                  go_simp
                  refine (HLB1.out _ HBb.out).mono ?_
                  rintro e wc ⟨rfl, hBc⟩
                  have HBc := Lib.hid (Below.trans HBb.out (hBc.mono HBb.out.size))
                  refine hK.out _ _ (by (try dsimp only); exact HK2.out _ HBc.out) (fun hHeld => ?_)
                  clear hK K
                  try simp only [List.getElem_toArray, List.getElem_cons_zero, List.getElem_cons_succ, Act.put, List.setIfInBounds_toArray, List.set_cons_zero, List.set_cons_succ]
                  refine wpAnyH_take (i := 13) (v := ?_) rfl (by kernel_rfl) (by kernel_rfl) (by kernel_rfl) (fun _ _ _ h => h) (Or.inl ⟨by rfl, ?_⟩) (by assumption) ?_
                  rotate_left
                  · intro w hSw
                    try dsimp only at hSw
                    go_simp
                    try with_reducible rfl
                  try simp only [List.getElem_toArray, List.getElem_cons_zero, List.getElem_cons_succ, Act.put, List.setIfInBounds_toArray, List.set_cons_zero, List.set_cons_succ]
                  refine wpAnyH_take (i := 14) (v := ?_) rfl (by kernel_rfl) (by kernel_rfl) (by kernel_rfl) (fun _ _ _ h => h) (Or.inl ⟨by rfl, ?_⟩) (by assumption) ?_
                  rotate_left
                  · intro w hSw
                    try dsimp only at hSw
                    go_simp
                    try with_reducible rfl
                  try simp only [List.getElem_toArray, List.getElem_cons_zero, List.getElem_cons_succ, Act.put, List.setIfInBounds_toArray, List.set_cons_zero, List.set_cons_succ]
                  refine wpAnyH_take (i := 15) (v := ?_) rfl (by kernel_rfl) (by kernel_rfl) (by kernel_rfl) (fun _ _ _ h => h) (Or.inl ⟨by rfl, ?_⟩) (by assumption) ?_
                  rotate_left
                  · intro w hSw
                    try dsimp only at hSw
                    go_simp
                    try with_reducible rfl
                  try simp only [List.getElem_toArray, List.getElem_cons_zero, List.getElem_cons_succ, Act.put, List.setIfInBounds_toArray, List.set_cons_zero, List.set_cons_succ]
                  refine wpAnyH_take (i := 16) (v := ?_) rfl (by kernel_rfl) (by kernel_rfl) (by kernel_rfl) (fun _ _ _ h => h) (Or.inl ⟨by rfl, ?_⟩) (by assumption) ?_
                  rotate_left
                  · intro w hSw
                    try dsimp only at hSw
                    go_simp
                    try with_reducible rfl
                  try simp only [List.getElem_toArray, List.getElem_cons_zero, List.getElem_cons_succ, Act.put, List.setIfInBounds_toArray, List.set_cons_zero, List.set_cons_succ]
                  refine wpAnyH_take (i := 18) (v := ?_) rfl (by kernel_rfl) (by kernel_rfl) (by kernel_rfl) (fun _ _ _ h => h) (Or.inl ⟨by rfl, ?_⟩) (by assumption) ?_
                  rotate_left
                  · intro w hSw
                    try dsimp only at hSw
                    go_simp
                    try with_reducible rfl
                  try simp only [List.getElem_toArray, List.getElem_cons_zero, List.getElem_cons_succ, Act.put, List.setIfInBounds_toArray, List.set_cons_zero, List.set_cons_succ]
                  refine wpAnyH_take (i := 19) (v := ?_) rfl (by kernel_rfl) (by kernel_rfl) (by kernel_rfl) (fun _ _ _ h => h) (Or.inl ⟨by rfl, ?_⟩) (by assumption) ?_
                  rotate_left
                  · intro w hSw
                    try dsimp only at hSw
                    go_simp
                    try with_reducible rfl
                  try simp only [List.getElem_toArray, List.getElem_cons_zero, List.getElem_cons_succ, Act.put, List.setIfInBounds_toArray, List.set_cons_zero, List.set_cons_succ]
                  refine wpAnyH_ready (rs := [17]) (by kernel_rfl) (by simp) ?_
                  refine AllReadyH.cons rfl (fun K hK => ?_) AllReadyH.nil
                  go_simp
                  refine (HS01.out _ HBc.out).mono ?_
                  rintro e wd ⟨rfl, hBd⟩
                  have HBd := Lib.hid (Below.trans HBc.out (hBd.mono HBc.out.size))
                  refine hK.out _ _ (by (try dsimp only); exact HK2.out _ HBd.out) (fun hHeld => ?_)
                  clear hK K
                  try simp only [List.getElem_toArray, List.getElem_cons_zero, List.getElem_cons_succ, Act.put, List.setIfInBounds_toArray, List.set_cons_zero, List.set_cons_succ]
                  refine wpAnyH_take (i := 20) (v := ?_) rfl (by kernel_rfl) (by kernel_rfl) (by kernel_rfl) (fun _ _ _ h => h) (Or.inl ⟨by rfl, ?_⟩) (by assumption) ?_
                  rotate_left
                  · intro w hSw
                    try dsimp only at hSw
                    go_simp
                    try with_reducible rfl
                  try simp only [List.getElem_toArray, List.getElem_cons_zero, List.getElem_cons_succ, Act.put, List.setIfInBounds_toArray, List.set_cons_zero, List.set_cons_succ]
                  refine wpAnyH_take (i := 21) (v := ?_) rfl (by kernel_rfl) (by kernel_rfl) (by kernel_rfl) (fun _ _ _ h => h) (Or.inl ⟨by rfl, ?_⟩) (by assumption) ?_
                  rotate_left
                  · intro w hSw
                    try dsimp only at hSw
                    go_simp
                    try with_reducible rfl
                  try simp only [List.getElem_toArray, List.getElem_cons_zero, List.getElem_cons_succ, Act.put, List.setIfInBounds_toArray, List.set_cons_zero, List.set_cons_succ]
                  refine wpAnyH_take (i := 22) (v := ?_) rfl (by kernel_rfl) (by kernel_rfl) (by kernel_rfl) (fun _ _ _ h => h) (Or.inl ⟨by rfl, ?_⟩) (by assumption) ?_
                  rotate_left
                  · intro w hSw
                    try dsimp only at hSw
                    go_simp
                    try with_reducible rfl
                  try simp only [List.getElem_toArray, List.getElem_cons_zero, List.getElem_cons_succ, Act.put, List.setIfInBounds_toArray, List.set_cons_zero, List.set_cons_succ]
                  refine wpAnyH_take (i := 23) (v := ?_) rfl (by kernel_rfl) (by kernel_rfl) (by kernel_rfl) (fun _ _ _ h => h) (Or.inl ⟨by rfl, ?_⟩) (by assumption) ?_
                  rotate_left
                  · intro w hSw
                    try dsimp only at hSw
                    go_simp
                    try with_reducible rfl
                  try simp only [List.getElem_toArray, List.getElem_cons_zero, List.getElem_cons_succ, Act.put, List.setIfInBounds_toArray, List.set_cons_zero, List.set_cons_succ]
                  refine wpAnyH_take (i := 25) (v := ?_) rfl (by kernel_rfl) (by kernel_rfl) (by kernel_rfl) (fun _ _ _ h => h) (Or.inl ⟨by rfl, ?_⟩) (by assumption) ?_
                  rotate_left
                  · intro w hSw
                    try dsimp only at hSw
                    go_simp
                    try with_reducible rfl
                  try simp only [List.getElem_toArray, List.getElem_cons_zero, List.getElem_cons_succ, Act.put, List.setIfInBounds_toArray, List.set_cons_zero, List.set_cons_succ]
                  refine wpAnyH_take (i := 26) (v := ?_) rfl (by kernel_rfl) (by kernel_rfl) (by kernel_rfl) (fun _ _ _ h => h) (Or.inl ⟨by rfl, ?_⟩) (by assumption) ?_
                  rotate_left
                  · intro w hSw
                    try dsimp only at hSw
                    go_simp
                    try with_reducible rfl
                  try simp only [List.getElem_toArray, List.getElem_cons_zero, List.getElem_cons_succ, Act.put, List.setIfInBounds_toArray, List.set_cons_zero, List.set_cons_succ]
                  refine wpAnyH_ready (rs := [24]) (by kernel_rfl) (by simp) ?_
                  refine AllReadyH.cons rfl (fun K hK => ?_) AllReadyH.nil
                  go_simp
                  refine (HED.out _ HBd.out).mono ?_
                  rintro e we ⟨v8, rfl, hown8, hBe⟩
                  have HBe := Lib.hid (Below.trans HBd.out (hBe.mono HBd.out.size))
                  have HOW := Lib.hid hown8
                  clear hown8
                  refine hK.out _ _ (by (try dsimp only); exact HK2.out _ HBe.out) (fun hHeld => ?_)
                  clear hK K
                  try simp only [List.getElem_toArray, List.getElem_cons_zero, List.getElem_cons_succ, Act.put, List.setIfInBounds_toArray, List.set_cons_zero, List.set_cons_succ]
                  refine wpAnyH_ready (rs := [27]) (by kernel_rfl) (by simp) ?_
                  refine AllReadyH.cons rfl (fun K hK => ?_) AllReadyH.nil
                  go_simp
                  refine (HSE.out _ _ _ HBe.out HOW.out).mono ?_
                  rintro e wf ⟨rfl, mm, rfl⟩
                  have HBf := Lib.hid (bdrew (n := mm) HBe.out)
                  refine hK.out _ _ (by (try dsimp only); exact HK2.out _ HBf.out) (fun hHeld => ?_)
                  clear hK K
                  try simp only [List.getElem_toArray, List.getElem_cons_zero, List.getElem_cons_succ, Act.put, List.setIfInBounds_toArray, List.set_cons_zero, List.set_cons_succ]
                  refine wpAnyH_take (i := 28) (v := ?_) rfl (by kernel_rfl) (by kernel_rfl) (by kernel_rfl) (fun _ _ _ h => h) (Or.inl ⟨by rfl, ?_⟩) (by assumption) ?_
                  rotate_left
                  · intro w hSw
                    try dsimp only at hSw
                    go_simp
                    try with_reducible rfl
                  try simp only [List.getElem_toArray, List.getElem_cons_zero, List.getElem_cons_succ, Act.put, List.setIfInBounds_toArray, List.set_cons_zero, List.set_cons_succ]
                  refine wpAnyH_take (i := 29) (v := ?_) rfl (by kernel_rfl) (by kernel_rfl) (by kernel_rfl) (fun _ _ _ h => h) (Or.inl ⟨by rfl, ?_⟩) (by assumption) ?_
                  rotate_left
                  · intro w hSw
                    try dsimp only at hSw
                    go_simp
                    try with_reducible rfl
                  try simp only [List.getElem_toArray, List.getElem_cons_zero, List.getElem_cons_succ, Act.put, List.setIfInBounds_toArray, List.set_cons_zero, List.set_cons_succ]
                  refine wpAnyH_take (i := 30) (v := ?_) rfl (by kernel_rfl) (by kernel_rfl) (by kernel_rfl) (fun _ _ _ h => h) (Or.inl ⟨by rfl, ?_⟩) (by assumption) ?_
                  rotate_left
                  · intro w hSw
                    try dsimp only at hSw
                    go_simp
                    try with_reducible rfl
                  try simp only [List.getElem_toArray, List.getElem_cons_zero, List.getElem_cons_succ, Act.put, List.setIfInBounds_toArray, List.set_cons_zero, List.set_cons_succ]
                  refine wpAnyH_take (i := 32) (v := ?_) rfl (by kernel_rfl) (by kernel_rfl) (by kernel_rfl) (fun _ _ _ h => h) (Or.inl ⟨by rfl, ?_⟩) (by assumption) ?_
                  rotate_left
                  · intro w hSw
                    try dsimp only at hSw
                    go_simp
                    try with_reducible rfl
                  try simp only [List.getElem_toArray, List.getElem_cons_zero, List.getElem_cons_succ, Act.put, List.setIfInBounds_toArray, List.set_cons_zero, List.set_cons_succ]
                  refine wpAnyH_ready (rs := [31]) (by kernel_rfl) (by simp) ?_
                  refine AllReadyH.cons rfl (fun K hK => ?_) AllReadyH.nil
                  go_simp
                  refine (HRE.out _ HBf.out).mono ?_
                  rintro e wg ⟨v9, rfl, hown9, hBg⟩
                  have HBg := Lib.hid (Below.trans HBf.out (hBg.mono HBf.out.size))
                  have HOX := Lib.hid hown9
                  clear hown9
                  refine hK.out _ _ (by (try dsimp only); exact HK2.out _ HBg.out) (fun hHeld => ?_)
                  clear hK K
                  try simp only [List.getElem_toArray, List.getElem_cons_zero, List.getElem_cons_succ, Act.put, List.setIfInBounds_toArray, List.set_cons_zero, List.set_cons_succ]
                  refine wpAnyH_ready (rs := [33]) (by kernel_rfl) (by simp) ?_
                  refine AllReadyH.cons rfl (fun K hK => ?_) AllReadyH.nil
                  go_simp
                  refine (HS5.out _ _ _ HBg.out HOX.out).mono ?_
                  rintro e wh ⟨rfl, mm2, rfl⟩
                  have HBh := Lib.hid (bdrew (n := mm2) HBg.out)
                  refine hK.out _ _ (by (try dsimp only); exact HK2.out _ HBh.out) (fun hHeld => ?_)
                  clear hK K
                  try simp only [List.getElem_toArray, List.getElem_cons_zero, List.getElem_cons_succ, Act.put, List.setIfInBounds_toArray, List.set_cons_zero, List.set_cons_succ]
                  refine wpAnyH_take (i := 34) (v := ?_) rfl (by kernel_rfl) (by kernel_rfl) (by kernel_rfl) (fun _ _ _ h => h) (Or.inl ⟨by rfl, ?_⟩) (by assumption) ?_
                  rotate_left
                  · intro w hSw
                    try dsimp only at hSw
                    go_simp
                    try with_reducible rfl
                  try simp only [List.getElem_toArray, List.getElem_cons_zero, List.getElem_cons_succ, Act.put, List.setIfInBounds_toArray, List.set_cons_zero, List.set_cons_succ]
                  refine wpAnyH_take (i := 35) (v := ?_) rfl (by kernel_rfl) (by kernel_rfl) (by kernel_rfl) (fun _ _ _ h => h) (Or.inl ⟨by rfl, ?_⟩) (by assumption) ?_
                  rotate_left
                  · intro w hSw
                    try dsimp only at hSw
                    go_simp
                    try with_reducible rfl
                  try simp only [List.getElem_toArray, List.getElem_cons_zero, List.getElem_cons_succ, Act.put, List.setIfInBounds_toArray, List.set_cons_zero, List.set_cons_succ]
                  refine wpAnyH_take (i := 36) (v := ?_) rfl (by kernel_rfl) (by kernel_rfl) (by kernel_rfl) (fun _ _ _ h => h) (Or.inl ⟨by rfl, ?_⟩) (by assumption) ?_
                  rotate_left
                  · intro w hSw
                    try dsimp only at hSw
                    go_simp
                    try with_reducible rfl
                  try simp only [List.getElem_toArray, List.getElem_cons_zero, List.getElem_cons_succ, Act.put, List.setIfInBounds_toArray, List.set_cons_zero, List.set_cons_succ]
                  refine wpAnyH_take (i := 38) (v := ?_) rfl (by kernel_rfl) (by kernel_rfl) (by kernel_rfl) (fun _ _ _ h => h) (Or.inl ⟨by rfl, ?_⟩) (by assumption) ?_
                  rotate_left
                  · intro w hSw
                    try dsimp only at hSw
                    go_simp
                    try with_reducible rfl
                  try simp only [List.getElem_toArray, List.getElem_cons_zero, List.getElem_cons_succ, Act.put, List.setIfInBounds_toArray, List.set_cons_zero, List.set_cons_succ]
                  refine wpAnyH_ready (rs := [37]) (by kernel_rfl) (by simp) ?_
                  refine AllReadyH.cons rfl (fun K hK => ?_) AllReadyH.nil
                  go_simp
                  refine (HDG1.out _ HBh.out).mono ?_
                  rintro e wi ⟨rfl, hBi⟩
                  have HBi := Lib.hid (Below.trans HBh.out (hBi.mono HBh.out.size))
                  refine hK.out _ _ (by (try dsimp only); exact HK2.out _ HBi.out) (fun hHeld => ?_)
                  clear hK K
                  try simp only [List.getElem_toArray, List.getElem_cons_zero, List.getElem_cons_succ, Act.put, List.setIfInBounds_toArray, List.set_cons_zero, List.set_cons_succ]
                  refine wpAnyH_take (i := 39) (v := ?_) rfl (by kernel_rfl) (by kernel_rfl) (by kernel_rfl) (fun _ _ _ h => h) (Or.inl ⟨by rfl, ?_⟩) (by assumption) ?_
                  rotate_left
                  · intro w hSw
                    try dsimp only at hSw
                    go_simp
                    try with_reducible rfl
                  try simp only [List.getElem_toArray, List.getElem_cons_zero, List.getElem_cons_succ, Act.put, List.setIfInBounds_toArray, List.set_cons_zero, List.set_cons_succ]
                  refine wpAnyH_take (i := 40) (v := ?_) rfl (by kernel_rfl) (by kernel_rfl) (by kernel_rfl) (fun _ _ _ h => h) (Or.inl ⟨by rfl, ?_⟩) (by assumption) ?_
                  rotate_left
                  · intro w hSw
                    try dsimp only at hSw
                    go_simp
                    try with_reducible rfl
                  try simp only [List.getElem_toArray, List.getElem_cons_zero, List.getElem_cons_succ, Act.put, List.setIfInBounds_toArray, List.set_cons_zero, List.set_cons_succ]
                  refine wpAnyH_take (i := 41) (v := ?_) rfl (by kernel_rfl) (by kernel_rfl) (by kernel_rfl) (fun _ _ _ h => h) (Or.inl ⟨by rfl, ?_⟩) (by assumption) ?_
                  rotate_left
                  · intro w hSw
                    try dsimp only at hSw
                    go_simp
                    try with_reducible rfl
                  try simp only [List.getElem_toArray, List.getElem_cons_zero, List.getElem_cons_succ, Act.put, List.setIfInBounds_toArray, List.set_cons_zero, List.set_cons_succ]
                  refine wpAnyH_done (by kernel_rfl) ?_ _
                  go_wp2_with fail
                  go_ret
                  exact ⟨rfl, HFIN.out _ HBi.out⟩

/-- law7.GraphPlays. -/
theorem graphPlays_any {w : World} {p : Addr} (hE : ErrsK 14 p w) {s : Lts} {a : Option Addr} {b off c : Nat} (hS : SlAt encE 3 w a b off s.es) (hc : s.es.length ≤ c) (hcm : c ≤ maxLen) (state label : Int) :
    Calls Tryz.prog 5 #[.agg #[.int .i64 s.st, .int .i64 s.lb, .int .i64 s.s0, .slice a s.es.length c], .int .i64 state, .int .i64 label] w fun e w' => e = .returned (.bool true) ∧ Below w.heap.size w w' := by
  by_cases h2 : 2000 < s.es.length
  · exact graphPlaysNo_any hE hS (.inr h2) state label
  · by_cases hr : s.Right
    · exact graphPlaysYes_any hE hS hc hcm hr h2 state label
    · exact graphPlaysNo_any hE hS (.inl hr) state label
end Go.Proofs.YtkmljelgogcobaaGreatDoor

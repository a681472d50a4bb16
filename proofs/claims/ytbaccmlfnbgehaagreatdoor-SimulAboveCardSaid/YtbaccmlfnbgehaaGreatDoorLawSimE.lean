/-
  Lemmas.
-/
import Derived.Test.YtbaccmlfnbgehaaGreatDoorGSimEr
import Derived.Test.YtbaccmlfnbgehaaGreatDoorGSimQ
import Derived.Test.YtbaccmlfnbgehaaGreatDoorGOrdB
import Derived.Test.YtbaccmlfnbgehaaGreatDoorGLentS
import Derived.Test.YtbaccmlfnbgehaaGreatDoorGBkEp
import Derived.Test.YtbaccmlfnbgehaaGreatDoorGRefReach
import Derived.Test.YtbaccmlfnbgehaaGreatDoorGRws
import Derived.Test.YtbaccmlfnbgehaaGreatDoorGBkRow
import Derived.Test.YtbaccmlfnbgehaaGreatDoorGBkEa
import Derived.Deep.RegionHeldLaw
namespace Go.Proofs.YtbaccmlfnbgehaaGreatDoor
open Go.RowKit Pl
open Lib (hid)
set_option maxRecDepth 100000 in
set_option maxHeartbeats 16000000 in
theorem simAboveE_any {w : World} {p p2 : Addr} (hE : ErrsK 14 p w) (hE2 : ErrsK 2 p2 w) (hT : ErrType w) (hTab : Tab w) {s : Lts} (hbad : ¬ (s.Right ∧ s.st ≤ 300)) {a : Option Addr} {b off c : Nat} (hS : SlAt encE 3 w a b off s.es) (p q : Int) :
    Calls Tryz.prog 3 #[.agg #[.int .i64 s.st, .int .i64 s.lb, .int .i64 s.s0, .slice a s.es.length c], .int .i64 p, .int .i64 q] w fun e w' => e = .returned (.bool true) ∧ Below w.heap.size w w' := by
  have hB0 := (Below.refl w.heap.size w).alloc (Nat.le_refl _) (Obj.cells #[.int .i64 s.st, .int .i64 s.lb, .int .i64 s.s0, .slice a s.es.length c] 24)
  have hbx := heap_alloc_new w (Obj.cells #[.int .i64 s.st, .int .i64 s.lb, .int .i64 s.s0, .slice a s.es.length c] 24)
  have HLI := hid (light17_any (c := c) (hS.below hB0 (Nat.le_refl _)))
  have ALV : Hid (∀ w1 : World, Below w.heap.size w w1 → Calls Tryz.prog 6 #[] w1 fun e w' => e = .returned (.bool true) ∧ Below w1.heap.size w1 w') := hid (fun w1 h1 => alive17_any (hE.sys.below h1) (hTab.below h1))
  obtain ⟨k, x, Q, hk0, hQb, hQk, hAB, hCL, hBL, hGU, hTE⟩ := simst_no (c := c) hE hE2 hT hbad hS
  have hk1 : (k == 0) = false := by simpa using hk0
  have hk2 : (k != 0) = true := by simpa using hk0
  have HGU := hid hGU
  have HS := hid hS
  obtain ⟨el, hel⟩ : ∃ el, el = s.es.length := ⟨_, rfl⟩
  rw [← hel] at HLI hbx hB0 HGU hAB hCL hBL ⊢
  have HB0 := hid hB0; have HBX := hid hbx; have HEL := hid hel
  have HQB := hid hQb; have HQK := hid hQk; have HAB := hid hAB; have HCL := hid hCL; have HBL := hid hBL; have HTE := hid hTE
  clear hS hB0 hbx hel hQb hQk hAB hCL hBL hGU hTE hE hE2 hT hTab hbad hk0
  go_enter Tryz.func3, Tryz.ntmps3
  go_wp2_with fail
  refine HLI.out.mono ?_
  rintro e w1 ⟨bv, rfl, hbv, hB1⟩
  have HBX1 := hid ((hB1.block w.heap.size (by simp)).trans HBX.out)
  have HB1 := hid (HB0.out.trans (hB1.mono (by simp)))
  have HBV := hid hbv
  clear hbv hB1 HLI HB0 HBX
  cases bv
  · go_wp2_with fail
    refine (ALV.out _ HB1.out).mono ?_
    rintro e w2 ⟨rfl, hB⟩
    have HB2 := hid (HB1.out.trans (hB.mono HB1.out.size))
    clear hB
    go_wp2
    go_ret
    exact ⟨rfl, HB2.out⟩
  have hlt := HBV.out rfl
  have hel1 : el ≤ 11000 := by rcases hlt with h | h <;> omega
  have hls := lent_any (c := c) (HS.out.below HB1.out (Nat.le_refl _)) (by rw [← HEL.out]; omega)
  rw [← HEL.out] at hls
  have HLS := hid hls
  obtain ⟨⟨x0, x1, x2, x3⟩, xl⟩ := (⟨sysG HBX1.out, (Array.getElem?_eq_some_iff.1 HBX1.out).1⟩ : _ ∧ _)
  clear hlt hls HBV
  go_wp2_with fail
  refine HLS.out.mono ?_
  rintro e w2 ⟨g, gc, rfl, hls2, hB2⟩
  obtain ⟨W2, hW2⟩ : ∃ W2, W2 = w2.alloc (Obj.cells #[.int .i64 s.st, .int .i64 s.lb, .int .i64 s.s0, .slice (some ⟨g, 0, none⟩) el gc] 24) := ⟨_, rfl⟩
  have hbW : Below w2.heap.size w2 W2 := by rw [hW2]; exact (Below.refl _ _).alloc (Nat.le_refl _) _
  have hLB : W2.heap[w2.heap.size]? = some (.cells #[.int .i64 s.st, .int .i64 s.lb, .int .i64 s.s0, .slice (some ⟨g, 0, none⟩) el gc] 24 (0, 0)) := by rw [hW2]; exact heap_alloc_new w2 _
  have hb12 := hB2.trans (hbW.mono hB2.size)
  have HX2 := hid ((hb12.block w.heap.size xl).trans HBX1.out)
  have HB2 := hid (HB1.out.trans (hb12.mono HB1.out.size))
  have HL2 := hid (hls2.below hbW); have HLB := hid hLB; have HW2 := hid hW2
  clear x0 x1 x2 x3 xl hls2 hB2 hbW hLB hb12 hW2 HLS HBX1
  have HGU2 := hid (HGU.out W2 HB2.out)
  obtain ⟨⟨x0, x1, x2, x3⟩, xl⟩ := (⟨sysG HX2.out, (Array.getElem?_eq_some_iff.1 HX2.out).1⟩ : _ ∧ _)
  go_upto_region 4 with fail
  rw [← HW2.out]
  obtain ⟨lb, hlb⟩ : ∃ lb, lb = w2.heap.size := ⟨_, rfl⟩
  rw [← hlb] at HLB ⊢
  clear hlb HW2
  go_wp2_with fail
  refine HGU2.out.mono ?_
  rintro e w3 ⟨rfl, hB3⟩
  obtain ⟨W3, hW3⟩ : ∃ W3, W3 = w3.alloc (Obj.cells #[.int .i64 k, .int .i64 0, .int .i64 0, .string x] 29) := ⟨_, rfl⟩
  have hbW : Below w3.heap.size w3 W3 := by rw [hW3]; exact (Below.refl _ _).alloc (Nat.le_refl _) _
  have hEB : W3.heap[w3.heap.size]? = some (.cells #[.int .i64 k, .int .i64 0, .int .i64 0, .string x] 29 (0, 0)) := by rw [hW3]; exact heap_alloc_new w3 _
  have hb23 := hB3.trans (hbW.mono hB3.size)
  have HX3 := hid ((hb23.block w.heap.size xl).trans HX2.out)
  have HB3 := hid (HB2.out.trans (hb23.mono HB2.out.size))
  have HL3 := hid (HL2.out.below hb23); have HLB3 := hid ((hb23.block lb (Array.getElem?_eq_some_iff.1 HLB.out).1).trans HLB.out)
  have HEB := hid hEB; have HW3 := hid hW3
  have HEW : Hid (w.heap.size ≤ w3.heap.size) := hid (by have := HB2.out.size; have := hB3.size; omega)
  clear x0 x1 x2 x3 xl hB3 hbW hEB hb23 hW3 HGU2 HX2 HB2 HL2 HLB
  go_upto_region 5 with fail
  rw [← HW3.out]
  obtain ⟨eb, heb⟩ : ∃ eb, eb = w3.heap.size := ⟨_, rfl⟩
  rw [← heb] at HEB HEW ⊢
  clear heb HW3
  obtain ⟨⟨x0, x1, x2, x3⟩, xl⟩ := (⟨sysG HX3.out, (Array.getElem?_eq_some_iff.1 HX3.out).1⟩ : _ ∧ _)
  obtain ⟨⟨y0, y1, y2, y3⟩, yl⟩ := errG17 HEB.out
  go_wp2_with fail
  obtain ⟨W5, hW5⟩ : ∃ W5, W5 = W3 := ⟨_, rfl⟩
  rw [← hW5] at HX3 HB3 HL3 HLB3 HEB x0 x1 x2 x3 xl y0 y1 y2 y3 yl ⊢
  have hX5 := HX3.out
  have hB5 := HB3.out
  have hL5 := HL3.out
  have hLB5 := HLB3.out
  have hEB5 := HEB.out
  have HSYS : Hid (∀ V, Below W5.heap.size W5 V → ((V.cell? ⟨w.heap.size, 0, none⟩ = some (.int .i64 s.st) ∧ V.cell? ⟨w.heap.size, 1, none⟩ = some (.int .i64 s.lb) ∧ V.cell? ⟨w.heap.size, 2, none⟩ = some (.int .i64 s.s0) ∧ V.cell? ⟨w.heap.size, 3, none⟩ = some (.slice a el c)) ∧ w.heap.size < V.heap.size) ∧
      ((V.cell? ⟨lb, 0, none⟩ = some (.int .i64 s.st) ∧ V.cell? ⟨lb, 1, none⟩ = some (.int .i64 s.lb) ∧ V.cell? ⟨lb, 2, none⟩ = some (.int .i64 s.s0) ∧ V.cell? ⟨lb, 3, none⟩ = some (.slice (some ⟨g, 0, none⟩) el gc)) ∧ lb < V.heap.size) ∧
      ((V.cell? ⟨eb, 0, none⟩ = some (.int .i64 k) ∧ V.cell? ⟨eb, 1, none⟩ = some (.int .i64 0) ∧ V.cell? ⟨eb, 2, none⟩ = some (.int .i64 0) ∧ V.cell? ⟨eb, 3, none⟩ = some (.string x)) ∧ eb < V.heap.size)) := hid (fun V hV => by
    have h1 := (hV.block _ (Array.getElem?_eq_some_iff.1 hX5).1).trans hX5
    have h2 := (hV.block _ (Array.getElem?_eq_some_iff.1 hLB5).1).trans hLB5
    have h3 := (hV.block _ (Array.getElem?_eq_some_iff.1 hEB5).1).trans hEB5
    exact ⟨⟨sysG h1, (Array.getElem?_eq_some_iff.1 h1).1⟩, ⟨sysG h2, (Array.getElem?_eq_some_iff.1 h2).1⟩, errG17 h3⟩)
  have HEB5 : Hid (W5.heap[eb]? = some (.cells #[.int .i64 k, .int .i64 0, .int .i64 0, .string x] 29 (0, 0))) := hid hEB5
  have HLE : Hid (∀ V, Below W5.heap.size W5 V → LentS V w1.heap.size g gc s.es ∧ SlAt encE 3 V (some ⟨g, 0, none⟩) g 0 s.es ∧ Below w.heap.size w V) := hid (fun V hV =>
    ⟨hL5.below hV, SlAt.preE (hL5.below hV).all.1, hB5.trans (hV.mono hB5.size)⟩)
  have HST : Hid (∀ V, Below W5.heap.size W5 V → Calls Tryz.prog 13 #[.agg #[.int .i64 s.st, .int .i64 s.lb, .int .i64 s.s0, .slice (some ⟨g, 0, none⟩) el gc], .agg #[.int .i64 s.st, .int .i64 s.lb, .int .i64 s.s0, .slice a el c]] V fun e w' => e = .returned (.bool true) ∧ Below V.heap.size V w') := hid (fun V hV => by
    obtain ⟨h1, _, h5⟩ := HLE.out V hV
    have h := stays_any (st := s.st) (lb := s.lb) (s0 := s.s0) (st' := s.st) (lb' := s.lb) (s0' := s.s0) (c := c) h1 (HS.out.below h5 (Nat.le_refl _)) (by rw [← HEL.out]; omega)
    rw [← HEL.out] at h
    exact h)
  clear x0 x1 x2 x3 xl y0 y1 y2 y3 yl hX5 hB5 hL5 hLB5 hEB5 HX3 HB3 HL3 HLB3 HEB HGU hW5
  have HBK := hid (BkF.start W5)
  go_upto_region 9 with fail
  refine at_world (fun W => BkF W5 W W5.heap.size [] []) HBK.out (fun W1 hW1 => ?_)
  replace HBK := hid hW1
  clear hW1
  obtain ⟨bb, hbb⟩ : ∃ bb, bb = W5.heap.size := ⟨_, rfl⟩
  rw [← hbb] at HBK ⊢
  clear hbb
  go_wp2_with fail
  go_loopw [11, 12, 13, 14, 15, 16] (fun v11 _ _ _ _ _ wr => ∃ (i : Nat) (Z : List Rw), v11 = .int .i64 i ∧ i ≤ 2 ∧ BkF W5 wr bb Z []) (fun v11 _ _ _ _ _ _ => 2 - (intOf v11).toNat)
  case atStart => exact ⟨0, [], rfl, by omega, HBK.out⟩
  case round => as_aux_lemma =>
    obtain ⟨i, Z, rfl, hi, hbk⟩ := hrel
    replace HBK := hid hbk
    clear hbk
    by_cases hi2 : i < 2
    · have hiI : (i : Int) < 2 := by omega
      obtain ⟨_, ⟨⟨y0, y1, y2, y3⟩, yl⟩, _⟩ := HSYS.out _ HBK.out.bel
      have hab := HAB.out wr (some ⟨g, 0, none⟩) g gc (HLE.out _ HBK.out.bel).2.2 (HLE.out _ HBK.out.bel).2.1
      have HAB1 := hid hab
      clear hab
      go_wp2_with fail
      refine HAB1.out.mono ?_
      rintro e w6 ⟨v, rfl, hq, hB⟩
      replace HBK := hid (HBK.out.call hB)
      have HQ := hid hq
      clear hq hB HAB1 y0 y1 y2 y3 yl
      obtain ⟨_, ⟨⟨y0, y1, y2, y3⟩, yl⟩, _⟩ := HSYS.out _ HBK.out.bel
      have hcl := HCL.out w6 (some ⟨g, 0, none⟩) g gc (HLE.out _ HBK.out.bel).2.2 (HLE.out _ HBK.out.bel).2.1
      have HCL1 := hid hcl
      clear hcl
      go_wp2_with fail
      refine HCL1.out.mono ?_
      rintro e w7 ⟨v2, rfl, hq, hB⟩
      replace HBK := hid (HBK.out.call hB)
      replace HQ := hid (HQB.out _ _ _ HQ.out hB)
      have HQ2 := hid hq
      clear hq hB HCL1 y0 y1 y2 y3 yl
      obtain ⟨_, _, ⟨⟨z0, z1, z2, z3⟩, zl⟩⟩ := HSYS.out _ HBK.out.bel
      have HTE1 := hid (HTE.out w7 v (HLE.out _ HBK.out.bel).2.2 HQ.out)
      go_wp2_with fail
      refine HTE1.out.mono ?_
      rintro e w8 ⟨rfl, hB⟩
      replace HBK := hid (HBK.out.call hB)
      replace HQ2 := hid (HQB.out _ _ _ HQ2.out hB)
      clear hB z0 z1 z2 z3 zl HTE1 HQ
      obtain ⟨_, _, ⟨⟨z0, z1, z2, z3⟩, zl⟩⟩ := HSYS.out _ HBK.out.bel
      have HTE1 := hid (HTE.out w8 v2 (HLE.out _ HBK.out.bel).2.2 HQ2.out)
      go_wp2_with fail
      refine HTE1.out.mono ?_
      rintro e w9 ⟨rfl, hB⟩
      replace HBK := hid (HBK.out.call hB)
      clear hB z0 z1 z2 z3 zl HTE1 HQ2
      obtain ⟨⟨⟨x0, x1, x2, x3⟩, xl⟩, ⟨⟨y0, y1, y2, y3⟩, yl⟩, _⟩ := HSYS.out _ HBK.out.bel
      have HST1 := hid (HST.out w9 HBK.out.bel)
      go_wp2_with fail
      refine HST1.out.mono ?_
      rintro e w10 ⟨rfl, hB⟩
      replace HBK := hid (HBK.out.call hB)
      clear hB x0 x1 x2 x3 xl y0 y1 y2 y3 yl HST1
      go_wp2_with fail
      go_loopw [16] (fun v16 wx => v16 = .int .i64 0 ∧ BkF W5 wx bb Z []) (fun _ _ => 0)
      case atStart => exact ⟨rfl, HBK.out⟩
      case round => as_aux_lemma =>
        obtain ⟨rfl, hbk⟩ := hrel
        replace HBK := hid hbk
        clear hbk
        obtain ⟨_, _, ⟨⟨z0, z1, z2, z3⟩, zl⟩⟩ := HSYS.out _ HBK.out.bel
        replace HBK := hid ((HBK.out.add (T := 3) (k := 1) (n := 0) (v := .slice none 0 0) (xs := []) (Below.refl _ _) (World.ownsRow_nil _ _ _ _)).add (T := 50) (k := 1) (n := 0) (v := .slice none 0 0) (xs := []) (Below.refl _ _) (World.ownsRow_nil _ _ _ _))
        have hrv := BkF.rowV (n := 0) (oa := none) (oc := 0) (vs := fun _ => .nilIface) (f := fun _ => []) (R := [⟨3, 1, .slice none 0 0, 0, []⟩]) HBK.out (by omega) (fun q hq => by omega)
        have HRV := hid hrv
        clear hrv
        go_wp2_with fail
        refine HRV.out.mono ?_
        rintro e w13 ⟨rfl, Z', hbk, _⟩
        replace HBK := hid hbk
        clear hbk HRV z0 z1 z2 z3 zl
        go_wp2_with fail
        refine (HBK.out.giveI (ys := []) rfl rfl (by omega)).mono ?_
        rintro e w14 ⟨rfl, hbk⟩
        replace HBK := hid hbk
        clear hbk
        go_wp2_with fail
        go_roundw
        case rel => exact ⟨i + 1, _, by go_num, by omega, HBK.out⟩
        case measure => simp [intOf]; omega
    · obtain ⟨⟨⟨y0, y1, y2, y3⟩, yl⟩, _⟩ := HSYS.out _ HBK.out.bel
      have hbl := HBL.out wr (HLE.out _ HBK.out.bel).2.2 p q
      have HBL1 := hid hbl
      clear hbl
      go_wp2_with fail
      refine HBL1.out.mono ?_
      rintro e w6 ⟨v, rfl, hq, hB⟩
      replace HBK := hid (HBK.out.call hB)
      have HQ := hid hq
      clear hq hB HBL1 y0 y1 y2 y3 yl
      obtain ⟨_, _, ⟨⟨z0, z1, z2, z3⟩, zl⟩⟩ := HSYS.out _ HBK.out.bel
      have HALV1 := hid (ALV.out _ (HLE.out _ HBK.out.bel).2.2)
      go_wp2_with fail
      refine HALV1.out.mono ?_
      rintro e w7 ⟨rfl, hB⟩
      replace HBK := hid (HBK.out.call hB)
      replace HQ := hid (HQB.out _ _ _ HQ.out hB)
      clear hB HALV1 z0 z1 z2 z3 zl
      go_wp2_with fail
      refine HBK.out.apartF.mono ?_
      rintro e w8 ⟨rfl, hB, hkp⟩
      replace HQ := hid (HQK.out _ _ _ HQ.out hkp)
      have HB8 := hid hB
      clear hB hkp
      obtain ⟨_, _, ⟨⟨z0, z1, z2, z3⟩, zl⟩⟩ := HSYS.out _ HB8.out
      have HTE1 := hid (HTE.out w8 v (HLE.out _ HB8.out).2.2 HQ.out)
      go_wp2_with fail
      refine HTE1.out.mono ?_
      rintro e w9 ⟨rfl, hB⟩
      replace HB8 := hid (HB8.out.trans (hB.mono HB8.out.size))
      clear hB z0 z1 z2 z3 zl HTE1
      obtain ⟨_, _, ⟨⟨z0, z1, z2, z3⟩, zl⟩⟩ := HSYS.out _ HB8.out
      go_wp2_with fail
      go_ret
      exact ⟨rfl, (HLE.out _ HB8.out).2.2⟩
end Go.Proofs.YtbaccmlfnbgehaaGreatDoor

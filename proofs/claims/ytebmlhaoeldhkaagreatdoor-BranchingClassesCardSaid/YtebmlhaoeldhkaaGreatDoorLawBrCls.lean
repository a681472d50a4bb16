/-
  Lemmas.
-/
import Derived.Test.YtebmlhaoeldhkaaGreatDoorGBrV
import Derived.Test.YtebmlhaoeldhkaaGreatDoorGBkBoa
import Derived.Test.YtebmlhaoeldhkaaGreatDoorRf12C
import Derived.Test.YtebmlhaoeldhkaaGreatDoorGRefRight
import Derived.Test.YtebmlhaoeldhkaaGreatDoorGLight9
import Derived.Test.YtebmlhaoeldhkaaGreatDoorGTold
import Derived.Test.YtebmlhaoeldhkaaGreatDoorGTauG
import Derived.Test.YtebmlhaoeldhkaaGreatDoorGRefSame7
namespace Go.Proofs.YtebmlhaoeldhkaaGreatDoor
open Go.RowKit Pl
open Lib (hid)
theorem errGb {w : World} {B : Nat} {x y z : Int} {u : ByteArray} (h : w.heap[B]? = some (.cells #[.int .i64 x, .int .i64 y, .int .i64 z, .string u] 29 (0, 0))) :
    w.cell? ⟨B, 0, none⟩ = some (.int .i64 x) ∧ w.cell? ⟨B, 1, none⟩ = some (.int .i64 y) ∧ w.cell? ⟨B, 2, none⟩ = some (.int .i64 z) ∧ w.cell? ⟨B, 3, none⟩ = some (.string u) := by
  refine ⟨?_, ?_, ?_, ?_⟩ <;> simp [World.cell?, h]
set_option maxRecDepth 100000 in
set_option maxHeartbeats 16000000 in
theorem brClsYes_any {w : World} {p : Addr} (hE : ErrsK 14 p w) (hT : ErrType w) (hTab : Lib.TabIs Tryz.prog w "internal/strconv.uint64pow10" .u64 Lib.pow10Tab) {s : Lts} {a : Option Addr} {b off c : Nat} (hS : SlAt encE 3 w a b off s.es) (hc : s.es.length ≤ c) (hcm : c ≤ maxLen) (hr : s.Right) :
    Calls Tryz.prog 3 #[.agg #[.int .i64 s.st, .int .i64 s.lb, .int .i64 s.s0, .slice a s.es.length c]] w fun e w' => e = .returned (.bool true) ∧ Below w.heap.size w w' := by
  have hG : GErr 0 p w := hE.sys
  have hB0 := (Below.refl w.heap.size w).alloc (Nat.le_refl _) (Obj.cells #[.int .i64 s.st, .int .i64 s.lb, .int .i64 s.s0, .slice a s.es.length c] 24)
  have hbx := heap_alloc_new w (Obj.cells #[.int .i64 s.st, .int .i64 s.lb, .int .i64 s.s0, .slice a s.es.length c] 24)
  have HLI := hid (light12_any (c := c) (hS.below hB0 (Nat.le_refl _)))
  have hTB := Lib.tabBelow_of_tabIs hTab
  have HE := hid hE; have HTY := hid hT; have HS := hid hS; have HG := hid hG; have HTAB := hid hTB
  have ALV : Hid (∀ w1 : World, Below w.heap.size w w1 → Calls Tryz.prog 7 #[] w1 fun e w' => e = .returned (.bool true) ∧ Below w1.heap.size w1 w') := hid (fun w1 h1 => alive12_any (hG.below h1) (hTB w1 h1))
  have HLT : Hid (s.es.length ≤ 1000000 → ∀ w1 : World, Below w.heap.size w w1 → Calls Tryz.prog 8 #[.agg #[.int .i64 s.st, .int .i64 s.lb, .int .i64 s.s0, .slice a s.es.length c]] w1 fun e w' => ∃ g cap, e = .returned (.agg #[.int .i64 s.st, .int .i64 s.lb, .int .i64 s.s0, .slice (some ⟨g, 0, none⟩) s.es.length cap]) ∧ LentS w' w1.heap.size g cap s.es ∧ Below w1.heap.size w1 w') := hid (fun hl w1 h1 => lent_any (c := c) (hS.below h1 (Nat.le_refl _)) hl)
  have HC := hid hc; have HCM := hid hcm; have HR := hid hr
  obtain ⟨el, hel⟩ : ∃ el, el = s.es.length := ⟨_, rfl⟩
  rw [← hel] at HLI hbx hB0 HLT HC ⊢
  have HB0 := hid hB0; have HBX := hid hbx; have HEL := hid hel
  clear hE hG hT hS hB0 hbx hc hcm hel hr hTab hTB
  go_enter Tryz.func3, Tryz.ntmps3
  go_wp2_with fail
  refine HLI.out.mono ?_
  rintro e w1 ⟨bv, rfl, hbv, hB1⟩
  have HBX1 := hid ((hB1.block w.heap.size (by simp)).trans HBX.out)
  have HB1 := hid (HB0.out.trans (hB1.mono (by simp)))
  have HBV := hid hbv
  clear hbv hB1 HLI HB0 HBX
  cases bv
  · go_wp2_with fail
    refine (ALV.out _ HB1.out).mono ?_
    rintro e w2 ⟨rfl, hB⟩
    have HB2 := hid (HB1.out.trans (hB.mono HB1.out.size))
    clear hB
    go_wp2
    go_ret
    exact ⟨rfl, HB2.out⟩
  have hlt : s.st ≤ 60 ∧ el ≤ 400 := (HBV.out rfl).resolve_right (fun h => h.1 HR.out)
  have hel1 : el ≤ 400 := hlt.2
  have HLT1 := hid (HLT.out (by omega) w1 HB1.out)
  obtain ⟨x0, x1, x2, x3⟩ := sysG HBX1.out
  have xl := (Array.getElem?_eq_some_iff.1 HBX1.out).1
  clear HLT HBV hlt
  go_wp2_with fail
  refine HLT1.out.mono ?_
  rintro e w2 ⟨g, cap, rfl, hlent, hB2⟩
  have HBX2 := hid ((hB2.block w.heap.size xl).trans HBX1.out)
  have HB2 := hid (HB1.out.trans (hB2.mono HB1.out.size))
  clear x0 x1 x2 x3 xl
  obtain ⟨W2, hW2⟩ : ∃ W2, W2 = w2.alloc (Obj.cells #[.int .i64 s.st, .int .i64 s.lb, .int .i64 s.s0, .slice (some ⟨g, 0, none⟩) el cap] 24) := ⟨_, rfl⟩
  have hbW : Below w2.heap.size w2 W2 := by rw [hW2]; exact (Below.refl _ _).alloc (Nat.le_refl _) _
  have HLB := hid (show W2.heap[w2.heap.size]? = some (.cells #[.int .i64 s.st, .int .i64 s.lb, .int .i64 s.s0, .slice (some ⟨g, 0, none⟩) el cap] 24 (0, 0)) by rw [hW2]; exact heap_alloc_new w2 _)
  have HL := hid (hlent.below hbW)
  obtain ⟨x0, x1, x2, x3⟩ := sysG HBX2.out
  have xl := (Array.getElem?_eq_some_iff.1 HBX2.out).1
  have HXW := hid ((hbW.block w.heap.size xl).trans HBX2.out)
  have HBW := hid (HB2.out.trans (hbW.mono HB2.out.size))
  have HW2 := hid hW2
  clear hlent hB2 HLT1 HBX1 hW2 hbW HB1
  have hHA := refHanded_yes brName (c := c) HR.out (HS.out.below HBW.out (Nat.le_refl _))
  rw [← HEL.out] at hHA
  unfold brName at hHA
  have HHA := hid hHA
  clear hHA
  go_wp2_with fail
  rw [← HW2.out]
  refine HHA.out.mono ?_
  rintro e w3 ⟨rfl, hB3⟩
  obtain ⟨W3, hW3⟩ : ∃ W3, W3 = w3.alloc (Obj.cells #[.int .i64 0, .int .i64 0, .int .i64 0, .string ⟨#[]⟩] 29) := ⟨_, rfl⟩
  have hbW3 : Below w3.heap.size w3 W3 := by rw [hW3]; exact (Below.refl _ _).alloc (Nat.le_refl _) _
  have hEB : W3.heap[w3.heap.size]? = some (.cells #[.int .i64 0, .int .i64 0, .int .i64 0, .string ⟨#[]⟩] 29 (0, 0)) := by rw [hW3]; exact heap_alloc_new w3 _
  have hb23 := hB3.trans (hbW3.mono hB3.size)
  have hLB3 := (hb23.block w2.heap.size (Array.getElem?_eq_some_iff.1 HLB.out).1).trans HLB.out
  have hXW3 := (hb23.block w.heap.size (Array.getElem?_eq_some_iff.1 HXW.out).1).trans HXW.out
  have hL3 := HL.out.below hb23
  have hBW3 := HBW.out.trans (hb23.mono HBW.out.size)
  have hSYS : ∀ V, Below W3.heap.size W3 V → (V.cell? ⟨w.heap.size, 0, none⟩ = some (.int .i64 s.st) ∧ V.cell? ⟨w.heap.size, 1, none⟩ = some (.int .i64 s.lb) ∧ V.cell? ⟨w.heap.size, 2, none⟩ = some (.int .i64 s.s0) ∧ V.cell? ⟨w.heap.size, 3, none⟩ = some (.slice a el c)) ∧ w.heap.size < V.heap.size ∧
      (V.cell? ⟨w2.heap.size, 0, none⟩ = some (.int .i64 s.st) ∧ V.cell? ⟨w2.heap.size, 1, none⟩ = some (.int .i64 s.lb) ∧ V.cell? ⟨w2.heap.size, 2, none⟩ = some (.int .i64 s.s0) ∧ V.cell? ⟨w2.heap.size, 3, none⟩ = some (.slice (some ⟨g, 0, none⟩) el cap)) ∧ w2.heap.size < V.heap.size ∧
      (V.cell? ⟨w3.heap.size, 0, none⟩ = some (.int .i64 0) ∧ V.cell? ⟨w3.heap.size, 1, none⟩ = some (.int .i64 0) ∧ V.cell? ⟨w3.heap.size, 2, none⟩ = some (.int .i64 0) ∧ V.cell? ⟨w3.heap.size, 3, none⟩ = some (.string ⟨#[]⟩)) ∧ w3.heap.size < V.heap.size ∧ LentS V w1.heap.size g cap s.es ∧ Below w.heap.size w V := fun V hV => by
    have h1 := (hV.block _ (Array.getElem?_eq_some_iff.1 hXW3).1).trans hXW3
    have h2 := (hV.block _ (Array.getElem?_eq_some_iff.1 hLB3).1).trans hLB3
    have h3 := (hV.block _ (Array.getElem?_eq_some_iff.1 hEB).1).trans hEB
    exact ⟨sysG h1, (Array.getElem?_eq_some_iff.1 h1).1, sysG h2, (Array.getElem?_eq_some_iff.1 h2).1, errGb h3, (Array.getElem?_eq_some_iff.1 h3).1, hL3.below hV, hBW3.trans (hV.mono hBW3.size)⟩
  have HSYS := hid hSYS; have HW3 := hid hW3
  clear hW3 hbW3 hEB hb23 hLB3 hXW3 hL3 hBW3 hSYS hB3 x0 x1 x2 x3 xl HLB HXW HL HBW HW2 HHA HBX2 HB2
  have hst := HR.out.st0
  obtain ⟨n, hn⟩ : ∃ n : Nat, s.st = (n : Int) := ⟨s.st.toNat, by omega⟩
  have hn1 : n ≤ 1000 := by omega
  have hSL : ∀ V, Below W3.heap.size W3 V → SlAt encE 3 V (some ⟨g, 0, none⟩) g 0 s.es ∧ GErr 0 p V ∧ SlAt encE 3 V a b off s.es ∧ Below w.heap.size w V := fun V hV => by
    obtain ⟨_, _, _, _, _, _, hl, hb⟩ := HSYS.out V hV
    exact ⟨SlAt.preE hl.all.1, HG.out.below hb, HS.out.below hb (Nat.le_refl _), hb⟩
  have hRC : ∀ V, Below W3.heap.size W3 V → Calls Tryz.prog 10 #[.agg #[.int .i64 s.st, .int .i64 s.lb, .int .i64 s.s0, .slice a s.es.length c]] V fun e w' => ∃ (cb : Nat) (C : Nat → Int), e = .returned (.slice (some ⟨cb, 0, none⟩) n n) ∧ SlAt encI 1 w' (some ⟨cb, 0, none⟩) cb 0 (fl n C) ∧ BrBig s n C ∧ canon (fl n C) = fl n C ∧ V.heap.size ≤ cb ∧ Below V.heap.size V w' := fun V hV => by
    obtain ⟨_, _, h1, _⟩ := hSL V hV
    exact refClasses12_any HR.out hn h1 (by rw [← HEL.out]; exact HC.out) HCM.out
  have hBC : ∀ V, Below W3.heap.size W3 V → ∀ C, BrBig s n C → canon (fl n C) = fl n C → Calls Tryz.prog 11 #[.agg #[.int .i64 s.st, .int .i64 s.lb, .int .i64 s.s0, .slice (some ⟨g, 0, none⟩) s.es.length cap]] V fun e w' => ∃ v : Value, e = .returned (.tuple #[v, .nilIface]) ∧ w'.ownsRow V.heap.size 3 1 v n ((fl n C).flatMap encI) ∧ Below V.heap.size V w' := fun V hV C hC hcC => by
    obtain ⟨h1, h2, _, h4⟩ := hSL V hV
    refine (brClasses_any HR.out hn (by rw [← HEL.out]; omega) h2 (HTAB.out V h4) h1).mono ?_
    rintro e w' ⟨R, a1, b1, c1, h5, rfl, h6, _, h7⟩
    obtain ⟨C', h8, h9, h10, _⟩ := h5.big HR.out hn
    rw [h9] at h6 h10
    rw [big_eq12 HR.out hn h8 hC h10 hcC] at h6
    exact ⟨_, rfl, h6, h7⟩
  have hSTA : ∀ V, Below W3.heap.size W3 V → Calls Tryz.prog 14 #[.agg #[.int .i64 s.st, .int .i64 s.lb, .int .i64 s.s0, .slice (some ⟨g, 0, none⟩) s.es.length cap], .agg #[.int .i64 s.st, .int .i64 s.lb, .int .i64 s.s0, .slice a s.es.length c]] V fun e w' => e = .returned (.bool true) ∧ Below V.heap.size V w' := fun V hV => by
    obtain ⟨_, _, _, _, _, _, hl, _⟩ := HSYS.out V hV
    obtain ⟨_, _, h1, _⟩ := hSL V hV
    exact stays_any hl h1 (by rw [← HEL.out]; omega)
  have hALV : ∀ V, Below W3.heap.size W3 V → Calls Tryz.prog 7 #[] V fun e w' => e = .returned (.bool true) ∧ Below V.heap.size V w' := fun V hV => by
    obtain ⟨_, _, _, h4⟩ := hSL V hV
    exact ALV.out V h4
  rw [← HEL.out] at hRC hBC hSTA
  have HRC := hid (hRC W3 (Below.refl _ _)); have HBC := hid hBC; have HSTA := hid hSTA; have HALV := hid hALV
  have HN := hid hn
  have HEND : Hid (∀ V, Below W3.heap.size W3 V → Below w.heap.size w V) := hid (fun V hV => (hSL V hV).2.2.2)
  obtain ⟨⟨x0, x1, x2, x3⟩, xl, _, _, ⟨z0, z1, z2, z3⟩, zl, _, _⟩ := HSYS.out W3 (Below.refl _ _)
  clear hSL hRC hBC hSTA hALV hst hn ALV HE HTY HS HG
  go_upto_region 6 with fail
  rw [← HW3.out]
  go_wp2_with fail
  refine HRC.out.mono ?_
  rintro e w4 ⟨qb, C, rfl, hcs, hbig, hca, hqb, hB4⟩
  have HB4 := hid hB4; have HCS := hid hcs; have HBC1 := hid (fun V (hV : Below W3.heap.size W3 V) => HBC.out V hV C hbig hca)
  clear hcs hbig hca hqb hB4 x0 x1 x2 x3 xl z0 z1 z2 z3 zl HRC HBC HW3
  have HBK := hid (Bk.start w4)
  go_upto_region 9 with fail
  refine at_world (fun W => Bk w4 W w4.heap.size [] []) HBK.out (fun W1 hW1 => ?_)
  replace HBK := hid hW1
  clear hW1
  obtain ⟨bb, hbb⟩ : ∃ bb, bb = w4.heap.size := ⟨_, rfl⟩
  rw [← hbb] at HBK ⊢
  clear hbb
  have HUP : Hid (∀ V, Below w4.heap.size w4 V → Below W3.heap.size W3 V) := hid (fun V hV => HB4.out.trans (hV.mono HB4.out.size))
  go_wp2_with fail
  go_loopw [7, 8, 9] (fun v7 _ _ wr => ∃ (k : Nat) (Z : List Rw), v7 = .int .i64 k ∧ k ≤ 2 ∧ Bk w4 wr bb Z []) (fun v7 _ _ _ => 2 - (intOf v7).toNat)
  case atStart => exact ⟨0, [], rfl, by omega, HBK.out⟩
  case round =>
    obtain ⟨k, Z, rfl, hk, hbk⟩ := hrel
    replace HBK := hid hbk
    by_cases hk2 : k < 2
    · have hkI : (k : Int) < 2 := by omega
      obtain ⟨_, _, ⟨y0, y1, y2, y3⟩, yl, _, _, _, _⟩ := HSYS.out _ (HUP.out _ hbk.bel)
      clear hbk
      go_wp2_with fail
      refine (HBC1.out _ (HUP.out _ HBK.out.bel)).mono ?_
      rintro e w5 ⟨v5, rfl, hown, hB⟩
      obtain ⟨va5, vc5, rfl⟩ := own_sl hown
      have HO5 := hid hown
      replace HBK := hid (HBK.out.add hB hown)
      clear hown hB y0 y1 y2 y3 yl
      obtain ⟨_, _, _, _, ⟨z0, z1, z2, z3⟩, zl, _, _⟩ := HSYS.out _ (HUP.out _ HBK.out.bel)
      go_wp2_with fail
      refine (told_nil 0 0 ⟨#[]⟩ _).mono ?_
      rintro e w6 ⟨rfl, hB⟩
      replace HBK := hid (HBK.out.call hB)
      have hsi := (by
        obtain ⟨a9, c9, b9, e9, _, _, h9, _⟩ := slAt_own (xs := fl n C) lenI (by rw [fl_len]; exact own_below HO5.out hB)
        rw [fl_len] at e9
        cases e9
        have h := sameInts_any (c1 := vc5) (c2 := n) h9 (HCS.out.below HBK.out.bel (Nat.le_refl _)) (by rw [fl_len]; omega) (by rw [fl_len]; omega)
        rw [fl_len] at h
        exact h : Calls Tryz.prog 13 #[.slice va5 n vc5, .slice (some ⟨qb, 0, none⟩) n n] w6 fun e w' => e = .returned (.bool (decide (fl n C = fl n C))) ∧ ∃ n, w' = w6.drewN n)
      simp only [decide_true] at hsi
      have HSI := hid hsi
      clear hB z0 z1 z2 z3 zl hsi HO5
      go_wp2_with fail
      refine HSI.out.mono ?_
      rintro e w7 ⟨rfl, q7, hw7⟩
      have hB : Below w6.heap.size w6 w7 := by rw [hw7]; exact bdrew (Below.refl _ _)
      replace HBK := hid (HBK.out.call hB)
      clear hB hw7 HSI
      obtain ⟨⟨x0, x1, x2, x3⟩, xl, ⟨y0, y1, y2, y3⟩, yl, _, _, _, _⟩ := HSYS.out _ (HUP.out _ HBK.out.bel)
      go_wp2_with fail
      refine (HSTA.out _ (HUP.out _ HBK.out.bel)).mono ?_
      rintro e w8 ⟨rfl, hB⟩
      replace HBK := hid (HBK.out.call hB)
      clear hB x0 x1 x2 x3 xl y0 y1 y2 y3 yl
      go_wp2_with fail
      refine (HBK.out.giveI rfl (by rw [fl_len]) (by omega)).mono ?_
      rintro e w9 ⟨rfl, hbk⟩
      replace HBK := hid hbk
      clear hbk
      go_wp2_with fail
      go_roundw
      case rel => exact ⟨k + 1, _, by go_num, by omega, HBK.out⟩
      case measure => simp [intOf]; omega
    · clear hbk
      go_wp2_with fail
      refine (HALV.out _ (HUP.out _ HBK.out.bel)).mono ?_
      rintro e w5 ⟨rfl, hB⟩
      replace HBK := hid (HBK.out.call hB)
      clear hB
      go_wp2_with fail
      refine HBK.out.apart.mono ?_
      rintro e w6 ⟨rfl, hB⟩
      have HB6 := hid hB
      clear hB
      go_wp2_with fail
      go_ret
      exact ⟨rfl, HEND.out _ (HUP.out _ HB6.out)⟩
set_option maxRecDepth 100000 in
set_option maxHeartbeats 16000000 in
theorem brClsNo_any {w : World} {p : Addr} (hE : ErrsK 14 p w) (hT : ErrType w) (hTab : Lib.TabIs Tryz.prog w "internal/strconv.uint64pow10" .u64 Lib.pow10Tab) {s : Lts} {a : Option Addr} {b off c : Nat} (hS : SlAt encE 3 w a b off s.es) (hc : s.es.length ≤ c) (hcm : c ≤ maxLen) (hr : ¬ s.Right) :
    Calls Tryz.prog 3 #[.agg #[.int .i64 s.st, .int .i64 s.lb, .int .i64 s.s0, .slice a s.es.length c]] w fun e w' => e = .returned (.bool true) ∧ Below w.heap.size w w' := by
  have hG : GErr 0 p w := hE.sys
  have hB0 := (Below.refl w.heap.size w).alloc (Nat.le_refl _) (Obj.cells #[.int .i64 s.st, .int .i64 s.lb, .int .i64 s.s0, .slice a s.es.length c] 24)
  have hbx := heap_alloc_new w (Obj.cells #[.int .i64 s.st, .int .i64 s.lb, .int .i64 s.s0, .slice a s.es.length c] 24)
  have HLI := hid (light12_any (c := c) (hS.below hB0 (Nat.le_refl _)))
  have hTB := Lib.tabBelow_of_tabIs hTab
  have HE := hid hE; have HTY := hid hT; have HS := hid hS; have HG := hid hG; have HTAB := hid hTB
  have ALV : Hid (∀ w1 : World, Below w.heap.size w w1 → Calls Tryz.prog 7 #[] w1 fun e w' => e = .returned (.bool true) ∧ Below w1.heap.size w1 w') := hid (fun w1 h1 => alive12_any (hG.below h1) (hTB w1 h1))
  have HLT : Hid (s.es.length ≤ 1000000 → ∀ w1 : World, Below w.heap.size w w1 → Calls Tryz.prog 8 #[.agg #[.int .i64 s.st, .int .i64 s.lb, .int .i64 s.s0, .slice a s.es.length c]] w1 fun e w' => ∃ g cap, e = .returned (.agg #[.int .i64 s.st, .int .i64 s.lb, .int .i64 s.s0, .slice (some ⟨g, 0, none⟩) s.es.length cap]) ∧ LentS w' w1.heap.size g cap s.es ∧ Below w1.heap.size w1 w') := hid (fun hl w1 h1 => lent_any (c := c) (hS.below h1 (Nat.le_refl _)) hl)
  have HC := hid hc; have HCM := hid hcm; have HR := hid hr
  obtain ⟨el, hel⟩ : ∃ el, el = s.es.length := ⟨_, rfl⟩
  rw [← hel] at HLI hbx hB0 HLT HC ⊢
  have HB0 := hid hB0; have HBX := hid hbx; have HEL := hid hel
  clear hE hG hT hS hB0 hbx hc hcm hel hr hTab hTB
  go_enter Tryz.func3, Tryz.ntmps3
  go_wp2_with fail
  refine HLI.out.mono ?_
  rintro e w1 ⟨bv, rfl, hbv, hB1⟩
  have HBX1 := hid ((hB1.block w.heap.size (by simp)).trans HBX.out)
  have HB1 := hid (HB0.out.trans (hB1.mono (by simp)))
  have HBV := hid hbv
  clear hbv hB1 HLI HB0 HBX
  cases bv
  · go_wp2_with fail
    refine (ALV.out _ HB1.out).mono ?_
    rintro e w2 ⟨rfl, hB⟩
    have HB2 := hid (HB1.out.trans (hB.mono HB1.out.size))
    clear hB
    go_wp2
    go_ret
    exact ⟨rfl, HB2.out⟩
  have hlt := HBV.out rfl
  have hel1 : el ≤ 11000 := by rcases hlt with h | h <;> omega
  have HLT1 := hid (HLT.out (by omega) w1 HB1.out)
  obtain ⟨x0, x1, x2, x3⟩ := sysG HBX1.out
  have xl := (Array.getElem?_eq_some_iff.1 HBX1.out).1
  clear HLT HBV hlt
  go_wp2_with fail
  refine HLT1.out.mono ?_
  rintro e w2 ⟨g, cap, rfl, hlent, hB2⟩
  have HBX2 := hid ((hB2.block w.heap.size xl).trans HBX1.out)
  have HB2 := hid (HB1.out.trans (hB2.mono HB1.out.size))
  clear x0 x1 x2 x3 xl
  obtain ⟨W2, hW2⟩ : ∃ W2, W2 = w2.alloc (Obj.cells #[.int .i64 s.st, .int .i64 s.lb, .int .i64 s.s0, .slice (some ⟨g, 0, none⟩) el cap] 24) := ⟨_, rfl⟩
  have hbW : Below w2.heap.size w2 W2 := by rw [hW2]; exact (Below.refl _ _).alloc (Nat.le_refl _) _
  have HLB := hid (show W2.heap[w2.heap.size]? = some (.cells #[.int .i64 s.st, .int .i64 s.lb, .int .i64 s.s0, .slice (some ⟨g, 0, none⟩) el cap] 24 (0, 0)) by rw [hW2]; exact heap_alloc_new w2 _)
  have HL := hid (hlent.below hbW)
  obtain ⟨x0, x1, x2, x3⟩ := sysG HBX2.out
  have xl := (Array.getElem?_eq_some_iff.1 HBX2.out).1
  have HXW := hid ((hbW.block w.heap.size xl).trans HBX2.out)
  have HBW := hid (HB2.out.trans (hbW.mono HB2.out.size))
  have HW2 := hid hW2
  clear hlent hB2 HLT1 HBX1 hW2 hbW HB1
  have hHA := refHanded_no brName (by decide) (c := c) HR.out (HS.out.below HBW.out (Nat.le_refl _))
  rw [← HEL.out] at hHA
  obtain ⟨ly, hly⟩ : ∃ ly, ly = brName ++ ⟨#[32]⟩ ++ sysName ++ ⟨#[32]⟩ := ⟨_, rfl⟩
  rw [← hly] at hHA
  have HLY := hid hly
  clear hly
  unfold brName at hHA
  have HHA := hid hHA
  clear hHA
  go_wp2_with fail
  rw [← HW2.out]
  refine HHA.out.mono ?_
  rintro e w3 ⟨rfl, hB3⟩
  obtain ⟨W3, hW3⟩ : ∃ W3, W3 = w3.alloc (Obj.cells #[.int .i64 14, .int .i64 0, .int .i64 0, .string ly] 29) := ⟨_, rfl⟩
  have hbW3 : Below w3.heap.size w3 W3 := by rw [hW3]; exact (Below.refl _ _).alloc (Nat.le_refl _) _
  have hEB : W3.heap[w3.heap.size]? = some (.cells #[.int .i64 14, .int .i64 0, .int .i64 0, .string ly] 29 (0, 0)) := by rw [hW3]; exact heap_alloc_new w3 _
  have hb23 := hB3.trans (hbW3.mono hB3.size)
  have hLB3 := (hb23.block w2.heap.size (Array.getElem?_eq_some_iff.1 HLB.out).1).trans HLB.out
  have hXW3 := (hb23.block w.heap.size (Array.getElem?_eq_some_iff.1 HXW.out).1).trans HXW.out
  have hL3 := HL.out.below hb23
  have hBW3 := HBW.out.trans (hb23.mono HBW.out.size)
  have hSYS : ∀ V, Below W3.heap.size W3 V → (V.cell? ⟨w.heap.size, 0, none⟩ = some (.int .i64 s.st) ∧ V.cell? ⟨w.heap.size, 1, none⟩ = some (.int .i64 s.lb) ∧ V.cell? ⟨w.heap.size, 2, none⟩ = some (.int .i64 s.s0) ∧ V.cell? ⟨w.heap.size, 3, none⟩ = some (.slice a el c)) ∧ w.heap.size < V.heap.size ∧
      (V.cell? ⟨w2.heap.size, 0, none⟩ = some (.int .i64 s.st) ∧ V.cell? ⟨w2.heap.size, 1, none⟩ = some (.int .i64 s.lb) ∧ V.cell? ⟨w2.heap.size, 2, none⟩ = some (.int .i64 s.s0) ∧ V.cell? ⟨w2.heap.size, 3, none⟩ = some (.slice (some ⟨g, 0, none⟩) el cap)) ∧ w2.heap.size < V.heap.size ∧
      (V.cell? ⟨w3.heap.size, 0, none⟩ = some (.int .i64 14) ∧ V.cell? ⟨w3.heap.size, 1, none⟩ = some (.int .i64 0) ∧ V.cell? ⟨w3.heap.size, 2, none⟩ = some (.int .i64 0) ∧ V.cell? ⟨w3.heap.size, 3, none⟩ = some (.string ly)) ∧ w3.heap.size < V.heap.size ∧ LentS V w1.heap.size g cap s.es ∧ Below w.heap.size w V := fun V hV => by
    have h1 := (hV.block _ (Array.getElem?_eq_some_iff.1 hXW3).1).trans hXW3
    have h2 := (hV.block _ (Array.getElem?_eq_some_iff.1 hLB3).1).trans hLB3
    have h3 := (hV.block _ (Array.getElem?_eq_some_iff.1 hEB).1).trans hEB
    exact ⟨sysG h1, (Array.getElem?_eq_some_iff.1 h1).1, sysG h2, (Array.getElem?_eq_some_iff.1 h2).1, errGb h3, (Array.getElem?_eq_some_iff.1 h3).1, hL3.below hV, hBW3.trans (hV.mono hBW3.size)⟩
  have HSYS := hid hSYS; have HW3 := hid hW3
  clear hW3 hbW3 hEB hb23 hLB3 hXW3 hL3 hBW3 hSYS hB3 x0 x1 x2 x3 xl HLB HXW HL HBW HW2 HHA HBX2 HB2
  have hSL : ∀ V, Below W3.heap.size W3 V → SlAt encE 3 V (some ⟨g, 0, none⟩) g 0 s.es ∧ GErr 0 p V ∧ SlAt encE 3 V a b off s.es ∧ Below w.heap.size w V ∧ ErrType V ∧ ErrsK 14 p V := fun V hV => by
    obtain ⟨_, _, _, _, _, _, hl, hb⟩ := HSYS.out V hV
    exact ⟨SlAt.preE hl.all.1, HG.out.below hb, HS.out.below hb (Nat.le_refl _), hb, HTY.out.below hb, HE.out.below hb⟩
  have hBC : ∀ V, Below W3.heap.size W3 V → Calls Tryz.prog 11 #[.agg #[.int .i64 s.st, .int .i64 s.lb, .int .i64 s.s0, .slice (some ⟨g, 0, none⟩) s.es.length cap]] V fun e w' => ∃ v, e = .returned (.tuple #[.slice none 0 0, v]) ∧ Flt2 w' brName p v ∧ Below V.heap.size V w' := fun V hV => by
    obtain ⟨h1, h2, _, _, h3, _⟩ := hSL V hV
    exact brClassesNo2_any HR.out h2 h3 h1
  have hTO : ∀ V v, Below W3.heap.size W3 V → Flt2 V brName p v → Calls Tryz.prog 12 #[v, .agg #[.int .i64 14, .int .i64 0, .int .i64 0, .string ly]] V fun e w' => e = .returned (.bool true) ∧ Below V.heap.size V w' := fun V v hV hF => by
    obtain ⟨_, _, _, _, _, h6⟩ := hSL V hV
    obtain ⟨vi, f1, f2⟩ := hF
    have h := told_two (k := 14) (by unfold CodeIn; omega) h6 f1 f2 (by decide) (by decide)
    rw [← HLY.out] at h
    exact h
  have hSTA : ∀ V, Below W3.heap.size W3 V → Calls Tryz.prog 14 #[.agg #[.int .i64 s.st, .int .i64 s.lb, .int .i64 s.s0, .slice (some ⟨g, 0, none⟩) s.es.length cap], .agg #[.int .i64 s.st, .int .i64 s.lb, .int .i64 s.s0, .slice a s.es.length c]] V fun e w' => e = .returned (.bool true) ∧ Below V.heap.size V w' := fun V hV => by
    obtain ⟨_, _, _, _, _, _, hl, _⟩ := HSYS.out V hV
    obtain ⟨_, _, h1, _⟩ := hSL V hV
    exact stays_any hl h1 (by rw [← HEL.out]; omega)
  have hSI : ∀ V, Calls Tryz.prog 13 #[.slice none 0 0, .slice none 0 0] V fun e w' => e = .returned (.bool true) ∧ ∃ n, w' = V.drewN n := fun V => by
    have h := sameInts_any (xs := []) (ys := []) (a1 := none) (a2 := none) (b1 := 0) (o1 := 0) (b2 := 0) (o2 := 0) (c1 := 0) (c2 := 0) (slAt_nil V none 0 0) (slAt_nil V none 0 0) (by simp) (by simp)
    simp only [decide_true] at h
    exact h
  have hALV : ∀ V, Below W3.heap.size W3 V → Calls Tryz.prog 7 #[] V fun e w' => e = .returned (.bool true) ∧ Below V.heap.size V w' := fun V hV => by
    obtain ⟨_, _, _, h4, _⟩ := hSL V hV
    exact ALV.out V h4
  rw [← HEL.out] at hBC hSTA
  have HBC := hid hBC; have HTO := hid hTO; have HSTA := hid hSTA; have HALV := hid hALV; have HSI := hid hSI
  have HEND : Hid (∀ V, Below W3.heap.size W3 V → Below w.heap.size w V) := hid (fun V hV => (hSL V hV).2.2.2.1)
  obtain ⟨_, _, _, _, ⟨z0, z1, z2, z3⟩, zl, _, _⟩ := HSYS.out W3 (Below.refl _ _)
  clear hSL hBC hTO hSTA hALV hSI ALV HE HTY HS HG HLY
  have HBK := hid (Bk.start W3)
  go_upto_region 6 with fail
  rw [← HW3.out]
  go_upto_region 9 with fail
  refine at_world (fun W => Bk W3 W W3.heap.size [] []) HBK.out (fun W1 hW1 => ?_)
  replace HBK := hid hW1
  clear hW1 z0 z1 z2 z3 zl HW3
  obtain ⟨bb, hbb⟩ : ∃ bb, bb = W3.heap.size := ⟨_, rfl⟩
  rw [← hbb] at HBK ⊢
  clear hbb
  go_wp2_with fail
  go_loopw [7, 8, 9] (fun v7 _ _ wr => ∃ (k : Nat) (Z : List Rw), v7 = .int .i64 k ∧ k ≤ 2 ∧ Bk W3 wr bb Z []) (fun v7 _ _ _ => 2 - (intOf v7).toNat)
  case atStart => exact ⟨0, [], rfl, by omega, HBK.out⟩
  case round =>
    obtain ⟨k, Z, rfl, hk, hbk⟩ := hrel
    replace HBK := hid hbk
    by_cases hk2 : k < 2
    · have hkI : (k : Int) < 2 := by omega
      obtain ⟨_, _, ⟨y0, y1, y2, y3⟩, yl, _, _, _, _⟩ := HSYS.out _ hbk.bel
      clear hbk
      go_wp2_with fail
      refine (HBC.out _ HBK.out.bel).mono ?_
      rintro e w5 ⟨v5, rfl, hf, hB⟩
      obtain ⟨fb5, rfl⟩ := hf.shape
      replace HBK := hid (HBK.out.call hB)
      have HF := hid hf
      clear hf hB y0 y1 y2 y3 yl
      obtain ⟨_, _, _, _, ⟨z0, z1, z2, z3⟩, zl, _, _⟩ := HSYS.out _ HBK.out.bel
      go_wp2_with fail
      refine (HTO.out _ _ HBK.out.bel HF.out).mono ?_
      rintro e w6 ⟨rfl, hB⟩
      replace HBK := hid (HBK.out.call hB)
      clear hB z0 z1 z2 z3 zl HF
      go_wp2_with fail
      refine (HSI.out _).mono ?_
      rintro e w7 ⟨rfl, q7, hw7⟩
      have hB : Below w6.heap.size w6 w7 := by rw [hw7]; exact bdrew (Below.refl _ _)
      replace HBK := hid (HBK.out.call hB)
      clear hB hw7
      obtain ⟨⟨x0, x1, x2, x3⟩, xl, ⟨y0, y1, y2, y3⟩, yl, _, _, _, _⟩ := HSYS.out _ HBK.out.bel
      go_wp2_with fail
      refine (HSTA.out _ HBK.out.bel).mono ?_
      rintro e w8 ⟨rfl, hB⟩
      replace HBK := hid (HBK.out.call hB)
      replace HBK := hid (HBK.out.add (v := .slice none 0 0) (T := 3) (k := 1) (n := 0) (xs := []) (Below.refl _ _) (World.ownsRow_nil _ _ _ _))
      clear hB x0 x1 x2 x3 xl y0 y1 y2 y3 yl
      go_wp2_with fail
      refine (HBK.out.giveI (ys := []) rfl rfl (by omega)).mono ?_
      rintro e w9 ⟨rfl, hbk⟩
      replace HBK := hid hbk
      clear hbk
      go_wp2_with fail
      go_roundw
      case rel => exact ⟨k + 1, _, by go_num, by omega, HBK.out⟩
      case measure => simp [intOf]; omega
    · clear hbk
      go_wp2_with fail
      refine (HALV.out _ HBK.out.bel).mono ?_
      rintro e w5 ⟨rfl, hB⟩
      replace HBK := hid (HBK.out.call hB)
      clear hB
      go_wp2_with fail
      refine HBK.out.apart.mono ?_
      rintro e w6 ⟨rfl, hB⟩
      have HB6 := hid hB
      clear hB
      go_wp2_with fail
      go_ret
      exact ⟨rfl, HEND.out _ HB6.out⟩
theorem brCls_any {w : World} {p : Addr} (hE : ErrsK 14 p w) (hT : ErrType w) (hTab : Lib.TabIs Tryz.prog w "internal/strconv.uint64pow10" .u64 Lib.pow10Tab) {s : Lts} {a : Option Addr} {b off c : Nat} (hS : SlAt encE 3 w a b off s.es) (hc : s.es.length ≤ c) (hcm : c ≤ maxLen) :
    Calls Tryz.prog 3 #[.agg #[.int .i64 s.st, .int .i64 s.lb, .int .i64 s.s0, .slice a s.es.length c]] w fun e w' => e = .returned (.bool true) ∧ Below w.heap.size w w' := by
  by_cases hr : s.Right
  · exact brClsYes_any hE hT hTab hS hc hcm hr
  · exact brClsNo_any hE hT hTab hS hc hcm hr
end Go.Proofs.YtebmlhaoeldhkaaGreatDoor

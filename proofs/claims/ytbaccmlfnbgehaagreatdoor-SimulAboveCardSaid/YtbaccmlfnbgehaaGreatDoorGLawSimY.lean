/-
  Lemmas.
-/
import Derived.Test.YtbaccmlfnbgehaaGreatDoorGSimEr
import Derived.Test.YtbaccmlfnbgehaaGreatDoorGSimQ
import Derived.Test.YtbaccmlfnbgehaaGreatDoorGOrdB
import Derived.Test.YtbaccmlfnbgehaaGreatDoorGLentS
import Derived.Test.YtbaccmlfnbgehaaGreatDoorGBkEp
import Derived.Test.YtbaccmlfnbgehaaGreatDoorGRefReach
import Derived.Test.YtbaccmlfnbgehaaGreatDoorGRws
import Derived.Test.YtbaccmlfnbgehaaGreatDoorGBkRow
import Derived.Test.YtbaccmlfnbgehaaGreatDoorGBkEa
import Derived.Deep.RegionHeldLaw
import Derived.Test.YtbaccmlfnbgehaaGreatDoorLawSimE
namespace Go.Proofs.YtbaccmlfnbgehaaGreatDoor
open Go.RowKit Pl
open Lib (hid)
set_option maxRecDepth 100000 in
set_option maxHeartbeats 16000000 in
theorem simAboveY_any {w : World} {p0 p3 : Addr} (hG : GErr 15 p0 w) (hE3 : ErrsK 3 p3 w) (hTab : Tab w) {s : Lts} {n : Nat} (hr : s.Right) (hn : s.st = (n : Int)) (hn3 : n ≤ 300) {a : Option Addr} {b off c : Nat} (hS : SlAt encE 3 w a b off s.es) (hc : s.es.length ≤ c) (hcm : c ≤ maxLen) (p q : Int) :
    Calls Tryz.prog 3 #[.agg #[.int .i64 s.st, .int .i64 s.lb, .int .i64 s.s0, .slice a s.es.length c], .int .i64 p, .int .i64 q] w fun e w' => e = .returned (.bool true) ∧ Below w.heap.size w w' := by
  have hB0 := (Below.refl w.heap.size w).alloc (Nat.le_refl _) (Obj.cells #[.int .i64 s.st, .int .i64 s.lb, .int .i64 s.s0, .slice a s.es.length c] 24)
  have hbx := heap_alloc_new w (Obj.cells #[.int .i64 s.st, .int .i64 s.lb, .int .i64 s.s0, .slice a s.es.length c] 24)
  have HLI := hid (light17_any (c := c) (hS.below hB0 (Nat.le_refl _)))
  have ALV : Hid (∀ w1 : World, Below w.heap.size w w1 → Calls Tryz.prog 6 #[] w1 fun e w' => e = .returned (.bool true) ∧ Below w1.heap.size w1 w') := hid (fun w1 h1 => alive17_any (hG.below h1) (hTab.below h1))
  have HPK : Hid (∀ R, Great s.norm n R → _) := hid (fun R h => simst_yes hG hE3 hTab hr hn hn3 hS hc hcm h)
  have HGU : Hid (∀ V, Below w.heap.size w V → Calls Tryz.prog 8 #[.agg #[.int .i64 s.st, .int .i64 s.lb, .int .i64 s.s0, .slice a s.es.length c]] V fun e w' => e = .returned (.agg #[.int .i64 0, .int .i64 0, .int .i64 0, .string ⟨#[]⟩]) ∧ Below V.heap.size V w') := hid (fun V hV => by
    have h := refGuard17_yes (c := c) hr (hS.below hV (Nat.le_refl _))
    rw [if_neg (by omega)] at h
    exact h)
  have HAB : Hid (∀ V, Below w.heap.size w V → Calls Tryz.prog 9 #[.agg #[.int .i64 s.st, .int .i64 s.lb, .int .i64 s.s0, .slice a s.es.length c]] V (Ab17 s n V)) := hid (fun V hV => above17r_any hr hn hn3 (hS.below hV (Nat.le_refl _)) hc hcm)
  have HTI : Hid (∀ V v, Below w.heap.size w V → FaultSt V p3 v → Calls Tryz.prog 12 #[v, .agg #[.int .i64 3, .int .i64 0, .int .i64 0, .string (simName ++ ⟨#[32]⟩)]] V fun e w' => e = .returned (.bool true) ∧ Below V.heap.size V w') := hid (fun V v hV h => told_one (k := 3) (by unfold CodeIn; omega) (hE3.below hV) h (by decide))
  have HN := hid hn
  have HS := hid hS
  obtain ⟨el, hel⟩ : ∃ el, el = s.es.length := ⟨_, rfl⟩
  rw [← hel] at HLI hbx hB0 HGU HAB HPK ⊢
  have HB0 := hid hB0; have HBX := hid hbx; have HEL := hid hel
  clear hS hB0 hbx hel hG hE3 hTab hc hcm hr hn
  go_enter Tryz.func3, Tryz.ntmps3
  go_wp2_with fail
  refine HLI.out.mono ?_
  rintro e w1 ⟨bv, rfl, hbv, hB1⟩
  have HBX1 := hid ((hB1.block w.heap.size (by simp)).trans HBX.out)
  have HB1 := hid (HB0.out.trans (hB1.mono (by simp)))
  have HBV := hid hbv
  clear hbv hB1 HLI HB0 HBX
  cases bv
  · go_wp2_with fail
    refine (ALV.out _ HB1.out).mono ?_
    rintro e w2 ⟨rfl, hB⟩
    have HB2 := hid (HB1.out.trans (hB.mono HB1.out.size))
    clear hB
    go_wp2
    go_ret
    exact ⟨rfl, HB2.out⟩
  have hlt := HBV.out rfl
  have hel1 : el ≤ 11000 := by rcases hlt with h | h <;> omega
  have hn30 : n ≤ 300 := hn3
  clear hn3
  have hls := lent_any (c := c) (HS.out.below HB1.out (Nat.le_refl _)) (by rw [← HEL.out]; omega)
  rw [← HEL.out] at hls
  have HLS := hid hls
  obtain ⟨⟨x0, x1, x2, x3⟩, xl⟩ := (⟨sysG HBX1.out, (Array.getElem?_eq_some_iff.1 HBX1.out).1⟩ : _ ∧ _)
  clear hlt hls HBV
  go_wp2_with fail
  refine HLS.out.mono ?_
  rintro e w2 ⟨g, gc, rfl, hls2, hB2⟩
  obtain ⟨W2, hW2⟩ : ∃ W2, W2 = w2.alloc (Obj.cells #[.int .i64 s.st, .int .i64 s.lb, .int .i64 s.s0, .slice (some ⟨g, 0, none⟩) el gc] 24) := ⟨_, rfl⟩
  have hbW : Below w2.heap.size w2 W2 := by rw [hW2]; exact (Below.refl _ _).alloc (Nat.le_refl _) _
  have hLB : W2.heap[w2.heap.size]? = some (.cells #[.int .i64 s.st, .int .i64 s.lb, .int .i64 s.s0, .slice (some ⟨g, 0, none⟩) el gc] 24 (0, 0)) := by rw [hW2]; exact heap_alloc_new w2 _
  have hb12 := hB2.trans (hbW.mono hB2.size)
  have HX2 := hid ((hb12.block w.heap.size xl).trans HBX1.out)
  have HB2 := hid (HB1.out.trans (hb12.mono HB1.out.size))
  have HL2 := hid (hls2.below hbW); have HLB := hid hLB; have HW2 := hid hW2
  clear x0 x1 x2 x3 xl hls2 hB2 hbW hLB hb12 hW2 HLS HBX1
  have HGU2 := hid (HGU.out W2 HB2.out)
  obtain ⟨⟨x0, x1, x2, x3⟩, xl⟩ := (⟨sysG HX2.out, (Array.getElem?_eq_some_iff.1 HX2.out).1⟩ : _ ∧ _)
  go_upto_region 4 with fail
  rw [← HW2.out]
  obtain ⟨lb, hlb⟩ : ∃ lb, lb = w2.heap.size := ⟨_, rfl⟩
  rw [← hlb] at HLB ⊢
  clear hlb HW2
  go_wp2_with fail
  refine HGU2.out.mono ?_
  rintro e w3 ⟨rfl, hB3⟩
  obtain ⟨W3, hW3⟩ : ∃ W3, W3 = w3.alloc (Obj.cells #[.int .i64 0, .int .i64 0, .int .i64 0, .string ⟨#[]⟩] 29) := ⟨_, rfl⟩
  have hbW : Below w3.heap.size w3 W3 := by rw [hW3]; exact (Below.refl _ _).alloc (Nat.le_refl _) _
  have hEB : W3.heap[w3.heap.size]? = some (.cells #[.int .i64 0, .int .i64 0, .int .i64 0, .string ⟨#[]⟩] 29 (0, 0)) := by rw [hW3]; exact heap_alloc_new w3 _
  have hb23 := hB3.trans (hbW.mono hB3.size)
  have HX3 := hid ((hb23.block w.heap.size xl).trans HX2.out)
  have HB3 := hid (HB2.out.trans (hb23.mono HB2.out.size))
  have HL3 := hid (HL2.out.below hb23); have HLB3 := hid ((hb23.block lb (Array.getElem?_eq_some_iff.1 HLB.out).1).trans HLB.out)
  have HEB := hid hEB; have HW3 := hid hW3
  have HEW : Hid (w.heap.size ≤ w3.heap.size) := hid (by have := HB2.out.size; have := hB3.size; omega)
  clear x0 x1 x2 x3 xl hB3 hbW hEB hb23 hW3 HGU2 HX2 HB2 HL2 HLB
  go_upto_region 5 with fail
  rw [← HW3.out]
  obtain ⟨eb, heb⟩ : ∃ eb, eb = w3.heap.size := ⟨_, rfl⟩
  rw [← heb] at HEB HEW ⊢
  clear heb HW3
  obtain ⟨⟨x0, x1, x2, x3⟩, xl⟩ := (⟨sysG HX3.out, (Array.getElem?_eq_some_iff.1 HX3.out).1⟩ : _ ∧ _)
  obtain ⟨⟨y0, y1, y2, y3⟩, yl⟩ := errG17 HEB.out
  have HAB3 := hid (HAB.out W3 HB3.out)
  go_wp2_with fail
  refine HAB3.out.mono ?_
  rintro e W5 ⟨R, ia, ib, ic, rfl, hgt, hia, hbi, hB4⟩
  obtain ⟨hUP, hCL, hRC, hBL, hBX⟩ := HPK.out R hgt
  have HUP := hid hUP; have HCL := hid hCL; have HRC := hid hRC; have HBL := hid hBL; have HXI := hid hBX
  have hX5 := (hB4.block w.heap.size xl).trans HX3.out
  have hB5 := HB3.out.trans (hB4.mono HB3.out.size)
  have hL5 := HL3.out.below hB4
  have hLB5 := (hB4.block lb (Array.getElem?_eq_some_iff.1 HLB3.out).1).trans HLB3.out
  have hEB5 := (hB4.block eb yl).trans HEB.out
  have HSYS : Hid (∀ V, Below W5.heap.size W5 V → ((V.cell? ⟨w.heap.size, 0, none⟩ = some (.int .i64 s.st) ∧ V.cell? ⟨w.heap.size, 1, none⟩ = some (.int .i64 s.lb) ∧ V.cell? ⟨w.heap.size, 2, none⟩ = some (.int .i64 s.s0) ∧ V.cell? ⟨w.heap.size, 3, none⟩ = some (.slice a el c)) ∧ w.heap.size < V.heap.size) ∧
      ((V.cell? ⟨lb, 0, none⟩ = some (.int .i64 s.st) ∧ V.cell? ⟨lb, 1, none⟩ = some (.int .i64 s.lb) ∧ V.cell? ⟨lb, 2, none⟩ = some (.int .i64 s.s0) ∧ V.cell? ⟨lb, 3, none⟩ = some (.slice (some ⟨g, 0, none⟩) el gc)) ∧ lb < V.heap.size) ∧
      ((V.cell? ⟨eb, 0, none⟩ = some (.int .i64 0) ∧ V.cell? ⟨eb, 1, none⟩ = some (.int .i64 0) ∧ V.cell? ⟨eb, 2, none⟩ = some (.int .i64 0) ∧ V.cell? ⟨eb, 3, none⟩ = some (.string ⟨#[]⟩)) ∧ eb < V.heap.size)) := hid (fun V hV => by
    have h1 := (hV.block _ (Array.getElem?_eq_some_iff.1 hX5).1).trans hX5
    have h2 := (hV.block _ (Array.getElem?_eq_some_iff.1 hLB5).1).trans hLB5
    have h3 := (hV.block _ (Array.getElem?_eq_some_iff.1 hEB5).1).trans hEB5
    exact ⟨⟨sysG h1, (Array.getElem?_eq_some_iff.1 h1).1⟩, ⟨sysG h2, (Array.getElem?_eq_some_iff.1 h2).1⟩, errG17 h3⟩)
  have HEB5 : Hid (W5.heap[eb]? = some (.cells #[.int .i64 0, .int .i64 0, .int .i64 0, .string ⟨#[]⟩] 29 (0, 0))) := hid hEB5
  have HLE : Hid (∀ V, Below W5.heap.size W5 V → LentS V w1.heap.size g gc s.es ∧ SlAt encE 3 V (some ⟨g, 0, none⟩) g 0 s.es ∧ Below w.heap.size w V) := hid (fun V hV =>
    ⟨hL5.below hV, SlAt.preE (hL5.below hV).all.1, hB5.trans (hV.mono hB5.size)⟩)
  have HST : Hid (∀ V, Below W5.heap.size W5 V → Calls Tryz.prog 13 #[.agg #[.int .i64 s.st, .int .i64 s.lb, .int .i64 s.s0, .slice (some ⟨g, 0, none⟩) el gc], .agg #[.int .i64 s.st, .int .i64 s.lb, .int .i64 s.s0, .slice a el c]] V fun e w' => e = .returned (.bool true) ∧ Below V.heap.size V w') := hid (fun V hV => by
    obtain ⟨h1, _, h5⟩ := HLE.out V hV
    have h := stays_any (st := s.st) (lb := s.lb) (s0 := s.s0) (st' := s.st) (lb' := s.lb) (s0' := s.s0) (c := c) h1 (HS.out.below h5 (Nat.le_refl _)) (by rw [← HEL.out]; omega)
    rw [← HEL.out] at h
    exact h)
  have HBI : Hid (∀ V, Below W5.heap.size W5 V → BoolsIn V ib n R) := hid (fun V hV => hbi.below hV)
  have HIA := hid hia
  clear x0 x1 x2 x3 xl y0 y1 y2 y3 yl hgt hbi hia hB4 hUP hCL hRC hBL hBX hX5 hB5 hL5 hLB5 hEB5 HAB3 HX3 HB3 HL3 HLB3 HEB HPK HAB HGU
  have HBK := hid (BkF.start W5)
  go_upto_region 9 with fail
  refine at_world (fun W => BkF W5 W W5.heap.size [] []) HBK.out (fun W1 hW1 => ?_)
  replace HBK := hid hW1
  clear hW1
  obtain ⟨bb, hbb⟩ : ∃ bb, bb = W5.heap.size := ⟨_, rfl⟩
  rw [← hbb] at HBK ⊢
  clear hbb
  go_wp2_with fail
  go_loopw [11, 12, 13, 14, 15, 16] (fun v11 _ _ _ _ _ wr => ∃ (i : Nat) (Z : List Rw), v11 = .int .i64 i ∧ i ≤ 2 ∧ BkF W5 wr bb Z []) (fun v11 _ _ _ _ _ _ => 2 - (intOf v11).toNat)
  case atStart => exact ⟨0, [], rfl, by omega, HBK.out⟩
  case round => as_aux_lemma =>
    obtain ⟨i, Z, rfl, hi, hbk⟩ := hrel
    replace HBK := hid hbk
    clear hbk
    by_cases hi2 : i < 2
    · have hiI : (i : Int) < 2 := by omega
      obtain ⟨_, ⟨⟨y0, y1, y2, y3⟩, yl⟩, _⟩ := HSYS.out _ HBK.out.bel
      have HUP1 := hid (HUP.out wr (some ⟨g, 0, none⟩) g gc (HLE.out _ HBK.out.bel).2.2 (HLE.out _ HBK.out.bel).2.1)
      go_wp2_with fail
      refine HUP1.out.mono ?_
      rintro e w6 ⟨oa, oc, vf, rfl, hN⟩
      have hbk := HBK.out.join hN
      rw [List.append_nil] at hbk
      replace HBK := hid hbk
      clear hN hbk HUP1 y0 y1 y2 y3 yl
      obtain ⟨_, ⟨⟨y0, y1, y2, y3⟩, yl⟩, _⟩ := HSYS.out _ HBK.out.bel
      have HCL1 := hid (HCL.out w6 (some ⟨g, 0, none⟩) g gc (HLE.out _ HBK.out.bel).2.2 (HLE.out _ HBK.out.bel).2.1)
      go_wp2_with fail
      refine HCL1.out.mono ?_
      rintro e w7 ⟨cv, rfl, hown, hB⟩
      have hDl := D17_len R n
      obtain ⟨D, hD⟩ : ∃ D, D = D17 R n := ⟨_, rfl⟩
      rw [← hD] at hown hDl
      obtain ⟨ca, cc, cb, rfl, _, _, _, _⟩ := slAt_own (xs := D) lenI (by rw [hDl]; exact hown)
      rw [hDl] at hown ⊢
      replace HBK := hid (HBK.out.add hB hown)
      have HD := hid hD; have HDL := hid hDl
      clear hown hB HCL1 hD hDl y0 y1 y2 y3 yl
      obtain ⟨_, _, ⟨⟨z0, z1, z2, z3⟩, zl⟩⟩ := HSYS.out _ HBK.out.bel
      go_wp2_with fail
      refine (told_nil 0 0 ⟨#[]⟩ w7).mono ?_
      rintro e w8 ⟨rfl, hB⟩
      replace HBK := hid (HBK.out.call hB)
      clear hB z0 z1 z2 z3 zl
      obtain ⟨_, _, ⟨⟨z0, z1, z2, z3⟩, zl⟩⟩ := HSYS.out _ HBK.out.bel
      go_wp2_with fail
      refine (told_nil 0 0 ⟨#[]⟩ w8).mono ?_
      rintro e w9 ⟨rfl, hB⟩
      replace HBK := hid (HBK.out.call hB)
      clear hB z0 z1 z2 z3 zl
      obtain ⟨⟨⟨x0, x1, x2, x3⟩, xl⟩, ⟨⟨y0, y1, y2, y3⟩, yl⟩, _⟩ := HSYS.out _ HBK.out.bel
      have HST1 := hid (HST.out w9 HBK.out.bel)
      have hnn : ((n : Int) != (n : Int)) = false := by simp
      go_wp2_with fail
      refine HST1.out.mono ?_
      rintro e w10 ⟨rfl, hB⟩
      replace HBK := hid (HBK.out.call hB)
      clear hB x0 x1 x2 x3 xl y0 y1 y2 y3 yl HST1
      go_wp2_with fail
      go_loopw [16] (fun v16 wx => ∃ q : Nat, v16 = .int .i64 q ∧ q ≤ n ∧ BkF W5 wx bb Z (⟨3, 1, .slice ca n cc, n, D.flatMap encI⟩ :: (wRowsI n vf (fun j => intsOf (idsN (R j) n)) ++ [wOuterV oa oc n vf]))) (fun v16 _ => n - (intOf v16).toNat)
      case atStart => exact ⟨0, rfl, Nat.zero_le _, HBK.out⟩
      case round => as_aux_lemma =>
          obtain ⟨q, rfl, hq, hbk⟩ := hrel
          replace HBK := hid hbk
          by_cases hqn : q < n
          · have hqI : (q : Int) < (n : Int) := by omega
            have ho := hbk.own (r := wOuterV oa oc n vf) (.inr (by simp))
            obtain ⟨ga, rfl, c0, cl⟩ := outS_cell (vs := vf) ho hqn
            have hrw := hbk.own (r := ⟨3, 1, vf q, (intsOf (idsN (R q) n)).length, (intsOf (idsN (R q) n)).flatMap encI⟩) (.inr (by
              simp only [List.mem_cons, List.mem_append]
              exact .inr (.inl (List.mem_map.2 ⟨q, List.mem_range.2 hqn, rfl⟩))))
            dsimp only at hrw
            obtain ⟨ra, rc, rbk, hre, _, _, hrs, _⟩ := slAt_own lenI hrw
            obtain ⟨bq, hb0, hbr⟩ := (HBI.out _ hbk.bel).at_ q hqn
            have hbl := World.block_lt_of_cell? _ _ hb0
            obtain rfl := HIA.out (by omega)
            rw [hre] at c0
            obtain ⟨LL, hLL⟩ : ∃ LL, LL = intsOf (idsN (R q) n) := ⟨_, rfl⟩
            have hll40 : LL.length ≤ 300 := by rw [hLL, intsOf_len]; exact Nat.le_trans (idsN_le _ _) hn30
            rw [← hLL] at c0 hrs
            obtain ⟨rl, hrl⟩ : ∃ rl, rl = LL.length := ⟨_, rfl⟩
            have HRO : Hid (∀ V, Below wr.heap.size wr V → Calls Tryz.prog 15 #[.slice (some ⟨bq, 0, none⟩) n n] V fun e w' => ∃ v, e = .returned v ∧ w'.ownsRow V.heap.size 3 1 v LL.length (LL.flatMap encI) ∧ Below V.heap.size V w') := hid (fun V hV => by
              rw [hLL]
              exact refRow_any (hbr.of_block (hV.block _ hbr.lt)) (by omega))
            have HSM : Hid (∀ (V : World) (B : Nat) (va : Value), Below wr.heap.size wr V → V.ownsRow B 3 1 va LL.length (LL.flatMap encI) → Calls Tryz.prog 14 #[.slice ra rl rc, va] V fun e w' => e = .returned (.bool true) ∧ ∃ m, w' = V.drewN m) := hid (fun V B va hV ho => by
              obtain ⟨ca, cc, cb, rfl, _, _, hcs, _⟩ := slAt_own lenI ho
              have h := sameInts_any (c1 := rc) (c2 := cc) (hrs.below hV (Nat.le_refl _)) hcs (by omega) (by omega)
              rw [← hrl] at h ⊢
              simpa using h)
            rw [← hrl] at c0
            have HKP : Hid (∀ V, Below wr.heap.size wr V → (V.cell? ⟨ga, q, none⟩ = some (.slice ra rl rc) ∧ ga < V.heap.size) ∧ (V.cell? ⟨ib, q, none⟩ = some (.slice (some ⟨bq, 0, none⟩) n n) ∧ ib < V.heap.size) ∧ Below wr.heap.size wr V) := hid (fun V hV =>
              ⟨⟨by rw [hV.cell (p := ⟨ga, q, none⟩) cl]; exact c0, Nat.lt_of_lt_of_le cl hV.size⟩, ⟨by rw [hV.cell (p := ⟨ib, q, none⟩) hbl]; exact hb0, Nat.lt_of_lt_of_le hbl hV.size⟩, hV⟩)
            clear hbk ho c0 cl hrw hre hrs hb0 hbr hbl hLL hll40 hrl
            go_wp2_with fail
            refine wp_region_held_drew (S := (fun V => (V.cell? ⟨ga, q, none⟩ = some (.slice ra rl rc) ∧ ga < V.heap.size) ∧ (V.cell? ⟨ib, q, none⟩ = some (.slice (some ⟨bq, 0, none⟩) n n) ∧ ib < V.heap.size) ∧ Below wr.heap.size wr V)) (by kernel_rfl) (by (try dsimp only); exact HKP.out _ (Below.refl _ _).drew) (fun hHeld => ?_)
            refine wpAnyH_take (i := 0) (v := ?_) rfl (by kernel_rfl) (by kernel_rfl) (by kernel_rfl) (fun _ _ _ h => h) (Or.inl ⟨by rfl, ?_⟩) (by assumption) ?_
            rotate_left
            · intro w hSw
              try dsimp only at hSw
              go_simp
              try with_reducible rfl
            try simp only [List.getElem_toArray, List.getElem_cons_zero, Act.put, List.setIfInBounds_toArray, List.set_cons_zero, List.set_cons_succ]
            refine wpAnyH_take (i := 1) (v := ?_) rfl (by kernel_rfl) (by kernel_rfl) (by kernel_rfl) (fun _ _ _ h => h) (Or.inl ⟨by rfl, ?_⟩) (by assumption) ?_
            rotate_left
            · intro w hSw
              try dsimp only at hSw
              go_simp
              try with_reducible rfl
            try simp only [List.getElem_toArray, List.getElem_cons_zero, List.getElem_cons_succ, Act.put, List.setIfInBounds_toArray, List.set_cons_zero, List.set_cons_succ]
            refine wpAnyH_take (i := 2) (v := ?_) rfl (by kernel_rfl) (by kernel_rfl) (by kernel_rfl) (fun _ _ _ h => h) (Or.inl ⟨by rfl, ?_⟩) (by assumption) ?_
            rotate_left
            · intro w hSw
              try dsimp only at hSw
              go_simp
              try with_reducible rfl
            try simp only [List.getElem_toArray, List.getElem_cons_zero, List.getElem_cons_succ, Act.put, List.setIfInBounds_toArray, List.set_cons_zero, List.set_cons_succ]
            refine wpAnyH_take (i := 3) (v := ?_) rfl (by kernel_rfl) (by kernel_rfl) (by kernel_rfl) (fun _ _ _ h => h) (Or.inl ⟨by rfl, ?_⟩) (by assumption) ?_
            rotate_left
            · intro w hSw
              try dsimp only at hSw
              go_simp
              try with_reducible rfl
            try simp only [List.getElem_toArray, List.getElem_cons_zero, List.getElem_cons_succ, Act.put, List.setIfInBounds_toArray, List.set_cons_zero, List.set_cons_succ]
            refine wpAnyH_take (i := 4) (v := ?_) rfl (by kernel_rfl) (by kernel_rfl) (by kernel_rfl) (fun _ _ _ h => h) (Or.inl ⟨by rfl, ?_⟩) (by assumption) ?_
            rotate_left
            · intro w hSw
              try dsimp only at hSw
              go_simp
              try with_reducible rfl
            try simp only [List.getElem_toArray, List.getElem_cons_zero, List.getElem_cons_succ, Act.put, List.setIfInBounds_toArray, List.set_cons_zero, List.set_cons_succ]
            refine wpAnyH_take (i := 5) (v := ?_) rfl (by kernel_rfl) (by kernel_rfl) (by kernel_rfl) (fun _ _ _ h => h) (Or.inl ⟨by rfl, ?_⟩) (by assumption) ?_
            rotate_left
            · intro w hSw
              try dsimp only at hSw
              go_simp
              try with_reducible rfl
            try simp only [List.getElem_toArray, List.getElem_cons_zero, List.getElem_cons_succ, Act.put, List.setIfInBounds_toArray, List.set_cons_zero, List.set_cons_succ]
            refine wpAnyH_take (i := 6) (v := ?_) rfl (by kernel_rfl) (by kernel_rfl) (by kernel_rfl) (fun _ _ _ h => h) (Or.inl ⟨by rfl, ?_⟩) (by assumption) ?_
            rotate_left
            · intro w hSw
              try dsimp only at hSw
              go_simp
              try with_reducible rfl
            try simp only [List.getElem_toArray, List.getElem_cons_zero, List.getElem_cons_succ, Act.put, List.setIfInBounds_toArray, List.set_cons_zero, List.set_cons_succ]
            refine wpAnyH_take (i := 7) (v := ?_) rfl (by kernel_rfl) (by kernel_rfl) (by kernel_rfl) (fun _ _ _ h => h) (Or.inl ⟨by rfl, ?_⟩) (by assumption) ?_
            rotate_left
            · intro w hSw
              try dsimp only at hSw
              go_simp
              try with_reducible rfl
            try simp only [List.getElem_toArray, List.getElem_cons_zero, List.getElem_cons_succ, Act.put, List.setIfInBounds_toArray, List.set_cons_zero, List.set_cons_succ]
            refine wpAnyH_ready (rs := [8]) (by kernel_rfl) (by simp) ?_
            refine AllReadyH.cons rfl (fun K hK => ?_) AllReadyH.nil
            go_simp
            refine (HRO.out _ (Below.refl _ _).drew).mono ?_
            rintro e wa ⟨va, rfl, hoa, hBa⟩
            have HBa := hid ((Below.refl wr.heap.size wr).drew.trans hBa)
            have HOA := hid hoa
            clear hoa hBa
            refine hK.out _ _ (by (try dsimp only); exact HKP.out _ HBa.out) (fun hHeld => ?_)
            clear hK K
            try simp only [List.getElem_toArray, List.getElem_cons_zero, List.getElem_cons_succ, Act.put, List.setIfInBounds_toArray, List.set_cons_zero, List.set_cons_succ]
            refine wpAnyH_ready (rs := [9]) (by kernel_rfl) (by simp) ?_
            refine AllReadyH.cons rfl (fun K hK => ?_) AllReadyH.nil
            go_simp
            refine (HSM.out wa _ va HBa.out HOA.out).mono ?_
            rintro e wb ⟨rfl, mm, hwb⟩
            have HBb : Hid (Below wr.heap.size wr wb) := hid (by rw [hwb]; exact bdrew HBa.out)
            clear hwb
            refine hK.out _ _ (by (try dsimp only); exact HKP.out _ HBb.out) (fun hHeld => ?_)
            clear hK K
            try simp only [List.getElem_toArray, List.getElem_cons_zero, List.getElem_cons_succ, Act.put, List.setIfInBounds_toArray, List.set_cons_zero, List.set_cons_succ]
            refine wpAnyH_take (i := 10) (v := ?_) rfl (by kernel_rfl) (by kernel_rfl) (by kernel_rfl) (fun _ _ _ h => h) (Or.inl ⟨by rfl, ?_⟩) (by assumption) ?_
            rotate_left
            · intro w hSw
              try dsimp only at hSw
              go_simp
              try with_reducible rfl
            try simp only [List.getElem_toArray, List.getElem_cons_zero, List.getElem_cons_succ, Act.put, List.setIfInBounds_toArray, List.set_cons_zero, List.set_cons_succ]
            refine wpAnyH_done (by kernel_rfl) ?_ _
            go_wp2_with fail
            go_roundw
            case rel => exact ⟨q + 1, by go_num, by omega, HBK.out.call HBb.out⟩
            case measure => simp [intOf]; omega
          · obtain rfl : n = q := by omega
            obtain ⟨⟨⟨x0, x1, x2, x3⟩, xl⟩, _, ⟨⟨z0, z1, z2, z3⟩, zl⟩⟩ := HSYS.out _ hbk.bel
            have HRC1 := hid (HRC.out wr (HLE.out _ hbk.bel).2.2)
            clear hbk
            go_wp2_with fail
            refine HRC1.out.mono ?_
            rintro e w11 ⟨dv, rfl, hown, hB⟩
            rw [← HD.out] at hown
            replace HBK := hid (HBK.out.call hB)
            have hDl := HDL.out
            obtain ⟨da, dc, db, rfl, _, _, hds, _⟩ := slAt_own (xs := D) lenI (by rw [hDl]; exact hown)
            have hoc := HBK.out.own (r := ⟨3, 1, .slice ca n cc, n, D.flatMap encI⟩) (.inr (by simp))
            obtain ⟨ca2, cc2, cb2, hce, _, _, hcs, _⟩ := slAt_own (xs := D) lenI (by rw [hDl]; exact hoc)
            simp only [Value.slice.injEq] at hce
            have hsi := sameInts_any (c1 := cc) (c2 := dc) hcs hds (by omega) (by omega)
            rw [← hce.1, hDl] at hsi
            simp only [decide_true] at hsi
            rw [hDl]
            have HSI := hid hsi
            clear hown hB hoc hce hcs hds hsi hDl x0 x1 x2 x3 xl z0 z1 z2 z3 zl HRC1
            obtain ⟨_, _, ⟨⟨z0, z1, z2, z3⟩, zl⟩⟩ := HSYS.out _ HBK.out.bel
            go_wp2_with fail
            refine HSI.out.mono ?_
            rintro e w12 ⟨rfl, mm, hwb⟩
            have hB : Below w11.heap.size w11 w12 := by rw [hwb]; exact bdrew (Below.refl _ _)
            replace HBK := hid (HBK.out.call hB)
            clear hwb hB HSI z0 z1 z2 z3 zl
            obtain ⟨_, _, ⟨⟨z0, z1, z2, z3⟩, zl⟩⟩ := HSYS.out _ HBK.out.bel
            replace HBK := hid (HBK.out.perm (R' := wRowsI n vf (fun j => intsOf (idsN (R j) n)) ++ wOuterV oa oc n vf :: [⟨3, 1, .slice ca n cc, n, D.flatMap encI⟩]) (by
              have h := List.perm_append_comm (l₁ := [(⟨3, 1, .slice ca n cc, n, D.flatMap encI⟩ : Rw)]) (l₂ := wRowsI n vf (fun j => intsOf (idsN (R j) n)) ++ [wOuterV oa oc n vf])
              simpa using h))
            have hrv := HBK.out.rowV (by omega) (fun q _ => by rw [intsOf_len]; have := idsN_le (R q) n; omega)
            have HRV := hid hrv
            clear hrv
            go_wp2_with fail
            refine HRV.out.mono ?_
            rintro e w13 ⟨rfl, Z', hbk, _⟩
            replace HBK := hid hbk
            clear hbk HRV z0 z1 z2 z3 zl
            go_wp2_with fail
            refine (HBK.out.giveI rfl HDL.out.symm (by omega)).mono ?_
            rintro e w14 ⟨rfl, hbk⟩
            replace HBK := hid hbk
            clear hbk
            go_wp2_with fail
            go_roundw
            case rel => exact ⟨i + 1, _, by go_num, by omega, HBK.out⟩
            case measure => simp [intOf]; omega
    · obtain ⟨⟨⟨y0, y1, y2, y3⟩, yl⟩, _⟩ := HSYS.out _ HBK.out.bel
      have hlw := (HLE.out _ HBK.out.bel).2.2
      by_cases hpq : 0 ≤ p ∧ p < n ∧ 0 ≤ q ∧ q < n
      · obtain ⟨hp0, hpn, hq0, hqn⟩ := hpq
        obtain ⟨pn, rfl⟩ : ∃ pn : Nat, p = (pn : Int) := ⟨p.toNat, by omega⟩
        obtain ⟨qn, rfl⟩ : ∃ qn : Nat, q = (qn : Int) := ⟨q.toNat, by omega⟩
        have HBL1 := hid (HBL.out wr hlw pn qn (by omega) (by omega))
        have d1 : decide ((pn : Int) < 0) = false := by simp
        have d2 : decide ((n : Int) ≤ (pn : Int)) = false := by simp; omega
        have d3 : decide ((qn : Int) < 0) = false := by simp
        have d4 : decide ((n : Int) ≤ (qn : Int)) = false := by simp; omega
        clear hlw
        go_wp2_with fail
        refine HBL1.out.mono ?_
        rintro e w6 ⟨rfl, hB⟩
        replace HBK := hid (HBK.out.call hB)
        clear hB HBL1 y0 y1 y2 y3 yl
        obtain ⟨⟨⟨x0, x1, x2, x3⟩, xl⟩, _, ⟨⟨z0, z1, z2, z3⟩, zl⟩⟩ := HSYS.out _ HBK.out.bel
        rw [HN.out] at x0
        have HALV1 := hid (ALV.out _ (HLE.out _ HBK.out.bel).2.2)
        go_wp2_with fail
        refine HALV1.out.mono ?_
        rintro e w7 ⟨rfl, hB⟩
        replace HBK := hid (HBK.out.call hB)
        clear hB HALV1 x0 x1 x2 x3 xl z0 z1 z2 z3 zl
        go_wp2_with fail
        refine HBK.out.apartF.mono ?_
        rintro e w8 ⟨rfl, hB, _⟩
        have HB8 := hid hB
        clear hB
        obtain ⟨_, _, ⟨⟨z0, z1, z2, z3⟩, zl⟩⟩ := HSYS.out _ HB8.out
        go_wp2_with fail
        refine (told_nil 0 0 ⟨#[]⟩ w8).mono ?_
        rintro e w9 ⟨rfl, hB⟩
        replace HB8 := hid (HB8.out.trans (hB.mono HB8.out.size))
        clear hB z0 z1 z2 z3 zl
        obtain ⟨_, _, ⟨⟨z0, z1, z2, z3⟩, zl⟩⟩ := HSYS.out _ HB8.out
        obtain ⟨bq, hb0, hbr⟩ := (HBI.out _ HB8.out).at_ pn (by omega)
        obtain rfl := HIA.out (by omega)
        have hbl := World.block_lt_of_cell? _ _ hb0
        have c1 := hbr.cell (i := qn) (by omega)
        have c2 := hbr.lt
        obtain ⟨r, hr⟩ : ∃ r, r = R pn qn := ⟨_, rfl⟩
        rw [← hr] at c1 ⊢
        have hrr : (r == r) = true := by simp
        clear hr hbr
        go_wp2_with fail
        go_ret
        exact ⟨rfl, (HLE.out _ HB8.out).2.2⟩
      · have HXI1 := hid (HXI.out wr hlw p q hpq)
        clear hlw
        have hbd := bad_any simName (by decide) 3
        unfold simName at hbd
        go_wp2_with fail
        refine HXI1.out.mono ?_
        rintro e w6 ⟨fv, rfl, hF, hB⟩
        replace HBK := hid (HBK.out.call hB)
        have HF := hid hF
        clear hB hF HXI1 y0 y1 y2 y3 yl
        obtain ⟨⟨⟨x0, x1, x2, x3⟩, xl⟩, _, ⟨⟨z0, z1, z2, z3⟩, zl⟩⟩ := HSYS.out _ HBK.out.bel
        rw [HN.out] at x0
        have key : decide (p < 0) = true ∨ (decide (p < 0) = false ∧ decide ((n : Int) ≤ p) = true) ∨ (decide (p < 0) = false ∧ decide ((n : Int) ≤ p) = false ∧ decide (q < 0) = true) ∨ (decide (p < 0) = false ∧ decide ((n : Int) ≤ p) = false ∧ decide (q < 0) = false ∧ decide ((n : Int) ≤ q) = true) := by
          simp only [decide_eq_true_eq, decide_eq_false_iff_not]
          omega
        rcases key with d1 | ⟨d1, d2⟩ | ⟨d1, d2, d3⟩ | ⟨d1, d2, d3, d4⟩
        all_goals
          go_wp2_with fail
          refine (hbd w6).mono ?_
          rintro e w7 ⟨rfl, hB⟩
          replace HBK := hid (HBK.out.call hB)
          replace HF := hid (FaultSt.below HF.out hB)
          clear hB x0 x1 x2 x3 xl z0 z1 z2 z3 zl
          obtain ⟨_, _, ⟨⟨z0, z1, z2, z3⟩, zl⟩⟩ := HSYS.out _ HBK.out.bel
          have HE7 := hid ((HBK.out.bel.block eb (Array.getElem?_eq_some_iff.1 HEB5.out).1).trans HEB5.out)
          have zf0 : w7.frozen? ⟨eb, 0, none⟩ = false := by simp [World.frozen?, HE7.out]
          have zf1 : w7.frozen? ⟨eb, 1, none⟩ = false := by simp [World.frozen?, HE7.out]
          have zf2 : w7.frozen? ⟨eb, 2, none⟩ = false := by simp [World.frozen?, HE7.out]
          have zf3 : w7.frozen? ⟨eb, 3, none⟩ = false := by simp [World.frozen?, HE7.out]
          go_upto_region 28 with fail
          clear zf0 zf1 zf2 zf3 z0 z1 z2 z3 zl
          obtain ⟨W9, hW9⟩ : ∃ W9, W9 = (((w7.setCell ⟨eb, 0, none⟩ (.int .i64 3)).setCell ⟨eb, 1, none⟩ (.int .i64 0)).setCell ⟨eb, 2, none⟩ (.int .i64 0)).setCell ⟨eb, 3, none⟩ (.string (simName ++ ⟨#[32]⟩)) := ⟨_, rfl⟩
          obtain ⟨W6, hW6⟩ : ∃ W6, W6 = (((W5.setCell ⟨eb, 0, none⟩ (.int .i64 3)).setCell ⟨eb, 1, none⟩ (.int .i64 0)).setCell ⟨eb, 2, none⟩ (.int .i64 0)).setCell ⟨eb, 3, none⟩ (.string (simName ++ ⟨#[32]⟩)) := ⟨_, rfl⟩
          have hel : eb < W5.heap.size := (Array.getElem?_eq_some_iff.1 HEB5.out).1
          have hls : ∀ (V : World) (a : Addr) (u : Value), (V.setCell a u).heap.size = V.heap.size := fun V a u => by simp [World.setCell]
          have HBK9 : Hid (BkF W6 W9 bb Z []) := hid (by
            rw [hW6, hW9]
            exact (((HBK.out.low hel _).low (by rw [hls]; exact hel) _).low (by rw [hls, hls]; exact hel) _).low (by rw [hls, hls, hls]; exact hel) _)
          have HE6 : Hid (W6.heap[eb]? = some (.cells #[.int .i64 3, .int .i64 0, .int .i64 0, .string (simName ++ ⟨#[32]⟩)] 29 (0, 0))) := hid (by rw [hW6]; exact errPut HEB5.out)
          have HB6 : Hid (Below w.heap.size w W6) := hid (by
            rw [hW6]
            exact ((((HLE.out W5 (Below.refl _ _)).2.2.setCell HEW.out _).setCell HEW.out _).setCell HEW.out _).setCell HEW.out _)
          have HF9 : Hid (FaultSt W9 p3 fv) := hid (HF.out.kept (fun k cs hk => by
            have hne : k ≠ eb := by
              rintro rfl
              have := hk.1.symm.trans HE7.out
              simp at this
            rw [hW9, Below.heap_setCell _ _ _ _ hne, Below.heap_setCell _ _ _ _ hne, Below.heap_setCell _ _ _ _ hne, Below.heap_setCell _ _ _ _ hne]
            exact hk.1))
          first | rw [← hW9] | (unfold simName at hW9; rw [← hW9])
          clear hW9 hW6 hel hls HF HBK HE7
          have HALV1 := hid (ALV.out W9 (HB6.out.trans (HBK9.out.bel.mono HB6.out.size)))
          go_wp2_with fail
          refine HALV1.out.mono ?_
          rintro e w10 ⟨rfl, hB⟩
          replace HBK9 := hid (HBK9.out.call hB)
          replace HF9 := hid (FaultSt.below HF9.out hB)
          clear hB HALV1
          go_wp2_with fail
          refine HBK9.out.apartF.mono ?_
          rintro e w11 ⟨rfl, hB, hkp⟩
          replace HF9 := hid (FaultSt.kept HF9.out hkp)
          have HB11 := hid hB
          clear hB hkp
          obtain ⟨⟨z0, z1, z2, z3⟩, zl⟩ := errG17 ((HB11.out.block eb (Array.getElem?_eq_some_iff.1 HE6.out).1).trans HE6.out)
          have HTI1 := hid (HTI.out w11 fv (HB6.out.trans (HB11.out.mono HB6.out.size)) HF9.out)
          go_wp2_with fail
          refine HTI1.out.mono ?_
          rintro e w12 ⟨rfl, hB⟩
          replace HB11 := hid (HB11.out.trans (hB.mono HB11.out.size))
          clear hB z0 z1 z2 z3 zl HTI1
          obtain ⟨⟨z0, z1, z2, z3⟩, zl⟩ := errG17 ((HB11.out.block eb (Array.getElem?_eq_some_iff.1 HE6.out).1).trans HE6.out)
          go_wp2_with fail
          go_ret
          exact ⟨rfl, HB6.out.trans (HB11.out.mono HB6.out.size)⟩
end Go.Proofs.YtbaccmlfnbgehaaGreatDoor
namespace Go.Proofs.YtbaccmlfnbgehaaGreatDoor
open Go.RowKit Pl
theorem simAbove_any {w : World} {p2 p3 pe : Addr} (hE2 : ErrsK 2 p2 w) (hE3 : ErrsK 3 p3 w) (hE : ErrsK 14 pe w) (hT : ErrType w) (hTab : Tab w) {s : Lts} {a : Option Addr} {b off c : Nat} (hS : SlAt encE 3 w a b off s.es) (hc : s.es.length ≤ c) (hcm : c ≤ maxLen) (p q : Int) :
    Calls Tryz.prog 3 #[.agg #[.int .i64 s.st, .int .i64 s.lb, .int .i64 s.s0, .slice a s.es.length c], .int .i64 p, .int .i64 q] w fun e w' => e = .returned (.bool true) ∧ Below w.heap.size w w' := by
  by_cases h : s.Right ∧ s.st ≤ 300
  · have h0 := h.1.st0
    exact simAboveY_any (n := s.st.toNat) hE.sys hE3 hTab h.1 (by omega) (by omega) hS hc hcm p q
  · exact simAboveE_any hE hE2 hT hTab h hS p q
end Go.Proofs.YtbaccmlfnbgehaaGreatDoor

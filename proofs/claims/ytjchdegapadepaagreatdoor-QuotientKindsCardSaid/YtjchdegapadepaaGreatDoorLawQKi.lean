/-
  Lemmas.
-/
import Derived.Test.YtjchdegapadepaaGreatDoorGCanon
import Derived.Test.YtjchdegapadepaaGreatDoorGQuoB
import Derived.Test.YtjchdegapadepaaGreatDoorGQuoY
import Derived.Test.YtjchdegapadepaaGreatDoorGQuoN
import Derived.Test.YtjchdegapadepaaGreatDoorGWkP
import Derived.Test.YtjchdegapadepaaGreatDoorRf12C
import Derived.Test.YtjchdegapadepaaGreatDoorRf14
import Derived.Test.YtjchdegapadepaaGreatDoorGRefRight
import Derived.Test.YtjchdegapadepaaGreatDoorGTold
import Derived.Test.YtjchdegapadepaaGreatDoorGSameInts
import Derived.Test.YtjchdegapadepaaGreatDoorGTauK
import Derived.Test.YtjchdegapadepaaGreatDoorGForms
import Derived.Deep.RegionHeldLaw
open List renaming getElem_toArray -> qga, getElem_cons_zero -> qgz, getElem_cons_succ -> qgs, setIfInBounds_toArray -> qgt, set_cons_zero -> qgx, set_cons_succ -> qgy
set_option maxHeartbeats 16000000
set_option maxRecDepth 100000
namespace Go.Proofs.YtjchdegapadepaaGreatDoor
namespace Pl
theorem u0m {inert : Bool} {s : Lts} {n : Nat} {C D : Nat -> Int} (h : fl n C = fl n D) : of14 inert s n C = of14 inert s n D := by unfold of14; rw [h]
theorem k1y {s : Lts} {n : Nat} {C D : Nat -> Int} (h : fl n C = fl n D) : fl n (fun j => toI (quoD s (fl n C)) (C j)) = fl n (fun j => toI (quoD s (fl n D)) (D j)) := by
 have e : ∀ F : Nat -> Int, fl n (fun j => toI (quoD s (fl n F)) (F j)) = (fl n F).map (toI (quoD s (fl n F))) := fun F => by
   unfold fl; rw [List.map_map]; rfl
 rw [e, e, h]
theorem of14_len (inert : Bool) (s : Lts) (n : Nat) (C : Nat -> Int) : (of14 inert s n C).es.length <= s.es.length := by
 unfold of14
 by_cases h : n = 0
 · rw [if_pos h]; simp
 · rw [if_neg h]; exact quo_lenI inert s (fl n C)
end Pl
open Go.RowKit Pl
open Lib (hid)
def QK (G : (Nat -> Int) -> Prop) (inert : Bool) (s : Lts) (n : Nat) (w : World) (e : Ending) (w' : World) : Prop :=
  ∃ (X : Lts) (ts : List Int) (ea ta : Option Addr) (eb ec tb tc : Nat), (∀ C, G C -> X = of14 inert s.norm n C /\ ts = fl n (fun j => toI (quoD s.norm (fl n C)) (C j))) /\ ts.length = n /\
    e = .returned (.tuple #[.agg #[.int .i64 X.st, .int .i64 X.lb, .int .i64 X.s0, .slice ea X.es.length ec], .slice ta n tc, .nilIface]) /\ SlAt encE 3 w' ea eb 0 X.es /\ SlAt encI 1 w' ta tb 0 ts /\ Below w.heap.size w w'
theorem p2e {G : (Nat -> Int) -> Prop} {inert : Bool} {s : Lts} {w : World} {e : Ending} {w' : World} (h : QuoZero s.lb w e w') : QK G inert s 0 w e w' := by
 obtain ⟨ea, ta, ec, tc, he, hB⟩ := h
 exact ⟨⟨0, s.lb, 0, []⟩, [], ea, ta, 0, ec, 0, tc, fun C _ => ⟨rfl, rfl⟩, rfl, he, k0m _ _ _ _, k0m _ _ _ _, hB⟩
theorem p2f {p : Addr} {s : Lts} {n : Nat} (h : s.Right) (hn : s.st = (n : Int)) (hb : n * s.es.length <= 100000) {a : Option Addr} {b off c : Nat} {w : World} (hG : GErr 10 p w) (hS : SlAt encE 3 w a b off s.es) :
    Calls Tryz.prog 6 #[.agg #[.int .i64 s.st, .int .i64 s.lb, .int .i64 s.s0, .slice a s.es.length c]] w (QK (fun C => Big s n C /\ canon (fl n C) = fl n C) false s n w) := by
 by_cases hn0 : n = 0
 · subst hn0
   exact (x1u h hn hG hS).mono (fun _ _ h => p2e h)
 · (
 refine (x0i h hn (by omega) hb hG hS).mono ?_
 rintro e w' ⟨C, ⟨hbig, hcan⟩, ea, ta, eb, ec, tb, tc, he, h1, h2, _, _, h3⟩
 rw [<- z0o] at he h1
 refine ⟨quoSI false s.norm (fl n C), fl n (fun j => toI (quoD s.norm (fl n C)) (C j)), ea, ta, eb, ec, tb, tc, fun D hD => ?_, j0g _ _, he, h1, h2, h3⟩
 have e := big_eq9 hbig hcan hD.1 hD.2
 refine ⟨?_, k1y e⟩
 rw [<- u0m e]
 unfold of14
 rw [if_neg hn0])
theorem p2g {p : Addr} {s : Lts} {n : Nat} (h : s.Right) (hn : s.st = (n : Int)) (hb : n * s.es.length <= 100000) {a : Option Addr} {b off c : Nat} {w : World} (hG : GErr 10 p w) (htab : Lib.TabIs Tryz.prog w "internal/strconv.uint64pow10" .u64 Lib.pow10Tab) (hel : s.es.length <= 900) (hS : SlAt encE 3 w a b off s.es) :
    Calls Tryz.prog 7 #[.agg #[.int .i64 s.st, .int .i64 s.lb, .int .i64 s.s0, .slice a s.es.length c]] w (QK (fun C => BrBig s n C /\ canon (fl n C) = fl n C) true s n w) := by
 by_cases hn0 : n = 0
 · subst hn0
   exact (x1v h hn hG htab hS).mono (fun _ _ h => p2e h)
 · (
 refine (y0w h hn (by omega) hb hG htab hel hS).mono ?_
 rintro e w' ⟨C, ⟨hbig, hcan⟩, ea, ta, eb, ec, tb, tc, he, h1, h2, _, _, h3⟩
 refine ⟨quoSI true s.norm (fl n C), fl n (fun j => toI (quoD s.norm (fl n C)) (C j)), ea, ta, eb, ec, tb, tc, fun D hD => ?_, j0g _ _, he, h1, h2, h3⟩
 have e := big_eq12 h hn hbig hD.1 hcan hD.2
 refine ⟨?_, k1y e⟩
 rw [<- u0m e]
 unfold of14
 rw [if_neg hn0])
theorem errGq {w : World} {B : Nat} {x y z : Int} {u : ByteArray} (h : w.heap[B]? = some (.cells #[.int .i64 x, .int .i64 y, .int .i64 z, .string u] 33 (0, 0))) :
    w.cell? ⟨B, 0, none⟩ = some (.int .i64 x) /\ w.cell? ⟨B, 1, none⟩ = some (.int .i64 y) /\ w.cell? ⟨B, 2, none⟩ = some (.int .i64 z) /\ w.cell? ⟨B, 3, none⟩ = some (.string u) := by
 refine ⟨?_, ?_, ?_, ?_⟩ <;> simp [World.cell?, h]
theorem p1u {w : World} {p : Addr} (hE : ErrsK 14 p w) (hT : ErrType w) (hTab : Lib.TabIs Tryz.prog w "internal/strconv.uint64pow10" .u64 Lib.pow10Tab) {s : Lts} {a : Option Addr} {b off c : Nat} (hS : SlAt encE 3 w a b off s.es) (hc : s.es.length <= c) (hcm : c <= maxLen) (hr : s.Right) :
    Calls Tryz.prog 3 #[.agg #[.int .i64 s.st, .int .i64 s.lb, .int .i64 s.s0, .slice a s.es.length c]] w fun e w' => e = .returned (.bool true) /\ Below w.heap.size w w' := by
 have hG : GErr 10 p w := hE.sys
 have hB0 := (Below.refl w.heap.size w).alloc (Nat.le_refl _) (Obj.cells #[.int .i64 s.st, .int .i64 s.lb, .int .i64 s.s0, .slice a s.es.length c] 24)
 have hbx := heap_alloc_new w (Obj.cells #[.int .i64 s.st, .int .i64 s.lb, .int .i64 s.s0, .slice a s.es.length c] 24)
 have HLI := hid (z0y (c := c) (hS.below hB0 (Nat.le_refl _)))
 have hTB := Lib.tabBelow_of_tabIs hTab
 have HE := hid hE; have HTY := hid hT; have HS := hid hS; have HG := hid hG; have HTAB := hid hTB
 have ALV : Hid (∀ w1 : World, Below w.heap.size w w1 -> Calls Tryz.prog 5 #[] w1 fun e w' => e = .returned (.bool true) /\ Below w1.heap.size w1 w') := hid (fun w1 h1 => v0r (hG.below h1))
 have HC := hid hc; have HCM := hid hcm; have HR := hid hr
 obtain ⟨el, hel⟩ : ∃ el, el = s.es.length := ⟨_, rfl⟩
 rw [<- hel] at HLI hbx hB0 HC ⊢
 have HB0 := hid hB0; have HBX := hid hbx; have HEL := hid hel
 clear hE hG hT hS hB0 hbx hc hcm hel hr hTab hTB
 go_enter Tryz.func3, Tryz.ntmps3
 go_wp2_with fail
 refine HLI.out.mono ?_
 rintro e w1 ⟨bv, rfl, hbv, hB1⟩
 have HBX1 := hid ((hB1.block w.heap.size (by simp)).trans HBX.out)
 have HB1 := hid (HB0.out.trans (hB1.mono (by simp)))
 have HBV := hid hbv
 clear hbv hB1 HLI HB0 HBX
 cases bv
 · (
 go_wp2_with fail
 refine (ALV.out _ HB1.out).mono ?_
 rintro e w2 ⟨rfl, hB⟩
 have HB2 := hid (HB1.out.trans (hB.mono HB1.out.size))
 clear hB
 go_wp2
 go_ret
 exact ⟨rfl, HB2.out⟩)
 have hXC : ∀ V, Below w1.heap.size w1 V -> (V.cell? ⟨w.heap.size, 0, none⟩ = some (.int .i64 s.st) /\ V.cell? ⟨w.heap.size, 1, none⟩ = some (.int .i64 s.lb) /\ V.cell? ⟨w.heap.size, 2, none⟩ = some (.int .i64 s.s0) /\ V.cell? ⟨w.heap.size, 3, none⟩ = some (.slice a el c)) /\ w.heap.size < V.heap.size := fun V hV => by
   have h := (hV.block _ (Array.getElem?_eq_some_iff.1 HBX1.out).1).trans HBX1.out
   exact ⟨sysG h, (Array.getElem?_eq_some_iff.1 h).1⟩
 have HXC := hid hXC
 obtain ⟨⟨x0, x1, x2, x3⟩, xl⟩ := hXC w1 (Below.refl _ _)
 clear hXC HBX1
 have hlt : s.st <= 60 /\ el <= 400 := (HBV.out rfl).resolve_right (fun h => h.1 HR.out)
 have hst := HR.out.st0
 obtain ⟨n, hn⟩ : ∃ n : Nat, s.st = (n : Int) := ⟨s.st.toNat, by omega⟩
 have hn1 : n <= 1000 := by omega
 have hmul : n * s.es.length <= 100000 := by
   have h1 : n * s.es.length <= 60 * 400 := Nat.mul_le_mul (by omega) (by rw [<- HEL.out]; exact hlt.2)
   omega
 have hel9 : s.es.length <= 900 := by rw [<- HEL.out]; omega
 have hQS := p2f (c := c) HR.out hn hmul (HG.out.below HB1.out) (HS.out.below HB1.out (Nat.le_refl _))
 have hQB : ∀ V, Below w.heap.size w V -> Calls Tryz.prog 7 #[.agg #[.int .i64 s.st, .int .i64 s.lb, .int .i64 s.s0, .slice a s.es.length c]] V (QK (fun C => BrBig s n C /\ canon (fl n C) = fl n C) true s n V) := fun V hV =>
   p2g HR.out hn hmul (HG.out.below hV) (HTAB.out V hV) hel9 (HS.out.below hV (Nat.le_refl _))
 have hHA : ∀ V, Below w.heap.size w V -> Calls Tryz.prog 8 #[.string quoName, .agg #[.int .i64 s.st, .int .i64 s.lb, .int .i64 s.s0, .slice a s.es.length c]] V _ := fun V hV => j1l quoName (c := c) HR.out (HS.out.below hV (Nat.le_refl _))
 have hRC : ∀ V, Below w.heap.size w V -> Calls Tryz.prog 11 #[.agg #[.int .i64 s.st, .int .i64 s.lb, .int .i64 s.s0, .slice a s.es.length c]] V fun e w' => ∃ (cb : Nat) (C : Nat -> Int), e = .returned (.slice (some ⟨cb, 0, none⟩) n n) /\ SlAt encI 1 w' (some ⟨cb, 0, none⟩) cb 0 (fl n C) /\ Big s n C /\ canon (fl n C) = fl n C /\ V.heap.size <= cb /\ Below V.heap.size V w' := fun V hV =>
   z0m HR.out hn (HS.out.below hV (Nat.le_refl _)) (by rw [<- HEL.out]; exact HC.out) HCM.out
 have hRB : ∀ V, Below w.heap.size w V -> Calls Tryz.prog 12 #[.agg #[.int .i64 s.st, .int .i64 s.lb, .int .i64 s.s0, .slice a s.es.length c]] V fun e w' => ∃ (cb : Nat) (C : Nat -> Int), e = .returned (.slice (some ⟨cb, 0, none⟩) n n) /\ SlAt encI 1 w' (some ⟨cb, 0, none⟩) cb 0 (fl n C) /\ BrBig s n C /\ canon (fl n C) = fl n C /\ V.heap.size <= cb /\ Below V.heap.size V w' := fun V hV =>
   y0u HR.out hn (HS.out.below hV (Nat.le_refl _)) (by rw [<- HEL.out]; exact HC.out) HCM.out
 have hOF : ∀ V, Below w.heap.size w V -> ∀ (inert : Bool) (C : Nat -> Int) (cb : Nat), canon (fl n C) = fl n C -> SlAt encI 1 V (some ⟨cb, 0, none⟩) cb 0 (fl n C) -> ∀ (X : Lts) (ts : List Int), (X = of14 inert s.norm n C /\ ts = fl n (fun j => toI (quoD s.norm (fl n C)) (C j))) -> Calls Tryz.prog 10 #[.agg #[.int .i64 s.st, .int .i64 s.lb, .int .i64 s.s0, .slice a s.es.length c], .slice (some ⟨cb, 0, none⟩) n n, .bool inert] V fun e w' => ∃ (ea : Option Addr) (eb ec tb : Nat), e = .returned (.tuple #[.agg #[.int .i64 X.st, .int .i64 X.lb, .int .i64 X.s0, .slice ea X.es.length ec], .slice (some ⟨tb, 0, none⟩) n n]) /\ X.es.length <= 10000 /\ SlAt encE 3 w' ea eb 0 X.es /\ SlAt encI 1 w' (some ⟨tb, 0, none⟩) tb 0 ts /\ (0 < X.es.length -> V.heap.size <= eb) /\ V.heap.size <= tb /\ Below V.heap.size V w' := fun V hV inert C cb hca hcs X ts hX => by (
 refine (x1q HR.out hn inert (fun j hj => x1e hca hj) (HS.out.below hV (Nat.le_refl _)) (by rw [<- HEL.out]; exact HC.out) HCM.out hcs).mono ?_
 rintro e w' ⟨ea, eb, ec, tb, h1, h2, h3, h5, h6, h4⟩
 have hl := of14_len inert s.norm n C
 have hl2 := HR.out.norm.st0
 rw [<- hX.1] at h1 h2 h5 hl
 rw [<- hX.2] at h3
 exact ⟨ea, eb, ec, tb, h1, by omega, h2, h3, h5, h6, h4⟩)
 rw [<- HEL.out] at hQS hQB hHA hRC hRB hOF
 have HQS := hid hQS; have HQB := hid hQB; have HHA := hid hHA; have HRC := hid hRC; have HRB := hid hRB; have HOF := hid hOF; have HN := hid hn
 clear hlt hst hn hmul hel9 hQS hQB hHA hRC hRB hOF HBV HE HTY HS HG HTAB
 go_wp2_with fail
 refine HQS.out.mono ?_
 rintro e w2 ⟨X, ts, ea, ta, eb, ec, tb, tc, hX, hts, rfl, hse, hst, hB2⟩
 have HX := hid hX; have HTS := hid hts; have HSE := hid hse; have HST := hid hst
 have HB2 := hid hB2
 have HBW2 := hid (HB1.out.trans (hB2.mono HB1.out.size))
 clear hX hts hse hst hB2 HQS x0 x1 x2 x3 xl
 obtain ⟨⟨x0, x1, x2, x3⟩, xl⟩ := HXC.out w2 HB2.out
 obtain ⟨W2, hW2⟩ : ∃ W2, W2 = w2.alloc (Obj.cells #[.int .i64 X.st, .int .i64 X.lb, .int .i64 X.s0, .slice ea X.es.length ec] 24) := ⟨_, rfl⟩
 have hb2 : Below w2.heap.size w2 W2 := by rw [hW2]; exact (Below.refl _ _).alloc (Nat.le_refl _) _
 have HA3 := hid (show W2.heap[w2.heap.size]? = some (.cells #[.int .i64 X.st, .int .i64 X.lb, .int .i64 X.s0, .slice ea X.es.length ec] 24 (0, 0)) by rw [hW2]; exact heap_alloc_new w2 _)
 have HBV2 := hid (HB2.out.trans (hb2.mono HB2.out.size))
 have HQB2 := hid (HQB.out W2 (HBW2.out.trans (hb2.mono HBW2.out.size)))
 have HW2 := hid hW2; have Hb2 := hid hb2
 clear hW2 hb2 HQB
 go_wp2_with fail
 rw [<- HW2.out]
 refine HQB2.out.mono ?_
 rintro e w3 ⟨Y, us, fa, ua, fb, fc, ub, uc, hY, hus, rfl, hsf, hsu, hB3⟩
 have HY := hid hY; have HUS := hid hus; have HSF := hid hsf; have HSU := hid hsu; have HB3 := hid hB3
 have HBV3 := hid (HBV2.out.trans (hB3.mono HBV2.out.size))
 clear hY hus hsf hsu hB3 HQB2 x0 x1 x2 x3 xl HW2
 obtain ⟨⟨x0, x1, x2, x3⟩, xl⟩ := HXC.out w3 HBV3.out
 obtain ⟨W3, hW3⟩ : ∃ W3, W3 = w3.alloc (Obj.cells #[.int .i64 Y.st, .int .i64 Y.lb, .int .i64 Y.s0, .slice fa Y.es.length fc] 24) := ⟨_, rfl⟩
 have hb3 : Below w3.heap.size w3 W3 := by rw [hW3]; exact (Below.refl _ _).alloc (Nat.le_refl _) _
 have HA6 := hid (show W3.heap[w3.heap.size]? = some (.cells #[.int .i64 Y.st, .int .i64 Y.lb, .int .i64 Y.s0, .slice fa Y.es.length fc] 24 (0, 0)) by rw [hW3]; exact heap_alloc_new w3 _)
 have HBX3 := hid (HBV3.out.trans (hb3.mono HBV3.out.size))
 have HHA3 := hid (HHA.out W3 (HB1.out.trans (HBX3.out.mono HB1.out.size)))
 unfold quoName at HHA3
 have HW3 := hid hW3; have Hb3 := hid hb3
 clear hW3 hb3 HHA
 go_wp2_with fail
 rw [<- HW3.out]
 refine HHA3.out.mono ?_
 rintro e w4 ⟨rfl, hB4⟩
 obtain ⟨W4, hW4⟩ : ∃ W4, W4 = w4.alloc (Obj.cells #[.int .i64 0, .int .i64 0, .int .i64 0, .string ⟨#[]⟩] 33) := ⟨_, rfl⟩
 have hb4 : Below w4.heap.size w4 W4 := by rw [hW4]; exact (Below.refl _ _).alloc (Nat.le_refl _) _
 have hA9 : W4.heap[w4.heap.size]? = some (.cells #[.int .i64 0, .int .i64 0, .int .i64 0, .string ⟨#[]⟩] 33 (0, 0)) := by rw [hW4]; exact heap_alloc_new w4 _
 have hb34 := hB4.trans (hb4.mono hB4.size)
 have hA6 := (hb34.block _ (Array.getElem?_eq_some_iff.1 HA6.out).1).trans HA6.out
 have hb24 := (HB3.out.trans (Hb3.out.mono HB3.out.size)).trans (hb34.mono (by have := HB3.out.size; have := Hb3.out.size; omega))
 have hA3 := (hb24.block _ (Array.getElem?_eq_some_iff.1 HA3.out).1).trans HA3.out
 have hse4 := (HSE.out.below Hb2.out (Nat.le_refl _)).below hb24 (Nat.le_refl _)
 have hst4 := (HST.out.below Hb2.out (Nat.le_refl _)).below hb24 (Nat.le_refl _)
 have hsf4 := (HSF.out.below Hb3.out (Nat.le_refl _)).below hb34 (Nat.le_refl _)
 have hsu4 := (HSU.out.below Hb3.out (Nat.le_refl _)).below hb34 (Nat.le_refl _)
 have hbx4 := HBX3.out.trans (hb34.mono HBX3.out.size)
 have hbw4 := HB1.out.trans (hbx4.mono HB1.out.size)
 obtain ⟨A3, hA3e⟩ : ∃ A3, A3 = w2.heap.size := ⟨_, rfl⟩
 obtain ⟨A6, hA6e⟩ : ∃ A6, A6 = w3.heap.size := ⟨_, rfl⟩
 obtain ⟨A9, hA9e⟩ : ∃ A9, A9 = w4.heap.size := ⟨_, rfl⟩
 rw [<- hA3e] at hA3; rw [<- hA6e] at hA6; rw [<- hA9e] at hA9
 have HK : Hid (∀ V, Below W4.heap.size W4 V -> ((V.cell? ⟨w.heap.size, 0, none⟩ = some (.int .i64 s.st) /\ V.cell? ⟨w.heap.size, 1, none⟩ = some (.int .i64 s.lb) /\ V.cell? ⟨w.heap.size, 2, none⟩ = some (.int .i64 s.s0) /\ V.cell? ⟨w.heap.size, 3, none⟩ = some (.slice a el c)) /\ w.heap.size < V.heap.size)) := hid (fun V hV => HXC.out V (hbx4.trans (hV.mono hbx4.size)))
 have HKQ : Hid (∀ V, Below W4.heap.size W4 V -> (V.cell? ⟨A3, 0, none⟩ = some (.int .i64 X.st) /\ V.cell? ⟨A3, 1, none⟩ = some (.int .i64 X.lb) /\ V.cell? ⟨A3, 2, none⟩ = some (.int .i64 X.s0) /\ V.cell? ⟨A3, 3, none⟩ = some (.slice ea X.es.length ec)) /\ A3 < V.heap.size /\ (V.cell? ⟨A6, 0, none⟩ = some (.int .i64 Y.st) /\ V.cell? ⟨A6, 1, none⟩ = some (.int .i64 Y.lb) /\ V.cell? ⟨A6, 2, none⟩ = some (.int .i64 Y.s0) /\ V.cell? ⟨A6, 3, none⟩ = some (.slice fa Y.es.length fc)) /\ A6 < V.heap.size /\
     (V.cell? ⟨A9, 0, none⟩ = some (.int .i64 0) /\ V.cell? ⟨A9, 1, none⟩ = some (.int .i64 0) /\ V.cell? ⟨A9, 2, none⟩ = some (.int .i64 0) /\ V.cell? ⟨A9, 3, none⟩ = some (.string ⟨#[]⟩)) /\ A9 < V.heap.size) := hid (fun V hV => by
   have h1 := (hV.block _ (Array.getElem?_eq_some_iff.1 hA3).1).trans hA3
   have h2 := (hV.block _ (Array.getElem?_eq_some_iff.1 hA6).1).trans hA6
   have h3 := (hV.block _ (Array.getElem?_eq_some_iff.1 hA9).1).trans hA9
   exact ⟨sysG h1, (Array.getElem?_eq_some_iff.1 h1).1, sysG h2, (Array.getElem?_eq_some_iff.1 h2).1, errGq h3, (Array.getElem?_eq_some_iff.1 h3).1⟩)
 have HKS : Hid (∀ V, Below W4.heap.size W4 V -> SlAt encE 3 V ea eb 0 X.es /\ SlAt encI 1 V ta tb 0 ts /\ SlAt encE 3 V fa fb 0 Y.es /\ SlAt encI 1 V ua ub 0 us /\ Below w.heap.size w V) := hid (fun V hV => ⟨hse4.below hV (Nat.le_refl _), hst4.below hV (Nat.le_refl _), hsf4.below hV (Nat.le_refl _), hsu4.below hV (Nat.le_refl _), hbw4.trans (hV.mono hbw4.size)⟩)
 have HW4 := hid hW4; have HA3E := hid hA3e; have HA6E := hid hA6e; have HA9E := hid hA9e
 clear hW4 hb4 hA9 hb34 hA6 hb24 hA3 hse4 hst4 hsf4 hsu4 hbx4 hbw4 hA3e hA6e hA9e hB4 x0 x1 x2 x3 xl HW3 HHA3 HSE HST HSF HSU HA3 HA6 Hb2 Hb3 HB2 HB3 HBV2 HBV3 HBX3 HBW2 HXC HB1
 go_upto_region 6 with fail
 rw [<- HW4.out, <- HA3E.out, <- HA6E.out, <- HA9E.out]
 clear HW4 HA3E HA6E HA9E
 obtain ⟨⟨q0, q1, q2, q3⟩, ql, ⟨r0, r1, r2, r3⟩, rl, ⟨z0, z1, z2, z3⟩, zl⟩ := HKQ.out W4 (Below.refl _ _)
 clear q0 q1 q2 q3 ql r0 r1 r2 r3 rl
 go_wp2_with fail
 refine (z1a 0 0 ⟨#[]⟩ _).mono ?_
 rintro e w5 ⟨rfl, hB5⟩
 have HB5 := hid hB5
 clear hB5 z0 z1 z2 z3 zl
 obtain ⟨_, _, _, _, ⟨z0, z1, z2, z3⟩, zl⟩ := HKQ.out w5 HB5.out
 go_wp2_with fail
 refine (z1a 0 0 ⟨#[]⟩ _).mono ?_
 rintro e w6 ⟨rfl, hB6⟩
 have HB6 := hid (HB5.out.trans (hB6.mono HB5.out.size))
 clear hB6 z0 z1 z2 z3 zl HB5
 obtain ⟨_, _, _, _, ⟨z0, z1, z2, z3⟩, zl⟩ := HKQ.out w6 HB6.out
 go_upto_region 10 with fail
 clear z0 z1 z2 z3 zl
 have HUP : Hid (∀ V, Below W4.heap.size W4 V -> Below w.heap.size w V) := hid (fun V hV => (HKS.out V hV).2.2.2.2)
 go_cut [10, 11] from 54 to 60 (fun v10 v11 wx => ∃ (A10 : Nat) (ga : Option Addr) (gb gc hb : Nat), v10 = .pointer (some ⟨A10, 0, none⟩) /\ v11 = .slice (some ⟨hb, 0, none⟩) n n /\ wx.heap[A10]? = some (.cells #[.int .i64 X.st, .int .i64 X.lb, .int .i64 X.s0, .slice ga X.es.length gc] 24 (0, 0)) /\ X.es.length <= 10000 /\ SlAt encE 3 wx ga gb 0 X.es /\ SlAt encI 1 wx (some ⟨hb, 0, none⟩) hb 0 ts /\ Below W4.heap.size W4 wx)
 case first => (
 have HBD : Hid (Below W4.heap.size W4 w6.drew) := hid HB6.out.drew
 refine wp_region_held_drew (S := (fun V => ((V.cell? ⟨w.heap.size, 0, none⟩ = some (.int .i64 s.st) /\ V.cell? ⟨w.heap.size, 1, none⟩ = some (.int .i64 s.lb) /\ V.cell? ⟨w.heap.size, 2, none⟩ = some (.int .i64 s.s0) /\ V.cell? ⟨w.heap.size, 3, none⟩ = some (.slice a el c)) /\ w.heap.size < V.heap.size))) (by kernel_rfl) (by (try dsimp only); exact HK.out _ HBD.out) (fun hHeld => ?_)
 refine qT 0 (v := ?_) ?_ ?_
 rotate_left
 · intro w hSw; (try dsimp only at hSw); go_simp; try with_reducible rfl
 try simp only [qga, qgz, Act.put, qgt, qgx, qgy]
 refine qT 1 (v := ?_) ?_ ?_
 rotate_left
 · intro w hSw; (try dsimp only at hSw); go_simp; try with_reducible rfl
 try simp only [qga, qgz, qgs, Act.put, qgt, qgx, qgy]
 refine wpAnyH_ready (rs := [2, 7]) (by kernel_rfl) (by simp) ?_
 refine AllReadyH.cons rfl (fun K hK => ?_) (AllReadyH.cons rfl (fun K hK => ?_) AllReadyH.nil)
 go_simp
 refine (HRC.out _ (HUP.out _ HBD.out)).mono ?_
 rintro e wa ⟨qb, C, rfl, hcs, hbig, hca, _, hBa⟩
 have HBa := hid (HBD.out.trans (hBa.mono HBD.out.size))
 have HCS := hid hcs; have HCA := hid hca; have HXC1 := hid (HX.out C ⟨hbig, hca⟩)
 clear hcs hbig hca hBa
 refine hK.out _ _ (by (try dsimp only); exact HK.out _ HBa.out) (fun hHeld => ?_)
 clear hK K
 try simp only [qga, qgz, qgs, Act.put, qgt, qgx, qgy]
 refine wpAnyH_ready (rs := [3, 7]) (by kernel_rfl) (by simp) ?_
 refine AllReadyH.cons rfl (fun K hK => ?_) (AllReadyH.cons rfl (fun K hK => ?_) AllReadyH.nil)
 go_simp
 refine (HOF.out _ (HUP.out _ HBa.out) false C qb HCA.out HCS.out X ts HXC1.out).mono ?_
 rintro e wb ⟨ga, gb, gc, hb, rfl, hxl, hge, hgt, hg1, hg2, hBb⟩
 have HBb := hid (HBa.out.trans (hBb.mono HBa.out.size))
 have HGE1 := hid hge; have HGT1 := hid hgt
 clear hge hgt hg1 hg2 hBb
 refine hK.out _ _ (by (try dsimp only); exact HK.out _ HBb.out) (fun hHeld => ?_)
 clear hK K
 try simp only [qga, qgz, qgs, Act.put, qgt, qgx, qgy]
 refine qT 4 (v := ?_) ?_ ?_
 rotate_left
 · intro w hSw; (try dsimp only at hSw); go_simp; try with_reducible rfl
 try simp only [qga, qgz, qgs, Act.put, qgt, qgx, qgy]
 refine qT 5 (v := ?_) ?_ ?_
 rotate_left
 · intro w hSw; (try dsimp only at hSw); go_simp; try with_reducible rfl
 try simp only [qga, qgz, qgs, Act.put, qgt, qgx, qgy]
 refine qT 6 (v := ?_) ?_ ?_
 rotate_left
 · intro w hSw; (try dsimp only at hSw); go_simp; try with_reducible rfl
 try simp only [qga, qgz, qgs, Act.put, qgt, qgx, qgy]
 refine wpAnyH_ready (rs := [7]) (by kernel_rfl) (by simp) ?_
 refine AllReadyH.cons rfl (fun K hK => ?_) AllReadyH.nil
 go_simp
 refine hK.out _ _ (by (try dsimp only); exact HK.out _ (HBb.out.alloc HBb.out.size _)) (fun hHeld => ?_)
 clear hK K
 try simp only [qga, qgz, qgs, Act.put, qgt, qgx, qgy]
 refine wpAnyH_ready (rs := [8]) (by kernel_rfl) (by simp) ?_
 refine AllReadyH.cons rfl (fun K hK => ?_) AllReadyH.nil
 go_simp
 refine hK.out _ _ (by (try dsimp only); exact HK.out _ (HBb.out.alloc HBb.out.size _)) (fun hHeld => ?_)
 clear hK K
 try simp only [qga, qgz, qgs, Act.put, qgt, qgx, qgy]
 refine qT 9 (v := ?_) ?_ ?_
 rotate_left
 · intro w hSw; (try dsimp only at hSw); go_simp; try with_reducible rfl
 try simp only [qga, qgz, qgs, Act.put, qgt, qgx, qgy]
 refine wpAnyH_done (by kernel_rfl) ?_ _
 go_wp2_with fail
 go_meet
 exact ⟨wb.heap.size, ga, gb, gc, hb, rfl, rfl, heap_alloc_new wb _, hxl, HGE1.out.alloc _, HGT1.out.alloc _, HBb.out.alloc HBb.out.size _⟩
 go_simp
 have HZ : Hid ((wa.alloc (Obj.cells #[.int .i64 0, .int .i64 0, .int .i64 0, .slice none 0 0] 24)).heap[wa.heap.size]? = some (.cells #[.int .i64 0, .int .i64 0, .int .i64 0, .slice none 0 0] 24 (0, 0)) /\ True) := hid ⟨heap_alloc_new (wa) (Obj.cells #[.int .i64 0, .int .i64 0, .int .i64 0, .slice none 0 0] 24), trivial⟩
 replace HZ := hid HZ.out.1
 have HBz := hid (HBa.out.alloc HBa.out.size (Obj.cells #[.int .i64 0, .int .i64 0, .int .i64 0, .slice none 0 0] 24))
 have HAL : Hid (W4.heap.size <= wa.heap.size) := hid HBa.out.size
 replace HCS := hid (HCS.out.alloc (Obj.cells #[.int .i64 0, .int .i64 0, .int .i64 0, .slice none 0 0] 24))
 refine hK.out _ _ (by (try dsimp only); exact HK.out _ HBz.out) (fun hHeld => ?_)
 clear hK K
 try simp only [qga, qgz, qgs, Act.put, qgt, qgx, qgy]
 refine wpAnyH_ready (rs := [3]) (by kernel_rfl) (by simp) ?_
 refine AllReadyH.cons rfl (fun K hK => ?_) AllReadyH.nil
 go_simp
 refine (HOF.out _ (HUP.out _ HBz.out) false C qb HCA.out HCS.out X ts HXC1.out).mono ?_
 rintro e wb ⟨ga, gb, gc, hb, rfl, hxl, hge, hgt, hg1, hg2, hBb⟩
 have HBb := hid (HBz.out.trans (hBb.mono HBz.out.size))
 have HGE1 := hid hge; have HGT1 := hid hgt
 have HLT := hid (Array.getElem?_eq_some_iff.1 HZ.out).1
 have HG1 : Hid ((0 < X.es.length -> gb ≠ wa.heap.size) /\ hb ≠ wa.heap.size) := hid ⟨fun h => by have h1 := hg1 h; have h2 := HLT.out; omega, by have h2 := HLT.out; omega⟩
 replace HZ := hid ((hBb.block _ (Array.getElem?_eq_some_iff.1 HZ.out).1).trans HZ.out)
 clear hge hgt hg1 hg2 hBb
 refine hK.out _ _ (by (try dsimp only); exact HK.out _ HBb.out) (fun hHeld => ?_)
 clear hK K
 try simp only [qga, qgz, qgs, Act.put, qgt, qgx, qgy]
 refine qT 4 (v := ?_) ?_ ?_
 rotate_left
 · intro w hSw; (try dsimp only at hSw); go_simp; try with_reducible rfl
 try simp only [qga, qgz, qgs, Act.put, qgt, qgx, qgy]
 refine qT 5 (v := ?_) ?_ ?_
 rotate_left
 · intro w hSw; (try dsimp only at hSw); go_simp; try with_reducible rfl
 try simp only [qga, qgz, qgs, Act.put, qgt, qgx, qgy]
 refine qT 6 (v := ?_) ?_ ?_
 rotate_left
 · intro w hSw; (try dsimp only at hSw); go_simp; try with_reducible rfl
 try simp only [qga, qgz, qgs, Act.put, qgt, qgx, qgy]
 refine wpAnyH_ready (rs := [8]) (by kernel_rfl) (by simp) ?_
 refine AllReadyH.cons rfl (fun K hK => ?_) AllReadyH.nil
 obtain ⟨z0, z1, z2, z3⟩ := sysG HZ.out
 have zl := (Array.getElem?_eq_some_iff.1 HZ.out).1
 have zf0 : wb.frozen? ⟨wa.heap.size, 0, none⟩ = false := by simp [World.frozen?, HZ.out]
 have zf1 : wb.frozen? ⟨wa.heap.size, 1, none⟩ = false := by simp [World.frozen?, HZ.out]
 have zf2 : wb.frozen? ⟨wa.heap.size, 2, none⟩ = false := by simp [World.frozen?, HZ.out]
 have zf3 : wb.frozen? ⟨wa.heap.size, 3, none⟩ = false := by simp [World.frozen?, HZ.out]
 go_simp
 refine hK.out _ _ (by (try dsimp only); exact HK.out _ ((((HBb.out.setCell HAL.out _).setCell HAL.out _).setCell HAL.out _).setCell HAL.out _)) (fun hHeld => ?_)
 clear hK K
 try simp only [qga, qgz, qgs, Act.put, qgt, qgx, qgy]
 refine qT 9 (v := ?_) ?_ ?_
 rotate_left
 · intro w hSw; (try dsimp only at hSw); go_simp; try with_reducible rfl
 try simp only [qga, qgz, qgs, Act.put, qgt, qgx, qgy]
 refine wpAnyH_done (by kernel_rfl) ?_ _
 go_wp2_with fail
 go_meet
 exact ⟨wa.heap.size, ga, gb, gc, hb, rfl, rfl, heap_setCell_same _ _ 3 _ _ _ (heap_setCell_same _ _ 2 _ _ _ (heap_setCell_same _ _ 1 _ _ _ (heap_setCell_same _ _ 0 _ _ _ HZ.out))), hxl, (((HGE1.out.setOther HG1.out.1 _).setOther HG1.out.1 _).setOther HG1.out.1 _).setOther HG1.out.1 _, (((HGT1.out.setOther (fun _ => HG1.out.2) _).setOther (fun _ => HG1.out.2) _).setOther (fun _ => HG1.out.2) _).setOther (fun _ => HG1.out.2) _, (((HBb.out.setCell HAL.out _).setCell HAL.out _).setCell HAL.out _).setCell HAL.out _⟩
 go_simp
 have HZ : Hid ((w6.drew.alloc (Obj.cells #[.int .i64 0, .int .i64 0, .int .i64 0, .slice none 0 0] 24)).heap[w6.heap.size]? = some (.cells #[.int .i64 0, .int .i64 0, .int .i64 0, .slice none 0 0] 24 (0, 0)) /\ True) := hid ⟨heap_alloc_new (w6.drew) (Obj.cells #[.int .i64 0, .int .i64 0, .int .i64 0, .slice none 0 0] 24), trivial⟩
 replace HZ := hid HZ.out.1
 have HBz := hid (HBD.out.alloc HBD.out.size (Obj.cells #[.int .i64 0, .int .i64 0, .int .i64 0, .slice none 0 0] 24))
 have HAL : Hid (W4.heap.size <= w6.heap.size) := hid HBD.out.size
 refine hK.out _ _ (by (try dsimp only); exact HK.out _ HBz.out) (fun hHeld => ?_)
 clear hK K
 try simp only [qga, qgz, qgs, Act.put, qgt, qgx, qgy]
 refine wpAnyH_ready (rs := [2]) (by kernel_rfl) (by simp) ?_
 refine AllReadyH.cons rfl (fun K hK => ?_) AllReadyH.nil
 go_simp
 refine (HRC.out _ (HUP.out _ HBz.out)).mono ?_
 rintro e wa ⟨qb, C, rfl, hcs, hbig, hca, _, hBa⟩
 have HBa := hid (HBz.out.trans (hBa.mono HBz.out.size))
 have HCS := hid hcs; have HCA := hid hca; have HXC1 := hid (HX.out C ⟨hbig, hca⟩)
 replace HZ := hid ((hBa.block _ (Array.getElem?_eq_some_iff.1 HZ.out).1).trans HZ.out)
 clear hcs hbig hca hBa
 refine hK.out _ _ (by (try dsimp only); exact HK.out _ HBa.out) (fun hHeld => ?_)
 clear hK K
 try simp only [qga, qgz, qgs, Act.put, qgt, qgx, qgy]
 refine wpAnyH_ready (rs := [3]) (by kernel_rfl) (by simp) ?_
 refine AllReadyH.cons rfl (fun K hK => ?_) AllReadyH.nil
 go_simp
 refine (HOF.out _ (HUP.out _ HBa.out) false C qb HCA.out HCS.out X ts HXC1.out).mono ?_
 rintro e wb ⟨ga, gb, gc, hb, rfl, hxl, hge, hgt, hg1, hg2, hBb⟩
 have HBb := hid (HBa.out.trans (hBb.mono HBa.out.size))
 have HGE1 := hid hge; have HGT1 := hid hgt
 have HLT := hid (Array.getElem?_eq_some_iff.1 HZ.out).1
 have HG1 : Hid ((0 < X.es.length -> gb ≠ w6.heap.size) /\ hb ≠ w6.heap.size) := hid ⟨fun h => by have h1 := hg1 h; have h2 := HLT.out; omega, by have h2 := HLT.out; omega⟩
 replace HZ := hid ((hBb.block _ (Array.getElem?_eq_some_iff.1 HZ.out).1).trans HZ.out)
 clear hge hgt hg1 hg2 hBb
 refine hK.out _ _ (by (try dsimp only); exact HK.out _ HBb.out) (fun hHeld => ?_)
 clear hK K
 try simp only [qga, qgz, qgs, Act.put, qgt, qgx, qgy]
 refine qT 4 (v := ?_) ?_ ?_
 rotate_left
 · intro w hSw; (try dsimp only at hSw); go_simp; try with_reducible rfl
 try simp only [qga, qgz, qgs, Act.put, qgt, qgx, qgy]
 refine qT 5 (v := ?_) ?_ ?_
 rotate_left
 · intro w hSw; (try dsimp only at hSw); go_simp; try with_reducible rfl
 try simp only [qga, qgz, qgs, Act.put, qgt, qgx, qgy]
 refine qT 6 (v := ?_) ?_ ?_
 rotate_left
 · intro w hSw; (try dsimp only at hSw); go_simp; try with_reducible rfl
 try simp only [qga, qgz, qgs, Act.put, qgt, qgx, qgy]
 refine wpAnyH_ready (rs := [8]) (by kernel_rfl) (by simp) ?_
 refine AllReadyH.cons rfl (fun K hK => ?_) AllReadyH.nil
 obtain ⟨z0, z1, z2, z3⟩ := sysG HZ.out
 have zl := (Array.getElem?_eq_some_iff.1 HZ.out).1
 have zf0 : wb.frozen? ⟨w6.heap.size, 0, none⟩ = false := by simp [World.frozen?, HZ.out]
 have zf1 : wb.frozen? ⟨w6.heap.size, 1, none⟩ = false := by simp [World.frozen?, HZ.out]
 have zf2 : wb.frozen? ⟨w6.heap.size, 2, none⟩ = false := by simp [World.frozen?, HZ.out]
 have zf3 : wb.frozen? ⟨w6.heap.size, 3, none⟩ = false := by simp [World.frozen?, HZ.out]
 go_simp
 refine hK.out _ _ (by (try dsimp only); exact HK.out _ ((((HBb.out.setCell HAL.out _).setCell HAL.out _).setCell HAL.out _).setCell HAL.out _)) (fun hHeld => ?_)
 clear hK K
 try simp only [qga, qgz, qgs, Act.put, qgt, qgx, qgy]
 refine qT 9 (v := ?_) ?_ ?_
 rotate_left
 · intro w hSw; (try dsimp only at hSw); go_simp; try with_reducible rfl
 try simp only [qga, qgz, qgs, Act.put, qgt, qgx, qgy]
 refine wpAnyH_done (by kernel_rfl) ?_ _
 go_wp2_with fail
 go_meet
 exact ⟨w6.heap.size, ga, gb, gc, hb, rfl, rfl, heap_setCell_same _ _ 3 _ _ _ (heap_setCell_same _ _ 2 _ _ _ (heap_setCell_same _ _ 1 _ _ _ (heap_setCell_same _ _ 0 _ _ _ HZ.out))), hxl, (((HGE1.out.setOther HG1.out.1 _).setOther HG1.out.1 _).setOther HG1.out.1 _).setOther HG1.out.1 _, (((HGT1.out.setOther (fun _ => HG1.out.2) _).setOther (fun _ => HG1.out.2) _).setOther (fun _ => HG1.out.2) _).setOther (fun _ => HG1.out.2) _, (((HBb.out.setCell HAL.out _).setCell HAL.out _).setCell HAL.out _).setCell HAL.out _⟩)
 case rest => (
 obtain ⟨A10, ga, gb, gc, hb, rfl, rfl, hA10, hxl, hge, hgt, hB7⟩ := hcut
 have HB7 := hid hB7; have HGE := hid hge; have HGT := hid hgt; have HA10 := hid hA10
 clear hB7 hge hgt hA10
 obtain ⟨w7, hw7⟩ : ∃ w7, w7 = wc := ⟨_, rfl⟩
 rw [<- hw7] at HB7 HGE HGT HA10 ⊢
 clear hw7
 go_upto_region 11 with fail
 go_cut [12, 13] from 61 to 67 (fun v12 v13 wx => ∃ (A12 : Nat) (ia : Option Addr) (ib ic jb : Nat), v12 = .pointer (some ⟨A12, 0, none⟩) /\ v13 = .slice (some ⟨jb, 0, none⟩) n n /\ wx.heap[A12]? = some (.cells #[.int .i64 Y.st, .int .i64 Y.lb, .int .i64 Y.s0, .slice ia Y.es.length ic] 24 (0, 0)) /\ Y.es.length <= 10000 /\ SlAt encE 3 wx ia ib 0 Y.es /\ SlAt encI 1 wx (some ⟨jb, 0, none⟩) jb 0 us /\ Below w7.heap.size w7 wx)
 case first => (
 have HBD : Hid (Below W4.heap.size W4 w7.drew) := hid HB7.out.drew
 have HBL0 : Hid (Below w7.heap.size w7 w7.drew) := hid (Below.refl _ _).drew
 refine wp_region_held_drew (S := (fun V => ((V.cell? ⟨w.heap.size, 0, none⟩ = some (.int .i64 s.st) /\ V.cell? ⟨w.heap.size, 1, none⟩ = some (.int .i64 s.lb) /\ V.cell? ⟨w.heap.size, 2, none⟩ = some (.int .i64 s.s0) /\ V.cell? ⟨w.heap.size, 3, none⟩ = some (.slice a el c)) /\ w.heap.size < V.heap.size))) (by kernel_rfl) (by (try dsimp only); exact HK.out _ HBD.out) (fun hHeld => ?_)
 refine qT 0 (v := ?_) ?_ ?_
 rotate_left
 · intro w hSw; (try dsimp only at hSw); go_simp; try with_reducible rfl
 try simp only [qga, qgz, Act.put, qgt, qgx, qgy]
 refine qT 1 (v := ?_) ?_ ?_
 rotate_left
 · intro w hSw; (try dsimp only at hSw); go_simp; try with_reducible rfl
 try simp only [qga, qgz, qgs, Act.put, qgt, qgx, qgy]
 refine wpAnyH_ready (rs := [2, 7]) (by kernel_rfl) (by simp) ?_
 refine AllReadyH.cons rfl (fun K hK => ?_) (AllReadyH.cons rfl (fun K hK => ?_) AllReadyH.nil)
 go_simp
 refine (HRB.out _ (HUP.out _ HBD.out)).mono ?_
 rintro e wa ⟨qb, C, rfl, hcs, hbig, hca, _, hBa⟩
 have HBa := hid (HBD.out.trans (hBa.mono HBD.out.size))
 have HCS := hid hcs; have HCA := hid hca; have HXC1 := hid (HY.out C ⟨hbig, hca⟩)
 have HBL := hid (HBL0.out.trans (hBa.mono HBL0.out.size))
 clear hcs hbig hca hBa
 refine hK.out _ _ (by (try dsimp only); exact HK.out _ HBa.out) (fun hHeld => ?_)
 clear hK K
 try simp only [qga, qgz, qgs, Act.put, qgt, qgx, qgy]
 refine wpAnyH_ready (rs := [3, 7]) (by kernel_rfl) (by simp) ?_
 refine AllReadyH.cons rfl (fun K hK => ?_) (AllReadyH.cons rfl (fun K hK => ?_) AllReadyH.nil)
 go_simp
 refine (HOF.out _ (HUP.out _ HBa.out) true C qb HCA.out HCS.out Y us HXC1.out).mono ?_
 rintro e wb ⟨ia, ib, ic, jb, rfl, hxl, hge, hgt, hg1, hg2, hBb⟩
 have HBb := hid (HBa.out.trans (hBb.mono HBa.out.size))
 have HGE1 := hid hge; have HGT1 := hid hgt
 replace HBL := hid (HBL.out.trans (hBb.mono HBL.out.size))
 clear hge hgt hg1 hg2 hBb
 refine hK.out _ _ (by (try dsimp only); exact HK.out _ HBb.out) (fun hHeld => ?_)
 clear hK K
 try simp only [qga, qgz, qgs, Act.put, qgt, qgx, qgy]
 refine qT 4 (v := ?_) ?_ ?_
 rotate_left
 · intro w hSw; (try dsimp only at hSw); go_simp; try with_reducible rfl
 try simp only [qga, qgz, qgs, Act.put, qgt, qgx, qgy]
 refine qT 5 (v := ?_) ?_ ?_
 rotate_left
 · intro w hSw; (try dsimp only at hSw); go_simp; try with_reducible rfl
 try simp only [qga, qgz, qgs, Act.put, qgt, qgx, qgy]
 refine qT 6 (v := ?_) ?_ ?_
 rotate_left
 · intro w hSw; (try dsimp only at hSw); go_simp; try with_reducible rfl
 try simp only [qga, qgz, qgs, Act.put, qgt, qgx, qgy]
 refine wpAnyH_ready (rs := [7]) (by kernel_rfl) (by simp) ?_
 refine AllReadyH.cons rfl (fun K hK => ?_) AllReadyH.nil
 go_simp
 refine hK.out _ _ (by (try dsimp only); exact HK.out _ (HBb.out.alloc HBb.out.size _)) (fun hHeld => ?_)
 clear hK K
 try simp only [qga, qgz, qgs, Act.put, qgt, qgx, qgy]
 refine wpAnyH_ready (rs := [8]) (by kernel_rfl) (by simp) ?_
 refine AllReadyH.cons rfl (fun K hK => ?_) AllReadyH.nil
 go_simp
 refine hK.out _ _ (by (try dsimp only); exact HK.out _ (HBb.out.alloc HBb.out.size _)) (fun hHeld => ?_)
 clear hK K
 try simp only [qga, qgz, qgs, Act.put, qgt, qgx, qgy]
 refine qT 9 (v := ?_) ?_ ?_
 rotate_left
 · intro w hSw; (try dsimp only at hSw); go_simp; try with_reducible rfl
 try simp only [qga, qgz, qgs, Act.put, qgt, qgx, qgy]
 refine wpAnyH_done (by kernel_rfl) ?_ _
 go_wp2_with fail
 go_meet
 exact ⟨wb.heap.size, ia, ib, ic, jb, rfl, rfl, heap_alloc_new wb _, hxl, HGE1.out.alloc _, HGT1.out.alloc _, HBL.out.alloc HBL.out.size _⟩
 go_simp
 have HZ : Hid ((wa.alloc (Obj.cells #[.int .i64 0, .int .i64 0, .int .i64 0, .slice none 0 0] 24)).heap[wa.heap.size]? = some (.cells #[.int .i64 0, .int .i64 0, .int .i64 0, .slice none 0 0] 24 (0, 0)) /\ True) := hid ⟨heap_alloc_new (wa) (Obj.cells #[.int .i64 0, .int .i64 0, .int .i64 0, .slice none 0 0] 24), trivial⟩
 replace HZ := hid HZ.out.1
 have HBz := hid (HBa.out.alloc HBa.out.size (Obj.cells #[.int .i64 0, .int .i64 0, .int .i64 0, .slice none 0 0] 24))
 have HAL : Hid (W4.heap.size <= wa.heap.size) := hid HBa.out.size
 have HAL2 : Hid (w7.heap.size <= wa.heap.size) := hid HBL.out.size
 replace HBL := hid (HBL.out.alloc HBL.out.size (Obj.cells #[.int .i64 0, .int .i64 0, .int .i64 0, .slice none 0 0] 24))
 replace HCS := hid (HCS.out.alloc (Obj.cells #[.int .i64 0, .int .i64 0, .int .i64 0, .slice none 0 0] 24))
 refine hK.out _ _ (by (try dsimp only); exact HK.out _ HBz.out) (fun hHeld => ?_)
 clear hK K
 try simp only [qga, qgz, qgs, Act.put, qgt, qgx, qgy]
 refine wpAnyH_ready (rs := [3]) (by kernel_rfl) (by simp) ?_
 refine AllReadyH.cons rfl (fun K hK => ?_) AllReadyH.nil
 go_simp
 refine (HOF.out _ (HUP.out _ HBz.out) true C qb HCA.out HCS.out Y us HXC1.out).mono ?_
 rintro e wb ⟨ia, ib, ic, jb, rfl, hxl, hge, hgt, hg1, hg2, hBb⟩
 have HBb := hid (HBz.out.trans (hBb.mono HBz.out.size))
 have HGE1 := hid hge; have HGT1 := hid hgt
 replace HBL := hid (HBL.out.trans (hBb.mono HBL.out.size))
 have HLT := hid (Array.getElem?_eq_some_iff.1 HZ.out).1
 have HG1 : Hid ((0 < Y.es.length -> ib ≠ wa.heap.size) /\ jb ≠ wa.heap.size) := hid ⟨fun h => by have h1 := hg1 h; have h2 := HLT.out; omega, by have h2 := HLT.out; omega⟩
 replace HZ := hid ((hBb.block _ (Array.getElem?_eq_some_iff.1 HZ.out).1).trans HZ.out)
 clear hge hgt hg1 hg2 hBb
 refine hK.out _ _ (by (try dsimp only); exact HK.out _ HBb.out) (fun hHeld => ?_)
 clear hK K
 try simp only [qga, qgz, qgs, Act.put, qgt, qgx, qgy]
 refine qT 4 (v := ?_) ?_ ?_
 rotate_left
 · intro w hSw; (try dsimp only at hSw); go_simp; try with_reducible rfl
 try simp only [qga, qgz, qgs, Act.put, qgt, qgx, qgy]
 refine qT 5 (v := ?_) ?_ ?_
 rotate_left
 · intro w hSw; (try dsimp only at hSw); go_simp; try with_reducible rfl
 try simp only [qga, qgz, qgs, Act.put, qgt, qgx, qgy]
 refine qT 6 (v := ?_) ?_ ?_
 rotate_left
 · intro w hSw; (try dsimp only at hSw); go_simp; try with_reducible rfl
 try simp only [qga, qgz, qgs, Act.put, qgt, qgx, qgy]
 refine wpAnyH_ready (rs := [8]) (by kernel_rfl) (by simp) ?_
 refine AllReadyH.cons rfl (fun K hK => ?_) AllReadyH.nil
 obtain ⟨z0, z1, z2, z3⟩ := sysG HZ.out
 have zl := (Array.getElem?_eq_some_iff.1 HZ.out).1
 have zf0 : wb.frozen? ⟨wa.heap.size, 0, none⟩ = false := by simp [World.frozen?, HZ.out]
 have zf1 : wb.frozen? ⟨wa.heap.size, 1, none⟩ = false := by simp [World.frozen?, HZ.out]
 have zf2 : wb.frozen? ⟨wa.heap.size, 2, none⟩ = false := by simp [World.frozen?, HZ.out]
 have zf3 : wb.frozen? ⟨wa.heap.size, 3, none⟩ = false := by simp [World.frozen?, HZ.out]
 go_simp
 refine hK.out _ _ (by (try dsimp only); exact HK.out _ ((((HBb.out.setCell HAL.out _).setCell HAL.out _).setCell HAL.out _).setCell HAL.out _)) (fun hHeld => ?_)
 clear hK K
 try simp only [qga, qgz, qgs, Act.put, qgt, qgx, qgy]
 refine qT 9 (v := ?_) ?_ ?_
 rotate_left
 · intro w hSw; (try dsimp only at hSw); go_simp; try with_reducible rfl
 try simp only [qga, qgz, qgs, Act.put, qgt, qgx, qgy]
 refine wpAnyH_done (by kernel_rfl) ?_ _
 go_wp2_with fail
 go_meet
 exact ⟨wa.heap.size, ia, ib, ic, jb, rfl, rfl, heap_setCell_same _ _ 3 _ _ _ (heap_setCell_same _ _ 2 _ _ _ (heap_setCell_same _ _ 1 _ _ _ (heap_setCell_same _ _ 0 _ _ _ HZ.out))), hxl, (((HGE1.out.setOther HG1.out.1 _).setOther HG1.out.1 _).setOther HG1.out.1 _).setOther HG1.out.1 _, (((HGT1.out.setOther (fun _ => HG1.out.2) _).setOther (fun _ => HG1.out.2) _).setOther (fun _ => HG1.out.2) _).setOther (fun _ => HG1.out.2) _, (((HBL.out.setCell HAL2.out _).setCell HAL2.out _).setCell HAL2.out _).setCell HAL2.out _⟩
 go_simp
 have HZ : Hid ((w7.drew.alloc (Obj.cells #[.int .i64 0, .int .i64 0, .int .i64 0, .slice none 0 0] 24)).heap[w7.heap.size]? = some (.cells #[.int .i64 0, .int .i64 0, .int .i64 0, .slice none 0 0] 24 (0, 0)) /\ True) := hid ⟨heap_alloc_new (w7.drew) (Obj.cells #[.int .i64 0, .int .i64 0, .int .i64 0, .slice none 0 0] 24), trivial⟩
 replace HZ := hid HZ.out.1
 have HBz := hid (HBD.out.alloc HBD.out.size (Obj.cells #[.int .i64 0, .int .i64 0, .int .i64 0, .slice none 0 0] 24))
 have HAL : Hid (W4.heap.size <= w7.heap.size) := hid HBD.out.size
 have HBL := hid (HBL0.out.alloc HBL0.out.size (Obj.cells #[.int .i64 0, .int .i64 0, .int .i64 0, .slice none 0 0] 24))
 have HAL2 : Hid (w7.heap.size <= w7.heap.size) := hid HBL0.out.size
 refine hK.out _ _ (by (try dsimp only); exact HK.out _ HBz.out) (fun hHeld => ?_)
 clear hK K
 try simp only [qga, qgz, qgs, Act.put, qgt, qgx, qgy]
 refine wpAnyH_ready (rs := [2]) (by kernel_rfl) (by simp) ?_
 refine AllReadyH.cons rfl (fun K hK => ?_) AllReadyH.nil
 go_simp
 refine (HRB.out _ (HUP.out _ HBz.out)).mono ?_
 rintro e wa ⟨qb, C, rfl, hcs, hbig, hca, _, hBa⟩
 have HBa := hid (HBz.out.trans (hBa.mono HBz.out.size))
 have HCS := hid hcs; have HCA := hid hca; have HXC1 := hid (HY.out C ⟨hbig, hca⟩)
 replace HZ := hid ((hBa.block _ (Array.getElem?_eq_some_iff.1 HZ.out).1).trans HZ.out)
 replace HBL := hid (HBL.out.trans (hBa.mono HBL.out.size))
 clear hcs hbig hca hBa
 refine hK.out _ _ (by (try dsimp only); exact HK.out _ HBa.out) (fun hHeld => ?_)
 clear hK K
 try simp only [qga, qgz, qgs, Act.put, qgt, qgx, qgy]
 refine wpAnyH_ready (rs := [3]) (by kernel_rfl) (by simp) ?_
 refine AllReadyH.cons rfl (fun K hK => ?_) AllReadyH.nil
 go_simp
 refine (HOF.out _ (HUP.out _ HBa.out) true C qb HCA.out HCS.out Y us HXC1.out).mono ?_
 rintro e wb ⟨ia, ib, ic, jb, rfl, hxl, hge, hgt, hg1, hg2, hBb⟩
 have HBb := hid (HBa.out.trans (hBb.mono HBa.out.size))
 have HGE1 := hid hge; have HGT1 := hid hgt
 replace HBL := hid (HBL.out.trans (hBb.mono HBL.out.size))
 have HLT := hid (Array.getElem?_eq_some_iff.1 HZ.out).1
 have HG1 : Hid ((0 < Y.es.length -> ib ≠ w7.heap.size) /\ jb ≠ w7.heap.size) := hid ⟨fun h => by have h1 := hg1 h; have h2 := HLT.out; omega, by have h2 := HLT.out; omega⟩
 replace HZ := hid ((hBb.block _ (Array.getElem?_eq_some_iff.1 HZ.out).1).trans HZ.out)
 clear hge hgt hg1 hg2 hBb
 refine hK.out _ _ (by (try dsimp only); exact HK.out _ HBb.out) (fun hHeld => ?_)
 clear hK K
 try simp only [qga, qgz, qgs, Act.put, qgt, qgx, qgy]
 refine qT 4 (v := ?_) ?_ ?_
 rotate_left
 · intro w hSw; (try dsimp only at hSw); go_simp; try with_reducible rfl
 try simp only [qga, qgz, qgs, Act.put, qgt, qgx, qgy]
 refine qT 5 (v := ?_) ?_ ?_
 rotate_left
 · intro w hSw; (try dsimp only at hSw); go_simp; try with_reducible rfl
 try simp only [qga, qgz, qgs, Act.put, qgt, qgx, qgy]
 refine qT 6 (v := ?_) ?_ ?_
 rotate_left
 · intro w hSw; (try dsimp only at hSw); go_simp; try with_reducible rfl
 try simp only [qga, qgz, qgs, Act.put, qgt, qgx, qgy]
 refine wpAnyH_ready (rs := [8]) (by kernel_rfl) (by simp) ?_
 refine AllReadyH.cons rfl (fun K hK => ?_) AllReadyH.nil
 obtain ⟨z0, z1, z2, z3⟩ := sysG HZ.out
 have zl := (Array.getElem?_eq_some_iff.1 HZ.out).1
 have zf0 : wb.frozen? ⟨w7.heap.size, 0, none⟩ = false := by simp [World.frozen?, HZ.out]
 have zf1 : wb.frozen? ⟨w7.heap.size, 1, none⟩ = false := by simp [World.frozen?, HZ.out]
 have zf2 : wb.frozen? ⟨w7.heap.size, 2, none⟩ = false := by simp [World.frozen?, HZ.out]
 have zf3 : wb.frozen? ⟨w7.heap.size, 3, none⟩ = false := by simp [World.frozen?, HZ.out]
 go_simp
 refine hK.out _ _ (by (try dsimp only); exact HK.out _ ((((HBb.out.setCell HAL.out _).setCell HAL.out _).setCell HAL.out _).setCell HAL.out _)) (fun hHeld => ?_)
 clear hK K
 try simp only [qga, qgz, qgs, Act.put, qgt, qgx, qgy]
 refine qT 9 (v := ?_) ?_ ?_
 rotate_left
 · intro w hSw; (try dsimp only at hSw); go_simp; try with_reducible rfl
 try simp only [qga, qgz, qgs, Act.put, qgt, qgx, qgy]
 refine wpAnyH_done (by kernel_rfl) ?_ _
 go_wp2_with fail
 go_meet
 exact ⟨w7.heap.size, ia, ib, ic, jb, rfl, rfl, heap_setCell_same _ _ 3 _ _ _ (heap_setCell_same _ _ 2 _ _ _ (heap_setCell_same _ _ 1 _ _ _ (heap_setCell_same _ _ 0 _ _ _ HZ.out))), hxl, (((HGE1.out.setOther HG1.out.1 _).setOther HG1.out.1 _).setOther HG1.out.1 _).setOther HG1.out.1 _, (((HGT1.out.setOther (fun _ => HG1.out.2) _).setOther (fun _ => HG1.out.2) _).setOther (fun _ => HG1.out.2) _).setOther (fun _ => HG1.out.2) _, (((HBL.out.setCell HAL2.out _).setCell HAL2.out _).setCell HAL2.out _).setCell HAL2.out _⟩)
 case rest => (
 obtain ⟨A12, ia, ib, ic, jb, rfl, rfl, hA12, hyl, hie, hjt, hB8⟩ := hcut
 have hb8 := HB7.out.trans (hB8.mono HB7.out.size)
 have HB8 := hid hb8
 have hA10 := (hB8.block _ (Array.getElem?_eq_some_iff.1 HA10.out).1).trans HA10.out
 have hKV : ∀ V, Below wc.heap.size wc V -> ((V.cell? ⟨A10, 0, none⟩ = some (.int .i64 X.st) /\ V.cell? ⟨A10, 1, none⟩ = some (.int .i64 X.lb) /\ V.cell? ⟨A10, 2, none⟩ = some (.int .i64 X.s0) /\ V.cell? ⟨A10, 3, none⟩ = some (.slice ga X.es.length gc)) /\ A10 < V.heap.size) /\ ((V.cell? ⟨A12, 0, none⟩ = some (.int .i64 Y.st) /\ V.cell? ⟨A12, 1, none⟩ = some (.int .i64 Y.lb) /\ V.cell? ⟨A12, 2, none⟩ = some (.int .i64 Y.s0) /\ V.cell? ⟨A12, 3, none⟩ = some (.slice ia Y.es.length ic)) /\ A12 < V.heap.size) /\ Below W4.heap.size W4 V := fun V hV => by (
 have h1 := (hV.block _ (Array.getElem?_eq_some_iff.1 hA10).1).trans hA10
 have h2 := (hV.block _ (Array.getElem?_eq_some_iff.1 hA12).1).trans hA12
 exact ⟨⟨sysG h1, (Array.getElem?_eq_some_iff.1 h1).1⟩, ⟨sysG h2, (Array.getElem?_eq_some_iff.1 h2).1⟩, hb8.trans (hV.mono hb8.size)⟩)
 have hge8 := HGE.out.below hB8 (Nat.le_refl _)
 have hgt8 := HGT.out.below hB8 (Nat.le_refl _)
 have HSX : Hid (∀ V, Below wc.heap.size wc V -> Calls Tryz.prog 13 #[.agg #[.int .i64 X.st, .int .i64 X.lb, .int .i64 X.s0, .slice ea X.es.length ec], .agg #[.int .i64 X.st, .int .i64 X.lb, .int .i64 X.s0, .slice ga X.es.length gc]] V fun e w' => e = .returned (.bool true) /\ Below V.heap.size V w') := hid (fun V hV => by
   obtain ⟨h1, _⟩ := HKS.out V (hb8.trans (hV.mono hb8.size))
   exact q0y X.st X.lb X.s0 h1 (hge8.below hV (Nat.le_refl _)) (by omega))
 have HSY : Hid (∀ V, Below wc.heap.size wc V -> Calls Tryz.prog 13 #[.agg #[.int .i64 Y.st, .int .i64 Y.lb, .int .i64 Y.s0, .slice fa Y.es.length fc], .agg #[.int .i64 Y.st, .int .i64 Y.lb, .int .i64 Y.s0, .slice ia Y.es.length ic]] V fun e w' => e = .returned (.bool true) /\ Below V.heap.size V w') := hid (fun V hV => by
   obtain ⟨_, _, h1, _⟩ := HKS.out V (hb8.trans (hV.mono hb8.size))
   exact q0y Y.st Y.lb Y.s0 h1 (hie.below hV (Nat.le_refl _)) (by omega))
 have HIX : Hid (∀ V, Below wc.heap.size wc V -> Calls Tryz.prog 14 #[.slice ta n tc, .slice (some ⟨hb, 0, none⟩) n n] V fun e w' => e = .returned (.bool true) /\ ∃ m, w' = V.drewN m) := hid (fun V hV => by (
 obtain ⟨_, h1, _⟩ := HKS.out V (hb8.trans (hV.mono hb8.size))
 have hl := HTS.out
 have h := sameInts_any (c1 := tc) (c2 := n) h1 (hgt8.below hV (Nat.le_refl _)) (by omega) (by omega)
 rw [hl] at h
 simpa using h))
 have HIY : Hid (∀ V, Below wc.heap.size wc V -> Calls Tryz.prog 14 #[.slice ua n uc, .slice (some ⟨jb, 0, none⟩) n n] V fun e w' => e = .returned (.bool true) /\ ∃ m, w' = V.drewN m) := hid (fun V hV => by (
 obtain ⟨_, _, _, h1, _⟩ := HKS.out V (hb8.trans (hV.mono hb8.size))
 have hl := HUS.out
 have h := sameInts_any (c1 := uc) (c2 := n) h1 (hjt.below hV (Nat.le_refl _)) (by omega) (by omega)
 rw [hl] at h
 simpa using h))
 have HKV := hid hKV
 obtain ⟨W8, hW8⟩ : ∃ W8, W8 = wc := ⟨_, rfl⟩
 rw [<- hW8] at HSX HSY HIX HIY HKV HB8 ⊢
 clear hA12 hyl hie hjt hB8 hb8 hA10 hKV hge8 hgt8 hxl hW8 HX HY HGE HGT HTS HUS HRC HRB HOF HC HCM HEL HR HN HB6 HB7 HA10
 go_upto_region 12 with fail
 go_wp2_with fail
 refine (ALV.out _ (HUP.out _ HB8.out)).mono ?_
 rintro e v1 ⟨rfl, hB⟩
 have HV := hid hB
 clear hB
 obtain ⟨⟨a0, a1, a2, a3⟩, al, _, _, _, _⟩ := HKQ.out v1 (HB8.out.trans (HV.out.mono HB8.out.size))
 obtain ⟨⟨⟨b0, b1, b2, b3⟩, bl⟩, _, _⟩ := HKV.out v1 HV.out
 go_wp2_with fail
 refine (HSX.out _ HV.out).mono ?_
 rintro e v2 ⟨rfl, hB⟩
 replace HV := hid (HV.out.trans (hB.mono HV.out.size))
 clear hB a0 a1 a2 a3 al b0 b1 b2 b3 bl
 go_wp2_with fail
 refine (HIX.out _ HV.out).mono ?_
 rintro e v3 ⟨rfl, m3, rfl⟩
 replace HV := hid (k0c (n := m3) HV.out)
 obtain ⟨_, _, ⟨a0, a1, a2, a3⟩, al, _, _⟩ := HKQ.out _ (HB8.out.trans (HV.out.mono HB8.out.size))
 obtain ⟨_, ⟨⟨b0, b1, b2, b3⟩, bl⟩, _⟩ := HKV.out _ HV.out
 go_wp2_with fail
 refine (HSY.out _ HV.out).mono ?_
 rintro e v4 ⟨rfl, hB⟩
 replace HV := hid (HV.out.trans (hB.mono HV.out.size))
 clear hB a0 a1 a2 a3 al b0 b1 b2 b3 bl
 go_wp2_with fail
 refine (HIY.out _ HV.out).mono ?_
 rintro e v5 ⟨rfl, m5, rfl⟩
 replace HV := hid (k0c (n := m5) HV.out)
 go_wp2_with fail
 go_ret
 exact ⟨rfl, HUP.out _ (HKV.out _ HV.out).2.2⟩))
theorem x1w {w : World} {p : Addr} (hE : ErrsK 14 p w) (hT : ErrType w) (hTab : Lib.TabIs Tryz.prog w "internal/strconv.uint64pow10" .u64 Lib.pow10Tab) {s : Lts} {a : Option Addr} {b off c : Nat} (hS : SlAt encE 3 w a b off s.es) (hc : s.es.length <= c) (hcm : c <= maxLen) (hr : ¬ s.Right) :
    Calls Tryz.prog 3 #[.agg #[.int .i64 s.st, .int .i64 s.lb, .int .i64 s.s0, .slice a s.es.length c]] w fun e w' => e = .returned (.bool true) /\ Below w.heap.size w w' := by
 have hG : GErr 10 p w := hE.sys
 have hB0 := (Below.refl w.heap.size w).alloc (Nat.le_refl _) (Obj.cells #[.int .i64 s.st, .int .i64 s.lb, .int .i64 s.s0, .slice a s.es.length c] 24)
 have hbx := heap_alloc_new w (Obj.cells #[.int .i64 s.st, .int .i64 s.lb, .int .i64 s.s0, .slice a s.es.length c] 24)
 have HLI := hid (z0y (c := c) (hS.below hB0 (Nat.le_refl _)))
 have hTB := Lib.tabBelow_of_tabIs hTab
 have HE := hid hE; have HTY := hid hT; have HS := hid hS; have HG := hid hG; have HTAB := hid hTB
 have ALV : Hid (∀ w1 : World, Below w.heap.size w w1 -> Calls Tryz.prog 5 #[] w1 fun e w' => e = .returned (.bool true) /\ Below w1.heap.size w1 w') := hid (fun w1 h1 => v0r (hG.below h1))
 have HC := hid hc; have HCM := hid hcm; have HR := hid hr
 obtain ⟨el, hel⟩ : ∃ el, el = s.es.length := ⟨_, rfl⟩
 rw [<- hel] at HLI hbx hB0 HC ⊢
 have HB0 := hid hB0; have HBX := hid hbx; have HEL := hid hel
 clear hE hG hT hS hB0 hbx hc hcm hel hr hTab hTB
 go_enter Tryz.func3, Tryz.ntmps3
 go_wp2_with fail
 refine HLI.out.mono ?_
 rintro e w1 ⟨bv, rfl, hbv, hB1⟩
 have HBX1 := hid ((hB1.block w.heap.size (by simp)).trans HBX.out)
 have HB1 := hid (HB0.out.trans (hB1.mono (by simp)))
 have HBV := hid hbv
 clear hbv hB1 HLI HB0 HBX
 cases bv
 · (
 go_wp2_with fail
 refine (ALV.out _ HB1.out).mono ?_
 rintro e w2 ⟨rfl, hB⟩
 have HB2 := hid (HB1.out.trans (hB.mono HB1.out.size))
 clear hB
 go_wp2
 go_ret
 exact ⟨rfl, HB2.out⟩)
 have hXC : ∀ V, Below w1.heap.size w1 V -> (V.cell? ⟨w.heap.size, 0, none⟩ = some (.int .i64 s.st) /\ V.cell? ⟨w.heap.size, 1, none⟩ = some (.int .i64 s.lb) /\ V.cell? ⟨w.heap.size, 2, none⟩ = some (.int .i64 s.s0) /\ V.cell? ⟨w.heap.size, 3, none⟩ = some (.slice a el c)) /\ w.heap.size < V.heap.size := fun V hV => by
   have h := (hV.block _ (Array.getElem?_eq_some_iff.1 HBX1.out).1).trans HBX1.out
   exact ⟨sysG h, (Array.getElem?_eq_some_iff.1 h).1⟩
 have HXC := hid hXC
 obtain ⟨⟨x0, x1, x2, x3⟩, xl⟩ := hXC w1 (Below.refl _ _)
 clear hXC HBX1
 have hlt := HBV.out rfl
 have hel1 : el <= 11000 := by rcases hlt with h | h <;> omega
 have hQS := y0v (c := c) HR.out (HG.out.below HB1.out) (HTY.out.below HB1.out) (HS.out.below HB1.out (Nat.le_refl _))
 have hQB : ∀ V, Below w.heap.size w V -> Calls Tryz.prog 7 #[.agg #[.int .i64 s.st, .int .i64 s.lb, .int .i64 s.s0, .slice a s.es.length c]] V (QuoNoF p V) := fun V hV =>
   x0c HR.out (HG.out.below hV) (HTY.out.below hV) (HS.out.below hV (Nat.le_refl _))
 obtain ⟨ly, hly⟩ : ∃ ly, ly = quoName ++ ⟨#[32]⟩ ++ sysName ++ ⟨#[32]⟩ := ⟨_, rfl⟩
 have hHA : ∀ V, Below w.heap.size w V -> Calls Tryz.prog 8 #[.string quoName, .agg #[.int .i64 s.st, .int .i64 s.lb, .int .i64 s.s0, .slice a s.es.length c]] V fun e w' => e = .returned (.agg #[.int .i64 14, .int .i64 0, .int .i64 0, .string ly]) /\ Below V.heap.size V w' := fun V hV => by
   rw [hly]
   exact p1p quoName (by decide) (c := c) HR.out (HS.out.below hV (Nat.le_refl _))
 have HTO : Hid (∀ V v, Below w.heap.size w V -> FaultQ V p v -> Calls Tryz.prog 9 #[v, .agg #[.int .i64 14, .int .i64 0, .int .i64 0, .string ly]] V fun e w' => e = .returned (.bool true) /\ Below V.heap.size V w') := hid (fun V v hV hF => by (
 obtain ⟨vi, f1, f2⟩ := hF
 have h := told_two (k := 14) (by unfold CodeIn; omega) (HE.out.below hV) f1 f2 (by decide) (by decide)
 rw [<- hly] at h
 exact h))
 rw [<- HEL.out] at hQS hQB hHA
 have HQS := hid hQS; have HQB := hid hQB; have HHA := hid hHA
 clear hlt hQS hQB hHA HBV HE HTY HS HG HTAB hly HC HCM HR
 go_wp2_with fail
 refine HQS.out.mono ?_
 rintro e w2 ⟨fb, rfl, hF, hB2⟩
 have HF := hid hF; have HB2 := hid hB2
 have HBW2 := hid (HB1.out.trans (hB2.mono HB1.out.size))
 clear hF hB2 HQS x0 x1 x2 x3 xl
 obtain ⟨⟨x0, x1, x2, x3⟩, xl⟩ := HXC.out w2 HB2.out
 obtain ⟨W2, hW2⟩ : ∃ W2, W2 = w2.alloc (Obj.cells #[.int .i64 0, .int .i64 0, .int .i64 0, .slice none 0 0] 24) := ⟨_, rfl⟩
 have hb2 : Below w2.heap.size w2 W2 := by rw [hW2]; exact (Below.refl _ _).alloc (Nat.le_refl _) _
 have HBV2 := hid (HB2.out.trans (hb2.mono HB2.out.size))
 have HQB2 := hid (HQB.out W2 (HBW2.out.trans (hb2.mono HBW2.out.size)))
 replace HF := hid (HF.out.below hb2)
 have HW2 := hid hW2
 clear hW2 hb2 HQB HB2
 go_wp2_with fail
 rw [<- HW2.out]
 refine HQB2.out.mono ?_
 rintro e w3 ⟨fc, rfl, hF2, hB3⟩
 have HF2 := hid hF2; have HB3 := hid hB3
 have HBV3 := hid (HBV2.out.trans (hB3.mono HBV2.out.size))
 replace HF := hid (HF.out.below hB3)
 clear hF2 hB3 HQB2 x0 x1 x2 x3 xl HW2
 obtain ⟨⟨x0, x1, x2, x3⟩, xl⟩ := HXC.out w3 HBV3.out
 obtain ⟨W3, hW3⟩ : ∃ W3, W3 = w3.alloc (Obj.cells #[.int .i64 0, .int .i64 0, .int .i64 0, .slice none 0 0] 24) := ⟨_, rfl⟩
 have hb3 : Below w3.heap.size w3 W3 := by rw [hW3]; exact (Below.refl _ _).alloc (Nat.le_refl _) _
 have HBX3 := hid (HBV3.out.trans (hb3.mono HBV3.out.size))
 have HHA3 := hid (HHA.out W3 (HB1.out.trans (HBX3.out.mono HB1.out.size)))
 unfold quoName at HHA3
 replace HF := hid (HF.out.below hb3)
 replace HF2 := hid (HF2.out.below hb3)
 have HW3 := hid hW3
 clear hW3 hb3 HHA HBV2 HB3
 go_wp2_with fail
 rw [<- HW3.out]
 refine HHA3.out.mono ?_
 rintro e w4 ⟨rfl, hB4⟩
 obtain ⟨W4, hW4⟩ : ∃ W4, W4 = w4.alloc (Obj.cells #[.int .i64 14, .int .i64 0, .int .i64 0, .string ly] 33) := ⟨_, rfl⟩
 have hb4 : Below w4.heap.size w4 W4 := by rw [hW4]; exact (Below.refl _ _).alloc (Nat.le_refl _) _
 have hA9 : W4.heap[w4.heap.size]? = some (.cells #[.int .i64 14, .int .i64 0, .int .i64 0, .string ly] 33 (0, 0)) := by rw [hW4]; exact heap_alloc_new w4 _
 have hb34 := hB4.trans (hb4.mono hB4.size)
 have hbx4 := HBX3.out.trans (hb34.mono HBX3.out.size)
 have hbw4 := HB1.out.trans (hbx4.mono HB1.out.size)
 replace HF := hid (HF.out.below hb34)
 replace HF2 := hid (HF2.out.below hb34)
 obtain ⟨A9, hA9e⟩ : ∃ A9, A9 = w4.heap.size := ⟨_, rfl⟩
 rw [<- hA9e] at hA9
 have HKQ : Hid (∀ V, Below W4.heap.size W4 V -> ((V.cell? ⟨A9, 0, none⟩ = some (.int .i64 14) /\ V.cell? ⟨A9, 1, none⟩ = some (.int .i64 0) /\ V.cell? ⟨A9, 2, none⟩ = some (.int .i64 0) /\ V.cell? ⟨A9, 3, none⟩ = some (.string ly)) /\ A9 < V.heap.size) /\ Below w.heap.size w V) := hid (fun V hV => by
   have h3 := (hV.block _ (Array.getElem?_eq_some_iff.1 hA9).1).trans hA9
   exact ⟨⟨errGq h3, (Array.getElem?_eq_some_iff.1 h3).1⟩, hbw4.trans (hV.mono hbw4.size)⟩)
 have HW4 := hid hW4; have HA9E := hid hA9e
 clear hW4 hb4 hA9 hb34 hbx4 hbw4 hA9e hB4 x0 x1 x2 x3 xl HW3 HHA3 HBV3 HBX3 HBW2 HXC HB1
 go_upto_region 6 with fail
 rw [<- HW4.out, <- HA9E.out]
 clear HW4 HA9E
 obtain ⟨⟨⟨z0, z1, z2, z3⟩, zl⟩, _⟩ := HKQ.out W4 (Below.refl _ _)
 go_wp2_with fail
 refine (HTO.out _ _ (HKQ.out W4 (Below.refl _ _)).2 HF.out).mono ?_
 rintro e w5 ⟨rfl, hB5⟩
 have HB5 := hid hB5
 replace HF2 := hid (HF2.out.below hB5)
 clear hB5 z0 z1 z2 z3 zl HF
 obtain ⟨⟨⟨z0, z1, z2, z3⟩, zl⟩, _⟩ := HKQ.out w5 HB5.out
 go_wp2_with fail
 refine (HTO.out _ _ (HKQ.out w5 HB5.out).2 HF2.out).mono ?_
 rintro e w6 ⟨rfl, hB6⟩
 have HB6 := hid (HB5.out.trans (hB6.mono HB5.out.size))
 clear hB6 z0 z1 z2 z3 zl HB5 HF2
 obtain ⟨⟨⟨z0, z1, z2, z3⟩, zl⟩, _⟩ := HKQ.out w6 HB6.out
 go_wp2_with fail
 refine (ALV.out _ (HKQ.out w6 HB6.out).2).mono ?_
 rintro e v1 ⟨rfl, hB⟩
 have HV := hid (HB6.out.trans (hB.mono HB6.out.size))
 clear hB z0 z1 z2 z3 zl
 go_wp2_with fail
 go_ret
 exact ⟨rfl, (HKQ.out v1 HV.out).2⟩
theorem p2b {w : World} {p : Addr} (hE : ErrsK 14 p w) (hT : ErrType w) (hTab : Lib.TabIs Tryz.prog w "internal/strconv.uint64pow10" .u64 Lib.pow10Tab) {s : Lts} {a : Option Addr} {b off c : Nat} (hS : SlAt encE 3 w a b off s.es) (hc : s.es.length <= c) (hcm : c <= maxLen) :
    Calls Tryz.prog 3 #[.agg #[.int .i64 s.st, .int .i64 s.lb, .int .i64 s.s0, .slice a s.es.length c]] w fun e w' => e = .returned (.bool true) /\ Below w.heap.size w w' := by
 by_cases hr : s.Right
 · exact p1u hE hT hTab hS hc hcm hr
 · exact x1w hE hT hTab hS hc hcm hr
end Go.Proofs.YtjchdegapadepaaGreatDoor

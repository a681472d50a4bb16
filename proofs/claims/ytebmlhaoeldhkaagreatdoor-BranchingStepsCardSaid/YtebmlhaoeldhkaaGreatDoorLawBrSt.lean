/-
 Lemmas.
-/
import Derived.Test.YtebmlhaoeldhkaaGreatDoorGBrV
import Derived.Test.YtebmlhaoeldhkaaGreatDoorGBrH
import Derived.Test.YtebmlhaoeldhkaaGreatDoorRf12S
import Derived.Test.YtebmlhaoeldhkaaGreatDoorGLight9
import Derived.Test.YtebmlhaoeldhkaaGreatDoorGBkWalk
import Derived.Test.YtebmlhaoeldhkaaGreatDoorGRefRight
import Derived.Test.YtebmlhaoeldhkaaGreatDoorGTold
import Derived.Test.YtebmlhaoeldhkaaGreatDoorGBkF
import Derived.Test.YtebmlhaoeldhkaaGreatDoorGBkQ
import Derived.Test.YtebmlhaoeldhkaaGreatDoorGRefReach
set_option maxHeartbeats 16000000
set_option maxRecDepth 100000
namespace Go.Proofs.YtebmlhaoeldhkaaGreatDoor
open Go.RowKit Pl
open Lib (hid)
theorem errGs {w : World} {B : Nat} {x y z : Int} {u : ByteArray} (h : w.heap[B]? = some (.cells #[.int .i64 x, .int .i64 y, .int .i64 z, .string u] 29 (0, 0))) :
   (w.cell? ⟨B, 0, none⟩ = some (.int .i64 x) /\ w.cell? ⟨B, 1, none⟩ = some (.int .i64 y) /\ w.cell? ⟨B, 2, none⟩ = some (.int .i64 z) /\ w.cell? ⟨B, 3, none⟩ = some (.string u)) /\ (w.frozen? ⟨B, 0, none⟩ = false /\ w.frozen? ⟨B, 1, none⟩ = false /\ w.frozen? ⟨B, 2, none⟩ = false /\ w.frozen? ⟨B, 3, none⟩ = false) /\ B < w.heap.size := by
 refine ⟨⟨?_, ?_, ?_, ?_⟩, ⟨?_, ?_, ?_, ?_⟩, (Array.getElem?_eq_some_iff.1 h).1⟩ <;> simp [World.cell?, World.frozen?, h]
theorem brStYes_any {w : World} {p p5 : Addr} (hE : ErrsK 14 p w) (hE5 : ErrsK 15 p5 w) (hT : ErrType w) (hTab : Lib.TabIs Tryz.prog w "internal/strconv.uint64pow10" .u64 Lib.pow10Tab) {s : Lts} {a : Option Addr} {b off c : Nat} (hS : SlAt encE 3 w a b off s.es) (hc : s.es.length <= c) (hcm : c <= maxLen) {L : List Int} {ca : Option Addr} {cb co cc : Nat} (hC : SlAt encI 1 w ca cb co L) (hwf : ∀ x ∈ L, (Lit.int .i64 x).wf = true) (hx0 : s.Right /\ clB s.st L = true) :
   Calls Tryz.prog 4 #[.agg #[.int .i64 s.st, .int .i64 s.lb, .int .i64 s.s0, .slice a s.es.length c], .slice ca L.length cc] w fun e w' => e = .returned (.bool true) /\ Below w.heap.size w w' := by
 have hG : GErr 0 p w := hE.sys
 have hG5 : GErr 11 p5 w := hE5.sys
 have hB0 := (Below.refl w.heap.size w).alloc (Nat.le_refl _) (Obj.cells #[.int .i64 s.st, .int .i64 s.lb, .int .i64 s.s0, .slice a s.es.length c] 24)
 have hbx := heap_alloc_new w (Obj.cells #[.int .i64 s.st, .int .i64 s.lb, .int .i64 s.s0, .slice a s.es.length c] 24)
 have HLI := hid (light12_any (c := c) (hS.below hB0 (Nat.le_refl _)))
 have hTB := Lib.tabBelow_of_tabIs hTab
 have HE := hid hE; have HE5 := hid hE5; have HTY := hid hT; have HS := hid hS; have HG := hid hG; have HG5 := hid hG5; have HTAB := hid hTB; have HCI := hid hC; have HWF := hid hwf; have HX0 := hid hx0
 have ALV : Hid (∀ w1 : World, Below w.heap.size w w1 -> Calls Tryz.prog 7 #[] w1 fun e w' => e = .returned (.bool true) /\ Below w1.heap.size w1 w') := hid (fun w1 h1 => alive12_any (hG.below h1) (hTB w1 h1))
 have HC := hid hc; have HCM := hid hcm
 obtain ⟨el, hel⟩ : ∃ el, el = s.es.length := ⟨_, rfl⟩
 obtain ⟨m, hm⟩ : ∃ m, m = L.length := ⟨_, rfl⟩
 rw [<- hel] at HLI hbx hB0 HC ⊢
 rw [<- hm]
 have HB0 := hid hB0; have HBX := hid hbx; have HEL := hid hel; have HM := hid hm
 clear hE hE5 hG hG5 hT hS hB0 hbx hc hcm hel hTab hTB hC hwf hx0 hm
 go_enter Tryz.func4, Tryz.ntmps4
 go_wp2_with fail
 refine HLI.out.mono ?_
 rintro e w1 ⟨bv, rfl, hbv, hB1⟩
 have HBX1 := hid ((hB1.block w.heap.size (by simp)).trans HBX.out)
 have HB1 := hid (HB0.out.trans (hB1.mono (by simp)))
 have HBV := hid hbv
 clear hbv hB1 HLI HB0 HBX
 cases bv
 · go_wp2_with fail
   refine (ALV.out _ HB1.out).mono ?_
   rintro e w2 ⟨rfl, hB⟩
   have HB2 := hid (HB1.out.trans (hB.mono HB1.out.size))
   clear hB
   go_wp2
   go_ret
   exact ⟨rfl, HB2.out⟩
 by_cases hm12 : (1200 : Int) < (m : Int)
 · go_wp2_with fail
   refine (ALV.out _ HB1.out).mono ?_
   rintro e w2 ⟨rfl, hB⟩
   have HB2 := hid (HB1.out.trans (hB.mono HB1.out.size))
   clear hB
   go_wp2
   go_ret
   exact ⟨rfl, HB2.out⟩
 have hlt : s.st <= 60 /\ el <= 400 := (HBV.out rfl).resolve_right (fun h => h.1 HX0.out.1)
 have hel1 : el <= 400 := hlt.2
 have hli := lentInts_any (c := cc) (HCI.out.below HB1.out (Nat.le_refl _)) (by rw [<- HM.out]; omega)
 rw [<- HM.out] at hli
 have HLI := hid hli
 clear HBV hlt hli
 go_wp2_with fail
 refine HLI.out.mono ?_
 rintro e w2 ⟨lv, rfl, hlent, hB2⟩
 obtain ⟨g, cap, hlv, _, _, hlg⟩ := hlent.ex
 have hgl := hlg.lt (by simp)
 rw [<- HM.out] at hlv
 subst hlv
 have HL := hid hlent
 have HX2 := hid ((hB2.block w.heap.size (Array.getElem?_eq_some_iff.1 HBX1.out).1).trans HBX1.out)
 have HB2 := hid (HB1.out.trans (hB2.mono HB1.out.size))
 have hxl2 := (Array.getElem?_eq_some_iff.1 HX2.out).1
 have hU2 : ∀ V, Below w2.heap.size w2 V -> (V.cell? ⟨w.heap.size, 0, none⟩ = some (.int .i64 s.st) /\ V.cell? ⟨w.heap.size, 1, none⟩ = some (.int .i64 s.lb) /\ V.cell? ⟨w.heap.size, 2, none⟩ = some (.int .i64 s.s0) /\ V.cell? ⟨w.heap.size, 3, none⟩ = some (.slice a el c)) /\ w.heap.size < V.heap.size /\ LentI V (.slice (some ⟨g, 0, none⟩) m cap) L /\ SlAt encI 1 V (some ⟨g, 0, none⟩) g 0 L /\ SlAt encE 3 V a b off s.es /\ SlAt encI 1 V ca cb co L /\ Below w.heap.size w V := fun V hV => by
   have h1 := (hV.block _ hxl2).trans HX2.out
   have hb := HB2.out.trans (hV.mono HB2.out.size)
   exact ⟨sysG h1, (Array.getElem?_eq_some_iff.1 h1).1, HL.out.below hV, (hlg.pre).below hV (Nat.le_refl _), HS.out.below hb (Nat.le_refl _), HCI.out.below hb (Nat.le_refl _), hb⟩
 have HU := hid hU2
 obtain ⟨⟨x0, x1, x2, x3⟩, xl, _⟩ := hU2 w2 (Below.refl _ _)
 have hHA := refHanded_yes brName (c := c) HX0.out.1 (HS.out.below HB2.out (Nat.le_refl _))
 rw [<- HEL.out] at hHA
 unfold brName at hHA
 have HHA := hid hHA
 clear hHA hlent hB2 hlg hU2 HLI HBX1 HX2 HB1
 go_wp2_with fail
 refine HHA.out.mono ?_
 rintro e w3 ⟨rfl, hB3⟩
 obtain ⟨W3, hW3⟩ : ∃ W3, W3 = w3.alloc (Obj.cells #[.int .i64 0, .int .i64 0, .int .i64 0, .string ⟨#[]⟩] 29) := ⟨_, rfl⟩
 have hbW3 : Below w3.heap.size w3 W3 := by rw [hW3]; exact (Below.refl _ _).alloc (Nat.le_refl _) _
 have hEB : W3.heap[w3.heap.size]? = some (.cells #[.int .i64 0, .int .i64 0, .int .i64 0, .string ⟨#[]⟩] 29 (0, 0)) := by rw [hW3]; exact heap_alloc_new w3 _
 have HU3 := hid (hB3.trans (hbW3.mono hB3.size))
 have hw23 := hB3.size
 have HEB := hid hEB; have HW3 := hid hW3
 clear hW3 hbW3 hEB hB3 x0 x1 x2 x3 xl HHA
 go_upto_region 5 with fail
 rw [<- HW3.out]
 obtain ⟨eb, heb⟩ : ∃ eb, eb = w3.heap.size := ⟨_, rfl⟩
 rw [<- heb] at HEB hw23 ⊢
 clear heb HW3
 obtain ⟨⟨z0, z1, z2, z3⟩, ⟨zf0, zf1, zf2, zf3⟩, zl⟩ := errGs HEB.out
 obtain ⟨⟨x0, x1, x2, x3⟩, xl, _⟩ := HU.out _ HU3.out
 have hst := HX0.out.1.st0
 obtain ⟨n, hn⟩ : ∃ n : Nat, s.st = (n : Int) := ⟨s.st.toNat, by omega⟩
 have hn1 : n <= 1000 := by omega
 have hcl0 := HX0.out.2
 have hmn : m = n := by
   have h := hcl0
   unfold clB at h
   simp only [Bool.and_eq_true, decide_eq_true_eq] at h
   have := HM.out
   omega
 subst hmn
 obtain ⟨C, hCd⟩ : ∃ C : Nat -> Int, C = fun p => L.getD p 0 := ⟨_, rfl⟩
 have hLC : L = fl m C := by rw [hCd]; exact fl_getD12 HM.out.symm
 have hclC : clB (m : Int) (fl m C) = true := by rw [<- hLC, <- hn]; exact hcl0
 have hwfC : ∀ x ∈ fl m C, (Lit.int .i64 x).wf = true := by rw [<- hLC]; exact HWF.out
 have hcl := refCls7_any (c := cc) s.st s.lb s.s0 (.slice a s.es.length c) (HU.out _ HU3.out).2.2.2.2.2.1 (by rw [<- HM.out]; omega)
 rw [HX0.out.2, <- HM.out, <- HEL.out] at hcl
 have HCLS := hid hcl
 have hU : ∀ V, Below w2.heap.size w2 V -> SlAt encI 1 V (some ⟨g, 0, none⟩) g 0 (fl m C) /\ SlAt encE 3 V a b off s.es /\ SlAt encI 1 V ca cb co (fl m C) /\ Below w.heap.size w V := fun V hV => by
   obtain ⟨_, _, _, h4, h5, h6, h7⟩ := HU.out V hV
   rw [hLC] at h4 h6
   exact ⟨h4, h5, h6, h7⟩
 have hBO : ∀ V, Below w2.heap.size w2 V -> _ := fun V (hV : Below w2.heap.size w2 V) => bottomsLo_any (c := c) (cc := cap) HX0.out.1 hn (HG.out.below (hU V hV).2.2.2) (hU V hV).2.1 (hU V hV).1 hclC hwfC
 have hST : ∀ V, Below w2.heap.size w2 V -> Calls Tryz.prog 21 #[.agg #[.int .i64 s.st, .int .i64 s.lb, .int .i64 s.s0, .slice a s.es.length c], .slice (some ⟨g, 0, none⟩) m cap] V fun e w' => ∃ (tb base : Nat), e = .returned (.tuple #[.slice (some ⟨tb, 0, none⟩) m m, .nilIface]) /\ OwnRows encS 2 117 78 w' base tb m (stp12 s C m) /\ V.heap.size <= tb /\ Below V.heap.size V w' := fun V hV => by
   refine (stepsB_any HX0.out.1 hn (by rw [<- HEL.out]; omega) (HG.out.below (hU V hV).2.2.2) (hU V hV).2.1 (hU V hV).1 hclC hwfC).mono ?_
   rintro e w' ⟨tb, base, F, rfl, h1, h2, _, h3, h4⟩
   refine ⟨tb, base, rfl, ?_, h2, h3⟩
   obtain ⟨vs, h5, h6, h7⟩ := h1.ex
   refine ⟨⟨vs, h5, fun q hq => ?_, h7⟩, h1.lt⟩
   have e : F q = stp12 s C m q := (((h4 q hq).eq (stp12_ok HX0.out.1 hn hq)).2 (fun _ _ => Iff.rfl))
   rw [<- e]
   exact h6 q hq
 have hRB : ∀ V, Below w2.heap.size w2 V -> _ := fun V (hV : Below w2.heap.size w2 V) => refBottoms_any (c := c) (cc := cc) HX0.out.1 hn (hU V hV).2.2.1 (hU V hV).2.1
 have hRS : ∀ V, Below w2.heap.size w2 V -> _ := fun V (hV : Below w2.heap.size w2 V) => refSteps12_any (cc := cc) HX0.out.1 hn (hU V hV).2.2.1 (hU V hV).2.1 (by rw [<- HEL.out]; exact HC.out) HCM.out
 have hSTA : ∀ V, Below w2.heap.size w2 V -> Calls Tryz.prog 22 #[.slice (some ⟨g, 0, none⟩) m cap, .slice ca L.length cc] V fun e w' => e = .returned (.bool true) /\ ∃ m, w' = V.drewN m := fun V hV => by
   obtain ⟨_, _, hl, _, _, hcs, _⟩ := HU.out V hV
   exact staysInts_any hl hcs (by rw [<- HM.out]; omega)
 have hALV : ∀ V, Below w2.heap.size w2 V -> Calls Tryz.prog 7 #[] V fun e w' => e = .returned (.bool true) /\ Below V.heap.size V w' := fun V hV => ALV.out V (hU V hV).2.2.2
 have hLn : ∀ q, (stp12 s C m q).length <= 10000 := fun q => by
   unfold stp12 sigR
   rw [List.length_map]
   have h1 := length_nf (lt := ltE) (sigE s.norm C (G12 s C q) q m)
   have h2 := sigE_le s.norm C (G12 s C q) q m
   have h3 := HX0.out.1.norm.st0
   omega
 rw [<- HEL.out] at hBO hST hRB hRS
 rw [<- HM.out] at hSTA
 have HBO := hid hBO; have HST := hid hST; have HRB := hid hRB; have HRS := hid hRS; have HSTA := hid hSTA; have HALV := hid hALV; have HLN := hid hLn
 have HEND : Hid (∀ V, Below w2.heap.size w2 V -> Below w.heap.size w V) := hid (fun V hV => (hU V hV).2.2.2)
 clear hcl hU hBO hST hRB hRS hSTA hALV hLn hst hn hcl0 hCd hLC hclC hwfC z1 z2 z3 zf0 zf1 zf2 zf3 ALV HE HE5 HTY HS HG HG5
 go_wp2_with fail
 refine HCLS.out.mono ?_
 rintro e w4 ⟨rfl, hB4⟩
 have HEB4 := hid ((hB4.block _ (Array.getElem?_eq_some_iff.1 HEB.out).1).trans HEB.out)
 have HU4 := hid (HU3.out.trans (hB4.mono HU3.out.size))
 clear hB4 z0 zl x0 x1 x2 x3 xl HCLS HEB HU3
 have hSYS : ∀ V, Below w4.heap.size w4 V -> (V.cell? ⟨w.heap.size, 0, none⟩ = some (.int .i64 s.st) /\ V.cell? ⟨w.heap.size, 1, none⟩ = some (.int .i64 s.lb) /\ V.cell? ⟨w.heap.size, 2, none⟩ = some (.int .i64 s.s0) /\ V.cell? ⟨w.heap.size, 3, none⟩ = some (.slice a el c)) /\ w.heap.size < V.heap.size /\ (V.cell? ⟨eb, 0, none⟩ = some (.int .i64 0) /\ V.cell? ⟨eb, 1, none⟩ = some (.int .i64 0) /\ V.cell? ⟨eb, 2, none⟩ = some (.int .i64 0) /\ V.cell? ⟨eb, 3, none⟩ = some (.string ⟨#[]⟩)) /\ eb < V.heap.size /\ Below w2.heap.size w2 V := fun V hV => by
   obtain ⟨h1, _, h3⟩ := errGs ((hV.block _ (Array.getElem?_eq_some_iff.1 HEB4.out).1).trans HEB4.out)
   have h4 := HU4.out.trans (hV.mono HU4.out.size)
   obtain ⟨h5, h6, _⟩ := HU.out _ h4
   exact ⟨h5, h6, h1, h3, h4⟩
 have HSYS := hid hSYS
 clear hSYS
 have HBK := hid (Bk.start w4)
 go_upto_region 8 with fail
 refine at_world (fun W => Bk w4 W w4.heap.size [] []) HBK.out (fun W1 hW1 => ?_)
 replace HBK := hid hW1
 clear hW1
 obtain ⟨bb, hbb⟩ : ∃ bb, bb = w4.heap.size := ⟨_, rfl⟩
 rw [<- hbb] at HBK ⊢
 clear hbb
 go_wp2_with fail
 go_loopw [8, 9, 10, 11, 12] (fun v8 _ _ _ _ wr => ∃ (k : Nat) (Z : List Rw), v8 = .int .i64 k /\ k <= 2 /\ Bk w4 wr bb Z []) (fun v8 _ _ _ _ _ => 2 - (intOf v8).toNat)
 case atStart => exact ⟨0, [], rfl, by omega, HBK.out⟩
 case round =>
   obtain ⟨k, Z, rfl, hk, hbk⟩ := hrel
   replace HBK := hid hbk
   by_cases hk2 : k < 2
   · have hkI : (k : Int) < 2 := by omega
     obtain ⟨⟨x0, x1, x2, x3⟩, xl, _, _, hu⟩ := HSYS.out _ hbk.bel
     have HBO1 := hid (HBO.out _ hu)
     clear hbk hu
     go_wp2_with fail
     refine HBO1.out.mono ?_
     rintro e w5 ⟨zb, rfl, hrow, hB, hzb⟩
     have hob := rowB_own (f := btmB s.norm C) hrow hzb (by omega)
     replace HBK := hid (HBK.out.add hB hob)
     have HROW := hid hrow
     clear hrow hB hob hzb x0 x1 x2 x3 xl HBO1
     obtain ⟨⟨x0, x1, x2, x3⟩, xl, _, _, hu⟩ := HSYS.out _ HBK.out.bel
     have HST1 := hid (HST.out _ hu)
     clear hu
     go_wp2_with fail
     refine HST1.out.mono ?_
     rintro e w6 ⟨tb, base, rfl, hrows, htb, hB⟩
     obtain ⟨vs, hrw, hri, hvs⟩ := hrows.rws hB htb (by omega)
     replace HBK := hid (HBK.out.join hrw)
     replace HROW := hid (HROW.out.of_block (hB.block _ HROW.out.lt))
     have HRI := hid hri; have HVS := hid hvs
     clear hrows hrw hri hvs hB htb x0 x1 x2 x3 xl HST1
     obtain ⟨_, _, ⟨z0, z1, z2, z3⟩, zl, _⟩ := HSYS.out _ HBK.out.bel
     go_wp2_with fail
     refine (told_nil 0 0 ⟨#[]⟩ _).mono ?_
     rintro e w7 ⟨rfl, hB⟩
     replace HBK := hid (HBK.out.call hB)
     have HB67 := hid hB
     clear hB z0 z1 z2 z3 zl
     obtain ⟨_, _, ⟨z0, z1, z2, z3⟩, zl, _⟩ := HSYS.out _ HBK.out.bel
     go_wp2_with fail
     refine (told_nil 0 0 ⟨#[]⟩ _).mono ?_
     rintro e w8 ⟨rfl, hB⟩
     replace HBK := hid (HBK.out.call hB)
     have HB68 := hid (HB67.out.trans (hB.mono HB67.out.size))
     clear hB z0 z1 z2 z3 zl
     have hsta := HSTA.out _ (HSYS.out _ HBK.out.bel).2.2.2.2
     have HSTA1 := hid hsta
     clear hsta
     go_wp2_with fail
     refine HSTA1.out.mono ?_
     rintro e w9 ⟨rfl, q9, hw9⟩
     have hB : Below w8.heap.size w8 w9 := by rw [hw9]; exact bdrew (Below.refl _ _)
     replace HBK := hid (HBK.out.call hB)
     have HB69 := hid (HB68.out.trans (hB.mono HB68.out.size))
     clear hB hw9 HSTA1
     obtain ⟨⟨x0, x1, x2, x3⟩, xl, ⟨z0, z1, z2, z3⟩, zl, hu⟩ := HSYS.out _ HBK.out.bel
     have HRB1 := hid (HRB.out _ hu)
     clear hu z1 z2 z3
     go_wp2_with fail
     refine HRB1.out.mono ?_
     rintro e w10 ⟨yb, rfl, hyrow, hyb, hB⟩
     replace HBK := hid (HBK.out.call hB)
     have HB6A := hid (HB69.out.trans (hB.mono HB69.out.size))
     have hsb : Calls Tryz.prog 23 #[.slice (some ⟨zb, 0, none⟩) m m, .slice (some ⟨yb, 0, none⟩) m m] w10 fun e w' => e = .returned (.bool true) /\ ∃ n, w' = w10.drewN n := by
       have h1 := rowB_own (base := 0) (f := btmB s.norm C) (HROW.out.of_block (HB6A.out.block _ HROW.out.lt)) (Nat.zero_le _) (by omega)
       have h2 := rowB_own (base := 0) (f := btmB s.norm C) hyrow (Nat.zero_le _) (by omega)
       obtain ⟨a1, c1, b1, e1, _, _, s1, _⟩ := slAt_own (xs := (List.range m).map (btmB s.norm C)) (enc := encB) (k := 1) (fun _ => rfl) (by rw [List.length_map, List.length_range]; exact h1)
       obtain ⟨a2, c2, b2, e2, _, _, s2, _⟩ := slAt_own (xs := (List.range m).map (btmB s.norm C)) (enc := encB) (k := 1) (fun _ => rfl) (by rw [List.length_map, List.length_range]; exact h2)
       rw [List.length_map, List.length_range] at e1 e2
       cases e1
       cases e2
       have h := sameBools_any (c1 := m) (c2 := m) s1 s2 (by rw [List.length_map, List.length_range]; omega) (by rw [List.length_map, List.length_range]; omega)
       rw [List.length_map, List.length_range] at h
       simp only [decide_true] at h
       exact h
     have HSB := hid hsb
     clear hyrow hyb hB hsb x0 x1 x2 x3 xl z0 zl HRB1
     go_wp2_with fail
     refine HSB.out.mono ?_
     rintro e w11 ⟨rfl, q11, hw11⟩
     have hB : Below w10.heap.size w10 w11 := by rw [hw11]; exact bdrew (Below.refl _ _)
     replace HBK := hid (HBK.out.call hB)
     have HB6B := hid (HB6A.out.trans (hB.mono HB6A.out.size))
     clear hB hw11 HSB
     obtain ⟨⟨x0, x1, x2, x3⟩, xl, _, _, hu⟩ := HSYS.out _ HBK.out.bel
     have HRS1 := hid (HRS.out _ hu)
     clear hu
     go_wp2_with fail
     refine HRS1.out.mono ?_
     rintro e w12 ⟨ub, base2, rfl, hrows2, hub, hB⟩
     replace HBK := hid (HBK.out.call hB)
     have HB6C := hid (HB6B.out.trans (hB.mono HB6B.out.size))
     obtain ⟨us, hus1, hus2, _⟩ := hrows2.ex
     have hsw : Calls Tryz.prog 25 #[.slice (some ⟨tb, 0, none⟩) m m, .slice (some ⟨ub, 0, none⟩) m m] w12 fun e w' => e = .returned (.bool true) /\ ∃ m, w' = w12.drewN m :=
       sameWalks_any (rowV_sl (HRI.out.of_block (HB6C.out.block _ HRI.out.lt))) (rowV_sl hus1) (by simp) (by simp) (by omega) (fun j x y hx hy => by
         have hj : j < m := by
           have := (List.getElem?_eq_some_iff.1 hx).1
           simpa using this
         rw [List.getElem?_map, List.getElem?_range hj] at hx hy
         simp only [Option.map_some, Option.some.injEq] at hx hy
         subst hx
         subst hy
         obtain ⟨a1, c1, b1, e1, _, _, s1, _⟩ := slAt_own lenS (own_below (HVS.out j hj) HB6C.out)
         obtain ⟨a2, c2, b2, e2, _, _, s2, _⟩ := slAt_own lenS (hus2 j hj)
         have hl := HLN.out j
         exact ⟨_, ⟨a1, b1, 0, c1, e1, s1, by omega⟩, ⟨a2, b2, 0, c2, e2, s2, by omega⟩⟩)
     have HSW := hid hsw
     clear hrows2 hub hB hus1 hus2 hsw x0 x1 x2 x3 xl HRS1
     go_wp2_with fail
     refine HSW.out.mono ?_
     rintro e w13 ⟨rfl, q13, hw13⟩
     have hB : Below w12.heap.size w12 w13 := by rw [hw13]; exact bdrew (Below.refl _ _)
     replace HBK := hid (HBK.out.call hB)
     replace HBK := hid (HBK.out.perm (R' := ⟨4, 1, .slice (some ⟨zb, 0, none⟩) m m, m, ((List.range m).map (btmB s.norm C)).flatMap encB⟩ :: (wRowsS m vs (stp12 s C m) ++ wOuterS tb m vs :: [])) (List.perm_append_comm (l₁ := wRowsS m vs (stp12 s C m) ++ [wOuterS tb m vs]) (l₂ := [⟨4, 1, .slice (some ⟨zb, 0, none⟩) m m, m, ((List.range m).map (btmB s.norm C)).flatMap encB⟩])))
     clear hB hw13 HSW HVS HRI HROW
     go_wp2_with fail
     refine (HBK.out.giveB (ys := (List.range m).map (btmB s.norm C)) rfl (by rw [List.length_map, List.length_range]) (by omega)).mono ?_
     rintro e w14 ⟨rfl, hbk⟩
     replace HBK := hid hbk
     clear hbk
     go_wp2_with fail
     refine (HBK.out.walk (by omega) (fun q _ => by have := HLN.out q; omega)).mono ?_
     rintro e w15 ⟨rfl, Z', hbk, _⟩
     replace HBK := hid hbk
     clear hbk
     go_wp2_with fail
     go_roundw
     case rel => exact ⟨k + 1, Z', by go_num, by omega, HBK.out⟩
     case measure => simp [intOf]; omega
   · clear hbk
     have HALV1 := hid (HALV.out _ (HSYS.out _ HBK.out.bel).2.2.2.2)
     go_wp2_with fail
     refine HALV1.out.mono ?_
     rintro e w5 ⟨rfl, hB⟩
     replace HBK := hid (HBK.out.call hB)
     clear hB
     go_wp2_with fail
     refine HBK.out.apart.mono ?_
     rintro e w6 ⟨rfl, hB⟩
     have HB6 := hid hB
     clear hB
     go_wp2_with fail
     go_ret
     exact ⟨rfl, HEND.out _ (HU4.out.trans (HB6.out.mono HU4.out.size))⟩
theorem brStNoS_any {w : World} {p p5 : Addr} (hE : ErrsK 14 p w) (hE5 : ErrsK 15 p5 w) (hT : ErrType w) (hTab : Lib.TabIs Tryz.prog w "internal/strconv.uint64pow10" .u64 Lib.pow10Tab) {s : Lts} {a : Option Addr} {b off c : Nat} (hS : SlAt encE 3 w a b off s.es) (hc : s.es.length <= c) (hcm : c <= maxLen) {L : List Int} {ca : Option Addr} {cb co cc : Nat} (hC : SlAt encI 1 w ca cb co L) (hwf : ∀ x ∈ L, (Lit.int .i64 x).wf = true) (hx0 : ¬ s.Right) :
   Calls Tryz.prog 4 #[.agg #[.int .i64 s.st, .int .i64 s.lb, .int .i64 s.s0, .slice a s.es.length c], .slice ca L.length cc] w fun e w' => e = .returned (.bool true) /\ Below w.heap.size w w' := by
 have hG : GErr 0 p w := hE.sys
 have hG5 : GErr 11 p5 w := hE5.sys
 have hB0 := (Below.refl w.heap.size w).alloc (Nat.le_refl _) (Obj.cells #[.int .i64 s.st, .int .i64 s.lb, .int .i64 s.s0, .slice a s.es.length c] 24)
 have hbx := heap_alloc_new w (Obj.cells #[.int .i64 s.st, .int .i64 s.lb, .int .i64 s.s0, .slice a s.es.length c] 24)
 have HLI := hid (light12_any (c := c) (hS.below hB0 (Nat.le_refl _)))
 have hTB := Lib.tabBelow_of_tabIs hTab
 have HE := hid hE; have HE5 := hid hE5; have HTY := hid hT; have HS := hid hS; have HG := hid hG; have HG5 := hid hG5; have HTAB := hid hTB; have HCI := hid hC; have HWF := hid hwf; have HX0 := hid hx0
 have ALV : Hid (∀ w1 : World, Below w.heap.size w w1 -> Calls Tryz.prog 7 #[] w1 fun e w' => e = .returned (.bool true) /\ Below w1.heap.size w1 w') := hid (fun w1 h1 => alive12_any (hG.below h1) (hTB w1 h1))
 have HC := hid hc; have HCM := hid hcm
 obtain ⟨el, hel⟩ : ∃ el, el = s.es.length := ⟨_, rfl⟩
 obtain ⟨m, hm⟩ : ∃ m, m = L.length := ⟨_, rfl⟩
 rw [<- hel] at HLI hbx hB0 HC ⊢
 rw [<- hm]
 have HB0 := hid hB0; have HBX := hid hbx; have HEL := hid hel; have HM := hid hm
 clear hE hE5 hG hG5 hT hS hB0 hbx hc hcm hel hTab hTB hC hwf hx0 hm
 go_enter Tryz.func4, Tryz.ntmps4
 go_wp2_with fail
 refine HLI.out.mono ?_
 rintro e w1 ⟨bv, rfl, hbv, hB1⟩
 have HBX1 := hid ((hB1.block w.heap.size (by simp)).trans HBX.out)
 have HB1 := hid (HB0.out.trans (hB1.mono (by simp)))
 have HBV := hid hbv
 clear hbv hB1 HLI HB0 HBX
 cases bv
 · go_wp2_with fail
   refine (ALV.out _ HB1.out).mono ?_
   rintro e w2 ⟨rfl, hB⟩
   have HB2 := hid (HB1.out.trans (hB.mono HB1.out.size))
   clear hB
   go_wp2
   go_ret
   exact ⟨rfl, HB2.out⟩
 by_cases hm12 : (1200 : Int) < (m : Int)
 · go_wp2_with fail
   refine (ALV.out _ HB1.out).mono ?_
   rintro e w2 ⟨rfl, hB⟩
   have HB2 := hid (HB1.out.trans (hB.mono HB1.out.size))
   clear hB
   go_wp2
   go_ret
   exact ⟨rfl, HB2.out⟩
 have hlt := HBV.out rfl
 have hel1 : el <= 11000 := by rcases hlt with h | h <;> omega
 have hli := lentInts_any (c := cc) (HCI.out.below HB1.out (Nat.le_refl _)) (by rw [<- HM.out]; omega)
 rw [<- HM.out] at hli
 have HLI := hid hli
 clear HBV hlt hli
 go_wp2_with fail
 refine HLI.out.mono ?_
 rintro e w2 ⟨lv, rfl, hlent, hB2⟩
 obtain ⟨g, cap, hlv, _, _, hlg⟩ := hlent.ex
 have hgl := hlg.lt (by simp)
 rw [<- HM.out] at hlv
 subst hlv
 have HL := hid hlent
 have HX2 := hid ((hB2.block w.heap.size (Array.getElem?_eq_some_iff.1 HBX1.out).1).trans HBX1.out)
 have HB2 := hid (HB1.out.trans (hB2.mono HB1.out.size))
 have hxl2 := (Array.getElem?_eq_some_iff.1 HX2.out).1
 have hU2 : ∀ V, Below w2.heap.size w2 V -> (V.cell? ⟨w.heap.size, 0, none⟩ = some (.int .i64 s.st) /\ V.cell? ⟨w.heap.size, 1, none⟩ = some (.int .i64 s.lb) /\ V.cell? ⟨w.heap.size, 2, none⟩ = some (.int .i64 s.s0) /\ V.cell? ⟨w.heap.size, 3, none⟩ = some (.slice a el c)) /\ w.heap.size < V.heap.size /\ LentI V (.slice (some ⟨g, 0, none⟩) m cap) L /\ SlAt encI 1 V (some ⟨g, 0, none⟩) g 0 L /\ SlAt encE 3 V a b off s.es /\ SlAt encI 1 V ca cb co L /\ Below w.heap.size w V := fun V hV => by
   have h1 := (hV.block _ hxl2).trans HX2.out
   have hb := HB2.out.trans (hV.mono HB2.out.size)
   exact ⟨sysG h1, (Array.getElem?_eq_some_iff.1 h1).1, HL.out.below hV, (hlg.pre).below hV (Nat.le_refl _), HS.out.below hb (Nat.le_refl _), HCI.out.below hb (Nat.le_refl _), hb⟩
 have HU := hid hU2
 obtain ⟨⟨x0, x1, x2, x3⟩, xl, _⟩ := hU2 w2 (Below.refl _ _)
 have hHA := refHanded_no brName (by decide) (c := c) HX0.out (HS.out.below HB2.out (Nat.le_refl _))
 rw [<- HEL.out] at hHA
 obtain ⟨ly, hly⟩ : ∃ ly, ly = brName ++ ⟨#[32]⟩ ++ sysName ++ ⟨#[32]⟩ := ⟨_, rfl⟩
 rw [<- hly] at hHA
 have HLY := hid hly
 clear hly
 unfold brName at hHA
 have HHA := hid hHA
 clear hHA hlent hB2 hlg hU2 HLI HBX1 HX2 HB1
 go_wp2_with fail
 refine HHA.out.mono ?_
 rintro e w3 ⟨rfl, hB3⟩
 obtain ⟨W3, hW3⟩ : ∃ W3, W3 = w3.alloc (Obj.cells #[.int .i64 14, .int .i64 0, .int .i64 0, .string ly] 29) := ⟨_, rfl⟩
 have hbW3 : Below w3.heap.size w3 W3 := by rw [hW3]; exact (Below.refl _ _).alloc (Nat.le_refl _) _
 have hEB : W3.heap[w3.heap.size]? = some (.cells #[.int .i64 14, .int .i64 0, .int .i64 0, .string ly] 29 (0, 0)) := by rw [hW3]; exact heap_alloc_new w3 _
 have HU3 := hid (hB3.trans (hbW3.mono hB3.size))
 have hw23 := hB3.size
 have HEB := hid hEB; have HW3 := hid hW3
 clear hW3 hbW3 hEB hB3 x0 x1 x2 x3 xl HHA
 go_upto_region 5 with fail
 rw [<- HW3.out]
 obtain ⟨eb, heb⟩ : ∃ eb, eb = w3.heap.size := ⟨_, rfl⟩
 rw [<- heb] at HEB hw23 ⊢
 clear heb HW3
 obtain ⟨⟨z0, z1, z2, z3⟩, ⟨zf0, zf1, zf2, zf3⟩, zl⟩ := errGs HEB.out
 obtain ⟨⟨x0, x1, x2, x3⟩, xl, _⟩ := HU.out _ HU3.out
 obtain ⟨WE, hWE⟩ : ∃ WE, WE = W3 := ⟨_, rfl⟩
 subst hWE
 have HEW := HEB; have HUE := HU3
 clear zf0 zf1 zf2 zf3 z1 z2 z3 x0 x1 x2 x3 xl
 have hSYS : ∀ V, Below WE.heap.size WE V -> ((V.cell? ⟨w.heap.size, 0, none⟩ = some (.int .i64 s.st) /\ V.cell? ⟨w.heap.size, 1, none⟩ = some (.int .i64 s.lb) /\ V.cell? ⟨w.heap.size, 2, none⟩ = some (.int .i64 s.s0) /\ V.cell? ⟨w.heap.size, 3, none⟩ = some (.slice a el c)) /\ w.heap.size < V.heap.size /\ LentI V (.slice (some ⟨g, 0, none⟩) m cap) L /\ SlAt encI 1 V (some ⟨g, 0, none⟩) g 0 L /\ SlAt encE 3 V a b off s.es /\ SlAt encI 1 V ca cb co L /\ Below w.heap.size w V) /\ (V.cell? ⟨eb, 0, none⟩ = some (.int .i64 14) /\ V.cell? ⟨eb, 1, none⟩ = some (.int .i64 0) /\ V.cell? ⟨eb, 2, none⟩ = some (.int .i64 0) /\ V.cell? ⟨eb, 3, none⟩ = some (.string ly)) /\ eb < V.heap.size := fun V hV => by
   obtain ⟨h1, _, h3⟩ := errGs ((hV.block _ (Array.getElem?_eq_some_iff.1 HEW.out).1).trans HEW.out)
   exact ⟨HU.out _ (HUE.out.trans (hV.mono HUE.out.size)), h1, h3⟩
 have HSYS := hid hSYS
 have hAS : ∀ V, Below WE.heap.size WE V -> Calls Tryz.prog 94 #[.agg #[.int .i64 s.st, .int .i64 s.lb, .int .i64 s.s0, .slice a s.es.length c], .slice (some ⟨g, 0, none⟩) L.length cap] V fun e w' => ∃ v, e = .returned (.tuple #[.pointer none, v]) /\ Flt2 w' brName p v /\ Below V.heap.size V w' := fun V hV => by
   obtain ⟨⟨_, _, _, hl, hs, _, hb⟩, _, _⟩ := hSYS V hV
   exact askedNoS_any HX0.out (HG.out.below hb) (HTY.out.below hb) hs _ _ _
 have hQS : ∀ V v, Flt2 V brName p v -> ∃ fb, v = .iface 87 (.pointer (some ⟨fb, 0, none⟩)) := fun V v h => h.shape
 have hQB : ∀ V V' v, Flt2 V brName p v -> Below V.heap.size V V' -> Flt2 V' brName p v := fun V V' v h hB => h.below hB
 have hBO : ∀ V, Below WE.heap.size WE V -> _ := fun V (hV : Below WE.heap.size WE V) => bottomsErr_any (Q := fun w' v => Flt2 w' brName p v) (w := V) hQS (fun V' hV' => hAS V' (hV.trans (hV'.mono hV.size)))
 have hST : ∀ V, Below WE.heap.size WE V -> _ := fun V (hV : Below WE.heap.size WE V) => stepsErr_any (Q := fun w' v => Flt2 w' brName p v) (w := V) hQS (fun V' hV' => hAS V' (hV.trans (hV'.mono hV.size)))
 have hTO : ∀ V v, Below WE.heap.size WE V -> Flt2 V brName p v -> Calls Tryz.prog 12 #[v, .agg #[.int .i64 14, .int .i64 0, .int .i64 0, .string ly]] V fun e w' => e = .returned (.bool true) /\ Below V.heap.size V w' := fun V v hV hF => by
   obtain ⟨⟨_, _, _, _, _, _, hb⟩, _, _⟩ := hSYS V hV
   obtain ⟨vi, f1, f2⟩ := hF
   have h := told_two (k := 14) (by unfold CodeIn; omega) (HE.out.below hb) f1 f2 (by decide) (by decide)
   rw [<- HLY.out] at h
   exact h
 have hSTA : ∀ V, Below WE.heap.size WE V -> Calls Tryz.prog 22 #[.slice (some ⟨g, 0, none⟩) m cap, .slice ca L.length cc] V fun e w' => e = .returned (.bool true) /\ ∃ m, w' = V.drewN m := fun V hV => by
   obtain ⟨⟨_, _, hl, _, _, hcs, _⟩, _, _⟩ := hSYS V hV
   exact staysInts_any hl hcs (by rw [<- HM.out]; omega)
 have hALV : ∀ V, Below WE.heap.size WE V -> Calls Tryz.prog 7 #[] V fun e w' => e = .returned (.bool true) /\ Below V.heap.size V w' := fun V hV => ALV.out V (hSYS V hV).1.2.2.2.2.2.2
 rw [<- HEL.out, <- HM.out] at hBO hST
 rw [<- HM.out] at hSTA
 have HBO := hid hBO; have HST := hid hST; have HTO := hid hTO; have HSTA := hid hSTA; have HALV := hid hALV; have HQB := hid hQB; have HQS := hid hQS
 have HEND : Hid (∀ V, Below WE.heap.size WE V -> Below w.heap.size w V) := hid (fun V hV => (hSYS V hV).1.2.2.2.2.2.2)
 clear hSYS hAS hQS hQB hBO hST hTO hSTA hALV ALV HE HE5 HTY HS HG HG5
 have HBK := hid (Bk.start WE)
 go_upto_region 8 with fail
 refine at_world (fun W => Bk WE W WE.heap.size [] []) HBK.out (fun W1 hW1 => ?_)
 replace HBK := hid hW1
 clear hW1
 obtain ⟨bb, hbb⟩ : ∃ bb, bb = WE.heap.size := ⟨_, rfl⟩
 rw [<- hbb] at HBK ⊢
 clear hbb
 go_wp2_with fail
 go_loopw [8, 9, 10, 11, 12] (fun v8 _ _ _ _ wr => ∃ k : Nat, v8 = .int .i64 k /\ k <= 2 /\ Bk WE wr bb [] []) (fun v8 _ _ _ _ _ => 2 - (intOf v8).toNat)
 case atStart => exact ⟨0, rfl, by omega, HBK.out⟩
 case round =>
   obtain ⟨k, rfl, hk, hbk⟩ := hrel
   replace HBK := hid hbk
   by_cases hk2 : k < 2
   · have hkI : (k : Int) < 2 := by omega
     obtain ⟨⟨⟨x0, x1, x2, x3⟩, xl, _⟩, _, _⟩ := HSYS.out _ hbk.bel
     clear hbk
     go_wp2_with fail
     refine (HBO.out _ HBK.out.bel).mono ?_
     rintro e w5 ⟨v5, rfl, hf, hB⟩
     replace HBK := hid (HBK.out.call hB)
     obtain ⟨fb5, rfl⟩ := HQS.out _ _ hf
     have HF5 := hid hf
     clear hf hB x0 x1 x2 x3 xl
     obtain ⟨⟨⟨x0, x1, x2, x3⟩, xl, _⟩, _, _⟩ := HSYS.out _ HBK.out.bel
     go_wp2_with fail
     refine (HST.out _ HBK.out.bel).mono ?_
     rintro e w6 ⟨v6, rfl, hf, hB⟩
     replace HBK := hid (HBK.out.call hB)
     obtain ⟨fb6, rfl⟩ := HQS.out _ _ hf
     have HF6 := hid hf
     replace HF5 := hid (HQB.out _ _ _ HF5.out hB)
     clear hf hB x0 x1 x2 x3 xl
     obtain ⟨_, ⟨z0, z1, z2, z3⟩, zl⟩ := HSYS.out _ HBK.out.bel
     go_wp2_with fail
     refine (HTO.out _ _ HBK.out.bel HF5.out).mono ?_
     rintro e w7 ⟨rfl, hB⟩
     replace HBK := hid (HBK.out.call hB)
     replace HF6 := hid (HQB.out _ _ _ HF6.out hB)
     clear hB z0 z1 z2 z3 zl HF5
     obtain ⟨_, ⟨z0, z1, z2, z3⟩, zl⟩ := HSYS.out _ HBK.out.bel
     go_wp2_with fail
     refine (HTO.out _ _ HBK.out.bel HF6.out).mono ?_
     rintro e w8 ⟨rfl, hB⟩
     replace HBK := hid (HBK.out.call hB)
     clear hB z0 z1 z2 z3 zl HF6
     go_wp2_with fail
     refine (HSTA.out _ HBK.out.bel).mono ?_
     rintro e w9 ⟨rfl, q9, hw9⟩
     have hB : Below w8.heap.size w8 w9 := by rw [hw9]; exact bdrew (Below.refl _ _)
     replace HBK := hid (HBK.out.call hB)
     clear hB hw9
     obtain ⟨_, ⟨z0, z1, z2, z3⟩, zl⟩ := HSYS.out _ HBK.out.bel
     clear z1 z2 z3
     go_wp2_with fail
     go_roundw
     case rel => exact ⟨k + 1, by go_num, by omega, HBK.out⟩
     case measure => simp [intOf]; omega
   · clear hbk
     go_wp2_with fail
     refine (HALV.out _ HBK.out.bel).mono ?_
     rintro e w5 ⟨rfl, hB⟩
     replace HBK := hid (HBK.out.call hB)
     clear hB
     go_wp2_with fail
     refine HBK.out.apart.mono ?_
     rintro e w6 ⟨rfl, hB⟩
     have HB6 := hid hB
     clear hB
     go_wp2_with fail
     go_ret
     exact ⟨rfl, HEND.out _ HB6.out⟩
theorem brStNoC_any {w : World} {p p5 : Addr} (hE : ErrsK 14 p w) (hE5 : ErrsK 15 p5 w) (hT : ErrType w) (hTab : Lib.TabIs Tryz.prog w "internal/strconv.uint64pow10" .u64 Lib.pow10Tab) {s : Lts} {a : Option Addr} {b off c : Nat} (hS : SlAt encE 3 w a b off s.es) (hc : s.es.length <= c) (hcm : c <= maxLen) {L : List Int} {ca : Option Addr} {cb co cc : Nat} (hC : SlAt encI 1 w ca cb co L) (hwf : ∀ x ∈ L, (Lit.int .i64 x).wf = true) (hx0 : s.Right /\ clB s.st L = false) :
   Calls Tryz.prog 4 #[.agg #[.int .i64 s.st, .int .i64 s.lb, .int .i64 s.s0, .slice a s.es.length c], .slice ca L.length cc] w fun e w' => e = .returned (.bool true) /\ Below w.heap.size w w' := by
 have hG : GErr 0 p w := hE.sys
 have hG5 : GErr 11 p5 w := hE5.sys
 have hB0 := (Below.refl w.heap.size w).alloc (Nat.le_refl _) (Obj.cells #[.int .i64 s.st, .int .i64 s.lb, .int .i64 s.s0, .slice a s.es.length c] 24)
 have hbx := heap_alloc_new w (Obj.cells #[.int .i64 s.st, .int .i64 s.lb, .int .i64 s.s0, .slice a s.es.length c] 24)
 have HLI := hid (light12_any (c := c) (hS.below hB0 (Nat.le_refl _)))
 have hTB := Lib.tabBelow_of_tabIs hTab
 have HE := hid hE; have HE5 := hid hE5; have HTY := hid hT; have HS := hid hS; have HG := hid hG; have HG5 := hid hG5; have HTAB := hid hTB; have HCI := hid hC; have HWF := hid hwf; have HX0 := hid hx0
 have ALV : Hid (∀ w1 : World, Below w.heap.size w w1 -> Calls Tryz.prog 7 #[] w1 fun e w' => e = .returned (.bool true) /\ Below w1.heap.size w1 w') := hid (fun w1 h1 => alive12_any (hG.below h1) (hTB w1 h1))
 have HC := hid hc; have HCM := hid hcm
 obtain ⟨el, hel⟩ : ∃ el, el = s.es.length := ⟨_, rfl⟩
 obtain ⟨m, hm⟩ : ∃ m, m = L.length := ⟨_, rfl⟩
 rw [<- hel] at HLI hbx hB0 HC ⊢
 rw [<- hm]
 have HB0 := hid hB0; have HBX := hid hbx; have HEL := hid hel; have HM := hid hm
 clear hE hE5 hG hG5 hT hS hB0 hbx hc hcm hel hTab hTB hC hwf hx0 hm
 go_enter Tryz.func4, Tryz.ntmps4
 go_wp2_with fail
 refine HLI.out.mono ?_
 rintro e w1 ⟨bv, rfl, hbv, hB1⟩
 have HBX1 := hid ((hB1.block w.heap.size (by simp)).trans HBX.out)
 have HB1 := hid (HB0.out.trans (hB1.mono (by simp)))
 have HBV := hid hbv
 clear hbv hB1 HLI HB0 HBX
 cases bv
 · go_wp2_with fail
   refine (ALV.out _ HB1.out).mono ?_
   rintro e w2 ⟨rfl, hB⟩
   have HB2 := hid (HB1.out.trans (hB.mono HB1.out.size))
   clear hB
   go_wp2
   go_ret
   exact ⟨rfl, HB2.out⟩
 by_cases hm12 : (1200 : Int) < (m : Int)
 · go_wp2_with fail
   refine (ALV.out _ HB1.out).mono ?_
   rintro e w2 ⟨rfl, hB⟩
   have HB2 := hid (HB1.out.trans (hB.mono HB1.out.size))
   clear hB
   go_wp2
   go_ret
   exact ⟨rfl, HB2.out⟩
 have hlt : s.st <= 60 /\ el <= 400 := (HBV.out rfl).resolve_right (fun h => h.1 HX0.out.1)
 have hel1 : el <= 400 := hlt.2
 have hli := lentInts_any (c := cc) (HCI.out.below HB1.out (Nat.le_refl _)) (by rw [<- HM.out]; omega)
 rw [<- HM.out] at hli
 have HLI := hid hli
 clear HBV hlt hli
 go_wp2_with fail
 refine HLI.out.mono ?_
 rintro e w2 ⟨lv, rfl, hlent, hB2⟩
 obtain ⟨g, cap, hlv, _, _, hlg⟩ := hlent.ex
 have hgl := hlg.lt (by simp)
 rw [<- HM.out] at hlv
 subst hlv
 have HL := hid hlent
 have HX2 := hid ((hB2.block w.heap.size (Array.getElem?_eq_some_iff.1 HBX1.out).1).trans HBX1.out)
 have HB2 := hid (HB1.out.trans (hB2.mono HB1.out.size))
 have hxl2 := (Array.getElem?_eq_some_iff.1 HX2.out).1
 have hU2 : ∀ V, Below w2.heap.size w2 V -> (V.cell? ⟨w.heap.size, 0, none⟩ = some (.int .i64 s.st) /\ V.cell? ⟨w.heap.size, 1, none⟩ = some (.int .i64 s.lb) /\ V.cell? ⟨w.heap.size, 2, none⟩ = some (.int .i64 s.s0) /\ V.cell? ⟨w.heap.size, 3, none⟩ = some (.slice a el c)) /\ w.heap.size < V.heap.size /\ LentI V (.slice (some ⟨g, 0, none⟩) m cap) L /\ SlAt encI 1 V (some ⟨g, 0, none⟩) g 0 L /\ SlAt encE 3 V a b off s.es /\ SlAt encI 1 V ca cb co L /\ Below w.heap.size w V := fun V hV => by
   have h1 := (hV.block _ hxl2).trans HX2.out
   have hb := HB2.out.trans (hV.mono HB2.out.size)
   exact ⟨sysG h1, (Array.getElem?_eq_some_iff.1 h1).1, HL.out.below hV, (hlg.pre).below hV (Nat.le_refl _), HS.out.below hb (Nat.le_refl _), HCI.out.below hb (Nat.le_refl _), hb⟩
 have HU := hid hU2
 obtain ⟨⟨x0, x1, x2, x3⟩, xl, _⟩ := hU2 w2 (Below.refl _ _)
 have hHA := refHanded_yes brName (c := c) HX0.out.1 (HS.out.below HB2.out (Nat.le_refl _))
 rw [<- HEL.out] at hHA
 unfold brName at hHA
 have HHA := hid hHA
 clear hHA hlent hB2 hlg hU2 HLI HBX1 HX2 HB1
 go_wp2_with fail
 refine HHA.out.mono ?_
 rintro e w3 ⟨rfl, hB3⟩
 obtain ⟨W3, hW3⟩ : ∃ W3, W3 = w3.alloc (Obj.cells #[.int .i64 0, .int .i64 0, .int .i64 0, .string ⟨#[]⟩] 29) := ⟨_, rfl⟩
 have hbW3 : Below w3.heap.size w3 W3 := by rw [hW3]; exact (Below.refl _ _).alloc (Nat.le_refl _) _
 have hEB : W3.heap[w3.heap.size]? = some (.cells #[.int .i64 0, .int .i64 0, .int .i64 0, .string ⟨#[]⟩] 29 (0, 0)) := by rw [hW3]; exact heap_alloc_new w3 _
 have HU3 := hid (hB3.trans (hbW3.mono hB3.size))
 have hw23 := hB3.size
 have HEB := hid hEB; have HW3 := hid hW3
 clear hW3 hbW3 hEB hB3 x0 x1 x2 x3 xl HHA
 go_upto_region 5 with fail
 rw [<- HW3.out]
 obtain ⟨eb, heb⟩ : ∃ eb, eb = w3.heap.size := ⟨_, rfl⟩
 rw [<- heb] at HEB hw23 ⊢
 clear heb HW3
 obtain ⟨⟨z0, z1, z2, z3⟩, ⟨zf0, zf1, zf2, zf3⟩, zl⟩ := errGs HEB.out
 obtain ⟨⟨x0, x1, x2, x3⟩, xl, _⟩ := HU.out _ HU3.out
 have hcl := refCls7_any (c := cc) s.st s.lb s.s0 (.slice a s.es.length c) (HU.out _ HU3.out).2.2.2.2.2.1 (by rw [<- HM.out]; omega)
 rw [HX0.out.2, <- HM.out, <- HEL.out] at hcl
 have HCLS := hid hcl
 obtain ⟨ly, hly⟩ : ∃ ly, ly = brName ++ ⟨#[32]⟩ := ⟨_, rfl⟩
 have hbd := bad_any brName (by decide) 15
 rw [<- hly] at hbd
 unfold brName at hbd
 have HLY := hid hly; have HBD := hid hbd
 clear hcl hly hbd z1 z2 z3 zf0 zf1 zf2 zf3
 go_wp2_with fail
 refine HCLS.out.mono ?_
 rintro e w4 ⟨rfl, hB4⟩
 have HEB4 := hid ((hB4.block _ (Array.getElem?_eq_some_iff.1 HEB.out).1).trans HEB.out)
 have HU4 := hid (HU3.out.trans (hB4.mono HU3.out.size))
 clear hB4 z0 zl x0 x1 x2 x3 xl HCLS
 go_wp2_with fail
 refine (HBD.out _).mono ?_
 rintro e w5 ⟨rfl, hB5⟩
 have HEB5 := hid ((hB5.block _ (Array.getElem?_eq_some_iff.1 HEB4.out).1).trans HEB4.out)
 have HU5 := hid (HU4.out.trans (hB5.mono HU4.out.size))
 obtain ⟨⟨z0, z1, z2, z3⟩, ⟨zf0, zf1, zf2, zf3⟩, zl⟩ := errGs HEB5.out
 clear hB5 HEB HEB4 HU3 HU4 HBD
 go_upto_region 7 with fail
 obtain ⟨WE, hWE⟩ : ∃ WE, WE = (((w5.setCell ⟨eb, 0, none⟩ (.int .i64 15)).setCell ⟨eb, 1, none⟩ (.int .i64 0)).setCell ⟨eb, 2, none⟩ (.int .i64 0)).setCell ⟨eb, 3, none⟩ (.string ly) := ⟨_, rfl⟩
 have hEW : WE.heap[eb]? = some (.cells #[.int .i64 15, .int .i64 0, .int .i64 0, .string ly] 29 (0, 0)) := by
   rw [hWE, heap_setCell_same _ _ _ _ _ _ (heap_setCell_same _ _ _ _ _ _ (heap_setCell_same _ _ _ _ _ _ (heap_setCell_same _ _ _ _ _ _ HEB5.out)))]
   rfl
 have HUE : Hid (Below w2.heap.size w2 WE) := hid (by rw [hWE]; exact (((HU5.out.setCell hw23 _).setCell hw23 _).setCell hw23 _).setCell hw23 _)
 have HEW := hid hEW
 rw [<- hWE]
 clear hWE hEW z0 z1 z2 z3 zf0 zf1 zf2 zf3 zl HEB5 HU5
 have hSYS : ∀ V, Below WE.heap.size WE V -> ((V.cell? ⟨w.heap.size, 0, none⟩ = some (.int .i64 s.st) /\ V.cell? ⟨w.heap.size, 1, none⟩ = some (.int .i64 s.lb) /\ V.cell? ⟨w.heap.size, 2, none⟩ = some (.int .i64 s.s0) /\ V.cell? ⟨w.heap.size, 3, none⟩ = some (.slice a el c)) /\ w.heap.size < V.heap.size /\ LentI V (.slice (some ⟨g, 0, none⟩) m cap) L /\ SlAt encI 1 V (some ⟨g, 0, none⟩) g 0 L /\ SlAt encE 3 V a b off s.es /\ SlAt encI 1 V ca cb co L /\ Below w.heap.size w V) /\ (V.cell? ⟨eb, 0, none⟩ = some (.int .i64 15) /\ V.cell? ⟨eb, 1, none⟩ = some (.int .i64 0) /\ V.cell? ⟨eb, 2, none⟩ = some (.int .i64 0) /\ V.cell? ⟨eb, 3, none⟩ = some (.string ly)) /\ eb < V.heap.size := fun V hV => by
   obtain ⟨h1, _, h3⟩ := errGs ((hV.block _ (Array.getElem?_eq_some_iff.1 HEW.out).1).trans HEW.out)
   exact ⟨HU.out _ (HUE.out.trans (hV.mono HUE.out.size)), h1, h3⟩
 have HSYS := hid hSYS
 have hAS : ∀ V, Below WE.heap.size WE V -> Calls Tryz.prog 94 #[.agg #[.int .i64 s.st, .int .i64 s.lb, .int .i64 s.s0, .slice a s.es.length c], .slice (some ⟨g, 0, none⟩) L.length cap] V fun e w' => ∃ v, e = .returned (.tuple #[.pointer none, v]) /\ FaultAt w' v brName (.iface 323 (.pointer (some p5))) /\ Below V.heap.size V w' := fun V hV => by
   obtain ⟨⟨_, _, _, hl, hs, _, hb⟩, _, _⟩ := hSYS V hV
   exact askedNoC_any HX0.out.1 (HG.out.below hb) (HG5.out.below hb) hs hl (by rw [<- HM.out]; omega) HX0.out.2 HWF.out
 have hQS : ∀ V v, FaultAt V v brName (.iface 323 (.pointer (some p5))) -> ∃ fb, v = .iface 87 (.pointer (some ⟨fb, 0, none⟩)) := fun V v h => by obtain ⟨fb, e, _⟩ := h.ex; exact ⟨fb, e⟩
 have hQB : ∀ V V' v, FaultAt V v brName (.iface 323 (.pointer (some p5))) -> Below V.heap.size V V' -> FaultAt V' v brName (.iface 323 (.pointer (some p5))) := fun V V' v h hB => h.below hB
 have hBO : ∀ V, Below WE.heap.size WE V -> _ := fun V (hV : Below WE.heap.size WE V) => bottomsErr_any (Q := fun w' v => FaultAt w' v brName (.iface 323 (.pointer (some p5)))) (w := V) hQS (fun V' hV' => hAS V' (hV.trans (hV'.mono hV.size)))
 have hST : ∀ V, Below WE.heap.size WE V -> _ := fun V (hV : Below WE.heap.size WE V) => stepsErr_any (Q := fun w' v => FaultAt w' v brName (.iface 323 (.pointer (some p5)))) (w := V) hQS (fun V' hV' => hAS V' (hV.trans (hV'.mono hV.size)))
 have hTO : ∀ V v, Below WE.heap.size WE V -> FaultAt V v brName (.iface 323 (.pointer (some p5))) -> Calls Tryz.prog 12 #[v, .agg #[.int .i64 15, .int .i64 0, .int .i64 0, .string ly]] V fun e w' => e = .returned (.bool true) /\ Below V.heap.size V w' := fun V v hV hF => by
   obtain ⟨⟨_, _, _, _, _, _, hb⟩, _, _⟩ := hSYS V hV
   have h := told_one (k := 15) (by unfold CodeIn; omega) (HE5.out.below hb) hF (by decide)
   rw [<- HLY.out] at h
   exact h
 have hSTA : ∀ V, Below WE.heap.size WE V -> Calls Tryz.prog 22 #[.slice (some ⟨g, 0, none⟩) m cap, .slice ca L.length cc] V fun e w' => e = .returned (.bool true) /\ ∃ m, w' = V.drewN m := fun V hV => by
   obtain ⟨⟨_, _, hl, _, _, hcs, _⟩, _, _⟩ := hSYS V hV
   exact staysInts_any hl hcs (by rw [<- HM.out]; omega)
 have hALV : ∀ V, Below WE.heap.size WE V -> Calls Tryz.prog 7 #[] V fun e w' => e = .returned (.bool true) /\ Below V.heap.size V w' := fun V hV => ALV.out V (hSYS V hV).1.2.2.2.2.2.2
 rw [<- HEL.out, <- HM.out] at hBO hST
 rw [<- HM.out] at hSTA
 have HBO := hid hBO; have HST := hid hST; have HTO := hid hTO; have HSTA := hid hSTA; have HALV := hid hALV; have HQB := hid hQB; have HQS := hid hQS
 have HEND : Hid (∀ V, Below WE.heap.size WE V -> Below w.heap.size w V) := hid (fun V hV => (hSYS V hV).1.2.2.2.2.2.2)
 clear hSYS hAS hQS hQB hBO hST hTO hSTA hALV ALV HE HE5 HTY HS HG HG5
 have HBK := hid (Bk.start WE)
 go_upto_region 8 with fail
 refine at_world (fun W => Bk WE W WE.heap.size [] []) HBK.out (fun W1 hW1 => ?_)
 replace HBK := hid hW1
 clear hW1
 obtain ⟨bb, hbb⟩ : ∃ bb, bb = WE.heap.size := ⟨_, rfl⟩
 rw [<- hbb] at HBK ⊢
 clear hbb
 go_wp2_with fail
 go_loopw [8, 9, 10, 11, 12] (fun v8 _ _ _ _ wr => ∃ k : Nat, v8 = .int .i64 k /\ k <= 2 /\ Bk WE wr bb [] []) (fun v8 _ _ _ _ _ => 2 - (intOf v8).toNat)
 case atStart => exact ⟨0, rfl, by omega, HBK.out⟩
 case round =>
   obtain ⟨k, rfl, hk, hbk⟩ := hrel
   replace HBK := hid hbk
   by_cases hk2 : k < 2
   · have hkI : (k : Int) < 2 := by omega
     obtain ⟨⟨⟨x0, x1, x2, x3⟩, xl, _⟩, _, _⟩ := HSYS.out _ hbk.bel
     clear hbk
     go_wp2_with fail
     refine (HBO.out _ HBK.out.bel).mono ?_
     rintro e w5 ⟨v5, rfl, hf, hB⟩
     replace HBK := hid (HBK.out.call hB)
     obtain ⟨fb5, rfl⟩ := HQS.out _ _ hf
     have HF5 := hid hf
     clear hf hB x0 x1 x2 x3 xl
     obtain ⟨⟨⟨x0, x1, x2, x3⟩, xl, _⟩, _, _⟩ := HSYS.out _ HBK.out.bel
     go_wp2_with fail
     refine (HST.out _ HBK.out.bel).mono ?_
     rintro e w6 ⟨v6, rfl, hf, hB⟩
     replace HBK := hid (HBK.out.call hB)
     obtain ⟨fb6, rfl⟩ := HQS.out _ _ hf
     have HF6 := hid hf
     replace HF5 := hid (HQB.out _ _ _ HF5.out hB)
     clear hf hB x0 x1 x2 x3 xl
     obtain ⟨_, ⟨z0, z1, z2, z3⟩, zl⟩ := HSYS.out _ HBK.out.bel
     go_wp2_with fail
     refine (HTO.out _ _ HBK.out.bel HF5.out).mono ?_
     rintro e w7 ⟨rfl, hB⟩
     replace HBK := hid (HBK.out.call hB)
     replace HF6 := hid (HQB.out _ _ _ HF6.out hB)
     clear hB z0 z1 z2 z3 zl HF5
     obtain ⟨_, ⟨z0, z1, z2, z3⟩, zl⟩ := HSYS.out _ HBK.out.bel
     go_wp2_with fail
     refine (HTO.out _ _ HBK.out.bel HF6.out).mono ?_
     rintro e w8 ⟨rfl, hB⟩
     replace HBK := hid (HBK.out.call hB)
     clear hB z0 z1 z2 z3 zl HF6
     go_wp2_with fail
     refine (HSTA.out _ HBK.out.bel).mono ?_
     rintro e w9 ⟨rfl, q9, hw9⟩
     have hB : Below w8.heap.size w8 w9 := by rw [hw9]; exact bdrew (Below.refl _ _)
     replace HBK := hid (HBK.out.call hB)
     clear hB hw9
     obtain ⟨_, ⟨z0, z1, z2, z3⟩, zl⟩ := HSYS.out _ HBK.out.bel
     clear z1 z2 z3
     go_wp2_with fail
     go_roundw
     case rel => exact ⟨k + 1, by go_num, by omega, HBK.out⟩
     case measure => simp [intOf]; omega
   · clear hbk
     go_wp2_with fail
     refine (HALV.out _ HBK.out.bel).mono ?_
     rintro e w5 ⟨rfl, hB⟩
     replace HBK := hid (HBK.out.call hB)
     clear hB
     go_wp2_with fail
     refine HBK.out.apart.mono ?_
     rintro e w6 ⟨rfl, hB⟩
     have HB6 := hid hB
     clear hB
     go_wp2_with fail
     go_ret
     exact ⟨rfl, HEND.out _ HB6.out⟩
theorem brSt_any {w : World} {p p5 : Addr} (hE : ErrsK 14 p w) (hE5 : ErrsK 15 p5 w) (hT : ErrType w) (hTab : Lib.TabIs Tryz.prog w "internal/strconv.uint64pow10" .u64 Lib.pow10Tab) {s : Lts} {a : Option Addr} {b off c : Nat} (hS : SlAt encE 3 w a b off s.es) (hc : s.es.length <= c) (hcm : c <= maxLen) {L : List Int} {ca : Option Addr} {cb co cc : Nat} (hC : SlAt encI 1 w ca cb co L) (hwf : ∀ x ∈ L, (Lit.int .i64 x).wf = true) :
   Calls Tryz.prog 4 #[.agg #[.int .i64 s.st, .int .i64 s.lb, .int .i64 s.s0, .slice a s.es.length c], .slice ca L.length cc] w fun e w' => e = .returned (.bool true) /\ Below w.heap.size w w' := by
 by_cases hr : s.Right
 · cases hcl : clB s.st L with
   | true => exact brStYes_any hE hE5 hT hTab hS hc hcm hC hwf ⟨hr, hcl⟩
   | false => exact brStNoC_any hE hE5 hT hTab hS hc hcm hC hwf ⟨hr, hcl⟩
 · exact brStNoS_any hE hE5 hT hTab hS hc hcm hC hwf hr
end Go.Proofs.YtebmlhaoeldhkaaGreatDoor

/-
 Lemmas.
-/
import Derived.Test.YtebmlhaoeldhkaaGreatDoorGBrS
import Derived.Test.YtebmlhaoeldhkaaGreatDoorGNew
import Derived.Test.YtebmlhaoeldhkaaGreatDoorGTauG
import Derived.Test.YtebmlhaoeldhkaaGreatDoorGAs
import Derived.Deep.QuietTactic
import Derived.BigQuiet
set_option maxHeartbeats 8000000
set_option maxRecDepth 100000
namespace Go.Proofs.YtebmlhaoeldhkaaGreatDoor
open Go.RowKit Pl
open Lib (hid)
theorem bottomFn_any {w : World} {a : Option Addr} {b off c n sb kb : Nat} {C : Nat -> Int} (hC : SlAt encI 1 w a b off (fl n C)) {p t : Nat} (hp : p < n) (ht : t < n) (hs : w.cell? ⟨sb, 0, none⟩ = some (.int .i64 (p : Int))) (hk : w.cell? ⟨kb, 0, none⟩ = some (.slice a n c)) (l : Int) :
   Calls Tryz.prog 97 #[.agg #[.int .i64 l, .int .i64 (t : Int)], .pointer (some ⟨sb, 0, none⟩), .pointer (some ⟨kb, 0, none⟩)] w fun e w' => e = .returned (.bool (decide (l = 0) && decide (C t = C p))) /\ Below w.heap.size w w' := by
 have hsl := World.block_lt_of_cell? _ _ hs
 have hkl := World.block_lt_of_cell? _ _ hk
 simp only at hsl hkl
 have hb0 := (Below.refl w.heap.size w).alloc (Nat.le_refl _) (.cells #[.int .i64 l, .int .i64 (t : Int)] 117)
 have HI := hid (inert_any (c := c) (hC.below hb0 (Nat.le_refl _)) hp ht l)
 have HB := hid hb0
 clear hC hb0
 go_enter Tryz.func97, Tryz.ntmps97
 go_wp2_with fail
 refine HI.out.mono ?_
 rintro e w2 ⟨rfl, hB⟩
 have HB2 := hid (HB.out.trans (hB.mono (by simp)))
 clear hB HI
 go_wp2_with fail
 go_ret
 exact ⟨rfl, HB2.out⟩
theorem idxStepB_any {w : World} {a : Option Addr} {b off c : Nat} {ss : List S} (hS : SlAt encS 2 w a b off ss) (hl : ss.length <= 1000000) {pb sb : Nat} {P : S -> Bool}
   (hK : ∀ W x, Below w.heap.size w W -> x ∈ ss -> Calls Tryz.prog 97 #[.agg #[.int .i64 x.1, .int .i64 x.2], .pointer (some ⟨pb, 0, none⟩), .pointer (some ⟨sb, 0, none⟩)] W fun e w' => e = .returned (.bool (P x)) /\ Below W.heap.size W w') :
   Calls Tryz.prog 155 #[.slice a ss.length c, .func (.func 97) #[] #[.pointer (some ⟨pb, 0, none⟩), .pointer (some ⟨sb, 0, none⟩)]] w fun e w' => (∃ j : Int, e = .returned (.int .i64 j) /\ (0 <= j ↔ ss.any P = true)) /\ Below w.heap.size w w' := by
 have HS := hid hS; have HK := hid hK
 obtain ⟨m, hm⟩ : ∃ m, m = ss.length := ⟨_, rfl⟩
 rw [<- hm] at hl ⊢
 have HM := hid hm
 clear hS hK hm
 go_enter Tryz.func155, Tryz.ntmps155
 go_wp2_with fail
 go_loopw [5, 8] (fun _ v8 wr => ∃ k : Nat, v8 = .int .i64 k /\ k <= m /\ (∀ x ∈ ss.take k, P x = false) /\ Below w.heap.size w wr) (fun _ v8 _ => m - (intOf v8).toNat)
 case atStart => exact ⟨0, rfl, Nat.zero_le _, by simp, Below.refl _ _⟩
 case round =>
   obtain ⟨k, rfl, hk, hno, hB⟩ := hrel
   have HNO := hid hno; have HB := hid hB
   clear hno
   by_cases hkm : k < m
   · obtain ⟨x, hx⟩ := getElem?_of_lt (xs := ss) (i := k) (by rw [<- HM.out]; exact hkm)
     have hsl := HS.out.below hB (Nat.le_refl _)
     obtain rfl := hsl.ad (by rw [<- HM.out]; omega)
     have d0 := hsl.s0 hx; have d1 := hsl.s1 hx
     have dl := hsl.lt (by rw [<- HM.out]; omega)
     have hkI : (k : Int) < (m : Int) := by omega
     have HX := hid hx
     have HC := hid (HK.out wr x hB (List.mem_of_getElem? hx))
     obtain ⟨r, hr⟩ : ∃ r, r = P x := ⟨_, rfl⟩
     rw [<- hr] at HC
     have HR := hid hr
     clear hsl hx hr hB
     cases r
     · go_wp2_with fail
       refine HC.out.mono ?_
       rintro e w2 ⟨rfl, hB2⟩
       have HB2 := hid (HB.out.trans (hB2.mono HB.out.size))
       have HN2 : Hid (∀ z ∈ ss.take (k + 1), P z = false) := hid (fun z hz => by
         rw [take_snoc HX.out] at hz
         rcases List.mem_append.1 hz with hz | hz
         · exact HNO.out z hz
         · simp at hz; subst hz; exact HR.out.symm)
       clear hB2 HC
       go_wp2_with fail
       go_roundw
       case rel => exact ⟨k + 1, by go_num, by omega, HN2.out, HB2.out⟩
       case measure => simp [intOf]; omega
     · go_wp2_with fail
       refine HC.out.mono ?_
       rintro e w2 ⟨rfl, hB2⟩
       have HB2 := hid (HB.out.trans (hB2.mono HB.out.size))
       have HF : Hid (ss.any P = true) := hid (List.any_eq_true.2 ⟨x, List.mem_of_getElem? HX.out, HR.out.symm⟩)
       clear hB2 HC
       go_wp2_with fail
       go_ret
       exact ⟨⟨_, rfl, by simp [HF.out]⟩, HB2.out⟩
   · obtain rfl : k = m := by omega
     have HF : Hid (ss.any P = false) := hid (by
       have h1 := HNO.out
       rw [HM.out, List.take_length] at h1
       rw [List.any_eq_false]
       intro x hx
       rw [h1 x hx]; simp)
     clear hB
     go_wp2_with fail
     go_ret
     exact ⟨⟨_, rfl, by simp [HF.out]⟩, HB.out⟩
theorem hasStepB_any {w : World} {a : Option Addr} {b off c : Nat} {ss : List S} (hS : SlAt encS 2 w a b off ss) (hl : ss.length <= 1000000) {pb sb : Nat} {P : S -> Bool}
   (hK : ∀ W x, Below w.heap.size w W -> x ∈ ss -> Calls Tryz.prog 97 #[.agg #[.int .i64 x.1, .int .i64 x.2], .pointer (some ⟨pb, 0, none⟩), .pointer (some ⟨sb, 0, none⟩)] W fun e w' => e = .returned (.bool (P x)) /\ Below W.heap.size W w') :
   Calls Tryz.prog 95 #[.slice a ss.length c, .func (.func 97) #[] #[.pointer (some ⟨pb, 0, none⟩), .pointer (some ⟨sb, 0, none⟩)]] w fun e w' => e = .returned (.bool (ss.any P)) /\ Below w.heap.size w w' := by
 have HI := hid (idxStepB_any (c := c) hS hl hK)
 clear hS hK hl
 go_enter Tryz.func95, Tryz.ntmps95
 go_wp2_with fail
 refine HI.out.mono ?_
 rintro e w2 ⟨⟨j, rfl, hj⟩, hB⟩
 have HJ := hid hj; have HB := hid hB
 clear hj hB HI
 go_wp2_with fail
 go_ret
 refine ⟨?_, HB.out⟩
 have h := HJ.out
 cases hP : ss.any P with
 | true => simp [h.2 hP]
 | false =>
   have : ¬ 0 <= j := fun e => by rw [h.1 e] at hP; cases hP
   simp [this]
theorem askedB_any {p : Addr} {s : Lts} {n : Nat} (hr : s.Right) (hn : s.st = (n : Int)) {a : Option Addr} {b off c : Nat} {w : World} (hG : GErr 0 p w) (hS : SlAt encE 3 w a b off s.es)
   {L : List Int} {ca : Option Addr} {cb co cc : Nat} (hC : SlAt encI 1 w ca cb co L) (hl : L.length = n) (hcl : clB (n : Int) L = true) (hwf : ∀ x ∈ L, (Lit.int .i64 x).wf = true) :
   Calls Tryz.prog 94 #[.agg #[.int .i64 s.st, .int .i64 s.lb, .int .i64 s.s0, .slice a s.es.length c], .slice ca n cc] w fun e w' => ∃ gb, e = .returned (.tuple #[.pointer (some ⟨gb, 0, none⟩), .nilIface]) /\ GraphAt w' gb s.norm /\ Below w.heap.size w w' := by
 have hst := hr.st0
 have hn1 : n <= 1000 := by omega
 have hB0 := (Below.refl w.heap.size w).alloc (Nat.le_refl _) (Obj.cells #[.int .i64 s.st, .int .i64 s.lb, .int .i64 s.s0, .slice a s.es.length c] 24)
 have hbx := heap_alloc_new w (Obj.cells #[.int .i64 s.st, .int .i64 s.lb, .int .i64 s.s0, .slice a s.es.length c] 24)
 have HNW := hid (new_ok (c := c) hr (hG.below hB0) (hS.below hB0 (Nat.le_refl _)))
 have HG := hid hG; have HC := hid hC; have HB0 := hid hB0; have HBX := hid hbx; have HL := hid hl; have HCL := hid hcl; have HWF := hid hwf
 rw [hn] at HNW HB0 HBX ⊢
 clear hG hS hC hB0 hbx hr hn hst hl hcl hwf
 go_enter Tryz.func94, Tryz.ntmps94
 go_wp2_with fail
 refine HNW.out.mono ?_
 rintro e w1 ⟨gb, rfl, hgr, hB1, _⟩
 have hb1 := HB0.out.trans (hB1.mono (by simp))
 have hx1 := (hB1.block w.heap.size (by simp)).trans HBX.out
 have hg := (HG.out.below hb1).cell
 have hcs := classes_any (c := cc) (n : Int) s.lb s.s0 (.slice a s.es.length c) (HC.out.below hb1 (Nat.le_refl _)) (by rw [HL.out]; omega) HWF.out
 rw [HL.out, HCL.out] at hcs
 have HCS := hid hcs; have HB1 := hid hb1; have HGR := hid hgr
 have x0 : w1.cell? ⟨w.heap.size, 0, none⟩ = some (.int .i64 n) := by simp [World.cell?, hx1]
 have x1 : w1.cell? ⟨w.heap.size, 1, none⟩ = some (.int .i64 s.lb) := by simp [World.cell?, hx1]
 have x2 : w1.cell? ⟨w.heap.size, 2, none⟩ = some (.int .i64 s.s0) := by simp [World.cell?, hx1]
 have x3 : w1.cell? ⟨w.heap.size, 3, none⟩ = some (.slice a s.es.length c) := by simp [World.cell?, hx1]
 have xl := (Array.getElem?_eq_some_iff.1 hx1).1
 clear hgr hB1 hb1 hx1 hcs HNW HB0 HBX
 go_wp2_with fail
 refine (isNilE_any _ _).mono ?_
 rintro e w2 ⟨rfl, rfl⟩
 go_wp2_with fail
 refine HCS.out.mono ?_
 rintro e w3 ⟨rfl, hB3⟩
 have HB3 := hid (HB1.out.trans (hB3.mono HB1.out.size)); have HGR3 := hid (HGR.out.below hB3)
 clear hB3 x0 x1 x2 x3 xl hg
 go_wp2_with fail
 go_ret2
 exact ⟨gb, rfl, HGR3.out, HB3.out⟩
def btmB (s : Lts) (C : Nat -> Int) (p : Nat) : Bool := !((s.outs (p : Int)).any (fun x => decide (x.1 = 0) && decide (C x.2.toNat = C p)))
theorem bottomsLo_any {p : Addr} {s : Lts} {n : Nat} (hr : s.Right) (hn : s.st = (n : Int)) {a : Option Addr} {b off c : Nat} {w : World} (hG : GErr 0 p w) (hS : SlAt encE 3 w a b off s.es)
   {C : Nat -> Int} {ca : Option Addr} {cb co cc : Nat} (hC : SlAt encI 1 w ca cb co (fl n C)) (hcl : clB (n : Int) (fl n C) = true) (hwf : ∀ x ∈ fl n C, (Lit.int .i64 x).wf = true) :
   Calls Tryz.prog 20 #[.agg #[.int .i64 s.st, .int .i64 s.lb, .int .i64 s.s0, .slice a s.es.length c], .slice ca n cc] w fun e w' => ∃ zb, e = .returned (.tuple #[.slice (some ⟨zb, 0, none⟩) n n, .nilIface]) /\ w'.rowIs zb 4 n (fun j => .bool (btmB s.norm C j)) /\ Below w.heap.size w w' /\ w.heap.size <= zb := by
 have hst := hr.st0
 have hn1 : n <= 1000 := by omega
 have hB0 := ((Below.refl w.heap.size w).alloc (Nat.le_refl _) (Obj.cells #[.int .i64 s.st, .int .i64 s.lb, .int .i64 s.s0, .slice a s.es.length c] 24)).alloc (by simp) (Obj.cells #[.slice ca n cc] 31)
 have hbx := (((Below.refl _ _).alloc (Nat.le_refl _) (Obj.cells #[.slice ca n cc] 31)).block w.heap.size (by simp)).trans (heap_alloc_new w (Obj.cells #[.int .i64 s.st, .int .i64 s.lb, .int .i64 s.s0, .slice a s.es.length c] 24))
 have hky := heap_alloc_at (w.alloc (Obj.cells #[.int .i64 s.st, .int .i64 s.lb, .int .i64 s.s0, .slice a s.es.length c] 24)) (Obj.cells #[.slice ca n cc] 31) (w.heap.size + 1) (by simp)
 have HAK := hid (askedB_any (c := c) (cc := cc) hr hn (hG.below hB0) (hS.below hB0 (Nat.le_refl _)) (hC.below hB0 (Nat.le_refl _)) (fl_len _ _) hcl hwf)
 have HC := hid hC; have HB0 := hid hB0; have HBX := hid hbx; have HKY := hid hky; have HNN : Hid (s.norm.st = (n : Int)) := hid hn; have HRN : Hid s.norm.Right := hid hr.norm
 rw [hn] at HAK HB0 HBX HKY ⊢
 clear hG hS hC hB0 hbx hky hr hn hst hcl hwf
 go_enter Tryz.func20, Tryz.ntmps20
 go_wp2_with fail
 refine HAK.out.mono ?_
 rintro e w1 ⟨gb, rfl, hgr, hB1⟩
 have hb1 := HB0.out.trans (hB1.mono (by simp; omega))
 have hx1 := (hB1.block w.heap.size (by simp; omega)).trans HBX.out
 have hk1 := (hB1.block (w.heap.size + 1) (by simp)).trans HKY.out
 have hmk := run_make_row' (P := Tryz.prog) 58 4 (.bool false) 1 Tryz.underlying58 (by kernel_rfl) rfl .i64 .i64 n (by omega) (by omega)
 have x0 : w1.cell? ⟨w.heap.size, 0, none⟩ = some (.int .i64 n) := by simp [World.cell?, hx1]
 have xl := (Array.getElem?_eq_some_iff.1 hx1).1
 have hrow := (World.rowIs_made w1 (.bool false) n 4).congr (g := fun j => .bool (if j < 0 then btmB s.norm C j else false)) (fun j _ => by simp)
 have hbz := (Below.refl w1.heap.size w1).alloc (Nat.le_refl _) (.cells (madeCells #[.bool false] n) 4)
 have HROW := hid hrow; have HBZ := hid hbz; have HB1 := hid hb1; have HK1 := hid hk1; have HGR := hid hgr; have HC1 := hid (HC.out.below hb1 (Nat.le_refl _))
 have hkl := (Array.getElem?_eq_some_iff.1 hk1).1
 have hw1 := hb1.size
 clear hgr hB1 hb1 hx1 hk1 hrow hbz HAK HB0 HBX HKY
 go_wp2_with fail
 obtain ⟨zb, hzb⟩ : ∃ zb, zb = w1.heap.size := ⟨_, rfl⟩
 obtain ⟨kb, hkb⟩ : ∃ kb, kb = w.heap.size + 1 := ⟨_, rfl⟩
 rw [<- hkb] at hkl HK1 ⊢
 rw [<- hzb] at HROW ⊢
 have hzlo : w1.heap.size <= zb := by omega
 clear hzb hkb x0 xl hmk
 go_loopw [9, 24] (fun _ v24 wx => ∃ i : Nat, v24 = .int .i64 i /\ i <= n /\ wx.rowIs zb 4 n (fun j => .bool (if j < i then btmB s.norm C j else false)) /\ Below w1.heap.size w1 wx) (fun _ v24 _ => n - (intOf v24).toNat)
 case atStart => exact ⟨0, rfl, Nat.zero_le _, HROW.out, HBZ.out⟩
 case round =>
   obtain ⟨i, rfl, hi, hrow, hB⟩ := hrel
   have HRO := hid hrow; have HBX := hid hB
   have hwx := hB.size
   have hzl := hrow.lt
   clear hrow hB HROW HBZ
   by_cases hin : i < n
   · have hiI : (i : Int) < (n : Int) := by omega
     have hbA := HBX.out.alloc hwx (.cells #[.int .i64 (i : Int)] 3)
     have HA0 := hid (heap_alloc_new wr (.cells #[.int .i64 (i : Int)] 3))
     have HZC := hid ((HRO.out.alloc (.cells #[.int .i64 (i : Int)] 3)))
     go_upto_region 8 with fail
     obtain ⟨U, hU⟩ : ∃ U, U = wr.alloc (.cells #[.int .i64 (i : Int)] 3) := ⟨_, rfl⟩
     rw [<- hU] at hbA HA0 HZC ⊢
     obtain ⟨sb, hsb⟩ : ∃ sb, sb = wr.heap.size := ⟨_, rfl⟩
     rw [<- hsb] at HA0 ⊢
     have hUs : w1.heap.size <= U.heap.size := hbA.size
     have sbl : sb < U.heap.size := (Array.getElem?_eq_some_iff.1 HA0.out).1
     have zbl : zb < U.heap.size := HZC.out.lt
     have HBA := hid hbA
     have KEEP : Hid (∀ W, Below U.heap.size U W -> W.cell? ⟨sb, 0, none⟩ = some (.int .i64 (i : Int)) /\ W.cell? ⟨zb, i, none⟩ = some (.bool false) /\ W.frozen? ⟨zb, i, none⟩ = false /\ sb < W.heap.size /\ zb < W.heap.size) := hid (fun W hW => by
       have h1 := (hW.block sb sbl).trans HA0.out
       have h2 := HZC.out.of_block (hW.block zb zbl)
       have h3 := h2.cell hin
       simp only [Nat.lt_irrefl, if_false] at h3
       exact ⟨by simp [World.cell?, h1], h3, h2.frozen i, Nat.lt_of_lt_of_le sbl hW.size, Nat.lt_of_lt_of_le zbl hW.size⟩)
     have CA : Hid (∀ W, Below U.heap.size U W -> Calls Tryz.prog 96 #[.pointer (some ⟨gb, 0, none⟩), .int .i64 (i : Int)] W fun e w' => ∃ a2 c2 b2 off2, e = .returned (.slice a2 (s.norm.outs (i : Int)).length c2) /\ SlAt encS 2 w1 a2 b2 off2 (s.norm.outs (i : Int)) /\ Below U.heap.size U w') := hid (fun W hW => (each_any HGR.out (HBA.out.trans (hW.mono hUs)) (i : Int)).mono (by
       rintro e w' ⟨⟨a2, c2, b2, off2, rfl, _, _, hss⟩, hB⟩
       exact ⟨a2, c2, b2, off2, rfl, hss, hW.trans (hB.mono hW.size)⟩))
     have hol := outs_len HRN.out (i : Int)
     have CB : Hid (∀ W a2 c2 b2 off2, Below U.heap.size U W -> SlAt encS 2 w1 a2 b2 off2 (s.norm.outs (i : Int)) -> Calls Tryz.prog 95 #[.slice a2 (s.norm.outs (i : Int)).length c2, .func (.func 97) #[] #[.pointer (some ⟨sb, 0, none⟩), .pointer (some ⟨kb, 0, none⟩)]] W fun e w' => e = .returned (.bool (!(btmB s.norm C i))) /\ Below U.heap.size U w') := hid (fun W a2 c2 b2 off2 hW hS2 => by
       have hB1W := HBA.out.trans (hW.mono hUs)
       refine (hasStepB_any (c := c2) (pb := sb) (sb := kb) (P := fun x => decide (x.1 = 0) && decide (C x.2.toNat = C i)) (hS2.below hB1W (Nat.le_refl _)) (by omega) (fun V x hV hx => ?_)).mono (by
         rintro e w' ⟨rfl, hB⟩
         exact ⟨by unfold btmB; rw [Bool.not_not], hW.trans (hB.mono hW.size)⟩)
       obtain ⟨x1, x2⟩ := x
       have hyr := offB_false.1 (HRN.out.edges _ (mem_outs.1 hx))
       simp only at hyr
       obtain ⟨q, rfl⟩ := Int.eq_ofNat_of_zero_le hyr.2.2.2.2.1
       have hqn : q < n := by have := HNN.out; omega
       have hWV := hW.trans (hV.mono hW.size)
       have hkc : V.cell? ⟨kb, 0, none⟩ = some (.slice ca n cc) := by
         have := ((hB1W.trans (hV.mono (by have := hB1W.size; omega))).block kb hkl).trans HK1.out
         simp [World.cell?, this]
       exact bottomFn_any (HC1.out.below (hB1W.trans (hV.mono (by have := hB1W.size; omega))) (Nat.le_refl _)) hin hqn (KEEP.out V hWV).1 hkc x1)
     obtain ⟨bb, hbb⟩ : ∃ bb, bb = btmB s.norm C i := ⟨_, rfl⟩
     rw [<- hbb] at CB
     have HBBE := hid hbb
     obtain ⟨ol, hole⟩ : ∃ ol, ol = (s.norm.outs (i : Int)).length := ⟨_, rfl⟩
     rw [<- hole] at CA CB hol
     have B0 := hid (Below.refl U.heap.size U).drew
     have hk0 := KEEP.out _ B0.out
     obtain ⟨s0, z0, z1, sl0, zl0⟩ := hk0
     clear hU hsb hbA hbb hole
     go_region_with (first
       | (go_at_call 96; refine (CA.out _ B0.out).mono ?_; rintro e w2 ⟨a2, c2, b2, off2, rfl, hss, hB2⟩; have hk2 := KEEP.out _ hB2; obtain ⟨s0', z0', z1', sl0', zl0'⟩ := hk2)
       | (go_at_call 95; refine (CB.out _ _ _ _ _ hB2 hss).mono ?_; rintro e w3 ⟨rfl, hB3⟩; obtain ⟨s0'', z0'', z1'', sl0'', zl0''⟩ := KEEP.out _ hB3))
     all_goals
       have HRZ := hid (((HZC.out.of_block (hB3.block zb zbl)).set i (.bool bb)).congr (g := fun j => .bool (if j < i + 1 then btmB s.norm C j else false)) (fun j _ => by
         by_cases e : j = i
         · subst e; rw [if_pos rfl, if_pos (by omega), HBBE.out]
         · rw [if_neg e]
           by_cases h : j < i
           · rw [if_pos h, if_pos (by omega)]
           · rw [if_neg h, if_neg (by omega)]))
       have HB9 := hid ((HBA.out.trans (hB3.mono hUs)).setCell (p := ⟨zb, i, none⟩) hzlo (.bool bb))
       clear hB3 s0'' z0'' z1'' sl0'' zl0''
       go_wp2_with fail
       go_roundw
       case rel => exact ⟨i + 1, by go_num, by omega, HRZ.out, HB9.out⟩
       case measure => simp [intOf]; omega
   · obtain rfl : n = i := by omega
     have hr2 : wr.rowIs zb 4 n (fun j => .bool (btmB s.norm C j)) := HRO.out.congr (fun j hj => by simp only [if_pos hj])
     have HR2 := hid hr2
     have HBF := hid (HB1.out.trans (HBX.out.mono hw1))
     clear hr2 HRO HBX
     go_wp2_with fail
     go_ret2
     exact ⟨zb, rfl, HR2.out, HBF.out, by omega⟩
theorem bottoms_any {p : Addr} {s : Lts} {n : Nat} (hr : s.Right) (hn : s.st = (n : Int)) {a : Option Addr} {b off c : Nat} {w : World} (hG : GErr 0 p w) (hS : SlAt encE 3 w a b off s.es)
   {C : Nat -> Int} {ca : Option Addr} {cb co cc : Nat} (hC : SlAt encI 1 w ca cb co (fl n C)) (hcl : clB (n : Int) (fl n C) = true) (hwf : ∀ x ∈ fl n C, (Lit.int .i64 x).wf = true) :
   Calls Tryz.prog 20 #[.agg #[.int .i64 s.st, .int .i64 s.lb, .int .i64 s.s0, .slice a s.es.length c], .slice ca n cc] w fun e w' => ∃ zb, e = .returned (.tuple #[.slice (some ⟨zb, 0, none⟩) n n, .nilIface]) /\ w'.rowIs zb 4 n (fun j => .bool (btmB s.norm C j)) /\ Below w.heap.size w w' := by
 refine (bottomsLo_any hr hn hG hS hC hcl hwf).mono ?_
 rintro e w' ⟨zb, h1, h2, h3, _⟩
 exact ⟨zb, h1, h2, h3⟩
end Go.Proofs.YtebmlhaoeldhkaaGreatDoor

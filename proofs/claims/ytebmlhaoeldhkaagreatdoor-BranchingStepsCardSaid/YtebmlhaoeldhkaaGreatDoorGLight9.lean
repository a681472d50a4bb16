/-
 Lemmas.
-/
import Derived.Test.YtebmlhaoeldhkaaGreatDoorGRefRight
import Derived.Test.YtebmlhaoeldhkaaGreatDoorGBrH
import Derived.Test.YtebmlhaoeldhkaaGreatDoorTauI
import Derived.Test.YtebmlhaoeldhkaaGreatDoorGTauG
import Derived.Test.YtebmlhaoeldhkaaGreatDoorBrB
import Derived.Deep.QuietTactic
import Derived.BigQuiet
import Derived.IntWalk
set_option maxRecDepth 100000
namespace Go.Proofs.YtebmlhaoeldhkaaGreatDoor
open Go.RowKit Pl
open Lib (hid)
theorem refOn_zero (l : ByteArray) (w : World) : Calls Tryz.prog 37 #[.string l, .agg #[.int .i64 0, .int .i64 0, .int .i64 0, .string ⟨#[]⟩]] w fun e w' => e = .returned (.agg #[.int .i64 0, .int .i64 0, .int .i64 0, .string ⟨#[]⟩]) /\ Below w.heap.size w w' := by
 go_enter Tryz.func37, Tryz.ntmps37
 go_wp2_with fail
 refine bodyPost_ret (v := .agg #[.int .i64 0, .int .i64 0, .int .i64 0, .string ⟨#[]⟩]) (by simp [results, Tryz.results37, go_sem]) rfl ⟨rfl, ((Below.refl _ _).alloc (Nat.le_refl _) _).alloc (by simp) _⟩
theorem refCheck_yes {s : Lts} (h : s.Right) {a : Option Addr} {b off c : Nat} {w : World} (hS : SlAt encE 3 w a b off s.es) :
   Calls Tryz.prog 38 #[.agg #[.int .i64 s.st, .int .i64 s.lb, .int .i64 s.s0, .slice a s.es.length c]] w fun e w' => e = .returned (.agg #[.int .i64 0, .int .i64 0, .int .i64 0, .string ⟨#[]⟩]) /\ Below w.heap.size w w' := by
 obtain ⟨el, hel⟩ : ∃ el, el = s.es.length := ⟨_, rfl⟩
 have hR : ∀ V, Below w.heap.size w V -> _ := fun V (hV : Below w.heap.size w V) => right_yes (c := c) h (hS.below hV (Nat.le_refl _))
 rw [<- hel] at hR ⊢
 obtain ⟨hB0, hE0⟩ := errW w (Obj.cells #[.int .i64 s.st, .int .i64 s.lb, .int .i64 s.s0, .slice a el c] 24)
 have HR := hid (hR _ hB0); have HB0 := hid hB0; have HE0 := hid hE0
 clear hS h hel hR hB0 hE0
 go_enter Tryz.func38, Tryz.ntmps38
 go_wp2_with fail
 refine HR.out.mono ?_
 rintro e w2 ⟨rfl, hB2⟩
 have hx2 := (hB2.block (w.heap.size + 1) (by simp)).trans HE0.out
 have HB2 := hid (HB0.out.trans (hB2.mono HB0.out.size))
 obtain ⟨⟨z0, z1, z2, z3⟩, ⟨f0, f1, f2, f3⟩, zl⟩ := errC hx2
 clear hx2 hB2 HR HB0 HE0
 go_wp2_with fail
 refine bodyPost_ret (v := .agg #[.int .i64 0, .int .i64 0, .int .i64 0, .string ⟨#[]⟩]) (by simp [results, Tryz.results38, go_sem, z0, z1, z2, z3]) rfl ⟨rfl, errS HB2.out _ _ _ _⟩
theorem refHanded_yes (l : ByteArray) {s : Lts} (h : s.Right) {a : Option Addr} {b off c : Nat} {w : World} (hS : SlAt encE 3 w a b off s.es) :
   Calls Tryz.prog 9 #[.string l, .agg #[.int .i64 s.st, .int .i64 s.lb, .int .i64 s.s0, .slice a s.es.length c]] w fun e w' => e = .returned (.agg #[.int .i64 0, .int .i64 0, .int .i64 0, .string ⟨#[]⟩]) /\ Below w.heap.size w w' := by
 obtain ⟨hB0, hE0⟩ := errW w (Obj.cells #[.int .i64 s.st, .int .i64 s.lb, .int .i64 s.s0, .slice a s.es.length c] 24)
 have HCK := hid (refCheck_yes (c := c) h (hS.below hB0 (Nat.le_refl _)))
 obtain ⟨el, hel⟩ : ∃ el, el = s.es.length := ⟨_, rfl⟩
 rw [<- hel] at HCK hB0 hE0 ⊢
 have HB0 := hid hB0; have HE0 := hid hE0
 have HON := hid (refOn_zero l)
 clear hS h hel hB0 hE0
 go_enter Tryz.func9, Tryz.ntmps9
 go_wp2_with fail
 refine HCK.out.mono ?_
 rintro e w2 ⟨rfl, hB2⟩
 have hx2 := (hB2.block (w.heap.size + 1) (by simp)).trans HE0.out
 have hb2 := HB0.out.trans (hB2.mono HB0.out.size)
 have HX2 := hid hx2; have HB2 := hid hb2
 clear hx2 hb2 hB2 HCK HB0 HE0
 go_wp2_with fail
 refine (HON.out _).mono ?_
 rintro e w3 ⟨rfl, hB3⟩
 have hx3 := (hB3.block _ (Array.getElem?_eq_some_iff.1 HX2.out).1).trans HX2.out
 have HB3 := hid (HB2.out.trans (hB3.mono HB2.out.size))
 obtain ⟨⟨z0, z1, z2, z3⟩, ⟨f0, f1, f2, f3⟩, zl⟩ := errC hx3
 clear hx3 hB3 HX2 HB2 HON
 go_wp2_with fail
 refine bodyPost_ret (v := .agg #[.int .i64 0, .int .i64 0, .int .i64 0, .string ⟨#[]⟩]) (by simp [results, Tryz.results9, go_sem, z0, z1, z2, z3]) rfl ⟨rfl, errS HB3.out _ _ _ _⟩
end Go.Proofs.YtebmlhaoeldhkaaGreatDoor
namespace Go.Proofs.YtebmlhaoeldhkaaGreatDoor
open Go.RowKit Pl Go.Maps
end Go.Proofs.YtebmlhaoeldhkaaGreatDoor
namespace Go.Proofs.YtebmlhaoeldhkaaGreatDoor
open Go.RowKit Pl Go.Maps
open Lib (hid)
theorem refCls7_any {w : World} {a : Option Addr} {b off c : Nat} {l : List Int} (st lb s0 : Int) (ev : Value) (hS : SlAt encI 1 w a b off l) (hn : l.length <= 1000000) :
   Calls Tryz.prog 18 #[.agg #[.int .i64 st, .int .i64 lb, .int .i64 s0, ev], .slice a l.length c] w fun e w' => e = .returned (.bool (clB st l)) /\ Below w.heap.size w w' := by
 obtain ⟨n, hnn⟩ : ∃ n, n = l.length := ⟨_, rfl⟩
 have HS := hid hS; have HNN := hid hnn
 have hcl : clB st l = (decide ((n : Int) = st) && decide (l = canon l)) := by unfold clB; rw [hnn]
 have HCL := hid hcl
 rw [<- hnn] at hn ⊢
 clear hS hnn hcl
 have hB0 := (Below.refl w.heap.size w).alloc (Nat.le_refl _) (Obj.cells #[.int .i64 st, .int .i64 lb, .int .i64 s0, ev] 24)
 have HB0 := hid hB0
 clear hB0
 by_cases hl : (n : Int) = st
 · subst hl
   have hb : ((n : Int) != (n : Int)) = false := by simp
   go_enter Tryz.func18, Tryz.ntmps18
   go_wp2_with fail
   go_loopw [5, 6] (fun v5 v6 w2 => ∃ k : Nat, k <= n /\ v6 = .int .i64 k /\ v5 = .int .i64 (nUp l k : Int) /\ canon (l.take k) = l.take k /\ w2 = w.alloc (Obj.cells #[.int .i64 n, .int .i64 lb, .int .i64 s0, ev] 24))
     (fun _ v6 _ => n - (intOf v6).toNat)
   case atStart => exact ⟨0, Nat.zero_le _, rfl, by simp [nUp, dist], by simp [canon], rfl⟩
   case round =>
     obtain ⟨k, hk, rfl, rfl, hcn, rfl⟩ := hrel
     have hup := nUp_le l k
     have HC := hid hcn
     obtain ⟨m, hm⟩ : ∃ m, m = nUp l k := ⟨_, rfl⟩
     rw [<- hm] at hup ⊢
     have HM := hid hm
     clear hm hcn
     by_cases hlt : k < n
     · obtain ⟨x, hx⟩ := getElem?_of_lt (xs := l) (i := k) (by have := HNN.out; omega)
       obtain rfl := HS.out.ad (by have := HNN.out; omega)
       have hcx := (HS.out.below HB0.out (Nat.le_refl _)).ci hx
       have hkn : (k : Int) < (n : Int) := by omega
       have HX := hid hx
       clear hx
       by_cases h0 : x < 0
       · go_wp2
         go_ret
         have := form_no HX.out (.inl h0)
         exact ⟨by rw [HCL.out]; simp [Ne.symm this], HB0.out⟩
       · by_cases h1 : (m : Int) < x
         · go_wp2
           go_ret
           have := form_no HX.out (.inr (by rw [<- HM.out]; exact h1))
           exact ⟨by rw [HCL.out]; simp [Ne.symm this], HB0.out⟩
         · by_cases h2 : x = (m : Int)
           · subst h2
             have hb2 : ((m : Int) == (m : Int)) = true := by simp
             go_wp2
             obtain ⟨f1, f2⟩ := form_new HX.out HC.out (by rw [<- HM.out])
             have F1 := hid f1; have F2 := hid f2
             clear f1 f2
             go_roundw
             case rel => exact ⟨k + 1, by omega, by go_num, by rw [F2.out, <- HM.out]; go_num, F1.out, by first | rfl | trivial⟩
             case measure => simp [intOf]; omega
           · have hb2 : (x == (m : Int)) = false := by simp [h2]
             go_wp2
             obtain ⟨f1, f2⟩ := form_old HX.out HC.out (by omega) (by rw [<- HM.out]; omega)
             have F1 := hid f1; have F2 := hid f2
             clear f1 f2
             go_roundw
             case rel => exact ⟨k + 1, by omega, by go_num, by rw [F2.out, <- HM.out], F1.out, by first | rfl | trivial⟩
             case measure => simp [intOf]; omega
     · obtain rfl : k = n := by omega
       have hc := HC.out
       rw [List.take_of_length_le (by have := HNN.out; omega)] at hc
       have HC2 := hid hc
       clear hc
       go_wp2
       go_ret
       exact ⟨by rw [HCL.out, HC2.out]; simp, HB0.out⟩
 · have hb : ((n : Int) != st) = true := by simp [hl]
   go_enter Tryz.func18, Tryz.ntmps18
   go_wp2
   go_ret
   exact ⟨by rw [HCL.out]; simp [hl], HB0.out⟩
end Go.Proofs.YtebmlhaoeldhkaaGreatDoor
namespace Go.Proofs.YtebmlhaoeldhkaaGreatDoor
namespace Pl
def inL (C : Nat -> Int) (L : List E) (j : Nat) : Bool := L.any (fun x => decide (x.2.1 = 0) && decide (C x.1.toNat = C x.2.2.toNat) && decide (x.1 = (j : Int)))
theorem inL_snoc (C : Nat -> Int) (L : List E) (x : E) (j : Nat) : inL C (L ++ [x]) j = (inL C L j || (decide (x.2.1 = 0) && decide (C x.1.toNat = C x.2.2.toNat) && decide (x.1 = (j : Int)))) := by
 unfold inL; rw [List.any_append]; simp
theorem inL_btm (s : Lts) (C : Nat -> Int) (j : Nat) : (!inL C s.es j) = btmB s.norm C j := by
 unfold inL btmB
 congr 1
 rw [Bool.eq_iff_iff, List.any_eq_true, List.any_eq_true]
 constructor
 · rintro ⟨x, hx, h⟩
   simp only [Bool.and_eq_true, decide_eq_true_eq] at h
   obtain ⟨⟨h1, h2⟩, h3⟩ := h
   refine ⟨(x.2.1, x.2.2), mem_outs.2 ?_, ?_⟩
   · show _ ∈ nf ltE s.es
     rw [mem_nf stoE, <- h3]; exact hx
   · simp only [Bool.and_eq_true, decide_eq_true_eq]
     refine ⟨h1, ?_⟩
     rw [h3, Int.toNat_natCast] at h2
     exact h2.symm
 · rintro ⟨y, hy, h⟩
   simp only [Bool.and_eq_true, decide_eq_true_eq] at h
   have h1 := mem_outs.1 hy
   refine ⟨((j : Int), y.1, y.2), (mem_nf stoE _ _).1 h1, ?_⟩
   simp only [Bool.and_eq_true, decide_eq_true_eq, Int.toNat_natCast]
   exact ⟨⟨h.1, h.2.symm⟩, trivial⟩
end Pl
open Go.RowKit Pl
open Lib (hid)
set_option maxHeartbeats 8000000 in
theorem refBottoms_any {s : Lts} {n : Nat} (hr : s.Right) (hn : s.st = (n : Int)) {C : Nat -> Int} {ca : Option Addr} {cb co cc : Nat} {a : Option Addr} {b off c : Nat} {w : World} (hC : SlAt encI 1 w ca cb co (fl n C)) (hS : SlAt encE 3 w a b off s.es) :
   Calls Tryz.prog 24 #[.agg #[.int .i64 s.st, .int .i64 s.lb, .int .i64 s.s0, .slice a s.es.length c], .slice ca n cc] w fun e w' => ∃ zb, e = .returned (.slice (some ⟨zb, 0, none⟩) n n) /\ w'.rowIs zb 4 n (fun j => .bool (btmB s.norm C j)) /\ w.heap.size <= zb /\ Below w.heap.size w w' := by
 have hst := hr.st0
 have hn1 : n <= 1000 := by omega
 have hmk := run_make_row' (P := Tryz.prog) 58 4 (.bool false) 1 Tryz.underlying58 (by kernel_rfl) rfl .i64 .i64 n (by omega) (by omega)
 obtain ⟨W, hW⟩ : ∃ W, W = w.alloc (Obj.cells #[.int .i64 s.st, .int .i64 s.lb, .int .i64 s.s0, .slice a s.es.length c] 24) := ⟨_, rfl⟩
 have hB0 : Below w.heap.size w W := by rw [hW]; exact (Below.refl w.heap.size w).alloc (Nat.le_refl _) _
 have hbx := heap_alloc_new w (Obj.cells #[.int .i64 s.st, .int .i64 s.lb, .int .i64 s.s0, .slice a s.es.length c] 24)
 rw [<- hW] at hbx
 have hsw : w.heap.size + 1 = W.heap.size := by rw [hW]; simp
 have hel0 := hst.2.2.2.2.2.2
 have HS := hid (hS.below hB0 (Nat.le_refl _)); have HCW := hid (hC.below hB0 (Nat.le_refl _))
 obtain ⟨el, hel⟩ : ∃ el, el = s.es.length := ⟨_, rfl⟩
 rw [<- hel] at hel0
 rw [hn, <- hel] at hbx hW
 rw [hn, <- hel]
 have HWE := hid hW; have HB0 := hid hB0; have HBX := hid hbx; have HR := hid hr; have HN := hid hn; have HEL := hid hel; have HSW := hid hsw
 obtain ⟨x0, x1, x2, x3, x4⟩ := sysC hbx
 clear hW hB0 hbx hr hn hS hC hst hel hsw
 go_enter Tryz.func24, Tryz.ntmps24
 go_wp2_with fail
 rw [<- HWE.out]
 obtain ⟨w1, hw1⟩ : ∃ w1, w1 = W.alloc (.cells (madeCells #[.bool false] n) 4) := ⟨_, rfl⟩
 have hrow : w1.rowIs W.heap.size 4 n (fun _ => .bool false) := by rw [hw1]; exact World.rowIs_made W (.bool false) n 4
 have hb1 : Below W.heap.size W w1 := by rw [hw1]; exact (Below.refl _ _).alloc (Nat.le_refl _) _
 rw [<- hw1]
 rw [<- HSW.out] at hrow
 obtain ⟨zb, hzb⟩ : ∃ zb, zb = w.heap.size + 1 := ⟨_, rfl⟩
 rw [<- hzb] at hrow ⊢
 have HROW := hid hrow; have HB1 := hid hb1; have HZB := hid hzb
 clear hw1 hrow hb1 hzb x0 x1 x2 x3 x4 hmk
 have HK : Hid (∀ V, Below W.heap.size W V -> (V.cell? ⟨w.heap.size, 0, none⟩ = some (.int .i64 (n : Int)) /\ V.cell? ⟨w.heap.size, 3, none⟩ = some (.slice a el c) /\ w.heap.size < V.heap.size)) := hid (fun V hV => by
   have hx := (hV.block w.heap.size (by have := HSW.out; omega)).trans HBX.out
   obtain ⟨z0, _, _, z3, z4⟩ := sysC hx
   exact ⟨z0, z3, z4⟩)
 go_loopw [6] (fun v6 wr => ∃ i : Nat, v6 = .int .i64 i /\ i <= n /\ wr.rowIs zb 4 n (fun j => .bool (decide (j < i))) /\ Below W.heap.size W wr) (fun v6 _ => n - (intOf v6).toNat)
 case atStart => exact ⟨0, rfl, Nat.zero_le _, HROW.out.congr (fun j _ => by simp), HB1.out⟩
 case round =>
   obtain ⟨i, rfl, hi, hrow, hB⟩ := hrel
   have HRW := hid hrow; have HB := hid hB
   obtain ⟨x0, x3, x4⟩ := HK.out _ hB
   clear x3 hB
   by_cases hin : i < n
   · have hiI : (i : Int) < (n : Int) := by omega
     have c0 := hrow.cell hin
     have c1 := hrow.frozen i
     have cl := hrow.lt
     have HST : Hid ((wr.setCell ⟨zb, i, none⟩ (.bool true)).rowIs zb 4 n (fun j => .bool (decide (j < i + 1)))) := hid ((hrow.set i (.bool true)).congr (fun j _ => by
       by_cases e : j = i
       · subst e; simp
       · rw [if_neg e]; congr 1; rw [Bool.eq_iff_iff, decide_eq_true_eq, decide_eq_true_eq]; omega))
     clear hrow
     go_wp2_with fail
     go_roundw
     case rel => exact ⟨i + 1, by go_num, by omega, HST.out, HB.out.setCell (by have := HZB.out; have := HSW.out; show W.heap.size <= zb; omega) _⟩
     case measure => simp [intOf]; omega
   · obtain rfl : n = i := by omega
     have HR1 := hid (hrow.congr (g := fun j => .bool (!inL C (s.es.take 0) j)) (fun j hj => by simp [inL, hj]))
     clear hrow
     go_wp2_with fail
     clear x0 x4
     go_loopw [7, 8] (fun v7 _ wx => ∃ k : Nat, v7 = .int .i64 k /\ k <= el /\ wx.rowIs zb 4 n (fun j => .bool (!inL C (s.es.take k) j)) /\ Below W.heap.size W wx) (fun v7 _ _ => el - (intOf v7).toNat)
     case atStart => exact ⟨0, rfl, Nat.zero_le _, HR1.out, HB.out⟩
     case round =>
       obtain ⟨k, rfl, hk, hrow, hB⟩ := hrel
       have HRX := hid hrow; have HBx := hid hB
       obtain ⟨x0, x3, x4⟩ := HK.out _ hB
       have hws := hB.size
       clear x0 hB
       by_cases hkl : k < el
       · have hkI : (k : Int) < (el : Int) := by omega
         obtain ⟨x, hx⟩ := getElem?_of_lt (xs := s.es) (i := k) (by rw [<- HEL.out]; exact hkl)
         have hse := HS.out.below HBx.out (Nat.le_refl _)
         obtain rfl := hse.ad (by rw [<- HEL.out]; omega)
         have e0 := hse.e0 hx; have e1 := hse.e1 hx; have e2 := hse.e2 hx
         have e3 := hse.lt (by rw [<- HEL.out]; omega)
         have hyr := offB_false.1 (HR.out.edges x (List.mem_of_getElem? hx))
         have hnn := HN.out
         have HSN : Hid (∀ j, inL C (s.es.take (k + 1)) j = (inL C (s.es.take k) j || (decide (x.2.1 = 0) && decide (C x.1.toNat = C x.2.2.toNat) && decide (x.1 = (j : Int))))) := hid (fun j => by rw [take_snoc hx, inL_snoc])
         obtain ⟨y0, y1, y2⟩ := x
         dsimp only at e0 e1 e2 hyr HSN
         obtain ⟨p, rfl⟩ := Int.eq_ofNat_of_zero_le hyr.1
         obtain ⟨t, rfl⟩ := Int.eq_ofNat_of_zero_le hyr.2.2.2.2.1
         have hpn : p < n := by omega
         have htn : t < n := by omega
         have hpI : (p : Int) < (n : Int) := by omega
         have htI : (t : Int) < (n : Int) := by omega
         have hcs := HCW.out.below HBx.out (Nat.le_refl _)
         obtain rfl := hcs.ad (by rw [fl_len]; omega)
         have HCS := hid hcs
         clear hse hx hyr hnn hcs
         go_upto_region 10 with fail
         obtain ⟨W6, hW6⟩ : ∃ W6, W6 = wr.alloc (.cells #[.int .i64 (p : Int), .int .i64 y1, .int .i64 (t : Int)] 74) := ⟨_, rfl⟩
         have hb6 : Below wr.heap.size wr W6 := by rw [hW6]; exact (Below.refl _ _).alloc (Nat.le_refl _) _
         have hxb : W6.heap[wr.heap.size]? = some (.cells #[.int .i64 (p : Int), .int .i64 y1, .int .i64 (t : Int)] 74 (0, 0)) := by rw [hW6]; exact heap_alloc_new wr _
         rw [<- hW6]
         have hs6 : wr.heap.size < W6.heap.size := by rw [hW6]; simp
         obtain ⟨xb, hxe⟩ : ∃ xb, xb = wr.heap.size := ⟨_, rfl⟩
         rw [<- hxe] at hxb hs6 ⊢
         have f0 : W6.cell? ⟨xb, 0, none⟩ = some (.int .i64 (p : Int)) := by simp [World.cell?, hxb]
         have f1 : W6.cell? ⟨xb, 1, none⟩ = some (.int .i64 y1) := by simp [World.cell?, hxb]
         have f2 : W6.cell? ⟨xb, 2, none⟩ = some (.int .i64 (t : Int)) := by simp [World.cell?, hxb]
         have hc6 := HCS.out.below hb6 (Nat.le_refl _)
         have c1 := hc6.ci (fl_get C hpn); have c2 := hc6.ci (fl_get C htn); have cl := hc6.lt (by rw [fl_len]; omega)
         have hr6 := hrow.of_block (hb6.block zb hrow.lt)
         have HB6 := hid (HBx.out.trans (hb6.mono HBx.out.size))
         have HR6 := hid hr6
         clear hW6 hb6 hxb hc6 hxe hrow x3 x4 e0 e1 e2 e3
         by_cases hP : y1 = 0 /\ C p = C t
         · have hb1 : (y1 == 0) = true := by simp [hP.1]
           have hb2 : (C p == C t) = true := by simp [hP.2]
           have HNW : Hid (∀ V : World, V.rowIs zb 4 n (fun j => .bool (!inL C (s.es.take k) j)) -> (V.setCell ⟨zb, p, none⟩ (.bool false)).rowIs zb 4 n (fun j => .bool (!inL C (s.es.take (k + 1)) j))) := hid (fun V hV => (hV.set p (.bool false)).congr (fun j _ => by
             rw [HSN.out]
             by_cases e : j = p
             · subst e; rw [if_pos rfl]; simp [hP.1, hP.2]
             · rw [if_neg e]
               have : decide ((p : Int) = (j : Int)) = false := by simp; omega
               rw [this, Bool.and_false, Bool.or_false]))
           have r0 := hr6.cell hpn; have r1 := hr6.frozen p; have r2 := hr6.lt
           clear hP hr6
           go_upto_region 10 with fail
           go_quiet (fail)
           go_wp2_with fail
           go_roundw
           case rel => exact ⟨k + 1, by go_num, by omega, HNW.out _ HR6.out, (bdrew HB6.out).setCell (by have := HZB.out; have := HSW.out; show W.heap.size <= zb; omega) _⟩
           case measure => simp [intOf]; omega
         · have HNW : Hid (∀ V : World, V.rowIs zb 4 n (fun j => .bool (!inL C (s.es.take k) j)) -> V.rowIs zb 4 n (fun j => .bool (!inL C (s.es.take (k + 1)) j))) := hid (fun V hV => hV.congr (fun j _ => by
             rw [HSN.out]
             have : (decide (y1 = 0) && decide (C p = C t)) = false := by
               rw [Bool.eq_false_iff]; intro e; exact hP (by simpa using e)
             rw [Int.toNat_natCast, Int.toNat_natCast, this, Bool.false_and, Bool.or_false]))
           clear hr6
           by_cases hy0 : y1 = 0
           · have hb1 : (y1 == 0) = true := by simp [hy0]
             have hb2 : (C p == C t) = false := by simp; exact fun e => hP ⟨hy0, e⟩
             clear hP hy0
             go_upto_region 10 with fail
             go_quiet (fail)
             go_wp2_with fail
             go_roundw
             case rel => exact ⟨k + 1, by go_num, by omega, HNW.out _ HR6.out, bdrew HB6.out⟩
             case measure => simp [intOf]; omega
           · have hb1 : (y1 == 0) = false := by simp [hy0]
             clear hP hy0
             go_upto_region 10 with fail
             go_quiet (fail)
             go_wp2_with fail
             go_roundw
             case rel => exact ⟨k + 1, by go_num, by omega, HNW.out _ HR6.out, bdrew HB6.out⟩
             case measure => simp [intOf]; omega
       · obtain rfl : el = k := by omega
         have HFN := hid (hrow.congr (g := fun j => .bool (btmB s.norm C j)) (fun j _ => by rw [List.take_of_length_le (by rw [HEL.out]; exact Nat.le_refl _), inL_btm]))
         clear hrow
         go_wp2_with fail
         go_ret
         exact ⟨zb, rfl, HFN.out, by have := HZB.out; have := HSW.out; omega, HB0.out.trans (HBx.out.mono HB0.out.size)⟩
end Go.Proofs.YtebmlhaoeldhkaaGreatDoor

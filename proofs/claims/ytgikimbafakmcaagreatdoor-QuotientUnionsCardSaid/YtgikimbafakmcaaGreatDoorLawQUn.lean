/-
  Lemmas.
-/
import Derived.Test.YtgikimbafakmcaaGreatDoorGLaidQun
import Derived.Test.YtgikimbafakmcaaGreatDoorGSamR
import Derived.Test.YtgikimbafakmcaaGreatDoorGQuoE
import Derived.Test.YtgikimbafakmcaaGreatDoorGLentS
import Derived.Deep.RegionHeldLaw
import Derived.Deep.CutBlock
import Derived.Deep.DeepCutAuto
open List renaming getElem_toArray -> qga, getElem_cons_zero -> qgz, getElem_cons_succ -> qgs, setIfInBounds_toArray -> qgt, set_cons_zero -> qgx, set_cons_succ -> qgy
namespace Go.Proofs.YtgikimbafakmcaaGreatDoor
open Go.RowKit Pl
open Lib (hid)
theorem boxU {w : World} {base g : Nat} {x y z v : Value} (h : w.ownsRow base 24 4 (.slice (some ⟨g, 0, none⟩) 1 1) 1 [x, y, z, v]) : w.heap[g]? = some (.cells #[x, y, z, v] 24 (0, 0)) := by
 rcases h.2 with ⟨e, _⟩ | ⟨g', cap, cur, e, _, hh, _, _, hs, ht⟩
 · cases e
 · (
 simp only [Value.slice.injEq, Option.some.injEq, Addr.mk.injEq, and_true] at e
 obtain ⟨rfl, _, rfl⟩ := e
 rw [hh]
 have : cur = #[x, y, z, v] := by
   apply Array.toList_inj.1
   rw [<- ht, List.take_of_length_le (by rw [Array.length_toList]; omega)]
 rw [this])
theorem boxE {w : World} {base g : Nat} {x y z v : Value} (h : w.ownsRow base 28 4 (.slice (some ⟨g, 0, none⟩) 1 1) 1 [x, y, z, v]) : w.heap[g]? = some (.cells #[x, y, z, v] 28 (0, 0)) := by
 rcases h.2 with ⟨e, _⟩ | ⟨g', cap, cur, e, _, hh, _, _, hs, ht⟩
 · cases e
 · (
 simp only [Value.slice.injEq, Option.some.injEq, Addr.mk.injEq, and_true] at e
 obtain ⟨rfl, _, rfl⟩ := e
 rw [hh]
 have : cur = #[x, y, z, v] := by
   apply Array.toList_inj.1
   rw [<- ht, List.take_of_length_le (by rw [Array.length_toList]; omega)]
 rw [this])
theorem errU {w : World} {B : Nat} {x y z : Int} {u : ByteArray} (h : w.heap[B]? = some (.cells #[.int .i64 x, .int .i64 y, .int .i64 z, .string u] 28 (0, 0))) :
    (w.cell? ⟨B, 0, none⟩ = some (.int .i64 x) /\ w.cell? ⟨B, 1, none⟩ = some (.int .i64 y) /\ w.cell? ⟨B, 2, none⟩ = some (.int .i64 z) /\ w.cell? ⟨B, 3, none⟩ = some (.string u)) /\ B < w.heap.size := by
 refine ⟨⟨?_, ?_, ?_, ?_⟩, (Array.getElem?_eq_some_iff.1 h).1⟩ <;> simp [World.cell?, h]
set_option maxRecDepth 100000 in
set_option maxHeartbeats 16000000 in
theorem quoUni_any {w : World} {p p3 : Addr} (hE : ErrsK 14 p w) (hE3 : ErrsK 3 p3 w) (hTy : ErrType w) {s t : Lts} {a a2 : Option Addr} {b off c b2 off2 c2 : Nat} (hS : SlAt encE 3 w a b off s.es) (hT : SlAt encE 3 w a2 b2 off2 t.es) :
    Calls Tryz.prog 3 #[.agg #[.int .i64 s.st, .int .i64 s.lb, .int .i64 s.s0, .slice a s.es.length c], .agg #[.int .i64 t.st, .int .i64 t.lb, .int .i64 t.s0, .slice a2 t.es.length c2]] w fun e w' => e = .returned (.bool true) /\ Below w.heap.size w w' := by
 have hB0 := ((Below.refl w.heap.size w).alloc (Nat.le_refl _) (Obj.cells #[.int .i64 s.st, .int .i64 s.lb, .int .i64 s.s0, .slice a s.es.length c] 24)).alloc (by simp) (Obj.cells #[.int .i64 t.st, .int .i64 t.lb, .int .i64 t.s0, .slice a2 t.es.length c2] 24)
 have hx0 := (((Below.refl _ _).alloc (Nat.le_refl _) (Obj.cells #[.int .i64 t.st, .int .i64 t.lb, .int .i64 t.s0, .slice a2 t.es.length c2] 24)).block w.heap.size (by simp)).trans (heap_alloc_new w (Obj.cells #[.int .i64 s.st, .int .i64 s.lb, .int .i64 s.s0, .slice a s.es.length c] 24))
 have hy0 := heap_alloc_at (w.alloc (Obj.cells #[.int .i64 s.st, .int .i64 s.lb, .int .i64 s.s0, .slice a s.es.length c] 24)) (Obj.cells #[.int .i64 t.st, .int .i64 t.lb, .int .i64 t.s0, .slice a2 t.es.length c2] 24) (w.heap.size + 1) (by simp)
 have ALV : Hid (∀ w1 : World, Below w.heap.size w w1 -> Calls Tryz.prog 4 #[] w1 fun e w' => e = .returned (.bool true) /\ Below w1.heap.size w1 w') := hid (fun w1 h1 => alive14_any (hE.sys.below h1))
 obtain ⟨k, x, U, N, Q, hU, hK⟩ := uni_pk (c := c) (c2 := c2) hE hE3 hTy hS hT
 have hls : s.es.length <= 1000000 -> ∀ V, Below w.heap.size w V -> _ := fun h V (hV : Below w.heap.size w V) => lent_any (c := c) (hS.below hV (Nat.le_refl _)) h
 have hlt : t.es.length <= 1000000 -> ∀ V, Below w.heap.size w V -> _ := fun h V (hV : Below w.heap.size w V) => lent_any (c := c2) (hT.below hV (Nat.le_refl _)) h
 have hwt := hU.want
 have hun := hU.uni
 have HS := hid hS; have HT := hid hT
 obtain ⟨el, hel⟩ : ∃ el, el = s.es.length := ⟨_, rfl⟩
 obtain ⟨tl, htl⟩ : ∃ tl, tl = t.es.length := ⟨_, rfl⟩
 rw [<- hel, <- htl] at hwt hun ⊢
 rw [<- hel] at hls hB0 hx0 hy0
 rw [<- htl] at hlt hB0 hx0 hy0
 have HWT := hid hwt; have HUN := hid hun; have HTO := hid hU.told; have HQB := hid hU.bel; have HUL := hid hU.len; have HK := hid hK
 have HLA := hid hls; have HLB := hid hlt
 have HB0 := hid hB0; have HX0 := hid hx0; have HZ0 := hid hy0; have HEL := hid hel; have HTL := hid htl
 clear hE hE3 hTy hS hT hB0 hx0 hy0 hU hK hls hlt hwt hun hel htl
 go_enter Tryz.func3, Tryz.ntmps3
 go_upto_region 1 with fail
 obtain ⟨w1, hw1⟩ : ∃ w1, w1 = (w.alloc (Obj.cells #[.int .i64 s.st, .int .i64 s.lb, .int .i64 s.s0, .slice a el c] 24)).alloc (Obj.cells #[.int .i64 t.st, .int .i64 t.lb, .int .i64 t.s0, .slice a2 tl c2] 24) := ⟨_, rfl⟩
 rw [<- hw1] at HB0 HX0 HZ0 ⊢
 obtain ⟨X, hX⟩ : ∃ X, X = w.heap.size := ⟨_, rfl⟩
 obtain ⟨Z, hZ⟩ : ∃ Z, Z = w.heap.size + 1 := ⟨_, rfl⟩
 rw [<- hX] at HX0
 rw [<- hZ] at HZ0
 rw [<- hZ, <- hX]
 have HKX : Hid (∀ V, Below w1.heap.size w1 V -> (fun V => ((V.cell? ⟨X, 0, none⟩ = some (.int .i64 s.st) /\ V.cell? ⟨X, 1, none⟩ = some (.int .i64 s.lb) /\ V.cell? ⟨X, 2, none⟩ = some (.int .i64 s.s0) /\ V.cell? ⟨X, 3, none⟩ = some (.slice a el c)) /\ X < V.heap.size) /\ ((V.cell? ⟨Z, 0, none⟩ = some (.int .i64 t.st) /\ V.cell? ⟨Z, 1, none⟩ = some (.int .i64 t.lb) /\ V.cell? ⟨Z, 2, none⟩ = some (.int .i64 t.s0) /\ V.cell? ⟨Z, 3, none⟩ = some (.slice a2 tl c2)) /\ Z < V.heap.size)) V) := hid (fun V hV => by (
 have h1 := (hV.block _ (Array.getElem?_eq_some_iff.1 HX0.out).1).trans HX0.out
 have h2 := (hV.block _ (Array.getElem?_eq_some_iff.1 HZ0.out).1).trans HZ0.out
 exact ⟨⟨sysG h1, (Array.getElem?_eq_some_iff.1 h1).1⟩, ⟨sysG h2, (Array.getElem?_eq_some_iff.1 h2).1⟩⟩))
 have HW1 := hid HB0.out
 clear hw1 hX hZ
 obtain ⟨⟨⟨x0, x1, x2, x3⟩, xl⟩, ⟨⟨z0, z1, z2, z3⟩, zl⟩⟩ := HKX.out _ (Below.refl _ _)
 by_cases g1 : (11000 : Int) < (el : Int)
 · (
 go_wp2_with fail
 refine (ALV.out _ HW1.out).mono ?_
 rintro e w2 ⟨rfl, hB⟩
 have HB2 := hid (HW1.out.trans (hB.mono HW1.out.size))
 clear hB
 go_wp2
 go_ret
 exact ⟨rfl, HB2.out⟩)
 by_cases g2 : (11000 : Int) < (tl : Int)
 · (
 go_wp2_with fail
 refine (ALV.out _ HW1.out).mono ?_
 rintro e w2 ⟨rfl, hB⟩
 have HB2 := hid (HW1.out.trans (hB.mono HW1.out.size))
 clear hB
 go_wp2
 go_ret
 exact ⟨rfl, HB2.out⟩)
 have HLS := hid (HLA.out (by omega)); have HLT := hid (HLB.out (by omega))
 have HLN : Hid (el <= 11000 /\ tl <= 11000) := hid (by omega)
 go_upto_region 3 with fail
 clear x0 x1 x2 x3 xl z0 z1 z2 z3 zl g1 g2 HLA HLB
 go_cut [5, 6] from 30 to 33 (fun v5 v6 wx => ∃ (A B g gc h hc : Nat), v5 = .pointer (some ⟨A, 0, none⟩) /\ v6 = .pointer (some ⟨B, 0, none⟩) /\ wx.heap[A]? = some (.cells #[.int .i64 s.st, .int .i64 s.lb, .int .i64 s.s0, .slice (some ⟨g, 0, none⟩) el gc] 24 (0, 0)) /\ wx.heap[B]? = some (.cells #[.int .i64 t.st, .int .i64 t.lb, .int .i64 t.s0, .slice (some ⟨h, 0, none⟩) tl hc] 24 (0, 0)) /\ LentS wx w1.heap.size g gc s.es /\ LentS wx w1.heap.size h hc t.es /\ Below w1.heap.size w1 wx)
 case first => (
 have HR := hid (Rws.nil (Below.refl w1.heap.size w1).drew)
 refine wp_region_held_drew (S := (fun V => ((V.cell? ⟨X, 0, none⟩ = some (.int .i64 s.st) /\ V.cell? ⟨X, 1, none⟩ = some (.int .i64 s.lb) /\ V.cell? ⟨X, 2, none⟩ = some (.int .i64 s.s0) /\ V.cell? ⟨X, 3, none⟩ = some (.slice a el c)) /\ X < V.heap.size) /\ ((V.cell? ⟨Z, 0, none⟩ = some (.int .i64 t.st) /\ V.cell? ⟨Z, 1, none⟩ = some (.int .i64 t.lb) /\ V.cell? ⟨Z, 2, none⟩ = some (.int .i64 t.s0) /\ V.cell? ⟨Z, 3, none⟩ = some (.slice a2 tl c2)) /\ Z < V.heap.size))) (by kernel_rfl) (by (try dsimp only); exact HKX.out _ HR.out.bel) (fun hHeld => ?_)
 refine qT 0 (v := ?_) ?_ ?_
 rotate_left
 · intro w hSw; (try dsimp only at hSw); go_simp; try with_reducible rfl
 try simp only [qga, qgz, Act.put, qgt, qgx, qgy]
 refine qT 2 (v := ?_) ?_ ?_
 rotate_left
 · intro w hSw; (try dsimp only at hSw); go_simp; try with_reducible rfl
 try simp only [qga, qgz, qgs, Act.put, qgt, qgx, qgy]
 refine wpAnyH_ready (rs := [1, 4, 5]) (by kernel_rfl) (by simp) ?_
 refine AllReadyH.cons rfl (fun K hK => ?_) (AllReadyH.cons rfl (fun K hK => ?_) (AllReadyH.cons rfl (fun K hK => ?_) AllReadyH.nil))
 go_simp
 refine (HLS.out _ (HW1.out.trans (HR.out.bel.mono HW1.out.size))).mono ?_
 rintro e wa ⟨g, gc, rfl, hl, hB⟩
 have HR := hid (HR.out.add hB hl.own)
 clear hl hB
 refine hK.out _ _ (by (try dsimp only); exact HKX.out _ HR.out.bel) (fun hHeld => ?_)
 clear hK K
 try simp only [qga, qgz, qgs, Act.put, qgt, qgx, qgy]
 refine wpAnyH_ready (rs := [3, 4, 5]) (by kernel_rfl) (by simp) ?_
 refine AllReadyH.cons rfl (fun K hK => ?_) (AllReadyH.cons rfl (fun K hK => ?_) (AllReadyH.cons rfl (fun K hK => ?_) AllReadyH.nil))
 go_simp
 refine (HLT.out _ (HW1.out.trans (HR.out.bel.mono HW1.out.size))).mono ?_
 rintro e wb ⟨h, hc, rfl, hl, hB⟩
 have HR := hid (HR.out.add hB hl.own)
 clear hl hB
 refine hK.out _ _ (by (try dsimp only); exact HKX.out _ HR.out.bel) (fun hHeld => ?_)
 clear hK K
 try simp only [qga, qgz, qgs, Act.put, qgt, qgx, qgy]
 refine wpAnyH_ready (rs := [4, 5]) (by kernel_rfl) (by simp) ?_
 refine AllReadyH.cons rfl (fun K hK => ?_) (AllReadyH.cons rfl (fun K hK => ?_) AllReadyH.nil)
 go_simp
 have hr := HR.out.addLit #[.int .i64 0, .int .i64 0, .int .i64 0, .slice none 0 0] 24 (k := 4) (n := 1) (by decide) rfl
 have HR := hid hr
 clear hr
 refine hK.out _ _ (by (try dsimp only); exact HKX.out _ HR.out.bel) (fun hHeld => ?_)
 clear hK K
 try simp only [qga, qgz, qgs, Act.put, qgt, qgx, qgy]
 refine wpAnyH_ready (rs := [5]) (by kernel_rfl) (by simp) ?_
 refine AllReadyH.cons rfl (fun K hK => ?_) AllReadyH.nil
 go_simp
 have hr := HR.out.addLit #[.int .i64 0, .int .i64 0, .int .i64 0, .slice none 0 0] 24 (k := 4) (n := 1) (by decide) rfl
 rw [show (wb.alloc (.cells #[.int .i64 0, .int .i64 0, .int .i64 0, .slice none 0 0] 24)).heap.size = wb.heap.size + 1 by simp] at hr
 have HR := hid hr
 clear hr
 refine hK.out _ _ (by (try dsimp only); exact HKX.out _ HR.out.bel) (fun hHeld => ?_)
 clear hK K
 try simp only [qga, qgz, qgs, Act.put, qgt, qgx, qgy]
 refine wpAnyH_ready (rs := [6]) (by kernel_rfl) (by simp) ?_
 refine AllReadyH.cons rfl (fun K hK => ?_) AllReadyH.nil
 obtain ⟨wv, hwv⟩ : ∃ wv, wv = ((wb.alloc (.cells #[.int .i64 0, .int .i64 0, .int .i64 0, .slice none 0 0] 24)).alloc (.cells #[.int .i64 0, .int .i64 0, .int .i64 0, .slice none 0 0] 24)) := ⟨_, rfl⟩
 rw [<- hwv] at HR ⊢
 clear hwv
 have q0 := HR.out.cell (i := 1) rfl (j := 0) rfl
 have q1 := HR.out.cell (i := 1) rfl (j := 1) rfl
 have q2 := HR.out.cell (i := 1) rfl (j := 2) rfl
 have q3 := HR.out.cell (i := 1) rfl (j := 3) rfl
 have f0 := HR.out.fz (i := 1) rfl 0
 have f1 := HR.out.fz (i := 1) rfl 1
 have f2 := HR.out.fz (i := 1) rfl 2
 have f3 := HR.out.fz (i := 1) rfl 3
 have ql := (HR.out.lt (i := 1) rfl).2
 have hr := HR.out
 have hr := hr.set 1 rfl 0 (.int .i64 s.st)
 have hr := hr.set 1 rfl 1 (.int .i64 s.lb)
 have hr := hr.set 1 rfl 2 (.int .i64 s.s0)
 have hr := hr.set 1 rfl 3 (.slice (some ⟨g, 0, none⟩) el gc)
 have HR := hid hr
 clear hr
 go_simp
 clear q0 q1 q2 q3 f0 f1 f2 f3 ql
 refine hK.out _ _ (by (try dsimp only); exact HKX.out _ HR.out.bel) (fun hHeld => ?_)
 clear hK K
 try simp only [qga, qgz, qgs, Act.put, qgt, qgx, qgy]
 refine wpAnyH_ready (rs := [7]) (by kernel_rfl) (by simp) ?_
 refine AllReadyH.cons rfl (fun K hK => ?_) AllReadyH.nil
 obtain ⟨wy, hwy⟩ : ∃ wy, wy = ((((wv.setCell ⟨wb.heap.size, 0, none⟩ (.int .i64 s.st)).setCell ⟨wb.heap.size, 1, none⟩ (.int .i64 s.lb)).setCell ⟨wb.heap.size, 2, none⟩ (.int .i64 s.s0)).setCell ⟨wb.heap.size, 3, none⟩ (.slice (some ⟨g, 0, none⟩) el gc)) := ⟨_, rfl⟩
 rw [<- hwy] at HR ⊢
 clear hwy
 have q0 := HR.out.cell (i := 0) rfl (j := 0) rfl
 have q1 := HR.out.cell (i := 0) rfl (j := 1) rfl
 have q2 := HR.out.cell (i := 0) rfl (j := 2) rfl
 have q3 := HR.out.cell (i := 0) rfl (j := 3) rfl
 have f0 := HR.out.fz (i := 0) rfl 0
 have f1 := HR.out.fz (i := 0) rfl 1
 have f2 := HR.out.fz (i := 0) rfl 2
 have f3 := HR.out.fz (i := 0) rfl 3
 have ql := (HR.out.lt (i := 0) rfl).2
 have hr := HR.out
 have hr := hr.set 0 rfl 0 (.int .i64 t.st)
 have hr := hr.set 0 rfl 1 (.int .i64 t.lb)
 have hr := hr.set 0 rfl 2 (.int .i64 t.s0)
 have hr := hr.set 0 rfl 3 (.slice (some ⟨h, 0, none⟩) tl hc)
 have HR := hid hr
 clear hr
 go_simp
 clear q0 q1 q2 q3 f0 f1 f2 f3 ql
 refine hK.out _ _ (by (try dsimp only); exact HKX.out _ HR.out.bel) (fun hHeld => ?_)
 clear hK K
 try simp only [qga, qgz, qgs, Act.put, qgt, qgx, qgy]
 refine wpAnyH_done (by kernel_rfl) ?_ _
 go_wp2_with fail
 go_meet
 exact ⟨wb.heap.size, wb.heap.size + 1, g, gc, h, hc, rfl, rfl, boxU (HR.out.get (i := 1) rfl), boxU (HR.out.get (i := 0) rfl), ⟨HR.out.get (i := 3) rfl⟩, ⟨HR.out.get (i := 2) rfl⟩, HR.out.bel⟩
 go_simp
 have hr := HR.out.addLit #[.int .i64 0, .int .i64 0, .int .i64 0, .slice none 0 0] 24 (k := 4) (n := 1) (by decide) rfl
 have HR := hid hr
 clear hr
 refine hK.out _ _ (by (try dsimp only); exact HKX.out _ HR.out.bel) (fun hHeld => ?_)
 clear hK K
 try simp only [qga, qgz, qgs, Act.put, qgt, qgx, qgy]
 refine wpAnyH_ready (rs := [4]) (by kernel_rfl) (by simp) ?_
 refine AllReadyH.cons rfl (fun K hK => ?_) AllReadyH.nil
 go_simp
 have hr := HR.out.addLit #[.int .i64 0, .int .i64 0, .int .i64 0, .slice none 0 0] 24 (k := 4) (n := 1) (by decide) rfl
 rw [show (wb.alloc (.cells #[.int .i64 0, .int .i64 0, .int .i64 0, .slice none 0 0] 24)).heap.size = wb.heap.size + 1 by simp] at hr
 have HR := hid hr
 clear hr
 refine hK.out _ _ (by (try dsimp only); exact HKX.out _ HR.out.bel) (fun hHeld => ?_)
 clear hK K
 try simp only [qga, qgz, qgs, Act.put, qgt, qgx, qgy]
 refine wpAnyH_ready (rs := [6]) (by kernel_rfl) (by simp) ?_
 refine AllReadyH.cons rfl (fun K hK => ?_) AllReadyH.nil
 obtain ⟨wv, hwv⟩ : ∃ wv, wv = ((wb.alloc (.cells #[.int .i64 0, .int .i64 0, .int .i64 0, .slice none 0 0] 24)).alloc (.cells #[.int .i64 0, .int .i64 0, .int .i64 0, .slice none 0 0] 24)) := ⟨_, rfl⟩
 rw [<- hwv] at HR ⊢
 clear hwv
 have q0 := HR.out.cell (i := 0) rfl (j := 0) rfl
 have q1 := HR.out.cell (i := 0) rfl (j := 1) rfl
 have q2 := HR.out.cell (i := 0) rfl (j := 2) rfl
 have q3 := HR.out.cell (i := 0) rfl (j := 3) rfl
 have f0 := HR.out.fz (i := 0) rfl 0
 have f1 := HR.out.fz (i := 0) rfl 1
 have f2 := HR.out.fz (i := 0) rfl 2
 have f3 := HR.out.fz (i := 0) rfl 3
 have ql := (HR.out.lt (i := 0) rfl).2
 have hr := HR.out
 have hr := hr.set 0 rfl 0 (.int .i64 s.st)
 have hr := hr.set 0 rfl 1 (.int .i64 s.lb)
 have hr := hr.set 0 rfl 2 (.int .i64 s.s0)
 have hr := hr.set 0 rfl 3 (.slice (some ⟨g, 0, none⟩) el gc)
 have HR := hid hr
 clear hr
 go_simp
 clear q0 q1 q2 q3 f0 f1 f2 f3 ql
 refine hK.out _ _ (by (try dsimp only); exact HKX.out _ HR.out.bel) (fun hHeld => ?_)
 clear hK K
 try simp only [qga, qgz, qgs, Act.put, qgt, qgx, qgy]
 refine wpAnyH_ready (rs := [7]) (by kernel_rfl) (by simp) ?_
 refine AllReadyH.cons rfl (fun K hK => ?_) AllReadyH.nil
 obtain ⟨wy, hwy⟩ : ∃ wy, wy = ((((wv.setCell ⟨wb.heap.size + 1, 0, none⟩ (.int .i64 s.st)).setCell ⟨wb.heap.size + 1, 1, none⟩ (.int .i64 s.lb)).setCell ⟨wb.heap.size + 1, 2, none⟩ (.int .i64 s.s0)).setCell ⟨wb.heap.size + 1, 3, none⟩ (.slice (some ⟨g, 0, none⟩) el gc)) := ⟨_, rfl⟩
 rw [<- hwy] at HR ⊢
 clear hwy
 have q0 := HR.out.cell (i := 1) rfl (j := 0) rfl
 have q1 := HR.out.cell (i := 1) rfl (j := 1) rfl
 have q2 := HR.out.cell (i := 1) rfl (j := 2) rfl
 have q3 := HR.out.cell (i := 1) rfl (j := 3) rfl
 have f0 := HR.out.fz (i := 1) rfl 0
 have f1 := HR.out.fz (i := 1) rfl 1
 have f2 := HR.out.fz (i := 1) rfl 2
 have f3 := HR.out.fz (i := 1) rfl 3
 have ql := (HR.out.lt (i := 1) rfl).2
 have hr := HR.out
 have hr := hr.set 1 rfl 0 (.int .i64 t.st)
 have hr := hr.set 1 rfl 1 (.int .i64 t.lb)
 have hr := hr.set 1 rfl 2 (.int .i64 t.s0)
 have hr := hr.set 1 rfl 3 (.slice (some ⟨h, 0, none⟩) tl hc)
 have HR := hid hr
 clear hr
 go_simp
 clear q0 q1 q2 q3 f0 f1 f2 f3 ql
 refine hK.out _ _ (by (try dsimp only); exact HKX.out _ HR.out.bel) (fun hHeld => ?_)
 clear hK K
 try simp only [qga, qgz, qgs, Act.put, qgt, qgx, qgy]
 refine wpAnyH_done (by kernel_rfl) ?_ _
 go_wp2_with fail
 go_meet
 exact ⟨wb.heap.size + 1, wb.heap.size, g, gc, h, hc, rfl, rfl, boxU (HR.out.get (i := 0) rfl), boxU (HR.out.get (i := 1) rfl), ⟨HR.out.get (i := 3) rfl⟩, ⟨HR.out.get (i := 2) rfl⟩, HR.out.bel⟩
 go_simp
 have hr := HR.out.addLit #[.int .i64 0, .int .i64 0, .int .i64 0, .slice none 0 0] 24 (k := 4) (n := 1) (by decide) rfl
 have HR := hid hr
 clear hr
 refine hK.out _ _ (by (try dsimp only); exact HKX.out _ HR.out.bel) (fun hHeld => ?_)
 clear hK K
 try simp only [qga, qgz, qgs, Act.put, qgt, qgx, qgy]
 refine wpAnyH_ready (rs := [3, 5]) (by kernel_rfl) (by simp) ?_
 refine AllReadyH.cons rfl (fun K hK => ?_) (AllReadyH.cons rfl (fun K hK => ?_) AllReadyH.nil)
 go_simp
 refine (HLT.out _ (HW1.out.trans (HR.out.bel.mono HW1.out.size))).mono ?_
 rintro e wb ⟨h, hc, rfl, hl, hB⟩
 have HR := hid (HR.out.add hB hl.own)
 clear hl hB
 refine hK.out _ _ (by (try dsimp only); exact HKX.out _ HR.out.bel) (fun hHeld => ?_)
 clear hK K
 try simp only [qga, qgz, qgs, Act.put, qgt, qgx, qgy]
 refine wpAnyH_ready (rs := [5]) (by kernel_rfl) (by simp) ?_
 refine AllReadyH.cons rfl (fun K hK => ?_) AllReadyH.nil
 go_simp
 have hr := HR.out.addLit #[.int .i64 0, .int .i64 0, .int .i64 0, .slice none 0 0] 24 (k := 4) (n := 1) (by decide) rfl
 have HR := hid hr
 clear hr
 refine hK.out _ _ (by (try dsimp only); exact HKX.out _ HR.out.bel) (fun hHeld => ?_)
 clear hK K
 try simp only [qga, qgz, qgs, Act.put, qgt, qgx, qgy]
 refine wpAnyH_ready (rs := [6]) (by kernel_rfl) (by simp) ?_
 refine AllReadyH.cons rfl (fun K hK => ?_) AllReadyH.nil
 obtain ⟨wv, hwv⟩ : ∃ wv, wv = (wb.alloc (.cells #[.int .i64 0, .int .i64 0, .int .i64 0, .slice none 0 0] 24)) := ⟨_, rfl⟩
 rw [<- hwv] at HR ⊢
 clear hwv
 have q0 := HR.out.cell (i := 2) rfl (j := 0) rfl
 have q1 := HR.out.cell (i := 2) rfl (j := 1) rfl
 have q2 := HR.out.cell (i := 2) rfl (j := 2) rfl
 have q3 := HR.out.cell (i := 2) rfl (j := 3) rfl
 have f0 := HR.out.fz (i := 2) rfl 0
 have f1 := HR.out.fz (i := 2) rfl 1
 have f2 := HR.out.fz (i := 2) rfl 2
 have f3 := HR.out.fz (i := 2) rfl 3
 have ql := (HR.out.lt (i := 2) rfl).2
 have hr := HR.out
 have hr := hr.set 2 rfl 0 (.int .i64 s.st)
 have hr := hr.set 2 rfl 1 (.int .i64 s.lb)
 have hr := hr.set 2 rfl 2 (.int .i64 s.s0)
 have hr := hr.set 2 rfl 3 (.slice (some ⟨g, 0, none⟩) el gc)
 have HR := hid hr
 clear hr
 go_simp
 clear q0 q1 q2 q3 f0 f1 f2 f3 ql
 refine hK.out _ _ (by (try dsimp only); exact HKX.out _ HR.out.bel) (fun hHeld => ?_)
 clear hK K
 try simp only [qga, qgz, qgs, Act.put, qgt, qgx, qgy]
 refine wpAnyH_ready (rs := [7]) (by kernel_rfl) (by simp) ?_
 refine AllReadyH.cons rfl (fun K hK => ?_) AllReadyH.nil
 obtain ⟨wy, hwy⟩ : ∃ wy, wy = ((((wv.setCell ⟨wa.heap.size, 0, none⟩ (.int .i64 s.st)).setCell ⟨wa.heap.size, 1, none⟩ (.int .i64 s.lb)).setCell ⟨wa.heap.size, 2, none⟩ (.int .i64 s.s0)).setCell ⟨wa.heap.size, 3, none⟩ (.slice (some ⟨g, 0, none⟩) el gc)) := ⟨_, rfl⟩
 rw [<- hwy] at HR ⊢
 clear hwy
 have q0 := HR.out.cell (i := 0) rfl (j := 0) rfl
 have q1 := HR.out.cell (i := 0) rfl (j := 1) rfl
 have q2 := HR.out.cell (i := 0) rfl (j := 2) rfl
 have q3 := HR.out.cell (i := 0) rfl (j := 3) rfl
 have f0 := HR.out.fz (i := 0) rfl 0
 have f1 := HR.out.fz (i := 0) rfl 1
 have f2 := HR.out.fz (i := 0) rfl 2
 have f3 := HR.out.fz (i := 0) rfl 3
 have ql := (HR.out.lt (i := 0) rfl).2
 have hr := HR.out
 have hr := hr.set 0 rfl 0 (.int .i64 t.st)
 have hr := hr.set 0 rfl 1 (.int .i64 t.lb)
 have hr := hr.set 0 rfl 2 (.int .i64 t.s0)
 have hr := hr.set 0 rfl 3 (.slice (some ⟨h, 0, none⟩) tl hc)
 have HR := hid hr
 clear hr
 go_simp
 clear q0 q1 q2 q3 f0 f1 f2 f3 ql
 refine hK.out _ _ (by (try dsimp only); exact HKX.out _ HR.out.bel) (fun hHeld => ?_)
 clear hK K
 try simp only [qga, qgz, qgs, Act.put, qgt, qgx, qgy]
 refine wpAnyH_done (by kernel_rfl) ?_ _
 go_wp2_with fail
 go_meet
 exact ⟨wa.heap.size, wb.heap.size, g, gc, h, hc, rfl, rfl, boxU (HR.out.get (i := 2) rfl), boxU (HR.out.get (i := 0) rfl), ⟨HR.out.get (i := 3) rfl⟩, ⟨HR.out.get (i := 1) rfl⟩, HR.out.bel⟩
 go_simp
 have hr := HR.out.addLit #[.int .i64 0, .int .i64 0, .int .i64 0, .slice none 0 0] 24 (k := 4) (n := 1) (by decide) rfl
 rw [show (wa.alloc (.cells #[.int .i64 0, .int .i64 0, .int .i64 0, .slice none 0 0] 24)).heap.size = wa.heap.size + 1 by simp] at hr
 have HR := hid hr
 clear hr
 refine hK.out _ _ (by (try dsimp only); exact HKX.out _ HR.out.bel) (fun hHeld => ?_)
 clear hK K
 try simp only [qga, qgz, qgs, Act.put, qgt, qgx, qgy]
 refine wpAnyH_ready (rs := [3]) (by kernel_rfl) (by simp) ?_
 refine AllReadyH.cons rfl (fun K hK => ?_) AllReadyH.nil
 go_simp
 refine (HLT.out _ (HW1.out.trans (HR.out.bel.mono HW1.out.size))).mono ?_
 rintro e wb ⟨h, hc, rfl, hl, hB⟩
 have HR := hid (HR.out.add hB hl.own)
 clear hl hB
 refine hK.out _ _ (by (try dsimp only); exact HKX.out _ HR.out.bel) (fun hHeld => ?_)
 clear hK K
 try simp only [qga, qgz, qgs, Act.put, qgt, qgx, qgy]
 refine wpAnyH_ready (rs := [6]) (by kernel_rfl) (by simp) ?_
 refine AllReadyH.cons rfl (fun K hK => ?_) AllReadyH.nil
 obtain ⟨wv, hwv⟩ : ∃ wv, wv = wb := ⟨_, rfl⟩
 rw [<- hwv] at HR ⊢
 clear hwv
 have q0 := HR.out.cell (i := 2) rfl (j := 0) rfl
 have q1 := HR.out.cell (i := 2) rfl (j := 1) rfl
 have q2 := HR.out.cell (i := 2) rfl (j := 2) rfl
 have q3 := HR.out.cell (i := 2) rfl (j := 3) rfl
 have f0 := HR.out.fz (i := 2) rfl 0
 have f1 := HR.out.fz (i := 2) rfl 1
 have f2 := HR.out.fz (i := 2) rfl 2
 have f3 := HR.out.fz (i := 2) rfl 3
 have ql := (HR.out.lt (i := 2) rfl).2
 have hr := HR.out
 have hr := hr.set 2 rfl 0 (.int .i64 s.st)
 have hr := hr.set 2 rfl 1 (.int .i64 s.lb)
 have hr := hr.set 2 rfl 2 (.int .i64 s.s0)
 have hr := hr.set 2 rfl 3 (.slice (some ⟨g, 0, none⟩) el gc)
 have HR := hid hr
 clear hr
 go_simp
 clear q0 q1 q2 q3 f0 f1 f2 f3 ql
 refine hK.out _ _ (by (try dsimp only); exact HKX.out _ HR.out.bel) (fun hHeld => ?_)
 clear hK K
 try simp only [qga, qgz, qgs, Act.put, qgt, qgx, qgy]
 refine wpAnyH_ready (rs := [7]) (by kernel_rfl) (by simp) ?_
 refine AllReadyH.cons rfl (fun K hK => ?_) AllReadyH.nil
 obtain ⟨wy, hwy⟩ : ∃ wy, wy = ((((wv.setCell ⟨wa.heap.size, 0, none⟩ (.int .i64 s.st)).setCell ⟨wa.heap.size, 1, none⟩ (.int .i64 s.lb)).setCell ⟨wa.heap.size, 2, none⟩ (.int .i64 s.s0)).setCell ⟨wa.heap.size, 3, none⟩ (.slice (some ⟨g, 0, none⟩) el gc)) := ⟨_, rfl⟩
 rw [<- hwy] at HR ⊢
 clear hwy
 have q0 := HR.out.cell (i := 1) rfl (j := 0) rfl
 have q1 := HR.out.cell (i := 1) rfl (j := 1) rfl
 have q2 := HR.out.cell (i := 1) rfl (j := 2) rfl
 have q3 := HR.out.cell (i := 1) rfl (j := 3) rfl
 have f0 := HR.out.fz (i := 1) rfl 0
 have f1 := HR.out.fz (i := 1) rfl 1
 have f2 := HR.out.fz (i := 1) rfl 2
 have f3 := HR.out.fz (i := 1) rfl 3
 have ql := (HR.out.lt (i := 1) rfl).2
 have hr := HR.out
 have hr := hr.set 1 rfl 0 (.int .i64 t.st)
 have hr := hr.set 1 rfl 1 (.int .i64 t.lb)
 have hr := hr.set 1 rfl 2 (.int .i64 t.s0)
 have hr := hr.set 1 rfl 3 (.slice (some ⟨h, 0, none⟩) tl hc)
 have HR := hid hr
 clear hr
 go_simp
 clear q0 q1 q2 q3 f0 f1 f2 f3 ql
 refine hK.out _ _ (by (try dsimp only); exact HKX.out _ HR.out.bel) (fun hHeld => ?_)
 clear hK K
 try simp only [qga, qgz, qgs, Act.put, qgt, qgx, qgy]
 refine wpAnyH_done (by kernel_rfl) ?_ _
 go_wp2_with fail
 go_meet
 exact ⟨wa.heap.size, wa.heap.size + 1, g, gc, h, hc, rfl, rfl, boxU (HR.out.get (i := 2) rfl), boxU (HR.out.get (i := 1) rfl), ⟨HR.out.get (i := 3) rfl⟩, ⟨HR.out.get (i := 0) rfl⟩, HR.out.bel⟩
 go_simp
 have hr := HR.out.addLit #[.int .i64 0, .int .i64 0, .int .i64 0, .slice none 0 0] 24 (k := 4) (n := 1) (by decide) rfl
 have HR := hid hr
 clear hr
 refine hK.out _ _ (by (try dsimp only); exact HKX.out _ HR.out.bel) (fun hHeld => ?_)
 clear hK K
 try simp only [qga, qgz, qgs, Act.put, qgt, qgx, qgy]
 refine wpAnyH_ready (rs := [3, 4]) (by kernel_rfl) (by simp) ?_
 refine AllReadyH.cons rfl (fun K hK => ?_) (AllReadyH.cons rfl (fun K hK => ?_) AllReadyH.nil)
 go_simp
 refine (HLT.out _ (HW1.out.trans (HR.out.bel.mono HW1.out.size))).mono ?_
 rintro e wb ⟨h, hc, rfl, hl, hB⟩
 have HR := hid (HR.out.add hB hl.own)
 clear hl hB
 refine hK.out _ _ (by (try dsimp only); exact HKX.out _ HR.out.bel) (fun hHeld => ?_)
 clear hK K
 try simp only [qga, qgz, qgs, Act.put, qgt, qgx, qgy]
 refine wpAnyH_ready (rs := [4]) (by kernel_rfl) (by simp) ?_
 refine AllReadyH.cons rfl (fun K hK => ?_) AllReadyH.nil
 go_simp
 have hr := HR.out.addLit #[.int .i64 0, .int .i64 0, .int .i64 0, .slice none 0 0] 24 (k := 4) (n := 1) (by decide) rfl
 have HR := hid hr
 clear hr
 refine hK.out _ _ (by (try dsimp only); exact HKX.out _ HR.out.bel) (fun hHeld => ?_)
 clear hK K
 try simp only [qga, qgz, qgs, Act.put, qgt, qgx, qgy]
 refine wpAnyH_ready (rs := [6]) (by kernel_rfl) (by simp) ?_
 refine AllReadyH.cons rfl (fun K hK => ?_) AllReadyH.nil
 obtain ⟨wv, hwv⟩ : ∃ wv, wv = (wb.alloc (.cells #[.int .i64 0, .int .i64 0, .int .i64 0, .slice none 0 0] 24)) := ⟨_, rfl⟩
 rw [<- hwv] at HR ⊢
 clear hwv
 have q0 := HR.out.cell (i := 0) rfl (j := 0) rfl
 have q1 := HR.out.cell (i := 0) rfl (j := 1) rfl
 have q2 := HR.out.cell (i := 0) rfl (j := 2) rfl
 have q3 := HR.out.cell (i := 0) rfl (j := 3) rfl
 have f0 := HR.out.fz (i := 0) rfl 0
 have f1 := HR.out.fz (i := 0) rfl 1
 have f2 := HR.out.fz (i := 0) rfl 2
 have f3 := HR.out.fz (i := 0) rfl 3
 have ql := (HR.out.lt (i := 0) rfl).2
 have hr := HR.out
 have hr := hr.set 0 rfl 0 (.int .i64 s.st)
 have hr := hr.set 0 rfl 1 (.int .i64 s.lb)
 have hr := hr.set 0 rfl 2 (.int .i64 s.s0)
 have hr := hr.set 0 rfl 3 (.slice (some ⟨g, 0, none⟩) el gc)
 have HR := hid hr
 clear hr
 go_simp
 clear q0 q1 q2 q3 f0 f1 f2 f3 ql
 refine hK.out _ _ (by (try dsimp only); exact HKX.out _ HR.out.bel) (fun hHeld => ?_)
 clear hK K
 try simp only [qga, qgz, qgs, Act.put, qgt, qgx, qgy]
 refine wpAnyH_ready (rs := [7]) (by kernel_rfl) (by simp) ?_
 refine AllReadyH.cons rfl (fun K hK => ?_) AllReadyH.nil
 obtain ⟨wy, hwy⟩ : ∃ wy, wy = ((((wv.setCell ⟨wb.heap.size, 0, none⟩ (.int .i64 s.st)).setCell ⟨wb.heap.size, 1, none⟩ (.int .i64 s.lb)).setCell ⟨wb.heap.size, 2, none⟩ (.int .i64 s.s0)).setCell ⟨wb.heap.size, 3, none⟩ (.slice (some ⟨g, 0, none⟩) el gc)) := ⟨_, rfl⟩
 rw [<- hwy] at HR ⊢
 clear hwy
 have q0 := HR.out.cell (i := 2) rfl (j := 0) rfl
 have q1 := HR.out.cell (i := 2) rfl (j := 1) rfl
 have q2 := HR.out.cell (i := 2) rfl (j := 2) rfl
 have q3 := HR.out.cell (i := 2) rfl (j := 3) rfl
 have f0 := HR.out.fz (i := 2) rfl 0
 have f1 := HR.out.fz (i := 2) rfl 1
 have f2 := HR.out.fz (i := 2) rfl 2
 have f3 := HR.out.fz (i := 2) rfl 3
 have ql := (HR.out.lt (i := 2) rfl).2
 have hr := HR.out
 have hr := hr.set 2 rfl 0 (.int .i64 t.st)
 have hr := hr.set 2 rfl 1 (.int .i64 t.lb)
 have hr := hr.set 2 rfl 2 (.int .i64 t.s0)
 have hr := hr.set 2 rfl 3 (.slice (some ⟨h, 0, none⟩) tl hc)
 have HR := hid hr
 clear hr
 go_simp
 clear q0 q1 q2 q3 f0 f1 f2 f3 ql
 refine hK.out _ _ (by (try dsimp only); exact HKX.out _ HR.out.bel) (fun hHeld => ?_)
 clear hK K
 try simp only [qga, qgz, qgs, Act.put, qgt, qgx, qgy]
 refine wpAnyH_done (by kernel_rfl) ?_ _
 go_wp2_with fail
 go_meet
 exact ⟨wb.heap.size, wa.heap.size, g, gc, h, hc, rfl, rfl, boxU (HR.out.get (i := 0) rfl), boxU (HR.out.get (i := 2) rfl), ⟨HR.out.get (i := 3) rfl⟩, ⟨HR.out.get (i := 1) rfl⟩, HR.out.bel⟩
 go_simp
 have hr := HR.out.addLit #[.int .i64 0, .int .i64 0, .int .i64 0, .slice none 0 0] 24 (k := 4) (n := 1) (by decide) rfl
 rw [show (wa.alloc (.cells #[.int .i64 0, .int .i64 0, .int .i64 0, .slice none 0 0] 24)).heap.size = wa.heap.size + 1 by simp] at hr
 have HR := hid hr
 clear hr
 refine hK.out _ _ (by (try dsimp only); exact HKX.out _ HR.out.bel) (fun hHeld => ?_)
 clear hK K
 try simp only [qga, qgz, qgs, Act.put, qgt, qgx, qgy]
 refine wpAnyH_ready (rs := [3]) (by kernel_rfl) (by simp) ?_
 refine AllReadyH.cons rfl (fun K hK => ?_) AllReadyH.nil
 go_simp
 refine (HLT.out _ (HW1.out.trans (HR.out.bel.mono HW1.out.size))).mono ?_
 rintro e wb ⟨h, hc, rfl, hl, hB⟩
 have HR := hid (HR.out.add hB hl.own)
 clear hl hB
 refine hK.out _ _ (by (try dsimp only); exact HKX.out _ HR.out.bel) (fun hHeld => ?_)
 clear hK K
 try simp only [qga, qgz, qgs, Act.put, qgt, qgx, qgy]
 refine wpAnyH_ready (rs := [6]) (by kernel_rfl) (by simp) ?_
 refine AllReadyH.cons rfl (fun K hK => ?_) AllReadyH.nil
 obtain ⟨wv, hwv⟩ : ∃ wv, wv = wb := ⟨_, rfl⟩
 rw [<- hwv] at HR ⊢
 clear hwv
 have q0 := HR.out.cell (i := 1) rfl (j := 0) rfl
 have q1 := HR.out.cell (i := 1) rfl (j := 1) rfl
 have q2 := HR.out.cell (i := 1) rfl (j := 2) rfl
 have q3 := HR.out.cell (i := 1) rfl (j := 3) rfl
 have f0 := HR.out.fz (i := 1) rfl 0
 have f1 := HR.out.fz (i := 1) rfl 1
 have f2 := HR.out.fz (i := 1) rfl 2
 have f3 := HR.out.fz (i := 1) rfl 3
 have ql := (HR.out.lt (i := 1) rfl).2
 have hr := HR.out
 have hr := hr.set 1 rfl 0 (.int .i64 s.st)
 have hr := hr.set 1 rfl 1 (.int .i64 s.lb)
 have hr := hr.set 1 rfl 2 (.int .i64 s.s0)
 have hr := hr.set 1 rfl 3 (.slice (some ⟨g, 0, none⟩) el gc)
 have HR := hid hr
 clear hr
 go_simp
 clear q0 q1 q2 q3 f0 f1 f2 f3 ql
 refine hK.out _ _ (by (try dsimp only); exact HKX.out _ HR.out.bel) (fun hHeld => ?_)
 clear hK K
 try simp only [qga, qgz, qgs, Act.put, qgt, qgx, qgy]
 refine wpAnyH_ready (rs := [7]) (by kernel_rfl) (by simp) ?_
 refine AllReadyH.cons rfl (fun K hK => ?_) AllReadyH.nil
 obtain ⟨wy, hwy⟩ : ∃ wy, wy = ((((wv.setCell ⟨wa.heap.size + 1, 0, none⟩ (.int .i64 s.st)).setCell ⟨wa.heap.size + 1, 1, none⟩ (.int .i64 s.lb)).setCell ⟨wa.heap.size + 1, 2, none⟩ (.int .i64 s.s0)).setCell ⟨wa.heap.size + 1, 3, none⟩ (.slice (some ⟨g, 0, none⟩) el gc)) := ⟨_, rfl⟩
 rw [<- hwy] at HR ⊢
 clear hwy
 have q0 := HR.out.cell (i := 2) rfl (j := 0) rfl
 have q1 := HR.out.cell (i := 2) rfl (j := 1) rfl
 have q2 := HR.out.cell (i := 2) rfl (j := 2) rfl
 have q3 := HR.out.cell (i := 2) rfl (j := 3) rfl
 have f0 := HR.out.fz (i := 2) rfl 0
 have f1 := HR.out.fz (i := 2) rfl 1
 have f2 := HR.out.fz (i := 2) rfl 2
 have f3 := HR.out.fz (i := 2) rfl 3
 have ql := (HR.out.lt (i := 2) rfl).2
 have hr := HR.out
 have hr := hr.set 2 rfl 0 (.int .i64 t.st)
 have hr := hr.set 2 rfl 1 (.int .i64 t.lb)
 have hr := hr.set 2 rfl 2 (.int .i64 t.s0)
 have hr := hr.set 2 rfl 3 (.slice (some ⟨h, 0, none⟩) tl hc)
 have HR := hid hr
 clear hr
 go_simp
 clear q0 q1 q2 q3 f0 f1 f2 f3 ql
 refine hK.out _ _ (by (try dsimp only); exact HKX.out _ HR.out.bel) (fun hHeld => ?_)
 clear hK K
 try simp only [qga, qgz, qgs, Act.put, qgt, qgx, qgy]
 refine wpAnyH_done (by kernel_rfl) ?_ _
 go_wp2_with fail
 go_meet
 exact ⟨wa.heap.size + 1, wa.heap.size, g, gc, h, hc, rfl, rfl, boxU (HR.out.get (i := 1) rfl), boxU (HR.out.get (i := 2) rfl), ⟨HR.out.get (i := 3) rfl⟩, ⟨HR.out.get (i := 0) rfl⟩, HR.out.bel⟩
 go_simp
 have hr := HR.out.addLit #[.int .i64 0, .int .i64 0, .int .i64 0, .slice none 0 0] 24 (k := 4) (n := 1) (by decide) rfl
 rw [show w1.drew.heap.size = w1.heap.size from rfl] at hr
 have HR := hid hr
 clear hr
 refine hK.out _ _ (by (try dsimp only); exact HKX.out _ HR.out.bel) (fun hHeld => ?_)
 clear hK K
 try simp only [qga, qgz, qgs, Act.put, qgt, qgx, qgy]
 refine wpAnyH_ready (rs := [1, 5]) (by kernel_rfl) (by simp) ?_
 refine AllReadyH.cons rfl (fun K hK => ?_) (AllReadyH.cons rfl (fun K hK => ?_) AllReadyH.nil)
 go_simp
 refine (HLS.out _ (HW1.out.trans (HR.out.bel.mono HW1.out.size))).mono ?_
 rintro e wa ⟨g, gc, rfl, hl, hB⟩
 have HR := hid (HR.out.add hB hl.own)
 clear hl hB
 refine hK.out _ _ (by (try dsimp only); exact HKX.out _ HR.out.bel) (fun hHeld => ?_)
 clear hK K
 try simp only [qga, qgz, qgs, Act.put, qgt, qgx, qgy]
 refine wpAnyH_ready (rs := [3, 5]) (by kernel_rfl) (by simp) ?_
 refine AllReadyH.cons rfl (fun K hK => ?_) (AllReadyH.cons rfl (fun K hK => ?_) AllReadyH.nil)
 go_simp
 refine (HLT.out _ (HW1.out.trans (HR.out.bel.mono HW1.out.size))).mono ?_
 rintro e wb ⟨h, hc, rfl, hl, hB⟩
 have HR := hid (HR.out.add hB hl.own)
 clear hl hB
 refine hK.out _ _ (by (try dsimp only); exact HKX.out _ HR.out.bel) (fun hHeld => ?_)
 clear hK K
 try simp only [qga, qgz, qgs, Act.put, qgt, qgx, qgy]
 refine wpAnyH_ready (rs := [5]) (by kernel_rfl) (by simp) ?_
 refine AllReadyH.cons rfl (fun K hK => ?_) AllReadyH.nil
 go_simp
 have hr := HR.out.addLit #[.int .i64 0, .int .i64 0, .int .i64 0, .slice none 0 0] 24 (k := 4) (n := 1) (by decide) rfl
 have HR := hid hr
 clear hr
 refine hK.out _ _ (by (try dsimp only); exact HKX.out _ HR.out.bel) (fun hHeld => ?_)
 clear hK K
 try simp only [qga, qgz, qgs, Act.put, qgt, qgx, qgy]
 refine wpAnyH_ready (rs := [6]) (by kernel_rfl) (by simp) ?_
 refine AllReadyH.cons rfl (fun K hK => ?_) AllReadyH.nil
 obtain ⟨wv, hwv⟩ : ∃ wv, wv = (wb.alloc (.cells #[.int .i64 0, .int .i64 0, .int .i64 0, .slice none 0 0] 24)) := ⟨_, rfl⟩
 rw [<- hwv] at HR ⊢
 clear hwv
 have q0 := HR.out.cell (i := 3) rfl (j := 0) rfl
 have q1 := HR.out.cell (i := 3) rfl (j := 1) rfl
 have q2 := HR.out.cell (i := 3) rfl (j := 2) rfl
 have q3 := HR.out.cell (i := 3) rfl (j := 3) rfl
 have f0 := HR.out.fz (i := 3) rfl 0
 have f1 := HR.out.fz (i := 3) rfl 1
 have f2 := HR.out.fz (i := 3) rfl 2
 have f3 := HR.out.fz (i := 3) rfl 3
 have ql := (HR.out.lt (i := 3) rfl).2
 have hr := HR.out
 have hr := hr.set 3 rfl 0 (.int .i64 s.st)
 have hr := hr.set 3 rfl 1 (.int .i64 s.lb)
 have hr := hr.set 3 rfl 2 (.int .i64 s.s0)
 have hr := hr.set 3 rfl 3 (.slice (some ⟨g, 0, none⟩) el gc)
 have HR := hid hr
 clear hr
 go_simp
 clear q0 q1 q2 q3 f0 f1 f2 f3 ql
 refine hK.out _ _ (by (try dsimp only); exact HKX.out _ HR.out.bel) (fun hHeld => ?_)
 clear hK K
 try simp only [qga, qgz, qgs, Act.put, qgt, qgx, qgy]
 refine wpAnyH_ready (rs := [7]) (by kernel_rfl) (by simp) ?_
 refine AllReadyH.cons rfl (fun K hK => ?_) AllReadyH.nil
 obtain ⟨wy, hwy⟩ : ∃ wy, wy = ((((wv.setCell ⟨w1.heap.size, 0, none⟩ (.int .i64 s.st)).setCell ⟨w1.heap.size, 1, none⟩ (.int .i64 s.lb)).setCell ⟨w1.heap.size, 2, none⟩ (.int .i64 s.s0)).setCell ⟨w1.heap.size, 3, none⟩ (.slice (some ⟨g, 0, none⟩) el gc)) := ⟨_, rfl⟩
 rw [<- hwy] at HR ⊢
 clear hwy
 have q0 := HR.out.cell (i := 0) rfl (j := 0) rfl
 have q1 := HR.out.cell (i := 0) rfl (j := 1) rfl
 have q2 := HR.out.cell (i := 0) rfl (j := 2) rfl
 have q3 := HR.out.cell (i := 0) rfl (j := 3) rfl
 have f0 := HR.out.fz (i := 0) rfl 0
 have f1 := HR.out.fz (i := 0) rfl 1
 have f2 := HR.out.fz (i := 0) rfl 2
 have f3 := HR.out.fz (i := 0) rfl 3
 have ql := (HR.out.lt (i := 0) rfl).2
 have hr := HR.out
 have hr := hr.set 0 rfl 0 (.int .i64 t.st)
 have hr := hr.set 0 rfl 1 (.int .i64 t.lb)
 have hr := hr.set 0 rfl 2 (.int .i64 t.s0)
 have hr := hr.set 0 rfl 3 (.slice (some ⟨h, 0, none⟩) tl hc)
 have HR := hid hr
 clear hr
 go_simp
 clear q0 q1 q2 q3 f0 f1 f2 f3 ql
 refine hK.out _ _ (by (try dsimp only); exact HKX.out _ HR.out.bel) (fun hHeld => ?_)
 clear hK K
 try simp only [qga, qgz, qgs, Act.put, qgt, qgx, qgy]
 refine wpAnyH_done (by kernel_rfl) ?_ _
 go_wp2_with fail
 go_meet
 exact ⟨w1.heap.size, wb.heap.size, g, gc, h, hc, rfl, rfl, boxU (HR.out.get (i := 3) rfl), boxU (HR.out.get (i := 0) rfl), ⟨HR.out.get (i := 2) rfl⟩, ⟨HR.out.get (i := 1) rfl⟩, HR.out.bel⟩
 go_simp
 have hr := HR.out.addLit #[.int .i64 0, .int .i64 0, .int .i64 0, .slice none 0 0] 24 (k := 4) (n := 1) (by decide) rfl
 have HR := hid hr
 clear hr
 refine hK.out _ _ (by (try dsimp only); exact HKX.out _ HR.out.bel) (fun hHeld => ?_)
 clear hK K
 try simp only [qga, qgz, qgs, Act.put, qgt, qgx, qgy]
 refine wpAnyH_ready (rs := [3]) (by kernel_rfl) (by simp) ?_
 refine AllReadyH.cons rfl (fun K hK => ?_) AllReadyH.nil
 go_simp
 refine (HLT.out _ (HW1.out.trans (HR.out.bel.mono HW1.out.size))).mono ?_
 rintro e wb ⟨h, hc, rfl, hl, hB⟩
 have HR := hid (HR.out.add hB hl.own)
 clear hl hB
 refine hK.out _ _ (by (try dsimp only); exact HKX.out _ HR.out.bel) (fun hHeld => ?_)
 clear hK K
 try simp only [qga, qgz, qgs, Act.put, qgt, qgx, qgy]
 refine wpAnyH_ready (rs := [6]) (by kernel_rfl) (by simp) ?_
 refine AllReadyH.cons rfl (fun K hK => ?_) AllReadyH.nil
 obtain ⟨wv, hwv⟩ : ∃ wv, wv = wb := ⟨_, rfl⟩
 rw [<- hwv] at HR ⊢
 clear hwv
 have q0 := HR.out.cell (i := 3) rfl (j := 0) rfl
 have q1 := HR.out.cell (i := 3) rfl (j := 1) rfl
 have q2 := HR.out.cell (i := 3) rfl (j := 2) rfl
 have q3 := HR.out.cell (i := 3) rfl (j := 3) rfl
 have f0 := HR.out.fz (i := 3) rfl 0
 have f1 := HR.out.fz (i := 3) rfl 1
 have f2 := HR.out.fz (i := 3) rfl 2
 have f3 := HR.out.fz (i := 3) rfl 3
 have ql := (HR.out.lt (i := 3) rfl).2
 have hr := HR.out
 have hr := hr.set 3 rfl 0 (.int .i64 s.st)
 have hr := hr.set 3 rfl 1 (.int .i64 s.lb)
 have hr := hr.set 3 rfl 2 (.int .i64 s.s0)
 have hr := hr.set 3 rfl 3 (.slice (some ⟨g, 0, none⟩) el gc)
 have HR := hid hr
 clear hr
 go_simp
 clear q0 q1 q2 q3 f0 f1 f2 f3 ql
 refine hK.out _ _ (by (try dsimp only); exact HKX.out _ HR.out.bel) (fun hHeld => ?_)
 clear hK K
 try simp only [qga, qgz, qgs, Act.put, qgt, qgx, qgy]
 refine wpAnyH_ready (rs := [7]) (by kernel_rfl) (by simp) ?_
 refine AllReadyH.cons rfl (fun K hK => ?_) AllReadyH.nil
 obtain ⟨wy, hwy⟩ : ∃ wy, wy = ((((wv.setCell ⟨w1.heap.size, 0, none⟩ (.int .i64 s.st)).setCell ⟨w1.heap.size, 1, none⟩ (.int .i64 s.lb)).setCell ⟨w1.heap.size, 2, none⟩ (.int .i64 s.s0)).setCell ⟨w1.heap.size, 3, none⟩ (.slice (some ⟨g, 0, none⟩) el gc)) := ⟨_, rfl⟩
 rw [<- hwy] at HR ⊢
 clear hwy
 have q0 := HR.out.cell (i := 1) rfl (j := 0) rfl
 have q1 := HR.out.cell (i := 1) rfl (j := 1) rfl
 have q2 := HR.out.cell (i := 1) rfl (j := 2) rfl
 have q3 := HR.out.cell (i := 1) rfl (j := 3) rfl
 have f0 := HR.out.fz (i := 1) rfl 0
 have f1 := HR.out.fz (i := 1) rfl 1
 have f2 := HR.out.fz (i := 1) rfl 2
 have f3 := HR.out.fz (i := 1) rfl 3
 have ql := (HR.out.lt (i := 1) rfl).2
 have hr := HR.out
 have hr := hr.set 1 rfl 0 (.int .i64 t.st)
 have hr := hr.set 1 rfl 1 (.int .i64 t.lb)
 have hr := hr.set 1 rfl 2 (.int .i64 t.s0)
 have hr := hr.set 1 rfl 3 (.slice (some ⟨h, 0, none⟩) tl hc)
 have HR := hid hr
 clear hr
 go_simp
 clear q0 q1 q2 q3 f0 f1 f2 f3 ql
 refine hK.out _ _ (by (try dsimp only); exact HKX.out _ HR.out.bel) (fun hHeld => ?_)
 clear hK K
 try simp only [qga, qgz, qgs, Act.put, qgt, qgx, qgy]
 refine wpAnyH_done (by kernel_rfl) ?_ _
 go_wp2_with fail
 go_meet
 exact ⟨w1.heap.size, wa.heap.size, g, gc, h, hc, rfl, rfl, boxU (HR.out.get (i := 3) rfl), boxU (HR.out.get (i := 1) rfl), ⟨HR.out.get (i := 2) rfl⟩, ⟨HR.out.get (i := 0) rfl⟩, HR.out.bel⟩
 go_simp
 have hr := HR.out.addLit #[.int .i64 0, .int .i64 0, .int .i64 0, .slice none 0 0] 24 (k := 4) (n := 1) (by decide) rfl
 rw [show (w1.drew.alloc (.cells #[.int .i64 0, .int .i64 0, .int .i64 0, .slice none 0 0] 24)).heap.size = w1.heap.size + 1 by simp] at hr
 have HR := hid hr
 clear hr
 refine hK.out _ _ (by (try dsimp only); exact HKX.out _ HR.out.bel) (fun hHeld => ?_)
 clear hK K
 try simp only [qga, qgz, qgs, Act.put, qgt, qgx, qgy]
 refine wpAnyH_ready (rs := [1]) (by kernel_rfl) (by simp) ?_
 refine AllReadyH.cons rfl (fun K hK => ?_) AllReadyH.nil
 go_simp
 refine (HLS.out _ (HW1.out.trans (HR.out.bel.mono HW1.out.size))).mono ?_
 rintro e wa ⟨g, gc, rfl, hl, hB⟩
 have HR := hid (HR.out.add hB hl.own)
 clear hl hB
 refine hK.out _ _ (by (try dsimp only); exact HKX.out _ HR.out.bel) (fun hHeld => ?_)
 clear hK K
 try simp only [qga, qgz, qgs, Act.put, qgt, qgx, qgy]
 refine wpAnyH_ready (rs := [3]) (by kernel_rfl) (by simp) ?_
 refine AllReadyH.cons rfl (fun K hK => ?_) AllReadyH.nil
 go_simp
 refine (HLT.out _ (HW1.out.trans (HR.out.bel.mono HW1.out.size))).mono ?_
 rintro e wb ⟨h, hc, rfl, hl, hB⟩
 have HR := hid (HR.out.add hB hl.own)
 clear hl hB
 refine hK.out _ _ (by (try dsimp only); exact HKX.out _ HR.out.bel) (fun hHeld => ?_)
 clear hK K
 try simp only [qga, qgz, qgs, Act.put, qgt, qgx, qgy]
 refine wpAnyH_ready (rs := [6]) (by kernel_rfl) (by simp) ?_
 refine AllReadyH.cons rfl (fun K hK => ?_) AllReadyH.nil
 obtain ⟨wv, hwv⟩ : ∃ wv, wv = wb := ⟨_, rfl⟩
 rw [<- hwv] at HR ⊢
 clear hwv
 have q0 := HR.out.cell (i := 3) rfl (j := 0) rfl
 have q1 := HR.out.cell (i := 3) rfl (j := 1) rfl
 have q2 := HR.out.cell (i := 3) rfl (j := 2) rfl
 have q3 := HR.out.cell (i := 3) rfl (j := 3) rfl
 have f0 := HR.out.fz (i := 3) rfl 0
 have f1 := HR.out.fz (i := 3) rfl 1
 have f2 := HR.out.fz (i := 3) rfl 2
 have f3 := HR.out.fz (i := 3) rfl 3
 have ql := (HR.out.lt (i := 3) rfl).2
 have hr := HR.out
 have hr := hr.set 3 rfl 0 (.int .i64 s.st)
 have hr := hr.set 3 rfl 1 (.int .i64 s.lb)
 have hr := hr.set 3 rfl 2 (.int .i64 s.s0)
 have hr := hr.set 3 rfl 3 (.slice (some ⟨g, 0, none⟩) el gc)
 have HR := hid hr
 clear hr
 go_simp
 clear q0 q1 q2 q3 f0 f1 f2 f3 ql
 refine hK.out _ _ (by (try dsimp only); exact HKX.out _ HR.out.bel) (fun hHeld => ?_)
 clear hK K
 try simp only [qga, qgz, qgs, Act.put, qgt, qgx, qgy]
 refine wpAnyH_ready (rs := [7]) (by kernel_rfl) (by simp) ?_
 refine AllReadyH.cons rfl (fun K hK => ?_) AllReadyH.nil
 obtain ⟨wy, hwy⟩ : ∃ wy, wy = ((((wv.setCell ⟨w1.heap.size, 0, none⟩ (.int .i64 s.st)).setCell ⟨w1.heap.size, 1, none⟩ (.int .i64 s.lb)).setCell ⟨w1.heap.size, 2, none⟩ (.int .i64 s.s0)).setCell ⟨w1.heap.size, 3, none⟩ (.slice (some ⟨g, 0, none⟩) el gc)) := ⟨_, rfl⟩
 rw [<- hwy] at HR ⊢
 clear hwy
 have q0 := HR.out.cell (i := 2) rfl (j := 0) rfl
 have q1 := HR.out.cell (i := 2) rfl (j := 1) rfl
 have q2 := HR.out.cell (i := 2) rfl (j := 2) rfl
 have q3 := HR.out.cell (i := 2) rfl (j := 3) rfl
 have f0 := HR.out.fz (i := 2) rfl 0
 have f1 := HR.out.fz (i := 2) rfl 1
 have f2 := HR.out.fz (i := 2) rfl 2
 have f3 := HR.out.fz (i := 2) rfl 3
 have ql := (HR.out.lt (i := 2) rfl).2
 have hr := HR.out
 have hr := hr.set 2 rfl 0 (.int .i64 t.st)
 have hr := hr.set 2 rfl 1 (.int .i64 t.lb)
 have hr := hr.set 2 rfl 2 (.int .i64 t.s0)
 have hr := hr.set 2 rfl 3 (.slice (some ⟨h, 0, none⟩) tl hc)
 have HR := hid hr
 clear hr
 go_simp
 clear q0 q1 q2 q3 f0 f1 f2 f3 ql
 refine hK.out _ _ (by (try dsimp only); exact HKX.out _ HR.out.bel) (fun hHeld => ?_)
 clear hK K
 try simp only [qga, qgz, qgs, Act.put, qgt, qgx, qgy]
 refine wpAnyH_done (by kernel_rfl) ?_ _
 go_wp2_with fail
 go_meet
 exact ⟨w1.heap.size, w1.heap.size + 1, g, gc, h, hc, rfl, rfl, boxU (HR.out.get (i := 3) rfl), boxU (HR.out.get (i := 2) rfl), ⟨HR.out.get (i := 1) rfl⟩, ⟨HR.out.get (i := 0) rfl⟩, HR.out.bel⟩
 go_simp
 have hr := HR.out.addLit #[.int .i64 0, .int .i64 0, .int .i64 0, .slice none 0 0] 24 (k := 4) (n := 1) (by decide) rfl
 rw [show w1.drew.heap.size = w1.heap.size from rfl] at hr
 have HR := hid hr
 clear hr
 refine hK.out _ _ (by (try dsimp only); exact HKX.out _ HR.out.bel) (fun hHeld => ?_)
 clear hK K
 try simp only [qga, qgz, qgs, Act.put, qgt, qgx, qgy]
 refine wpAnyH_ready (rs := [1, 4]) (by kernel_rfl) (by simp) ?_
 refine AllReadyH.cons rfl (fun K hK => ?_) (AllReadyH.cons rfl (fun K hK => ?_) AllReadyH.nil)
 go_simp
 refine (HLS.out _ (HW1.out.trans (HR.out.bel.mono HW1.out.size))).mono ?_
 rintro e wa ⟨g, gc, rfl, hl, hB⟩
 have HR := hid (HR.out.add hB hl.own)
 clear hl hB
 refine hK.out _ _ (by (try dsimp only); exact HKX.out _ HR.out.bel) (fun hHeld => ?_)
 clear hK K
 try simp only [qga, qgz, qgs, Act.put, qgt, qgx, qgy]
 refine wpAnyH_ready (rs := [3, 4]) (by kernel_rfl) (by simp) ?_
 refine AllReadyH.cons rfl (fun K hK => ?_) (AllReadyH.cons rfl (fun K hK => ?_) AllReadyH.nil)
 go_simp
 refine (HLT.out _ (HW1.out.trans (HR.out.bel.mono HW1.out.size))).mono ?_
 rintro e wb ⟨h, hc, rfl, hl, hB⟩
 have HR := hid (HR.out.add hB hl.own)
 clear hl hB
 refine hK.out _ _ (by (try dsimp only); exact HKX.out _ HR.out.bel) (fun hHeld => ?_)
 clear hK K
 try simp only [qga, qgz, qgs, Act.put, qgt, qgx, qgy]
 refine wpAnyH_ready (rs := [4]) (by kernel_rfl) (by simp) ?_
 refine AllReadyH.cons rfl (fun K hK => ?_) AllReadyH.nil
 go_simp
 have hr := HR.out.addLit #[.int .i64 0, .int .i64 0, .int .i64 0, .slice none 0 0] 24 (k := 4) (n := 1) (by decide) rfl
 have HR := hid hr
 clear hr
 refine hK.out _ _ (by (try dsimp only); exact HKX.out _ HR.out.bel) (fun hHeld => ?_)
 clear hK K
 try simp only [qga, qgz, qgs, Act.put, qgt, qgx, qgy]
 refine wpAnyH_ready (rs := [6]) (by kernel_rfl) (by simp) ?_
 refine AllReadyH.cons rfl (fun K hK => ?_) AllReadyH.nil
 obtain ⟨wv, hwv⟩ : ∃ wv, wv = (wb.alloc (.cells #[.int .i64 0, .int .i64 0, .int .i64 0, .slice none 0 0] 24)) := ⟨_, rfl⟩
 rw [<- hwv] at HR ⊢
 clear hwv
 have q0 := HR.out.cell (i := 0) rfl (j := 0) rfl
 have q1 := HR.out.cell (i := 0) rfl (j := 1) rfl
 have q2 := HR.out.cell (i := 0) rfl (j := 2) rfl
 have q3 := HR.out.cell (i := 0) rfl (j := 3) rfl
 have f0 := HR.out.fz (i := 0) rfl 0
 have f1 := HR.out.fz (i := 0) rfl 1
 have f2 := HR.out.fz (i := 0) rfl 2
 have f3 := HR.out.fz (i := 0) rfl 3
 have ql := (HR.out.lt (i := 0) rfl).2
 have hr := HR.out
 have hr := hr.set 0 rfl 0 (.int .i64 s.st)
 have hr := hr.set 0 rfl 1 (.int .i64 s.lb)
 have hr := hr.set 0 rfl 2 (.int .i64 s.s0)
 have hr := hr.set 0 rfl 3 (.slice (some ⟨g, 0, none⟩) el gc)
 have HR := hid hr
 clear hr
 go_simp
 clear q0 q1 q2 q3 f0 f1 f2 f3 ql
 refine hK.out _ _ (by (try dsimp only); exact HKX.out _ HR.out.bel) (fun hHeld => ?_)
 clear hK K
 try simp only [qga, qgz, qgs, Act.put, qgt, qgx, qgy]
 refine wpAnyH_ready (rs := [7]) (by kernel_rfl) (by simp) ?_
 refine AllReadyH.cons rfl (fun K hK => ?_) AllReadyH.nil
 obtain ⟨wy, hwy⟩ : ∃ wy, wy = ((((wv.setCell ⟨wb.heap.size, 0, none⟩ (.int .i64 s.st)).setCell ⟨wb.heap.size, 1, none⟩ (.int .i64 s.lb)).setCell ⟨wb.heap.size, 2, none⟩ (.int .i64 s.s0)).setCell ⟨wb.heap.size, 3, none⟩ (.slice (some ⟨g, 0, none⟩) el gc)) := ⟨_, rfl⟩
 rw [<- hwy] at HR ⊢
 clear hwy
 have q0 := HR.out.cell (i := 3) rfl (j := 0) rfl
 have q1 := HR.out.cell (i := 3) rfl (j := 1) rfl
 have q2 := HR.out.cell (i := 3) rfl (j := 2) rfl
 have q3 := HR.out.cell (i := 3) rfl (j := 3) rfl
 have f0 := HR.out.fz (i := 3) rfl 0
 have f1 := HR.out.fz (i := 3) rfl 1
 have f2 := HR.out.fz (i := 3) rfl 2
 have f3 := HR.out.fz (i := 3) rfl 3
 have ql := (HR.out.lt (i := 3) rfl).2
 have hr := HR.out
 have hr := hr.set 3 rfl 0 (.int .i64 t.st)
 have hr := hr.set 3 rfl 1 (.int .i64 t.lb)
 have hr := hr.set 3 rfl 2 (.int .i64 t.s0)
 have hr := hr.set 3 rfl 3 (.slice (some ⟨h, 0, none⟩) tl hc)
 have HR := hid hr
 clear hr
 go_simp
 clear q0 q1 q2 q3 f0 f1 f2 f3 ql
 refine hK.out _ _ (by (try dsimp only); exact HKX.out _ HR.out.bel) (fun hHeld => ?_)
 clear hK K
 try simp only [qga, qgz, qgs, Act.put, qgt, qgx, qgy]
 refine wpAnyH_done (by kernel_rfl) ?_ _
 go_wp2_with fail
 go_meet
 exact ⟨wb.heap.size, w1.heap.size, g, gc, h, hc, rfl, rfl, boxU (HR.out.get (i := 0) rfl), boxU (HR.out.get (i := 3) rfl), ⟨HR.out.get (i := 2) rfl⟩, ⟨HR.out.get (i := 1) rfl⟩, HR.out.bel⟩
 go_simp
 have hr := HR.out.addLit #[.int .i64 0, .int .i64 0, .int .i64 0, .slice none 0 0] 24 (k := 4) (n := 1) (by decide) rfl
 have HR := hid hr
 clear hr
 refine hK.out _ _ (by (try dsimp only); exact HKX.out _ HR.out.bel) (fun hHeld => ?_)
 clear hK K
 try simp only [qga, qgz, qgs, Act.put, qgt, qgx, qgy]
 refine wpAnyH_ready (rs := [3]) (by kernel_rfl) (by simp) ?_
 refine AllReadyH.cons rfl (fun K hK => ?_) AllReadyH.nil
 go_simp
 refine (HLT.out _ (HW1.out.trans (HR.out.bel.mono HW1.out.size))).mono ?_
 rintro e wb ⟨h, hc, rfl, hl, hB⟩
 have HR := hid (HR.out.add hB hl.own)
 clear hl hB
 refine hK.out _ _ (by (try dsimp only); exact HKX.out _ HR.out.bel) (fun hHeld => ?_)
 clear hK K
 try simp only [qga, qgz, qgs, Act.put, qgt, qgx, qgy]
 refine wpAnyH_ready (rs := [6]) (by kernel_rfl) (by simp) ?_
 refine AllReadyH.cons rfl (fun K hK => ?_) AllReadyH.nil
 obtain ⟨wv, hwv⟩ : ∃ wv, wv = wb := ⟨_, rfl⟩
 rw [<- hwv] at HR ⊢
 clear hwv
 have q0 := HR.out.cell (i := 1) rfl (j := 0) rfl
 have q1 := HR.out.cell (i := 1) rfl (j := 1) rfl
 have q2 := HR.out.cell (i := 1) rfl (j := 2) rfl
 have q3 := HR.out.cell (i := 1) rfl (j := 3) rfl
 have f0 := HR.out.fz (i := 1) rfl 0
 have f1 := HR.out.fz (i := 1) rfl 1
 have f2 := HR.out.fz (i := 1) rfl 2
 have f3 := HR.out.fz (i := 1) rfl 3
 have ql := (HR.out.lt (i := 1) rfl).2
 have hr := HR.out
 have hr := hr.set 1 rfl 0 (.int .i64 s.st)
 have hr := hr.set 1 rfl 1 (.int .i64 s.lb)
 have hr := hr.set 1 rfl 2 (.int .i64 s.s0)
 have hr := hr.set 1 rfl 3 (.slice (some ⟨g, 0, none⟩) el gc)
 have HR := hid hr
 clear hr
 go_simp
 clear q0 q1 q2 q3 f0 f1 f2 f3 ql
 refine hK.out _ _ (by (try dsimp only); exact HKX.out _ HR.out.bel) (fun hHeld => ?_)
 clear hK K
 try simp only [qga, qgz, qgs, Act.put, qgt, qgx, qgy]
 refine wpAnyH_ready (rs := [7]) (by kernel_rfl) (by simp) ?_
 refine AllReadyH.cons rfl (fun K hK => ?_) AllReadyH.nil
 obtain ⟨wy, hwy⟩ : ∃ wy, wy = ((((wv.setCell ⟨wa.heap.size, 0, none⟩ (.int .i64 s.st)).setCell ⟨wa.heap.size, 1, none⟩ (.int .i64 s.lb)).setCell ⟨wa.heap.size, 2, none⟩ (.int .i64 s.s0)).setCell ⟨wa.heap.size, 3, none⟩ (.slice (some ⟨g, 0, none⟩) el gc)) := ⟨_, rfl⟩
 rw [<- hwy] at HR ⊢
 clear hwy
 have q0 := HR.out.cell (i := 3) rfl (j := 0) rfl
 have q1 := HR.out.cell (i := 3) rfl (j := 1) rfl
 have q2 := HR.out.cell (i := 3) rfl (j := 2) rfl
 have q3 := HR.out.cell (i := 3) rfl (j := 3) rfl
 have f0 := HR.out.fz (i := 3) rfl 0
 have f1 := HR.out.fz (i := 3) rfl 1
 have f2 := HR.out.fz (i := 3) rfl 2
 have f3 := HR.out.fz (i := 3) rfl 3
 have ql := (HR.out.lt (i := 3) rfl).2
 have hr := HR.out
 have hr := hr.set 3 rfl 0 (.int .i64 t.st)
 have hr := hr.set 3 rfl 1 (.int .i64 t.lb)
 have hr := hr.set 3 rfl 2 (.int .i64 t.s0)
 have hr := hr.set 3 rfl 3 (.slice (some ⟨h, 0, none⟩) tl hc)
 have HR := hid hr
 clear hr
 go_simp
 clear q0 q1 q2 q3 f0 f1 f2 f3 ql
 refine hK.out _ _ (by (try dsimp only); exact HKX.out _ HR.out.bel) (fun hHeld => ?_)
 clear hK K
 try simp only [qga, qgz, qgs, Act.put, qgt, qgx, qgy]
 refine wpAnyH_done (by kernel_rfl) ?_ _
 go_wp2_with fail
 go_meet
 exact ⟨wa.heap.size, w1.heap.size, g, gc, h, hc, rfl, rfl, boxU (HR.out.get (i := 1) rfl), boxU (HR.out.get (i := 3) rfl), ⟨HR.out.get (i := 2) rfl⟩, ⟨HR.out.get (i := 0) rfl⟩, HR.out.bel⟩
 go_simp
 have hr := HR.out.addLit #[.int .i64 0, .int .i64 0, .int .i64 0, .slice none 0 0] 24 (k := 4) (n := 1) (by decide) rfl
 rw [show (w1.drew.alloc (.cells #[.int .i64 0, .int .i64 0, .int .i64 0, .slice none 0 0] 24)).heap.size = w1.heap.size + 1 by simp] at hr
 have HR := hid hr
 clear hr
 refine hK.out _ _ (by (try dsimp only); exact HKX.out _ HR.out.bel) (fun hHeld => ?_)
 clear hK K
 try simp only [qga, qgz, qgs, Act.put, qgt, qgx, qgy]
 refine wpAnyH_ready (rs := [1]) (by kernel_rfl) (by simp) ?_
 refine AllReadyH.cons rfl (fun K hK => ?_) AllReadyH.nil
 go_simp
 refine (HLS.out _ (HW1.out.trans (HR.out.bel.mono HW1.out.size))).mono ?_
 rintro e wa ⟨g, gc, rfl, hl, hB⟩
 have HR := hid (HR.out.add hB hl.own)
 clear hl hB
 refine hK.out _ _ (by (try dsimp only); exact HKX.out _ HR.out.bel) (fun hHeld => ?_)
 clear hK K
 try simp only [qga, qgz, qgs, Act.put, qgt, qgx, qgy]
 refine wpAnyH_ready (rs := [3]) (by kernel_rfl) (by simp) ?_
 refine AllReadyH.cons rfl (fun K hK => ?_) AllReadyH.nil
 go_simp
 refine (HLT.out _ (HW1.out.trans (HR.out.bel.mono HW1.out.size))).mono ?_
 rintro e wb ⟨h, hc, rfl, hl, hB⟩
 have HR := hid (HR.out.add hB hl.own)
 clear hl hB
 refine hK.out _ _ (by (try dsimp only); exact HKX.out _ HR.out.bel) (fun hHeld => ?_)
 clear hK K
 try simp only [qga, qgz, qgs, Act.put, qgt, qgx, qgy]
 refine wpAnyH_ready (rs := [6]) (by kernel_rfl) (by simp) ?_
 refine AllReadyH.cons rfl (fun K hK => ?_) AllReadyH.nil
 obtain ⟨wv, hwv⟩ : ∃ wv, wv = wb := ⟨_, rfl⟩
 rw [<- hwv] at HR ⊢
 clear hwv
 have q0 := HR.out.cell (i := 2) rfl (j := 0) rfl
 have q1 := HR.out.cell (i := 2) rfl (j := 1) rfl
 have q2 := HR.out.cell (i := 2) rfl (j := 2) rfl
 have q3 := HR.out.cell (i := 2) rfl (j := 3) rfl
 have f0 := HR.out.fz (i := 2) rfl 0
 have f1 := HR.out.fz (i := 2) rfl 1
 have f2 := HR.out.fz (i := 2) rfl 2
 have f3 := HR.out.fz (i := 2) rfl 3
 have ql := (HR.out.lt (i := 2) rfl).2
 have hr := HR.out
 have hr := hr.set 2 rfl 0 (.int .i64 s.st)
 have hr := hr.set 2 rfl 1 (.int .i64 s.lb)
 have hr := hr.set 2 rfl 2 (.int .i64 s.s0)
 have hr := hr.set 2 rfl 3 (.slice (some ⟨g, 0, none⟩) el gc)
 have HR := hid hr
 clear hr
 go_simp
 clear q0 q1 q2 q3 f0 f1 f2 f3 ql
 refine hK.out _ _ (by (try dsimp only); exact HKX.out _ HR.out.bel) (fun hHeld => ?_)
 clear hK K
 try simp only [qga, qgz, qgs, Act.put, qgt, qgx, qgy]
 refine wpAnyH_ready (rs := [7]) (by kernel_rfl) (by simp) ?_
 refine AllReadyH.cons rfl (fun K hK => ?_) AllReadyH.nil
 obtain ⟨wy, hwy⟩ : ∃ wy, wy = ((((wv.setCell ⟨w1.heap.size + 1, 0, none⟩ (.int .i64 s.st)).setCell ⟨w1.heap.size + 1, 1, none⟩ (.int .i64 s.lb)).setCell ⟨w1.heap.size + 1, 2, none⟩ (.int .i64 s.s0)).setCell ⟨w1.heap.size + 1, 3, none⟩ (.slice (some ⟨g, 0, none⟩) el gc)) := ⟨_, rfl⟩
 rw [<- hwy] at HR ⊢
 clear hwy
 have q0 := HR.out.cell (i := 3) rfl (j := 0) rfl
 have q1 := HR.out.cell (i := 3) rfl (j := 1) rfl
 have q2 := HR.out.cell (i := 3) rfl (j := 2) rfl
 have q3 := HR.out.cell (i := 3) rfl (j := 3) rfl
 have f0 := HR.out.fz (i := 3) rfl 0
 have f1 := HR.out.fz (i := 3) rfl 1
 have f2 := HR.out.fz (i := 3) rfl 2
 have f3 := HR.out.fz (i := 3) rfl 3
 have ql := (HR.out.lt (i := 3) rfl).2
 have hr := HR.out
 have hr := hr.set 3 rfl 0 (.int .i64 t.st)
 have hr := hr.set 3 rfl 1 (.int .i64 t.lb)
 have hr := hr.set 3 rfl 2 (.int .i64 t.s0)
 have hr := hr.set 3 rfl 3 (.slice (some ⟨h, 0, none⟩) tl hc)
 have HR := hid hr
 clear hr
 go_simp
 clear q0 q1 q2 q3 f0 f1 f2 f3 ql
 refine hK.out _ _ (by (try dsimp only); exact HKX.out _ HR.out.bel) (fun hHeld => ?_)
 clear hK K
 try simp only [qga, qgz, qgs, Act.put, qgt, qgx, qgy]
 refine wpAnyH_done (by kernel_rfl) ?_ _
 go_wp2_with fail
 go_meet
 exact ⟨w1.heap.size + 1, w1.heap.size, g, gc, h, hc, rfl, rfl, boxU (HR.out.get (i := 2) rfl), boxU (HR.out.get (i := 3) rfl), ⟨HR.out.get (i := 1) rfl⟩, ⟨HR.out.get (i := 0) rfl⟩, HR.out.bel⟩)
 case rest => (
 obtain ⟨A, B, g, gc, h, hc, rfl, rfl, hA, hB, hl1, hl3, hbw⟩ := hcut
 have HKS : Hid (∀ V, Below wc.heap.size wc V -> (((V.cell? ⟨X, 0, none⟩ = some (.int .i64 s.st) /\ V.cell? ⟨X, 1, none⟩ = some (.int .i64 s.lb) /\ V.cell? ⟨X, 2, none⟩ = some (.int .i64 s.s0) /\ V.cell? ⟨X, 3, none⟩ = some (.slice a el c)) /\ X < V.heap.size) /\ ((V.cell? ⟨Z, 0, none⟩ = some (.int .i64 t.st) /\ V.cell? ⟨Z, 1, none⟩ = some (.int .i64 t.lb) /\ V.cell? ⟨Z, 2, none⟩ = some (.int .i64 t.s0) /\ V.cell? ⟨Z, 3, none⟩ = some (.slice a2 tl c2)) /\ Z < V.heap.size)) /\
     ((V.cell? ⟨A, 0, none⟩ = some (.int .i64 s.st) /\ V.cell? ⟨A, 1, none⟩ = some (.int .i64 s.lb) /\ V.cell? ⟨A, 2, none⟩ = some (.int .i64 s.s0) /\ V.cell? ⟨A, 3, none⟩ = some (.slice (some ⟨g, 0, none⟩) el gc)) /\ A < V.heap.size) /\
     ((V.cell? ⟨B, 0, none⟩ = some (.int .i64 t.st) /\ V.cell? ⟨B, 1, none⟩ = some (.int .i64 t.lb) /\ V.cell? ⟨B, 2, none⟩ = some (.int .i64 t.s0) /\ V.cell? ⟨B, 3, none⟩ = some (.slice (some ⟨h, 0, none⟩) tl hc)) /\ B < V.heap.size)) := hid (fun V hV => by
   have h1 := (hV.block _ (Array.getElem?_eq_some_iff.1 hA).1).trans hA
   have h2 := (hV.block _ (Array.getElem?_eq_some_iff.1 hB).1).trans hB
   exact ⟨HKX.out V (hbw.trans (hV.mono hbw.size)), ⟨sysG h1, (Array.getElem?_eq_some_iff.1 h1).1⟩, ⟨sysG h2, (Array.getElem?_eq_some_iff.1 h2).1⟩⟩)
 have HLE : Hid (∀ V, Below wc.heap.size wc V -> LentS V w1.heap.size g gc s.es /\ LentS V w1.heap.size h hc t.es /\ Below w.heap.size w V) := hid (fun V hV =>
   ⟨hl1.below hV, hl3.below hV, (HW1.out.trans (hbw.mono HW1.out.size)).trans (hV.mono (HW1.out.trans (hbw.mono HW1.out.size)).size)⟩)
 obtain ⟨w2, hw2⟩ : ∃ w2, w2 = wc := ⟨_, rfl⟩
 rw [<- hw2] at HKS HLE ⊢
 clear hw2 hA hB hl1 hl3 hbw HKX HX0 HZ0 HB0 HW1 HLS HLT
 have HWT2 := hid (HWT.out w2 (HLE.out w2 (Below.refl _ _)).2.2)
 obtain ⟨⟨⟨⟨x0, x1, x2, x3⟩, xl⟩, ⟨⟨z0, z1, z2, z3⟩, zl⟩⟩, _, _⟩ := HKS.out w2 (Below.refl _ _)
 go_wp2_with fail
 refine HWT2.out.mono ?_
 rintro e w3 ⟨ua, ubk, uc, rfl, hse, hle, hlm, hB3⟩
 obtain ⟨W5, hW5⟩ : ∃ W5, W5 = (w3.alloc (.cells #[.int .i64 U.st, .int .i64 U.lb, .int .i64 U.s0, .slice ua U.es.length uc] 24)).alloc (.cells #[.int .i64 k, .int .i64 0, .int .i64 0, .string x] 28) := ⟨_, rfl⟩
 have hbW : Below w3.heap.size w3 W5 := by rw [hW5]; exact ((Below.refl _ _).alloc (Nat.le_refl _) _).alloc (by simp) _
 have hu5 : W5.heap[w3.heap.size]? = some (.cells #[.int .i64 U.st, .int .i64 U.lb, .int .i64 U.s0, .slice ua U.es.length uc] 24 (0, 0)) := by
   rw [hW5, Below.heap_alloc _ _ _ (by simp)]; exact heap_alloc_new w3 _
 have he5 : W5.heap[w3.heap.size + 1]? = some (.cells #[.int .i64 k, .int .i64 0, .int .i64 0, .string x] 28 (0, 0)) := by
   rw [hW5]; exact heap_alloc_at _ _ (w3.heap.size + 1) (by simp)
 have hb5 : Below w2.heap.size w2 W5 := hB3.trans (hbW.mono hB3.size)
 have hse5 := hse.below hbW (Nat.le_refl _)
 obtain ⟨ub, hub⟩ : ∃ ub, ub = w3.heap.size := ⟨_, rfl⟩
 rw [<- hub] at hu5 he5
 have HSYS : Hid (∀ V, Below W5.heap.size W5 V -> Below w2.heap.size w2 V /\ ((V.cell? ⟨ub, 0, none⟩ = some (.int .i64 U.st) /\ V.cell? ⟨ub, 1, none⟩ = some (.int .i64 U.lb) /\ V.cell? ⟨ub, 2, none⟩ = some (.int .i64 U.s0) /\ V.cell? ⟨ub, 3, none⟩ = some (.slice ua U.es.length uc)) /\ ub < V.heap.size) /\
     ((V.cell? ⟨ub + 1, 0, none⟩ = some (.int .i64 k) /\ V.cell? ⟨ub + 1, 1, none⟩ = some (.int .i64 0) /\ V.cell? ⟨ub + 1, 2, none⟩ = some (.int .i64 0) /\ V.cell? ⟨ub + 1, 3, none⟩ = some (.string x)) /\ ub + 1 < V.heap.size) /\ SlAt encE 3 V ua ubk 0 U.es) := hid (fun V hV => by
   have h1 := (hV.block _ (Array.getElem?_eq_some_iff.1 hu5).1).trans hu5
   have h2 := (hV.block _ (Array.getElem?_eq_some_iff.1 he5).1).trans he5
   exact ⟨hb5.trans (hV.mono hb5.size), ⟨sysG h1, (Array.getElem?_eq_some_iff.1 h1).1⟩, errU h2, hse5.below hV (Nat.le_refl _)⟩)
 have HW5 := hid hW5; have HUBE := hid hub
 clear x0 x1 x2 x3 xl z0 z1 z2 z3 zl hse hle hlm hB3 hW5 hbW hu5 he5 hb5 hse5 hub HWT2 HWT
 go_upto_region 5 with fail
 rw [<- HW5.out, <- HUBE.out]
 clear HW5 HUBE
 have HBK := hid (BkF.start W5)
 go_upto_region 6 with fail
 refine at_world (fun W => BkF W5 W W5.heap.size [] []) HBK.out (fun W1 hW1 => ?_)
 replace HBK := hid hW1
 clear hW1
 obtain ⟨bb, hbb⟩ : ∃ bb, bb = W5.heap.size := ⟨_, rfl⟩
 rw [<- hbb] at HBK ⊢
 clear hbb
 go_wp2_with fail
 go_loopw [11, 12, 13, 14] (fun v11 _ _ _ wr => ∃ (i : Nat) (Z : List Rw), v11 = .int .i64 i /\ i <= 2 /\ BkF W5 wr bb Z []) (fun v11 _ _ _ _ => 2 - (intOf v11).toNat)
 case atStart => exact ⟨0, [], rfl, by omega, HBK.out⟩
 case round => as_aux_lemma => (
 obtain ⟨i, Y, rfl, hi, hbk⟩ := hrel
 replace HBK := hid hbk
 clear hbk
 by_cases hi2 : i < 2
 · (
 have hiI : (i : Int) < 2 := by omega
 obtain ⟨hb2, _, _, _⟩ := HSYS.out _ HBK.out.bel
 obtain ⟨_, ⟨⟨x0, x1, x2, x3⟩, xl⟩, ⟨⟨z0, z1, z2, z3⟩, zl⟩⟩ := HKS.out _ hb2
 obtain ⟨hl1, hl3, hbw⟩ := HLE.out _ hb2
 have HUN1 := hid (HUN.out wr (some ⟨g, 0, none⟩) g gc (some ⟨h, 0, none⟩) h hc hbw (SlAt.preE hl1.all.1) (SlAt.preE hl3.all.1))
 clear hb2 hl1 hl3 hbw
 go_wp2_with fail
 refine HUN1.out.mono ?_
 rintro e w6 ⟨va, vc, v, rfl, hq, hown, hB⟩
 replace HBK := hid (HBK.out.add hB hown)
 obtain ⟨W7, hW7⟩ : ∃ W7, W7 = w6.alloc (Obj.cells #[.int .i64 U.st, .int .i64 U.lb, .int .i64 U.s0, .slice va U.es.length vc] 24) := ⟨_, rfl⟩
 have hbW7 : Below w6.heap.size w6 W7 := by rw [hW7]; exact (Below.refl _ _).alloc (Nat.le_refl _) _
 have hvb : W7.heap[w6.heap.size]? = some (.cells #[.int .i64 U.st, .int .i64 U.lb, .int .i64 U.s0, .slice va U.es.length vc] 24 (0, 0)) := by rw [hW7]; exact heap_alloc_new w6 _
 replace HBK := hid (HBK.out.call hbW7)
 have HQ := hid (HQB.out _ _ _ hq hbW7); have HVB := hid hvb; have HW7 := hid hW7
 clear hq hown hB hW7 hbW7 hvb HUN1 x0 x1 x2 x3 xl z0 z1 z2 z3 zl
 go_upto_region 10 with fail
 rw [<- HW7.out]
 obtain ⟨vb, hvbE⟩ : ∃ vb, vb = w6.heap.size := ⟨_, rfl⟩
 rw [<- hvbE] at HVB ⊢
 clear hvbE HW7
 obtain ⟨hb2, _, ⟨⟨z0, z1, z2, z3⟩, zl⟩, _⟩ := HSYS.out _ HBK.out.bel
 have HTE1 := hid (HTO.out W7 v (HLE.out _ hb2).2.2 HQ.out)
 have hNN : (N != N) = false := by simp
 clear hb2
 go_wp2_with fail
 refine HTE1.out.mono ?_
 rintro e w8 ⟨rfl, hB⟩
 replace HBK := hid (HBK.out.call hB)
 replace HVB := hid ((hB.block vb (Array.getElem?_eq_some_iff.1 HVB.out).1).trans HVB.out)
 clear hB z0 z1 z2 z3 zl HTE1 HQ
 obtain ⟨_, ⟨⟨x0, x1, x2, x3⟩, xl⟩, _, hus⟩ := HSYS.out _ HBK.out.bel
 obtain ⟨y0, y1, y2, y3⟩ := sysG HVB.out
 have yl := (Array.getElem?_eq_some_iff.1 HVB.out).1
 have hou := HBK.out.own (r := ⟨57, 3, .slice va U.es.length vc, U.es.length, U.es.flatMap encE⟩) (.inr (by simp))
 obtain ⟨va2, vc2, vb2, hve, _, _, hvs, _⟩ := slAt_own lenE hou
 simp only [Value.slice.injEq] at hve
 have hse := sameSystem_yes (c1 := vc) (c2 := uc) U.st U.lb U.s0 hvs hus (by have := HUL.out; omega)
 rw [<- hve.1] at hse
 have HSE := hid hse
 clear hou hve hvs hus hse
 go_wp2_with fail
 refine HSE.out.mono ?_
 rintro e w9 ⟨rfl, hB⟩
 replace HBK := hid (HBK.out.call hB)
 replace HVB := hid ((hB.block vb (Array.getElem?_eq_some_iff.1 HVB.out).1).trans HVB.out)
 clear hB x0 x1 x2 x3 xl y0 y1 y2 y3 yl HSE
 obtain ⟨hb2, _, _, _⟩ := HSYS.out _ HBK.out.bel
 obtain ⟨⟨⟨⟨x0, x1, x2, x3⟩, xl⟩, _⟩, ⟨⟨z0, z1, z2, z3⟩, zl⟩, _⟩ := HKS.out _ hb2
 have hst := stays_any (st := s.st) (lb := s.lb) (s0 := s.s0) (st' := s.st) (lb' := s.lb) (s0' := s.s0) (c := c) (HLE.out _ hb2).1 (HS.out.below (HLE.out _ hb2).2.2 (Nat.le_refl _)) (by rw [<- HEL.out]; have := HLN.out; omega)
 rw [<- HEL.out] at hst
 have HST1 := hid hst
 clear hst hb2
 go_wp2_with fail
 refine HST1.out.mono ?_
 rintro e w10 ⟨rfl, hB⟩
 replace HBK := hid (HBK.out.call hB)
 replace HVB := hid ((hB.block vb (Array.getElem?_eq_some_iff.1 HVB.out).1).trans HVB.out)
 clear hB x0 x1 x2 x3 xl z0 z1 z2 z3 zl HST1
 obtain ⟨hb2, _, _, _⟩ := HSYS.out _ HBK.out.bel
 obtain ⟨⟨_, ⟨⟨x0, x1, x2, x3⟩, xl⟩⟩, _, ⟨⟨z0, z1, z2, z3⟩, zl⟩⟩ := HKS.out _ hb2
 have hst := stays_any (st := t.st) (lb := t.lb) (s0 := t.s0) (st' := t.st) (lb' := t.lb) (s0' := t.s0) (c := c2) (HLE.out _ hb2).2.1 (HT.out.below (HLE.out _ hb2).2.2 (Nat.le_refl _)) (by rw [<- HTL.out]; have := HLN.out; omega)
 rw [<- HTL.out] at hst
 have HST1 := hid hst
 clear hst hb2
 go_wp2_with fail
 refine HST1.out.mono ?_
 rintro e w11 ⟨rfl, hB⟩
 replace HBK := hid (HBK.out.call hB)
 replace HVB := hid ((hB.block vb (Array.getElem?_eq_some_iff.1 HVB.out).1).trans HVB.out)
 clear hB x0 x1 x2 x3 xl z0 z1 z2 z3 zl HST1
 obtain ⟨y0, y1, y2, y3⟩ := sysG HVB.out
 have yl := (Array.getElem?_eq_some_iff.1 HVB.out).1
 go_wp2_with fail
 refine (HBK.out.giveE rfl rfl (by have := HUL.out; omega)).mono ?_
 rintro e w12 ⟨rfl, hbk⟩
 replace HBK := hid hbk
 clear hbk y0 y1 y2 y3 yl HVB
 go_wp2_with fail
 go_roundw
 case rel => exact ⟨i + 1, _, by go_num, by omega, HBK.out⟩
 case measure => simp [intOf]; omega)
 · (
 obtain ⟨hb2, ⟨⟨x0, x1, x2, x3⟩, xl⟩, ⟨⟨z0, z1, z2, z3⟩, zl⟩, _⟩ := HSYS.out _ HBK.out.bel
 have hbw := (HLE.out _ hb2).2.2
 have HALV1 := hid (ALV.out _ hbw)
 rcases HK.out with ⟨hk0, hbig⟩ | ⟨hsm, r, k2, y, Q2, hSP⟩
 · (
 subst hk0
 have hd : decide (120 < U.st) = true ∨ (decide (120 < U.st) = false /\ decide ((800 : Int) < (U.es.length : Int)) = true) := by
   simp only [decide_eq_true_eq, decide_eq_false_iff_not]; omega
 clear hbig hb2 hbw
 rcases hd with d1 | ⟨d1, d2⟩
 all_goals (
 go_wp2_with fail
 refine HALV1.out.mono ?_
 rintro e w6 ⟨rfl, hB⟩
 replace HBK := hid (HBK.out.call hB)
 clear hB
 go_wp2_with fail
 refine HBK.out.apartF.mono ?_
 rintro e w7 ⟨rfl, hB, _⟩
 have HB7 := hid hB
 clear hB
 go_wp2_with fail
 go_ret
 exact ⟨rfl, (HLE.out _ (HSYS.out _ HB7.out).1).2.2⟩))
 · (
 have hd : (k == 0) = false ∨ ((k == 0) = true /\ decide (120 < U.st) = false /\ decide ((800 : Int) < (U.es.length : Int)) = false) := by (
 rcases hsm with h | ⟨h1, h2, h3⟩
 · exact .inl (by simpa using h)
 · exact .inr ⟨by simp [h1], by simpa using h2, by simpa using h3⟩)
 have hsa := hSP.same _ hbw
 have hwa := hSP.want
 rw [<- HEL.out, <- HTL.out] at hsa hwa
 have HSA := hid hsa; have HWA := hid hwa; have HTS := hid hSP.told; have HSB := hid hSP.bel; have HSK := hid hSP.kept
 obtain ⟨⟨⟨⟨s0, s1, s2, s3⟩, sl⟩, ⟨⟨t0, t1, t2, t3⟩, tl'⟩⟩, _, _⟩ := HKS.out _ hb2
 have hrr : (r == r) = true := by simp
 clear hsm hsa hwa hSP hb2 hbw HALV1
 rcases hd with d0 | ⟨d0, d1, d2⟩
 all_goals (
 go_wp2_with fail
 refine HSA.out.mono ?_
 rintro e w6 ⟨v, rfl, hq, hB⟩
 replace HBK := hid (HBK.out.call hB)
 have HQ2 := hid hq
 clear hq hB s0 s1 s2 s3 sl t0 t1 t2 t3 tl' x0 x1 x2 x3 xl z0 z1 z2 z3 zl
 obtain ⟨hb2, _, _, _⟩ := HSYS.out _ HBK.out.bel
 obtain ⟨⟨⟨⟨s0, s1, s2, s3⟩, sl⟩, ⟨⟨t0, t1, t2, t3⟩, tl'⟩⟩, _, _⟩ := HKS.out _ hb2
 have HWA1 := hid (HWA.out _ (HLE.out _ hb2).2.2)
 clear hb2
 go_wp2_with fail
 refine HWA1.out.mono ?_
 rintro e w7 ⟨rfl, hB⟩
 obtain ⟨W8, hW8⟩ : ∃ W8, W8 = w7.alloc (Obj.cells #[.int .i64 k2, .int .i64 0, .int .i64 0, .string y] 28) := ⟨_, rfl⟩
 have hbW : Below w7.heap.size w7 W8 := by rw [hW8]; exact (Below.refl _ _).alloc (Nat.le_refl _) _
 have he8 : W8.ownsRow w7.heap.size 28 4 (.slice (some ⟨w7.heap.size, 0, none⟩) 1 1) 1 [.int .i64 k2, .int .i64 0, .int .i64 0, .string y] := by
   rw [hW8]; exact World.ownsRow_lit (base := w7.heap.size) w7 #[.int .i64 k2, .int .i64 0, .int .i64 0, .string y] 1 (Nat.le_refl _) (by unfold maxLen; omega) rfl
 have hub : W8.heap[w7.heap.size]? = some (.cells #[.int .i64 k2, .int .i64 0, .int .i64 0, .string y] 28 (0, 0)) := by rw [hW8]; exact heap_alloc_new w7 _
 replace HBK := hid ((HBK.out.call hB).add hbW he8)
 replace HQ2 := hid (HSB.out _ _ _ (HSB.out _ _ _ HQ2.out hB) hbW)
 have HW8 := hid hW8
 clear hB hW8 hbW he8 hub HWA1 s0 s1 s2 s3 sl t0 t1 t2 t3 tl'
 go_upto_region 17 with fail
 rw [<- HW8.out]
 obtain ⟨fb, hfb⟩ : ∃ fb, fb = w7.heap.size := ⟨_, rfl⟩
 rw [<- hfb] at HBK ⊢
 clear hfb HW8
 have HALV1 := hid (ALV.out W8 (HLE.out _ (HSYS.out _ HBK.out.bel).1).2.2)
 go_wp2_with fail
 refine HALV1.out.mono ?_
 rintro e w9 ⟨rfl, hB⟩
 replace HBK := hid (HBK.out.call hB)
 replace HQ2 := hid (HSB.out _ _ _ HQ2.out hB)
 clear hB HALV1
 go_wp2_with fail
 refine (HBK.out.apartR (fun r hr => by (
 simp only [List.mem_singleton] at hr
 subst hr
 show 28 ≠ 72
 decide))).mono ?_
 rintro e w10 ⟨rfl, hB, hkp, how⟩
 replace HQ2 := hid (HSK.out _ _ _ HQ2.out hkp)
 have HEB := hid (boxE (how _ (List.mem_singleton_self _)))
 have HB10 := hid hB
 clear hB hkp how
 obtain ⟨⟨e0, e1, e2, e3⟩, el'⟩ := errU HEB.out
 have HTS1 := hid (HTS.out w10 v (HLE.out _ (HSYS.out _ HB10.out).1).2.2 HQ2.out)
 go_wp2_with fail
 refine HTS1.out.mono ?_
 rintro e w11 ⟨rfl, hB⟩
 replace HB10 := hid (HB10.out.trans (hB.mono HB10.out.size))
 clear hB e0 e1 e2 e3 el' HTS1
 go_wp2_with fail
 go_ret
 exact ⟨rfl, (HLE.out _ (HSYS.out _ HB10.out).1).2.2⟩)))))
end Go.Proofs.YtgikimbafakmcaaGreatDoor

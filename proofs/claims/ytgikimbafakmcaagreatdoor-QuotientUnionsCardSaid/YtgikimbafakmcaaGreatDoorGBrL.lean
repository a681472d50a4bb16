/-
  Lemmas.
-/
import Derived.Test.YtgikimbafakmcaaGreatDoorGReach
import Derived.Test.YtgikimbafakmcaaGreatDoorGPl6
import Derived.Test.YtgikimbafakmcaaGreatDoorGQuoE
import Derived.Test.YtgikimbafakmcaaGreatDoorGRws
import Derived.Test.YtgikimbafakmcaaGreatDoorGOMap
import Derived.Test.YtgikimbafakmcaaGreatDoorGGraphA
import Derived.Test.YtgikimbafakmcaaGreatDoorGLaidQun
import Derived.StringKeys
import Derived.Test.YtgikimbafakmcaaGreatDoorShelf
import Derived.Test.YtgikimbafakmcaaGreatDoorGBkRg
import Derived.Test.YtgikimbafakmcaaGreatDoorGOrder
import Derived.Deep.QuietTactic
import Derived.BigQuiet
import Derived.Shelf.Strconv.AppendIntPublic10
import Derived.Lib.AppendIntMem
import Derived.Lib.ItoaLen
import Derived.Lib.Slices
import Derived.Laws.IdiomStrings
import Derived.Deep.RegionHeldLaw
import Derived.Deep.RegionHeld3
import Derived.Deep.Cut
import Derived.Deep.CutRange
import Derived.Test.YtgikimbafakmcaaGreatDoorGPl1
import Derived.Test.YtgikimbafakmcaaGreatDoorGNew
import Derived.Test.YtgikimbafakmcaaGreatDoorGStrG
import Derived.Test.YtgikimbafakmcaaGreatDoorGAs
import Derived.Test.YtgikimbafakmcaaGreatDoorQuoM
import Derived.Test.YtgikimbafakmcaaGreatDoorGQuoB
set_option maxHeartbeats 8000000
set_option maxRecDepth 100000
namespace Go.Proofs.YtgikimbafakmcaaGreatDoor
namespace Pl
end Pl
end Go.Proofs.YtgikimbafakmcaaGreatDoor
namespace Go.Proofs.YtgikimbafakmcaaGreatDoor
open Go.RowKit Pl
end Go.Proofs.YtgikimbafakmcaaGreatDoor
namespace Go.Proofs.YtgikimbafakmcaaGreatDoor
open Go.RowKit Pl
end Go.Proofs.YtgikimbafakmcaaGreatDoor
namespace Go.Proofs.YtgikimbafakmcaaGreatDoor
open Go.RowKit Pl
section
variable {t : Lts}
def W8 (t : Lts) (D : List Nat) (j : Nat) : Int := if j ∈ D then -1 else (Wt t D j : Int)
end
end Go.Proofs.YtgikimbafakmcaaGreatDoor
namespace Go.Proofs.YtgikimbafakmcaaGreatDoor
open Go.RowKit Pl
end Go.Proofs.YtgikimbafakmcaaGreatDoor
namespace Go.Proofs.YtgikimbafakmcaaGreatDoor
namespace Pl
theorem canon_zeroB (n : Nat) : canon (fl n (fun _ => 0)) = fl n (fun _ => 0) := by
 rw [canon_fl]
 unfold fl
 apply List.map_congr_left
 intro i hi
 have h1 := clf_rng (f := fun _ => (0 : Int)) (List.mem_range.1 hi)
 have h2 : (dist (fl n (fun _ => (0 : Int)))).length <= 1 := by (
 have := nodup_subI (dist (fl n (fun _ => (0 : Int)))) [0] (nodup_dist _) (fun x hx => by
   obtain ⟨p, _, h⟩ := mem_dist_fl.1 hx
   simp [<- h])
 simpa using this)
 show clf n (fun _ => 0) i = 0
 omega
theorem fl_inj {n : Nat} {f g : Nat -> Int} (h : fl n f = fl n g) {p : Nat} (hp : p < n) : f p = g p := by
 have h1 := fl_get f hp
 rw [h, fl_get g hp] at h1
 exact (Option.some.inj h1).symm
/-! the numbers of texts -/
end Pl
end Go.Proofs.YtgikimbafakmcaaGreatDoor
namespace Go.Proofs.YtgikimbafakmcaaGreatDoor
open Go.RowKit Pl Go.Maps
section
variable {α : Type} {enc : α -> List Value} {k : Nat} {e T : TypeId} {w w' : World} {base ob n : Nat} {f : Nat -> List α}
theorem OwnRows.congr {g : Nat -> List α} (h : OwnRows enc k e T w base ob n f) (hf : ∀ i, f i = g i) : OwnRows enc k e T w base ob n g := by
 have : f = g := funext hf
 rw [<- this]; exact h
theorem OwnRows.put (h : OwnRows enc k e T w base ob n f) {p : Nat} (hB : Below w.heap.size w w') (hbs : base <= w.heap.size) {v : Value} {ys : List α} (ho : w'.ownsRow w.heap.size e k v ys.length (ys.flatMap enc)) :
    OwnRows enc k e T (w'.setCell ⟨ob, p, none⟩ v) base ob n (fun i => if i = p then ys else f i) := by
 obtain ⟨vs, h1, h2, h3⟩ := h.ex
 refine ⟨⟨fun i => if i = p then v else vs i, (h1.of_block (hB.block ob h1.lt)).set p v, fun q hq => ?_, ?_⟩, h.lt⟩
 · (
 by_cases e1 : q = p
 · subst e1
   simp only [if_true]
   exact ownsRow_setCell_below (own_mono ho hbs) h.lt _
 · simp only [if_neg e1]
   exact ownsRow_setCell_below (own_below (h2 q hq) hB) h.lt _)
 · (
 intro a b g ha hb hab hga
 by_cases e1 : a = p
 · (
 subst e1
 simp only [if_true] at hga
 simp only [if_neg (Ne.symm hab)]
 intro e2
 have h4 := (ho.lt g hga).1
 have h5 := ((h2 b hb).lt g e2).2
 omega)
 · (
 simp only [if_neg e1] at hga
 by_cases e2 : b = p
 · (
 subst e2
 simp only [if_true]
 intro e3
 have h4 := (ho.lt g e3).1
 have h5 := ((h2 a ha).lt g hga).2
 omega)
 · simp only [if_neg e2]; exact h3 a b g ha hb hab hga))
end
end Go.Proofs.YtgikimbafakmcaaGreatDoor
namespace Go.Proofs.YtgikimbafakmcaaGreatDoor
open Go.RowKit Pl Go.Sort Go.Shelf Go.Lib
end Go.Proofs.YtgikimbafakmcaaGreatDoor
namespace Go.Proofs.YtgikimbafakmcaaGreatDoor
open Go.RowKit Pl
end Go.Proofs.YtgikimbafakmcaaGreatDoor
namespace Go.Proofs.YtgikimbafakmcaaGreatDoor
open Go.RowKit Go.Shelf
end Go.Proofs.YtgikimbafakmcaaGreatDoor
namespace Go.Proofs.YtgikimbafakmcaaGreatDoor
open Go.RowKit Pl
end Go.Proofs.YtgikimbafakmcaaGreatDoor
namespace Go.Proofs.YtgikimbafakmcaaGreatDoor
open Go.RowKit Pl
theorem rowIs_sl {w : World} {b n : Nat} {f : Nat -> Int} (h : w.rowIs b 3 n (fun i => .int .i64 (f i))) : SlAt encI 1 w (some ⟨b, 0, none⟩) b 0 (fl n f) where
  ad _ := rfl
  lt _ := h.lt
  cell := by
    intro i x hx j u hu
    have hi : i < n := by have := (List.getElem?_eq_some_iff.1 hx).1; rwa [fl_len] at this
    rw [fl_get f hi] at hx
    cases hx
    match j, hu with
    | 0, hu => simp [encI] at hu; subst hu; simpa using h.cell hi
theorem fl_getD {n i : Nat} {G : Nat -> Int} (hi : i < n) : (fl n G).getD i 0 = G i := by
 rw [List.getD_eq_getElem?_getD, fl_get G hi]; rfl
theorem rowAtK_all {n i : Nat} {G : Nat -> Int} (hi : i < n) : rowAtK (fl n G) n i = .int .i64 (clf n G i) := by
 unfold rowAtK clf
 rw [if_pos hi, fl_getD hi]
end Go.Proofs.YtgikimbafakmcaaGreatDoor
namespace Go.Proofs.YtgikimbafakmcaaGreatDoor
open Go.RowKit Pl
end Go.Proofs.YtgikimbafakmcaaGreatDoor
namespace Go.Proofs.YtgikimbafakmcaaGreatDoor
namespace Pl
section
variable {s : Lts} {n : Nat} {R : List Int}
end
end Pl
end Go.Proofs.YtgikimbafakmcaaGreatDoor
namespace Go.Proofs.YtgikimbafakmcaaGreatDoor
open Go.RowKit Pl
end Go.Proofs.YtgikimbafakmcaaGreatDoor
namespace Go.Proofs.YtgikimbafakmcaaGreatDoor
open Go.RowKit Pl
end Go.Proofs.YtgikimbafakmcaaGreatDoor
namespace Go.Proofs.YtgikimbafakmcaaGreatDoor
open Go.RowKit Pl
end Go.Proofs.YtgikimbafakmcaaGreatDoor
namespace Go.Proofs.YtgikimbafakmcaaGreatDoor
open Go.RowKit Pl
section
variable {s : Lts} {n : Nat} {C : Nat -> Int}
end
end Go.Proofs.YtgikimbafakmcaaGreatDoor
namespace Go.Proofs.YtgikimbafakmcaaGreatDoor
open Go.RowKit Pl
section
variable {s : Lts} {n : Nat} {C : Nat -> Int}
/-! all states are reachable -/
end
end Go.Proofs.YtgikimbafakmcaaGreatDoor
namespace Go.Proofs.YtgikimbafakmcaaGreatDoor
open Go.RowKit Pl
namespace Pl
end Pl
section
variable {s : Lts} {n : Nat} {C : Nat -> Int}
end
end Go.Proofs.YtgikimbafakmcaaGreatDoor
namespace Go.Proofs.YtgikimbafakmcaaGreatDoor
open Go.RowKit Pl
end Go.Proofs.YtgikimbafakmcaaGreatDoor
namespace Go.Proofs.YtgikimbafakmcaaGreatDoor
open Go.RowKit Pl
end Go.Proofs.YtgikimbafakmcaaGreatDoor
namespace Go.Proofs.YtgikimbafakmcaaGreatDoor
open Go.RowKit Pl
end Go.Proofs.YtgikimbafakmcaaGreatDoor
namespace Go.Proofs.YtgikimbafakmcaaGreatDoor
open Go.RowKit Pl
def FaultQ (w : World) (p : Addr) (v : Value) : Prop :=
  ∃ vi, FaultAt w v quoName vi /\ FaultAt w vi sysName (.iface 270 (.pointer (some p)))
theorem FaultQ.below {w w' : World} {p : Addr} {v : Value} (h : FaultQ w p v) (hB : Below w.heap.size w w') : FaultQ w' p v := by
 obtain ⟨vi, h1, h2⟩ := h
 exact ⟨vi, h1.below hB, h2.below hB⟩
theorem faultAt_sets {w : World} {v : Value} {l : ByteArray} {i : Value} {k : Nat} {cs : Array Value} (h : FaultAt w v l i) (hk : w.heap[k]? = some (.cells cs 24 (0, 0))) (x0 x1 x2 x3 : Value) : FaultAt ((((w.setCell ⟨k, 0, none⟩ x0).setCell ⟨k, 1, none⟩ x1).setCell ⟨k, 2, none⟩ x2).setCell ⟨k, 3, none⟩ x3) v l i := by
 obtain ⟨b, rfl, hb⟩ := h.ex
 have hne : b ≠ k := fun e => by rw [e, hk] at hb; simp at hb
 exact ⟨b, rfl, by rw [Below.heap_setCell _ _ _ _ hne, Below.heap_setCell _ _ _ _ hne, Below.heap_setCell _ _ _ _ hne, Below.heap_setCell _ _ _ _ hne]; exact hb⟩
theorem FaultQ.sets {w : World} {p : Addr} {v : Value} {k : Nat} {cs : Array Value} (h : FaultQ w p v) (hk : w.heap[k]? = some (.cells cs 24 (0, 0))) (x0 x1 x2 x3 : Value) : FaultQ ((((w.setCell ⟨k, 0, none⟩ x0).setCell ⟨k, 1, none⟩ x1).setCell ⟨k, 2, none⟩ x2).setCell ⟨k, 3, none⟩ x3) p v := by
 obtain ⟨vi, h1, h2⟩ := h
 exact ⟨vi, faultAt_sets h1 hk x0 x1 x2 x3, faultAt_sets h2 hk x0 x1 x2 x3⟩
end Go.Proofs.YtgikimbafakmcaaGreatDoor
namespace Go.Proofs.YtgikimbafakmcaaGreatDoor
open Go.RowKit Pl
open Lib (hid)
def UniErr (s t : Lts) (p : Addr) (w : World) (e : Ending) (w' : World) : Prop :=
  ∃ v, e = .returned (.tuple #[.agg #[.int .i64 0, .int .i64 0, .int .i64 0, .slice none 0 0], .int .i64 0, v]) /\ (s.Right /\ t.Right -> FaultAt w' v quoName (.iface 270 (.pointer (some p)))) /\ (¬ (s.Right /\ t.Right) -> FaultQ w' p v) /\ Below w.heap.size w w'
theorem unionErr_any {p : Addr} {s t : Lts} (hno : ¬ (s.Right /\ t.Right /\ s.st + t.st <= 1000 /\ s.es.length + t.es.length <= 10000)) {a a2 : Option Addr} {b off c b2 off2 c2 : Nat} {w : World} (hG : GErr 0 p w) (hTy : ErrType w) (hS : SlAt encE 3 w a b off s.es) (hT : SlAt encE 3 w a2 b2 off2 t.es) :
    Calls Tryz.prog 7 #[.agg #[.int .i64 s.st, .int .i64 s.lb, .int .i64 s.s0, .slice a s.es.length c], .agg #[.int .i64 t.st, .int .i64 t.lb, .int .i64 t.s0, .slice a2 t.es.length c2]] w (UniErr s t p w) := by
 have HG := hid hG; have HT := hid hTy; have HS := hid hS; have HT2 := hid hT; have HNO := hid hno
 clear hG hTy hS hT hno
 go_enter Tryz.func7, Tryz.ntmps7
 go_upto_region 1 with fail
 obtain ⟨w0, hw0⟩ : ∃ w0, w0 = ((w.alloc (.cells #[.int .i64 s.st, .int .i64 s.lb, .int .i64 s.s0, .slice a s.es.length c] 24)).alloc (.cells #[.int .i64 t.st, .int .i64 t.lb, .int .i64 t.s0, .slice a2 t.es.length c2] 24)).alloc (.cells #[.int .i64 0, .int .i64 0, .int .i64 0, .slice none 0 0] 24) := ⟨_, rfl⟩
 have hB0 : Below w.heap.size w w0 := by rw [hw0]; exact (((Below.refl w.heap.size w).alloc (Nat.le_refl _) _).alloc (by simp) _).alloc (by simp; omega) _
 have hx : w0.heap[w.heap.size]? = some (.cells #[.int .i64 s.st, .int .i64 s.lb, .int .i64 s.s0, .slice a s.es.length c] 24 (0, 0)) := by
   rw [hw0]
   exact ((((Below.refl (w.heap.size + 1) (w.alloc (Obj.cells #[.int .i64 s.st, .int .i64 s.lb, .int .i64 s.s0, .slice a s.es.length c] 24))).alloc (by simp) _).alloc (by simp) _).block w.heap.size (by omega)).trans (heap_alloc_new w _)
 have hz : w0.heap[w.heap.size + 1]? = some (.cells #[.int .i64 t.st, .int .i64 t.lb, .int .i64 t.s0, .slice a2 t.es.length c2] 24 (0, 0)) := by
   rw [hw0]
   exact ((Below.refl (w.heap.size + 2) _).alloc (by simp) _ |>.block (w.heap.size + 1) (by omega)).trans (heap_alloc_at _ _ (w.heap.size + 1) (by simp))
 have hy : w0.heap[w.heap.size + 1 + 1]? = some (.cells #[.int .i64 0, .int .i64 0, .int .i64 0, .slice none 0 0] 24 (0, 0)) := by
   rw [hw0]
   exact heap_alloc_at _ _ (w.heap.size + 1 + 1) (by simp)
 have HB0 := hid hB0; have HX := hid hx; have HZ := hid hz; have HY := hid hy
 rw [<- hw0]
 obtain ⟨X, hX⟩ : ∃ X, X = w.heap.size := ⟨_, rfl⟩
 obtain ⟨Z, hZ⟩ : ∃ Z, Z = w.heap.size + 1 := ⟨_, rfl⟩
 obtain ⟨Y, hY⟩ : ∃ Y, Y = w.heap.size + 1 + 1 := ⟨_, rfl⟩
 have HYW : Hid (w.heap.size <= Y) := hid (by omega)
 have HXY : Hid (¬ X = Y) := hid (by omega)
 rw [<- hX] at HX
 rw [<- hZ] at HZ
 rw [<- hY] at HY
 rw [<- hY, <- hZ, <- hX]
 obtain ⟨x0, x1, x2, x3, x4⟩ := sys9 HX.out
 obtain ⟨z0, z1, z2, z3, z4⟩ := sys9 HZ.out
 clear hw0 hB0 hx hz hy hX hZ hY
 go_upto_region 2 with fail
 clear x0 x1 x2 x3 x4 z0 z1 z2 z3 z4
 go_loopw [8, 9, 16] (fun _ _ v16 wx => ∃ i : Nat, v16 = .int .i64 i /\ i <= 2 /\ Below w0.heap.size w0 wx /\ (1 <= i -> s.Right) /\ (2 <= i -> t.Right)) (fun _ _ v16 _ => 2 - (intOf v16).toNat)
 case atStart => exact ⟨0, rfl, by omega, Below.refl _ _, fun h => by omega, fun h => by omega⟩
 case round => (
 obtain ⟨i, rfl, hi, hb, hr12⟩ := hrel
 have HB := hid hb
 by_cases h0 : i = 0
 · (
 subst h0
 have hix := fun W => (index2 (.int .i64 s.st) (.int .i64 s.lb) (.int .i64 s.s0) (.slice a s.es.length c) (.int .i64 t.st) (.int .i64 t.lb) (.int .i64 t.s0) (.slice a2 t.es.length c2) W).1
 have hbz := hb.alloc hb.size (.cells #[.int .i64 s.st, .int .i64 s.lb, .int .i64 s.s0, .slice a s.es.length c] 24)
 have HBZ := hid hbz
 by_cases hr : ¬ s.Right
 · (
 have HCK := hid (check_no hr a b off c (wr.alloc (.cells #[.int .i64 s.st, .int .i64 s.lb, .int .i64 s.s0, .slice a s.es.length c] 24)) (HG.out.below (HB0.out.trans (hbz.mono HB0.out.size))) (HS.out.below (HB0.out.trans (hbz.mono HB0.out.size)) (Nat.le_refl _)))
 clear hb hbz
 go_wp2_with fail
 refine HCK.out.mono ?_
 rintro e w1 ⟨v, rfl, hF, hB1⟩
 have HF := hid hF
 obtain ⟨fb, rfl, hfb⟩ := hF.ex
 have HB1 := hid (HBZ.out.trans (hB1.mono HBZ.out.size))
 have HA := hid (faultAs_any quoName (HT.out.below (HB0.out.trans (HB1.out.mono HB0.out.size))) hfb)
 have HY1 := hid ((HB1.out.block Y (Array.getElem?_eq_some_iff.1 HY.out).1).trans HY.out)
 clear hB1 hfb hF HCK
 unfold quoName at HA
 go_wp2_with fail
 refine HA.out.mono ?_
 rintro e w2 ⟨v, rfl, hF2, hB2⟩
 have HFQ : Hid (FaultQ w2 p v) := hid ⟨_, hF2, HF.out.below hB2⟩
 obtain ⟨fb, rfl, hfb⟩ := hF2.ex
 have HB2 := hid (HB1.out.trans (hB2.mono HB1.out.size))
 have hy2 := (hB2.block Y (Array.getElem?_eq_some_iff.1 HY1.out).1).trans HY1.out
 obtain ⟨y0, y1, y2, y3, y4⟩ := sys9 hy2
 have yf0 : w2.frozen? ⟨Y, 0, none⟩ = false := by simp [World.frozen?, hy2]
 have yf1 : w2.frozen? ⟨Y, 1, none⟩ = false := by simp [World.frozen?, hy2]
 have yf2 : w2.frozen? ⟨Y, 2, none⟩ = false := by simp [World.frozen?, hy2]
 have yf3 : w2.frozen? ⟨Y, 3, none⟩ = false := by simp [World.frozen?, hy2]
 have HFS := hid (fun x0 x1 x2 x3 => HFQ.out.sets hy2 x0 x1 x2 x3)
 clear hF2 hfb hB2 hy2 HY1 HB1 HA HFQ HF
 go_wp2_with fail
 have hyw := HYW.out
 refine bodyPost_ret (v := .tuple #[.agg #[.int .i64 0, .int .i64 0, .int .i64 0, .slice none 0 0], .int .i64 0, .iface 69 (.pointer (some ⟨fb, 0, none⟩))]) (by simp [results, Tryz.results7, go_sem, y0, y1, y2, y3]) rfl ⟨_, rfl, fun hh => absurd hh.1 hr, fun _ => HFS.out _ _ _ _, ?_⟩
 exact HB0.out.trans (((((HB2.out.mono HB0.out.size).setCell hyw _).setCell hyw _).setCell hyw _).setCell hyw _))
 replace hr := Classical.not_not.1 hr
 have HCK := hid (check_ok hr a b off c (wr.alloc (.cells #[.int .i64 s.st, .int .i64 s.lb, .int .i64 s.s0, .slice a s.es.length c] 24)) (HG.out.below (HB0.out.trans (hbz.mono HB0.out.size))) (HS.out.below (HB0.out.trans (hbz.mono HB0.out.size)) (Nat.le_refl _)))
 have HRI := hid hr; have HR12 := hid hr12
 clear hb hbz hr12
 go_wp2_with fail
 refine HCK.out.mono ?_
 rintro e w1 ⟨rfl, hB1⟩
 have HB1 := hid (HBZ.out.trans (hB1.mono HBZ.out.size))
 clear hB1
 go_wp2_with fail
 go_roundw
 case rel => exact ⟨1, rfl, by omega, HB1.out, fun _ => HRI.out, fun h => by omega⟩
 case measure => simp [intOf])
 by_cases h1 : i = 1
 · (
 subst h1
 have hix := fun W => (index2 (.int .i64 s.st) (.int .i64 s.lb) (.int .i64 s.s0) (.slice a s.es.length c) (.int .i64 t.st) (.int .i64 t.lb) (.int .i64 t.s0) (.slice a2 t.es.length c2) W).2
 have hbz := hb.alloc hb.size (.cells #[.int .i64 t.st, .int .i64 t.lb, .int .i64 t.s0, .slice a2 t.es.length c2] 24)
 have HBZ := hid hbz
 by_cases hrt : ¬ t.Right
 · (
 have HCK := hid (check_no hrt a2 b2 off2 c2 (wr.alloc (.cells #[.int .i64 t.st, .int .i64 t.lb, .int .i64 t.s0, .slice a2 t.es.length c2] 24)) (HG.out.below (HB0.out.trans (hbz.mono HB0.out.size))) (HT2.out.below (HB0.out.trans (hbz.mono HB0.out.size)) (Nat.le_refl _)))
 clear hb hbz
 go_wp2_with fail
 refine HCK.out.mono ?_
 rintro e w1 ⟨v, rfl, hF, hB1⟩
 have HF := hid hF
 obtain ⟨fb, rfl, hfb⟩ := hF.ex
 have HB1 := hid (HBZ.out.trans (hB1.mono HBZ.out.size))
 have HA := hid (faultAs_any quoName (HT.out.below (HB0.out.trans (HB1.out.mono HB0.out.size))) hfb)
 have HY1 := hid ((HB1.out.block Y (Array.getElem?_eq_some_iff.1 HY.out).1).trans HY.out)
 clear hB1 hfb hF HCK
 unfold quoName at HA
 go_wp2_with fail
 refine HA.out.mono ?_
 rintro e w2 ⟨v, rfl, hF2, hB2⟩
 have HFQ : Hid (FaultQ w2 p v) := hid ⟨_, hF2, HF.out.below hB2⟩
 obtain ⟨fb, rfl, hfb⟩ := hF2.ex
 have HB2 := hid (HB1.out.trans (hB2.mono HB1.out.size))
 have hy2 := (hB2.block Y (Array.getElem?_eq_some_iff.1 HY1.out).1).trans HY1.out
 obtain ⟨y0, y1, y2, y3, y4⟩ := sys9 hy2
 have yf0 : w2.frozen? ⟨Y, 0, none⟩ = false := by simp [World.frozen?, hy2]
 have yf1 : w2.frozen? ⟨Y, 1, none⟩ = false := by simp [World.frozen?, hy2]
 have yf2 : w2.frozen? ⟨Y, 2, none⟩ = false := by simp [World.frozen?, hy2]
 have yf3 : w2.frozen? ⟨Y, 3, none⟩ = false := by simp [World.frozen?, hy2]
 have HFS := hid (fun x0 x1 x2 x3 => HFQ.out.sets hy2 x0 x1 x2 x3)
 clear hF2 hfb hB2 hy2 HY1 HB1 HA HFQ HF
 go_wp2_with fail
 have hyw := HYW.out
 refine bodyPost_ret (v := .tuple #[.agg #[.int .i64 0, .int .i64 0, .int .i64 0, .slice none 0 0], .int .i64 0, .iface 69 (.pointer (some ⟨fb, 0, none⟩))]) (by simp [results, Tryz.results7, go_sem, y0, y1, y2, y3]) rfl ⟨_, rfl, fun hh => absurd hh.2 hrt, fun _ => HFS.out _ _ _ _, ?_⟩
 exact HB0.out.trans (((((HB2.out.mono HB0.out.size).setCell hyw _).setCell hyw _).setCell hyw _).setCell hyw _))
 replace hrt := Classical.not_not.1 hrt
 have HCK := hid (check_ok hrt a2 b2 off2 c2 (wr.alloc (.cells #[.int .i64 t.st, .int .i64 t.lb, .int .i64 t.s0, .slice a2 t.es.length c2] 24)) (HG.out.below (HB0.out.trans (hbz.mono HB0.out.size))) (HT2.out.below (HB0.out.trans (hbz.mono HB0.out.size)) (Nat.le_refl _)))
 have HRI := hid hrt; have HR12 := hid hr12
 clear hb hbz hr12
 go_wp2_with fail
 refine HCK.out.mono ?_
 rintro e w1 ⟨rfl, hB1⟩
 have HB1 := hid (HBZ.out.trans (hB1.mono HBZ.out.size))
 clear hB1
 go_wp2_with fail
 go_roundw
 case rel => exact ⟨2, rfl, by omega, HB1.out, fun _ => HR12.out.1 (by omega), fun _ => HRI.out⟩
 case measure => simp [intOf])
 obtain rfl : i = 2 := by omega
 have HR := hid (hr12.1 (by omega)); have HRT := hid (hr12.2 (by omega))
 have HXR := hid ((hb.block X (Array.getElem?_eq_some_iff.1 HX.out).1).trans HX.out)
 have HZR := hid ((hb.block Z (Array.getElem?_eq_some_iff.1 HZ.out).1).trans HZ.out)
 have HYR := hid ((hb.block Y (Array.getElem?_eq_some_iff.1 HY.out).1).trans HY.out)
 obtain ⟨x0, x1, x2, x3, x4⟩ := sys9 HXR.out
 obtain ⟨z0, z1, z2, z3, z4⟩ := sys9 HZR.out
 have l0 := (HG.out.below (HB0.out.trans (HB.out.mono HB0.out.size))).cell; have ll := (HG.out.below (HB0.out.trans (HB.out.mono HB0.out.size))).lt
 have k1 := HR.out.st0; have k2 := HRT.out.st0
 have g3 : IntKind.i64.wrap (s.st + t.st) = s.st + t.st := IntWalk.i64_in _ (by omega)
 have g4 : IntKind.i64.wrap ((s.es.length : Int) + (t.es.length : Int)) = (s.es.length : Int) + (t.es.length : Int) := IntWalk.i64_in _ (by omega)
 have hbig : s.st + t.st > 1000 ∨ ¬ (s.st + t.st > 1000) /\ ((s.es.length : Int) + (t.es.length : Int) > 10000) := by (
 by_cases h : s.st + t.st > 1000
 · exact .inl h
 · refine .inr ⟨h, ?_⟩
   rcases Nat.lt_or_ge 10000 (s.es.length + t.es.length) with h2 | h2
   · omega
   · exact absurd ⟨HR.out, HRT.out, by omega, h2⟩ HNO.out)
 have hfn := faultNew_any quoName 270 (.pointer (some p))
 unfold quoName at hfn
 clear hb hr12 h0 h1 hi k1 k2
 rcases hbig with g1 | ⟨g1, g2⟩
 all_goals (
 go_wp2_with fail
 refine (hfn _).mono ?_
 rintro e w3 ⟨rfl, hw3⟩
 have hF : FaultAt w3 (.iface 69 (.pointer (some ⟨wr.heap.size, 0, none⟩))) quoName (.iface 270 (.pointer (some p))) := ⟨_, rfl, by rw [hw3]; exact heap_alloc_new wr _⟩
 have hB3 : Below wr.heap.size wr w3 := by rw [hw3]; exact (Below.refl _ _).alloc (Nat.le_refl _) _
 have HB3 := hid (HB0.out.trans ((HB.out.trans (hB3.mono HB.out.size)).mono HB0.out.size))
 have hy2 := (hB3.block Y (Array.getElem?_eq_some_iff.1 HYR.out).1).trans HYR.out
 obtain ⟨y0, y1, y2, y3, y4⟩ := sys9 hy2
 have yf0 : w3.frozen? ⟨Y, 0, none⟩ = false := by simp [World.frozen?, hy2]
 have yf1 : w3.frozen? ⟨Y, 1, none⟩ = false := by simp [World.frozen?, hy2]
 have yf2 : w3.frozen? ⟨Y, 2, none⟩ = false := by simp [World.frozen?, hy2]
 have yf3 : w3.frozen? ⟨Y, 3, none⟩ = false := by simp [World.frozen?, hy2]
 have HFS := hid (fun x0 x1 x2 x3 => faultAt_sets hF hy2 x0 x1 x2 x3)
 obtain ⟨fb, hfb⟩ : ∃ fb, fb = wr.heap.size := ⟨_, rfl⟩
 rw [<- hfb] at HFS ⊢
 clear hw3 hF hB3 hy2 hfb
 go_wp2_with fail
 have hyw := HYW.out
 refine bodyPost_ret (v := .tuple #[.agg #[.int .i64 0, .int .i64 0, .int .i64 0, .slice none 0 0], .int .i64 0, .iface 69 (.pointer (some ⟨fb, 0, none⟩))]) (by simp [results, Tryz.results7, go_sem, y0, y1, y2, y3]) rfl ⟨_, rfl, fun _ => HFS.out _ _ _ _, fun hh => absurd ⟨HR.out, HRT.out⟩ hh, ?_⟩
 exact (((HB3.out.setCell hyw _).setCell hyw _).setCell hyw _).setCell hyw _))
end Go.Proofs.YtgikimbafakmcaaGreatDoor
namespace Go.Proofs.YtgikimbafakmcaaGreatDoor
open Go.RowKit Pl
open Lib (hid)
def UniOwn (s t : Lts) (w : World) (e : Ending) (w' : World) : Prop :=
  ∃ (ea : Option Addr) (ec : Nat), e = .returned (.tuple #[.agg #[.int .i64 (uniS s t).st, .int .i64 (uniS s t).lb, .int .i64 (uniS s t).s0, .slice ea (uniS s t).es.length ec], .int .i64 s.st, .nilIface]) /\
    w'.ownsRow w.heap.size 57 3 (.slice ea (uniS s t).es.length ec) (uniS s t).es.length ((uniS s t).es.flatMap encE) /\ Below w.heap.size w w'
theorem unionO_any {p : Addr} {s t : Lts} (hs : s.Right) (ht : t.Right) (hn : 0 < s.st) (h1 : s.st + t.st <= 1000) (h2 : s.es.length + t.es.length <= 10000) {a a2 : Option Addr} {b off c b2 off2 c2 : Nat} {w : World} (hG : GErr 0 p w) (hS : SlAt encE 3 w a b off s.es) (hT : SlAt encE 3 w a2 b2 off2 t.es) :
    Calls Tryz.prog 7 #[.agg #[.int .i64 s.st, .int .i64 s.lb, .int .i64 s.s0, .slice a s.es.length c], .agg #[.int .i64 t.st, .int .i64 t.lb, .int .i64 t.s0, .slice a2 t.es.length c2]] w (UniOwn s t w) := by
 have HR := hid hs; have HRT := hid ht; have HG := hid hG; have HS := hid hS; have HT := hid hT
 have H1 := hid h1; have H2 := hid h2; have HN := hid hn
 clear hs ht hG hS hT h1 h2 hn
 go_enter Tryz.func7, Tryz.ntmps7
 go_upto_region 1 with fail
 obtain ⟨w0, hw0⟩ : ∃ w0, w0 = ((w.alloc (.cells #[.int .i64 s.st, .int .i64 s.lb, .int .i64 s.s0, .slice a s.es.length c] 24)).alloc (.cells #[.int .i64 t.st, .int .i64 t.lb, .int .i64 t.s0, .slice a2 t.es.length c2] 24)).alloc (.cells #[.int .i64 0, .int .i64 0, .int .i64 0, .slice none 0 0] 24) := ⟨_, rfl⟩
 have hB0 : Below w.heap.size w w0 := by rw [hw0]; exact (((Below.refl w.heap.size w).alloc (Nat.le_refl _) _).alloc (by simp) _).alloc (by simp; omega) _
 have hx : w0.heap[w.heap.size]? = some (.cells #[.int .i64 s.st, .int .i64 s.lb, .int .i64 s.s0, .slice a s.es.length c] 24 (0, 0)) := by
   rw [hw0]
   exact ((((Below.refl (w.heap.size + 1) (w.alloc (Obj.cells #[.int .i64 s.st, .int .i64 s.lb, .int .i64 s.s0, .slice a s.es.length c] 24))).alloc (by simp) _).alloc (by simp) _).block w.heap.size (by omega)).trans (heap_alloc_new w _)
 have hz : w0.heap[w.heap.size + 1]? = some (.cells #[.int .i64 t.st, .int .i64 t.lb, .int .i64 t.s0, .slice a2 t.es.length c2] 24 (0, 0)) := by
   rw [hw0]
   exact ((Below.refl (w.heap.size + 2) _).alloc (by simp) _ |>.block (w.heap.size + 1) (by omega)).trans (heap_alloc_at _ _ (w.heap.size + 1) (by simp))
 have hy : w0.heap[w.heap.size + 1 + 1]? = some (.cells #[.int .i64 0, .int .i64 0, .int .i64 0, .slice none 0 0] 24 (0, 0)) := by
   rw [hw0]
   exact heap_alloc_at _ _ (w.heap.size + 1 + 1) (by simp)
 have HB0 := hid hB0; have HX := hid hx; have HZ := hid hz; have HY := hid hy
 rw [<- hw0]
 obtain ⟨X, hX⟩ : ∃ X, X = w.heap.size := ⟨_, rfl⟩
 obtain ⟨Z, hZ⟩ : ∃ Z, Z = w.heap.size + 1 := ⟨_, rfl⟩
 obtain ⟨Y, hY⟩ : ∃ Y, Y = w.heap.size + 1 + 1 := ⟨_, rfl⟩
 have HYW : Hid (w.heap.size <= Y) := hid (by omega)
 have HXY : Hid (¬ X = Y) := hid (by omega)
 rw [<- hX] at HX
 rw [<- hZ] at HZ
 rw [<- hY] at HY
 rw [<- hY, <- hZ, <- hX]
 obtain ⟨x0, x1, x2, x3, x4⟩ := sys9 HX.out
 obtain ⟨z0, z1, z2, z3, z4⟩ := sys9 HZ.out
 clear hw0 hB0 hx hz hy hX hZ hY
 go_upto_region 2 with fail
 clear x0 x1 x2 x3 x4 z0 z1 z2 z3 z4
 go_loopw [8, 9, 16] (fun _ _ v16 wx => ∃ i : Nat, v16 = .int .i64 i /\ i <= 2 /\ Below w0.heap.size w0 wx) (fun _ _ v16 _ => 2 - (intOf v16).toNat)
 case atStart => exact ⟨0, rfl, by omega, Below.refl _ _⟩
 case round => (
 obtain ⟨i, rfl, hi, hb⟩ := hrel
 have HB := hid hb
 by_cases h0 : i = 0
 · (
 subst h0
 have hix := fun W => (index2 (.int .i64 s.st) (.int .i64 s.lb) (.int .i64 s.s0) (.slice a s.es.length c) (.int .i64 t.st) (.int .i64 t.lb) (.int .i64 t.s0) (.slice a2 t.es.length c2) W).1
 have hbz := hb.alloc hb.size (.cells #[.int .i64 s.st, .int .i64 s.lb, .int .i64 s.s0, .slice a s.es.length c] 24)
 have HBZ := hid hbz
 have HCK := hid (check_ok HR.out a b off c (wr.alloc (.cells #[.int .i64 s.st, .int .i64 s.lb, .int .i64 s.s0, .slice a s.es.length c] 24)) (HG.out.below (HB0.out.trans (hbz.mono HB0.out.size))) (HS.out.below (HB0.out.trans (hbz.mono HB0.out.size)) (Nat.le_refl _)))
 clear hb hbz
 go_wp2_with fail
 refine HCK.out.mono ?_
 rintro e w1 ⟨rfl, hB1⟩
 have HB1 := hid (HBZ.out.trans (hB1.mono HBZ.out.size))
 clear hB1
 go_wp2_with fail
 go_roundw
 case rel => exact ⟨1, rfl, by omega, HB1.out⟩
 case measure => simp [intOf])
 by_cases h1 : i = 1
 · (
 subst h1
 have hix := fun W => (index2 (.int .i64 s.st) (.int .i64 s.lb) (.int .i64 s.s0) (.slice a s.es.length c) (.int .i64 t.st) (.int .i64 t.lb) (.int .i64 t.s0) (.slice a2 t.es.length c2) W).2
 have hbz := hb.alloc hb.size (.cells #[.int .i64 t.st, .int .i64 t.lb, .int .i64 t.s0, .slice a2 t.es.length c2] 24)
 have HBZ := hid hbz
 have HCK := hid (check_ok HRT.out a2 b2 off2 c2 (wr.alloc (.cells #[.int .i64 t.st, .int .i64 t.lb, .int .i64 t.s0, .slice a2 t.es.length c2] 24)) (HG.out.below (HB0.out.trans (hbz.mono HB0.out.size))) (HT.out.below (HB0.out.trans (hbz.mono HB0.out.size)) (Nat.le_refl _)))
 clear hb hbz h0
 go_wp2_with fail
 refine HCK.out.mono ?_
 rintro e w1 ⟨rfl, hB1⟩
 have HB1 := hid (HBZ.out.trans (hB1.mono HBZ.out.size))
 clear hB1
 go_wp2_with fail
 go_roundw
 case rel => exact ⟨2, rfl, by omega, HB1.out⟩
 case measure => simp [intOf])
 obtain rfl : i = 2 := by omega
 have HXR := hid ((hb.block X (Array.getElem?_eq_some_iff.1 HX.out).1).trans HX.out)
 have HZR := hid ((hb.block Z (Array.getElem?_eq_some_iff.1 HZ.out).1).trans HZ.out)
 have HYR := hid ((hb.block Y (Array.getElem?_eq_some_iff.1 HY.out).1).trans HY.out)
 obtain ⟨x0, x1, x2, x3, x4⟩ := sys9 HXR.out
 obtain ⟨z0, z1, z2, z3, z4⟩ := sys9 HZR.out
 have k1 := HR.out.st0; have k2 := HRT.out.st0; have k3 := H1.out; have k4 := H2.out; have k5 := HN.out
 have g1 : ¬ (s.st + t.st > 1000) := by omega
 have g2 : ¬ ((s.es.length : Int) + (t.es.length : Int) > 10000) := by omega
 have g3 : IntKind.i64.wrap (s.st + t.st) = s.st + t.st := IntWalk.i64_in _ (by omega)
 have g4 : IntKind.i64.wrap ((s.es.length : Int) + (t.es.length : Int)) = (s.es.length : Int) + (t.es.length : Int) := IntWalk.i64_in _ (by omega)
 have g5 : ¬ s.st = 0 := by omega
 clear hb h0 h1 hi k1 k2 k3 k4 k5
 go_upto_region 13 with fail
 obtain ⟨ml, hml⟩ : ∃ ml, ml = max s.lb t.lb := ⟨_, rfl⟩
 have HML := hid hml
 have hif : (if s.lb < t.lb then t.lb else s.lb) = ml := by rw [hml]; split <;> omega
 first | rw [hif] | rw [<- hml]
 obtain ⟨w4, hw4⟩ : ∃ w4, w4 = wr.alloc (.cells #[.int .i64 (s.st + t.st), .int .i64 ml, .int .i64 s.s0, .slice a s.es.length c] 24) := ⟨_, rfl⟩
 obtain ⟨tb, htb⟩ : ∃ tb, tb = wr.heap.size := ⟨_, rfl⟩
 have hr4 := (Rws.nil (Below.refl wr.heap.size wr)).addLit #[.int .i64 (s.st + t.st), .int .i64 ml, .int .i64 s.s0, .slice a s.es.length c] 24 (k := 4) (n := 1) (by decide) rfl
 rw [<- hw4, <- htb] at hr4
 have hr4 : Rws wr w4 [RQ tb (s.st + t.st) ml s.s0 (.slice a s.es.length c)] := hr4
 rw [<- hw4, <- htb]
 have HBW : Hid (Below w.heap.size w wr) := hid (HB0.out.trans (HB.out.mono HB0.out.size))
 have HWX : Hid (X < wr.heap.size /\ Z < wr.heap.size /\ Y < wr.heap.size) := hid ⟨x4, z4, (Array.getElem?_eq_some_iff.1 HYR.out).1⟩
 have HCN := hid (cloneE_any (c := c) (HS.out.below (HBW.out.trans (hr4.bel.mono HBW.out.size)) (Nat.le_refl _)) (by have := H2.out; omega))
 have HR4 := hid hr4
 clear hml hif hw4 htb x0 x1 x2 x3 x4 z0 z1 z2 z3 z4 g1 g2 g3 g4
 have hx4 := (hr4.bel.block X HWX.out.1).trans HXR.out
 have hz4 := (hr4.bel.block Z HWX.out.2.1).trans HZR.out
 obtain ⟨x0, x1, x2, x3, x4⟩ := sys9 hx4
 obtain ⟨z0, z1, z2, z3, z4⟩ := sys9 hz4
 have HX4 := hid hx4; have HZ4 := hid hz4
 clear hr4 hx4 hz4
 go_wp2_with fail
 refine HCN.out.mono ?_
 rintro e w5 ⟨v, rfl, hown, hB5⟩
 have hr5 := HR4.out.add hB5 hown
 obtain ⟨ra, rc, rb, rfl, _, _, _, _⟩ := slAt_own lenE hown
 have t3 := hr5.cell (i := 1) rfl (j := 3) rfl
 have tf := hr5.fz (i := 1) rfl 3
 have tl := (hr5.lt (i := 1) rfl).2
 have hr6 := hr5.set 1 rfl 3 (.slice ra s.es.length rc)
 have hr6 : Rws wr (w5.setCell ⟨tb, 3, none⟩ (.slice ra s.es.length rc)) [REq ra s.es.length rc s.es, RQ tb (s.st + t.st) ml s.s0 (.slice ra s.es.length rc)] := hr6
 have HR6 := hid hr6
 clear x0 x1 x2 x3 x4 z0 z1 z2 z3 z4
 have hx6 := (hr6.bel.block X HWX.out.1).trans HXR.out
 have hz6 := (hr6.bel.block Z HWX.out.2.1).trans HZR.out
 have HX6 := hid hx6; have HZ6 := hid hz6
 clear hr5 hr6 hown hB5 hx6 hz6 HX4 HZ4 HR4 HCN
 go_upto_region 16 with fail
 obtain ⟨w6, hw6⟩ : ∃ w6, w6 = w5.setCell ⟨tb, 3, none⟩ (.slice ra s.es.length rc) := ⟨_, rfl⟩
 rw [<- hw6] at HR6 HX6 HZ6 ⊢
 clear hw6 t3 tf tl
 obtain ⟨x0, x1, x2, x3, x4⟩ := sys9 HX6.out
 obtain ⟨z0, z1, z2, z3, z4⟩ := sys9 HZ6.out
 go_wp2_with fail
 clear x0 x1 x2 x3 x4 z0 z1 z2 z3 z4
 obtain ⟨wb, rfl⟩ : ∃ wb, wb = wr := ⟨_, rfl⟩
 obtain ⟨m, hm⟩ : ∃ m, m = t.es.length := ⟨_, rfl⟩
 rw [<- hm]
 have HM := hid hm
 have hmb : m <= 10000 := by have := H2.out; omega
 clear hm
 go_loopw [12, 72] (fun _ v72 wx => ∃ (j : Nat) (ea : Option Addr) (k ec : Nat), v72 = .int .i64 j /\ j <= m /\ k = s.es.length + j /\ Rws wb wx [REq ea k ec (uniK s t j), RQ tb (s.st + t.st) ml s.s0 (.slice ea k ec)]) (fun _ v72 _ => m - (intOf v72).toNat)
 case atStart => exact ⟨0, ra, s.es.length, rc, rfl, Nat.zero_le _, rfl, by unfold uniK; simpa using HR6.out⟩
 case round => (
 obtain ⟨j, ea, k, ec, rfl, hj, hk, hrw⟩ := hrel
 have HRW := hid hrw; have HK := hid hk
 have hw2 := hrw.bel.size
 have hx7 := (hrw.bel.block X HWX.out.1).trans HXR.out
 have hz7 := (hrw.bel.block Z HWX.out.2.1).trans HZR.out
 obtain ⟨x0, x1, x2, x3, x4⟩ := sys9 hx7
 obtain ⟨z0, z1, z2, z3, z4⟩ := sys9 hz7
 clear hrw hx7 hz7
 by_cases hjm : j < m
 · (
 obtain ⟨x, hx⟩ := getElem?_of_lt (xs := t.es) (i := j) (by rw [<- HM.out]; exact hjm)
 have HBR : Hid (Below w.heap.size w wr) := hid (HBW.out.trans (HRW.out.bel.mono HBW.out.size))
 have hss := HT.out.below HBR.out (Nat.le_refl _)
 obtain rfl := hss.ad (by rw [<- HM.out]; omega)
 have d0 := hss.e0 hx; have d1 := hss.e1 hx; have d2 := hss.e2 hx
 have dl := hss.lt (by rw [<- HM.out]; omega)
 have hxr := offB_false.1 (HRT.out.edges _ (List.mem_of_getElem? hx))
 have HSN := hid (uniK_snoc (s := s) hx)
 have k1 := HR.out.st0; have k2 := H1.out; have k3 := HN.out; have k4 := H2.out; have k5 := HM.out
 obtain ⟨q1, q2, q3⟩ := x
 simp only at hxr d0 d1 d2
 have g1 : IntKind.i64.wrap (q1 + s.st) = q1 + s.st := IntWalk.i64_in _ (by omega)
 have g2 : IntKind.i64.wrap (q3 + s.st) = q3 + s.st := IntWalk.i64_in _ (by omega)
 have hjI : (j : Int) < (m : Int) := by omega
 have hkl : k <= 10000 := by omega
 have t3 := HRW.out.cell (i := 1) rfl (j := 3) rfl
 have tl := (HRW.out.lt (i := 1) rfl).2
 clear hx hss hxr k1 k2 k3 k4 k5 hk
 go_wp2_with (at_builtin; refine wpList_lie rfl _ _ _ rfl rowE (base := wb.heap.size) (by simp; omega) rfl (show ((wr.alloc (.cells #[.int .i64 q1, .int .i64 q2, .int .i64 q3] 57)).alloc (.cells #[.int .i64 (q1 + s.st), .int .i64 q2, .int .i64 (q3 + s.st)] 57)).ownsRow wb.heap.size 57 3 (.slice ea k ec) k ((uniK s t j).flatMap encE) from ((HRW.out.alloc _).alloc _).get (i := 0) rfl) ⟨wr.heap.size + 1, 0, none⟩ 1 1 [.int .i64 (q1 + s.st), .int .i64 q2, .int .i64 (q3 + s.st)] rfl rfl (cells3 (by simp [go_sem]) (by simp [go_sem]) (by simp [go_sem])) (by simp [Value.oneCell']) (by decide) (by omega) (by unfold maxLen; omega) wr.heap.size (by simp; omega) ?_; intro g cap w8 hown8 hg8 hl8 hlt8; have hr8 := edGrow (x := (q1 + s.st, q2, q3 + s.st)) HRW.out (((Below.refl wr.heap.size wr).alloc (Nat.le_refl _) _).alloc (by simp) _) (i := 0) rfl hown8 hg8 hl8; have u3 := hr8.cell (i := 1) rfl (j := 3) rfl; have uf := hr8.fz (i := 1) rfl 3; have ul := (hr8.lt (i := 1) rfl).2; have HR8 := hid hr8; clear hr8 hown8 hg8 hl8 d0 d1 d2 dl t3 tl)
 have hr9 := HR8.out.set 1 rfl 3 (.slice (some ⟨g, 0, none⟩) (k + 1) cap)
 have HR9 : Hid (Rws wb (w8.setCell ⟨tb, 3, none⟩ (.slice (some ⟨g, 0, none⟩) (k + 1) cap)) [REq (some ⟨g, 0, none⟩) (k + 1) cap (uniK s t (j + 1)), RQ tb (s.st + t.st) ml s.s0 (.slice (some ⟨g, 0, none⟩) (k + 1) cap)]) := hid (by rw [HSN.out]; exact hr9)
 clear hr9 HR8 u3 uf ul
 go_roundw
 case rel => exact ⟨j + 1, some ⟨g, 0, none⟩, k + 1, cap, by go_num, by omega, by have := HK.out; omega, HR9.out⟩
 case measure => simp [intOf]; omega)
 · (
 obtain rfl : j = m := by omega
 have HBR : Hid (Below w.heap.size w wr) := hid (HBW.out.trans (HRW.out.bel.mono HBW.out.size))
 have t0 := HRW.out.cell (i := 1) rfl (j := 0) rfl
 have t1 := HRW.out.cell (i := 1) rfl (j := 1) rfl
 have t2 := HRW.out.cell (i := 1) rfl (j := 2) rfl
 have t3 := HRW.out.cell (i := 1) rfl (j := 3) rfl
 have tl := (HRW.out.lt (i := 1) rfl).2
 have hy8 := (HRW.out.bel.block Y HWX.out.2.2).trans HYR.out
 obtain ⟨y0, y1, y2, y3, y4⟩ := sys9 hy8
 have yf0 : wr.frozen? ⟨Y, 0, none⟩ = false := by simp [World.frozen?, hy8]
 have yf1 : wr.frozen? ⟨Y, 1, none⟩ = false := by simp [World.frozen?, hy8]
 have yf2 : wr.frozen? ⟨Y, 2, none⟩ = false := by simp [World.frozen?, hy8]
 have yf3 : wr.frozen? ⟨Y, 3, none⟩ = false := by simp [World.frozen?, hy8]
 have HRD := hid HRW.out.drew
 have hXY := HXY.out
 clear hy8 z0 z1 z2 z3 z4 hk
 go_upto_region 21 with fail
 go_region
 go_wp2
 have hQ : uniS s t = ⟨s.st + t.st, ml, s.s0, uniK s t j⟩ := by (
 rw [HM.out, uniK_all, HML.out]
 unfold uniS
 rw [if_neg g5])
 have hlen : (uniK s t j).length = k := by
   rw [uniK_len (by rw [<- HM.out]; exact Nat.le_refl _)]; exact HK.out.symm
 have hyw := HYW.out
 refine bodyPost_ret (v := .tuple #[.agg #[.int .i64 (s.st + t.st), .int .i64 ml, .int .i64 s.s0, .slice ea k ec], .int .i64 s.st, .nilIface]) (by simp [results, Tryz.results7, go_sem, y0, y1, y2, y3]) rfl ⟨ea, ec, by rw [hQ, <- hlen], ?_, ?_⟩
 · (
 rw [hQ]
 have ho := HRD.out.get (i := 0) rfl
 dsimp only [REq] at ho ⊢
 have hlo := HWX.out.2.2
 rw [hlen]
 exact own_mono (ownsRow_setCell_below (ownsRow_setCell_below (ownsRow_setCell_below (ownsRow_setCell_below ho hlo _) hlo _) hlo _) hlo _) HBW.out.size)
 · exact ((((HBR.out.setCell (by show w.heap.size <= Y; omega) _).setCell (by show w.heap.size <= Y; omega) _).setCell (by show w.heap.size <= Y; omega) _).setCell (by show w.heap.size <= Y; omega) _).drew)))
end Go.Proofs.YtgikimbafakmcaaGreatDoor

/-
  simul: Below, Above, Classes.
-/
import Derived.Test.YtbbjmompbmgnmaaDoorSimF
namespace Go.Proofs.YtbbjmompbmgnmaaDoor
open Go.RowKit Pl

set_option maxRecDepth 100000 in
set_option maxHeartbeats 4000000 in
theorem below_any {p0 : Addr} {n : Nat} {lb s0 : Int} {es : List E} (h : Lts.Right ⟨n, lb, s0, es⟩) (hn3 : n ≤ 300) {a : Option Addr} {b off c : Nat} {w : World} (hG : GErr 0 p0 w) (hT : Tab w) (hS : SlAt encE 3 w a b off es) {p q : Nat} (hp : p < n) (hq : q < n) :
    Calls Tryd.prog 39 #[.agg #[.int .i64 n, .int .i64 lb, .int .i64 s0, .slice a es.length c], .int .i64 p, .int .i64 q] w fun e w' =>
      ∃ R, e = .returned (.tuple #[.bool (R p q), .nilIface]) ∧ Great ⟨n, lb, s0, nf ltE es⟩ n R ∧ Below w.heap.size w w' := by
  have hB0 := (Below.refl w.heap.size w).alloc (Nat.le_refl _) (Obj.cells #[.int .i64 n, .int .i64 lb, .int .i64 s0, .slice a es.length c] 24)
  have hbx := heap_alloc_new w (Obj.cells #[.int .i64 n, .int .i64 lb, .int .i64 s0, .slice a es.length c] 24)
  have HA := Lib.hid (above_any (c := c) h hn3 (hG.below hB0) (hT.below hB0) (hS.below hB0 (Nat.le_refl _)))
  have HB0 := Lib.hid hB0; have HBX := Lib.hid hbx
  clear hB0 hbx hS hG hT h
  have d1 : decide ((p : Int) < 0) = false := by simp
  have d2 : decide ((q : Int) < 0) = false := by simp
  have d3 : decide ((n : Int) ≤ (p : Int)) = false := by simp; omega
  have d4 : decide ((n : Int) ≤ (q : Int)) = false := by simp; omega
  have hpI : (p : Int) < (n : Int) := by omega
  go_enter Tryd.func39, Tryd.ntmps39
  go_wp2_with fail
  refine HA.out.mono ?_
  rintro e w1 ⟨ob, R, rfl, hR, hblk, hob, hgt, hB1⟩
  have hx1 := (hB1.block w.heap.size (by simp)).trans HBX.out
  have x0 : w1.cell? ⟨w.heap.size, 0, none⟩ = some (.int .i64 n) := by simp [World.cell?, hx1]
  have xl := (Array.getElem?_eq_some_iff.1 hx1).1
  have HB1 := Lib.hid (HB0.out.trans (hB1.mono (by simp)))
  have HH := Lib.hid (has_any (hR.row p hp) (show q < 320 by omega))
  have HGT := Lib.hid hgt
  have obl := hblk.lt
  clear hB1 hx1 hR hgt hblk HA HBX HB0
  go_wp2_with fail
  refine HH.out.mono ?_
  rintro e w2 ⟨rfl, rfl⟩
  go_wp2_with fail
  go_ret2
  exact ⟨R, rfl, HGT.out, HB1.out⟩
end Go.Proofs.YtbbjmompbmgnmaaDoor

/-
  Lemmas.
-/
import Derived.Test.YtjchdegapadepaaGreatDoorGQuoN
import Derived.Test.YtjchdegapadepaaGreatDoorGQuoB
import Derived.Test.YtjchdegapadepaaGreatDoorGBrD
set_option maxHeartbeats 4000000
set_option maxRecDepth 100000
namespace Go.Proofs.YtjchdegapadepaaGreatDoor
open Go.RowKit Pl
open Lib (hid)
theorem j1n {p : Addr} {s : Lts} (h : s.Right) (hn : s.st = 0) {a : Option Addr} {b off c : Nat} {w : World} (hG : GErr 10 p w) (hS : SlAt encE 3 w a b off s.es) :
    Calls Tryz.prog 16 #[.agg #[.int .i64 s.st, .int .i64 s.lb, .int .i64 s.s0, .slice a s.es.length c], .func (.func 17) #[] #[], .bool false] w (QuoZero s.lb w) := by
 have hB0 := ((Below.refl w.heap.size w).alloc (Nat.le_refl _) (Obj.cells #[.int .i64 s.st, .int .i64 s.lb, .int .i64 s.s0, .slice a s.es.length c] 24)).alloc (by simp) (Obj.cells #[.int .i64 0, .int .i64 0, .int .i64 0, .slice none 0 0] 24)
 have hx0 := (((Below.refl _ _).alloc (Nat.le_refl _) (Obj.cells #[.int .i64 0, .int .i64 0, .int .i64 0, .slice none 0 0] 24)).block w.heap.size (by simp)).trans (heap_alloc_new w (Obj.cells #[.int .i64 s.st, .int .i64 s.lb, .int .i64 s.s0, .slice a s.es.length c] 24))
 have hy0 := j0d (w.alloc (Obj.cells #[.int .i64 s.st, .int .i64 s.lb, .int .i64 s.s0, .slice a s.es.length c] 24)) (Obj.cells #[.int .i64 0, .int .i64 0, .int .i64 0, .slice none 0 0] 24) (w.heap.size + 1) (by simp)
 have HCK := hid (q0w h a b off c _ (hG.below hB0) (hS.below hB0 (Nat.le_refl _)))
 have hel : s.es.length <= 900 := by rw [u0i h hn]; simp
 have HB0 := hid hB0; have HX0 := hid hx0; have HY0 := hid hy0
 have HCL := hid (fun (W : World) (hB : Below w.heap.size w W) => q0x (n := 0) (c := c) h hn (hG.below hB) (hS.below hB (Nat.le_refl _)))
 have HOF := hid (fun (W : World) (hB : Below w.heap.size w W) (ca : Option Addr) (cc : Nat) => x0j (c := c) h hn (hG.below hB) (hS.below hB (Nat.le_refl _)) ca cc false)
 clear hB0 hx0 hy0 hS hG h hn hel
 go_enter Tryz.func16, Tryz.ntmps16
 go_wp2_with fail
 refine HCK.out.mono ?_
 rintro e w1 ⟨rfl, hB1⟩
 have hx1 := (hB1.block w.heap.size (by simp; omega)).trans HX0.out
 have HB1 := hid (HB0.out.trans (hB1.mono (by simp; omega))); have HX1 := hid hx1
 have HY1 := hid ((hB1.block (w.heap.size + 1) (by simp)).trans HY0.out)
 obtain ⟨x0, x1, x2, x3, x4⟩ := u0g hx1
 clear hB1 hx1 HB0 HX0 HY0 HCK
 go_wp2_with fail
 refine (HCL.out _ HB1.out).mono ?_
 unfold StrClasses
 rintro e w2 ⟨inn, ca, cc, hbig, rfl, hown, hB2⟩
 have hx2 := (hB2.block w.heap.size x4).trans HX1.out
 have hb2 := HB1.out.trans (hB2.mono HB1.out.size)
 have HY2 := hid ((hB2.block (w.heap.size + 1) (Array.getElem?_eq_some_iff.1 HY1.out).1).trans HY1.out)
 have HOF2 := hid (HOF.out _ hb2 ca cc)
 have HB2 := hid hb2
 clear x0 x1 x2 x3 x4
 obtain ⟨x0, x1, x2, x3, x4⟩ := u0g hx2
 clear hB2 hx2 hb2 hown HB1 HX1 HY1 HCL HOF
 go_wp2_with fail
 refine HOF2.out.mono ?_
 unfold QuoZero
 rintro e w3 ⟨ea, ta, ec, tc, rfl, hB3⟩
 have hy3 := (hB3.block (w.heap.size + 1) (Array.getElem?_eq_some_iff.1 HY2.out).1).trans HY2.out
 have HB3 := hid (HB2.out.trans (hB3.mono HB2.out.size))
 obtain ⟨y0, y1, y2, y3, y4⟩ := u0g hy3
 have yf0 : w3.frozen? ⟨w.heap.size + 1, 0, none⟩ = false := by simp [World.frozen?, hy3]
 have yf1 : w3.frozen? ⟨w.heap.size + 1, 1, none⟩ = false := by simp [World.frozen?, hy3]
 have yf2 : w3.frozen? ⟨w.heap.size + 1, 2, none⟩ = false := by simp [World.frozen?, hy3]
 have yf3 : w3.frozen? ⟨w.heap.size + 1, 3, none⟩ = false := by simp [World.frozen?, hy3]
 clear hB3 hy3 HOF2 HY2 HB2 x0 x1 x2 x3 x4
 go_wp2_with fail
 refine bodyPost_ret (v := .tuple #[.agg #[.int .i64 0, .int .i64 s.lb, .int .i64 0, .slice ea 0 ec], .slice ta 0 tc, .nilIface]) (by simp [results, Tryz.results16, go_sem, y0, y1, y2, y3]) rfl ⟨ea, ta, ec, tc, rfl, ?_⟩
 exact (((HB3.out.setCell (by show w.heap.size <= w.heap.size + 1; omega) _).setCell (by show w.heap.size <= w.heap.size + 1; omega) _).setCell (by show w.heap.size <= w.heap.size + 1; omega) _).setCell (by show w.heap.size <= w.heap.size + 1; omega) _
theorem x1u {p : Addr} {s : Lts} (h : s.Right) (hn : s.st = 0) {a : Option Addr} {b off c : Nat} {w : World} (hG : GErr 10 p w) (hS : SlAt encE 3 w a b off s.es) :
    Calls Tryz.prog 6 #[.agg #[.int .i64 s.st, .int .i64 s.lb, .int .i64 s.s0, .slice a s.es.length c]] w (QuoZero s.lb w) := by
 have hB0 := ((Below.refl w.heap.size w).alloc (Nat.le_refl _) (Obj.cells #[.int .i64 s.st, .int .i64 s.lb, .int .i64 s.s0, .slice a s.es.length c] 24)).alloc (by simp) (Obj.cells #[.int .i64 0, .int .i64 0, .int .i64 0, .slice none 0 0] 24)
 have hy0 := j0d (w.alloc (Obj.cells #[.int .i64 s.st, .int .i64 s.lb, .int .i64 s.s0, .slice a s.es.length c] 24)) (Obj.cells #[.int .i64 0, .int .i64 0, .int .i64 0, .slice none 0 0] 24) (w.heap.size + 1) (by simp)
 have HBY := hid (j1n (c := c) h hn (hG.below hB0) (hS.below hB0 (Nat.le_refl _)))
 have HB0 := hid hB0; have HY0 := hid hy0
 clear hB0 hy0 hS hG h hn
 go_enter Tryz.func6, Tryz.ntmps6
 go_wp2_with fail
 refine HBY.out.mono ?_
 unfold QuoZero
 rintro e w3 ⟨ea, ta, ec, tc, rfl, hB3⟩
 have hy3 := (hB3.block (w.heap.size + 1) (by simp)).trans HY0.out
 have HB3 := hid (HB0.out.trans (hB3.mono (by simp; omega)))
 obtain ⟨y0, y1, y2, y3, y4⟩ := u0g hy3
 have yf0 : w3.frozen? ⟨w.heap.size + 1, 0, none⟩ = false := by simp [World.frozen?, hy3]
 have yf1 : w3.frozen? ⟨w.heap.size + 1, 1, none⟩ = false := by simp [World.frozen?, hy3]
 have yf2 : w3.frozen? ⟨w.heap.size + 1, 2, none⟩ = false := by simp [World.frozen?, hy3]
 have yf3 : w3.frozen? ⟨w.heap.size + 1, 3, none⟩ = false := by simp [World.frozen?, hy3]
 clear hB3 hy3 HBY HY0 HB0
 go_wp2_with fail
 refine bodyPost_ret (v := .tuple #[.agg #[.int .i64 0, .int .i64 s.lb, .int .i64 0, .slice ea 0 ec], .slice ta 0 tc, .nilIface]) (by simp [results, Tryz.results6, go_sem, y0, y1, y2, y3]) rfl ⟨ea, ta, ec, tc, rfl, ?_⟩
 exact (((HB3.out.setCell (by show w.heap.size <= w.heap.size + 1; omega) _).setCell (by show w.heap.size <= w.heap.size + 1; omega) _).setCell (by show w.heap.size <= w.heap.size + 1; omega) _).setCell (by show w.heap.size <= w.heap.size + 1; omega) _
theorem j1o {p : Addr} {s : Lts} (h : s.Right) (hn : s.st = 0) {a : Option Addr} {b off c : Nat} {w : World} (hG : GErr 10 p w) (htab : Lib.TabIs Tryz.prog w "internal/strconv.uint64pow10" .u64 Lib.pow10Tab) (hS : SlAt encE 3 w a b off s.es) :
    Calls Tryz.prog 16 #[.agg #[.int .i64 s.st, .int .i64 s.lb, .int .i64 s.s0, .slice a s.es.length c], .func (.func 18) #[] #[], .bool true] w (QuoZero s.lb w) := by
 have hB0 := ((Below.refl w.heap.size w).alloc (Nat.le_refl _) (Obj.cells #[.int .i64 s.st, .int .i64 s.lb, .int .i64 s.s0, .slice a s.es.length c] 24)).alloc (by simp) (Obj.cells #[.int .i64 0, .int .i64 0, .int .i64 0, .slice none 0 0] 24)
 have hx0 := (((Below.refl _ _).alloc (Nat.le_refl _) (Obj.cells #[.int .i64 0, .int .i64 0, .int .i64 0, .slice none 0 0] 24)).block w.heap.size (by simp)).trans (heap_alloc_new w (Obj.cells #[.int .i64 s.st, .int .i64 s.lb, .int .i64 s.s0, .slice a s.es.length c] 24))
 have hy0 := j0d (w.alloc (Obj.cells #[.int .i64 s.st, .int .i64 s.lb, .int .i64 s.s0, .slice a s.es.length c] 24)) (Obj.cells #[.int .i64 0, .int .i64 0, .int .i64 0, .slice none 0 0] 24) (w.heap.size + 1) (by simp)
 have HCK := hid (q0w h a b off c _ (hG.below hB0) (hS.below hB0 (Nat.le_refl _)))
 have hel : s.es.length <= 900 := by rw [u0i h hn]; simp
 have HB0 := hid hB0; have HX0 := hid hx0; have HY0 := hid hy0
 have HCL := hid (fun (W : World) (hB : Below w.heap.size w W) => x0s (n := 0) (c := c) h hn hel (hG.below hB) (Lib.tabBelow_of_tabIs htab _ hB) (hS.below hB (Nat.le_refl _)))
 have HOF := hid (fun (W : World) (hB : Below w.heap.size w W) (ca : Option Addr) (cc : Nat) => x0j (c := c) h hn (hG.below hB) (hS.below hB (Nat.le_refl _)) ca cc true)
 clear hB0 hx0 hy0 hS hG h hn hel htab
 go_enter Tryz.func16, Tryz.ntmps16
 go_wp2_with fail
 refine HCK.out.mono ?_
 rintro e w1 ⟨rfl, hB1⟩
 have hx1 := (hB1.block w.heap.size (by simp; omega)).trans HX0.out
 have HB1 := hid (HB0.out.trans (hB1.mono (by simp; omega))); have HX1 := hid hx1
 have HY1 := hid ((hB1.block (w.heap.size + 1) (by simp)).trans HY0.out)
 obtain ⟨x0, x1, x2, x3, x4⟩ := u0g hx1
 clear hB1 hx1 HB0 HX0 HY0 HCK
 go_wp2_with fail
 refine (HCL.out _ HB1.out).mono ?_
 unfold BrPost
 rintro e w2 ⟨R, ca, cb, cc, hres, rfl, hown, hos, hB2⟩
 have hx2 := (hB2.block w.heap.size x4).trans HX1.out
 have hb2 := HB1.out.trans (hB2.mono HB1.out.size)
 have HY2 := hid ((hB2.block (w.heap.size + 1) (Array.getElem?_eq_some_iff.1 HY1.out).1).trans HY1.out)
 have HOF2 := hid (HOF.out _ hb2 ca cc)
 have HB2 := hid hb2
 clear x0 x1 x2 x3 x4
 obtain ⟨x0, x1, x2, x3, x4⟩ := u0g hx2
 clear hB2 hx2 hb2 hown HB1 HX1 HY1 HCL HOF
 go_wp2_with fail
 refine HOF2.out.mono ?_
 unfold QuoZero
 rintro e w3 ⟨ea, ta, ec, tc, rfl, hB3⟩
 have hy3 := (hB3.block (w.heap.size + 1) (Array.getElem?_eq_some_iff.1 HY2.out).1).trans HY2.out
 have HB3 := hid (HB2.out.trans (hB3.mono HB2.out.size))
 obtain ⟨y0, y1, y2, y3, y4⟩ := u0g hy3
 have yf0 : w3.frozen? ⟨w.heap.size + 1, 0, none⟩ = false := by simp [World.frozen?, hy3]
 have yf1 : w3.frozen? ⟨w.heap.size + 1, 1, none⟩ = false := by simp [World.frozen?, hy3]
 have yf2 : w3.frozen? ⟨w.heap.size + 1, 2, none⟩ = false := by simp [World.frozen?, hy3]
 have yf3 : w3.frozen? ⟨w.heap.size + 1, 3, none⟩ = false := by simp [World.frozen?, hy3]
 clear hB3 hy3 HOF2 HY2 HB2 x0 x1 x2 x3 x4
 go_wp2_with fail
 refine bodyPost_ret (v := .tuple #[.agg #[.int .i64 0, .int .i64 s.lb, .int .i64 0, .slice ea 0 ec], .slice ta 0 tc, .nilIface]) (by simp [results, Tryz.results16, go_sem, y0, y1, y2, y3]) rfl ⟨ea, ta, ec, tc, rfl, ?_⟩
 exact (((HB3.out.setCell (by show w.heap.size <= w.heap.size + 1; omega) _).setCell (by show w.heap.size <= w.heap.size + 1; omega) _).setCell (by show w.heap.size <= w.heap.size + 1; omega) _).setCell (by show w.heap.size <= w.heap.size + 1; omega) _
theorem x1v {p : Addr} {s : Lts} (h : s.Right) (hn : s.st = 0) {a : Option Addr} {b off c : Nat} {w : World} (hG : GErr 10 p w) (htab : Lib.TabIs Tryz.prog w "internal/strconv.uint64pow10" .u64 Lib.pow10Tab) (hS : SlAt encE 3 w a b off s.es) :
    Calls Tryz.prog 7 #[.agg #[.int .i64 s.st, .int .i64 s.lb, .int .i64 s.s0, .slice a s.es.length c]] w (QuoZero s.lb w) := by
 have hB0 := ((Below.refl w.heap.size w).alloc (Nat.le_refl _) (Obj.cells #[.int .i64 s.st, .int .i64 s.lb, .int .i64 s.s0, .slice a s.es.length c] 24)).alloc (by simp) (Obj.cells #[.int .i64 0, .int .i64 0, .int .i64 0, .slice none 0 0] 24)
 have hy0 := j0d (w.alloc (Obj.cells #[.int .i64 s.st, .int .i64 s.lb, .int .i64 s.s0, .slice a s.es.length c] 24)) (Obj.cells #[.int .i64 0, .int .i64 0, .int .i64 0, .slice none 0 0] 24) (w.heap.size + 1) (by simp)
 have HBY := hid (j1o (c := c) h hn (hG.below hB0) (Lib.tabBelow_of_tabIs htab _ hB0) (hS.below hB0 (Nat.le_refl _)))
 have HB0 := hid hB0; have HY0 := hid hy0
 clear hB0 hy0 hS hG h hn htab
 go_enter Tryz.func7, Tryz.ntmps7
 go_wp2_with fail
 refine HBY.out.mono ?_
 unfold QuoZero
 rintro e w3 ⟨ea, ta, ec, tc, rfl, hB3⟩
 have hy3 := (hB3.block (w.heap.size + 1) (by simp)).trans HY0.out
 have HB3 := hid (HB0.out.trans (hB3.mono (by simp; omega)))
 obtain ⟨y0, y1, y2, y3, y4⟩ := u0g hy3
 have yf0 : w3.frozen? ⟨w.heap.size + 1, 0, none⟩ = false := by simp [World.frozen?, hy3]
 have yf1 : w3.frozen? ⟨w.heap.size + 1, 1, none⟩ = false := by simp [World.frozen?, hy3]
 have yf2 : w3.frozen? ⟨w.heap.size + 1, 2, none⟩ = false := by simp [World.frozen?, hy3]
 have yf3 : w3.frozen? ⟨w.heap.size + 1, 3, none⟩ = false := by simp [World.frozen?, hy3]
 clear hB3 hy3 HBY HY0 HB0
 go_wp2_with fail
 refine bodyPost_ret (v := .tuple #[.agg #[.int .i64 0, .int .i64 s.lb, .int .i64 0, .slice ea 0 ec], .slice ta 0 tc, .nilIface]) (by simp [results, Tryz.results7, go_sem, y0, y1, y2, y3]) rfl ⟨ea, ta, ec, tc, rfl, ?_⟩
 exact (((HB3.out.setCell (by show w.heap.size <= w.heap.size + 1; omega) _).setCell (by show w.heap.size <= w.heap.size + 1; omega) _).setCell (by show w.heap.size <= w.heap.size + 1; omega) _).setCell (by show w.heap.size <= w.heap.size + 1; omega) _
end Go.Proofs.YtjchdegapadepaaGreatDoor
namespace Go.Proofs.YtjchdegapadepaaGreatDoor
open Go.RowKit Pl
def Q3 (φ : Lts -> List Int -> Value -> Prop) (w : World) (e : Ending) (w' : World) : Prop :=
  ∃ (Q : Lts) (T : List Int) (ev : Value) (ea ta : Option Addr) (eb ec tb tc : Nat), e = .returned (.tuple #[.agg #[.int .i64 Q.st, .int .i64 Q.lb, .int .i64 Q.s0, .slice ea Q.es.length ec], .slice ta T.length tc, ev]) /\ φ Q T ev /\ SlAt encE 3 w' ea eb 0 Q.es /\ SlAt encI 1 w' ta tb 0 T /\ (0 < Q.es.length -> w.heap.size <= eb) /\ (0 < T.length -> w.heap.size <= tb) /\ Below w.heap.size w w'
def phiYes (kind : Bool) (s : Lts) (n : Nat) (Q : Lts) (T : List Int) (ev : Value) : Prop :=
  ∃ C : Nat -> Int, KBig kind s n C /\ Q = quoSI (!kind) s.norm (fl n C) /\ T = fl n (fun j => toI (quoD s.norm (fl n C)) (C j)) /\ ev = .nilIface
def phiZero (s : Lts) (Q : Lts) (T : List Int) (ev : Value) : Prop := Q = ⟨0, s.lb, 0, []⟩ /\ T = [] /\ ev = .nilIface
def phiNo (Q : Lts) (T : List Int) (ev : Value) : Prop := Q = ⟨0, 0, 0, []⟩ /\ T = [] /\ ∃ fb : Nat, ev = .iface 48 (.pointer (some ⟨fb, 0, none⟩))
end Go.Proofs.YtjchdegapadepaaGreatDoor
namespace Go.Proofs.YtjchdegapadepaaGreatDoor
open Go.RowKit Pl
open Lib (hid)
def FaultQ (w : World) (p : Addr) (v : Value) : Prop :=
  ∃ vi, FaultAt w v quoName vi /\ FaultAt w vi sysName (.iface 247 (.pointer (some p)))
theorem FaultQ.below {w w' : World} {p : Addr} {v : Value} (h : FaultQ w p v) (hB : Below w.heap.size w w') : FaultQ w' p v := by
 obtain ⟨vi, h1, h2⟩ := h
 exact ⟨vi, h1.below hB, h2.below hB⟩
theorem y0s {w : World} {v : Value} {l : ByteArray} {i : Value} {k : Nat} {cs : Array Value} (h : FaultAt w v l i) (hk : w.heap[k]? = some (.cells cs 24 (0, 0))) (x0 x1 x2 x3 : Value) : FaultAt ((((w.setCell ⟨k, 0, none⟩ x0).setCell ⟨k, 1, none⟩ x1).setCell ⟨k, 2, none⟩ x2).setCell ⟨k, 3, none⟩ x3) v l i := by
 obtain ⟨b, rfl, hb⟩ := h.ex
 have hne : b ≠ k := fun e => by rw [e, hk] at hb; simp at hb
 exact ⟨b, rfl, by rw [Below.heap_setCell _ _ _ _ hne, Below.heap_setCell _ _ _ _ hne, Below.heap_setCell _ _ _ _ hne, Below.heap_setCell _ _ _ _ hne]; exact hb⟩
theorem FaultQ.sets {w : World} {p : Addr} {v : Value} {k : Nat} {cs : Array Value} (h : FaultQ w p v) (hk : w.heap[k]? = some (.cells cs 24 (0, 0))) (x0 x1 x2 x3 : Value) : FaultQ ((((w.setCell ⟨k, 0, none⟩ x0).setCell ⟨k, 1, none⟩ x1).setCell ⟨k, 2, none⟩ x2).setCell ⟨k, 3, none⟩ x3) p v := by
 obtain ⟨vi, h1, h2⟩ := h
 exact ⟨vi, y0s h1 hk x0 x1 x2 x3, y0s h2 hk x0 x1 x2 x3⟩
def QuoNoF (p : Addr) (w : World) (e : Ending) (w' : World) : Prop :=
  ∃ fb : Nat, e = .returned (.tuple #[.agg #[.int .i64 0, .int .i64 0, .int .i64 0, .slice none 0 0], .slice none 0 0, .iface 48 (.pointer (some ⟨fb, 0, none⟩))]) /\ FaultQ w' p (.iface 48 (.pointer (some ⟨fb, 0, none⟩))) /\ Below w.heap.size w w'
theorem j1p {p : Addr} {s : Lts} (h : ¬ s.Right) {a : Option Addr} {b off c : Nat} {w : World} {kind : Value} (hG : GErr 10 p w) (hT : ErrType w) (hS : SlAt encE 3 w a b off s.es) :
    Calls Tryz.prog 16 #[.agg #[.int .i64 s.st, .int .i64 s.lb, .int .i64 s.s0, .slice a s.es.length c], kind, .bool false] w (QuoNoF p w) := by
 have hB0 := ((Below.refl w.heap.size w).alloc (Nat.le_refl _) (Obj.cells #[.int .i64 s.st, .int .i64 s.lb, .int .i64 s.s0, .slice a s.es.length c] 24)).alloc (by simp) (Obj.cells #[.int .i64 0, .int .i64 0, .int .i64 0, .slice none 0 0] 24)
 have hy0 := j0d (w.alloc (Obj.cells #[.int .i64 s.st, .int .i64 s.lb, .int .i64 s.s0, .slice a s.es.length c] 24)) (Obj.cells #[.int .i64 0, .int .i64 0, .int .i64 0, .slice none 0 0] 24) (w.heap.size + 1) (by simp)
 have HCK := hid (v1h h a b off c _ (hG.below hB0) (hS.below hB0 (Nat.le_refl _)))
 have HB0 := hid hB0; have HY0 := hid hy0; have HT := hid hT
 clear hB0 hy0 hS hG hT h
 go_enter Tryz.func16, Tryz.ntmps16
 go_wp2_with fail
 refine HCK.out.mono ?_
 rintro e w1 ⟨v, rfl, hF, hB1⟩
 have HF := hid hF
 obtain ⟨fb, rfl, hfb⟩ := hF.ex
 have HB1 := hid (HB0.out.trans (hB1.mono (by simp; omega)))
 have HA := hid (v0i quoName (HT.out.below HB1.out) hfb)
 have HY1 := hid ((hB1.block (w.heap.size + 1) (by simp)).trans HY0.out)
 clear hB1 hfb hF HY0 HB0 HCK
 unfold quoName at HA
 go_wp2_with fail
 refine HA.out.mono ?_
 rintro e w2 ⟨v, rfl, hF2, hB2⟩
 have HFQ : Hid (FaultQ w2 p v) := hid ⟨_, hF2, HF.out.below hB2⟩
 obtain ⟨fb, rfl, hfb⟩ := hF2.ex
 have HB2 := hid (HB1.out.trans (hB2.mono HB1.out.size))
 have hy2 := (hB2.block (w.heap.size + 1) (Array.getElem?_eq_some_iff.1 HY1.out).1).trans HY1.out
 obtain ⟨y0, y1, y2, y3, y4⟩ := u0g hy2
 have yf0 : w2.frozen? ⟨w.heap.size + 1, 0, none⟩ = false := by simp [World.frozen?, hy2]
 have yf1 : w2.frozen? ⟨w.heap.size + 1, 1, none⟩ = false := by simp [World.frozen?, hy2]
 have yf2 : w2.frozen? ⟨w.heap.size + 1, 2, none⟩ = false := by simp [World.frozen?, hy2]
 have yf3 : w2.frozen? ⟨w.heap.size + 1, 3, none⟩ = false := by simp [World.frozen?, hy2]
 have HFS := hid (fun x0 x1 x2 x3 => HFQ.out.sets hy2 x0 x1 x2 x3)
 clear hF2 hfb hB2 hy2 HY1 HB1 HA HFQ HF
 go_wp2_with fail
 refine bodyPost_ret (v := .tuple #[.agg #[.int .i64 0, .int .i64 0, .int .i64 0, .slice none 0 0], .slice none 0 0, .iface 48 (.pointer (some ⟨fb, 0, none⟩))]) (by simp [results, Tryz.results16, go_sem, y0, y1, y2, y3]) rfl ⟨fb, rfl, HFS.out _ _ _ _, ?_⟩
 exact (((HB2.out.setCell (by show w.heap.size <= w.heap.size + 1; omega) _).setCell (by show w.heap.size <= w.heap.size + 1; omega) _).setCell (by show w.heap.size <= w.heap.size + 1; omega) _).setCell (by show w.heap.size <= w.heap.size + 1; omega) _
theorem j1q {p : Addr} {s : Lts} (h : ¬ s.Right) {a : Option Addr} {b off c : Nat} {w : World} {kind : Value} (hG : GErr 10 p w) (hT : ErrType w) (hS : SlAt encE 3 w a b off s.es) :
    Calls Tryz.prog 16 #[.agg #[.int .i64 s.st, .int .i64 s.lb, .int .i64 s.s0, .slice a s.es.length c], kind, .bool true] w (QuoNoF p w) := by
 have hB0 := ((Below.refl w.heap.size w).alloc (Nat.le_refl _) (Obj.cells #[.int .i64 s.st, .int .i64 s.lb, .int .i64 s.s0, .slice a s.es.length c] 24)).alloc (by simp) (Obj.cells #[.int .i64 0, .int .i64 0, .int .i64 0, .slice none 0 0] 24)
 have hy0 := j0d (w.alloc (Obj.cells #[.int .i64 s.st, .int .i64 s.lb, .int .i64 s.s0, .slice a s.es.length c] 24)) (Obj.cells #[.int .i64 0, .int .i64 0, .int .i64 0, .slice none 0 0] 24) (w.heap.size + 1) (by simp)
 have HCK := hid (v1h h a b off c _ (hG.below hB0) (hS.below hB0 (Nat.le_refl _)))
 have HB0 := hid hB0; have HY0 := hid hy0; have HT := hid hT
 clear hB0 hy0 hS hG hT h
 go_enter Tryz.func16, Tryz.ntmps16
 go_wp2_with fail
 refine HCK.out.mono ?_
 rintro e w1 ⟨v, rfl, hF, hB1⟩
 have HF := hid hF
 obtain ⟨fb, rfl, hfb⟩ := hF.ex
 have HB1 := hid (HB0.out.trans (hB1.mono (by simp; omega)))
 have HA := hid (v0i quoName (HT.out.below HB1.out) hfb)
 have HY1 := hid ((hB1.block (w.heap.size + 1) (by simp)).trans HY0.out)
 clear hB1 hfb hF HY0 HB0 HCK
 unfold quoName at HA
 go_wp2_with fail
 refine HA.out.mono ?_
 rintro e w2 ⟨v, rfl, hF2, hB2⟩
 have HFQ : Hid (FaultQ w2 p v) := hid ⟨_, hF2, HF.out.below hB2⟩
 obtain ⟨fb, rfl, hfb⟩ := hF2.ex
 have HB2 := hid (HB1.out.trans (hB2.mono HB1.out.size))
 have hy2 := (hB2.block (w.heap.size + 1) (Array.getElem?_eq_some_iff.1 HY1.out).1).trans HY1.out
 obtain ⟨y0, y1, y2, y3, y4⟩ := u0g hy2
 have yf0 : w2.frozen? ⟨w.heap.size + 1, 0, none⟩ = false := by simp [World.frozen?, hy2]
 have yf1 : w2.frozen? ⟨w.heap.size + 1, 1, none⟩ = false := by simp [World.frozen?, hy2]
 have yf2 : w2.frozen? ⟨w.heap.size + 1, 2, none⟩ = false := by simp [World.frozen?, hy2]
 have yf3 : w2.frozen? ⟨w.heap.size + 1, 3, none⟩ = false := by simp [World.frozen?, hy2]
 have HFS := hid (fun x0 x1 x2 x3 => HFQ.out.sets hy2 x0 x1 x2 x3)
 clear hF2 hfb hB2 hy2 HY1 HB1 HA HFQ HF
 go_wp2_with fail
 refine bodyPost_ret (v := .tuple #[.agg #[.int .i64 0, .int .i64 0, .int .i64 0, .slice none 0 0], .slice none 0 0, .iface 48 (.pointer (some ⟨fb, 0, none⟩))]) (by simp [results, Tryz.results16, go_sem, y0, y1, y2, y3]) rfl ⟨fb, rfl, HFS.out _ _ _ _, ?_⟩
 exact (((HB2.out.setCell (by show w.heap.size <= w.heap.size + 1; omega) _).setCell (by show w.heap.size <= w.heap.size + 1; omega) _).setCell (by show w.heap.size <= w.heap.size + 1; omega) _).setCell (by show w.heap.size <= w.heap.size + 1; omega) _
theorem y0v {p : Addr} {s : Lts} (h : ¬ s.Right) {a : Option Addr} {b off c : Nat} {w : World} (hG : GErr 10 p w) (hT : ErrType w) (hS : SlAt encE 3 w a b off s.es) :
    Calls Tryz.prog 6 #[.agg #[.int .i64 s.st, .int .i64 s.lb, .int .i64 s.s0, .slice a s.es.length c]] w (QuoNoF p w) := by
 have hB0 := ((Below.refl w.heap.size w).alloc (Nat.le_refl _) (Obj.cells #[.int .i64 s.st, .int .i64 s.lb, .int .i64 s.s0, .slice a s.es.length c] 24)).alloc (by simp) (Obj.cells #[.int .i64 0, .int .i64 0, .int .i64 0, .slice none 0 0] 24)
 have hy0 := j0d (w.alloc (Obj.cells #[.int .i64 s.st, .int .i64 s.lb, .int .i64 s.s0, .slice a s.es.length c] 24)) (Obj.cells #[.int .i64 0, .int .i64 0, .int .i64 0, .slice none 0 0] 24) (w.heap.size + 1) (by simp)
 have HBY := hid (j1p (c := c) (kind := .func (.func 17) #[] #[]) h (hG.below hB0) (hT.below hB0) (hS.below hB0 (Nat.le_refl _)))
 have HB0 := hid hB0; have HY0 := hid hy0
 clear hB0 hy0 hS hG hT h
 go_enter Tryz.func6, Tryz.ntmps6
 go_wp2_with fail
 refine HBY.out.mono ?_
 rintro e w2 ⟨fb, rfl, hFQ, hB2⟩
 have HB2 := hid (HB0.out.trans (hB2.mono (by simp; omega)))
 have hy2 := (hB2.block (w.heap.size + 1) (by simp)).trans HY0.out
 obtain ⟨y0, y1, y2, y3, y4⟩ := u0g hy2
 have yf0 : w2.frozen? ⟨w.heap.size + 1, 0, none⟩ = false := by simp [World.frozen?, hy2]
 have yf1 : w2.frozen? ⟨w.heap.size + 1, 1, none⟩ = false := by simp [World.frozen?, hy2]
 have yf2 : w2.frozen? ⟨w.heap.size + 1, 2, none⟩ = false := by simp [World.frozen?, hy2]
 have yf3 : w2.frozen? ⟨w.heap.size + 1, 3, none⟩ = false := by simp [World.frozen?, hy2]
 have HFS := hid (fun x0 x1 x2 x3 => hFQ.sets hy2 x0 x1 x2 x3)
 clear hB2 hy2 HY0 HB0 HBY hFQ
 go_wp2_with fail
 refine bodyPost_ret (v := .tuple #[.agg #[.int .i64 0, .int .i64 0, .int .i64 0, .slice none 0 0], .slice none 0 0, .iface 48 (.pointer (some ⟨fb, 0, none⟩))]) (by simp [results, Tryz.results6, go_sem, y0, y1, y2, y3]) rfl ⟨fb, rfl, HFS.out _ _ _ _, ?_⟩
 exact (((HB2.out.setCell (by show w.heap.size <= w.heap.size + 1; omega) _).setCell (by show w.heap.size <= w.heap.size + 1; omega) _).setCell (by show w.heap.size <= w.heap.size + 1; omega) _).setCell (by show w.heap.size <= w.heap.size + 1; omega) _
theorem x0c {p : Addr} {s : Lts} (h : ¬ s.Right) {a : Option Addr} {b off c : Nat} {w : World} (hG : GErr 10 p w) (hT : ErrType w) (hS : SlAt encE 3 w a b off s.es) :
    Calls Tryz.prog 7 #[.agg #[.int .i64 s.st, .int .i64 s.lb, .int .i64 s.s0, .slice a s.es.length c]] w (QuoNoF p w) := by
 have hB0 := ((Below.refl w.heap.size w).alloc (Nat.le_refl _) (Obj.cells #[.int .i64 s.st, .int .i64 s.lb, .int .i64 s.s0, .slice a s.es.length c] 24)).alloc (by simp) (Obj.cells #[.int .i64 0, .int .i64 0, .int .i64 0, .slice none 0 0] 24)
 have hy0 := j0d (w.alloc (Obj.cells #[.int .i64 s.st, .int .i64 s.lb, .int .i64 s.s0, .slice a s.es.length c] 24)) (Obj.cells #[.int .i64 0, .int .i64 0, .int .i64 0, .slice none 0 0] 24) (w.heap.size + 1) (by simp)
 have HBY := hid (j1q (c := c) (kind := .func (.func 18) #[] #[]) h (hG.below hB0) (hT.below hB0) (hS.below hB0 (Nat.le_refl _)))
 have HB0 := hid hB0; have HY0 := hid hy0
 clear hB0 hy0 hS hG hT h
 go_enter Tryz.func7, Tryz.ntmps7
 go_wp2_with fail
 refine HBY.out.mono ?_
 rintro e w2 ⟨fb, rfl, hFQ, hB2⟩
 have HB2 := hid (HB0.out.trans (hB2.mono (by simp; omega)))
 have hy2 := (hB2.block (w.heap.size + 1) (by simp)).trans HY0.out
 obtain ⟨y0, y1, y2, y3, y4⟩ := u0g hy2
 have yf0 : w2.frozen? ⟨w.heap.size + 1, 0, none⟩ = false := by simp [World.frozen?, hy2]
 have yf1 : w2.frozen? ⟨w.heap.size + 1, 1, none⟩ = false := by simp [World.frozen?, hy2]
 have yf2 : w2.frozen? ⟨w.heap.size + 1, 2, none⟩ = false := by simp [World.frozen?, hy2]
 have yf3 : w2.frozen? ⟨w.heap.size + 1, 3, none⟩ = false := by simp [World.frozen?, hy2]
 have HFS := hid (fun x0 x1 x2 x3 => hFQ.sets hy2 x0 x1 x2 x3)
 clear hB2 hy2 HY0 HB0 HBY hFQ
 go_wp2_with fail
 refine bodyPost_ret (v := .tuple #[.agg #[.int .i64 0, .int .i64 0, .int .i64 0, .slice none 0 0], .slice none 0 0, .iface 48 (.pointer (some ⟨fb, 0, none⟩))]) (by simp [results, Tryz.results7, go_sem, y0, y1, y2, y3]) rfl ⟨fb, rfl, HFS.out _ _ _ _, ?_⟩
 exact (((HB2.out.setCell (by show w.heap.size <= w.heap.size + 1; omega) _).setCell (by show w.heap.size <= w.heap.size + 1; omega) _).setCell (by show w.heap.size <= w.heap.size + 1; omega) _).setCell (by show w.heap.size <= w.heap.size + 1; omega) _
end Go.Proofs.YtjchdegapadepaaGreatDoor

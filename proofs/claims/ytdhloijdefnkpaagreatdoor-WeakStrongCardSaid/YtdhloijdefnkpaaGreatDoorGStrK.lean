/-
  strong.newPlay and Refine of a system without states, and of none; strong.Classes.
  strong.Classes.
  The classes that strong.Classes tells, as a function (LawRel and Alive9 hold the same under the same names: never import both).
  semblancebook.SameEdges, SameSystem.
  law13.WeakStrong.
-/
import Derived.Test.YtdhloijdefnkpaaGreatDoorGStrH
import Derived.Test.YtdhloijdefnkpaaGreatDoorGTauH
import Derived.Test.YtdhloijdefnkpaaGreatDoorGFault
import Derived.Test.YtdhloijdefnkpaaGreatDoorGGraphC
import Derived.Test.YtdhloijdefnkpaaGreatDoorGKeyE
import Derived.Test.YtdhloijdefnkpaaGreatDoorGPl9
import Derived.Deep.RegionHeld3
import Derived.Deep.Cut
import Derived.Deep.CutRange
import Derived.Deep.QuietTactic
import Derived.BigQuiet
import Derived.IntWalk
import Derived.Deep.DeepMust
import Derived.Test.YtdhloijdefnkpaaGreatDoorAlive13
import Derived.Test.YtdhloijdefnkpaaGreatDoorGWkL
namespace Go.Proofs.YtdhloijdefnkpaaGreatDoor
open Go.RowKit Pl

/-- A run of a system without states. -/
def PlayZ (w : World) (xb gb : Nat) : Prop := ∃ pb hb qb, w.heap[xb]? = some (.cells #[.pointer (some ⟨gb, 0, none⟩), .pointer (some ⟨pb, 0, none⟩), .slice (some ⟨hb, 0, none⟩) 0 0, .slice none 0 0, .slice none 0 0, .slice none 0 0, .slice (some ⟨qb, 0, none⟩) 0 0] 159 (0, 0)) ∧ ParZ w pb

set_option maxRecDepth 100000 in
set_option maxHeartbeats 2000000 in
theorem newPlayZero_any {p : Addr} {s : Lts} (h : s.Right) (hn : s.st = 0) {a : Option Addr} {b off c : Nat} {w : World} (hG : GErr 1 p w) (hS : SlAt encE 3 w a b off s.es) :
    Calls Tryz.prog 98 #[.agg #[.int .i64 s.st, .int .i64 s.lb, .int .i64 s.s0, .slice a s.es.length c]] w fun e w' => ∃ xb gb, e = .returned (.tuple #[.pointer (some ⟨xb, 0, none⟩), .nilIface]) ∧ PlayZ w' xb gb ∧ GraphAt w' gb s.norm ∧ Below w.heap.size w w' := by
  have hB0 := (Below.refl w.heap.size w).alloc (Nat.le_refl _) (Obj.cells #[.int .i64 s.st, .int .i64 s.lb, .int .i64 s.s0, .slice a s.es.length c] 24)
  have hN := new_ok (c := c) h (hG.below hB0) (hS.below hB0 (Nat.le_refl _))
  have hmk : ∀ w, (Instr.makeSlice 33 (.int .i64 0) (.int .i64 0)).run Tryz.prog w = .ok (.slice (some ⟨w.heap.size, 0, none⟩) 0 0) (w.alloc (.cells #[] 3)) := fun _ => by kernel_rfl
  have HN := Lib.hid hN; have HB0 := Lib.hid hB0
  have HNM : RowKit.Hid (s.norm.st = 0) := Lib.hid hn
  clear hN hB0 hS hG h hn
  go_enter Tryz.func98, Tryz.ntmps98
  go_wp2_with fail
  refine HN.out.mono ?_
  rintro e w0 ⟨gb, rfl, hGr, hB1, _⟩
  have HGR := Lib.hid hGr
  have HW0 := Lib.hid (HB0.out.trans (hB1.mono (by simp)))
  have hs1 := getStates_any hGr
  rw [HNM.out] at hs1
  have HS1 := Lib.hid hs1
  clear hGr hB1 hs1 HN HB0
  go_wp2_with fail
  refine HS1.out.mono ?_
  rintro e w1 ⟨rfl, hB1⟩
  have hx1 := heap_alloc_at (w1.alloc (.cells #[] 3)) (.cells #[.pointer (some ⟨gb, 0, none⟩), .pointer none, .slice (some ⟨w1.heap.size, 0, none⟩) 0 0, .slice none 0 0, .slice none 0 0, .slice none 0 0, .slice none 0 0] 159) (w1.heap.size + 1) (by simp)
  have hB2 := (hB1.alloc hB1.size (.cells #[] 3)).alloc (by have := hB1.size; simp; omega) (.cells #[.pointer (some ⟨gb, 0, none⟩), .pointer none, .slice (some ⟨w1.heap.size, 0, none⟩) 0 0, .slice none 0 0, .slice none 0 0, .slice none 0 0, .slice none 0 0] 159)
  have hlo : w0.heap.size ≤ w1.heap.size + 1 := by have := hB1.size; omega
  go_upto_region 5 with fail
  obtain ⟨V, hV⟩ : ∃ V, V = (w1.alloc (.cells #[] 3)).alloc (.cells #[.pointer (some ⟨gb, 0, none⟩), .pointer none, .slice (some ⟨w1.heap.size, 0, none⟩) 0 0, .slice none 0 0, .slice none 0 0, .slice none 0 0, .slice none 0 0] 159) := ⟨_, rfl⟩
  obtain ⟨hb, hhb⟩ : ∃ hb, hb = w1.heap.size := ⟨_, rfl⟩
  obtain ⟨xb, hxb⟩ : ∃ xb, xb = w1.heap.size + 1 := ⟨_, rfl⟩
  rw [← hV] at hx1 hB2 ⊢
  rw [← hxb] at hx1 hlo ⊢
  rw [← hhb] at hx1
  have HX1 := Lib.hid hx1; have HB2 := Lib.hid hB2
  have hs2 := getStates_any (HGR.out.below hB2)
  rw [HNM.out] at hs2
  have HS2 := Lib.hid hs2
  clear hV hhb hxb hx1 hB1 hB2 hs2 HS1
  go_wp2_with fail
  refine HS2.out.mono ?_
  rintro e w2 ⟨rfl, hB3⟩
  have HX2 := Lib.hid ((hB3.block xb (Array.getElem?_eq_some_iff.1 HX1.out).1).trans HX1.out)
  have HB3 := Lib.hid (HB2.out.trans (hB3.mono HB2.out.size))
  clear hB3 HS2 HX1 HB2
  go_wp2_with fail
  refine (parNew_zero w2).mono ?_
  rintro e w3 ⟨pb, rfl, hpz, hB4, hpl⟩
  have hx3 := (hB4.block xb (Array.getElem?_eq_some_iff.1 HX2.out).1).trans HX2.out
  have x1 : w3.cell? ⟨xb, 1, none⟩ = some (.pointer none) := by simp [World.cell?, hx3]
  have xf : w3.frozen? ⟨xb, 1, none⟩ = false := by simp [World.frozen?, hx3]
  have xl := (Array.getElem?_eq_some_iff.1 hx3).1
  have hx4 := heap_setCell_same w3 xb 1 _ _ (.pointer (some ⟨pb, 0, none⟩)) hx3
  have hxlt := (Array.getElem?_eq_some_iff.1 HX2.out).1
  have hpz4 : ParZ (w3.setCell ⟨xb, 1, none⟩ (.pointer (some ⟨pb, 0, none⟩))) pb := by
    obtain ⟨qb, bb, ia, ic, h⟩ := hpz
    exact ⟨qb, bb, ia, ic, by rw [Below.heap_setCell _ _ _ _ (show pb ≠ xb by omega)]; exact h⟩
  have hB5 := (HB3.out.trans (hB4.mono HB3.out.size)).setCell (p := ⟨xb, 1, none⟩) hlo (.pointer (some ⟨pb, 0, none⟩))
  go_upto_region 6 with fail
  obtain ⟨Y, hY⟩ : ∃ Y, Y = w3.setCell ⟨xb, 1, none⟩ (.pointer (some ⟨pb, 0, none⟩)) := ⟨_, rfl⟩
  rw [← hY] at hx4 hpz4 hB5 ⊢
  have HX4 := Lib.hid hx4; have HPZ := Lib.hid hpz4; have HB5 := Lib.hid hB5
  have hs3 := getStates_any (HGR.out.below hB5)
  rw [HNM.out] at hs3
  have HS3 := Lib.hid hs3
  clear hY x1 xf xl hx3 hx4 hpz hpz4 hB4 hB5 hs3 HX2 HB3 hxlt hpl
  go_wp2_with fail
  refine HS3.out.mono ?_
  rintro e w5 ⟨rfl, hB6⟩
  have hx5 := (hB6.block xb (Array.getElem?_eq_some_iff.1 HX4.out).1).trans HX4.out
  have x6 : w5.cell? ⟨xb, 6, none⟩ = some (.slice none 0 0) := by simp [World.cell?, hx5]
  have xf : w5.frozen? ⟨xb, 6, none⟩ = false := by simp [World.frozen?, hx5]
  have xl := (Array.getElem?_eq_some_iff.1 hx5).1
  have hx6 := heap_setCell_same w5 xb 6 _ _ (.slice (some ⟨w5.heap.size, 0, none⟩) 0 0) hx5
  have hx7 := (Below.heap_alloc (w5.setCell ⟨xb, 6, none⟩ (.slice (some ⟨w5.heap.size, 0, none⟩) 0 0)) (.cells #[] 3) xb (by rw [size_setCell]; exact xl)).trans hx6
  have hpz5 := HPZ.out.below hB6
  have hpz7 : ParZ ((w5.setCell ⟨xb, 6, none⟩ (.slice (some ⟨w5.heap.size, 0, none⟩) 0 0)).alloc (.cells #[] 3)) pb := by
    obtain ⟨qb, bb, ia, ic, h⟩ := hpz5
    refine ⟨qb, bb, ia, ic, ?_⟩
    have hne : pb ≠ xb := fun e => by
      rw [e, hx5] at h
      injection h with h; injection h with _ h; exact absurd h (by decide)
    rw [Below.heap_alloc _ _ _ (by rw [size_setCell]; exact (Array.getElem?_eq_some_iff.1 h).1), Below.heap_setCell _ _ _ _ (show pb ≠ xb from hne)]
    exact h
  have hB7 := ((HB5.out.trans (hB6.mono HB5.out.size)).setCell (p := ⟨xb, 6, none⟩) hlo (.slice (some ⟨w5.heap.size, 0, none⟩) 0 0)).alloc (by rw [size_setCell]; have := HB5.out.size; have := hB6.size; omega) (.cells #[] 3)
  have hgr7 := HGR.out.below hB7
  have HFIN : RowKit.Hid (PlayZ ((w5.setCell ⟨xb, 6, none⟩ (.slice (some ⟨w5.heap.size, 0, none⟩) 0 0)).alloc (.cells #[] 3)) xb gb) := Lib.hid ⟨pb, hb, w5.heap.size, hx7, hpz7⟩
  have HB7 := Lib.hid (HW0.out.trans (hB7.mono HW0.out.size)); have HGR7 := Lib.hid hgr7
  clear hx5 hx6 hx7 hpz5 hpz7 hB6 hB7 hgr7 HS3 HX4 HPZ HB5
  go_wp2_with fail
  go_ret2
  exact ⟨xb, gb, rfl, HFIN.out, HGR7.out, HB7.out⟩

/-- An empty run. -/
def runZ : Value := .agg #[.slice none 0 0, .slice none 0 0, .slice none 0 0]

set_option maxRecDepth 100000 in
set_option maxHeartbeats 2000000 in
theorem refineZero_any {p : Addr} {s : Lts} (h : s.Right) (hn : s.st = 0) {a : Option Addr} {b off c : Nat} {w : World} (hG : GErr 1 p w) (hS : SlAt encE 3 w a b off s.es) :
    Calls Tryz.prog 51 #[.agg #[.int .i64 s.st, .int .i64 s.lb, .int .i64 s.s0, .slice a s.es.length c]] w fun e w' => e = .returned (.tuple #[runZ, .nilIface]) ∧ Below w.heap.size w w' := by
  have hB0 := ((Below.refl w.heap.size w).alloc (Nat.le_refl _) (Obj.cells #[.int .i64 s.st, .int .i64 s.lb, .int .i64 s.s0, .slice a s.es.length c] 24)).alloc (by simp) (Obj.cells #[.slice none 0 0, .slice none 0 0, .slice none 0 0] 93)
  have hrb := heap_alloc_at (w.alloc (Obj.cells #[.int .i64 s.st, .int .i64 s.lb, .int .i64 s.s0, .slice a s.es.length c] 24)) (Obj.cells #[.slice none 0 0, .slice none 0 0, .slice none 0 0] 93) (w.heap.size + 1) (by simp)
  have hN := newPlayZero_any (c := c) h hn (hG.below hB0) (hS.below hB0 (Nat.le_refl _))
  have HN := Lib.hid hN; have HB0 := Lib.hid hB0; have HRB := Lib.hid hrb
  have HNM : RowKit.Hid (s.norm.st = 0) := Lib.hid hn
  clear hN hB0 hS hG h hrb hn
  go_enter Tryz.func51, Tryz.ntmps51
  go_wp2_with fail
  refine HN.out.mono ?_
  rintro e w1 ⟨xb, gb, rfl, hpz, hgr, hB1⟩
  have hb1 := (hB1.block (w.heap.size + 1) (by simp)).trans HRB.out
  obtain ⟨pb, hb, qb, hx, _⟩ := hpz
  have x0 : w1.cell? ⟨xb, 0, none⟩ = some (.pointer (some ⟨gb, 0, none⟩)) := by simp [World.cell?, hx]
  have xl := (Array.getElem?_eq_some_iff.1 hx).1
  have hst := getStates_any hgr
  rw [HNM.out] at hst
  have HST := Lib.hid hst; have HB1 := Lib.hid (HB0.out.trans (hB1.mono (by simp; omega))); have HRB1 := Lib.hid hb1
  clear hb1 hx hst hB1 hgr HN HB0 HRB
  go_wp2_with fail
  refine HST.out.mono ?_
  rintro e w2 ⟨rfl, hB2⟩
  have hb2 := (hB2.block (w.heap.size + 1) (Array.getElem?_eq_some_iff.1 HRB1.out).1).trans HRB1.out
  obtain ⟨rb, hrb⟩ : ∃ rb, rb = w.heap.size + 1 := ⟨_, rfl⟩
  have hrbg : w.heap.size ≤ rb := by omega
  rw [← hrb] at hb2 ⊢
  have r0 : w2.cell? ⟨rb, 0, none⟩ = some (.slice none 0 0) := by simp [World.cell?, hb2]
  have r1 : w2.cell? ⟨rb, 1, none⟩ = some (.slice none 0 0) := by simp [World.cell?, hb2]
  have r2 : w2.cell? ⟨rb, 2, none⟩ = some (.slice none 0 0) := by simp [World.cell?, hb2]
  have rf0 : w2.frozen? ⟨rb, 0, none⟩ = false := by simp [World.frozen?, hb2]
  have rf1 : w2.frozen? ⟨rb, 1, none⟩ = false := by simp [World.frozen?, hb2]
  have rf2 : w2.frozen? ⟨rb, 2, none⟩ = false := by simp [World.frozen?, hb2]
  have rl := (Array.getElem?_eq_some_iff.1 hb2).1
  have hz3 := Lib.hid ((((HB1.out.trans (hB2.mono HB1.out.size)).setCell (p := ⟨rb, 0, none⟩) hrbg (.slice none 0 0)).setCell (p := ⟨rb, 1, none⟩) hrbg (.slice none 0 0)).setCell (p := ⟨rb, 2, none⟩) hrbg (.slice none 0 0))
  clear hb2 hrb hB2 HST HRB1 x0 xl
  go_wp2_with fail
  refine bodyPost_ret (v := .tuple #[runZ, .nilIface]) (by simp [results, Tryz.results51, go_sem, r0, r1, r2, runZ]) rfl ?_
  exact ⟨rfl, hz3.out⟩

set_option maxRecDepth 100000 in
set_option maxHeartbeats 2000000 in
theorem refineNo_any {p : Addr} {s : Lts} (h : ¬ s.Right) {a : Option Addr} {b off c : Nat} {w : World} (hG : GErr 1 p w) (hT : ErrType w) (hS : SlAt encE 3 w a b off s.es) :
    Calls Tryz.prog 51 #[.agg #[.int .i64 s.st, .int .i64 s.lb, .int .i64 s.s0, .slice a s.es.length c]] w fun e w' => ∃ v, e = .returned (.tuple #[runZ, v]) ∧ FaultS w' p v ∧ Below w.heap.size w w' := by
  have hB0 := ((Below.refl w.heap.size w).alloc (Nat.le_refl _) (Obj.cells #[.int .i64 s.st, .int .i64 s.lb, .int .i64 s.s0, .slice a s.es.length c] 24)).alloc (by simp) (Obj.cells #[.slice none 0 0, .slice none 0 0, .slice none 0 0] 93)
  have hrb := heap_alloc_at (w.alloc (Obj.cells #[.int .i64 s.st, .int .i64 s.lb, .int .i64 s.s0, .slice a s.es.length c] 24)) (Obj.cells #[.slice none 0 0, .slice none 0 0, .slice none 0 0] 93) (w.heap.size + 1) (by simp)
  have hN := newPlayNo_any (c := c) h (hG.below hB0) (hT.below hB0) (hS.below hB0 (Nat.le_refl _))
  have HN := Lib.hid hN; have HB0 := Lib.hid hB0; have HRB := Lib.hid hrb
  clear hN hB0 hS hG hT h hrb
  go_enter Tryz.func51, Tryz.ntmps51
  go_wp2_with fail
  refine HN.out.mono ?_
  rintro e w2 ⟨v, rfl, hf, hB1⟩
  have hb2 := (hB1.block (w.heap.size + 1) (by simp)).trans HRB.out
  obtain ⟨rb, hrb⟩ : ∃ rb, rb = w.heap.size + 1 := ⟨_, rfl⟩
  have hrbg : w.heap.size ≤ rb := by omega
  have hbB := HB0.out.trans (hB1.mono (by simp; omega))
  rw [← hrb] at hb2 ⊢
  have r0 : w2.cell? ⟨rb, 0, none⟩ = some (.slice none 0 0) := by simp [World.cell?, hb2]
  have r1 : w2.cell? ⟨rb, 1, none⟩ = some (.slice none 0 0) := by simp [World.cell?, hb2]
  have r2 : w2.cell? ⟨rb, 2, none⟩ = some (.slice none 0 0) := by simp [World.cell?, hb2]
  have rf0 : w2.frozen? ⟨rb, 0, none⟩ = false := by simp [World.frozen?, hb2]
  have rf1 : w2.frozen? ⟨rb, 1, none⟩ = false := by simp [World.frozen?, hb2]
  have rf2 : w2.frozen? ⟨rb, 2, none⟩ = false := by simp [World.frozen?, hb2]
  have rl := (Array.getElem?_eq_some_iff.1 hb2).1
  have hz3 := Lib.hid (((hbB.setCell (p := ⟨rb, 0, none⟩) hrbg (.slice none 0 0)).setCell (p := ⟨rb, 1, none⟩) hrbg (.slice none 0 0)).setCell (p := ⟨rb, 2, none⟩) hrbg (.slice none 0 0))
  have HF : RowKit.Hid (FaultS (((w2.setCell ⟨rb, 0, none⟩ (.slice none 0 0)).setCell ⟨rb, 1, none⟩ (.slice none 0 0)).setCell ⟨rb, 2, none⟩ (.slice none 0 0)) p v) := Lib.hid (by
    obtain ⟨vi, ⟨⟨f1, rfl, h1⟩⟩, ⟨⟨f2, rfl, h2⟩⟩⟩ := hf
    have key : ∀ (fb : Nat) (l : ByteArray) (i : Value), w2.heap[fb]? = some (Obj.cells #[.string l, .int .i64 0, .int .i64 0, i] 76 (0, 0)) → (((w2.setCell ⟨rb, 0, none⟩ (.slice none 0 0)).setCell ⟨rb, 1, none⟩ (.slice none 0 0)).setCell ⟨rb, 2, none⟩ (.slice none 0 0)).heap[fb]? = some (Obj.cells #[.string l, .int .i64 0, .int .i64 0, i] 76 (0, 0)) := fun fb l i hh => by
      have hne : fb ≠ rb := fun e => by
        rw [e, hb2] at hh
        injection hh with hh; injection hh with _ hh; exact absurd hh (by decide)
      rw [Below.heap_setCell _ _ _ _ hne, Below.heap_setCell _ _ _ _ hne, Below.heap_setCell _ _ _ _ hne]; exact hh
    exact ⟨_, ⟨⟨f1, rfl, key _ _ _ h1⟩⟩, ⟨⟨f2, rfl, key _ _ _ h2⟩⟩⟩)
  obtain ⟨vi, ⟨⟨f1, rfl, _⟩⟩, _⟩ := hf
  clear hb2 hrb hB1 hbB HN HRB HB0
  go_wp2_with fail
  refine bodyPost_ret (v := .tuple #[runZ, .iface 73 (.pointer (some ⟨f1, 0, none⟩))]) (by simp [results, Tryz.results51, go_sem, r0, r1, r2, runZ]) rfl ?_
  exact ⟨_, rfl, HF.out, hz3.out⟩
end Go.Proofs.YtdhloijdefnkpaaGreatDoor

namespace Go.Proofs.YtdhloijdefnkpaaGreatDoor
open Go.RowKit Pl

theorem big_norm {s : Lts} {n : Nat} {C : Nat → Int} (h : Big s.norm n C) : Big s n C := h.steps (fun _ _ _ _ _ => mem_nf stoE _ s.es)

/-- What Classes answers of a right system. -/
def StrClasses (s : Lts) (n : Nat) (w : World) (e : Ending) (w' : World) : Prop :=
  ∃ (inn : Nat → Nat) (a : Option Addr) (c : Nat), Big s n (fun p => (inn p : Int)) ∧ e = .returned (.tuple #[.slice a n c, .nilIface]) ∧ w'.ownsRow w.heap.size 3 1 (.slice a n c) n ((canon (flN n inn)).flatMap encI) ∧ Below w.heap.size w w'

set_option maxRecDepth 100000 in
set_option maxHeartbeats 2000000 in
theorem strClasses_any {p : Addr} {s : Lts} {n : Nat} (h : s.Right) (hn : s.st = (n : Int)) {a : Option Addr} {b off c : Nat} {w : World} (hG : GErr 1 p w) (hS : SlAt encE 3 w a b off s.es) :
    Calls Tryz.prog 23 #[.agg #[.int .i64 s.st, .int .i64 s.lb, .int .i64 s.s0, .slice a s.es.length c]] w (StrClasses s n w) := by
  have hB0 := (Below.refl w.heap.size w).alloc (Nat.le_refl _) (Obj.cells #[.int .i64 s.st, .int .i64 s.lb, .int .i64 s.s0, .slice a s.es.length c] 24)
  have HB0 := Lib.hid hB0
  rcases Nat.eq_zero_or_pos n with rfl | hn0
  · have HN := Lib.hid (refineZero_any (c := c) h hn (hG.below hB0) (hS.below hB0 (Nat.le_refl _)))
    clear hB0 hS hG h hn
    go_enter Tryz.func23, Tryz.ntmps23
    go_wp2_with fail
    refine HN.out.mono ?_
    unfold runZ
    rintro e w1 ⟨rfl, hB1⟩
    have HB1 := Lib.hid ((HB0.out.trans (hB1.mono (by simp))).alloc (by have := hB1.size; simp at this; omega) (.cells #[.slice none 0 0, .slice none 0 0, .slice none 0 0] 93))
    clear hB1 HN HB0
    go_wp2_with fail
    go_ret2
    exact ⟨fun _ => 0, none, 0, ⟨fun p q hp => by omega, fun R _ p q hp => by omega⟩, rfl, World.ownsRow_nil _ _ _ _, HB1.out⟩
  · have HN := Lib.hid (refineYes_any (c := c) h hn hn0 (hG.below hB0) (hS.below hB0 (Nat.le_refl _)))
    clear hB0 hS hG h hn
    go_enter Tryz.func23, Tryz.ntmps23
    go_wp2_with fail
    refine HN.out.mono ?_
    unfold RefPost
    rintro e w1 ⟨inn, ga, cg, cc, ta, tn, tc, ba, bb, bc, hbig, _, rfl, hown, _, hB1⟩
    have hz : w.heap.size ≤ w1.heap.size := by have := hB1.size; simp at this; omega
    have HB1 := Lib.hid ((HB0.out.trans (hB1.mono (by simp))).alloc hz (.cells #[.slice (some ⟨cg, 0, none⟩) n cc, .slice ta tn tc, .slice ba n bc] 93))
    have HO := Lib.hid ((own_mono hown (show w.heap.size ≤ _ by simp)).alloc (.cells #[.slice (some ⟨cg, 0, none⟩) n cc, .slice ta tn tc, .slice ba n bc] 93))
    have HBIG := Lib.hid (big_norm hbig)
    clear hB1 hown hbig HN HB0
    go_wp2_with fail
    go_ret2
    exact ⟨inn, _, cc, HBIG.out, rfl, HO.out, HB1.out⟩

set_option maxRecDepth 100000 in
set_option maxHeartbeats 2000000 in
theorem strClassesNo_any {p : Addr} {s : Lts} (h : ¬ s.Right) {a : Option Addr} {b off c : Nat} {w : World} (hG : GErr 1 p w) (hT : ErrType w) (hS : SlAt encE 3 w a b off s.es) :
    Calls Tryz.prog 23 #[.agg #[.int .i64 s.st, .int .i64 s.lb, .int .i64 s.s0, .slice a s.es.length c]] w fun e w' => ∃ v, e = .returned (.tuple #[.slice none 0 0, v]) ∧ FaultS w' p v ∧ Below w.heap.size w w' := by
  have hB0 := (Below.refl w.heap.size w).alloc (Nat.le_refl _) (Obj.cells #[.int .i64 s.st, .int .i64 s.lb, .int .i64 s.s0, .slice a s.es.length c] 24)
  have HB0 := Lib.hid hB0
  have HN := Lib.hid (refineNo_any (c := c) h (hG.below hB0) (hT.below hB0) (hS.below hB0 (Nat.le_refl _)))
  clear hB0 hS hG h hT
  go_enter Tryz.func23, Tryz.ntmps23
  go_wp2_with fail
  refine HN.out.mono ?_
  unfold runZ
  rintro e w1 ⟨v, rfl, hf, hB1⟩
  have hz : w.heap.size ≤ w1.heap.size := by have := hB1.size; simp at this; omega
  have HB1 := Lib.hid ((HB0.out.trans (hB1.mono (by simp))).alloc hz (.cells #[.slice none 0 0, .slice none 0 0, .slice none 0 0] 93))
  have HF := Lib.hid (hf.below ((Below.refl w1.heap.size w1).alloc (Nat.le_refl _) (.cells #[.slice none 0 0, .slice none 0 0, .slice none 0 0] 93)))
  clear hB1 hf HN HB0
  go_wp2_with fail
  go_ret2
  exact ⟨v, rfl, HF.out, HB1.out⟩
end Go.Proofs.YtdhloijdefnkpaaGreatDoor

namespace Go.Proofs.YtdhloijdefnkpaaGreatDoor
open Go.RowKit Pl

theorem sys9 {w : World} {B : Nat} {x y z : Int} {v : Value} (h : w.heap[B]? = some (.cells #[.int .i64 x, .int .i64 y, .int .i64 z, v] 24 (0, 0))) :
    w.cell? ⟨B, 0, none⟩ = some (.int .i64 x) ∧ w.cell? ⟨B, 1, none⟩ = some (.int .i64 y) ∧ w.cell? ⟨B, 2, none⟩ = some (.int .i64 z) ∧ w.cell? ⟨B, 3, none⟩ = some v ∧ B < w.heap.size := by
  refine ⟨?_, ?_, ?_, ?_, (Array.getElem?_eq_some_iff.1 h).1⟩ <;> simp [World.cell?, h]

theorem canon9_wf {l : List Int} (h : l.length ≤ 1000000) : ∀ x ∈ canon l, (Lit.int .i64 x).wf = true := by
  intro x hx
  unfold canon at hx
  obtain ⟨y, hy, rfl⟩ := List.mem_map.1 hx
  have h1 := dist_len l
  have h2 : (dist l).idxOf y ≤ (dist l).length := List.idxOf_le_length
  exact WalkArith.wf_i64 (by omega)
/-- The classes told, as a function. -/
def cl9 (n : Nat) (inn : Nat → Nat) : Nat → Int := clf n (fun p => (inn p : Int))
theorem canon9 (n : Nat) (inn : Nat → Nat) : canon (flN n inn) = fl n (cl9 n inn) := by
  unfold flN cl9
  rw [canon_fl]
theorem cl9_big {s : Lts} {n : Nat} {inn : Nat → Nat} (h : Big s n (fun p => (inn p : Int))) : Big s n (cl9 n inn) := h.clf
theorem big_norm9 {s : Lts} {n : Nat} {C : Nat → Int} (h : Big s n C) : Big s.norm n C := h.steps (fun _ _ _ _ _ => (mem_nf stoE _ s.es).symm)
end Go.Proofs.YtdhloijdefnkpaaGreatDoor

namespace Go.Proofs.YtdhloijdefnkpaaGreatDoor
open Go.RowKit Pl

theorem eq_upto' {α : Type} {xs ys : List α} (hl : xs.length = ys.length) (h : ∀ j, j < xs.length → xs[j]? = ys[j]?) : xs = ys := by
  apply List.ext_getElem?
  intro j
  by_cases hj : j < xs.length
  · exact h j hj
  · rw [List.getElem?_eq_none (by omega), List.getElem?_eq_none (by omega)]

set_option maxRecDepth 100000 in
theorem sameEdges_any {a1 a2 : Option Addr} {b1 o1 c1 b2 o2 c2 : Nat} {xs ys : List E} {w : World} (h1 : SlAt encE 3 w a1 b1 o1 xs) (h2 : SlAt encE 3 w a2 b2 o2 ys) (hx : xs.length ≤ 1000000) (hy : ys.length ≤ 1000000) :
    Calls Tryz.prog 52 #[.slice a1 xs.length c1, .slice a2 ys.length c2] w fun e w' => e = .returned (.bool (decide (xs = ys))) ∧ ∃ n, w' = w.drewN n := by
  by_cases hl : xs.length = ys.length
  · have hlB : ((xs.length : Int) != (ys.length : Int)) = false := by simp [hl]
    have HL := Lib.hid hl; clear hl
    go_enter Tryz.func52, Tryz.ntmps52
    go_wp2
    go_loopw [5] (fun i wr => ∃ k m : Nat, k ≤ xs.length ∧ i = .int .i64 k ∧ (∀ j, j < k → xs[j]? = ys[j]?) ∧ wr = w.drewN m)
      (fun i _ => xs.length - (intOf i).toNat)
    case atStart => exact ⟨0, 0, Nat.zero_le _, rfl, by intro j hj; omega, rfl⟩
    case round =>
      obtain ⟨k, m, hk, rfl, heq, rfl⟩ := hrel
      have HE := Lib.hid heq; clear heq
      by_cases hlt : k < xs.length
      · have hlt2 : k < ys.length := by rw [← HL.out]; exact hlt
        obtain ⟨x, hxk⟩ := getElem?_of_lt hlt
        obtain ⟨y, hyk⟩ := getElem?_of_lt hlt2
        obtain rfl := h1.ad (by omega)
        obtain rfl := h2.ad (by omega)
        have c0 := h1.e0 hxk; have c1' := h1.e1 hxk; have c2' := h1.e2 hxk
        have d0 := h2.e0 hyk; have d1 := h2.e1 hyk; have d2 := h2.e2 hyk
        have hq := fun w => eqlE x y w
        have hgd := guardE
        have hi1 : (k : Int) < (xs.length : Int) := by omega
        have hi2 : (k : Int) < (ys.length : Int) := by omega
        have HX := Lib.hid hxk; have HY := Lib.hid hyk
        clear h1 h2 hxk hyk
        by_cases hxy : x = y
        · have hb : decide (x = y) = true := by simp [hxy]
          have HXY := Lib.hid hxy; clear hxy
          go_wp2_with fail
          go_quiet (fail)
          go_wp2
          go_roundw
          case rel => exact ⟨k + 1, _, by omega, by go_num, by
            intro j hj
            by_cases hjk : j = k
            · subst hjk; rw [HX.out, HY.out, HXY.out]
            · exact HE.out j (by omega), rfl⟩
          case measure => simp [intOf]; omega
        · have hb : decide (x = y) = false := by simp [hxy]
          have HXY := Lib.hid hxy; clear hxy
          go_wp2_with fail
          go_quiet (fail)
          go_wp2
          go_ret
          refine ⟨?_, _, World.drewN_drewN _ _ _⟩
          have : xs ≠ ys := fun e => HXY.out (by have h1 := HX.out; have h2 := HY.out; rw [e, h2] at h1; simpa using h1.symm)
          simp [this]
      · clear h1 h2
        have hkk : k = xs.length := by omega
        go_wp2
        go_ret
        refine ⟨?_, _, rfl⟩
        have : xs = ys := eq_upto' HL.out (by rw [← hkk]; exact HE.out)
        simp [this]
  · have hlB : ((xs.length : Int) != (ys.length : Int)) = true := by simp; omega
    go_enter Tryz.func52, Tryz.ntmps52
    go_wp2
    go_ret
    have : xs ≠ ys := fun e => hl (by rw [e])
    exact ⟨by simp [this], 0, rfl⟩


set_option maxRecDepth 100000 in
theorem sameSystem_yes (st lb s0 : Int) {a1 a2 : Option Addr} {b1 o1 c1 b2 o2 c2 : Nat} {xs : List E} {w : World} (h1 : SlAt encE 3 w a1 b1 o1 xs) (h2 : SlAt encE 3 w a2 b2 o2 xs) (hx : xs.length ≤ 1000000) :
    Calls Tryz.prog 24 #[.agg #[.int .i64 st, .int .i64 lb, .int .i64 s0, .slice a1 xs.length c1], .agg #[.int .i64 st, .int .i64 lb, .int .i64 s0, .slice a2 xs.length c2]] w fun e w' =>
      e = .returned (.bool true) ∧ Below w.heap.size w w' := by
  have e1 : (st == st) = true := by simp
  have e2 : (lb == lb) = true := by simp
  have e3 : (s0 == s0) = true := by simp
  have H1 := Lib.hid h1; have H2 := Lib.hid h2
  clear h1 h2
  go_enter Tryz.func24, Tryz.ntmps24
  go_wp2_with fail
  have hB := ((Below.refl w.heap.size w).alloc (Nat.le_refl _) (Obj.cells #[.int .i64 st, .int .i64 lb, .int .i64 s0, .slice a1 xs.length c1] 24)).alloc (by simp) (Obj.cells #[.int .i64 st, .int .i64 lb, .int .i64 s0, .slice a2 xs.length c2] 24)
  have HB := Lib.hid hB
  clear hB
  refine (sameEdges_any (H1.out.below HB.out (Nat.le_refl _)) (H2.out.below HB.out (Nat.le_refl _)) hx hx).mono ?_
  rintro e w1 ⟨rfl, m, rfl⟩
  simp only [decide_true]
  go_wp2
  go_ret
  exact ⟨rfl, bdrew HB.out⟩
end Go.Proofs.YtdhloijdefnkpaaGreatDoor

namespace Go.Proofs.YtdhloijdefnkpaaGreatDoor
open Go.RowKit Pl

set_option maxRecDepth 100000 in
set_option maxHeartbeats 8000000 in
theorem wkStrong_any {w : World} {p : Addr} (hG : WkErr p w) (hQE : SentQ 0 p w) (hT : ErrType w) (hTab : Tab w) {s : Lts} {a : Option Addr} {b off c : Nat} (hS : SlAt encE 3 w a b off s.es) :
    Calls Tryz.prog 7 #[.agg #[.int .i64 s.st, .int .i64 s.lb, .int .i64 s.s0, .slice a s.es.length c]] w fun e w' => e = .returned (.bool true) ∧ Below w.heap.size w w' := by
  obtain ⟨pe, cq, tq, hGE, hneq, hqb⟩ := id hQE
  clear hneq hqb
  have hB0 := (Below.refl w.heap.size w).alloc (Nat.le_refl _) (Obj.cells #[.int .i64 s.st, .int .i64 s.lb, .int .i64 s.s0, .slice a s.es.length c] 24)
  have hbx := heap_alloc_new w (Obj.cells #[.int .i64 s.st, .int .i64 s.lb, .int .i64 s.s0, .slice a s.es.length c] 24)
  have HG := Lib.hid hG; have HTY := Lib.hid hT; have HTB := Lib.hid hTab; have HS := Lib.hid hS; have HB0 := Lib.hid hB0; have HBX := Lib.hid hbx
  have ALV : RowKit.Hid (∀ w1 : World, Below w.heap.size w w1 → Calls Tryz.prog 10 #[] w1 fun e w' => e = .returned (.bool true) ∧ Below w.heap.size w w' ∧ Below w1.heap.size w1 w') := Lib.hid (by
    intro w1 h1
    refine (alive13_any (hG.below h1) (hGE.below h1) (hTab.below h1)).mono ?_
    rintro e w' ⟨rfl, hB⟩
    exact ⟨rfl, h1.trans (hB.mono h1.size), hB⟩)
  have HGE := Lib.hid hGE; have HQE := Lib.hid hQE
  clear hG hGE hT hTab hS hB0 hbx hQE
  by_cases h40 : 40 < s.st
  · have e1 : decide (40 < s.st) = true := by simp [h40]
    clear HBX
    go_enter Tryz.func7, Tryz.ntmps7
    go_wp2_with fail
    refine (ALV.out _ HB0.out).mono ?_
    rintro e w2 ⟨rfl, hB, _⟩
    go_wp2
    go_ret
    exact ⟨rfl, hB⟩
  have e1 : decide (40 < s.st) = false := by simp [h40]
  by_cases h300 : 300 < (s.es.length : Int)
  · have e2 : decide (300 < (s.es.length : Int)) = true := by simp [h300]
    clear HBX
    go_enter Tryz.func7, Tryz.ntmps7
    go_wp2_with fail
    refine (ALV.out _ HB0.out).mono ?_
    rintro e w2 ⟨rfl, hB, _⟩
    go_wp2
    go_ret
    exact ⟨rfl, hB⟩
  have e2 : decide (300 < (s.es.length : Int)) = false := by simp [h300]
  by_cases hr : s.Right
  case neg =>
    have HCO := Lib.hid (satNo_any (c := c) hr (HG.out.below HB0.out) (HTY.out.below HB0.out) (HS.out.below HB0.out (Nat.le_refl _)))
    go_enter Tryz.func7, Tryz.ntmps7
    go_wp2_with fail
    refine HCO.out.mono ?_
    rintro e w2 ⟨v, rfl, hf, hB2⟩
    have HF2 := Lib.hid hf
    obtain ⟨v1, hf, _⟩ := hf
    obtain ⟨fb, rfl, _⟩ := hf.ex
    have hb2 := HB0.out.trans (hB2.mono (by simp))
    have hx2 := (hB2.block w.heap.size (by simp)).trans HBX.out
    obtain ⟨W3, hW3⟩ : ∃ W3, W3 = w2.alloc (Obj.cells #[.int .i64 0, .int .i64 0, .int .i64 0, .slice none 0 0] 24) := ⟨_, rfl⟩
    have hba : Below w2.heap.size w2 W3 := by rw [hW3]; exact (Below.refl _ _).alloc (Nat.le_refl _) _
    have hb3 := hb2.trans (hba.mono hb2.size)
    have hx3 := (hba.block w.heap.size (Array.getElem?_eq_some_iff.1 hx2).1).trans hx2
    have HB3 := Lib.hid hb3; have HF3 := Lib.hid (HF2.out.below hba); have HW3 := Lib.hid hW3
    have HCL := Lib.hid (weakClassesNo_any (c := c) hr (HG.out.below hb3) (HTY.out.below hb3) (HS.out.below hb3 (Nat.le_refl _)))
    obtain ⟨x0, x1, x2, x3, x4⟩ := sysC hx2
    clear hB2 hb2 hx2 hx3 hba hb3 hf hW3 HF2 HCO HB0 HBX hr e1 e2
    go_wp2_with fail
    rw [← HW3.out]
    refine HCL.out.mono ?_
    rintro e w4 ⟨v4, rfl, hf4, hB4⟩
    obtain ⟨v5, hf4, _⟩ := hf4
    obtain ⟨fb2, rfl, _⟩ := hf4.ex
    have HB4 := Lib.hid (HB3.out.trans (hB4.mono HB3.out.size)); have HF4 := Lib.hid (HF3.out.below hB4)
    clear hB4 hf4 HCL HB3 HF3 HW3 x0 x1 x2 x3 x4
    go_wp2_with fail
    refine (ALV.out _ HB4.out).mono ?_
    rintro e w5 ⟨rfl, hB, hB5⟩
    have hf5 := HF4.out.below hB5
    obtain ⟨v6, hf6, hf7⟩ := id hf5
    obtain ⟨pb, hpb, hpb1⟩ := hf6.ex
    obtain ⟨pc, rfl, hpc1⟩ := hf7.ex
    simp only [Value.iface.injEq, Value.pointer.injEq, Option.some.injEq, Addr.mk.injEq, true_and, and_true] at hpb
    obtain rfl := hpb
    obtain ⟨q, cq, tq, hgq, hne, hqb⟩ := HQE.out.below hB
    obtain ⟨cp, tp, hpp⟩ := (HG.out.below hB).blk
    have HIS := Lib.hid (is_faultQ_other fb pc q p cp cq tp tq w5 (by simp [World.cell?, hpb1]) (by simp [World.cell?, hpc1]) (Ne.symm hne) hpp hqb)
    have g0 := hgq.cell; have gl := hgq.lt
    have HB := Lib.hid hB
    clear hB hB5 hf5 hf6 hf7 hpb1 hpc1 hgq hne hqb hpp
    go_wp2_with fail
    refine HIS.out.mono ?_
    rintro e w6 ⟨rfl, rfl⟩
    go_wp2_with fail
    go_ret
    exact ⟨rfl, HB.out⟩
  case pos =>
  have hst := hr.st0
  obtain ⟨n, hn⟩ : ∃ n : Nat, s.st = (n : Int) := ⟨s.st.toNat, by omega⟩
  obtain ⟨lb, hlb⟩ : ∃ lb : Nat, s.lb = (lb : Int) := ⟨s.lb.toNat, by omega⟩
  have hn40 : n ≤ 40 := by omega
  have HR := Lib.hid hr; have HN := Lib.hid hn; have HLB := Lib.hid hlb
  have HSA := Lib.hid (satYes_any (c := c) hr hn hlb (by omega) (HG.out.below HB0.out) (HGE.out.below HB0.out) (HTB.out.below HB0.out) (HS.out.below HB0.out (Nat.le_refl _)))
  clear hr hlb hst hn
  go_enter Tryz.func7, Tryz.ntmps7
  go_wp2_with fail
  refine HSA.out.mono ?_
  rintro e w2 ⟨K, hK, hB2, hor⟩
  have hb2 := HB0.out.trans (hB2.mono (by simp))
  have hx2 := (hB2.block w.heap.size (by simp)).trans HBX.out
  have HB2 := Lib.hid hb2; have HX2 := Lib.hid hx2; have HK := Lib.hid hK
  clear hb2 hx2 hK e1 e2 h40 h300 HSA HBX
  rcases hor with ⟨hle, ve, rfl, hown⟩ | ⟨hgt, v, rfl, hf⟩
  case inr =>
    obtain ⟨W3, hW3⟩ : ∃ W3, W3 = w2.alloc (Obj.cells #[.int .i64 0, .int .i64 0, .int .i64 0, .slice none 0 0] 24) := ⟨_, rfl⟩
    have hba : Below w2.heap.size w2 W3 := by rw [hW3]; exact (Below.refl _ _).alloc (Nat.le_refl _) _
    have hb3 := HB2.out.trans (hba.mono HB2.out.size)
    have hf3 := hf.below hba
    obtain ⟨fb, rfl, hfb⟩ := hf3.ex
    have HF3 := Lib.hid hf3; have HB3 := Lib.hid hb3; have HW3 := Lib.hid hW3
    have HCL := Lib.hid (weakClasses_any (c := c) HR.out HN.out HLB.out (by omega) (HG.out.below hb3) (HTB.out.below hb3) (HS.out.below hb3 (Nat.le_refl _)))
    obtain ⟨x0, x1, x2, x3, x4⟩ := sysC HX2.out
    clear hba hb3 hf3 hfb hf hW3 hB2 HB0
    go_wp2_with fail
    rw [← HW3.out]
    refine HCL.out.mono ?_
    rintro e w4 ⟨cb, C, rfl, _, _, _, hB4⟩
    have HB4 := Lib.hid (HB3.out.trans (hB4.mono HB3.out.size)); have HF4 := Lib.hid (HF3.out.below hB4)
    clear hB4 HCL HB3 HF3 HW3 x0 x1 x2 x3 x4
    go_wp2_with fail
    refine (ALV.out _ HB4.out).mono ?_
    rintro e w5 ⟨rfl, hB, hB5⟩
    obtain ⟨pb, hpb, hpb1⟩ := (HF4.out.below hB5).ex
    simp only [Value.iface.injEq, Value.pointer.injEq, Option.some.injEq, Addr.mk.injEq, true_and, and_true] at hpb
    obtain rfl := hpb
    have hge := HGE.out.below hB
    have g0 := hge.cell; have gl := hge.lt
    have HIS := Lib.hid (is_fault_same fb pe w5 (by simp [World.cell?, hpb1]))
    have HB := Lib.hid hB
    clear hB hB5 hpb1 hge
    go_wp2_with fail
    refine HIS.out.mono ?_
    rintro e w6 ⟨rfl, rfl⟩
    go_wp2_with fail
    go_ret
    exact ⟨rfl, HB.out⟩
  case inl =>
    obtain ⟨ta, tc, tb, rfl, _, _, htsl, _⟩ := slAt_own lenE hown
    have hlen : (satE n lb K).length ≤ 10000 := hle
    obtain ⟨W3, hW3⟩ : ∃ W3, W3 = w2.alloc (Obj.cells #[.int .i64 n, .int .i64 s.lb, .int .i64 s.s0, .slice ta (satE n lb K).length tc] 24) := ⟨_, rfl⟩
    have hba : Below w2.heap.size w2 W3 := by rw [hW3]; exact (Below.refl _ _).alloc (Nat.le_refl _) _
    have htx3 : W3.heap[w2.heap.size]? = some (.cells #[.int .i64 n, .int .i64 s.lb, .int .i64 s.s0, .slice ta (satE n lb K).length tc] 24 (0, 0)) := by rw [hW3]; exact heap_alloc_new w2 _
    have hb3 := HB2.out.trans (hba.mono HB2.out.size)
    have HCL := Lib.hid (weakClasses_any (c := c) HR.out HN.out HLB.out (by omega) (HG.out.below hb3) (HTB.out.below hb3) (HS.out.below hb3 (Nat.le_refl _)))
    have HB3 := Lib.hid hb3; have HW3 := Lib.hid hW3; have HTX3 := Lib.hid htx3; have HTS3 := Lib.hid (htsl.below hba (Nat.le_refl _)); have HLE := Lib.hid hlen
    have HSR : RowKit.Hid ((satS s n lb K).Right) := Lib.hid (satS_right HR.out HN.out HLB.out hlen)
    obtain ⟨x0, x1, x2, x3, x4⟩ := sysC HX2.out
    obtain ⟨tl, htl⟩ : ∃ tl, tl = (satE n lb K).length := ⟨_, rfl⟩
    rw [← htl] at HW3 HTX3 ⊢
    have HTL := Lib.hid htl
    clear hown htsl hle hlen hba htx3 hb3 hW3 htl hB2 HB0
    go_wp2_with fail
    rw [← HW3.out]
    refine HCL.out.mono ?_
    rintro e w4 ⟨cb, C, rfl, hcs, hres, _, hB4⟩
    have hb4 := HB3.out.trans (hB4.mono HB3.out.size)
    have htx4 := (hB4.block w2.heap.size (Array.getElem?_eq_some_iff.1 HTX3.out).1).trans HTX3.out
    have hts4 := HTS3.out.below hB4 (Nat.le_refl _)
    have hsc := strClasses_any (s := satS s n lb K) (c := tc) HSR.out HN.out (HG.out.below hb4).sys hts4
    rw [show (satS s n lb K).st = (n : Int) from HN.out, show (satS s n lb K).lb = s.lb from rfl, show (satS s n lb K).s0 = s.s0 from rfl, show (satS s n lb K).es.length = tl from HTL.out.symm] at hsc
    have HSC := Lib.hid hsc; have HB4 := Lib.hid hb4; have HTX4 := Lib.hid htx4; have HTS4 := Lib.hid hts4; have HCS4 := Lib.hid hcs; have HRES := Lib.hid hres
    clear x0 x1 x2 x3 x4
    obtain ⟨x0, x1, x2, x3, x4⟩ := sysC htx4
    clear hcs hres hB4 hb4 htx4 hts4 hsc HCL HB3 HTX3 HTS3 HX2
    go_wp2_with fail
    refine HSC.out.mono ?_
    unfold StrClasses
    rintro e w5 ⟨inn, da, dc, hsb, rfl, hown, hB5⟩
    rw [canon9] at hown
    have hown2 : w5.ownsRow w4.heap.size 3 1 (.slice da n dc) (fl n (cl9 n inn)).length ((fl n (cl9 n inn)).flatMap encI) := by rw [fl_len]; exact hown
    obtain ⟨_, _, db, hv, hz1, hz2, hds, hz3⟩ := slAt_own lenI hown2
    clear hz1 hz2 hz3
    simp only [Value.slice.injEq] at hv
    obtain ⟨rfl, hv2, rfl⟩ := hv
    clear hv2
    have hsb2 := cl9_big hsb
    have hEC : fl n C = fl n (cl9 n inn) := by
      have h1 := (HRES.out.big K HK.out).uniq hsb2
      rw [HRES.out.can] at h1
      rw [h1, ← canon9, canon_canon]
    rw [← hEC] at hds
    have hb5 := HB4.out.trans (hB5.mono HB4.out.size)
    have htx5 := (hB5.block w2.heap.size (Array.getElem?_eq_some_iff.1 HTX4.out).1).trans HTX4.out
    have hts5 := HTS4.out.below hB5 (Nat.le_refl _)
    have hs2 := satYes_any (s := satS s n lb K) (c := tc) HSR.out HN.out HLB.out (by omega) (HG.out.below hb5) (HGE.out.below hb5) (HTB.out.below hb5) hts5
    rw [show (satS s n lb K).st = (n : Int) from HN.out, show (satS s n lb K).lb = s.lb from rfl, show (satS s n lb K).s0 = s.s0 from rfl, show (satS s n lb K).es.length = tl from HTL.out.symm] at hs2
    have HS2 := Lib.hid hs2; have HB5 := Lib.hid hb5; have HTX5 := Lib.hid htx5; have HTS5 := Lib.hid hts5; have HCS5 := Lib.hid (HCS4.out.below hB5 (Nat.le_refl _)); have HDS5 := Lib.hid hds
    clear x0 x1 x2 x3 x4
    obtain ⟨x0, x1, x2, x3, x4⟩ := sysC htx5
    clear hown hown2 hds hsb hsb2 hEC hB5 hb5 htx5 hts5 hs2 HSC HB4 HTX4 HTS4 HCS4 HRES
    go_wp2_with fail
    refine HS2.out.mono ?_
    rintro e w6 ⟨K2, hK2, hB6, hor⟩
    have hE2 := sat_sat HR.out HN.out HLB.out HK.out hK2
    rw [hE2, show (satS s n lb K).lb = s.lb from rfl, show (satS s n lb K).s0 = s.s0 from rfl] at hor
    rcases hor with ⟨_, ve, rfl, hown6⟩ | ⟨h9, _⟩
    case inr => have := HLE.out; omega
    obtain ⟨ua, uc, ub, rfl, _, _, husl, _⟩ := slAt_own lenE hown6
    rw [← HTL.out]
    obtain ⟨W7, hW7⟩ : ∃ W7, W7 = w6.alloc (Obj.cells #[.int .i64 n, .int .i64 s.lb, .int .i64 s.s0, .slice ua tl uc] 24) := ⟨_, rfl⟩
    have hba : Below w6.heap.size w6 W7 := by rw [hW7]; exact (Below.refl _ _).alloc (Nat.le_refl _) _
    have hux7 : W7.heap[w6.heap.size]? = some (.cells #[.int .i64 n, .int .i64 s.lb, .int .i64 s.s0, .slice ua tl uc] 24 (0, 0)) := by rw [hW7]; exact heap_alloc_new w6 _
    have hb6 := HB5.out.trans (hB6.mono HB5.out.size)
    have hb7 := hb6.trans (hba.mono hb6.size)
    have h57 := hB6.trans (hba.mono hB6.size)
    have HB7 := Lib.hid hb7; have HW7 := Lib.hid hW7; have HUX7 := Lib.hid hux7
    have HTX7 := Lib.hid ((h57.block w2.heap.size (Array.getElem?_eq_some_iff.1 HTX5.out).1).trans HTX5.out)
    have HTS7 := Lib.hid (HTS5.out.below h57 (Nat.le_refl _)); have HUS7 := Lib.hid (husl.below hba (Nat.le_refl _)); have HCS7 := Lib.hid (HCS5.out.below h57 (Nat.le_refl _)); have HDS7 := Lib.hid (HDS5.out.below h57 (Nat.le_refl _))
    clear x0 x1 x2 x3 x4 hba hux7 hb6 hb7 h57 hW7 husl hown6 hB6 hK2 hE2 HS2 HB5 HTX5 HTS5 HCS5 HDS5
    go_wp2_with fail
    rw [← HW7.out]
    refine (ALV.out _ HB7.out).mono ?_
    rintro e w8 ⟨rfl, hB8, hB78⟩
    have HSI := Lib.hid (sameInts_any (c1 := n) (c2 := dc) (HCS7.out.below hB78 (Nat.le_refl _)) (HDS7.out.below hB78 (Nat.le_refl _)) (by rw [fl_len]; omega) (by rw [fl_len]; omega))
    rw [fl_len, decide_eq_true (rfl : fl n C = fl n C)] at HSI
    have HB8 := Lib.hid hB8; have HB78 := Lib.hid hB78
    clear hB8 hB78 HDS7 HCS7
    go_wp2_with fail
    refine HSI.out.mono ?_
    rintro e w9 ⟨rfl, q9, rfl⟩
    have h79 : Below W7.heap.size W7 (w8.drewN q9) := bdrew HB78.out
    have htx9 := (h79.block w2.heap.size (Array.getElem?_eq_some_iff.1 HTX7.out).1).trans HTX7.out
    have hux9 := (h79.block w6.heap.size (Array.getElem?_eq_some_iff.1 HUX7.out).1).trans HUX7.out
    have hss := sameSystem_yes (n : Int) s.lb s.s0 (c1 := tc) (c2 := uc) (HTS7.out.below h79 (Nat.le_refl _)) (HUS7.out.below h79 (Nat.le_refl _)) (by have := HLE.out; show (satE n lb K).length ≤ _; omega)
    rw [← HTL.out] at hss
    have HSS := Lib.hid hss
    have HB9 := Lib.hid (bdrew (n := q9) HB8.out)
    obtain ⟨W9, hW9⟩ : ∃ W9, W9 = w8.drewN q9 := ⟨_, rfl⟩
    rw [← hW9] at htx9 hux9 HSS HB9 ⊢
    obtain ⟨x0, x1, x2, x3, x4⟩ := sysC htx9
    obtain ⟨y0, y1, y2, y3, y4⟩ := sysC hux9
    clear h79 htx9 hux9 hss HSI hW9
    go_wp2_with fail
    refine HSS.out.mono ?_
    rintro e w10 ⟨rfl, hB10⟩
    have HB10 := Lib.hid (HB9.out.trans (hB10.mono HB9.out.size))
    clear hB10
    go_wp2_with fail
    go_ret
    exact ⟨rfl, HB10.out⟩
end Go.Proofs.YtdhloijdefnkpaaGreatDoor

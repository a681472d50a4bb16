/-
  strong.newPlay and Refine of a system without states, and of none; strong.Classes.
  strong.Classes.
  The classes that strong.Classes tells, as a function (LawRel and Alive9 hold the same under the same names: never import both).
  law12.BranchingCoarser.
-/
import Derived.Test.YtopnedihknjjfaaGreatDoorGStrH
import Derived.Test.YtopnedihknjjfaaGreatDoorGTauH
import Derived.Test.YtopnedihknjjfaaGreatDoorAlive12
namespace Go.Proofs.YtopnedihknjjfaaGreatDoor
open Go.RowKit Pl

/-- A run of a system without states. -/
def PlayZ (w : World) (xb gb : Nat) : Prop := ∃ pb hb qb, w.heap[xb]? = some (.cells #[.pointer (some ⟨gb, 0, none⟩), .pointer (some ⟨pb, 0, none⟩), .slice (some ⟨hb, 0, none⟩) 0 0, .slice none 0 0, .slice none 0 0, .slice none 0 0, .slice (some ⟨qb, 0, none⟩) 0 0] 127 (0, 0)) ∧ ParZ w pb

set_option maxRecDepth 100000 in
set_option maxHeartbeats 2000000 in
theorem newPlayZero_any {p : Addr} {s : Lts} (h : s.Right) (hn : s.st = 0) {a : Option Addr} {b off c : Nat} {w : World} (hG : GErr 0 p w) (hS : SlAt encE 3 w a b off s.es) :
    Calls Tryz.prog 88 #[.agg #[.int .i64 s.st, .int .i64 s.lb, .int .i64 s.s0, .slice a s.es.length c]] w fun e w' => ∃ xb gb, e = .returned (.tuple #[.pointer (some ⟨xb, 0, none⟩), .nilIface]) ∧ PlayZ w' xb gb ∧ GraphAt w' gb s.norm ∧ Below w.heap.size w w' := by
  have hB0 := (Below.refl w.heap.size w).alloc (Nat.le_refl _) (Obj.cells #[.int .i64 s.st, .int .i64 s.lb, .int .i64 s.s0, .slice a s.es.length c] 24)
  have hN := new_ok (c := c) h (hG.below hB0) (hS.below hB0 (Nat.le_refl _))
  have hmk : ∀ w, (Instr.makeSlice 27 (.int .i64 0) (.int .i64 0)).run Tryz.prog w = .ok (.slice (some ⟨w.heap.size, 0, none⟩) 0 0) (w.alloc (.cells #[] 3)) := fun _ => by kernel_rfl
  have HN := Lib.hid hN; have HB0 := Lib.hid hB0
  have HNM : RowKit.Hid (s.norm.st = 0) := Lib.hid hn
  clear hN hB0 hS hG h hn
  go_enter Tryz.func88, Tryz.ntmps88
  go_wp2_with fail
  refine HN.out.mono ?_
  rintro e w0 ⟨gb, rfl, hGr, hB1, _⟩
  have HGR := Lib.hid hGr
  have HW0 := Lib.hid (HB0.out.trans (hB1.mono (by simp)))
  have hs1 := getStates_any hGr
  rw [HNM.out] at hs1
  have HS1 := Lib.hid hs1
  clear hGr hB1 hs1 HN HB0
  go_wp2_with fail
  refine HS1.out.mono ?_
  rintro e w1 ⟨rfl, hB1⟩
  have hx1 := heap_alloc_at (w1.alloc (.cells #[] 3)) (.cells #[.pointer (some ⟨gb, 0, none⟩), .pointer none, .slice (some ⟨w1.heap.size, 0, none⟩) 0 0, .slice none 0 0, .slice none 0 0, .slice none 0 0, .slice none 0 0] 127) (w1.heap.size + 1) (by simp)
  have hB2 := (hB1.alloc hB1.size (.cells #[] 3)).alloc (by have := hB1.size; simp; omega) (.cells #[.pointer (some ⟨gb, 0, none⟩), .pointer none, .slice (some ⟨w1.heap.size, 0, none⟩) 0 0, .slice none 0 0, .slice none 0 0, .slice none 0 0, .slice none 0 0] 127)
  have hlo : w0.heap.size ≤ w1.heap.size + 1 := by have := hB1.size; omega
  go_upto_region 5 with fail
  obtain ⟨V, hV⟩ : ∃ V, V = (w1.alloc (.cells #[] 3)).alloc (.cells #[.pointer (some ⟨gb, 0, none⟩), .pointer none, .slice (some ⟨w1.heap.size, 0, none⟩) 0 0, .slice none 0 0, .slice none 0 0, .slice none 0 0, .slice none 0 0] 127) := ⟨_, rfl⟩
  obtain ⟨hb, hhb⟩ : ∃ hb, hb = w1.heap.size := ⟨_, rfl⟩
  obtain ⟨xb, hxb⟩ : ∃ xb, xb = w1.heap.size + 1 := ⟨_, rfl⟩
  rw [← hV] at hx1 hB2 ⊢
  rw [← hxb] at hx1 hlo ⊢
  rw [← hhb] at hx1
  have HX1 := Lib.hid hx1; have HB2 := Lib.hid hB2
  have hs2 := getStates_any (HGR.out.below hB2)
  rw [HNM.out] at hs2
  have HS2 := Lib.hid hs2
  clear hV hhb hxb hx1 hB1 hB2 hs2 HS1
  go_wp2_with fail
  refine HS2.out.mono ?_
  rintro e w2 ⟨rfl, hB3⟩
  have HX2 := Lib.hid ((hB3.block xb (Array.getElem?_eq_some_iff.1 HX1.out).1).trans HX1.out)
  have HB3 := Lib.hid (HB2.out.trans (hB3.mono HB2.out.size))
  clear hB3 HS2 HX1 HB2
  go_wp2_with fail
  refine (parNew_zero w2).mono ?_
  rintro e w3 ⟨pb, rfl, hpz, hB4, hpl⟩
  have hx3 := (hB4.block xb (Array.getElem?_eq_some_iff.1 HX2.out).1).trans HX2.out
  have x1 : w3.cell? ⟨xb, 1, none⟩ = some (.pointer none) := by simp [World.cell?, hx3]
  have xf : w3.frozen? ⟨xb, 1, none⟩ = false := by simp [World.frozen?, hx3]
  have xl := (Array.getElem?_eq_some_iff.1 hx3).1
  have hx4 := heap_setCell_same w3 xb 1 _ _ (.pointer (some ⟨pb, 0, none⟩)) hx3
  have hxlt := (Array.getElem?_eq_some_iff.1 HX2.out).1
  have hpz4 : ParZ (w3.setCell ⟨xb, 1, none⟩ (.pointer (some ⟨pb, 0, none⟩))) pb := by
    obtain ⟨qb, bb, ia, ic, h⟩ := hpz
    exact ⟨qb, bb, ia, ic, by rw [Below.heap_setCell _ _ _ _ (show pb ≠ xb by omega)]; exact h⟩
  have hB5 := (HB3.out.trans (hB4.mono HB3.out.size)).setCell (p := ⟨xb, 1, none⟩) hlo (.pointer (some ⟨pb, 0, none⟩))
  go_upto_region 6 with fail
  obtain ⟨Y, hY⟩ : ∃ Y, Y = w3.setCell ⟨xb, 1, none⟩ (.pointer (some ⟨pb, 0, none⟩)) := ⟨_, rfl⟩
  rw [← hY] at hx4 hpz4 hB5 ⊢
  have HX4 := Lib.hid hx4; have HPZ := Lib.hid hpz4; have HB5 := Lib.hid hB5
  have hs3 := getStates_any (HGR.out.below hB5)
  rw [HNM.out] at hs3
  have HS3 := Lib.hid hs3
  clear hY x1 xf xl hx3 hx4 hpz hpz4 hB4 hB5 hs3 HX2 HB3 hxlt hpl
  go_wp2_with fail
  refine HS3.out.mono ?_
  rintro e w5 ⟨rfl, hB6⟩
  have hx5 := (hB6.block xb (Array.getElem?_eq_some_iff.1 HX4.out).1).trans HX4.out
  have x6 : w5.cell? ⟨xb, 6, none⟩ = some (.slice none 0 0) := by simp [World.cell?, hx5]
  have xf : w5.frozen? ⟨xb, 6, none⟩ = false := by simp [World.frozen?, hx5]
  have xl := (Array.getElem?_eq_some_iff.1 hx5).1
  have hx6 := heap_setCell_same w5 xb 6 _ _ (.slice (some ⟨w5.heap.size, 0, none⟩) 0 0) hx5
  have hx7 := (Below.heap_alloc (w5.setCell ⟨xb, 6, none⟩ (.slice (some ⟨w5.heap.size, 0, none⟩) 0 0)) (.cells #[] 3) xb (by rw [size_setCell]; exact xl)).trans hx6
  have hpz5 := HPZ.out.below hB6
  have hpz7 : ParZ ((w5.setCell ⟨xb, 6, none⟩ (.slice (some ⟨w5.heap.size, 0, none⟩) 0 0)).alloc (.cells #[] 3)) pb := by
    obtain ⟨qb, bb, ia, ic, h⟩ := hpz5
    refine ⟨qb, bb, ia, ic, ?_⟩
    have hne : pb ≠ xb := fun e => by
      rw [e, hx5] at h
      injection h with h; injection h with _ h; exact absurd h (by decide)
    rw [Below.heap_alloc _ _ _ (by rw [size_setCell]; exact (Array.getElem?_eq_some_iff.1 h).1), Below.heap_setCell _ _ _ _ (show pb ≠ xb from hne)]
    exact h
  have hB7 := ((HB5.out.trans (hB6.mono HB5.out.size)).setCell (p := ⟨xb, 6, none⟩) hlo (.slice (some ⟨w5.heap.size, 0, none⟩) 0 0)).alloc (by rw [size_setCell]; have := HB5.out.size; have := hB6.size; omega) (.cells #[] 3)
  have hgr7 := HGR.out.below hB7
  have HFIN : RowKit.Hid (PlayZ ((w5.setCell ⟨xb, 6, none⟩ (.slice (some ⟨w5.heap.size, 0, none⟩) 0 0)).alloc (.cells #[] 3)) xb gb) := Lib.hid ⟨pb, hb, w5.heap.size, hx7, hpz7⟩
  have HB7 := Lib.hid (HW0.out.trans (hB7.mono HW0.out.size)); have HGR7 := Lib.hid hgr7
  clear hx5 hx6 hx7 hpz5 hpz7 hB6 hB7 hgr7 HS3 HX4 HPZ HB5
  go_wp2_with fail
  go_ret2
  exact ⟨xb, gb, rfl, HFIN.out, HGR7.out, HB7.out⟩

/-- An empty run. -/
def runZ : Value := .agg #[.slice none 0 0, .slice none 0 0, .slice none 0 0]

set_option maxRecDepth 100000 in
set_option maxHeartbeats 2000000 in
theorem refineZero_any {p : Addr} {s : Lts} (h : s.Right) (hn : s.st = 0) {a : Option Addr} {b off c : Nat} {w : World} (hG : GErr 0 p w) (hS : SlAt encE 3 w a b off s.es) :
    Calls Tryz.prog 64 #[.agg #[.int .i64 s.st, .int .i64 s.lb, .int .i64 s.s0, .slice a s.es.length c]] w fun e w' => e = .returned (.tuple #[runZ, .nilIface]) ∧ Below w.heap.size w w' := by
  have hB0 := ((Below.refl w.heap.size w).alloc (Nat.le_refl _) (Obj.cells #[.int .i64 s.st, .int .i64 s.lb, .int .i64 s.s0, .slice a s.es.length c] 24)).alloc (by simp) (Obj.cells #[.slice none 0 0, .slice none 0 0, .slice none 0 0] 93)
  have hrb := heap_alloc_at (w.alloc (Obj.cells #[.int .i64 s.st, .int .i64 s.lb, .int .i64 s.s0, .slice a s.es.length c] 24)) (Obj.cells #[.slice none 0 0, .slice none 0 0, .slice none 0 0] 93) (w.heap.size + 1) (by simp)
  have hN := newPlayZero_any (c := c) h hn (hG.below hB0) (hS.below hB0 (Nat.le_refl _))
  have HN := Lib.hid hN; have HB0 := Lib.hid hB0; have HRB := Lib.hid hrb
  have HNM : RowKit.Hid (s.norm.st = 0) := Lib.hid hn
  clear hN hB0 hS hG h hrb hn
  go_enter Tryz.func64, Tryz.ntmps64
  go_wp2_with fail
  refine HN.out.mono ?_
  rintro e w1 ⟨xb, gb, rfl, hpz, hgr, hB1⟩
  have hb1 := (hB1.block (w.heap.size + 1) (by simp)).trans HRB.out
  obtain ⟨pb, hb, qb, hx, _⟩ := hpz
  have x0 : w1.cell? ⟨xb, 0, none⟩ = some (.pointer (some ⟨gb, 0, none⟩)) := by simp [World.cell?, hx]
  have xl := (Array.getElem?_eq_some_iff.1 hx).1
  have hst := getStates_any hgr
  rw [HNM.out] at hst
  have HST := Lib.hid hst; have HB1 := Lib.hid (HB0.out.trans (hB1.mono (by simp; omega))); have HRB1 := Lib.hid hb1
  clear hb1 hx hst hB1 hgr HN HB0 HRB
  go_wp2_with fail
  refine HST.out.mono ?_
  rintro e w2 ⟨rfl, hB2⟩
  have hb2 := (hB2.block (w.heap.size + 1) (Array.getElem?_eq_some_iff.1 HRB1.out).1).trans HRB1.out
  obtain ⟨rb, hrb⟩ : ∃ rb, rb = w.heap.size + 1 := ⟨_, rfl⟩
  have hrbg : w.heap.size ≤ rb := by omega
  rw [← hrb] at hb2 ⊢
  have r0 : w2.cell? ⟨rb, 0, none⟩ = some (.slice none 0 0) := by simp [World.cell?, hb2]
  have r1 : w2.cell? ⟨rb, 1, none⟩ = some (.slice none 0 0) := by simp [World.cell?, hb2]
  have r2 : w2.cell? ⟨rb, 2, none⟩ = some (.slice none 0 0) := by simp [World.cell?, hb2]
  have rf0 : w2.frozen? ⟨rb, 0, none⟩ = false := by simp [World.frozen?, hb2]
  have rf1 : w2.frozen? ⟨rb, 1, none⟩ = false := by simp [World.frozen?, hb2]
  have rf2 : w2.frozen? ⟨rb, 2, none⟩ = false := by simp [World.frozen?, hb2]
  have rl := (Array.getElem?_eq_some_iff.1 hb2).1
  have hz3 := Lib.hid ((((HB1.out.trans (hB2.mono HB1.out.size)).setCell (p := ⟨rb, 0, none⟩) hrbg (.slice none 0 0)).setCell (p := ⟨rb, 1, none⟩) hrbg (.slice none 0 0)).setCell (p := ⟨rb, 2, none⟩) hrbg (.slice none 0 0))
  clear hb2 hrb hB2 HST HRB1 x0 xl
  go_wp2_with fail
  refine bodyPost_ret (v := .tuple #[runZ, .nilIface]) (by simp [results, Tryz.results64, go_sem, r0, r1, r2, runZ]) rfl ?_
  exact ⟨rfl, hz3.out⟩

set_option maxRecDepth 100000 in
set_option maxHeartbeats 2000000 in
theorem refineNo_any {p : Addr} {s : Lts} (h : ¬ s.Right) {a : Option Addr} {b off c : Nat} {w : World} (hG : GErr 0 p w) (hT : ErrType w) (hS : SlAt encE 3 w a b off s.es) :
    Calls Tryz.prog 64 #[.agg #[.int .i64 s.st, .int .i64 s.lb, .int .i64 s.s0, .slice a s.es.length c]] w fun e w' => ∃ v, e = .returned (.tuple #[runZ, v]) ∧ FaultS w' p v ∧ Below w.heap.size w w' := by
  have hB0 := ((Below.refl w.heap.size w).alloc (Nat.le_refl _) (Obj.cells #[.int .i64 s.st, .int .i64 s.lb, .int .i64 s.s0, .slice a s.es.length c] 24)).alloc (by simp) (Obj.cells #[.slice none 0 0, .slice none 0 0, .slice none 0 0] 93)
  have hrb := heap_alloc_at (w.alloc (Obj.cells #[.int .i64 s.st, .int .i64 s.lb, .int .i64 s.s0, .slice a s.es.length c] 24)) (Obj.cells #[.slice none 0 0, .slice none 0 0, .slice none 0 0] 93) (w.heap.size + 1) (by simp)
  have hN := newPlayNo_any (c := c) h (hG.below hB0) (hT.below hB0) (hS.below hB0 (Nat.le_refl _))
  have HN := Lib.hid hN; have HB0 := Lib.hid hB0; have HRB := Lib.hid hrb
  clear hN hB0 hS hG hT h hrb
  go_enter Tryz.func64, Tryz.ntmps64
  go_wp2_with fail
  refine HN.out.mono ?_
  rintro e w2 ⟨v, rfl, hf, hB1⟩
  have hb2 := (hB1.block (w.heap.size + 1) (by simp)).trans HRB.out
  obtain ⟨rb, hrb⟩ : ∃ rb, rb = w.heap.size + 1 := ⟨_, rfl⟩
  have hrbg : w.heap.size ≤ rb := by omega
  have hbB := HB0.out.trans (hB1.mono (by simp; omega))
  rw [← hrb] at hb2 ⊢
  have r0 : w2.cell? ⟨rb, 0, none⟩ = some (.slice none 0 0) := by simp [World.cell?, hb2]
  have r1 : w2.cell? ⟨rb, 1, none⟩ = some (.slice none 0 0) := by simp [World.cell?, hb2]
  have r2 : w2.cell? ⟨rb, 2, none⟩ = some (.slice none 0 0) := by simp [World.cell?, hb2]
  have rf0 : w2.frozen? ⟨rb, 0, none⟩ = false := by simp [World.frozen?, hb2]
  have rf1 : w2.frozen? ⟨rb, 1, none⟩ = false := by simp [World.frozen?, hb2]
  have rf2 : w2.frozen? ⟨rb, 2, none⟩ = false := by simp [World.frozen?, hb2]
  have rl := (Array.getElem?_eq_some_iff.1 hb2).1
  have hz3 := Lib.hid (((hbB.setCell (p := ⟨rb, 0, none⟩) hrbg (.slice none 0 0)).setCell (p := ⟨rb, 1, none⟩) hrbg (.slice none 0 0)).setCell (p := ⟨rb, 2, none⟩) hrbg (.slice none 0 0))
  have HF : RowKit.Hid (FaultS (((w2.setCell ⟨rb, 0, none⟩ (.slice none 0 0)).setCell ⟨rb, 1, none⟩ (.slice none 0 0)).setCell ⟨rb, 2, none⟩ (.slice none 0 0)) p v) := Lib.hid (by
    obtain ⟨vi, ⟨⟨f1, rfl, h1⟩⟩, ⟨⟨f2, rfl, h2⟩⟩⟩ := hf
    have key : ∀ (fb : Nat) (l : ByteArray) (i : Value), w2.heap[fb]? = some (Obj.cells #[.string l, .int .i64 0, .int .i64 0, i] 111 (0, 0)) → (((w2.setCell ⟨rb, 0, none⟩ (.slice none 0 0)).setCell ⟨rb, 1, none⟩ (.slice none 0 0)).setCell ⟨rb, 2, none⟩ (.slice none 0 0)).heap[fb]? = some (Obj.cells #[.string l, .int .i64 0, .int .i64 0, i] 111 (0, 0)) := fun fb l i hh => by
      have hne : fb ≠ rb := fun e => by
        rw [e, hb2] at hh
        injection hh with hh; injection hh with _ hh; exact absurd hh (by decide)
      rw [Below.heap_setCell _ _ _ _ hne, Below.heap_setCell _ _ _ _ hne, Below.heap_setCell _ _ _ _ hne]; exact hh
    exact ⟨_, ⟨⟨f1, rfl, key _ _ _ h1⟩⟩, ⟨⟨f2, rfl, key _ _ _ h2⟩⟩⟩)
  obtain ⟨vi, ⟨⟨f1, rfl, _⟩⟩, _⟩ := hf
  clear hb2 hrb hB1 hbB HN HRB HB0
  go_wp2_with fail
  refine bodyPost_ret (v := .tuple #[runZ, .iface 106 (.pointer (some ⟨f1, 0, none⟩))]) (by simp [results, Tryz.results64, go_sem, r0, r1, r2, runZ]) rfl ?_
  exact ⟨_, rfl, HF.out, hz3.out⟩
end Go.Proofs.YtopnedihknjjfaaGreatDoor

namespace Go.Proofs.YtopnedihknjjfaaGreatDoor
open Go.RowKit Pl

theorem big_norm {s : Lts} {n : Nat} {C : Nat → Int} (h : Big s.norm n C) : Big s n C := h.steps (fun _ _ _ _ _ => mem_nf stoE _ s.es)

/-- What Classes answers of a right system. -/
def StrClasses (s : Lts) (n : Nat) (w : World) (e : Ending) (w' : World) : Prop :=
  ∃ (inn : Nat → Nat) (a : Option Addr) (c : Nat), Big s n (fun p => (inn p : Int)) ∧ e = .returned (.tuple #[.slice a n c, .nilIface]) ∧ w'.ownsRow w.heap.size 3 1 (.slice a n c) n ((canon (flN n inn)).flatMap encI) ∧ Below w.heap.size w w'

set_option maxRecDepth 100000 in
set_option maxHeartbeats 2000000 in
theorem strClasses_any {p : Addr} {s : Lts} {n : Nat} (h : s.Right) (hn : s.st = (n : Int)) {a : Option Addr} {b off c : Nat} {w : World} (hG : GErr 0 p w) (hS : SlAt encE 3 w a b off s.es) :
    Calls Tryz.prog 28 #[.agg #[.int .i64 s.st, .int .i64 s.lb, .int .i64 s.s0, .slice a s.es.length c]] w (StrClasses s n w) := by
  have hB0 := (Below.refl w.heap.size w).alloc (Nat.le_refl _) (Obj.cells #[.int .i64 s.st, .int .i64 s.lb, .int .i64 s.s0, .slice a s.es.length c] 24)
  have HB0 := Lib.hid hB0
  rcases Nat.eq_zero_or_pos n with rfl | hn0
  · have HN := Lib.hid (refineZero_any (c := c) h hn (hG.below hB0) (hS.below hB0 (Nat.le_refl _)))
    clear hB0 hS hG h hn
    go_enter Tryz.func28, Tryz.ntmps28
    go_wp2_with fail
    refine HN.out.mono ?_
    unfold runZ
    rintro e w1 ⟨rfl, hB1⟩
    have HB1 := Lib.hid ((HB0.out.trans (hB1.mono (by simp))).alloc (by have := hB1.size; simp at this; omega) (.cells #[.slice none 0 0, .slice none 0 0, .slice none 0 0] 93))
    clear hB1 HN HB0
    go_wp2_with fail
    go_ret2
    exact ⟨fun _ => 0, none, 0, ⟨fun p q hp => by omega, fun R _ p q hp => by omega⟩, rfl, World.ownsRow_nil _ _ _ _, HB1.out⟩
  · have HN := Lib.hid (refineYes_any (c := c) h hn hn0 (hG.below hB0) (hS.below hB0 (Nat.le_refl _)))
    clear hB0 hS hG h hn
    go_enter Tryz.func28, Tryz.ntmps28
    go_wp2_with fail
    refine HN.out.mono ?_
    unfold RefPost
    rintro e w1 ⟨inn, ga, cg, cc, ta, tn, tc, ba, bb, bc, hbig, _, rfl, hown, _, hB1⟩
    have hz : w.heap.size ≤ w1.heap.size := by have := hB1.size; simp at this; omega
    have HB1 := Lib.hid ((HB0.out.trans (hB1.mono (by simp))).alloc hz (.cells #[.slice (some ⟨cg, 0, none⟩) n cc, .slice ta tn tc, .slice ba n bc] 93))
    have HO := Lib.hid ((own_mono hown (show w.heap.size ≤ _ by simp)).alloc (.cells #[.slice (some ⟨cg, 0, none⟩) n cc, .slice ta tn tc, .slice ba n bc] 93))
    have HBIG := Lib.hid (big_norm hbig)
    clear hB1 hown hbig HN HB0
    go_wp2_with fail
    go_ret2
    exact ⟨inn, _, cc, HBIG.out, rfl, HO.out, HB1.out⟩

set_option maxRecDepth 100000 in
set_option maxHeartbeats 2000000 in
theorem strClassesNo_any {p : Addr} {s : Lts} (h : ¬ s.Right) {a : Option Addr} {b off c : Nat} {w : World} (hG : GErr 0 p w) (hT : ErrType w) (hS : SlAt encE 3 w a b off s.es) :
    Calls Tryz.prog 28 #[.agg #[.int .i64 s.st, .int .i64 s.lb, .int .i64 s.s0, .slice a s.es.length c]] w fun e w' => ∃ v, e = .returned (.tuple #[.slice none 0 0, v]) ∧ FaultS w' p v ∧ Below w.heap.size w w' := by
  have hB0 := (Below.refl w.heap.size w).alloc (Nat.le_refl _) (Obj.cells #[.int .i64 s.st, .int .i64 s.lb, .int .i64 s.s0, .slice a s.es.length c] 24)
  have HB0 := Lib.hid hB0
  have HN := Lib.hid (refineNo_any (c := c) h (hG.below hB0) (hT.below hB0) (hS.below hB0 (Nat.le_refl _)))
  clear hB0 hS hG h hT
  go_enter Tryz.func28, Tryz.ntmps28
  go_wp2_with fail
  refine HN.out.mono ?_
  unfold runZ
  rintro e w1 ⟨v, rfl, hf, hB1⟩
  have hz : w.heap.size ≤ w1.heap.size := by have := hB1.size; simp at this; omega
  have HB1 := Lib.hid ((HB0.out.trans (hB1.mono (by simp))).alloc hz (.cells #[.slice none 0 0, .slice none 0 0, .slice none 0 0] 93))
  have HF := Lib.hid (hf.below ((Below.refl w1.heap.size w1).alloc (Nat.le_refl _) (.cells #[.slice none 0 0, .slice none 0 0, .slice none 0 0] 93)))
  clear hB1 hf HN HB0
  go_wp2_with fail
  go_ret2
  exact ⟨v, rfl, HF.out, HB1.out⟩
end Go.Proofs.YtopnedihknjjfaaGreatDoor

namespace Go.Proofs.YtopnedihknjjfaaGreatDoor
open Go.RowKit Pl

theorem sys9 {w : World} {B : Nat} {x y z : Int} {v : Value} (h : w.heap[B]? = some (.cells #[.int .i64 x, .int .i64 y, .int .i64 z, v] 24 (0, 0))) :
    w.cell? ⟨B, 0, none⟩ = some (.int .i64 x) ∧ w.cell? ⟨B, 1, none⟩ = some (.int .i64 y) ∧ w.cell? ⟨B, 2, none⟩ = some (.int .i64 z) ∧ w.cell? ⟨B, 3, none⟩ = some v ∧ B < w.heap.size := by
  refine ⟨?_, ?_, ?_, ?_, (Array.getElem?_eq_some_iff.1 h).1⟩ <;> simp [World.cell?, h]

theorem canon9_wf {l : List Int} (h : l.length ≤ 1000000) : ∀ x ∈ canon l, (Lit.int .i64 x).wf = true := by
  intro x hx
  unfold canon at hx
  obtain ⟨y, hy, rfl⟩ := List.mem_map.1 hx
  have h1 := dist_len l
  have h2 : (dist l).idxOf y ≤ (dist l).length := List.idxOf_le_length
  exact WalkArith.wf_i64 (by omega)
/-- The classes told, as a function. -/
def cl9 (n : Nat) (inn : Nat → Nat) : Nat → Int := clf n (fun p => (inn p : Int))
theorem canon9 (n : Nat) (inn : Nat → Nat) : canon (flN n inn) = fl n (cl9 n inn) := by
  unfold flN cl9
  rw [canon_fl]
theorem cl9_big {s : Lts} {n : Nat} {inn : Nat → Nat} (h : Big s n (fun p => (inn p : Int))) : Big s n (cl9 n inn) := h.clf
theorem big_norm9 {s : Lts} {n : Nat} {C : Nat → Int} (h : Big s n C) : Big s.norm n C := h.steps (fun _ _ _ _ _ => (mem_nf stoE _ s.es).symm)
end Go.Proofs.YtopnedihknjjfaaGreatDoor

namespace Go.Proofs.YtopnedihknjjfaaGreatDoor
open Go.RowKit Pl

set_option maxRecDepth 100000 in
set_option maxHeartbeats 8000000 in
theorem brCoarser_any {w : World} {p : Addr} (hG : GErr 0 p w) (hT : ErrType w) (htab : Lib.TabIs Tryz.prog w "internal/strconv.uint64pow10" .u64 Lib.pow10Tab) {s : Lts} {a : Option Addr} {b off c : Nat} (hS : SlAt encE 3 w a b off s.es) :
    Calls Tryz.prog 8 #[.agg #[.int .i64 s.st, .int .i64 s.lb, .int .i64 s.s0, .slice a s.es.length c]] w fun e w' => e = .returned (.bool true) ∧ Below w.heap.size w w' := by
  have hB0 := (Below.refl w.heap.size w).alloc (Nat.le_refl _) (Obj.cells #[.int .i64 s.st, .int .i64 s.lb, .int .i64 s.s0, .slice a s.es.length c] 24)
  have hbx := heap_alloc_new w (Obj.cells #[.int .i64 s.st, .int .i64 s.lb, .int .i64 s.s0, .slice a s.es.length c] 24)
  have HG := Lib.hid hG; have HTY := Lib.hid hT; have HT := Lib.hid (Lib.tabBelow_of_tabIs htab); have HS := Lib.hid hS; have HB0 := Lib.hid hB0; have HBX := Lib.hid hbx
  have HSM := Lib.hid (small12_any s.s0 s.st s.lb a s.es.length c (w.alloc (Obj.cells #[.int .i64 s.st, .int .i64 s.lb, .int .i64 s.s0, .slice a s.es.length c] 24)))
  clear hG hT htab hS hB0 hbx
  have ALV : RowKit.Hid (∀ w1 : World, Below w.heap.size w w1 → Calls Tryz.prog 13 #[] w1 fun e w' => e = .returned (.bool true) ∧ Below w.heap.size w w' ∧ Below w1.heap.size w1 w') := Lib.hid (by
    intro w1 h1
    refine (alive12_any (HG.out.below h1) (HT.out _ h1)).mono ?_
    rintro e w' ⟨rfl, hB⟩
    exact ⟨rfl, h1.trans (hB.mono h1.size), hB⟩)
  by_cases hsm : (decide (s.st ≤ 40) && decide (s.es.length ≤ 250)) = true
  case neg =>
    have hsf : (decide (s.st ≤ 40) && decide (s.es.length ≤ 250)) = false := by simpa using hsm
    rw [hsf] at HSM
    clear hsm hsf
    go_enter Tryz.func8, Tryz.ntmps8
    go_wp2_with fail
    refine HSM.out.mono ?_
    rintro e w1 ⟨rfl, hB1⟩
    have HB1 := Lib.hid (HB0.out.trans (hB1.mono (by simp)))
    clear hB1
    go_wp2_with fail
    refine (ALV.out _ HB1.out).mono ?_
    rintro e w2 ⟨rfl, hB, _⟩
    go_wp2
    go_ret
    exact ⟨rfl, hB⟩
  rw [hsm] at HSM
  have hs1 : s.st ≤ 40 ∧ s.es.length ≤ 250 := by simpa using hsm
  clear hsm
  by_cases hr : s.Right
  case neg =>
    go_enter Tryz.func8, Tryz.ntmps8
    go_wp2_with fail
    refine HSM.out.mono ?_
    rintro e w1 ⟨rfl, hB1⟩
    have hb1 := HB0.out.trans (hB1.mono (by simp))
    have hx1 := (hB1.block w.heap.size (by simp)).trans HBX.out
    have HB1 := Lib.hid hb1; have HX1 := Lib.hid hx1
    have HCO := Lib.hid (brClassesNo_any (c := c) hr (HG.out.below hb1) (HTY.out.below hb1) (HS.out.below hb1 (Nat.le_refl _)))
    obtain ⟨x0, x1, x2, x3, x4⟩ := sysB hx1
    clear hB1 hb1 hx1 HSM HB0 HBX
    go_wp2_with fail
    refine HCO.out.mono ?_
    rintro e w2 ⟨fb, rfl, hB2⟩
    have hb2 := HB1.out.trans (hB2.mono HB1.out.size)
    have hx2 := (hB2.block w.heap.size x4).trans HX1.out
    have HB2 := Lib.hid hb2
    have HCL := Lib.hid (strClassesNo_any (c := c) hr (HG.out.below hb2) (HTY.out.below hb2) (HS.out.below hb2 (Nat.le_refl _)))
    clear x0 x1 x2 x3 x4
    obtain ⟨x0, x1, x2, x3, x4⟩ := sysB hx2
    clear hB2 hb2 hx2 HCO HB1 HX1 hr
    go_wp2_with fail
    refine HCL.out.mono ?_
    rintro e w4 ⟨v, rfl, hf, hB4⟩
    obtain ⟨v1, hf, _⟩ := hf
    obtain ⟨fb2, rfl, _⟩ := hf.ex
    have HB4 := Lib.hid (HB2.out.trans (hB4.mono HB2.out.size))
    clear hB4 hf HCL HB2 x0 x1 x2 x3 x4
    go_wp2_with fail
    refine (ALV.out _ HB4.out).mono ?_
    rintro e w5 ⟨rfl, hB, _⟩
    have HB := Lib.hid hB
    clear hB
    go_wp2_with fail
    go_ret
    exact ⟨rfl, HB.out⟩
  case pos =>
  have hst := hr.st0
  obtain ⟨n, hn⟩ : ∃ n : Nat, s.st = (n : Int) := ⟨s.st.toNat, by omega⟩
  have hn40 : n ≤ 40 := by omega
  have HR := Lib.hid hr; have HN := Lib.hid hn; have HEL := Lib.hid hs1.2
  rw [hn] at HSM HB0 HBX ⊢
  clear hr hn hst hs1
  go_enter Tryz.func8, Tryz.ntmps8
  go_wp2_with fail
  refine HSM.out.mono ?_
  rintro e w1 ⟨rfl, hB1⟩
  have hb1 := HB0.out.trans (hB1.mono (by simp))
  have hx1 := (hB1.block w.heap.size (by simp)).trans HBX.out
  have HB1 := Lib.hid hb1; have HX1 := Lib.hid hx1
  have hcl := brClasses_any (c := c) HR.out HN.out (by have := HEL.out; omega) (HG.out.below hb1) (HT.out _ hb1) (HS.out.below hb1 (Nat.le_refl _))
  rw [HN.out] at hcl
  have HCL := Lib.hid hcl
  obtain ⟨x0, x1, x2, x3, x4⟩ := sysB hx1
  clear hB1 hb1 hx1 hcl HSM HB0 HBX
  go_wp2_with fail
  refine HCL.out.mono ?_
  unfold BrPost
  rintro e w2 ⟨R, ra, rb, rc, hres, rfl, _, hrs, hB2⟩
  obtain ⟨C, hbig, rfl, hz1, hz2⟩ := hres.big HR.out HN.out
  clear hz1 hz2
  have hb2 := HB1.out.trans (hB2.mono HB1.out.size)
  have HX2 := Lib.hid ((hB2.block w.heap.size x4).trans HX1.out)
  have hsc := strClasses_any (c := c) HR.out HN.out (HG.out.below hb2) (HS.out.below hb2 (Nat.le_refl _))
  rw [HN.out] at hsc
  have HSC := Lib.hid hsc; have HB2 := Lib.hid hb2; have HRS := Lib.hid hrs; have HBG := Lib.hid hbig
  clear x0 x1 x2 x3 x4
  obtain ⟨x0, x1, x2, x3, x4⟩ := sysB HX2.out
  clear hres hrs hbig hB2 hb2 hsc HB1 HX1 HCL
  go_wp2_with fail
  refine HSC.out.mono ?_
  unfold StrClasses
  rintro e w3 ⟨inn, da, dc, hsb, rfl, hown, hB3⟩
  rw [canon9] at hown
  have hown2 : w3.ownsRow w2.heap.size 3 1 (.slice da n dc) (fl n (cl9 n inn)).length ((fl n (cl9 n inn)).flatMap encI) := by rw [fl_len]; exact hown
  obtain ⟨_, _, db, hv, hz1, hz2, hds, hz3⟩ := slAt_own lenI hown2
  clear hz1 hz2 hz3
  simp only [Value.slice.injEq] at hv
  obtain ⟨rfl, hv2, rfl⟩ := hv
  clear hv2
  have hb3 := HB2.out.trans (hB3.mono HB2.out.size)
  have HX3 := Lib.hid ((hB3.block w.heap.size x4).trans HX2.out)
  obtain ⟨E, hE⟩ : ∃ E, E = cl9 n inn := ⟨_, rfl⟩
  have hsb2 := cl9_big hsb
  rw [← hE] at hds hsb2
  have HB3 := Lib.hid hb3; have HRS3 := Lib.hid (HRS.out.below hB3 (Nat.le_refl _)); have HDS3 := Lib.hid hds; have HSB := Lib.hid hsb2
  have HES3 := Lib.hid (HS.out.below hb3 (Nat.le_refl _))
  clear x0 x1 x2 x3 x4
  obtain ⟨x0, x1, x2, x3, x4⟩ := sysB HX3.out
  obtain ⟨el, hel⟩ : ∃ el, el = s.es.length := ⟨_, rfl⟩
  have HELE := Lib.hid hel
  have hel2 : el ≤ 250 := by have := HEL.out; omega
  rw [← hel] at HX3 x3
  clear hown hown2 hds hsb hsb2 hE hB3 hb3 hel HX2 HRS HB2 HSC
  have hel4 : s.es.length = el := HELE.out.symm
  rw [hel4]
  clear hel4
  go_wp2_with fail
  clear x0 x1 x2 x3 x4
  go_loopw [7, 9, 56] (fun v7 _ v56 wr => ∃ k : Nat, v56 = .int .i64 k ∧ k ≤ el ∧ v7 = .bool ((s.es.take k).all (fun x => x.2.1 != 0)) ∧ Below w3.heap.size w3 wr) (fun _ _ v56 _ => el - (intOf v56).toNat)
  case atStart => exact ⟨0, rfl, Nat.zero_le _, by simp, Below.refl _ _⟩
  case round =>
    obtain ⟨k, rfl, hk, rfl, hB⟩ := hrel
    have HBX := Lib.hid hB
    have hwx := hB.size
    by_cases hke : k < el
    · obtain ⟨y, hy⟩ := getElem?_of_lt (xs := s.es) (i := k) (by have := HELE.out; omega)
      have hss := HES3.out.below hB (Nat.le_refl _)
      obtain rfl := hss.ad (by have := HELE.out; omega)
      have d0 := hss.e0 hy; have d1 := hss.e1 hy; have d2 := hss.e2 hy
      have dl := hss.lt (by have := HELE.out; omega)
      have HSN : RowKit.Hid ((s.es.take (k + 1)).all (fun x => x.2.1 != 0) = ((s.es.take k).all (fun x => x.2.1 != 0) && (y.2.1 != 0))) := Lib.hid (by rw [take_snoc hy, List.all_append]; simp)
      obtain ⟨y1, y2, y3⟩ := y
      simp only at d0 d1 d2 HSN
      obtain ⟨bl, hbl⟩ : ∃ bl, bl = (s.es.take k).all (fun x => x.2.1 != 0) := ⟨_, rfl⟩
      rw [← hbl] at HSN ⊢
      have hkI : (k : Int) < (el : Int) := by omega
      have HBA := Lib.hid (HBX.out.alloc hwx (.cells #[.int .i64 y1, .int .i64 y2, .int .i64 y3] 36))
      clear hss hy hbl hB
      cases bl
      · go_wp2_with fail
        go_roundw
        case rel => exact ⟨k + 1, by go_num, by omega, by rw [HSN.out]; rfl, HBA.out⟩
        case measure => simp [intOf]; omega
      · by_cases hy0 : y2 = 0
        · subst hy0
          go_wp2_with fail
          go_roundw
          case rel => exact ⟨k + 1, by go_num, by omega, by rw [HSN.out]; rfl, HBA.out⟩
          case measure => simp [intOf]; omega
        · have hyb : (y2 != 0) = true := by simp [hy0]
          clear hy0
          go_wp2_with fail
          go_roundw
          case rel => exact ⟨k + 1, by go_num, by omega, by rw [HSN.out, hyb]; rfl, HBA.out⟩
          case measure => simp [intOf]; omega
    · obtain rfl : el = k := by omega
      have hall : s.es.take el = s.es := by rw [HELE.out, List.take_length]
      rw [hall]
      have HLD : RowKit.Hid (s.es.all (fun x => x.2.1 != 0) = true → ∀ x ∈ s.es, x.2.1 ≠ 0) := Lib.hid (fun h x hx => by
        have := List.all_eq_true.1 h x hx
        simpa using this)
      obtain ⟨ld, hld⟩ : ∃ ld, ld = s.es.all (fun x => x.2.1 != 0) := ⟨_, rfl⟩
      rw [← hld] at HLD ⊢
      have HB4 := Lib.hid (HB3.out.trans (HBX.out.mono HB3.out.size)); have HX4 := Lib.hid ((HBX.out.block w.heap.size (Array.getElem?_eq_some_iff.1 HX3.out).1).trans HX3.out)
      have HRS4 := Lib.hid (HRS3.out.below HBX.out (Nat.le_refl _)); have HDS4 := Lib.hid (HDS3.out.below HBX.out (Nat.le_refl _))
      obtain ⟨W, hW⟩ : ∃ W, W = wr := ⟨_, rfl⟩
      subst hW
      clear hall hld hB HBX HX3 HRS3 HDS3 HB3 HES3
      obtain ⟨x0, x1, x2, x3, x4⟩ := sysB HX4.out
      go_wp2_with fail
      clear x0 x1 x2 x3 x4
      go_loopw [10, 11] (fun v10 _ wx => ∃ i : Nat, v10 = .int .i64 i ∧ i ≤ n ∧ Below W.heap.size W wx) (fun v10 _ _ => n - (intOf v10).toNat)
      case atStart => exact ⟨0, rfl, Nat.zero_le _, Below.refl _ _⟩
      case round =>
        obtain ⟨i, rfl, hi, hBx⟩ := hrel
        have HBX := Lib.hid hBx
        have hxo := (hBx.block w.heap.size (Array.getElem?_eq_some_iff.1 HX4.out).1).trans HX4.out
        obtain ⟨x0, x1, x2, x3, x4⟩ := sysB hxo
        clear hBx hxo x1 x2 x3
        by_cases hin : i < n
        · have hiI : (i : Int) < (n : Int) := by omega
          go_wp2_with fail
          clear x0 x4
          go_loopw [11] (fun v11 wy => ∃ j : Nat, v11 = .int .i64 j ∧ j ≤ i ∧ Below W.heap.size W wy) (fun v11 _ => i - (intOf v11).toNat)
          case atStart => exact ⟨0, rfl, Nat.zero_le _, HBX.out⟩
          case round =>
            obtain ⟨j, rfl, hj, hBy⟩ := hrel
            have HBY := Lib.hid hBy
            by_cases hji : j < i
            · have hjn : j < n := by omega
              have hrs := HRS4.out.below hBy (Nat.le_refl _)
              have hds := HDS4.out.below hBy (Nat.le_refl _)
              obtain rfl := hrs.ad (by rw [fl_len]; omega)
              obtain rfl := hds.ad (by rw [fl_len]; omega)
              have r0 := hrs.ci (fl_get C hin); have r1 := hrs.ci (fl_get C hjn); have rl := hrs.lt (by rw [fl_len]; omega)
              have d0 := hds.ci (fl_get E hin); have d1 := hds.ci (fl_get E hjn); have dl := hds.lt (by rw [fl_len]; omega)
              simp only [Nat.zero_add] at r0 r1 d0 d1
              have hst1 : E i = E j → C i = C j := fun e => strong_br HBG.out HSB.out hin hjn e
              have hst2 : ld = true → C i = C j → E i = E j := fun h e => br_strong HR.out HN.out HBG.out HSB.out (HLD.out h) hin hjn e
              obtain ⟨ci, hci⟩ : ∃ ci, ci = C i := ⟨_, rfl⟩
              obtain ⟨cj, hcj⟩ : ∃ cj, cj = C j := ⟨_, rfl⟩
              obtain ⟨di, hdi⟩ : ∃ di, di = E i := ⟨_, rfl⟩
              obtain ⟨dj, hdj⟩ : ∃ dj, dj = E j := ⟨_, rfl⟩
              rw [← hci] at r0 hst1 hst2; rw [← hcj] at r1 hst1 hst2; rw [← hdi] at d0 hst1 hst2; rw [← hdj] at d1 hst1 hst2
              have hjI : (j : Int) < (i : Int) := by omega
              have hjnI : (j : Int) < (n : Int) := by omega
              clear hrs hds hci hcj hdi hdj hBy
              by_cases he : di = dj
              · have he2 := hst1 he
                subst he; subst he2
                clear hst1 hst2
                cases ld
                · go_wp2_with fail
                  go_quiet (fail)
                  go_wp2_with fail
                  go_roundw
                  case rel => exact ⟨j + 1, by go_num, by omega, bdrew HBY.out⟩
                  case measure => simp [intOf]; omega
                · go_wp2_with fail
                  go_quiet (fail)
                  go_wp2_with fail
                  go_roundw
                  case rel => exact ⟨j + 1, by go_num, by omega, bdrew HBY.out⟩
                  case measure => simp [intOf]; omega
              · have hb2 : (di == dj) = false := by simp [he]
                have hb3 : (di != dj) = true := by simp [he]
                cases ld
                · clear hst1 hst2 he
                  go_wp2_with fail
                  go_quiet (fail)
                  go_wp2_with fail
                  go_roundw
                  case rel => exact ⟨j + 1, by go_num, by omega, bdrew HBY.out⟩
                  case measure => simp [intOf]; omega
                · have hb1 : (ci == cj) = false := by
                    have : ¬ ci = cj := fun h => he (hst2 rfl h)
                    simp [this]
                  clear hst1 hst2 he
                  go_wp2_with fail
                  go_quiet (fail)
                  go_wp2_with fail
                  go_roundw
                  case rel => exact ⟨j + 1, by go_num, by omega, bdrew HBY.out⟩
                  case measure => simp [intOf]; omega
            · obtain rfl : i = j := by omega
              clear hBy
              go_wp2_with fail
              go_roundw
              case rel => exact ⟨i + 1, by go_num, by omega, HBY.out⟩
              case measure => simp [intOf]; omega
        · obtain rfl : n = i := by omega
          go_wp2_with fail
          refine (ALV.out _ (HB4.out.trans (HBX.out.mono HB4.out.size))).mono ?_
          rintro e w9 ⟨rfl, hB, _⟩
          go_wp2
          go_ret
          exact ⟨rfl, hB⟩
end Go.Proofs.YtopnedihknjjfaaGreatDoor

/-
  Lemmas.
-/
import Derived.Test.YtdhloijdefnkpaaGreatDoorGStrH
import Derived.Test.YtdhloijdefnkpaaGreatDoorGTauG
import Derived.Test.YtdhloijdefnkpaaGreatDoorGKeyS
import Derived.Test.YtdhloijdefnkpaaGreatDoorGPl3
import Derived.Deep.RegionHeld3
import Derived.Deep.QuietTactic
import Derived.BigQuiet
namespace Go.Proofs.YtdhloijdefnkpaaGreatDoor
open Go.RowKit Pl
open Lib (hid)
def PlayZ (w : World) (xb gb : Nat) : Prop := ∃ pb hb qb, w.heap[xb]? = some (.cells #[.pointer (some ⟨gb, 0, none⟩), .pointer (some ⟨pb, 0, none⟩), .slice (some ⟨hb, 0, none⟩) 0 0, .slice none 0 0, .slice none 0 0, .slice none 0 0, .slice (some ⟨qb, 0, none⟩) 0 0] 159 (0, 0)) ∧ ParZ w pb
set_option maxRecDepth 100000 in
set_option maxHeartbeats 2000000 in
theorem newPlayZero_any {p : Addr} {s : Lts} (h : s.Right) (hn : s.st = 0) {a : Option Addr} {b off c : Nat} {w : World} (hG : GErr 1 p w) (hS : SlAt encE 3 w a b off s.es) :
    Calls Tryz.prog 98 #[.agg #[.int .i64 s.st, .int .i64 s.lb, .int .i64 s.s0, .slice a s.es.length c]] w fun e w' => ∃ xb gb, e = .returned (.tuple #[.pointer (some ⟨xb, 0, none⟩), .nilIface]) ∧ PlayZ w' xb gb ∧ GraphAt w' gb s.norm ∧ Below w.heap.size w w' := by
  have hB0 := (Below.refl w.heap.size w).alloc (Nat.le_refl _) (Obj.cells #[.int .i64 s.st, .int .i64 s.lb, .int .i64 s.s0, .slice a s.es.length c] 24)
  have hN := new_ok (c := c) h (hG.below hB0) (hS.below hB0 (Nat.le_refl _))
  have hmk : ∀ w, (Instr.makeSlice 33 (.int .i64 0) (.int .i64 0)).run Tryz.prog w = .ok (.slice (some ⟨w.heap.size, 0, none⟩) 0 0) (w.alloc (.cells #[] 3)) := fun _ => by kernel_rfl
  have HN := hid hN; have HB0 := hid hB0
  have HNM : Hid (s.norm.st = 0) := hid hn
  clear hN hB0 hS hG h hn
  go_enter Tryz.func98, Tryz.ntmps98
  go_wp2_with fail
  refine HN.out.mono ?_
  rintro e w0 ⟨gb, rfl, hGr, hB1, _⟩
  have HGR := hid hGr
  have HW0 := hid (HB0.out.trans (hB1.mono (by simp)))
  have hs1 := getStates_any hGr
  rw [HNM.out] at hs1
  have HS1 := hid hs1
  clear hGr hB1 hs1 HN HB0
  go_wp2_with fail
  refine HS1.out.mono ?_
  rintro e w1 ⟨rfl, hB1⟩
  have hx1 := heap_alloc_at (w1.alloc (.cells #[] 3)) (.cells #[.pointer (some ⟨gb, 0, none⟩), .pointer none, .slice (some ⟨w1.heap.size, 0, none⟩) 0 0, .slice none 0 0, .slice none 0 0, .slice none 0 0, .slice none 0 0] 159) (w1.heap.size + 1) (by simp)
  have hB2 := (hB1.alloc hB1.size (.cells #[] 3)).alloc (by have := hB1.size; simp; omega) (.cells #[.pointer (some ⟨gb, 0, none⟩), .pointer none, .slice (some ⟨w1.heap.size, 0, none⟩) 0 0, .slice none 0 0, .slice none 0 0, .slice none 0 0, .slice none 0 0] 159)
  have hlo : w0.heap.size ≤ w1.heap.size + 1 := by have := hB1.size; omega
  go_upto_region 5 with fail
  obtain ⟨V, hV⟩ : ∃ V, V = (w1.alloc (.cells #[] 3)).alloc (.cells #[.pointer (some ⟨gb, 0, none⟩), .pointer none, .slice (some ⟨w1.heap.size, 0, none⟩) 0 0, .slice none 0 0, .slice none 0 0, .slice none 0 0, .slice none 0 0] 159) := ⟨_, rfl⟩
  obtain ⟨hb, hhb⟩ : ∃ hb, hb = w1.heap.size := ⟨_, rfl⟩
  obtain ⟨xb, hxb⟩ : ∃ xb, xb = w1.heap.size + 1 := ⟨_, rfl⟩
  rw [← hV] at hx1 hB2 ⊢
  rw [← hxb] at hx1 hlo ⊢
  rw [← hhb] at hx1
  have HX1 := hid hx1; have HB2 := hid hB2
  have hs2 := getStates_any (HGR.out.below hB2)
  rw [HNM.out] at hs2
  have HS2 := hid hs2
  clear hV hhb hxb hx1 hB1 hB2 hs2 HS1
  go_wp2_with fail
  refine HS2.out.mono ?_
  rintro e w2 ⟨rfl, hB3⟩
  have HX2 := hid ((hB3.block xb (Array.getElem?_eq_some_iff.1 HX1.out).1).trans HX1.out)
  have HB3 := hid (HB2.out.trans (hB3.mono HB2.out.size))
  clear hB3 HS2 HX1 HB2
  go_wp2_with fail
  refine (parNew_zero w2).mono ?_
  rintro e w3 ⟨pb, rfl, hpz, hB4, hpl⟩
  have hx3 := (hB4.block xb (Array.getElem?_eq_some_iff.1 HX2.out).1).trans HX2.out
  have x1 : w3.cell? ⟨xb, 1, none⟩ = some (.pointer none) := by simp [World.cell?, hx3]
  have xf : w3.frozen? ⟨xb, 1, none⟩ = false := by simp [World.frozen?, hx3]
  have xl := (Array.getElem?_eq_some_iff.1 hx3).1
  have hx4 := heap_setCell_same w3 xb 1 _ _ (.pointer (some ⟨pb, 0, none⟩)) hx3
  have hxlt := (Array.getElem?_eq_some_iff.1 HX2.out).1
  have hpz4 : ParZ (w3.setCell ⟨xb, 1, none⟩ (.pointer (some ⟨pb, 0, none⟩))) pb := by
    obtain ⟨qb, bb, ia, ic, h⟩ := hpz
    exact ⟨qb, bb, ia, ic, by rw [Below.heap_setCell _ _ _ _ (show pb ≠ xb by omega)]; exact h⟩
  have hB5 := (HB3.out.trans (hB4.mono HB3.out.size)).setCell (p := ⟨xb, 1, none⟩) hlo (.pointer (some ⟨pb, 0, none⟩))
  go_upto_region 6 with fail
  obtain ⟨Y, hY⟩ : ∃ Y, Y = w3.setCell ⟨xb, 1, none⟩ (.pointer (some ⟨pb, 0, none⟩)) := ⟨_, rfl⟩
  rw [← hY] at hx4 hpz4 hB5 ⊢
  have HX4 := hid hx4; have HPZ := hid hpz4; have HB5 := hid hB5
  have hs3 := getStates_any (HGR.out.below hB5)
  rw [HNM.out] at hs3
  have HS3 := hid hs3
  clear hY x1 xf xl hx3 hx4 hpz hpz4 hB4 hB5 hs3 HX2 HB3 hxlt hpl
  go_wp2_with fail
  refine HS3.out.mono ?_
  rintro e w5 ⟨rfl, hB6⟩
  have hx5 := (hB6.block xb (Array.getElem?_eq_some_iff.1 HX4.out).1).trans HX4.out
  have x6 : w5.cell? ⟨xb, 6, none⟩ = some (.slice none 0 0) := by simp [World.cell?, hx5]
  have xf : w5.frozen? ⟨xb, 6, none⟩ = false := by simp [World.frozen?, hx5]
  have xl := (Array.getElem?_eq_some_iff.1 hx5).1
  have hx6 := heap_setCell_same w5 xb 6 _ _ (.slice (some ⟨w5.heap.size, 0, none⟩) 0 0) hx5
  have hx7 := (Below.heap_alloc (w5.setCell ⟨xb, 6, none⟩ (.slice (some ⟨w5.heap.size, 0, none⟩) 0 0)) (.cells #[] 3) xb (by rw [size_setCell]; exact xl)).trans hx6
  have hpz5 := HPZ.out.below hB6
  have hpz7 : ParZ ((w5.setCell ⟨xb, 6, none⟩ (.slice (some ⟨w5.heap.size, 0, none⟩) 0 0)).alloc (.cells #[] 3)) pb := by
    obtain ⟨qb, bb, ia, ic, h⟩ := hpz5
    refine ⟨qb, bb, ia, ic, ?_⟩
    have hne : pb ≠ xb := fun e => by
      rw [e, hx5] at h
      injection h with h; injection h with _ h; exact absurd h (by decide)
    rw [Below.heap_alloc _ _ _ (by rw [size_setCell]; exact (Array.getElem?_eq_some_iff.1 h).1), Below.heap_setCell _ _ _ _ (show pb ≠ xb from hne)]
    exact h
  have hB7 := ((HB5.out.trans (hB6.mono HB5.out.size)).setCell (p := ⟨xb, 6, none⟩) hlo (.slice (some ⟨w5.heap.size, 0, none⟩) 0 0)).alloc (by rw [size_setCell]; have := HB5.out.size; have := hB6.size; omega) (.cells #[] 3)
  have hgr7 := HGR.out.below hB7
  have HFIN : Hid (PlayZ ((w5.setCell ⟨xb, 6, none⟩ (.slice (some ⟨w5.heap.size, 0, none⟩) 0 0)).alloc (.cells #[] 3)) xb gb) := hid ⟨pb, hb, w5.heap.size, hx7, hpz7⟩
  have HB7 := hid (HW0.out.trans (hB7.mono HW0.out.size)); have HGR7 := hid hgr7
  clear hx5 hx6 hx7 hpz5 hpz7 hB6 hB7 hgr7 HS3 HX4 HPZ HB5
  go_wp2_with fail
  go_ret2
  exact ⟨xb, gb, rfl, HFIN.out, HGR7.out, HB7.out⟩
def runZ : Value := .agg #[.slice none 0 0, .slice none 0 0, .slice none 0 0]
set_option maxRecDepth 100000 in
set_option maxHeartbeats 2000000 in
theorem refineZero_any {p : Addr} {s : Lts} (h : s.Right) (hn : s.st = 0) {a : Option Addr} {b off c : Nat} {w : World} (hG : GErr 1 p w) (hS : SlAt encE 3 w a b off s.es) :
    Calls Tryz.prog 51 #[.agg #[.int .i64 s.st, .int .i64 s.lb, .int .i64 s.s0, .slice a s.es.length c]] w fun e w' => e = .returned (.tuple #[runZ, .nilIface]) ∧ Below w.heap.size w w' := by
  have hB0 := ((Below.refl w.heap.size w).alloc (Nat.le_refl _) (Obj.cells #[.int .i64 s.st, .int .i64 s.lb, .int .i64 s.s0, .slice a s.es.length c] 24)).alloc (by simp) (Obj.cells #[.slice none 0 0, .slice none 0 0, .slice none 0 0] 93)
  have hrb := heap_alloc_at (w.alloc (Obj.cells #[.int .i64 s.st, .int .i64 s.lb, .int .i64 s.s0, .slice a s.es.length c] 24)) (Obj.cells #[.slice none 0 0, .slice none 0 0, .slice none 0 0] 93) (w.heap.size + 1) (by simp)
  have hN := newPlayZero_any (c := c) h hn (hG.below hB0) (hS.below hB0 (Nat.le_refl _))
  have HN := hid hN; have HB0 := hid hB0; have HRB := hid hrb
  have HNM : Hid (s.norm.st = 0) := hid hn
  clear hN hB0 hS hG h hrb hn
  go_enter Tryz.func51, Tryz.ntmps51
  go_wp2_with fail
  refine HN.out.mono ?_
  rintro e w1 ⟨xb, gb, rfl, hpz, hgr, hB1⟩
  have hb1 := (hB1.block (w.heap.size + 1) (by simp)).trans HRB.out
  obtain ⟨pb, hb, qb, hx, _⟩ := hpz
  have x0 : w1.cell? ⟨xb, 0, none⟩ = some (.pointer (some ⟨gb, 0, none⟩)) := by simp [World.cell?, hx]
  have xl := (Array.getElem?_eq_some_iff.1 hx).1
  have hst := getStates_any hgr
  rw [HNM.out] at hst
  have HST := hid hst; have HB1 := hid (HB0.out.trans (hB1.mono (by simp; omega))); have HRB1 := hid hb1
  clear hb1 hx hst hB1 hgr HN HB0 HRB
  go_wp2_with fail
  refine HST.out.mono ?_
  rintro e w2 ⟨rfl, hB2⟩
  have hb2 := (hB2.block (w.heap.size + 1) (Array.getElem?_eq_some_iff.1 HRB1.out).1).trans HRB1.out
  obtain ⟨rb, hrb⟩ : ∃ rb, rb = w.heap.size + 1 := ⟨_, rfl⟩
  have hrbg : w.heap.size ≤ rb := by omega
  rw [← hrb] at hb2 ⊢
  have r0 : w2.cell? ⟨rb, 0, none⟩ = some (.slice none 0 0) := by simp [World.cell?, hb2]
  have r1 : w2.cell? ⟨rb, 1, none⟩ = some (.slice none 0 0) := by simp [World.cell?, hb2]
  have r2 : w2.cell? ⟨rb, 2, none⟩ = some (.slice none 0 0) := by simp [World.cell?, hb2]
  have rf0 : w2.frozen? ⟨rb, 0, none⟩ = false := by simp [World.frozen?, hb2]
  have rf1 : w2.frozen? ⟨rb, 1, none⟩ = false := by simp [World.frozen?, hb2]
  have rf2 : w2.frozen? ⟨rb, 2, none⟩ = false := by simp [World.frozen?, hb2]
  have rl := (Array.getElem?_eq_some_iff.1 hb2).1
  have hz3 := hid ((((HB1.out.trans (hB2.mono HB1.out.size)).setCell (p := ⟨rb, 0, none⟩) hrbg (.slice none 0 0)).setCell (p := ⟨rb, 1, none⟩) hrbg (.slice none 0 0)).setCell (p := ⟨rb, 2, none⟩) hrbg (.slice none 0 0))
  clear hb2 hrb hB2 HST HRB1 x0 xl
  go_wp2_with fail
  refine bodyPost_ret (v := .tuple #[runZ, .nilIface]) (by simp [results, Tryz.results51, go_sem, r0, r1, r2, runZ]) rfl ?_
  exact ⟨rfl, hz3.out⟩
set_option maxRecDepth 100000 in
set_option maxHeartbeats 2000000 in
theorem refineNo_any {p : Addr} {s : Lts} (h : ¬ s.Right) {a : Option Addr} {b off c : Nat} {w : World} (hG : GErr 1 p w) (hT : ErrType w) (hS : SlAt encE 3 w a b off s.es) :
    Calls Tryz.prog 51 #[.agg #[.int .i64 s.st, .int .i64 s.lb, .int .i64 s.s0, .slice a s.es.length c]] w fun e w' => ∃ v, e = .returned (.tuple #[runZ, v]) ∧ FaultS w' p v ∧ Below w.heap.size w w' := by
  have hB0 := ((Below.refl w.heap.size w).alloc (Nat.le_refl _) (Obj.cells #[.int .i64 s.st, .int .i64 s.lb, .int .i64 s.s0, .slice a s.es.length c] 24)).alloc (by simp) (Obj.cells #[.slice none 0 0, .slice none 0 0, .slice none 0 0] 93)
  have hrb := heap_alloc_at (w.alloc (Obj.cells #[.int .i64 s.st, .int .i64 s.lb, .int .i64 s.s0, .slice a s.es.length c] 24)) (Obj.cells #[.slice none 0 0, .slice none 0 0, .slice none 0 0] 93) (w.heap.size + 1) (by simp)
  have hN := newPlayNo_any (c := c) h (hG.below hB0) (hT.below hB0) (hS.below hB0 (Nat.le_refl _))
  have HN := hid hN; have HB0 := hid hB0; have HRB := hid hrb
  clear hN hB0 hS hG hT h hrb
  go_enter Tryz.func51, Tryz.ntmps51
  go_wp2_with fail
  refine HN.out.mono ?_
  rintro e w2 ⟨v, rfl, hf, hB1⟩
  have hb2 := (hB1.block (w.heap.size + 1) (by simp)).trans HRB.out
  obtain ⟨rb, hrb⟩ : ∃ rb, rb = w.heap.size + 1 := ⟨_, rfl⟩
  have hrbg : w.heap.size ≤ rb := by omega
  have hbB := HB0.out.trans (hB1.mono (by simp; omega))
  rw [← hrb] at hb2 ⊢
  have r0 : w2.cell? ⟨rb, 0, none⟩ = some (.slice none 0 0) := by simp [World.cell?, hb2]
  have r1 : w2.cell? ⟨rb, 1, none⟩ = some (.slice none 0 0) := by simp [World.cell?, hb2]
  have r2 : w2.cell? ⟨rb, 2, none⟩ = some (.slice none 0 0) := by simp [World.cell?, hb2]
  have rf0 : w2.frozen? ⟨rb, 0, none⟩ = false := by simp [World.frozen?, hb2]
  have rf1 : w2.frozen? ⟨rb, 1, none⟩ = false := by simp [World.frozen?, hb2]
  have rf2 : w2.frozen? ⟨rb, 2, none⟩ = false := by simp [World.frozen?, hb2]
  have rl := (Array.getElem?_eq_some_iff.1 hb2).1
  have hz3 := hid (((hbB.setCell (p := ⟨rb, 0, none⟩) hrbg (.slice none 0 0)).setCell (p := ⟨rb, 1, none⟩) hrbg (.slice none 0 0)).setCell (p := ⟨rb, 2, none⟩) hrbg (.slice none 0 0))
  have HF : Hid (FaultS (((w2.setCell ⟨rb, 0, none⟩ (.slice none 0 0)).setCell ⟨rb, 1, none⟩ (.slice none 0 0)).setCell ⟨rb, 2, none⟩ (.slice none 0 0)) p v) := hid (by
    obtain ⟨vi, ⟨⟨f1, rfl, h1⟩⟩, ⟨⟨f2, rfl, h2⟩⟩⟩ := hf
    have key : ∀ (fb : Nat) (l : ByteArray) (i : Value), w2.heap[fb]? = some (Obj.cells #[.string l, .int .i64 0, .int .i64 0, i] 76 (0, 0)) → (((w2.setCell ⟨rb, 0, none⟩ (.slice none 0 0)).setCell ⟨rb, 1, none⟩ (.slice none 0 0)).setCell ⟨rb, 2, none⟩ (.slice none 0 0)).heap[fb]? = some (Obj.cells #[.string l, .int .i64 0, .int .i64 0, i] 76 (0, 0)) := fun fb l i hh => by
      have hne : fb ≠ rb := fun e => by
        rw [e, hb2] at hh
        injection hh with hh; injection hh with _ hh; exact absurd hh (by decide)
      rw [Below.heap_setCell _ _ _ _ hne, Below.heap_setCell _ _ _ _ hne, Below.heap_setCell _ _ _ _ hne]; exact hh
    exact ⟨_, ⟨⟨f1, rfl, key _ _ _ h1⟩⟩, ⟨⟨f2, rfl, key _ _ _ h2⟩⟩⟩)
  obtain ⟨vi, ⟨⟨f1, rfl, _⟩⟩, _⟩ := hf
  clear hb2 hrb hB1 hbB HN HRB HB0
  go_wp2_with fail
  refine bodyPost_ret (v := .tuple #[runZ, .iface 73 (.pointer (some ⟨f1, 0, none⟩))]) (by simp [results, Tryz.results51, go_sem, r0, r1, r2, runZ]) rfl ?_
  exact ⟨_, rfl, HF.out, hz3.out⟩
end Go.Proofs.YtdhloijdefnkpaaGreatDoor
namespace Go.Proofs.YtdhloijdefnkpaaGreatDoor
open Go.RowKit Pl
open Lib (hid)
theorem big_norm {s : Lts} {n : Nat} {C : Nat → Int} (h : Big s.norm n C) : Big s n C := h.steps (fun _ _ _ _ _ => mem_nf stoE _ s.es)
def StrClasses (s : Lts) (n : Nat) (w : World) (e : Ending) (w' : World) : Prop :=
  ∃ (inn : Nat → Nat) (a : Option Addr) (c : Nat), Big s n (fun p => (inn p : Int)) ∧ e = .returned (.tuple #[.slice a n c, .nilIface]) ∧ w'.ownsRow w.heap.size 3 1 (.slice a n c) n ((canon (flN n inn)).flatMap encI) ∧ Below w.heap.size w w'
set_option maxRecDepth 100000 in
set_option maxHeartbeats 2000000 in
theorem strClasses_any {p : Addr} {s : Lts} {n : Nat} (h : s.Right) (hn : s.st = (n : Int)) {a : Option Addr} {b off c : Nat} {w : World} (hG : GErr 1 p w) (hS : SlAt encE 3 w a b off s.es) :
    Calls Tryz.prog 23 #[.agg #[.int .i64 s.st, .int .i64 s.lb, .int .i64 s.s0, .slice a s.es.length c]] w (StrClasses s n w) := by
  have hB0 := (Below.refl w.heap.size w).alloc (Nat.le_refl _) (Obj.cells #[.int .i64 s.st, .int .i64 s.lb, .int .i64 s.s0, .slice a s.es.length c] 24)
  have HB0 := hid hB0
  rcases Nat.eq_zero_or_pos n with rfl | hn0
  · have HN := hid (refineZero_any (c := c) h hn (hG.below hB0) (hS.below hB0 (Nat.le_refl _)))
    clear hB0 hS hG h hn
    go_enter Tryz.func23, Tryz.ntmps23
    go_wp2_with fail
    refine HN.out.mono ?_
    unfold runZ
    rintro e w1 ⟨rfl, hB1⟩
    have HB1 := hid ((HB0.out.trans (hB1.mono (by simp))).alloc (by have := hB1.size; simp at this; omega) (.cells #[.slice none 0 0, .slice none 0 0, .slice none 0 0] 93))
    clear hB1 HN HB0
    go_wp2_with fail
    go_ret2
    exact ⟨fun _ => 0, none, 0, ⟨fun p q hp => by omega, fun R _ p q hp => by omega⟩, rfl, World.ownsRow_nil _ _ _ _, HB1.out⟩
  · have HN := hid (refineYes_any (c := c) h hn hn0 (hG.below hB0) (hS.below hB0 (Nat.le_refl _)))
    clear hB0 hS hG h hn
    go_enter Tryz.func23, Tryz.ntmps23
    go_wp2_with fail
    refine HN.out.mono ?_
    unfold RefPost
    rintro e w1 ⟨inn, ga, cg, cc, ta, tn, tc, ba, bb, bc, hbig, _, rfl, hown, _, hB1⟩
    have hz : w.heap.size ≤ w1.heap.size := by have := hB1.size; simp at this; omega
    have HB1 := hid ((HB0.out.trans (hB1.mono (by simp))).alloc hz (.cells #[.slice (some ⟨cg, 0, none⟩) n cc, .slice ta tn tc, .slice ba n bc] 93))
    have HO := hid ((own_mono hown (show w.heap.size ≤ _ by simp)).alloc (.cells #[.slice (some ⟨cg, 0, none⟩) n cc, .slice ta tn tc, .slice ba n bc] 93))
    have HBIG := hid (big_norm hbig)
    clear hB1 hown hbig HN HB0
    go_wp2_with fail
    go_ret2
    exact ⟨inn, _, cc, HBIG.out, rfl, HO.out, HB1.out⟩
set_option maxRecDepth 100000 in
set_option maxHeartbeats 2000000 in
theorem strClassesNo_any {p : Addr} {s : Lts} (h : ¬ s.Right) {a : Option Addr} {b off c : Nat} {w : World} (hG : GErr 1 p w) (hT : ErrType w) (hS : SlAt encE 3 w a b off s.es) :
    Calls Tryz.prog 23 #[.agg #[.int .i64 s.st, .int .i64 s.lb, .int .i64 s.s0, .slice a s.es.length c]] w fun e w' => ∃ v, e = .returned (.tuple #[.slice none 0 0, v]) ∧ FaultS w' p v ∧ Below w.heap.size w w' := by
  have hB0 := (Below.refl w.heap.size w).alloc (Nat.le_refl _) (Obj.cells #[.int .i64 s.st, .int .i64 s.lb, .int .i64 s.s0, .slice a s.es.length c] 24)
  have HB0 := hid hB0
  have HN := hid (refineNo_any (c := c) h (hG.below hB0) (hT.below hB0) (hS.below hB0 (Nat.le_refl _)))
  clear hB0 hS hG h hT
  go_enter Tryz.func23, Tryz.ntmps23
  go_wp2_with fail
  refine HN.out.mono ?_
  unfold runZ
  rintro e w1 ⟨v, rfl, hf, hB1⟩
  have hz : w.heap.size ≤ w1.heap.size := by have := hB1.size; simp at this; omega
  have HB1 := hid ((HB0.out.trans (hB1.mono (by simp))).alloc hz (.cells #[.slice none 0 0, .slice none 0 0, .slice none 0 0] 93))
  have HF := hid (hf.below ((Below.refl w1.heap.size w1).alloc (Nat.le_refl _) (.cells #[.slice none 0 0, .slice none 0 0, .slice none 0 0] 93)))
  clear hB1 hf HN HB0
  go_wp2_with fail
  go_ret2
  exact ⟨v, rfl, HF.out, HB1.out⟩
end Go.Proofs.YtdhloijdefnkpaaGreatDoor
namespace Go.Proofs.YtdhloijdefnkpaaGreatDoor
open Go.RowKit Pl
def cl9 (n : Nat) (inn : Nat → Nat) : Nat → Int := clf n (fun p => (inn p : Int))
theorem canon9 (n : Nat) (inn : Nat → Nat) : canon (flN n inn) = fl n (cl9 n inn) := by
  unfold flN cl9
  rw [canon_fl]
theorem cl9_big {s : Lts} {n : Nat} {inn : Nat → Nat} (h : Big s n (fun p => (inn p : Int))) : Big s n (cl9 n inn) := h.clf
end Go.Proofs.YtdhloijdefnkpaaGreatDoor
namespace Go.Proofs.YtdhloijdefnkpaaGreatDoor
open Go.RowKit Pl
open Lib (hid)
set_option maxRecDepth 100000 in
theorem note_any {w : World} {pb mb n : Nat} {f : S → Option Unit} (hp : w.cell? ⟨pb, 0, none⟩ = some (.map (some mb))) (hM : OMap w mb encSv okS encU f n) (l c : Int) (hok : okS (l, c)) :
    Calls Tryz.prog 139 #[.int .i64 l, .int .i64 c, .pointer (some ⟨pb, 0, none⟩)] w fun e w' => e = .returned (.tuple #[]) ∧
      (∃ n', OMap w' mb encSv okS encU (fun z => if z = (l, c) then some () else f z) n') ∧ w.grownBy w' (some mb) := by
  have hpl := World.block_lt_of_cell? _ _ hp
  have HM := hid hM
  clear hM
  go_enter Tryz.func139, Tryz.ntmps139
  go_wp2_with (at_mapUpdate; refine wpList_oput rfl _ _ _ 203 rfl encStep Tryz.underlying203 rfl HM.out ((l, c) : S) hok rfl () rfl ?_; intro w1 hM1 hg1 hf1 hs1)
  go_end0
  exact ⟨rfl, ⟨_, hM1⟩, hg1⟩
def plainD (s : Lts) (C : List Int) (q : Int) : List S := (s.outs q).map (fun x => (x.1, atL C x.2))
def addU (f : S → Option Unit) (L : List S) (z : S) : Option Unit := if z ∈ L then some () else f z
theorem addU_nil (f : S → Option Unit) (z : S) : addU f [] z = f z := by simp [addU]
theorem addU_snoc (f : S → Option Unit) (L : List S) (x z : S) : (if z = x then some () else addU f L z) = addU f (L ++ [x]) z := by
  unfold addU
  by_cases h : z = x
  · simp [h]
  · simp [h]
theorem addU_app (f : S → Option Unit) (L M : List S) (z : S) : addU (addU f L) M z = addU f (L ++ M) z := by
  unfold addU
  by_cases h : z ∈ M <;> by_cases h2 : z ∈ L <;> simp [h, h2]
structure Noting (w0 w wr : World) (pb mb : Nat) (f : S → Option Unit) : Prop where
  bel : Below w0.heap.size w0 wr
  grown : w.grownBy wr (some mb)
  cell : wr.cell? ⟨pb, 0, none⟩ = some (.map (some mb))
  map : ∃ n, OMap wr mb encSv okS encU f n
  mlt : w0.heap.size ≤ mb
  pne : pb ≠ mb
theorem Noting.plt {w0 w wr : World} {pb mb : Nat} {f : S → Option Unit} (h : Noting w0 w wr pb mb f) : pb < wr.heap.size := World.block_lt_of_cell? _ _ h.cell
theorem Noting.call {w0 w wr w' : World} {pb mb : Nat} {f : S → Option Unit} (h : Noting w0 w wr pb mb f) (hB : Below wr.heap.size wr w') : Noting w0 w w' pb mb f := by
  obtain ⟨n, hm⟩ := h.map
  exact ⟨h.bel.trans (hB.mono h.bel.size), h.grown.trans ⟨hB.os, hB.tape, hB.output, hB.size, fun i hi _ => hB.block i hi⟩, by rw [hB.cell (p := ⟨pb, 0, none⟩) h.plt]; exact h.cell, ⟨n, hm.of_block (hB.block _ hm.lt)⟩, h.mlt, h.pne⟩
theorem Noting.note {w0 w wr w' : World} {pb mb : Nat} {f g : S → Option Unit} (h : Noting w0 w wr pb mb f) (hg : wr.grownBy w' (some mb)) (hm : ∃ n, OMap w' mb encSv okS encU g n) : Noting w0 w w' pb mb g :=
  ⟨h.bel.grown hg h.bel.size (fun k hk => by cases hk; exact h.mlt), h.grown.trans hg, by
    rw [World.cell?_of_block (w := wr) (a := ⟨pb, 0, none⟩) (hg.block pb h.plt (fun e => h.pne (Option.some.inj e)))]; exact h.cell, hm, h.mlt, h.pne⟩
theorem Noting.congr {w0 w wr : World} {pb mb : Nat} {f g : S → Option Unit} (h : Noting w0 w wr pb mb f) (e : ∀ z, f z = g z) : Noting w0 w wr pb mb g := by
  obtain ⟨n, hm⟩ := h.map
  exact ⟨h.bel, h.grown, h.cell, ⟨n, hm.congr e⟩, h.mlt, h.pne⟩
structure Cls (s : Lts) (n : Nat) (C : List Int) : Prop where
  len : C.length = n
  st : s.st = (n : Int)
  ok : ∀ x ∈ C, (Lit.int .i64 x).wf = true
set_option maxRecDepth 100000 in
set_option maxHeartbeats 2000000 in
theorem plain_any {w0 w : World} {gb : Nat} {s : Lts} (h : GraphAt w0 gb s) {n : Nat} {C : List Int} (hC : Cls s n C) {ca : Option Addr} {cb co cc : Nat} (hS : SlAt encI 1 w0 ca cb co C) {pb mb : Nat} {f : S → Option Unit} (hN : Noting w0 w w pb mb f) (q : Int) :
    Calls Tryz.prog 105 #[.pointer (some ⟨gb, 0, none⟩), .slice ca n cc, .int .i64 q, .func (.func 139) #[] #[.pointer (some ⟨pb, 0, none⟩)]] w fun e w' => e = .returned (.tuple #[]) ∧ Noting w0 w w' pb mb (addU f (plainD s C q)) := by
  have hea := each_any h hN.bel q
  have HEA := hid hea; have HH := hid h; have HS := hid hS; have HN := hid hN; have HC := hid hC
  have hn : n ≤ 1000 := by have := h.right.st0; have := hC.st; omega
  clear h hS hN hC hea
  go_enter Tryz.func105, Tryz.ntmps105
  go_wp2_with fail
  refine (HEA.out).mono ?_
  rintro e wb ⟨⟨a2, c2, b2, off2, rfl, hc2, hm2, hss⟩, hBb⟩
  have HN1 := hid (HN.out.call hBb)
  have HSS := hid hss
  have hsl : (s.outs q).length ≤ 10000 := outs_len HH.out.right q
  clear hss hBb hc2 hm2 HN HEA
  go_wp2_with fail
  go_loopw [9, 14] (fun _ v14 wr => ∃ k : Nat, v14 = .int .i64 k ∧ k ≤ (s.outs q).length ∧ Noting w0 w wr pb mb (addU f ((plainD s C q).take k))) (fun _ v14 _ => (s.outs q).length - (intOf v14).toNat)
  case atStart => exact ⟨0, rfl, Nat.zero_le _, HN1.out.congr (fun z => by rw [List.take_zero, addU_nil])⟩
  case round =>
    obtain ⟨k, rfl, hk, hnr⟩ := hrel
    have HNR := hid hnr
    have hpl := hnr.plt
    have hpc := hnr.cell
    clear hnr HN1
    by_cases hlt : k < (s.outs q).length
    · obtain ⟨y, hy⟩ := getElem?_of_lt hlt
      have hss := HSS.out.below HNR.out.bel (Nat.le_refl _)
      obtain rfl := hss.ad (by omega)
      have d0 := hss.s0 hy; have d1 := hss.s1 hy
      have dl := hss.lt (by omega)
      have hyr := offB_false.1 (HH.out.right.edges _ (mem_outs.1 (List.mem_of_getElem? hy)))
      have hD : (plainD s C q)[k]? = some (y.1, atL C y.2) := by unfold plainD; rw [List.getElem?_map, hy]; rfl
      have hlb := HH.out.right.st0
      obtain ⟨y1, y2⟩ := y
      simp only at hyr d0 d1 hD
      obtain ⟨t, rfl⟩ := Int.eq_ofNat_of_zero_le hyr.2.2.2.2.1
      have hst := HC.out.st
      have htn : t < n := by omega
      have htI : (t : Int) < (n : Int) := by omega
      have hcs := HS.out.below HNR.out.bel (Nat.le_refl _)
      have hcl := HC.out.len
      obtain rfl := hcs.ad (by omega)
      obtain ⟨x, hx⟩ := getElem?_of_lt (xs := C) (i := t) (by omega)
      have hcx := hcs.ci hx
      have hcbl := hcs.lt (by omega)
      have hax : atL C (t : Int) = x := by unfold atL; rw [List.getD_eq_getElem?_getD]; simp [hx]
      rw [hax] at hD
      have hok : okS (y1, x) := ⟨WalkArith.wf_i64 (by omega), HC.out.ok x (List.mem_of_getElem? hx)⟩
      have hkI : (k : Int) < ((s.outs q).length : Int) := by omega
      have HD := hid hD; have HOK := hid hok
      have hm := HNR.out.mlt
      have hcm : cb ≠ mb := by have := HS.out.lt (by omega); omega
      clear hy hss hyr hD hlb hst hcs hcl hx hax hok
      go_wp2_with fail
      obtain ⟨W, hW⟩ : ∃ W, W = wr.alloc (.cells #[.int .i64 y1, .int .i64 t] 107) := ⟨_, rfl⟩
      have hBW : Below wr.heap.size wr W := by rw [hW]; exact (Below.refl _ _).alloc (Nat.le_refl _) _
      have hmr : mb < wr.heap.size := by obtain ⟨_, hm⟩ := HNR.out.map; exact hm.lt
      have hws : wr.heap.size < W.heap.size := by rw [hW]; simp
      have s0 : W.cell? ⟨wr.heap.size, 0, none⟩ = some (.int .i64 y1) := by rw [hW]; simp
      have s1 : W.cell? ⟨wr.heap.size, 1, none⟩ = some (.int .i64 t) := by rw [hW]; simp
      have s2 : W.cell? ⟨cb, co + t, none⟩ = some (.int .i64 x) := by rw [hBW.cell (p := ⟨cb, co + t, none⟩) hcbl]; exact hcx
      have hNW := HNR.out.call hBW
      rw [← hW]
      have hkeep : ∀ w' : World, (∀ b, b < W.heap.size → b ≠ mb → w'.heap[b]? = W.heap[b]?) → (w'.cell? ⟨wr.heap.size, 0, none⟩ = some (.int .i64 y1) ∧ w'.cell? ⟨wr.heap.size, 1, none⟩ = some (.int .i64 t) ∧ w'.cell? ⟨cb, co + t, none⟩ = some (.int .i64 x)) := fun w' hb =>
        ⟨(World.cell?_of_block (a := ⟨wr.heap.size, 0, none⟩) (hb wr.heap.size hws (by omega))).trans s0, (World.cell?_of_block (a := ⟨wr.heap.size, 1, none⟩) (hb wr.heap.size hws (by omega))).trans s1, (World.cell?_of_block (a := ⟨cb, co + t, none⟩) (hb cb (by omega) hcm)).trans s2⟩
      have HK := hid hkeep; have HNW := hid (hNW.call (w' := W.drew) (Below.refl _ _).drew)
      clear hkeep hNW hW hBW HNR hcx d0 d1 dl hpc hpl
      have hz : W.drew.heap.size = W.heap.size := rfl
      go_region_held3 (fun w' => w'.cell? ⟨wr.heap.size, 0, none⟩ = some (.int .i64 y1) ∧ w'.cell? ⟨wr.heap.size, 1, none⟩ = some (.int .i64 t) ∧ w'.cell? ⟨cb, co + t, none⟩ = some (.int .i64 x))
        (first | exact HK.out _ (fun _ _ _ => rfl) | exact HK.out _ (by assumption))
        ((go_at_call 139; refine (note_any HNW.out.cell HNW.out.map.choose_spec y1 x HOK.out).mono ?_; rintro e w7 ⟨rfl, hm7, hg7⟩; have hb7 : ∀ b, b < W.heap.size → b ≠ mb → w7.heap[b]? = W.heap[b]? := fun b hb hne => hg7.block b hb (fun e => hne (Option.some.inj e))))
      have hn7 := (HNW.out.note hg7 hm7).congr (g := addU f ((plainD s C q).take (k + 1))) (fun z => by rw [take_snoc HD.out]; exact addU_snoc f _ _ z)
      have HN7 := hid hn7
      clear hn7 hm7 hg7 hb7 HK HNW
      go_wp2_with fail
      go_roundw
      case rel => exact ⟨k + 1, by go_num, by omega, HN7.out⟩
      case measure => simp [intOf]; omega
    · have hkk : (s.outs q).length = k := by omega
      subst hkk
      have hfin : Noting w0 w wr pb mb (addU f (plainD s C q)) := HNR.out.congr (fun z => by rw [List.take_of_length_le (by unfold plainD; simp)])
      have HF := hid hfin
      clear hfin HNR hpc
      go_wp2_with fail
      go_end0
      exact ⟨rfl, HF.out⟩
end Go.Proofs.YtdhloijdefnkpaaGreatDoor

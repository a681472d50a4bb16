/-
  witness.Simulation of no right system, and of too much.
  Equality of failing steps, and of pairs; law19.as, law19.light.
  law19.light.
  law19.alive; '==' at witness.Fail.
-/
import Derived.Test.YtclannenknhfpaaGreatDoorWitN
import Derived.Test.YtclannenknhfpaaGreatDoorGTogether
import Derived.Test.YtclannenknhfpaaGreatDoorGRefRight
import Derived.ChangeKeysEq
import Derived.Deep.QuietTactic
import Derived.Test.YtclannenknhfpaaGreatDoorWitH
namespace Go.Proofs.YtclannenknhfpaaGreatDoor
open Go.RowKit Pl

set_option maxRecDepth 100000 in
theorem simulationNo_any {p : Addr} {s : Lts} (h : ¬ s.Right) {a : Option Addr} {b off c : Nat} {za : Option Addr} {m zc : Nat} {w : World} (hG : GErr 15 p w) (hT : ErrType w) (hS : SlAt encE 3 w a b off s.es) :
    Calls Tryz.prog 8 #[.agg #[.int .i64 s.st, .int .i64 s.lb, .int .i64 s.s0, .slice a s.es.length c], .slice za m zc] w fun e w' => ∃ v, e = .returned (.tuple #[.agg #[.int .i64 0, .int .i64 0, .int .i64 0, .int .i64 0], .bool false, v]) ∧ FaultOn witName w' p v ∧ Below w.heap.size w w' := by
  have hB0 := ((Below.refl w.heap.size w).alloc (Nat.le_refl _) (Obj.cells #[.int .i64 s.st, .int .i64 s.lb, .int .i64 s.s0, .slice a s.es.length c] 24)).alloc (by simp) (Obj.cells #[.int .i64 0, .int .i64 0, .int .i64 0, .int .i64 0] 30)
  have hz0 := heap_alloc_new (w.alloc (Obj.cells #[.int .i64 s.st, .int .i64 s.lb, .int .i64 s.s0, .slice a s.es.length c] 24)) (Obj.cells #[.int .i64 0, .int .i64 0, .int .i64 0, .int .i64 0] 30)
  rw [show (w.alloc (Obj.cells #[.int .i64 s.st, .int .i64 s.lb, .int .i64 s.s0, .slice a s.es.length c] 24)).heap.size = w.heap.size + 1 by simp] at hz0
  have HNW := Lib.hid (new_no (c := c) h (hG.below hB0) (hS.below hB0 (Nat.le_refl _)))
  have HB0 := Lib.hid hB0; have HZ0 := Lib.hid hz0; have HT := Lib.hid (hT.below hB0)
  clear hB0 hz0 hG hS h hT
  go_enter Tryz.func8, Tryz.ntmps8
  go_wp2_with fail
  refine HNW.out.mono ?_
  rintro e w1 ⟨v, rfl, hF, hB1⟩
  obtain ⟨fb, rfl, hfb⟩ := id hF.ex
  have HF := Lib.hid hF
  have HA := Lib.hid (faultAs_any witName (HT.out.below hB1) hfb)
  have HR1 := Lib.hid ((hB1.block (w.heap.size + 1) (by simp)).trans HZ0.out)
  have HB1 := Lib.hid (HB0.out.trans (hB1.mono (by simp; omega)))
  unfold witName at HA
  clear hB1 hfb hF HB0 HNW HZ0 HT
  go_wp2_with fail
  refine HA.out.mono ?_
  rintro e w2 ⟨v, rfl, hF2, hB2⟩
  have hfw : FaultOn witName w2 p v := ⟨_, hF2, HF.out.below hB2⟩
  obtain ⟨fb2, rfl, _⟩ := hF2.ex
  have hr := (hB2.block _ (Array.getElem?_eq_some_iff.1 HR1.out).1).trans HR1.out
  have f0 : w2.cell? ⟨w.heap.size + 1, 0, none⟩ = some (.int .i64 0) := by simp [World.cell?, hr]
  have f1 : w2.cell? ⟨w.heap.size + 1, 1, none⟩ = some (.int .i64 0) := by simp [World.cell?, hr]
  have f2 : w2.cell? ⟨w.heap.size + 1, 2, none⟩ = some (.int .i64 0) := by simp [World.cell?, hr]
  have f3 : w2.cell? ⟨w.heap.size + 1, 3, none⟩ = some (.int .i64 0) := by simp [World.cell?, hr]
  have z0 : w2.frozen? ⟨w.heap.size + 1, 0, none⟩ = false := by simp [World.frozen?, hr]
  have z1 : w2.frozen? ⟨w.heap.size + 1, 1, none⟩ = false := by simp [World.frozen?, hr]
  have z2 : w2.frozen? ⟨w.heap.size + 1, 2, none⟩ = false := by simp [World.frozen?, hr]
  have z3 : w2.frozen? ⟨w.heap.size + 1, 3, none⟩ = false := by simp [World.frozen?, hr]
  have fl := (Array.getElem?_eq_some_iff.1 hr).1
  have HFW := Lib.hid hfw; have HR := Lib.hid hr
  have HB2 := Lib.hid (HB1.out.trans (hB2.mono HB1.out.size))
  clear hF2 hB2 HB1 HA hfw hr HR1
  go_wp2_with fail
  refine bodyPost_ret (v := .tuple #[.agg #[.int .i64 0, .int .i64 0, .int .i64 0, .int .i64 0], .bool false, .iface 86 (.pointer (some ⟨fb2, 0, none⟩))]) (by simp [results, Tryz.results8, go_sem, f0, f1, f2, f3]) rfl ⟨_, rfl, ?_, ?_⟩
  · obtain ⟨vi, h1, h2⟩ := HFW.out
    exact ⟨vi, h1.set4 HR.out _ _ _ _, h2.set4 HR.out _ _ _ _⟩
  · exact (((HB2.out.setCell (Nat.le_succ _) _).setCell (Nat.le_succ _) _).setCell (Nat.le_succ _) _).setCell (Nat.le_succ _) _

set_option maxRecDepth 100000 in
theorem simulationBig_any {p p2 : Addr} {s : Lts} (h : s.Right) {m : Nat} (hbig : 300 < s.st ∨ 10000 < m) {a : Option Addr} {b off c : Nat} {za : Option Addr} {zc : Nat} {w : World} (hG : GErr 15 p w) (hL : GErr 0 p2 w) (hS : SlAt encE 3 w a b off s.es) :
    Calls Tryz.prog 8 #[.agg #[.int .i64 s.st, .int .i64 s.lb, .int .i64 s.s0, .slice a s.es.length c], .slice za m zc] w fun e w' => ∃ v, e = .returned (.tuple #[.agg #[.int .i64 0, .int .i64 0, .int .i64 0, .int .i64 0], .bool false, v]) ∧ FaultAt w' v witName (.iface 197 (.pointer (some p2))) ∧ Below w.heap.size w w' := by
  have hB0 := ((Below.refl w.heap.size w).alloc (Nat.le_refl _) (Obj.cells #[.int .i64 s.st, .int .i64 s.lb, .int .i64 s.s0, .slice a s.es.length c] 24)).alloc (by simp) (Obj.cells #[.int .i64 0, .int .i64 0, .int .i64 0, .int .i64 0] 30)
  have hsb := (((Below.refl _ _).alloc (Nat.le_refl _) (.cells #[.int .i64 0, .int .i64 0, .int .i64 0, .int .i64 0] 30)).block w.heap.size (by simp)).trans (heap_alloc_new w (Obj.cells #[.int .i64 s.st, .int .i64 s.lb, .int .i64 s.s0, .slice a s.es.length c] 24))
  have hz0 := heap_alloc_new (w.alloc (Obj.cells #[.int .i64 s.st, .int .i64 s.lb, .int .i64 s.s0, .slice a s.es.length c] 24)) (Obj.cells #[.int .i64 0, .int .i64 0, .int .i64 0, .int .i64 0] 30)
  rw [show (w.alloc (Obj.cells #[.int .i64 s.st, .int .i64 s.lb, .int .i64 s.s0, .slice a s.es.length c] 24)).heap.size = w.heap.size + 1 by simp] at hz0
  have HNW := Lib.hid (new_ok (c := c) h (hG.below hB0) (hS.below hB0 (Nat.le_refl _)))
  have HB0 := Lib.hid hB0; have HZ0 := Lib.hid hz0; have HSB := Lib.hid hsb; have HL := Lib.hid (hL.below hB0)
  have hfn := faultNew_any witName 197 (.pointer (some p2))
  clear hB0 hz0 hG hS h hL hsb
  go_enter Tryz.func8, Tryz.ntmps8
  go_wp2_with fail
  refine HNW.out.mono ?_
  rintro e w1 ⟨gb, rfl, hgr, hB1, _⟩
  obtain ⟨x0, x1, x2, x3, x4⟩ := sysC ((hB1.block w.heap.size (by simp; omega)).trans HSB.out)
  have HR1 := Lib.hid ((hB1.block (w.heap.size + 1) (by simp)).trans HZ0.out)
  have hl1 := HL.out.below hB1
  have g0 := hl1.cell; have gl := hl1.lt
  have HB1 := Lib.hid (HB0.out.trans (hB1.mono (by simp; omega)))
  have FIN : RowKit.Hid (Calls Tryz.prog 44 #[.string ⟨#[119, 105, 116, 110, 101, 115, 115]⟩, .iface 197 (.pointer (some p2))] w1 fun e w' => ∃ fb, e = .returned (.iface 86 (.pointer (some ⟨fb, 0, none⟩))) ∧ FaultAt w' (.iface 86 (.pointer (some ⟨fb, 0, none⟩))) witName (.iface 197 (.pointer (some p2))) ∧ w'.heap[w.heap.size + 1]? = some (.cells #[.int .i64 0, .int .i64 0, .int .i64 0, .int .i64 0] 30 (0, 0)) ∧ Below w.heap.size w w') := Lib.hid (by
    refine (hfn _).mono ?_
    rintro e w3 ⟨rfl, rfl⟩
    have hba := (Below.refl w1.heap.size w1).alloc (Nat.le_refl _) (.cells #[.string witName, .int .i64 0, .int .i64 0, .iface 197 (.pointer (some p2))] 89)
    exact ⟨_, rfl, ⟨_, rfl, heap_alloc_new _ _⟩, (hba.block _ (Array.getElem?_eq_some_iff.1 HR1.out).1).trans HR1.out, HB1.out.trans (hba.mono HB1.out.size)⟩)
  clear hgr hB1 hl1 hfn HNW HB0 HZ0 HSB HL HB1 HR1
  by_cases q1 : 300 < s.st
  · have e1 : decide (300 < s.st) = true := by simp [q1]
    clear hbig
    go_wp2_with fail
    all_goals
      refine FIN.out.mono ?_
      rintro e w5 ⟨fb, rfl, hF, hr, hB⟩
      have f0 : w5.cell? ⟨w.heap.size + 1, 0, none⟩ = some (.int .i64 0) := by simp [World.cell?, hr]
      have f1 : w5.cell? ⟨w.heap.size + 1, 1, none⟩ = some (.int .i64 0) := by simp [World.cell?, hr]
      have f2 : w5.cell? ⟨w.heap.size + 1, 2, none⟩ = some (.int .i64 0) := by simp [World.cell?, hr]
      have f3 : w5.cell? ⟨w.heap.size + 1, 3, none⟩ = some (.int .i64 0) := by simp [World.cell?, hr]
      have z0 : w5.frozen? ⟨w.heap.size + 1, 0, none⟩ = false := by simp [World.frozen?, hr]
      have z1 : w5.frozen? ⟨w.heap.size + 1, 1, none⟩ = false := by simp [World.frozen?, hr]
      have z2 : w5.frozen? ⟨w.heap.size + 1, 2, none⟩ = false := by simp [World.frozen?, hr]
      have z3 : w5.frozen? ⟨w.heap.size + 1, 3, none⟩ = false := by simp [World.frozen?, hr]
      have fl := (Array.getElem?_eq_some_iff.1 hr).1
      have HF := Lib.hid hF; have HR := Lib.hid hr; have HB5 := Lib.hid hB
      clear hF hr hB FIN x0 x1 x2 x3 x4 g0 gl
      go_wp2_with fail
      refine bodyPost_ret (v := .tuple #[.agg #[.int .i64 0, .int .i64 0, .int .i64 0, .int .i64 0], .bool false, .iface 86 (.pointer (some ⟨fb, 0, none⟩))]) (by simp [results, Tryz.results8, go_sem, f0, f1, f2, f3]) rfl ⟨_, rfl, HF.out.set4 HR.out _ _ _ _, ?_⟩
      exact (((HB5.out.setCell (p := ⟨w.heap.size + 1, 0, none⟩) (by simp) _).setCell (p := ⟨w.heap.size + 1, 1, none⟩) (by simp) _).setCell (p := ⟨w.heap.size + 1, 2, none⟩) (by simp) _).setCell (p := ⟨w.heap.size + 1, 3, none⟩) (by simp) _
  · have e1 : decide (300 < s.st) = false := by simp [q1]
    have q2 : 10000 < m := by omega
    have e2 : decide (10000 < (m : Int)) = true := by simp; omega
    clear hbig
    go_wp2_with fail
    all_goals
      refine FIN.out.mono ?_
      rintro e w5 ⟨fb, rfl, hF, hr, hB⟩
      have f0 : w5.cell? ⟨w.heap.size + 1, 0, none⟩ = some (.int .i64 0) := by simp [World.cell?, hr]
      have f1 : w5.cell? ⟨w.heap.size + 1, 1, none⟩ = some (.int .i64 0) := by simp [World.cell?, hr]
      have f2 : w5.cell? ⟨w.heap.size + 1, 2, none⟩ = some (.int .i64 0) := by simp [World.cell?, hr]
      have f3 : w5.cell? ⟨w.heap.size + 1, 3, none⟩ = some (.int .i64 0) := by simp [World.cell?, hr]
      have z0 : w5.frozen? ⟨w.heap.size + 1, 0, none⟩ = false := by simp [World.frozen?, hr]
      have z1 : w5.frozen? ⟨w.heap.size + 1, 1, none⟩ = false := by simp [World.frozen?, hr]
      have z2 : w5.frozen? ⟨w.heap.size + 1, 2, none⟩ = false := by simp [World.frozen?, hr]
      have z3 : w5.frozen? ⟨w.heap.size + 1, 3, none⟩ = false := by simp [World.frozen?, hr]
      have fl := (Array.getElem?_eq_some_iff.1 hr).1
      have HF := Lib.hid hF; have HR := Lib.hid hr; have HB5 := Lib.hid hB
      clear hF hr hB FIN x0 x1 x2 x3 x4 g0 gl
      go_wp2_with fail
      refine bodyPost_ret (v := .tuple #[.agg #[.int .i64 0, .int .i64 0, .int .i64 0, .int .i64 0], .bool false, .iface 86 (.pointer (some ⟨fb, 0, none⟩))]) (by simp [results, Tryz.results8, go_sem, f0, f1, f2, f3]) rfl ⟨_, rfl, HF.out.set4 HR.out _ _ _ _, ?_⟩
      exact (((HB5.out.setCell (p := ⟨w.heap.size + 1, 0, none⟩) (by simp) _).setCell (p := ⟨w.heap.size + 1, 1, none⟩) (by simp) _).setCell (p := ⟨w.heap.size + 1, 2, none⟩) (by simp) _).setCell (p := ⟨w.heap.size + 1, 3, none⟩) (by simp) _
end Go.Proofs.YtclannenknhfpaaGreatDoor

namespace Go.Proofs.YtclannenknhfpaaGreatDoor
open Go.RowKit Pl

theorem eqlRF (a b c d x y z u : Int) (w : World) : (binOp .eql 35 (.agg #[.int .i64 a, .int .i64 b, .int .i64 c, .int .i64 d]) (.agg #[.int .i64 x, .int .i64 y, .int .i64 z, .int .i64 u])).run Tryz.prog w = .ok (.bool (decide (a = x ∧ b = y ∧ c = z ∧ d = u))) w := by
  have u3 := Tryz.underlying3
  have a3 := Tryz.isAgg3
  have z3 := Tryz.sizeOf3
  have hS : Tryz.prog.underlying 35 = some (.struct (Tryz.prog.fieldsOf 35)) := by kernel_rfl
  have hp : Tryz.prog.stoodInHeld 35 = false := by kernel_rfl
  rw [run_eql_struct, show (10000 : Nat) = 9999 + 1 from rfl, run_equalIn_agg w 9999 35 _ _ hS hp]
  simp only [Program.fieldsOf, Tryz.underlying35]
  go_simp
  by_cases h1 : a = x <;> by_cases h2 : b = y <;> by_cases h3 : c = z <;> by_cases h4 : d = u <;> simp [h1, h2, h3, h4]
theorem guardRF : Tryz.prog.eqGuardType Tryz.prog.depth 35 = false := by kernel_rfl
theorem eqlA (x y : Int × Int) (w : World) : (binOp .eql 28 (.agg #[.int .i64 x.1, .int .i64 x.2]) (.agg #[.int .i64 y.1, .int .i64 y.2])).run Tryz.prog w = .ok (.bool (decide (x = y))) w := by
  have u3 := Tryz.underlying3
  have a3 := Tryz.isAgg3
  have z3 := Tryz.sizeOf3
  obtain ⟨i, hi, _⟩ := rowI.info
  have hu : Tryz.prog.underlying 28 = some (.array 2 3) := by kernel_rfl
  have hc : Tryz.prog.cellsOf 3 = 1 := by kernel_rfl
  rw [run_eql_struct, show (10000 : Nat) = 9999 + 1 from rfl, run_equalIn_array w 9999 _ _ hu hi, hc, show List.range 2 = [0, 1] from rfl]
  simp only [Op.eqItems]
  go_simp
  obtain ⟨x1, x2⟩ := x; obtain ⟨y1, y2⟩ := y
  by_cases h1 : x1 = y1 <;> by_cases h2 : x2 = y2 <;> simp [h1, h2]
theorem neqA (x y : Int × Int) (w : World) : (binOp .neq 28 (.agg #[.int .i64 x.1, .int .i64 x.2]) (.agg #[.int .i64 y.1, .int .i64 y.2])).run Tryz.prog w = .ok (.bool (!decide (x = y))) w := by
  have h := eqlA x y w
  rw [run_eql_struct] at h
  rw [run_neq_struct]
  cases hr : (Op.equalIn 10000 28 (.agg #[.int .i64 x.1, .int .i64 x.2]) (.agg #[.int .i64 y.1, .int .i64 y.2])).run Tryz.prog w with
  | ok b w' => rw [hr] at h; simp [Result.andThen] at h ⊢; exact ⟨h.1, h.2⟩
  | halt b w' => rw [hr] at h; simp [Result.andThen] at h
theorem guardA : Tryz.prog.eqGuardType Tryz.prog.depth 28 = false := by kernel_rfl

set_option maxRecDepth 100000 in
theorem as19_any (x y z u : Int) (w : World) : Calls Tryz.prog 10 #[.agg #[.int .i64 x, .int .i64 y, .int .i64 z, .int .i64 u]] w fun e w' => e = .returned (.agg #[.int .i64 x, .int .i64 y, .int .i64 z, .int .i64 u]) ∧ Below w.heap.size w w' := by
  go_enter Tryz.func10, Tryz.ntmps10
  go_wp2_with fail
  refine bodyPost_ret (v := .agg #[.int .i64 x, .int .i64 y, .int .i64 z, .int .i64 u]) (by simp [results, Tryz.results10, go_sem]) rfl ⟨rfl, ?_⟩
  exact ((Below.refl _ _).alloc (Nat.le_refl _) _).alloc (by simp) _
end Go.Proofs.YtclannenknhfpaaGreatDoor

namespace Go.Proofs.YtclannenknhfpaaGreatDoor
open Go.RowKit Pl

set_option maxRecDepth 100000 in
theorem light19_any {s : Lts} {a : Option Addr} {b off c : Nat} {w : World} (hS : SlAt encE 3 w a b off s.es) :
    Calls Tryz.prog 6 #[.agg #[.int .i64 s.st, .int .i64 s.lb, .int .i64 s.s0, .slice a s.es.length c]] w fun e w' => ∃ bv : Bool, e = .returned (.bool bv) ∧ (bv = true → s.st ≤ 30 ∨ ¬ s.Right) ∧ Below w.heap.size w w' := by
  obtain ⟨W, hW⟩ : ∃ W, W = w.alloc (Obj.cells #[.int .i64 s.st, .int .i64 s.lb, .int .i64 s.s0, .slice a s.es.length c] 24) := ⟨_, rfl⟩
  have hB0 : Below w.heap.size w W := by rw [hW]; exact (Below.refl w.heap.size w).alloc (Nat.le_refl _) _
  have hbx := heap_alloc_new w (Obj.cells #[.int .i64 s.st, .int .i64 s.lb, .int .i64 s.s0, .slice a s.es.length c] 24)
  rw [← hW] at hbx
  have hRY : s.Right → _ := fun h => right_yes (c := c) h (hS.below hB0 (Nat.le_refl _))
  have hRN : ¬ s.Right → _ := fun h => right_no (c := c) h (hS.below hB0 (Nat.le_refl _))
  obtain ⟨el, hel⟩ : ∃ el, el = s.es.length := ⟨_, rfl⟩
  rw [← hel] at hRY hRN hbx hW ⊢
  have HRY := Lib.hid hRY; have HRN := Lib.hid hRN; have HB0 := Lib.hid hB0; have HW := Lib.hid hW; have HBX := Lib.hid hbx
  obtain ⟨x0, x1, x2, x3, x4⟩ := sysC hbx
  clear hS hel hRY hRN hB0 hW hbx
  by_cases h1 : s.st ≤ 30
  · by_cases h2 : (el : Int) ≤ 200
    · have e1 : decide (s.st ≤ 30) = true := by simp [h1]
      have e2 : decide ((el : Int) ≤ 200) = true := by simp [h2]
      go_enter Tryz.func6, Tryz.ntmps6
      go_wp2_with fail
      rw [← HW.out]
      go_wp2_with fail
      go_ret
      exact ⟨_, rfl, fun _ => .inl h1, HB0.out⟩
    · have e1 : decide (s.st ≤ 30) = true := by simp [h1]
      have e2 : decide ((el : Int) ≤ 200) = false := by simp [h2]
      by_cases hr : s.Right
      · have HR := Lib.hid (HRY.out hr)
        clear HRY HRN
        go_enter Tryz.func6, Tryz.ntmps6
        go_wp2_with fail
        rw [← HW.out]
        go_wp2_with fail
        refine HR.out.mono ?_
        rintro e w2 ⟨rfl, hB2⟩
        obtain ⟨y0, y1, y2, y3, y4⟩ := sysC ((hB2.block w.heap.size x4).trans HBX.out)
        have HB2 := Lib.hid (HB0.out.trans (hB2.mono HB0.out.size))
        clear hB2 x0 x1 x2 x3 x4 HW HBX HB0 HR
        go_wp2_with fail
        go_ret
        exact ⟨_, rfl, fun _ => .inl h1, HB2.out⟩
      · have HR := Lib.hid (HRN.out hr)
        clear HRY HRN
        go_enter Tryz.func6, Tryz.ntmps6
        go_wp2_with fail
        rw [← HW.out]
        go_wp2_with fail
        refine HR.out.mono ?_
        rintro e w2 ⟨rfl, hB2⟩
        obtain ⟨y0, y1, y2, y3, y4⟩ := sysC ((hB2.block w.heap.size x4).trans HBX.out)
        have HB2 := Lib.hid (HB0.out.trans (hB2.mono HB0.out.size))
        clear hB2 x0 x1 x2 x3 x4 HW HBX HB0 HR
        go_wp2_with fail
        go_ret
        exact ⟨_, rfl, fun _ => .inr hr, HB2.out⟩
  · have e1 : decide (s.st ≤ 30) = false := by simp [h1]
    by_cases hr : s.Right
    · have HR := Lib.hid (HRY.out hr)
      clear HRY HRN
      go_enter Tryz.func6, Tryz.ntmps6
      go_wp2_with fail
      rw [← HW.out]
      go_wp2_with fail
      refine HR.out.mono ?_
      rintro e w2 ⟨rfl, hB2⟩
      obtain ⟨y0, y1, y2, y3, y4⟩ := sysC ((hB2.block w.heap.size x4).trans HBX.out)
      have HB2 := Lib.hid (HB0.out.trans (hB2.mono HB0.out.size))
      clear hB2 x0 x1 x2 x3 x4 HW HBX HB0 HR
      go_wp2_with fail
      go_ret
      exact ⟨_, rfl, fun h => by simp at h, HB2.out⟩
    · have HR := Lib.hid (HRN.out hr)
      clear HRY HRN
      go_enter Tryz.func6, Tryz.ntmps6
      go_wp2_with fail
      rw [← HW.out]
      go_wp2_with fail
      refine HR.out.mono ?_
      rintro e w2 ⟨rfl, hB2⟩
      obtain ⟨y0, y1, y2, y3, y4⟩ := sysC ((hB2.block w.heap.size x4).trans HBX.out)
      have HB2 := Lib.hid (HB0.out.trans (hB2.mono HB0.out.size))
      clear hB2 x0 x1 x2 x3 x4 HW HBX HB0 HR
      go_wp2_with fail
      go_ret
      exact ⟨_, rfl, fun _ => .inr hr, HB2.out⟩
end Go.Proofs.YtclannenknhfpaaGreatDoor

namespace Go.Proofs.YtclannenknhfpaaGreatDoor
open Go.RowKit Pl

theorem eqlFail (a b c d x y z u : Int) (w : World) : (binOp .eql 30 (.agg #[.int .i64 a, .int .i64 b, .int .i64 c, .int .i64 d]) (.agg #[.int .i64 x, .int .i64 y, .int .i64 z, .int .i64 u])).run Tryz.prog w = .ok (.bool (decide (a = x ∧ b = y ∧ c = z ∧ d = u))) w := by
  have u3 := Tryz.underlying3
  have a3 := Tryz.isAgg3
  have z3 := Tryz.sizeOf3
  have hS : Tryz.prog.underlying 30 = some (.struct (Tryz.prog.fieldsOf 30)) := by kernel_rfl
  have hp : Tryz.prog.stoodInHeld 30 = false := by kernel_rfl
  rw [run_eql_struct, show (10000 : Nat) = 9999 + 1 from rfl, run_equalIn_agg w 9999 30 _ _ hS hp]
  simp only [Program.fieldsOf, Tryz.underlying30]
  go_simp
  by_cases h1 : a = x <;> by_cases h2 : b = y <;> by_cases h3 : c = z <;> by_cases h4 : d = u <;> simp [h1, h2, h3, h4]
theorem guardFail : Tryz.prog.eqGuardType Tryz.prog.depth 30 = false := by kernel_rfl

namespace Pl
def aliveW : Lts := ⟨5, 2, 0, [(0, 1, 4), (1, 0, 0), (2, 0, 3), (2, 1, 4)]⟩
theorem aliveW_right : aliveW.Right := ⟨by unfold HeadBad aliveW; simp, by decide⟩
theorem aliveW_norm : aliveW.norm = aliveW := by
  unfold Lts.norm
  have : nf ltE aliveW.es = aliveW.es := by decide
  rw [this]
end Pl
theorem aliveW_cl : clB aliveW.st [0, 0, 1, 2, 2] = true := by decide

theorem aliveW_strong {e : Ending} (h : WalkE aliveW 5 [0, 0, 1, 2, 2] (fun q => plainD aliveW [0, 0, 1, 2, 2] (q : Int)) e) : e = .returned (.tuple #[.agg #[.int .i64 0, .int .i64 1, .int .i64 1, .int .i64 4], .bool false, .nilIface]) := by
  have h00 : failD aliveW [0, 0, 1, 2, 2] (fun q => plainD aliveW [0, 0, 1, 2, 2] (q : Int)) 0 0 = none := by decide
  have h01 : failD aliveW [0, 0, 1, 2, 2] (fun q => plainD aliveW [0, 0, 1, 2, 2] (q : Int)) 0 1 = some (1, 4) := by decide
  rcases h with ⟨p, q, x, hp, hq, hpq, hf, hmin, rfl⟩ | ⟨hall, rfl⟩
  · have h1 : p = 0 ∧ q = 1 := by
      by_cases e : p = 0
      · subst e
        refine ⟨rfl, ?_⟩
        by_cases e2 : q = 0
        · subst e2; rw [h00] at hf; cases hf
        · by_cases e3 : q = 1
          · exact e3
          · have := hmin 0 1 (by omega) (by omega) (.inr ⟨rfl, by omega⟩) (by decide)
            rw [h01] at this; cases this
      · have := hmin 0 1 (by omega) (by omega) (.inl (by omega)) (by decide)
        rw [h01] at this; cases this
    obtain ⟨rfl, rfl⟩ := h1
    rw [h01] at hf
    cases hf
    rfl
  · have := hall 0 1 (by omega) (by omega) (by decide)
    rw [h01] at this; cases this

theorem lateD_plain {s : Lts} (hr : s.Right) {C : List Int} {q : Nat} {m : Int} {x : S} (hq : (q : Int) < s.st) (hm : Rch (tauOf s (q : Int)) m) (hC : atL C m = atL C (q : Int)) (hx : x ∈ plainD s C m) : x ∈ lateD s C q := by
  unfold lateD
  have hR := tauOf_right (q := (q : Int)) hr (by omega) hq
  refine List.mem_cons_of_mem _ (List.mem_flatMap.2 ⟨m, List.mem_filter.2 ⟨(mem_reachL hR (by show s.st ≠ 0; omega)).2 hm, by simp [hC]⟩, hx⟩)
theorem lateD_self (s : Lts) (C : List Int) (q : Nat) : (0, atL C (q : Int)) ∈ lateD s C q := List.mem_cons_self

theorem aliveW_late {e : Ending} (h : WalkE aliveW 5 [0, 0, 1, 2, 2] (fun q => lateD aliveW [0, 0, 1, 2, 2] q) e) : e = .returned (.tuple #[.agg #[.int .i64 0, .int .i64 0, .int .i64 0, .int .i64 0], .bool true, .nilIface]) := by
  have hall : ∀ p q : Nat, p < 5 → q < 5 → atL [0, 0, 1, 2, 2] (p : Int) = atL [0, 0, 1, 2, 2] (q : Int) → failD aliveW [0, 0, 1, 2, 2] (fun q => lateD aliveW [0, 0, 1, 2, 2] q) p q = none := by
    intro p q hp hq hpq
    unfold failD
    rw [List.find?_eq_none]
    intro x hx
    have h0 : (1, 2) ∈ lateD aliveW [0, 0, 1, 2, 2] 0 := lateD_plain aliveW_right (m := 0) (by decide) (Rch.start _) rfl (by decide)
    have h1 : (1, 2) ∈ lateD aliveW [0, 0, 1, 2, 2] 1 := lateD_plain aliveW_right (m := 0) (by decide) ((Rch.start _).step (l := 0) (by decide)) rfl (by decide)
    have h2 : (0, 0) ∈ lateD aliveW [0, 0, 1, 2, 2] 0 := lateD_self _ _ 0
    have h3 : (0, 0) ∈ lateD aliveW [0, 0, 1, 2, 2] 1 := lateD_self _ _ 1
    have h4 : (0, 2) ∈ lateD aliveW [0, 0, 1, 2, 2] 2 := lateD_plain aliveW_right (m := 2) (by decide) (Rch.start _) rfl (by decide)
    have h5 : (1, 2) ∈ lateD aliveW [0, 0, 1, 2, 2] 2 := lateD_plain aliveW_right (m := 2) (by decide) (Rch.start _) rfl (by decide)
    simp only [Bool.not_eq_true', decide_eq_false_iff_not, Classical.not_not]
    have hpc : p = 0 ∨ p = 1 ∨ p = 2 ∨ p = 3 ∨ p = 4 := by omega
    have hqc : q = 0 ∨ q = 1 ∨ q = 2 ∨ q = 3 ∨ q = 4 := by omega
    rcases hpc with rfl | rfl | rfl | rfl | rfl
    · have : x = (1, 4) := by
        have h : aliveW.outs ((0 : Nat) : Int) = [(1, 4)] := by decide
        rw [h] at hx; simpa using hx
      subst this
      rcases hqc with rfl | rfl | rfl | rfl | rfl
      · exact h0
      · exact h1
      all_goals exact absurd hpq (by decide)
    · have : x = (0, 0) := by
        have h : aliveW.outs ((1 : Nat) : Int) = [(0, 0)] := by decide
        rw [h] at hx; simpa using hx
      subst this
      rcases hqc with rfl | rfl | rfl | rfl | rfl
      · exact h2
      · exact h3
      all_goals exact absurd hpq (by decide)
    · have : x = (0, 3) ∨ x = (1, 4) := by
        have h : aliveW.outs ((2 : Nat) : Int) = [(0, 3), (1, 4)] := by decide
        rw [h] at hx; simpa using hx
      rcases hqc with rfl | rfl | rfl | rfl | rfl
      · exact absurd hpq (by decide)
      · exact absurd hpq (by decide)
      · rcases this with rfl | rfl
        · exact h4
        · exact h5
      all_goals exact absurd hpq (by decide)
    · have h : aliveW.outs ((3 : Nat) : Int) = [] := by decide
      rw [h] at hx; cases hx
    · have h : aliveW.outs ((4 : Nat) : Int) = [] := by decide
      rw [h] at hx; cases hx
  rcases h with ⟨p, q, x, hp, hq, hpq, hf, hmin, rfl⟩ | ⟨_, rfl⟩
  · rw [hall p q hp hq hpq] at hf; cases hf
  · rfl

theorem slAt_lit5 {w : World} : SlAt encI 1 (w.alloc (.cells #[.int .i64 0, .int .i64 0, .int .i64 1, .int .i64 2, .int .i64 2] 3)) (some ⟨w.heap.size, 0, none⟩) w.heap.size 0 [0, 0, 1, 2, 2] := by
  have h := World.ownsRow_lit (e := 3) (size := 1) (base := w.heap.size) w #[.int .i64 0, .int .i64 0, .int .i64 1, .int .i64 2, .int .i64 2] 5 (Nat.le_refl _) (by unfold maxLen; omega) rfl
  obtain ⟨a, c, b, hv, _, _, hs, _⟩ := slAt_own (xs := [0, 0, 1, 2, 2]) lenI h
  simp only [Value.slice.injEq] at hv
  obtain ⟨rfl, _, _⟩ := hv
  have := hs.ad (by decide)
  simp at this
  subst this
  exact hs

set_option maxRecDepth 100000 in
set_option maxHeartbeats 1000000 in
theorem alive19_any {w : World} {p : Addr} (hG : GErr 15 p w) :
    Calls Tryz.prog 7 #[] w fun e w' => e = .returned (.bool true) ∧ Below w.heap.size w w' := by
  have HG := Lib.hid hG
  have hq := eqlFail 0 1 1 4 0 1 1 4
  have hgd := guardFail
  clear hG
  go_enter Tryz.func7, Tryz.ntmps7
  go_wp2_with fail
  have hS : SlAt encE 3 (w.alloc (.cells #[.int .i64 0, .int .i64 1, .int .i64 4, .int .i64 1, .int .i64 0, .int .i64 0, .int .i64 2, .int .i64 0, .int .i64 3, .int .i64 2, .int .i64 1, .int .i64 4] 58)) (some ⟨w.heap.size, 0, none⟩) w.heap.size 0 aliveW.es := by
    have h := World.ownsRow_lit (e := 58) (size := 3) (base := w.heap.size) w #[.int .i64 0, .int .i64 1, .int .i64 4, .int .i64 1, .int .i64 0, .int .i64 0, .int .i64 2, .int .i64 0, .int .i64 3, .int .i64 2, .int .i64 1, .int .i64 4] 4 (Nat.le_refl _) (by unfold maxLen; omega) rfl
    obtain ⟨a, c, b, hv, _, _, hs, _⟩ := slAt_own (xs := aliveW.es) lenE h
    simp only [Value.slice.injEq] at hv
    obtain ⟨rfl, _, _⟩ := hv
    have := hs.ad (by decide)
    simp at this
    subst this
    exact hs
  obtain ⟨W1, hW1⟩ : ∃ W1, W1 = w.alloc (.cells #[.int .i64 0, .int .i64 1, .int .i64 4, .int .i64 1, .int .i64 0, .int .i64 0, .int .i64 2, .int .i64 0, .int .i64 3, .int .i64 2, .int .i64 1, .int .i64 4] 58) := ⟨_, rfl⟩
  have hb1 : Below w.heap.size w W1 := by rw [hW1]; exact (Below.refl _ _).alloc (Nat.le_refl _) _
  have hz1 : W1.heap.size = w.heap.size + 1 := by rw [hW1]; simp
  rw [← hW1] at hS ⊢
  have hx0 := heap_alloc_new W1 (.cells #[.int .i64 5, .int .i64 2, .int .i64 0, .slice (some ⟨w.heap.size, 0, none⟩) 4 4] 24)
  obtain ⟨W2, hW2⟩ : ∃ W2, W2 = W1.alloc (.cells #[.int .i64 5, .int .i64 2, .int .i64 0, .slice (some ⟨w.heap.size, 0, none⟩) 4 4] 24) := ⟨_, rfl⟩
  have hb2 : Below W1.heap.size W1 W2 := by rw [hW2]; exact (Below.refl _ _).alloc (Nat.le_refl _) _
  have hz2 : W2.heap.size = w.heap.size + 1 + 1 := by rw [hW2]; simp [hz1]
  rw [← hW2] at hx0 ⊢
  rw [hz1] at hx0
  have hS2 := hS.below hb2 (Nat.le_refl _)
  have hb02 := hb1.trans (hb2.mono hb1.size)
  have hl := slAt_lit5 (w := W2)
  have hb3 := (Below.refl W2.heap.size W2).alloc (Nat.le_refl _) (.cells #[.int .i64 0, .int .i64 0, .int .i64 1, .int .i64 2, .int .i64 2] 3)
  rw [hz2] at hl
  have HS2 := Lib.hid hS2; have HX0 := Lib.hid hx0; have HB02 := Lib.hid hb02; have HZ2 := Lib.hid hz2
  have hcall := strongYes_any (s := aliveW) (C := [0, 0, 1, 2, 2]) (c := 4) (cc := 5) aliveW_right aliveW_cl (HG.out.below (hb02.trans (hb3.mono hb02.size))) (hS2.below hb3 (Nat.le_refl _)) hl (by decide) (by decide)
  rw [aliveW_norm] at hcall
  have HCALL := Lib.hid hcall
  clear hW1 hb1 hz1 hS hx0 hW2 hb2 hz2 hS2 hb02 hl hcall
  refine HCALL.out.mono ?_
  rintro e w5 ⟨hW, hB5⟩
  obtain rfl := aliveW_strong hW
  have hb25 : Below W2.heap.size W2 w5 := hb3.trans (hB5.mono (by simp))
  have HB05 := Lib.hid (HB02.out.trans (hb25.mono HB02.out.size))
  have HS5 := Lib.hid (HS2.out.below hb25 (Nat.le_refl _))
  have hx5 := (hb25.block (w.heap.size + 1) (by rw [HZ2.out]; omega)).trans HX0.out
  have hl5 := (Array.getElem?_eq_some_iff.1 hx5).1
  have x0 : w5.cell? ⟨w.heap.size + 1, 0, none⟩ = some (.int .i64 5) := by simp [World.cell?, hx5]
  have x1 : w5.cell? ⟨w.heap.size + 1, 1, none⟩ = some (.int .i64 2) := by simp [World.cell?, hx5]
  have x2 : w5.cell? ⟨w.heap.size + 1, 2, none⟩ = some (.int .i64 0) := by simp [World.cell?, hx5]
  have x3 : w5.cell? ⟨w.heap.size + 1, 3, none⟩ = some (.slice (some ⟨w.heap.size, 0, none⟩) 4 4) := by simp [World.cell?, hx5]
  clear hW hB5 hb25 hx5 HS2 HX0 HB02 HZ2 HCALL hb3
  go_wp2_with fail
  have hF6 := heap_alloc_new w5 (.cells #[.int .i64 0, .int .i64 1, .int .i64 1, .int .i64 4] 30)
  obtain ⟨W6, hW6⟩ : ∃ W6, W6 = w5.alloc (.cells #[.int .i64 0, .int .i64 1, .int .i64 1, .int .i64 4] 30) := ⟨_, rfl⟩
  have hb6 : Below w5.heap.size w5 W6 := by rw [hW6]; exact (Below.refl _ _).alloc (Nat.le_refl _) _
  have hz6 : W6.heap.size = w5.heap.size + 1 := by rw [hW6]; simp
  rw [← hW6] at hF6 ⊢
  have hb06 := HB05.out.trans (hb6.mono HB05.out.size)
  have hS6 := HS5.out.below hb6 (Nat.le_refl _)
  have hl := slAt_lit5 (w := W6)
  have hb7 := (Below.refl W6.heap.size W6).alloc (Nat.le_refl _) (.cells #[.int .i64 0, .int .i64 0, .int .i64 1, .int .i64 2, .int .i64 2] 3)
  rw [hz6] at hl
  have hcall := branchingYes_any (s := aliveW) (C := [0, 0, 1, 2, 2]) (c := 4) (cc := 5) aliveW_right aliveW_cl (HG.out.below (hb06.trans (hb7.mono hb06.size))) (hS6.below hb7 (Nat.le_refl _)) hl (by decide) (by decide)
  rw [aliveW_norm] at hcall
  have HCALL := Lib.hid hcall; have HF6 := Lib.hid hF6; have HB06 := Lib.hid hb06; have HZ6 := Lib.hid hz6
  clear hW6 hb6 hz6 hS6 hl hcall hF6 hb06 x0 x1 x2 x3 HS5 HB05 HG
  refine HCALL.out.mono ?_
  rintro e w8 ⟨hW, hB8⟩
  obtain rfl := aliveW_late hW
  have hb68 : Below W6.heap.size W6 w8 := hb7.trans (hB8.mono (by simp))
  have HB08 := Lib.hid (HB06.out.trans (hb68.mono HB06.out.size))
  have hx8 := (hb68.block w5.heap.size (by rw [HZ6.out]; omega)).trans HF6.out
  have hl8 := (Array.getElem?_eq_some_iff.1 hx8).1
  have x0 : w8.cell? ⟨w5.heap.size, 0, none⟩ = some (.int .i64 0) := by simp [World.cell?, hx8]
  have x1 : w8.cell? ⟨w5.heap.size, 1, none⟩ = some (.int .i64 1) := by simp [World.cell?, hx8]
  have x2 : w8.cell? ⟨w5.heap.size, 2, none⟩ = some (.int .i64 1) := by simp [World.cell?, hx8]
  have x3 : w8.cell? ⟨w5.heap.size, 3, none⟩ = some (.int .i64 4) := by simp [World.cell?, hx8]
  clear hW hB8 hb68 hx8 HCALL HF6 HB06 HZ6 hb7
  go_wp2_with fail
  go_ret
  exact ⟨rfl, HB08.out.alloc HB08.out.size _⟩
end Go.Proofs.YtclannenknhfpaaGreatDoor

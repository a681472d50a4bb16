/-
  Lemmas.
-/
import Derived.Test.YtdhloijdefnkpaaGreatDoorWitH
import Derived.Test.YtdhloijdefnkpaaGreatDoorWitL
import Derived.Test.YtdhloijdefnkpaaGreatDoorGPl13
import Derived.Laws.BitsAllLaws
import Derived.IntWalk
import Derived.BigRegion
import Derived.Deep.QuietTactic
import Derived.BigQuiet
import Derived.Outline
import Derived.Deep.Cut
import Derived.Test.YtdhloijdefnkpaaGreatDoorGGraphA
import Derived.Shelf.Spec.TrailingZeros
import Derived.Test.YtdhloijdefnkpaaGreatDoorGJoinP
namespace Go.Proofs.YtdhloijdefnkpaaGreatDoor
open Go.RowKit Pl
open Lib (hid)
set_option maxRecDepth 100000 in
theorem weakNo_any {p : Addr} {s : Lts} {C : List Int} (h : ¬ s.Right) {a : Option Addr} {b off c : Nat} {ca : Option Addr} {cc : Nat} {w : World} (hG : GErr 1 p w) (hT : ErrType w) (hS : SlAt encE 3 w a b off s.es) :
    Calls Tryz.prog 55 #[.agg #[.int .i64 s.st, .int .i64 s.lb, .int .i64 s.s0, .slice a s.es.length c], .slice ca C.length cc] w fun e w' => ∃ v, e = .returned (.tuple #[.agg #[.int .i64 0, .int .i64 0, .int .i64 0, .int .i64 0], .bool false, v]) ∧ FaultOn witName w' p v ∧ Below w.heap.size w w' := by
  have hB0 := ((Below.refl w.heap.size w).alloc (Nat.le_refl _) (Obj.cells #[.int .i64 s.st, .int .i64 s.lb, .int .i64 s.s0, .slice a s.es.length c] 24)).alloc (by simp) (Obj.cells #[.int .i64 0, .int .i64 0, .int .i64 0, .int .i64 0] 98)
  have hz0 := heap_alloc_new (w.alloc (Obj.cells #[.int .i64 s.st, .int .i64 s.lb, .int .i64 s.s0, .slice a s.es.length c] 24)) (Obj.cells #[.int .i64 0, .int .i64 0, .int .i64 0, .int .i64 0] 98)
  rw [show (w.alloc (Obj.cells #[.int .i64 s.st, .int .i64 s.lb, .int .i64 s.s0, .slice a s.es.length c] 24)).heap.size = w.heap.size + 1 by simp] at hz0
  have HA := hid (askedNo_any (c := c) h (hG.below hB0) (hT.below hB0) (hS.below hB0 (Nat.le_refl _)) (.slice ca C.length cc))
  have HB0 := hid hB0; have HZ0 := hid hz0
  clear hB0 hz0 hG hS h hT
  go_enter Tryz.func55, Tryz.ntmps55
  go_wp2_with fail
  refine HA.out.mono ?_
  rintro e w1 ⟨v, rfl, hF, hB1⟩
  obtain ⟨vi, hF1, hF2⟩ := id hF
  obtain ⟨fb, rfl, hfb⟩ := hF1.ex
  have hr := (hB1.block (w.heap.size + 1) (by simp)).trans HZ0.out
  have f0 : w1.cell? ⟨w.heap.size + 1, 0, none⟩ = some (.int .i64 0) := by simp [World.cell?, hr]
  have f1 : w1.cell? ⟨w.heap.size + 1, 1, none⟩ = some (.int .i64 0) := by simp [World.cell?, hr]
  have f2 : w1.cell? ⟨w.heap.size + 1, 2, none⟩ = some (.int .i64 0) := by simp [World.cell?, hr]
  have f3 : w1.cell? ⟨w.heap.size + 1, 3, none⟩ = some (.int .i64 0) := by simp [World.cell?, hr]
  have z0 : w1.frozen? ⟨w.heap.size + 1, 0, none⟩ = false := by simp [World.frozen?, hr]
  have z1 : w1.frozen? ⟨w.heap.size + 1, 1, none⟩ = false := by simp [World.frozen?, hr]
  have z2 : w1.frozen? ⟨w.heap.size + 1, 2, none⟩ = false := by simp [World.frozen?, hr]
  have z3 : w1.frozen? ⟨w.heap.size + 1, 3, none⟩ = false := by simp [World.frozen?, hr]
  have fl := (Array.getElem?_eq_some_iff.1 hr).1
  have HB1 := hid (HB0.out.trans (hB1.mono (by simp; omega)))
  have HF := hid hF; have HR := hid hr
  clear hB1 hr hF hfb hF1 hF2 HA HZ0
  go_wp2_with fail
  refine bodyPost_ret (v := .tuple #[.agg #[.int .i64 0, .int .i64 0, .int .i64 0, .int .i64 0], .bool false, .iface 73 (.pointer (some ⟨fb, 0, none⟩))]) (by simp [results, Tryz.results55, go_sem, f0, f1, f2, f3]) rfl ⟨_, rfl, ?_, ?_⟩
  · obtain ⟨vi, h1, h2⟩ := HF.out
    exact ⟨vi, h1.set4 HR.out _ _ _ _, h2.set4 HR.out _ _ _ _⟩
  · exact (((HB1.out.setCell (Nat.le_succ _) _).setCell (Nat.le_succ _) _).setCell (Nat.le_succ _) _).setCell (Nat.le_succ _) _
set_option maxRecDepth 100000 in
theorem weakBad_any {p pc : Addr} {s : Lts} {C : List Int} (h : s.Right) {a : Option Addr} {b off c : Nat} {ca : Option Addr} {cc : Nat} {w : World} (hG : GErr 1 p w) (hE : GErr 16 pc w) (hS : SlAt encE 3 w a b off s.es) (hq : NoCls w s (.slice a s.es.length c) (.slice ca C.length cc)) :
    Calls Tryz.prog 55 #[.agg #[.int .i64 s.st, .int .i64 s.lb, .int .i64 s.s0, .slice a s.es.length c], .slice ca C.length cc] w fun e w' => ∃ v, e = .returned (.tuple #[.agg #[.int .i64 0, .int .i64 0, .int .i64 0, .int .i64 0], .bool false, v]) ∧ FaultAt w' v witName (.iface 285 (.pointer (some pc))) ∧ Below w.heap.size w w' := by
  have hB0 := ((Below.refl w.heap.size w).alloc (Nat.le_refl _) (Obj.cells #[.int .i64 s.st, .int .i64 s.lb, .int .i64 s.s0, .slice a s.es.length c] 24)).alloc (by simp) (Obj.cells #[.int .i64 0, .int .i64 0, .int .i64 0, .int .i64 0] 98)
  have hz0 := heap_alloc_new (w.alloc (Obj.cells #[.int .i64 s.st, .int .i64 s.lb, .int .i64 s.s0, .slice a s.es.length c] 24)) (Obj.cells #[.int .i64 0, .int .i64 0, .int .i64 0, .int .i64 0] 98)
  rw [show (w.alloc (Obj.cells #[.int .i64 s.st, .int .i64 s.lb, .int .i64 s.s0, .slice a s.es.length c] 24)).heap.size = w.heap.size + 1 by simp] at hz0
  have HA := hid (askedBad_any (c := c) (cc := cc) h (hG.below hB0) (hE.below hB0) (hS.below hB0 (Nat.le_refl _)) (hq.below hB0))
  have HB0 := hid hB0; have HZ0 := hid hz0
  clear hB0 hz0 hG hS h hE hq
  go_enter Tryz.func55, Tryz.ntmps55
  go_wp2_with fail
  refine HA.out.mono ?_
  rintro e w1 ⟨v, rfl, hF, hB1⟩
  obtain ⟨fb, rfl, hfb⟩ := hF.ex
  have hr := (hB1.block (w.heap.size + 1) (by simp)).trans HZ0.out
  have f0 : w1.cell? ⟨w.heap.size + 1, 0, none⟩ = some (.int .i64 0) := by simp [World.cell?, hr]
  have f1 : w1.cell? ⟨w.heap.size + 1, 1, none⟩ = some (.int .i64 0) := by simp [World.cell?, hr]
  have f2 : w1.cell? ⟨w.heap.size + 1, 2, none⟩ = some (.int .i64 0) := by simp [World.cell?, hr]
  have f3 : w1.cell? ⟨w.heap.size + 1, 3, none⟩ = some (.int .i64 0) := by simp [World.cell?, hr]
  have z0 : w1.frozen? ⟨w.heap.size + 1, 0, none⟩ = false := by simp [World.frozen?, hr]
  have z1 : w1.frozen? ⟨w.heap.size + 1, 1, none⟩ = false := by simp [World.frozen?, hr]
  have z2 : w1.frozen? ⟨w.heap.size + 1, 2, none⟩ = false := by simp [World.frozen?, hr]
  have z3 : w1.frozen? ⟨w.heap.size + 1, 3, none⟩ = false := by simp [World.frozen?, hr]
  have fl := (Array.getElem?_eq_some_iff.1 hr).1
  have HB1 := hid (HB0.out.trans (hB1.mono (by simp; omega)))
  have HF := hid hF; have HR := hid hr
  clear hB1 hr hF hfb HA HZ0
  go_wp2_with fail
  refine bodyPost_ret (v := .tuple #[.agg #[.int .i64 0, .int .i64 0, .int .i64 0, .int .i64 0], .bool false, .iface 73 (.pointer (some ⟨fb, 0, none⟩))]) (by simp [results, Tryz.results55, go_sem, f0, f1, f2, f3]) rfl ⟨_, rfl, ?_, ?_⟩
  · exact HF.out.set4 HR.out _ _ _ _
  · exact (((HB1.out.setCell (Nat.le_succ _) _).setCell (Nat.le_succ _) _).setCell (Nat.le_succ _) _).setCell (Nat.le_succ _) _
set_option maxRecDepth 100000 in
theorem weakYes_any {p : Addr} {s : Lts} {C : List Int} (h : s.Right) (h300 : s.st ≤ 300) (hc : clB s.st C = true) {a : Option Addr} {b off c : Nat} {ca : Option Addr} {cb co cc : Nat} {w : World} (hG : GErr 1 p w) (hS : SlAt encE 3 w a b off s.es) (hCS : SlAt encI 1 w ca cb co C) (hn : C.length ≤ 1000000) (hwf : ∀ x ∈ C, (Lit.int .i64 x).wf = true) :
    Calls Tryz.prog 55 #[.agg #[.int .i64 s.st, .int .i64 s.lb, .int .i64 s.s0, .slice a s.es.length c], .slice ca C.length cc] w fun e w' => WalkE s.norm C.length C (fun q => looseD s.norm C q) e ∧ Below w.heap.size w w' := by
  have hB0 := ((Below.refl w.heap.size w).alloc (Nat.le_refl _) (Obj.cells #[.int .i64 s.st, .int .i64 s.lb, .int .i64 s.s0, .slice a s.es.length c] 24)).alloc (by simp) (Obj.cells #[.int .i64 0, .int .i64 0, .int .i64 0, .int .i64 0] 98)
  have hz0 := heap_alloc_new (w.alloc (Obj.cells #[.int .i64 s.st, .int .i64 s.lb, .int .i64 s.s0, .slice a s.es.length c] 24)) (Obj.cells #[.int .i64 0, .int .i64 0, .int .i64 0, .int .i64 0] 98)
  rw [show (w.alloc (Obj.cells #[.int .i64 s.st, .int .i64 s.lb, .int .i64 s.s0, .slice a s.es.length c] 24)).heap.size = w.heap.size + 1 by simp] at hz0
  have hx0 := (Below.heap_alloc (w.alloc (Obj.cells #[.int .i64 s.st, .int .i64 s.lb, .int .i64 s.s0, .slice a s.es.length c] 24)) (Obj.cells #[.int .i64 0, .int .i64 0, .int .i64 0, .int .i64 0] 98) w.heap.size (by simp)).trans (heap_alloc_new w (Obj.cells #[.int .i64 s.st, .int .i64 s.lb, .int .i64 s.s0, .slice a s.es.length c] 24))
  have HX0 := hid hx0
  have hd3 : decide (300 < s.st) = false := by simp; omega
  have HA := hid (askedYes_any (c := c) (cc := cc) h hc (hG.below hB0) (hS.below hB0 (Nat.le_refl _)) (hCS.below hB0 (Nat.le_refl _)) hn hwf)
  have HB0 := hid hB0; have HZ0 := hid hz0; have HCS := hid hCS; have HCL := hid (cls_of hc hwf)
  clear h300 hx0 hB0 hz0 hG hS h hc hCS hn hwf
  go_enter Tryz.func55, Tryz.ntmps55
  go_wp2_with fail
  refine HA.out.mono ?_
  rintro e w1 ⟨gb, rfl, hGr, hB1⟩
  have hr := (hB1.block (w.heap.size + 1) (by simp)).trans HZ0.out
  have hx1 := (hB1.block w.heap.size (by simp; omega)).trans HX0.out
  have x0 : w1.cell? ⟨w.heap.size, 0, none⟩ = some (.int .i64 s.st) := by simp [World.cell?, hx1]
  have xl := (Array.getElem?_eq_some_iff.1 hx1).1
  have HB1 := hid (HB0.out.trans (hB1.mono (by simp; omega)))
  have HH := hid hGr; have HR := hid hr
  clear hB1 hr hx1 hGr HA HZ0 HX0
  go_wp2_with fail
  have hwk : Calls Tryz.prog 104 #[.pointer (some ⟨gb, 0, none⟩), .slice ca C.length cc, .func (.func 107) #[] #[]] w1 fun e w' => WalkE s.norm C.length C (fun q => looseD s.norm C q) e ∧ Below w1.heap.size w1 w' :=
    walk_any HH.out HCL.out (HCS.out.below HB1.out (Nat.le_refl _)) (enters_of Tryz.func107 (by kernel_rfl) rfl) (fun W q hq pb mb f hnt => by
      have hcl := HCL.out
      have hcs := HCS.out.below HB1.out (Nat.le_refl _)
      exact loose_any HH.out hcl hcs hnt hq)
  refine hwk.mono ?_
  rintro e w2 ⟨hW, hB2⟩
  obtain ⟨a0, a1, a2, a3, r, rfl⟩ := hW.shape
  have HW := hid hW
  have hr2 := (hB2.block (w.heap.size + 1) (Array.getElem?_eq_some_iff.1 HR.out).1).trans HR.out
  have f0 : w2.cell? ⟨w.heap.size + 1, 0, none⟩ = some (.int .i64 0) := by simp [World.cell?, hr2]
  have f1 : w2.cell? ⟨w.heap.size + 1, 1, none⟩ = some (.int .i64 0) := by simp [World.cell?, hr2]
  have f2 : w2.cell? ⟨w.heap.size + 1, 2, none⟩ = some (.int .i64 0) := by simp [World.cell?, hr2]
  have f3 : w2.cell? ⟨w.heap.size + 1, 3, none⟩ = some (.int .i64 0) := by simp [World.cell?, hr2]
  have z0 : w2.frozen? ⟨w.heap.size + 1, 0, none⟩ = false := by simp [World.frozen?, hr2]
  have z1 : w2.frozen? ⟨w.heap.size + 1, 1, none⟩ = false := by simp [World.frozen?, hr2]
  have z2 : w2.frozen? ⟨w.heap.size + 1, 2, none⟩ = false := by simp [World.frozen?, hr2]
  have z3 : w2.frozen? ⟨w.heap.size + 1, 3, none⟩ = false := by simp [World.frozen?, hr2]
  have fl := (Array.getElem?_eq_some_iff.1 hr2).1
  have HB2 := hid (HB1.out.trans (hB2.mono HB1.out.size))
  clear hW hB2 hr2 hwk
  go_wp2_with fail
  refine bodyPost_ret (v := .tuple #[.agg #[.int .i64 a0, .int .i64 a1, .int .i64 a2, .int .i64 a3], .bool r, .nilIface]) (by simp [results, Tryz.results55, go_sem, f0, f1, f2, f3]) rfl ⟨HW.out, ?_⟩
  exact (((HB2.out.setCell (Nat.le_succ _) _).setCell (Nat.le_succ _) _).setCell (Nat.le_succ _) _).setCell (Nat.le_succ _) _
end Go.Proofs.YtdhloijdefnkpaaGreatDoor
namespace Go.Proofs.YtdhloijdefnkpaaGreatDoor
open Go.RowKit Go.Extern.Stop Go.Stop Go.Extern Pl
set_option maxRecDepth 100000 in
theorem is_faultQ_same (pb pc : Nat) (b : Addr) (w : World) (h1 : w.cell? ⟨pb, 3, none⟩ = some (.iface 73 (.pointer (some ⟨pc, 0, none⟩)))) (h2 : w.cell? ⟨pc, 3, none⟩ = some (.iface 285 (.pointer (some b)))) :
    Calls Tryz.prog 22 #[.iface 73 (.pointer (some ⟨pb, 0, none⟩)), .iface 285 (.pointer (some b))] w fun e w' => e = .returned (.bool true) ∧ w = w' := by
  obtain ⟨i, hi, hcmp⟩ := Option.map_eq_some_iff.1 isComp
  obtain ⟨j, hj, hjs⟩ := Option.map_eq_some_iff.1 isSize
  have tT := isTypeOf
  have cT := isComparable
  have mR := isMethodComparable
  have nE := noIsE
  have uE := noUnwrapE
  have vE := noUnwrapsE
  have nW := noIsW
  have uW := hasUnwrapW
  have mU := methodUnwrap
  have heq := run_eql_iface_ptr_same (P := Tryz.prog) w b Tryz.underlying28 Tryz.underlying285 hi hcmp hj
  have hty := run_eql_iface_types (P := Tryz.prog) 73 285 (.pointer (some ⟨pb, 0, none⟩)) (.pointer (some b)) Tryz.underlying28 (by decide) w
  have hty2 := run_eql_iface_types (P := Tryz.prog) 73 285 (.pointer (some ⟨pc, 0, none⟩)) (.pointer (some b)) Tryz.underlying28 (by decide) w
  go_enter Tryz.func22, Tryz.ntmps22
  go_wp2
  refine wp_loop_rounds 3 ?_
  rw [rounds_succ]
  go_wp2
  rw [rounds_succ]
  go_wp2
  rw [rounds_succ]
  go_wp2
  go_ret
  exact ⟨rfl, rfl⟩
def SentQ (g : Nat) (p : Addr) (w : World) : Prop := ∃ (q : Addr) (c : Array Value) (t : TypeId), GErr g q w ∧ q ≠ p ∧ w.heap[q.block]? = some (.cells c t (0, 0))
theorem SentQ.below {g : Nat} {p : Addr} {w w' : World} (h : SentQ g p w) (hB : Below w.heap.size w w') : SentQ g p w' := by
  obtain ⟨q, c, t, h1, h2, h3⟩ := h
  exact ⟨q, c, t, h1.below hB, h2, by rw [hB.block _ (Array.getElem?_eq_some_iff.1 h3).1]; exact h3⟩
set_option maxRecDepth 100000 in
theorem isNilE_any (v : Value) (w : World) : Calls Tryz.prog 22 #[.nilIface, .iface 285 v] w fun e w' => e = .returned (.bool false) ∧ w = w' := by
  have hne := run_eql_iface_nil_left (P := Tryz.prog) (w := w) 285 v Tryz.underlying28
  go_enter Tryz.func22, Tryz.ntmps22
  go_wp2
  go_ret
  exact ⟨rfl, rfl⟩
end Go.Proofs.YtdhloijdefnkpaaGreatDoor
namespace Go.Proofs.YtdhloijdefnkpaaGreatDoor
open Go.RowKit Pl
def RowAt (w : World) (b off : Nat) (F : Nat → Bool) : Prop := ∀ j, j < 5 → w.cell? ⟨b, off + j, none⟩ = some (.int .u64 (wj F j : Nat))
theorem pow_lt64 {k : Nat} (h : k < 64) : 2 ^ k < 18446744073709551616 := Nat.lt_of_lt_of_le (Nat.pow_lt_pow_right (by decide) h) (by decide)
theorem wrap_pow {k : Nat} (h : k < 64) : IntKind.u64.wrap ((2 : Int) ^ k) = ((2 ^ k : Nat) : Int) := by
  have h1 := pow_lt64 h
  have h2 : ((2 : Int) ^ k) = ((2 ^ k : Nat) : Int) := by simp
  rw [h2, IntKind.wrap_u64]
  obtain ⟨y, hy⟩ : ∃ y, y = 2 ^ k := ⟨_, rfl⟩
  rw [← hy] at h1 ⊢
  omega
end Go.Proofs.YtdhloijdefnkpaaGreatDoor
namespace Go.Proofs.YtdhloijdefnkpaaGreatDoor
open Go.RowKit Pl
theorem RowAt.below {w w' : World} {b off : Nat} {F : Nat → Bool} (h : RowAt w b off F) (hB : Below w.heap.size w w') : RowAt w' b off F := fun j hj => by
  have hc := h j hj
  rw [hB.cell (p := ⟨b, off + j, none⟩) (World.block_lt_of_cell? _ _ hc)]; exact hc
theorem RowAt.lt {w : World} {b off : Nat} {F : Nat → Bool} (h : RowAt w b off F) : b < w.heap.size := World.block_lt_of_cell? _ _ (h 0 (by decide))
theorem RowAt.of_block {w w' : World} {b off : Nat} {F : Nat → Bool} (h : RowAt w b off F) (hb : w'.heap[b]? = w.heap[b]?) : RowAt w' b off F := fun j hj =>
  (World.cell?_of_block (a := ⟨b, off + j, none⟩) hb).trans (h j hj)
def Tab (w : World) : Prop := Go.Proofs.TabAt 13 Lib.deBruijn64tab w
theorem Tab.below {w w' : World} (h : Tab w) (hB : Below w.heap.size w w') : Tab w' := fun j hj => by
  have hc := h j hj
  rw [hB.cell (p := ⟨13, j, none⟩) (World.block_lt_of_cell? _ _ hc)]; exact hc
set_option maxRecDepth 100000 in
set_option maxHeartbeats 1000000 in
theorem tz_any {w : World} (hT : Tab w) {x : Nat} (h0 : x ≠ 0) (hx : x < 18446744073709551616) :
    Calls Tryz.prog 57 #[.int .u64 x] w fun e w' => e = .returned (.int .i64 (Lib.ctz 64 x)) ∧ w = w' := by
  obtain ⟨hlow, hk⟩ := Lib.lowest_bit 64 x h0 hx
  obtain ⟨hi, htab⟩ := Lib.deBruijn64_at _ hk
  have hcell := hT _ hi
  rw [htab] at hcell
  have key := Go.Proofs.tz64_key x _ hx h0 hlow
  have hx0 : ((x : Int) == 0) = false := by simp; omega
  obtain ⟨k, hkk⟩ : ∃ k, k = Lib.ctz 64 x := ⟨_, rfl⟩
  rw [← hkk] at hcell hk key hi ⊢
  obtain ⟨idx, hidx⟩ : ∃ idx, idx = 2 ^ k * 285870213051353865 % 18446744073709551616 / 288230376151711744 := ⟨_, rfl⟩
  rw [← hidx] at hcell key hi
  have HKEY := Lib.hid key
  clear key hidx hlow htab hx h0 hkk hT
  go_enter Tryz.func57, Tryz.ntmps57
  go_wp2_with (simp only [HKEY.out])
  go_ret
  exact ⟨rfl, rfl⟩
def MeetsPost (w : World) (F G : Nat → Bool) (e : Ending) (w' : World) : Prop := ∃ m : Bool, e = .returned (.bool m) ∧ (m = true ↔ ∃ i, i < 320 ∧ F i = true ∧ G i = true) ∧ ∃ u, w' = w.drewN u
def intsOf (L : List Nat) : List Int := L.map Int.ofNat
theorem intsOf_len (L : List Nat) : (intsOf L).length = L.length := by simp [intsOf]
def IdsPost (w : World) (F : Nat → Bool) (e : Ending) (w' : World) : Prop := ∃ v, e = .returned v ∧ w'.ownsRow w.heap.size 3 1 v (intsOf (idsN F 320)).length ((intsOf (idsN F 320)).flatMap encI) ∧ Below w.heap.size w w'
end Go.Proofs.YtdhloijdefnkpaaGreatDoor
namespace Go.Proofs.YtdhloijdefnkpaaGreatDoor
namespace Pl
theorem flat_congrK {α β : Type} {f g : α → List β} : ∀ {L : List α}, (∀ x ∈ L, f x = g x) → L.flatMap f = L.flatMap g
  | [], _ => rfl
  | x :: L, h => by
    rw [List.flatMap_cons, List.flatMap_cons, h x (by simp), flat_congrK (fun y hy => h y (List.mem_cons_of_mem _ hy))]
/-! words as bytes -/
def by8 (x : Nat) : List UInt8 := (List.range 8).map fun k => UInt8.ofNat (x >>> (8 * k))
theorem by8_len (x : Nat) : (by8 x).length = 8 := by simp [by8]
theorem by8_inj {x y : Nat} (hx : x < 18446744073709551616) (hy : y < 18446744073709551616) (h : by8 x = by8 y) : x = y := by
  have key : ∀ k, k < 8 → (x >>> (8 * k)) % 256 = (y >>> (8 * k)) % 256 := by
    intro k hk
    have h1 : (by8 x)[k]? = (by8 y)[k]? := by rw [h]
    unfold by8 at h1
    rw [List.getElem?_map, List.getElem?_map, List.getElem?_range hk] at h1
    simp only [Option.map_some, Option.some.injEq] at h1
    have h2 := congrArg UInt8.toNat h1
    simpa using h2
  refine Nat.eq_of_testBit_eq fun i => ?_
  by_cases hi : i < 64
  · have h1 : ((x >>> (8 * (i / 8))) % 256).testBit (i % 8) = ((y >>> (8 * (i / 8))) % 256).testBit (i % 8) := by rw [key (i / 8) (by omega)]
    rw [show (256 : Nat) = 2 ^ 8 from rfl, Nat.testBit_mod_two_pow, Nat.testBit_mod_two_pow, Nat.testBit_shiftRight, Nat.testBit_shiftRight] at h1
    have h2 : i % 8 < 8 := by omega
    have h3 : 8 * (i / 8) + i % 8 = i := by omega
    simpa [h2, h3] using h1
  · have h1 : (2 : Nat) ^ 64 ≤ 2 ^ i := Nat.pow_le_pow_right (by decide) (by omega)
    rw [Nat.testBit_lt_two_pow (Nat.lt_of_lt_of_le hx h1), Nat.testBit_lt_two_pow (Nat.lt_of_lt_of_le hy h1)]
def bytesW (F : Nat → Bool) (W : Nat) : List UInt8 := (List.range W).flatMap fun j => by8 (wj F j)
theorem bytesW_succ (F : Nat → Bool) (W : Nat) : bytesW F (W + 1) = bytesW F W ++ by8 (wj F W) := by
  unfold bytesW; rw [List.range_succ, List.flatMap_append]; simp
theorem bytesW_len (F : Nat → Bool) : ∀ W, (bytesW F W).length = 8 * W
  | 0 => by simp [bytesW]
  | W + 1 => by rw [bytesW_succ, List.length_append, bytesW_len F W, by8_len]; omega
theorem bytesW_inj {F G : Nat → Bool} : ∀ {W : Nat}, bytesW F W = bytesW G W → ∀ x, x < 64 * W → F x = G x
  | 0, _, x, hx => by omega
  | W + 1, h, x, hx => by
    rw [bytesW_succ, bytesW_succ] at h
    obtain ⟨h1, h2⟩ := List.append_inj h (by rw [bytesW_len, bytesW_len])
    by_cases hlt : x < 64 * W
    · exact bytesW_inj h1 x hlt
    · have h3 := by8_inj (wj_lt F W) (wj_lt G W) h2
      have h4 : (wj F W).testBit (x - 64 * W) = (wj G W).testBit (x - 64 * W) := by rw [h3]
      rw [wj_bit, wj_bit] at h4
      have h5 : x - 64 * W < 64 := by omega
      have h6 : 64 * W + (x - 64 * W) = x := by omega
      simpa [h5, h6] using h4
theorem bytesW_ext {F G : Nat → Bool} {W : Nat} (h : ∀ x, x < 64 * W → F x = G x) : bytesW F W = bytesW G W := by
  unfold bytesW
  refine flat_congrK fun j hj => ?_
  have := List.mem_range.1 hj
  rw [wj_ext (fun k hk => h (64 * j + k) (by omega))]
/-! keys -/
def keyS (W : Nat) (R : Nat → Option (Nat → Bool)) (l : Nat) : List UInt8 := match R l with | none => [] | some F => UInt8.ofNat l :: bytesW F W
def wkey (W c lb : Nat) (R : Nat → Option (Nat → Bool)) : List UInt8 := bytesW (fun x => decide (x = c)) W ++ (List.range lb).flatMap (keyS W R)
def AgreeR (W : Nat) : Option (Nat → Bool) → Option (Nat → Bool) → Prop
  | none, none => True
  | some F, some G => ∀ x, x < 64 * W → F x = G x
  | _, _ => False
theorem keyS_head {W : Nat} {R : Nat → Option (Nat → Bool)} : ∀ {L : List Nat} {x : UInt8} {r : List UInt8}, L.flatMap (keyS W R) = x :: r → ∃ l ∈ L, x = UInt8.ofNat l
  | [], _, _, h => by simp at h
  | l :: L, x, r, h => by
    rw [List.flatMap_cons] at h
    cases e : R l with
    | none =>
      have h1 : keyS W R l = [] := by unfold keyS; rw [e]
      rw [h1] at h
      obtain ⟨l', hl, h2⟩ := keyS_head (L := L) h
      exact ⟨l', List.mem_cons_of_mem _ hl, h2⟩
    | some F =>
      have h1 : keyS W R l = UInt8.ofNat l :: bytesW F W := by unfold keyS; rw [e]
      rw [h1] at h
      simp only [List.cons_append, List.cons.injEq] at h
      exact ⟨l, by simp, h.1.symm⟩
theorem ofNat_inj8 {a b : Nat} (ha : a < 256) (hb : b < 256) (h : UInt8.ofNat a = UInt8.ofNat b) : a = b := by
  have := congrArg UInt8.toNat h
  simp at this; omega
theorem keyS_inj {W : Nat} {R R' : Nat → Option (Nat → Bool)} : ∀ {L : List Nat}, L.Nodup → (∀ l ∈ L, l < 256) → L.flatMap (keyS W R) = L.flatMap (keyS W R') → ∀ l ∈ L, AgreeR W (R l) (R' l)
  | [], _, _, _, l, hl => by simp at hl
  | a :: L, hn, hb, h, l, hl => by
    have hn2 := List.nodup_cons.1 hn
    have ha := hb a (by simp)
    have hno : ∀ (Q : Nat → Option (Nat → Bool)) (r : List UInt8), L.flatMap (keyS W Q) ≠ UInt8.ofNat a :: r := fun Q r e => by
      obtain ⟨b, hbL, h2⟩ := keyS_head e
      have := ofNat_inj8 ha (hb b (List.mem_cons_of_mem _ hbL)) h2
      exact hn2.1 (this ▸ hbL)
    rw [List.flatMap_cons, List.flatMap_cons] at h
    have key : AgreeR W (R a) (R' a) ∧ L.flatMap (keyS W R) = L.flatMap (keyS W R') := by
      cases e : R a with
      | none =>
        cases e' : R' a with
        | none =>
          have h1 : keyS W R a = [] := by unfold keyS; rw [e]
          have h2 : keyS W R' a = [] := by unfold keyS; rw [e']
          rw [h1, h2] at h
          exact ⟨trivial, by simpa using h⟩
        | some G =>
          have h1 : keyS W R a = [] := by unfold keyS; rw [e]
          have h2 : keyS W R' a = UInt8.ofNat a :: bytesW G W := by unfold keyS; rw [e']
          rw [h1, h2] at h
          exact absurd (by simpa using h) (hno R _)
      | some F =>
        cases e' : R' a with
        | none =>
          have h1 : keyS W R a = UInt8.ofNat a :: bytesW F W := by unfold keyS; rw [e]
          have h2 : keyS W R' a = [] := by unfold keyS; rw [e']
          rw [h1, h2] at h
          exact absurd (by simpa using h.symm) (hno R' _)
        | some G =>
          have h1 : keyS W R a = UInt8.ofNat a :: bytesW F W := by unfold keyS; rw [e]
          have h2 : keyS W R' a = UInt8.ofNat a :: bytesW G W := by unfold keyS; rw [e']
          rw [h1, h2] at h
          simp only [List.cons_append, List.cons.injEq, true_and] at h
          obtain ⟨h3, h4⟩ := List.append_inj h (by rw [bytesW_len, bytesW_len])
          exact ⟨bytesW_inj h3, h4⟩
    rcases List.mem_cons.1 hl with rfl | hl
    · exact key.1
    · exact keyS_inj hn2.2 (fun b hbL => hb b (List.mem_cons_of_mem _ hbL)) key.2 l hl
theorem wkey_inj {W c c' lb : Nat} {R R' : Nat → Option (Nat → Bool)} (hc : c < 64 * W) (hlb : lb ≤ 256) (h : wkey W c lb R = wkey W c' lb R') : c = c' ∧ ∀ l, l < lb → AgreeR W (R l) (R' l) := by
  unfold wkey at h
  obtain ⟨h1, h2⟩ := List.append_inj h (by rw [bytesW_len, bytesW_len])
  refine ⟨?_, fun l hl => keyS_inj List.nodup_range (fun x hx => by have := List.mem_range.1 hx; omega) h2 l (List.mem_range.2 hl)⟩
  have := bytesW_inj h1 c hc
  simpa using this
theorem wkey_ext {W c lb : Nat} {R R' : Nat → Option (Nat → Bool)} (h : ∀ l, l < lb → AgreeR W (R l) (R' l)) : wkey W c lb R = wkey W c lb R' := by
  unfold wkey
  congr 1
  refine flat_congrK fun l hl => ?_
  have h1 := h l (List.mem_range.1 hl)
  unfold keyS
  revert h1
  cases R l <;> cases R' l <;> intro h1
  · rfl
  · exact absurd h1 (by simp [AgreeR])
  · exact absurd h1 (by simp [AgreeR])
  · simp only; rw [bytesW_ext h1]
/-! what weak's ends tells -/
def EndsOk (s : Lts) (G : Nat → Nat → Bool) (p : Nat) (l : Int) : Option (Nat → Bool) → Prop
  | none => ¬ ∃ m t, TR s p m ∧ one s m l t
  | some F => (∃ m t, TR s p m ∧ one s m l t) ∧ ∀ x, F x = true ↔ ∃ m t, TR s p m ∧ one s m l t ∧ G t x = true
def EndC (s : Lts) (C : Nat → Int) (G : Nat → Nat → Bool) : Prop := ∀ t x, G t x = true ↔ ∃ q, TR s t q ∧ C q = (x : Int)
theorem ends_mem {s : Lts} {n : Nat} (hr : s.Right) (hn : s.st = (n : Int)) {C : Nat → Int} (h0 : ∀ p, p < n → 0 ≤ C p) {G : Nat → Nat → Bool} (hG : ∀ t x, t < n → (G t x = true ↔ ∃ q, TR s t q ∧ C q = (x : Int))) {p : Nat} (hp : p < n) {l : Int} {o : Option (Nat → Bool)} (h : EndsOk s G p l o) (e : Int) :
    (∃ q, q < n ∧ wst s p l q ∧ C q = e) ↔ ∃ F x, o = some F ∧ e = (x : Nat) ∧ F x = true := by
  constructor
  · rintro ⟨q, hq, ⟨m, t, h1, h2, h3⟩, rfl⟩
    cases o with
    | none => exact absurd ⟨m, t, h1, h2⟩ h
    | some F =>
      obtain ⟨x, hx⟩ := Int.eq_ofNat_of_zero_le (h0 q hq)
      have ht : t < n := by
        rcases h2 with ⟨_, rfl⟩ | ⟨_, h2⟩
        · exact h1.ltW hr hn hp
        · exact (stp_lt hr hn h2).2.1
      exact ⟨F, x, rfl, hx, (h.2 x).2 ⟨m, t, h1, h2, (hG t x ht).2 ⟨q, h3, hx⟩⟩⟩
  · rintro ⟨F, x, rfl, rfl, hF⟩
    obtain ⟨m, t, h1, h2, h3⟩ := (h.2 x).1 hF
    have ht : t < n := by
      rcases h2 with ⟨_, rfl⟩ | ⟨_, h2⟩
      · exact h1.ltW hr hn hp
      · exact (stp_lt hr hn h2).2.1
    obtain ⟨q, h4, h5⟩ := (hG t x ht).1 h3
    exact ⟨q, h4.ltW hr hn ht, ⟨m, t, h1, h2, h4⟩, h5⟩
theorem weak_next {s : Lts} {n lb W : Nat} (hr : s.Right) (hn : s.st = (n : Int)) (hlb : s.lb = (lb : Int)) {C : Nat → Int} (hC : ∀ p, p < n → 0 ≤ C p ∧ C p < (64 * W : Nat)) {G : Nat → Nat → Bool} (hG : ∀ t x, t < n → (G t x = true ↔ ∃ q, TR s t q ∧ C q = (x : Int)))
    {R : Nat → Nat → Option (Nat → Bool)} (hR : ∀ p l, p < n → l < lb → EndsOk s G p (l : Int) (R p l)) {D : Nat → Int} (hD : ∀ p q, p < n → q < n → (D p = D q ↔ wkey W (C p).toNat lb (R p) = wkey W (C q).toNat lb (R q))) : NextS (wst s) n C D := by
  have hst := hr.st0
  have h0 : ∀ p, p < n → 0 ≤ C p := fun p hp => (hC p hp).1
  intro p q hp hq
  rw [hD p q hp hq]
  constructor
  · intro h
    obtain ⟨h1, h2⟩ := wkey_inj (by have := hC p hp; omega) (by omega) h
    refine ⟨by have := hC p hp; have := hC q hq; omega, ?_⟩
    have key : ∀ p q, p < n → q < n → (∀ l, l < lb → AgreeR W (R p l) (R q l)) → ∀ l e, (∃ t, t < n ∧ wst s p l t ∧ C t = e) → (∃ t, t < n ∧ wst s q l t ∧ C t = e) := by
      intro p q hp hq hA l e hx
      obtain ⟨t, ht, hw, rfl⟩ := hx
      have hl := (wst_lt hr hn hw hp).2
      obtain ⟨l, rfl⟩ := Int.eq_ofNat_of_zero_le hl.1
      have hl2 : l < lb := by omega
      obtain ⟨F, x, h3, h4, h5⟩ := (ends_mem hr hn h0 hG hp (hR p l hp hl2) (C t)).1 ⟨t, ht, hw, rfl⟩
      refine (ends_mem hr hn h0 hG hq (hR q l hq hl2) (C t)).2 ?_
      have h6 := hA l hl2
      rw [h3] at h6
      cases e : R q l with
      | none => rw [e] at h6; exact h6.elim
      | some F' =>
        rw [e] at h6
        exact ⟨F', x, rfl, h4, by rw [← h6 x (by have := hC t ht; omega)]; exact h5⟩
    intro l e
    refine ⟨key p q hp hq h2 l e, key q p hq hp (fun l hl => ?_) l e⟩
    have h3 := h2 l hl
    cases e1 : R p l <;> cases e2 : R q l <;> rw [e1, e2] at h3
    · exact trivial
    · exact h3.elim
    · exact h3.elim
    · exact fun x hx => (h3 x hx).symm
  · rintro ⟨h1, h2⟩
    rw [h1]
    refine wkey_ext fun l hl => ?_
    have ep := hR p l hp hl
    have eq := hR q l hq hl
    have mp := ends_mem hr hn h0 hG hp ep
    have mq := ends_mem hr hn h0 hG hq eq
    have some_of : ∀ {p : Nat} {o : Option (Nat → Bool)}, p < n → EndsOk s G p (l : Int) o → o ≠ none → ∃ e, ∃ t, t < n ∧ wst s p l t ∧ C t = e := by
      intro p o hp h hne
      cases o with
      | none => exact absurd rfl hne
      | some F =>
        obtain ⟨m, t, h3, h4⟩ := h.1
        have hw : wst s p l t := ⟨m, t, h3, h4, .refl⟩
        exact ⟨C t, t, (wst_lt hr hn hw hp).1, hw, rfl⟩
    cases e1 : R p l with
    | none =>
      cases e2 : R q l with
      | none => exact trivial
      | some F =>
        obtain ⟨e, he⟩ := some_of hq eq (by rw [e2]; simp)
        obtain ⟨F', x, h3, _⟩ := (mp e).1 ((h2 l e).2 he)
        rw [e1] at h3; cases h3
    | some F =>
      cases e2 : R q l with
      | none =>
        obtain ⟨e, he⟩ := some_of hp ep (by rw [e1]; simp)
        obtain ⟨F', x, h3, _⟩ := (mq e).1 ((h2 l e).1 he)
        rw [e2] at h3; cases h3
      | some F' =>
        intro x _
        have h3 := (mp x).symm.trans ((h2 l x).trans (mq x))
        rw [e1, e2] at h3
        have h4 : F x = true ↔ F' x = true := by
          constructor
          · intro h
            obtain ⟨F2, x2, e, ex, h5⟩ := h3.1 ⟨F, x, rfl, rfl, h⟩
            cases e
            obtain rfl : x = x2 := by omega
            exact h5
          · intro h
            obtain ⟨F2, x2, e, ex, h5⟩ := h3.2 ⟨F', x, rfl, rfl, h⟩
            cases e
            obtain rfl : x = x2 := by omega
            exact h5
        cases e3 : F x <;> cases e4 : F' x <;> simp [e3, e4] at h4 <;> rfl
theorem NextS.sat {s : Lts} {n lb : Nat} {K : Nat → Nat → Nat → Bool} (hr : s.Right) (hn : s.st = (n : Int)) (hlb : s.lb = (lb : Int)) (hK : KOk s n lb K) {C D : Nat → Int} (h : NextS (wst s) n C D) : NextS (stp (satS s n lb K)) n C D := by
  intro p q hp hq
  rw [h p q hp hq]
  have e : ∀ p, p < n → ∀ l c, (∃ t, t < n ∧ stp (satS s n lb K) p l t ∧ C t = c) ↔ (∃ t, t < n ∧ wst s p l t ∧ C t = c) := by
    intro p hp l c
    constructor
    · rintro ⟨t, ht, h1, h2⟩; exact ⟨t, ht, ((stp_sat hr hn hlb hK).1 h1).2, h2⟩
    · rintro ⟨t, ht, h1, h2⟩; exact ⟨t, ht, (stp_sat hr hn hlb hK).2 ⟨hp, h1⟩, h2⟩
  simp only [e p hp, e q hq]
/-! the numbers of texts -/
def txtW (n : Nat) (X : Nat → List UInt8) : List (List UInt8) := (List.range n).map X
theorem txtW_mem {n : Nat} {X : Nat → List UInt8} {p : Nat} (hp : p < n) : X p ∈ txtW n X := List.mem_map.2 ⟨p, List.mem_range.2 hp, rfl⟩
def cdW (n : Nat) (X : Nat → List UInt8) (p : Nat) : Int := codeT (txtW n X) (X p)
theorem cdW_eq {n : Nat} {X : Nat → List UInt8} {p q : Nat} (hp : p < n) (hq : q < n) : cdW n X p = cdW n X q ↔ X p = X q :=
  ⟨codeT_inj (txtW_mem hp) (txtW_mem hq), fun h => by unfold cdW; rw [h]⟩
end Pl
end Go.Proofs.YtdhloijdefnkpaaGreatDoor

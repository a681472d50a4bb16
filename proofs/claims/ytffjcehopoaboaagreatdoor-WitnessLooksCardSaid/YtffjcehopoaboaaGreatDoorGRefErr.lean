/-
  Lemmas.
-/
import Derived.Test.YtffjcehopoaboaaGreatDoorTold
import Derived.Test.YtffjcehopoaboaaGreatDoorRefRight
import Derived.Test.YtffjcehopoaboaaGreatDoorGSameInts
import Derived.Test.YtffjcehopoaboaaGreatDoorGCanon
namespace Go.Proofs.YtffjcehopoaboaaGreatDoor
open Go.RowKit Pl
theorem bad_any (l : ByteArray) (hl : l.size ≤ 1000) (k : Int) (w : World) : Calls Tryz.prog 21 #[.string l, .int .i64 k] w fun e w' => e = .returned (.agg #[.int .i64 k, .int .i64 0, .int .i64 0, .string (l ++ ⟨#[32]⟩)]) ∧ Below w.heap.size w w' := by
  have hz2 : ¬ 9223372036854775807 < l.size + 1 := by omega
  go_enter Tryz.func21, Tryz.ntmps21
  go_wp2_with fail
  refine bodyPost_ret (v := .agg #[.int .i64 k, .int .i64 0, .int .i64 0, .string (l ++ ⟨#[32]⟩)]) (by simp [results, Tryz.results21, go_sem]) rfl ⟨rfl, (Below.refl _ _).alloc (Nat.le_refl _) _⟩
end Go.Proofs.YtffjcehopoaboaaGreatDoor
namespace Go.Proofs.YtffjcehopoaboaaGreatDoor
open Go.RowKit Pl
open Lib (hid)
theorem refOn_any (l x : ByteArray) (hl : l.size ≤ 1000) (hx : x.size ≤ 1000) {k : Int} (hk : k ≠ 0) (i j : Int) (w : World) : Calls Tryz.prog 113 #[.string l, .agg #[.int .i64 k, .int .i64 i, .int .i64 j, .string x]] w fun e w' => e = .returned (.agg #[.int .i64 k, .int .i64 i, .int .i64 j, .string (l ++ ⟨#[32]⟩ ++ x)]) ∧ Below w.heap.size w w' := by
  have hz1 : ¬ 9223372036854775807 < l.size + 1 := by omega
  have hz2 : ¬ 9223372036854775807 < l.size + 1 + x.size := by omega
  have hk1 : (k == 0) = false := by simp [hk]
  go_enter Tryz.func113, Tryz.ntmps113
  go_wp2_with fail
  refine bodyPost_ret (v := .agg #[.int .i64 k, .int .i64 i, .int .i64 j, .string (l ++ ⟨#[32]⟩ ++ x)]) (by simp [results, Tryz.results113, go_sem]) rfl ⟨rfl, ((Below.refl _ _).alloc (Nat.le_refl _) _).alloc (by simp) _⟩
theorem errC {w : World} {B : Nat} {x y z : Int} {u : ByteArray} (h : w.heap[B]? = some (.cells #[.int .i64 x, .int .i64 y, .int .i64 z, .string u] 29 (0, 0))) :
    (w.cell? ⟨B, 0, none⟩ = some (.int .i64 x) ∧ w.cell? ⟨B, 1, none⟩ = some (.int .i64 y) ∧ w.cell? ⟨B, 2, none⟩ = some (.int .i64 z) ∧ w.cell? ⟨B, 3, none⟩ = some (.string u)) ∧ (w.frozen? ⟨B, 0, none⟩ = false ∧ w.frozen? ⟨B, 1, none⟩ = false ∧ w.frozen? ⟨B, 2, none⟩ = false ∧ w.frozen? ⟨B, 3, none⟩ = false) ∧ B < w.heap.size := by
  refine ⟨⟨?_, ?_, ?_, ?_⟩, ⟨?_, ?_, ?_, ?_⟩, (Array.getElem?_eq_some_iff.1 h).1⟩ <;> simp [World.cell?, World.frozen?, h]
theorem errW (w : World) (o : Obj) : Below w.heap.size w ((w.alloc o).alloc (Obj.cells #[.int .i64 0, .int .i64 0, .int .i64 0, .string ⟨#[]⟩] 29)) ∧ ((w.alloc o).alloc (Obj.cells #[.int .i64 0, .int .i64 0, .int .i64 0, .string ⟨#[]⟩] 29)).heap[w.heap.size + 1]? = some (.cells #[.int .i64 0, .int .i64 0, .int .i64 0, .string ⟨#[]⟩] 29 (0, 0)) := by
  refine ⟨((Below.refl _ _).alloc (Nat.le_refl _) _).alloc (by simp) _, ?_⟩
  have h := heap_alloc_new (w.alloc o) (Obj.cells #[.int .i64 0, .int .i64 0, .int .i64 0, .string ⟨#[]⟩] 29)
  rw [show (w.alloc o).heap.size = w.heap.size + 1 by simp] at h
  exact h
theorem errS {w w' : World} (h : Below w.heap.size w w') (a b c d : Value) : Below w.heap.size w ((((w'.setCell ⟨w.heap.size + 1, 0, none⟩ a).setCell ⟨w.heap.size + 1, 1, none⟩ b).setCell ⟨w.heap.size + 1, 2, none⟩ c).setCell ⟨w.heap.size + 1, 3, none⟩ d) :=
  (((h.setCell (by show w.heap.size ≤ w.heap.size + 1; omega) _).setCell (by show w.heap.size ≤ w.heap.size + 1; omega) _).setCell (by show w.heap.size ≤ w.heap.size + 1; omega) _).setCell (by show w.heap.size ≤ w.heap.size + 1; omega) _
set_option maxRecDepth 100000 in
theorem refCheck_no {s : Lts} (h : ¬ s.Right) {a : Option Addr} {b off c : Nat} {w : World} (hS : SlAt encE 3 w a b off s.es) :
    Calls Tryz.prog 114 #[.agg #[.int .i64 s.st, .int .i64 s.lb, .int .i64 s.s0, .slice a s.es.length c]] w fun e w' => e = .returned (.agg #[.int .i64 14, .int .i64 0, .int .i64 0, .string (sysName ++ ⟨#[32]⟩)]) ∧ Below w.heap.size w w' := by
  have hbd := bad_any sysName (by decide) 14
  obtain ⟨el, hel⟩ : ∃ el, el = s.es.length := ⟨_, rfl⟩
  have hR : ∀ V, Below w.heap.size w V → _ := fun V (hV : Below w.heap.size w V) => right_no (c := c) h (hS.below hV (Nat.le_refl _))
  rw [← hel] at hR ⊢
  obtain ⟨hB0, hE0⟩ := errW w (Obj.cells #[.int .i64 s.st, .int .i64 s.lb, .int .i64 s.s0, .slice a el c] 24)
  have HR := hid (hR _ hB0); have HB0 := hid hB0; have HE0 := hid hE0
  unfold sysName at hbd ⊢
  clear hS h hel hR hB0 hE0
  go_enter Tryz.func114, Tryz.ntmps114
  go_wp2_with fail
  refine HR.out.mono ?_
  rintro e w2 ⟨rfl, hB2⟩
  have hx2 := (hB2.block (w.heap.size + 1) (by simp)).trans HE0.out
  have hb2 := HB0.out.trans (hB2.mono HB0.out.size)
  have HX2 := hid hx2; have HB2 := hid hb2
  clear hx2 hb2 hB2 HR HB0 HE0
  go_wp2_with fail
  refine (hbd _).mono ?_
  rintro e w3 ⟨rfl, hB3⟩
  have hx3 := (hB3.block _ (Array.getElem?_eq_some_iff.1 HX2.out).1).trans HX2.out
  have HB3 := hid (HB2.out.trans (hB3.mono HB2.out.size))
  obtain ⟨⟨z0, z1, z2, z3⟩, ⟨f0, f1, f2, f3⟩, zl⟩ := errC hx3
  clear hx3 hB3 HX2 HB2 hbd
  go_wp2_with fail
  refine bodyPost_ret (v := .agg #[.int .i64 14, .int .i64 0, .int .i64 0, .string (⟨#[115, 121, 115, 116, 101, 109]⟩ ++ ⟨#[32]⟩)]) (by simp [results, Tryz.results114, go_sem, z0, z1, z2, z3]) rfl ⟨rfl, errS HB3.out _ _ _ _⟩
set_option maxRecDepth 100000 in
theorem refHanded_no (l : ByteArray) (hl : l.size ≤ 900) {s : Lts} (h : ¬ s.Right) {a : Option Addr} {b off c : Nat} {w : World} (hS : SlAt encE 3 w a b off s.es) :
    Calls Tryz.prog 43 #[.string l, .agg #[.int .i64 s.st, .int .i64 s.lb, .int .i64 s.s0, .slice a s.es.length c]] w fun e w' => e = .returned (.agg #[.int .i64 14, .int .i64 0, .int .i64 0, .string (l ++ ⟨#[32]⟩ ++ sysName ++ ⟨#[32]⟩)]) ∧ Below w.heap.size w w' := by
  obtain ⟨hB0, hE0⟩ := errW w (Obj.cells #[.int .i64 s.st, .int .i64 s.lb, .int .i64 s.s0, .slice a s.es.length c] 24)
  have HCK := hid (refCheck_no (c := c) h (hS.below hB0 (Nat.le_refl _)))
  have hon := refOn_any l (sysName ++ ⟨#[32]⟩) (by omega) (by decide) (k := 14) (by decide) 0 0
  rw [← ByteArray.append_assoc] at hon
  obtain ⟨el, hel⟩ : ∃ el, el = s.es.length := ⟨_, rfl⟩
  rw [← hel] at HCK hB0 hE0 ⊢
  have HB0 := hid hB0; have HE0 := hid hE0
  obtain ⟨sx, hsx⟩ : ∃ sx, sx = sysName ++ ⟨#[32]⟩ := ⟨_, rfl⟩
  obtain ⟨rx, hrx⟩ : ∃ rx, rx = l ++ ⟨#[32]⟩ ++ sysName ++ ⟨#[32]⟩ := ⟨_, rfl⟩
  rw [← hsx] at HCK
  rw [← hrx] at hon ⊢
  rw [← hsx] at hon
  clear hS h hel hB0 hE0 hsx hrx
  go_enter Tryz.func43, Tryz.ntmps43
  go_wp2_with fail
  refine HCK.out.mono ?_
  rintro e w2 ⟨rfl, hB2⟩
  have hx2 := (hB2.block (w.heap.size + 1) (by simp)).trans HE0.out
  have hb2 := HB0.out.trans (hB2.mono HB0.out.size)
  have HX2 := hid hx2; have HB2 := hid hb2
  clear hx2 hb2 hB2 HCK HB0 HE0
  go_wp2_with fail
  refine (hon _).mono ?_
  rintro e w3 ⟨rfl, hB3⟩
  have hx3 := (hB3.block _ (Array.getElem?_eq_some_iff.1 HX2.out).1).trans HX2.out
  have HB3 := hid (HB2.out.trans (hB3.mono HB2.out.size))
  obtain ⟨⟨z0, z1, z2, z3⟩, ⟨f0, f1, f2, f3⟩, zl⟩ := errC hx3
  clear hx3 hB3 HX2 HB2 hon
  go_wp2_with fail
  refine bodyPost_ret (v := .agg #[.int .i64 14, .int .i64 0, .int .i64 0, .string rx]) (by simp [results, Tryz.results43, go_sem, z0, z1, z2, z3]) rfl ⟨rfl, errS HB3.out _ _ _ _⟩
end Go.Proofs.YtffjcehopoaboaaGreatDoor
namespace Go.Proofs.YtffjcehopoaboaaGreatDoor
open Go.RowKit Pl
open Lib (hid)
set_option maxRecDepth 100000 in
theorem light19b_any {s : Lts} {a : Option Addr} {b off c : Nat} {w : World} (hS : SlAt encE 3 w a b off s.es) :
    Calls Tryz.prog 23 #[.agg #[.int .i64 s.st, .int .i64 s.lb, .int .i64 s.s0, .slice a s.es.length c]] w fun e w' => ∃ bv : Bool, e = .returned (.bool bv) ∧ (bv = true → (s.st ≤ 30 ∧ s.es.length ≤ 200) ∨ (¬ s.Right ∧ s.es.length ≤ 11000)) ∧ Below w.heap.size w w' := by
  obtain ⟨W, hW⟩ : ∃ W, W = w.alloc (Obj.cells #[.int .i64 s.st, .int .i64 s.lb, .int .i64 s.s0, .slice a s.es.length c] 24) := ⟨_, rfl⟩
  have hB0 : Below w.heap.size w W := by rw [hW]; exact (Below.refl w.heap.size w).alloc (Nat.le_refl _) _
  have hbx := heap_alloc_new w (Obj.cells #[.int .i64 s.st, .int .i64 s.lb, .int .i64 s.s0, .slice a s.es.length c] 24)
  rw [← hW] at hbx
  have hRY : s.Right → _ := fun h => right_yes (c := c) h (hS.below hB0 (Nat.le_refl _))
  have hRN : ¬ s.Right → _ := fun h => right_no (c := c) h (hS.below hB0 (Nat.le_refl _))
  obtain ⟨el, hel⟩ : ∃ el, el = s.es.length := ⟨_, rfl⟩
  rw [← hel] at hRY hRN hbx hW ⊢
  have HRY := hid hRY; have HRN := hid hRN; have HB0 := hid hB0; have HW := hid hW; have HBX := hid hbx
  obtain ⟨x0, x1, x2, x3, x4⟩ := sysC hbx
  clear hS hel hRY hRN hB0 hW hbx
  by_cases h1 : s.st ≤ 30
  · have e1 : decide (s.st ≤ 30) = true := by simp [h1]
    by_cases h2 : (el : Int) ≤ 200
    · have e2 : decide ((el : Int) ≤ 200) = true := by simp [h2]
      go_enter Tryz.func23, Tryz.ntmps23
      go_wp2_with fail
      rw [← HW.out]
      go_wp2_with fail
      go_ret
      exact ⟨_, rfl, fun _ => .inl ⟨h1, by omega⟩, HB0.out⟩
    · have e2 : decide ((el : Int) ≤ 200) = false := by simp [h2]
      by_cases hr : s.Right
      · have HR := hid (HRY.out hr)
        clear HRY HRN
        go_enter Tryz.func23, Tryz.ntmps23
        go_wp2_with fail
        rw [← HW.out]
        go_wp2_with fail
        refine HR.out.mono ?_
        rintro e w2 ⟨rfl, hB2⟩
        obtain ⟨y0, y1, y2, y3, y4⟩ := sysC ((hB2.block w.heap.size x4).trans HBX.out)
        have HB2 := hid (HB0.out.trans (hB2.mono HB0.out.size))
        clear hB2 x0 x1 x2 x3 x4 HW HBX HB0 HR
        go_wp2_with fail
        go_ret
        exact ⟨_, rfl, fun h => by simp at h, HB2.out⟩
      · have HR := hid (HRN.out hr)
        clear HRY HRN
        by_cases h3 : (el : Int) ≤ 11000
        · have e3 : decide ((el : Int) ≤ 11000) = true := by simp [h3]
          go_enter Tryz.func23, Tryz.ntmps23
          go_wp2_with fail
          rw [← HW.out]
          go_wp2_with fail
          refine HR.out.mono ?_
          rintro e w2 ⟨rfl, hB2⟩
          obtain ⟨y0, y1, y2, y3, y4⟩ := sysC ((hB2.block w.heap.size x4).trans HBX.out)
          have HB2 := hid (HB0.out.trans (hB2.mono HB0.out.size))
          clear hB2 x0 x1 x2 x3 x4 HW HBX HB0 HR
          go_wp2_with fail
          go_ret
          exact ⟨_, rfl, fun _ => .inr ⟨hr, by omega⟩, HB2.out⟩
        · have e3 : decide ((el : Int) ≤ 11000) = false := by simp [h3]
          go_enter Tryz.func23, Tryz.ntmps23
          go_wp2_with fail
          rw [← HW.out]
          go_wp2_with fail
          refine HR.out.mono ?_
          rintro e w2 ⟨rfl, hB2⟩
          obtain ⟨y0, y1, y2, y3, y4⟩ := sysC ((hB2.block w.heap.size x4).trans HBX.out)
          have HB2 := hid (HB0.out.trans (hB2.mono HB0.out.size))
          clear hB2 x0 x1 x2 x3 x4 HW HBX HB0 HR
          go_wp2_with fail
          go_ret
          exact ⟨_, rfl, fun h => by simp at h, HB2.out⟩
  · have e1 : decide (s.st ≤ 30) = false := by simp [h1]
    by_cases hr : s.Right
    · have HR := hid (HRY.out hr)
      clear HRY HRN
      go_enter Tryz.func23, Tryz.ntmps23
      go_wp2_with fail
      rw [← HW.out]
      go_wp2_with fail
      refine HR.out.mono ?_
      rintro e w2 ⟨rfl, hB2⟩
      obtain ⟨y0, y1, y2, y3, y4⟩ := sysC ((hB2.block w.heap.size x4).trans HBX.out)
      have HB2 := hid (HB0.out.trans (hB2.mono HB0.out.size))
      clear hB2 x0 x1 x2 x3 x4 HW HBX HB0 HR
      go_wp2_with fail
      go_ret
      exact ⟨_, rfl, fun h => by simp at h, HB2.out⟩
    · have HR := hid (HRN.out hr)
      clear HRY HRN
      by_cases h3 : (el : Int) ≤ 11000
      · have e3 : decide ((el : Int) ≤ 11000) = true := by simp [h3]
        go_enter Tryz.func23, Tryz.ntmps23
        go_wp2_with fail
        rw [← HW.out]
        go_wp2_with fail
        refine HR.out.mono ?_
        rintro e w2 ⟨rfl, hB2⟩
        obtain ⟨y0, y1, y2, y3, y4⟩ := sysC ((hB2.block w.heap.size x4).trans HBX.out)
        have HB2 := hid (HB0.out.trans (hB2.mono HB0.out.size))
        clear hB2 x0 x1 x2 x3 x4 HW HBX HB0 HR
        go_wp2_with fail
        go_ret
        exact ⟨_, rfl, fun _ => .inr ⟨hr, by omega⟩, HB2.out⟩
      · have e3 : decide ((el : Int) ≤ 11000) = false := by simp [h3]
        go_enter Tryz.func23, Tryz.ntmps23
        go_wp2_with fail
        rw [← HW.out]
        go_wp2_with fail
        refine HR.out.mono ?_
        rintro e w2 ⟨rfl, hB2⟩
        obtain ⟨y0, y1, y2, y3, y4⟩ := sysC ((hB2.block w.heap.size x4).trans HBX.out)
        have HB2 := hid (HB0.out.trans (hB2.mono HB0.out.size))
        clear hB2 x0 x1 x2 x3 x4 HW HBX HB0 HR
        go_wp2_with fail
        go_ret
        exact ⟨_, rfl, fun h => by simp at h, HB2.out⟩
end Go.Proofs.YtffjcehopoaboaaGreatDoor
namespace Go.Proofs.YtffjcehopoaboaaGreatDoor
open Go.RowKit Pl Go.Maps
end Go.Proofs.YtffjcehopoaboaaGreatDoor
namespace Go.Proofs.YtffjcehopoaboaaGreatDoor
open Go.RowKit Pl Go.Maps
open Lib (hid)
set_option maxRecDepth 100000 in
theorem refCls7_any {w : World} {a : Option Addr} {b off c : Nat} {l : List Int} (st lb s0 : Int) (ev : Value) (hS : SlAt encI 1 w a b off l) (hn : l.length ≤ 1000000) :
    Calls Tryz.prog 104 #[.agg #[.int .i64 st, .int .i64 lb, .int .i64 s0, ev], .slice a l.length c] w fun e w' => e = .returned (.bool (clB st l)) ∧ Below w.heap.size w w' := by
  obtain ⟨n, hnn⟩ : ∃ n, n = l.length := ⟨_, rfl⟩
  have HS := hid hS; have HNN := hid hnn
  have hcl : clB st l = (decide ((n : Int) = st) && decide (l = canon l)) := by unfold clB; rw [hnn]
  have HCL := hid hcl
  rw [← hnn] at hn ⊢
  clear hS hnn hcl
  have hB0 := (Below.refl w.heap.size w).alloc (Nat.le_refl _) (Obj.cells #[.int .i64 st, .int .i64 lb, .int .i64 s0, ev] 24)
  have HB0 := hid hB0
  clear hB0
  by_cases hl : (n : Int) = st
  · subst hl
    have hb : ((n : Int) != (n : Int)) = false := by simp
    go_enter Tryz.func104, Tryz.ntmps104
    go_wp2_with fail
    go_loopw [5, 6] (fun v5 v6 w2 => ∃ k : Nat, k ≤ n ∧ v6 = .int .i64 k ∧ v5 = .int .i64 (nUp l k : Int) ∧ canon (l.take k) = l.take k ∧ w2 = w.alloc (Obj.cells #[.int .i64 n, .int .i64 lb, .int .i64 s0, ev] 24))
      (fun _ v6 _ => n - (intOf v6).toNat)
    case atStart => exact ⟨0, Nat.zero_le _, rfl, by simp [nUp, dist], by simp [canon], rfl⟩
    case round =>
      obtain ⟨k, hk, rfl, rfl, hcn, rfl⟩ := hrel
      have hup := nUp_le l k
      have HC := hid hcn
      obtain ⟨m, hm⟩ : ∃ m, m = nUp l k := ⟨_, rfl⟩
      rw [← hm] at hup ⊢
      have HM := hid hm
      clear hm hcn
      by_cases hlt : k < n
      · obtain ⟨x, hx⟩ := getElem?_of_lt (xs := l) (i := k) (by have := HNN.out; omega)
        obtain rfl := HS.out.ad (by have := HNN.out; omega)
        have hcx := (HS.out.below HB0.out (Nat.le_refl _)).ci hx
        have hkn : (k : Int) < (n : Int) := by omega
        have HX := hid hx
        clear hx
        by_cases h0 : x < 0
        · go_wp2
          go_ret
          have := form_no HX.out (.inl h0)
          exact ⟨by rw [HCL.out]; simp [Ne.symm this], HB0.out⟩
        · by_cases h1 : (m : Int) < x
          · go_wp2
            go_ret
            have := form_no HX.out (.inr (by rw [← HM.out]; exact h1))
            exact ⟨by rw [HCL.out]; simp [Ne.symm this], HB0.out⟩
          · by_cases h2 : x = (m : Int)
            · subst h2
              have hb2 : ((m : Int) == (m : Int)) = true := by simp
              go_wp2
              obtain ⟨f1, f2⟩ := form_new HX.out HC.out (by rw [← HM.out])
              have F1 := hid f1; have F2 := hid f2
              clear f1 f2
              go_roundw
              case rel => exact ⟨k + 1, by omega, by go_num, by rw [F2.out, ← HM.out]; go_num, F1.out, by first | rfl | trivial⟩
              case measure => simp [intOf]; omega
            · have hb2 : (x == (m : Int)) = false := by simp [h2]
              go_wp2
              obtain ⟨f1, f2⟩ := form_old HX.out HC.out (by omega) (by rw [← HM.out]; omega)
              have F1 := hid f1; have F2 := hid f2
              clear f1 f2
              go_roundw
              case rel => exact ⟨k + 1, by omega, by go_num, by rw [F2.out, ← HM.out], F1.out, by first | rfl | trivial⟩
              case measure => simp [intOf]; omega
      · obtain rfl : k = n := by omega
        have hc := HC.out
        rw [List.take_of_length_le (by have := HNN.out; omega)] at hc
        have HC2 := hid hc
        clear hc
        go_wp2
        go_ret
        exact ⟨by rw [HCL.out, HC2.out]; simp, HB0.out⟩
  · have hb : ((n : Int) != st) = true := by simp [hl]
    go_enter Tryz.func104, Tryz.ntmps104
    go_wp2
    go_ret
    exact ⟨by rw [HCL.out]; simp [hl], HB0.out⟩
end Go.Proofs.YtffjcehopoaboaaGreatDoor

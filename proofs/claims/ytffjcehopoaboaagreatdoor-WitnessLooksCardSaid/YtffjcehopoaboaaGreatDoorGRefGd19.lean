/-
  Lemmas.
-/
import Derived.Test.YtffjcehopoaboaaGreatDoorGOrdB
import Derived.Test.YtffjcehopoaboaaGreatDoorGRefErr
import Derived.Test.YtffjcehopoaboaaGreatDoorGWitF
import Derived.Test.YtffjcehopoaboaaGreatDoorGLent
import Derived.Test.YtffjcehopoaboaaGreatDoorGPl4
import Derived.Test.YtffjcehopoaboaaGreatDoorGTauJ
namespace Go.Proofs.YtffjcehopoaboaaGreatDoor
open Go.RowKit Pl
open Lib (hid)
set_option maxRecDepth 100000 in
theorem guard19_no {s : Lts} (h : ¬ s.Right) {a : Option Addr} {b off c : Nat} {ca : Option Addr} {n cc : Nat} {w : World} (hS : SlAt encE 3 w a b off s.es) (kd : Int) :
    Calls Tryz.prog 29 #[.agg #[.int .i64 s.st, .int .i64 s.lb, .int .i64 s.s0, .slice a s.es.length c], .slice ca n cc, .int .i64 kd] w fun e w' => e = .returned (.agg #[.int .i64 14, .int .i64 0, .int .i64 0, .string (witName ++ ⟨#[32]⟩ ++ sysName ++ ⟨#[32]⟩)]) ∧ Below w.heap.size w w' := by
  obtain ⟨hB0, hE0⟩ := errW w (Obj.cells #[.int .i64 s.st, .int .i64 s.lb, .int .i64 s.s0, .slice a s.es.length c] 24)
  have HR := hid (right_no (c := c) h (hS.below hB0 (Nat.le_refl _)))
  have HHA : Hid (∀ V, Below w.heap.size w V → Calls Tryz.prog 43 #[.string ⟨#[119, 105, 116, 110, 101, 115, 115]⟩, .agg #[.int .i64 s.st, .int .i64 s.lb, .int .i64 s.s0, .slice a s.es.length c]] V fun e w' => e = .returned (.agg #[.int .i64 14, .int .i64 0, .int .i64 0, .string (witName ++ ⟨#[32]⟩ ++ sysName ++ ⟨#[32]⟩)]) ∧ Below V.heap.size V w') := hid (fun V hV => refHanded_no witName (by decide) h (hS.below hV (Nat.le_refl _)))
  obtain ⟨rx, hrx⟩ : ∃ rx, rx = witName ++ ⟨#[32]⟩ ++ sysName ++ ⟨#[32]⟩ := ⟨_, rfl⟩
  rw [← hrx] at HHA ⊢
  obtain ⟨el, hel⟩ : ∃ el, el = s.es.length := ⟨_, rfl⟩
  rw [← hel] at HR HHA hB0 hE0 ⊢
  have HB0 := hid hB0; have HE0 := hid hE0
  have hbx : ((w.alloc (Obj.cells #[.int .i64 s.st, .int .i64 s.lb, .int .i64 s.s0, .slice a el c] 24)).alloc (Obj.cells #[.int .i64 0, .int .i64 0, .int .i64 0, .string ⟨#[]⟩] 29)).heap[w.heap.size]? = some (Obj.cells #[.int .i64 s.st, .int .i64 s.lb, .int .i64 s.s0, .slice a el c] 24) := by
    rw [Below.heap_alloc _ _ _ (by simp)]; exact heap_alloc_new w _
  have HBX := hid hbx
  clear hS h hel hB0 hE0 hrx hbx
  go_enter Tryz.func29, Tryz.ntmps29
  go_wp2_with fail
  refine HR.out.mono ?_
  rintro e w2 ⟨rfl, hB2⟩
  have hx2 := (hB2.block (w.heap.size + 1) (by simp)).trans HE0.out
  obtain ⟨y0, y1, y2, y3, y4⟩ := sysC ((hB2.block w.heap.size (by simp; omega)).trans HBX.out)
  have HX2 := hid hx2; have HB2 := hid (HB0.out.trans (hB2.mono HB0.out.size))
  clear hx2 hB2 HR HB0 HE0 HBX
  go_wp2_with fail
  refine (HHA.out _ HB2.out).mono ?_
  rintro e w3 ⟨rfl, hB3⟩
  have hx3 := (hB3.block _ (Array.getElem?_eq_some_iff.1 HX2.out).1).trans HX2.out
  have HB3 := hid (HB2.out.trans (hB3.mono HB2.out.size))
  obtain ⟨⟨z0, z1, z2, z3⟩, ⟨f0, f1, f2, f3⟩, zl⟩ := errC hx3
  clear hx3 hB3 HX2 HB2 HHA y0 y1 y2 y3 y4
  go_wp2_with fail
  refine bodyPost_ret (v := .agg #[.int .i64 14, .int .i64 0, .int .i64 0, .string rx]) (by simp [results, Tryz.results29, go_sem, z0, z1, z2, z3]) rfl ⟨rfl, errS HB3.out _ _ _ _⟩
set_option maxRecDepth 100000 in
theorem guard19_ok {s : Lts} (h : s.Right) (h3 : s.st ≤ 300) {C : List Int} {a : Option Addr} {b off c : Nat} {ca : Option Addr} {cb co cc : Nat} {w : World} (hS : SlAt encE 3 w a b off s.es) (hC : SlAt encI 1 w ca cb co C) (hn : C.length ≤ 1000000) (kd : Int) :
    Calls Tryz.prog 29 #[.agg #[.int .i64 s.st, .int .i64 s.lb, .int .i64 s.s0, .slice a s.es.length c], .slice ca C.length cc, .int .i64 kd] w fun e w' => e = .returned (if clB s.st C then .agg #[.int .i64 0, .int .i64 0, .int .i64 0, .string ⟨#[]⟩] else .agg #[.int .i64 15, .int .i64 0, .int .i64 0, .string (witName ++ ⟨#[32]⟩)]) ∧ Below w.heap.size w w' := by
  obtain ⟨hB0, hE0⟩ := errW w (Obj.cells #[.int .i64 s.st, .int .i64 s.lb, .int .i64 s.s0, .slice a s.es.length c] 24)
  have HR := hid (right_yes (c := c) h (hS.below hB0 (Nat.le_refl _)))
  have HCL : Hid (∀ V, Below w.heap.size w V → Calls Tryz.prog 104 #[.agg #[.int .i64 s.st, .int .i64 s.lb, .int .i64 s.s0, .slice a s.es.length c], .slice ca C.length cc] V fun e w' => e = .returned (.bool (clB s.st C)) ∧ Below V.heap.size V w') := hid (fun V hV => refCls7_any s.st s.lb s.s0 _ (hC.below hV (Nat.le_refl _)) hn)
  have hbd := bad_any witName (by decide) 15
  obtain ⟨wn, hwn⟩ : ∃ wn, wn = witName ++ ⟨#[32]⟩ := ⟨_, rfl⟩
  rw [← hwn] at hbd ⊢
  unfold witName at hbd
  obtain ⟨gv, hgv⟩ : ∃ gv, gv = (if clB s.st C then Value.agg #[.int .i64 0, .int .i64 0, .int .i64 0, .string ⟨#[]⟩] else .agg #[.int .i64 15, .int .i64 0, .int .i64 0, .string wn]) := ⟨_, rfl⟩
  rw [← hgv]
  obtain ⟨cbv, hcb⟩ : ∃ cbv, cbv = clB s.st C := ⟨_, rfl⟩
  obtain ⟨el, hel⟩ : ∃ el, el = s.es.length := ⟨_, rfl⟩
  obtain ⟨n, hnn⟩ : ∃ n, n = C.length := ⟨_, rfl⟩
  rw [← hel] at HR HCL hB0 hE0 ⊢
  rw [← hnn, ← hcb] at HCL
  rw [← hnn]
  rw [← hcb] at hgv
  have HB0 := hid hB0; have HE0 := hid hE0
  have hbx : ((w.alloc (Obj.cells #[.int .i64 s.st, .int .i64 s.lb, .int .i64 s.s0, .slice a el c] 24)).alloc (Obj.cells #[.int .i64 0, .int .i64 0, .int .i64 0, .string ⟨#[]⟩] 29)).heap[w.heap.size]? = some (Obj.cells #[.int .i64 s.st, .int .i64 s.lb, .int .i64 s.s0, .slice a el c] 24) := by
    rw [Below.heap_alloc _ _ _ (by simp)]; exact heap_alloc_new w _
  have HBX := hid hbx
  have e3 : decide (300 < s.st) = false := by simp; omega
  clear hS h hel hB0 hE0 hbx hC hwn hcb hnn
  go_enter Tryz.func29, Tryz.ntmps29
  go_wp2_with fail
  refine HR.out.mono ?_
  rintro e w2 ⟨rfl, hB2⟩
  have HX2 := hid ((hB2.block (w.heap.size + 1) (by simp)).trans HE0.out)
  have HS2 := hid ((hB2.block w.heap.size (by simp; omega)).trans HBX.out)
  obtain ⟨y0, y1, y2, y3, y4⟩ := sysC HS2.out
  have HB2 := hid (HB0.out.trans (hB2.mono HB0.out.size))
  clear hB2 HR HB0 HE0 HBX
  go_wp2_with fail
  refine (HCL.out _ HB2.out).mono ?_
  rintro e w3 ⟨rfl, hB3⟩
  have HX3 := hid ((hB3.block (w.heap.size + 1) (Array.getElem?_eq_some_iff.1 HX2.out).1).trans HX2.out)
  have HS3 := hid ((hB3.block w.heap.size y4).trans HS2.out)
  have HB3 := hid (HB2.out.trans (hB3.mono HB2.out.size))
  clear y0 y1 y2 y3 y4
  obtain ⟨y0, y1, y2, y3, y4⟩ := sysC HS3.out
  clear hB3 HX2 HS2 HB2 HCL
  cases cbv
  · go_wp2_with fail
    refine (hbd _).mono ?_
    rintro e w4 ⟨rfl, hB4⟩
    have HB4 := hid (HB3.out.trans (hB4.mono HB3.out.size))
    obtain ⟨⟨z0, z1, z2, z3⟩, ⟨f0, f1, f2, f3⟩, zl⟩ := errC ((hB4.block (w.heap.size + 1) (Array.getElem?_eq_some_iff.1 HX3.out).1).trans HX3.out)
    clear hB4 HX3 HS3 HB3 hbd y0 y1 y2 y3 y4
    go_wp2_with fail
    refine bodyPost_ret (v := .agg #[.int .i64 15, .int .i64 0, .int .i64 0, .string wn]) (by simp [results, Tryz.results29, go_sem, z0, z1, z2, z3]) rfl ⟨by rw [hgv]; rfl, errS HB4.out _ _ _ _⟩
  · obtain ⟨⟨z0, z1, z2, z3⟩, ⟨f0, f1, f2, f3⟩, zl⟩ := errC HX3.out
    by_cases hk : kd = 3
    · have hk2 : (kd == 3) = true := by simp [hk]
      go_wp2_with fail
      refine bodyPost_ret (v := .agg #[.int .i64 0, .int .i64 0, .int .i64 0, .string ⟨#[]⟩]) (by simp [results, Tryz.results29, go_sem, z0, z1, z2, z3]) rfl ⟨by rw [hgv]; rfl, errS HB3.out _ _ _ _⟩
    · have hk2 : (kd == 3) = false := by simp [hk]
      go_wp2_with fail
      refine bodyPost_ret (v := .agg #[.int .i64 0, .int .i64 0, .int .i64 0, .string ⟨#[]⟩]) (by simp [results, Tryz.results29, go_sem, z0, z1, z2, z3]) rfl ⟨by rw [hgv]; rfl, errS HB3.out _ _ _ _⟩
end Go.Proofs.YtffjcehopoaboaaGreatDoor
namespace Go.Proofs.YtffjcehopoaboaaGreatDoor
open Go.RowKit Pl
def FR (ob m : Nat) (vs : Nat → Value) (f : Nat → List Int) : List Rw :=
  ⟨50, 1, .slice (some ⟨ob, 0, none⟩) m m, m, (List.range m).map vs⟩ :: (List.range m).map (fun l => (⟨3, 1, vs l, (f l).length, (f l).flatMap encI⟩ : Rw))
theorem range_map_set {α : Type} {m l : Nat} (g : Nat → α) (x : α) : ((List.range m).map g).set l x = (List.range m).map (upd g l x) := by
  apply List.ext_getElem?
  intro i
  rw [List.getElem?_set]
  by_cases h : i < m
  · by_cases e : l = i
    · subst e; simp [h, upd]
    · rw [if_neg e]
      simp [h, upd, show ¬ i = l from fun e2 => e e2.symm]
  · by_cases e : l = i
    · subst e; simp [h]
    · rw [if_neg e]; simp [h]
theorem FR.set {ob m l : Nat} {vs : Nat → Value} {f : Nat → List Int} (v : Value) (ys : List Int) (rest : List Rw) (hl : l < m) :
    (((FR ob m vs f ++ rest).set (l + 1) ⟨3, 1, v, ys.length, ys.flatMap encI⟩).set 0 ⟨50, 1, .slice (some ⟨ob, 0, none⟩) m m, m, ((List.range m).map vs).set l v⟩) = FR ob m (upd vs l v) (upd f l ys) ++ rest := by
  unfold FR
  rw [List.cons_append, List.set_cons_succ, List.set_cons_zero, List.set_append_left _ _ (by simpa using hl), range_map_set, range_map_set, List.cons_append]
  congr 2
  apply List.map_congr_left
  intro i _
  unfold upd
  split <;> rfl
section
variable {w0 w w' w1 w2 : World} {rest : List Rw} {ob m : Nat} {vs : Nat → Value} {f : Nat → List Int}
end
end Go.Proofs.YtffjcehopoaboaaGreatDoor
namespace Go.Proofs.YtffjcehopoaboaaGreatDoor
namespace Pl
section
variable {κ : Type} [DecidableEq κ] {key : Nat → κ} {n : Nat}
def rep (key : Nat → κ) (i : Nat) : Nat := ((List.range (i + 1)).find? (fun j => decide (key j = key i))).getD i
def repL (key : Nat → κ) (n : Nat) : List Int := fl n (fun i => (rep key i : Int))
end
end Pl
end Go.Proofs.YtffjcehopoaboaaGreatDoor

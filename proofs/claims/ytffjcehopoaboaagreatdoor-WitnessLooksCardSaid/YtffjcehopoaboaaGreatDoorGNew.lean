/-
  Lemmas.
-/
import Derived.Test.YtffjcehopoaboaaGreatDoorGWith
import Derived.Test.YtffjcehopoaboaaGreatDoorGCheck
import Derived.Test.YtffjcehopoaboaaGreatDoorNrowsB
import Derived.Test.YtffjcehopoaboaaGreatDoorGOrder
import Derived.Laws.EntriesVeiled
namespace Go.Proofs.YtffjcehopoaboaaGreatDoor
open Go.RowKit Pl
open Lib (hid)
theorem own_slice {w : World} {base : Nat} {e : TypeId} {k n : Nat} {v : Value} {xs : List Value} (h : w.ownsRow base e k v n xs) : ∃ a m c, v = .slice a m c := by
  rcases h.2 with ⟨rfl, _⟩ | ⟨g, cap, cur, rfl, _⟩
  · exact ⟨_, _, _, rfl⟩
  · exact ⟨_, _, _, rfl⟩
def sysName : ByteArray := ⟨#[115, 121, 115, 116, 101, 109]⟩
set_option maxRecDepth 100000 in
theorem normal_ok {p : Addr} {s : Lts} (h : s.Right) {a : Option Addr} {b off c : Nat} {w : World} (hG : GErr 16 p w) (hS : SlAt encE 3 w a b off s.es) :
    Calls Tryz.prog 158 #[.agg #[.int .i64 s.st, .int .i64 s.lb, .int .i64 s.s0, .slice a s.es.length c]] w fun e w' =>
      ∃ v, e = .returned (.tuple #[.agg #[.int .i64 s.st, .int .i64 s.lb, .int .i64 s.s0, v], .nilIface]) ∧ w'.ownsRow w.heap.size 82 3 v (nf ltE s.es).length ((nf ltE s.es).flatMap encE) ∧ Below w.heap.size w w' := by
  have hl := h.st0
  have hck := fun w hG hS => check_ok (c := c) (p := p) h a b off w hG hS
  have HCK := hid hck; have HG := hid hG; have HS := hid hS
  have hso := fun w hS => sorted_any (w := w) (c := c) (a := a) (b := b) (off := off) (xs := s.es) hS (by omega)
  have HSO := hid hso
  clear hck hG hS hso
  go_enter Tryz.func158, Tryz.ntmps158
  go_wp2_with fail
  have hB0 := ((Below.refl w.heap.size w).alloc (Nat.le_refl _) (Obj.cells #[.int .i64 s.st, .int .i64 s.lb, .int .i64 s.s0, .slice a s.es.length c] 24)).alloc (by simp) (Obj.cells #[.int .i64 0, .int .i64 0, .int .i64 0, .slice none 0 0] 24)
  refine (HCK.out _ (HG.out.below hB0) (HS.out.below hB0 (Nat.le_refl _))).mono ?_
  rintro e w1 ⟨rfl, hB1⟩
  have hB1' := hB0.trans (hB1.mono (by simp; omega))
  have q0 : w1.heap[w.heap.size]? = some (Obj.cells #[.int .i64 s.st, .int .i64 s.lb, .int .i64 s.s0, .slice a s.es.length c] 24) := by
    rw [hB1.block _ (by simp; omega), Below.heap_alloc _ _ _ (by simp), heap_alloc_new]
  have q1 : w1.heap[w.heap.size + 1]? = some (Obj.cells #[.int .i64 0, .int .i64 0, .int .i64 0, .slice none 0 0] 24) := by
    rw [hB1.block _ (by simp)]
    simpa using heap_alloc_new (w.alloc (Obj.cells #[.int .i64 s.st, .int .i64 s.lb, .int .i64 s.s0, .slice a s.es.length c] 24)) (Obj.cells #[.int .i64 0, .int .i64 0, .int .i64 0, .slice none 0 0] 24)
  have hsz1 : w.heap.size + 2 ≤ w1.heap.size := by have := hB1.size; simpa using this
  have t3 : w1.cell? ⟨w.heap.size, 3, none⟩ = some (.slice a s.es.length c) := by simp [World.cell?, q0]
  have Q0 := hid q0; have Q1 := hid q1; have HB1 := hid hB1'
  clear q0 q1 hB1 hB0 hB1'
  go_wp2_with fail
  refine (HSO.out _ (HS.out.below HB1.out (Nat.le_refl _))).mono ?_
  rintro e w2 ⟨v, rfl, hown, hB2⟩
  have q0 : w2.heap[w.heap.size]? = some (Obj.cells #[.int .i64 s.st, .int .i64 s.lb, .int .i64 s.s0, .slice a s.es.length c] 24) := by
    rw [hB2.block _ (by omega)]; exact Q0.out
  have q1 : w2.heap[w.heap.size + 1]? = some (Obj.cells #[.int .i64 0, .int .i64 0, .int .i64 0, .slice none 0 0] 24) := by
    rw [hB2.block _ (by omega)]; exact Q1.out
  obtain ⟨ga, gn, gc, hv⟩ := own_slice hown
  subst hv
  have hB2' := HB1.out.trans (hB2.mono (by omega))
  have e0 : w2.cell? ⟨w.heap.size, 0, none⟩ = some (.int .i64 s.st) := by simp [World.cell?, q0]
  have e1 : w2.cell? ⟨w.heap.size, 1, none⟩ = some (.int .i64 s.lb) := by simp [World.cell?, q0]
  have e2 : w2.cell? ⟨w.heap.size, 2, none⟩ = some (.int .i64 s.s0) := by simp [World.cell?, q0]
  have e3 : w2.cell? ⟨w.heap.size, 3, none⟩ = some (.slice a s.es.length c) := by simp [World.cell?, q0]
  have e4 : w2.frozen? ⟨w.heap.size, 3, none⟩ = false := by simp [World.frozen?, q0]
  have z0 : w2.cell? ⟨w.heap.size + 1, 0, none⟩ = some (.int .i64 0) := by simp [World.cell?, q1]
  have z1 : w2.cell? ⟨w.heap.size + 1, 1, none⟩ = some (.int .i64 0) := by simp [World.cell?, q1]
  have z2 : w2.cell? ⟨w.heap.size + 1, 2, none⟩ = some (.int .i64 0) := by simp [World.cell?, q1]
  have z3 : w2.cell? ⟨w.heap.size + 1, 3, none⟩ = some (.slice none 0 0) := by simp [World.cell?, q1]
  have zf : ∀ j, w2.frozen? ⟨w.heap.size + 1, j, none⟩ = false := by intro j; simp [World.frozen?, q1]
  have zf0 := zf 0; have zf1 := zf 1; have zf2 := zf 2; have zf3 := zf 3
  have HO2 := hid hown; have HB2 := hid hB2'
  clear q0 q1 hown hB2 hB2' zf t3
  go_wp2
  have hbA : w.heap.size < w1.heap.size := by omega
  have hbB : w.heap.size + 1 < w1.heap.size := by omega
  refine bodyPost_ret (v := .tuple #[.agg #[.int .i64 s.st, .int .i64 s.lb, .int .i64 s.s0, .slice ga gn gc], .nilIface]) (by simp [results, Tryz.results158, go_sem, z0, z1, z2, z3]) rfl ⟨_, rfl, ?_, ?_⟩
  · exact own_mono (ownsRow_setCell_below (ownsRow_setCell_below (ownsRow_setCell_below (ownsRow_setCell_below (ownsRow_setCell_below HO2.out hbA _) hbB _) hbB _) hbB _) hbB _) (by omega)
  · exact ((((HB2.out.setCell (Nat.le_refl _) _).setCell (by show w.heap.size ≤ w.heap.size + 1; omega) _).setCell (by show w.heap.size ≤ w.heap.size + 1; omega) _).setCell (by show w.heap.size ≤ w.heap.size + 1; omega) _).setCell (by show w.heap.size ≤ w.heap.size + 1; omega) _
theorem FaultAt.below {w w' : World} {v : Value} {l : ByteArray} {i : Value} (h : FaultAt w v l i) (hB : Below w.heap.size w w') : FaultAt w' v l i := by
  obtain ⟨b, h1, h2⟩ := h.ex
  exact ⟨b, h1, by rw [hB.block _ (Array.getElem?_eq_some_iff.1 h2).1]; exact h2⟩
set_option maxRecDepth 100000 in
theorem normal_no {p : Addr} {s : Lts} (h : ¬ s.Right) {a : Option Addr} {b off c : Nat} {w : World} (hG : GErr 16 p w) (hS : SlAt encE 3 w a b off s.es) :
    Calls Tryz.prog 158 #[.agg #[.int .i64 s.st, .int .i64 s.lb, .int .i64 s.s0, .slice a s.es.length c]] w fun e w' =>
      ∃ v, e = .returned (.tuple #[.agg #[.int .i64 0, .int .i64 0, .int .i64 0, .slice none 0 0], v]) ∧ FaultAt w' v sysName (.iface 304 (.pointer (some p))) ∧ Below w.heap.size w w' := by
  have hck := fun w hG hS => check_no (c := c) (p := p) h a b off w hG hS
  have HCK := hid hck; have HG := hid hG; have HS := hid hS
  clear hck hG hS
  go_enter Tryz.func158, Tryz.ntmps158
  go_wp2_with fail
  have hB0 := ((Below.refl w.heap.size w).alloc (Nat.le_refl _) (Obj.cells #[.int .i64 s.st, .int .i64 s.lb, .int .i64 s.s0, .slice a s.es.length c] 24)).alloc (by simp) (Obj.cells #[.int .i64 0, .int .i64 0, .int .i64 0, .slice none 0 0] 24)
  refine (HCK.out _ (HG.out.below hB0) (HS.out.below hB0 (Nat.le_refl _))).mono ?_
  rintro e w1 ⟨v, rfl, hF, hB1⟩
  have hB1' := hB0.trans (hB1.mono (by simp; omega))
  obtain ⟨fb, rfl, hfb⟩ := hF.ex
  have q1 : w1.heap[w.heap.size + 1]? = some (Obj.cells #[.int .i64 0, .int .i64 0, .int .i64 0, .slice none 0 0] 24) := by
    rw [hB1.block _ (by simp)]
    simpa using heap_alloc_new (w.alloc (Obj.cells #[.int .i64 s.st, .int .i64 s.lb, .int .i64 s.s0, .slice a s.es.length c] 24)) (Obj.cells #[.int .i64 0, .int .i64 0, .int .i64 0, .slice none 0 0] 24)
  have z0 : w1.cell? ⟨w.heap.size + 1, 0, none⟩ = some (.int .i64 0) := by simp [World.cell?, q1]
  have z1 : w1.cell? ⟨w.heap.size + 1, 1, none⟩ = some (.int .i64 0) := by simp [World.cell?, q1]
  have z2 : w1.cell? ⟨w.heap.size + 1, 2, none⟩ = some (.int .i64 0) := by simp [World.cell?, q1]
  have z3 : w1.cell? ⟨w.heap.size + 1, 3, none⟩ = some (.slice none 0 0) := by simp [World.cell?, q1]
  have zf : ∀ j, w1.frozen? ⟨w.heap.size + 1, j, none⟩ = false := by intro j; simp [World.frozen?, q1]
  have zf0 := zf 0; have zf1 := zf 1; have zf2 := zf 2; have zf3 := zf 3
  have hne : fb ≠ w.heap.size + 1 := by
    rintro rfl
    rw [q1] at hfb; simp at hfb
  have HF := hid hfb; have HB1 := hid hB1'; have HNE := hid hne
  clear hF q1 hfb hB0 hB1 hB1' zf hne
  go_wp2
  refine bodyPost_ret (v := .tuple #[.agg #[.int .i64 0, .int .i64 0, .int .i64 0, .slice none 0 0], .iface 95 (.pointer (some ⟨fb, 0, none⟩))]) (by simp [results, Tryz.results158, go_sem, z0, z1, z2, z3]) rfl ⟨_, rfl, ?_, ?_⟩
  · refine ⟨fb, rfl, ?_⟩
    rw [Below.heap_setCell _ _ _ _ HNE.out, Below.heap_setCell _ _ _ _ HNE.out, Below.heap_setCell _ _ _ _ HNE.out, Below.heap_setCell _ _ _ _ HNE.out]
    exact HF.out
  · exact (((HB1.out.setCell (by show w.heap.size ≤ w.heap.size + 1; omega) _).setCell (by show w.heap.size ≤ w.heap.size + 1; omega) _).setCell (by show w.heap.size ≤ w.heap.size + 1; omega) _).setCell (by show w.heap.size ≤ w.heap.size + 1; omega) _
end Go.Proofs.YtffjcehopoaboaaGreatDoor
namespace Go.Proofs.YtffjcehopoaboaaGreatDoor
open Go.RowKit Pl Go.Sort Go.Shelf Go.Lib
def cmpB (a b : E) : Int := orL [cmpI a.2.2 b.2.2, cmpI a.2.1 b.2.1, cmpI a.1 b.1]
set_option maxRecDepth 100000 in
theorem orderB_any (x y : E) (w : World) : Calls Tryz.prog 164 #[.agg #[.int .i64 x.1, .int .i64 x.2.1, .int .i64 x.2.2], .agg #[.int .i64 y.1, .int .i64 y.2.1, .int .i64 y.2.2]] w fun e w' => e = .returned (.int .i64 (cmpB x y)) ∧ ∃ q os', w' = Go.Sort.grow (w.drewN q) os' := by
  unfold cmpB
  go_enter Tryz.func164, Tryz.ntmps164
  go_wp2
  go_region_held3 (fun w' => w'.cell? ⟨w.heap.size, 0, none⟩ = some (.int .i64 x.1) ∧ w'.cell? ⟨w.heap.size, 1, none⟩ = some (.int .i64 x.2.1) ∧ w'.cell? ⟨w.heap.size, 2, none⟩ = some (.int .i64 x.2.2) ∧ w'.cell? ⟨w.heap.size + 1, 0, none⟩ = some (.int .i64 y.1) ∧ w'.cell? ⟨w.heap.size + 1, 1, none⟩ = some (.int .i64 y.2.1) ∧ w'.cell? ⟨w.heap.size + 1, 2, none⟩ = some (.int .i64 y.2.2)) (simp [go_sem, World.cell?_alloc_past])
    (first
      | (go_at_call 166; refine (compare_any _ _ _).mono ?_; rintro e w' ⟨rfl, rfl⟩)
      | (go_at_call 165; refine (or_any (slAt_lit3 (x := cmpI x.2.2 y.2.2) (y := cmpI x.2.1 y.2.1) (z := cmpI x.1 y.1) (by simp [go_sem]) (by simp [go_sem]) (by simp [go_sem])) (by simp)).mono ?_; rintro e w' ⟨rfl, rfl⟩))
  go_wp2
  go_ret
  exact ⟨rfl, 1, _, by rw [Go.Sort.alloc_eq_grow, Go.Sort.alloc_eq_grow, Go.Sort.alloc_eq_grow, Go.Sort.grow_grow, Go.Sort.grow_grow]; rfl⟩
theorem ltOf_cmpB (x y : E) : ltOf cmpB x y = Pl.ltB x y := by
  rw [Bool.eq_iff_iff, ltB_iff]
  unfold ltOf cmpB orL orL orL orL cmpI
  simp only [decide_eq_true_eq]
  repeat' split
  all_goals omega
theorem swoB : SWO (ltOf cmpB) where
  irrefl x := by rw [ltOf_cmpB]; exact stoB.irrefl x
  trans x y z := by rw [ltOf_cmpB, ltOf_cmpB, ltOf_cmpB]; exact stoB.trans x y z
  ntrans x y z := by
    rw [ltOf_cmpB, ltOf_cmpB, ltOf_cmpB]
    simp only [Bool.eq_false_iff, ne_eq, ltB_iff]
    omega
theorem nf_of_perm {l ys : List E} (hl : Srt ltE l) (hp : ys.Perm l) (hs : ys.Pairwise (fun a b => ltOf cmpB b a = false)) : ys = nf Pl.ltB l := by
  refine eq_nf stoB ?_ (fun x => hp.mem_iff)
  have hnd : l.Nodup := hl.imp (fun {a b} h e => by subst e; rw [stoE.irrefl] at h; cases h)
  have hnd2 : ys.Nodup := hp.nodup_iff.2 hnd
  refine List.Pairwise.imp₂ ?_ hs hnd2
  intro a b h1 h2
  rw [ltOf_cmpB] at h1
  rcases stoB.total a b with h | h | h
  · exact h
  · exact absurd h h2
  · rw [h1] at h; cases h
end Go.Proofs.YtffjcehopoaboaaGreatDoor
namespace Go.Proofs.YtffjcehopoaboaaGreatDoor
open Go.RowKit Pl Go.Sort
set_option maxRecDepth 100000 in
theorem new_no {p : Addr} {s : Lts} (h : ¬ s.Right) {a : Option Addr} {b off c : Nat} {w : World} (hG : GErr 16 p w) (hS : SlAt encE 3 w a b off s.es) :
    Calls Tryz.prog 116 #[.agg #[.int .i64 s.st, .int .i64 s.lb, .int .i64 s.s0, .slice a s.es.length c]] w fun e w' =>
      ∃ v, e = .returned (.tuple #[.pointer none, v]) ∧ FaultAt w' v sysName (.iface 304 (.pointer (some p))) ∧ Below w.heap.size w w' := by
  have hck := fun w hG hS => normal_no (c := c) (p := p) h (a := a) (b := b) (off := off) (w := w) hG hS
  have HCK := Lib.hid hck; have HG := Lib.hid hG; have HS := Lib.hid hS
  clear hck hG hS
  go_enter Tryz.func116, Tryz.ntmps116
  go_wp2_with fail
  have hB0 := ((Below.refl w.heap.size w).alloc (Nat.le_refl _) (Obj.cells #[.int .i64 s.st, .int .i64 s.lb, .int .i64 s.s0, .slice a s.es.length c] 24))
  refine (HCK.out _ (HG.out.below hB0) (HS.out.below hB0 (Nat.le_refl _))).mono ?_
  rintro e w1 ⟨v, rfl, hF, hB1⟩
  have hB1' := hB0.trans (hB1.mono (by simp))
  obtain ⟨fb, rfl, hfb⟩ := hF.ex
  have q1 : w1.heap[w.heap.size]? = some (Obj.cells #[.int .i64 s.st, .int .i64 s.lb, .int .i64 s.s0, .slice a s.es.length c] 24) := by
    rw [hB1.block _ (by simp), heap_alloc_new]
  have z0 : w1.cell? ⟨w.heap.size, 0, none⟩ = some (.int .i64 s.st) := by simp [World.cell?, q1]
  have z1 : w1.cell? ⟨w.heap.size, 1, none⟩ = some (.int .i64 s.lb) := by simp [World.cell?, q1]
  have z2 : w1.cell? ⟨w.heap.size, 2, none⟩ = some (.int .i64 s.s0) := by simp [World.cell?, q1]
  have z3 : w1.cell? ⟨w.heap.size, 3, none⟩ = some (.slice a s.es.length c) := by simp [World.cell?, q1]
  have zf : ∀ j, w1.frozen? ⟨w.heap.size, j, none⟩ = false := by intro j; simp [World.frozen?, q1]
  have zf0 := zf 0; have zf1 := zf 1; have zf2 := zf 2; have zf3 := zf 3
  have hne : fb ≠ w.heap.size := by
    rintro rfl
    rw [q1] at hfb; simp at hfb
  have HF := Lib.hid hfb; have HB1 := Lib.hid hB1'; have HNE := Lib.hid hne
  clear hF q1 hfb hB0 hB1 hB1' zf hne
  go_wp2
  go_ret2
  refine ⟨_, rfl, ⟨fb, rfl, ?_⟩, ?_⟩
  · rw [Below.heap_setCell _ _ _ _ HNE.out, Below.heap_setCell _ _ _ _ HNE.out, Below.heap_setCell _ _ _ _ HNE.out, Below.heap_setCell _ _ _ _ HNE.out]
    exact HF.out
  · exact (((HB1.out.setCell (Nat.le_refl _) _).setCell (Nat.le_refl _) _).setCell (Nat.le_refl _) _).setCell (Nat.le_refl _) _
theorem rowsAt_of {w : World} {va : Value} {base vb n : Nat} {key : E → Int} {st : E → S} {l : List E} (hn : n ≤ 1000) (hl : l.length ≤ 10000)
    (hown : w.ownsRow base 131 2 va l.length ((l.map st).flatMap encS))
    (hrow : w.rowIs vb 3 (n + 1) (fun j => .int .i64 (l.filter (fun x => decide (key x < (j : Int)))).length)) :
    RowsAt w va (.slice (some ⟨vb, 0, none⟩) (n + 1) (n + 1)) n (l.map st) (frK key l) where
  alls := by
    obtain ⟨a, c, b, h1, h2, h3, h4, _⟩ := slAt_own (enc := encS) (xs := l.map st) lenS (by rw [List.length_map]; exact hown)
    exact ⟨a, c, b, 0, h1, h2, h3, h4⟩
  from_ := ⟨vb, rfl, hrow.lt, fun i hi => hrow.cell (by omega)⟩
  mono i _ := frK_mono key i l
  top i _ := by rw [List.length_map]; exact frK_le _ _ _
  small := by rw [List.length_map]; exact hl
  n_le := hn
end Go.Proofs.YtffjcehopoaboaaGreatDoor

/-
  The graph's methods: own, States, Labels, Start, Out, In, By, From, Edges.
  The world in which a system's edges grow.
-/
import Derived.Test.YtmlmjhmdjieigaaGreatDoorGKeyE
import Derived.Test.YtmlmjhmdjieigaaGreatDoorGMem
import Derived.Test.YtmlmjhmdjieigaaGreatDoorGPl5
import Derived.Deep.Cut
namespace Go.Proofs.YtmlmjhmdjieigaaGreatDoor
open Go.RowKit Pl

theorem fldSys0 (x y z : Int) (v : Value) (w : World) : (Instr.field 24 (.agg #[.int .i64 x, .int .i64 y, .int .i64 z, v]) 0).run Tryz.prog w = .ok (.int .i64 x) w := by kernel_rfl
theorem fldSys1 (x y z : Int) (v : Value) (w : World) : (Instr.field 24 (.agg #[.int .i64 x, .int .i64 y, .int .i64 z, v]) 1).run Tryz.prog w = .ok (.int .i64 y) w := by kernel_rfl
theorem fldSys2 (x y z : Int) (v : Value) (w : World) : (Instr.field 24 (.agg #[.int .i64 x, .int .i64 y, .int .i64 z, v]) 2).run Tryz.prog w = .ok (.int .i64 z) w := by kernel_rfl
theorem fldSys3 (x y z : Int) (v : Value) (w : World) : (Instr.field 24 (.agg #[.int .i64 x, .int .i64 y, .int .i64 z, v]) 3).run Tryz.prog w = .ok v w := by kernel_rfl

theorem outs_len {s : Lts} (h : s.Right) (i : Int) : (s.outs i).length ≤ 10000 := by
  have := h.st0
  unfold Lts.outs; rw [List.length_map]
  have := List.length_filter_le (fun x => x.1 == i) s.es; omega
theorem ins_len {s : Lts} (h : s.Right) (i : Int) : (s.ins i).length ≤ 10000 := by
  have := h.st0
  unfold Lts.ins; rw [List.length_map]
  have := List.length_filter_le (fun x => x.2.2 == i) (nf ltB s.es)
  have := length_nf (lt := ltB) s.es; omega

set_option maxRecDepth 100000 in
theorem own_any {w : World} {gb : Nat} {s : Lts} (h : GraphAt w gb s) :
    Calls Tryz.prog 76 #[.pointer (some ⟨gb, 0, none⟩)] w fun e w' => ∃ a c b off, e = .returned (.agg #[.int .i64 s.st, .int .i64 s.lb, .int .i64 s.s0, .slice a s.es.length c]) ∧ s.es.length ≤ c ∧ SlAt encE 3 w' a b off s.es ∧ Below w.heap.size w w' := by
  obtain ⟨ve, oa, of, ia, if_, h1, ⟨a, c, b, off, rfl, hcc, h3⟩, _, _⟩ := h.blk
  have c0 : w.cell? ⟨gb, 0, none⟩ = some (.int .i64 s.st) := by simp [World.cell?, h1]
  have c1 : w.cell? ⟨gb, 1, none⟩ = some (.int .i64 s.lb) := by simp [World.cell?, h1]
  have c2 : w.cell? ⟨gb, 2, none⟩ = some (.int .i64 s.s0) := by simp [World.cell?, h1]
  have c3 : w.cell? ⟨gb, 3, none⟩ = some (.slice a s.es.length c) := by simp [World.cell?, h1]
  have hgb := h.lt
  have H3 := Lib.hid h3
  clear h h1 h3
  go_enter Tryz.func76, Tryz.ntmps76
  go_wp2
  have hB : Below w.heap.size w _ := (Below.refl w.heap.size w).alloc (Nat.le_refl _) (Obj.cells #[.int .i64 s.st, .int .i64 s.lb, .int .i64 s.s0, .slice a s.es.length c] 24)
  exact bodyPost_ret (v := .agg #[.int .i64 s.st, .int .i64 s.lb, .int .i64 s.s0, .slice a s.es.length c]) (by simp [results, Tryz.results76, go_sem]) rfl ⟨a, c, b, off, rfl, hcc, H3.out.below hB (Nat.le_refl _), hB⟩

set_option maxRecDepth 100000 in
theorem getStates_any {w : World} {gb : Nat} {s : Lts} (h : GraphAt w gb s) :
    Calls Tryz.prog 48 #[.pointer (some ⟨gb, 0, none⟩)] w fun e w' => e = .returned (.int .i64 s.st) ∧ Below w.heap.size w w' := by
  have HO := Lib.hid (own_any h); clear h
  have hfl := fldSys0
  have hfl := fldSys0
  have hfl := fldSys0
  go_enter Tryz.func48, Tryz.ntmps48
  go_wp2_with (go_at_call 76; refine (HO.out).mono ?_; rintro e w1 ⟨a, c, b, off, rfl, hcc, hS, hB⟩; have HS := Lib.hid hS; clear hS)
  go_ret
  exact ⟨rfl, hB⟩

set_option maxRecDepth 100000 in
theorem getLabels_any {w : World} {gb : Nat} {s : Lts} (h : GraphAt w gb s) :
    Calls Tryz.prog 155 #[.pointer (some ⟨gb, 0, none⟩)] w fun e w' => e = .returned (.int .i64 s.lb) ∧ Below w.heap.size w w' := by
  have HO := Lib.hid (own_any h); clear h
  have hfl := fldSys1
  have hfl := fldSys1
  have hfl := fldSys1
  go_enter Tryz.func155, Tryz.ntmps155
  go_wp2_with (go_at_call 76; refine (HO.out).mono ?_; rintro e w1 ⟨a, c, b, off, rfl, hcc, hS, hB⟩; have HS := Lib.hid hS; clear hS)
  go_ret
  exact ⟨rfl, hB⟩

set_option maxRecDepth 100000 in
theorem getStart_any {w : World} {gb : Nat} {s : Lts} (h : GraphAt w gb s) :
    Calls Tryz.prog 49 #[.pointer (some ⟨gb, 0, none⟩)] w fun e w' => e = .returned (.int .i64 s.s0) ∧ Below w.heap.size w w' := by
  have HO := Lib.hid (own_any h); clear h
  have hfl := fldSys2
  have hfl := fldSys2
  have hfl := fldSys2
  go_enter Tryz.func49, Tryz.ntmps49
  go_wp2_with (go_at_call 76; refine (HO.out).mono ?_; rintro e w1 ⟨a, c, b, off, rfl, hcc, hS, hB⟩; have HS := Lib.hid hS; clear hS)
  go_ret
  exact ⟨rfl, hB⟩


set_option maxRecDepth 100000 in
theorem getBy_any {w : World} {gb : Nat} {s : Lts} (h : GraphAt w gb s) (i label : Int) :
    Calls Tryz.prog 62 #[.pointer (some ⟨gb, 0, none⟩), .int .i64 i, .int .i64 label] w fun e w' => ∃ v, e = .returned v ∧ w'.ownsRow w.heap.size 3 1 v (withL label (s.outs i)).length ((withL label (s.outs i)).flatMap encI) ∧ Below w.heap.size w w' := by
  have hl : (s.outs i).length ≤ 20000 := by have := outs_len h.right i; omega
  have HO := Lib.hid (each_any h (Below.refl _ w) i); clear h
  go_enter Tryz.func62, Tryz.ntmps62
  go_wp2_with (go_at_call 50; refine (HO.out).mono ?_; rintro e w1 ⟨⟨a, c, b, off, rfl, hc1, hc2, hS⟩, hB⟩; have HS := Lib.hid hS; clear hS)
  have hsz := hB.size
  refine (with_sl (HS.out.below hB (Nat.le_refl _)) hl label).mono ?_
  rintro e w2 ⟨v, rfl, hown, hB2⟩
  have HW := Lib.hid hown; clear hown
  go_wp2
  go_ret
  exact ⟨v, rfl, own_mono HW.out hsz, hB.trans (hB2.mono hsz)⟩

set_option maxRecDepth 100000 in
theorem getFrom_any {w : World} {gb : Nat} {s : Lts} (h : GraphAt w gb s) (i label : Int) :
    Calls Tryz.prog 63 #[.pointer (some ⟨gb, 0, none⟩), .int .i64 i, .int .i64 label] w fun e w' => ∃ v, e = .returned v ∧ w'.ownsRow w.heap.size 3 1 v (withL label (s.ins i)).length ((withL label (s.ins i)).flatMap encI) ∧ Below w.heap.size w w' := by
  have hl : (s.ins i).length ≤ 20000 := by have := ins_len h.right i; omega
  have HO := Lib.hid (back_any h (Below.refl _ w) i); clear h
  go_enter Tryz.func63, Tryz.ntmps63
  go_wp2_with (go_at_call 89; refine (HO.out).mono ?_; rintro e w1 ⟨⟨a, c, b, off, rfl, hc1, hc2, hS⟩, hB⟩; have HS := Lib.hid hS; clear hS)
  have hsz := hB.size
  refine (with_sl (HS.out.below hB (Nat.le_refl _)) hl label).mono ?_
  rintro e w2 ⟨v, rfl, hown, hB2⟩
  have HW := Lib.hid hown; clear hown
  go_wp2
  go_ret
  exact ⟨v, rfl, own_mono HW.out hsz, hB.trans (hB2.mono hsz)⟩


end Go.Proofs.YtmlmjhmdjieigaaGreatDoor

namespace Go.Proofs.YtmlmjhmdjieigaaGreatDoor
open Go.RowKit Pl

theorem belowStepT {w0 w w' : World} (h : Below w0.heap.size w0 w) (hB : Below w.heap.size w w') : Below w0.heap.size w0 w' := h.trans (hB.mono h.size)
/-- The world within Cut's last loop: the system at O, its edges the call's own. -/
structure KW (w5 wr : World) (O : Nat) (st lb s0 : Int) (v : Value) (es : List E) : Prop where
  oth : ∀ b, b < w5.heap.size → b ≠ O → wr.heap[b]? = w5.heap[b]?
  bel : Below O w5 wr
  oo : wr.heap[O]? = some (.cells #[.int .i64 st, .int .i64 lb, .int .i64 s0, v] 24 (0, 0))
  own : wr.ownsRow w5.heap.size 54 3 v es.length (es.flatMap encE)
  lt : O < w5.heap.size
section
variable {w5 wr w' : World} {O : Nat} {st lb s0 : Int} {v : Value} {es : List E}
theorem KW.call (h : KW w5 wr O st lb s0 v es) (hB : Below wr.heap.size wr w') : KW w5 w' O st lb s0 v es := by
  have hs := h.bel.size; have hl := h.lt
  exact ⟨fun b hb hne => by rw [hB.block _ (by omega)]; exact h.oth b hb hne, h.bel.trans (hB.mono (by omega)), by rw [hB.block _ (by omega)]; exact h.oo, own_below h.own hB, h.lt⟩
theorem KW.keepc {w1 : World} (h : KW w5 wr O st lb s0 v es) (hg : wr.grownBy w1 v.ownBlock) : w1.cell? ⟨O, 3, none⟩ = some v ∧ w1.frozen? ⟨O, 3, none⟩ = false := by
  have hs := h.bel.size; have hl := h.lt
  have := (hg.block O (by omega) (fun e => by have := (h.own.lt O e.symm).1; omega)).trans h.oo
  constructor <;> simp [World.cell?, World.frozen?, this]
theorem KW.setEs {w1 : World} {v' : Value} {es' : List E} (h : KW w5 wr O st lb s0 v es) (hown : w1.ownsRow w5.heap.size 54 3 v' es'.length (es'.flatMap encE)) (hg : wr.grownBy w1 v.ownBlock) :
    KW w5 (w1.setCell ⟨O, 3, none⟩ v') O st lb s0 v' es' := by
  have hs := h.bel.size; have hl := h.lt; have hgs := hg.size
  have hv : ∀ b, b < w5.heap.size → some b ≠ v.ownBlock := fun b hb e => by have := (h.own.lt b e.symm).1; omega
  refine ⟨fun b hb hne => ?_, (h.bel.grown hg (by omega) (fun k hk => by have := (h.own.lt k hk).1; omega)).setCell (Nat.le_refl _) _, ?_, ownsRow_setCell_below hown hl _, hl⟩
  · rw [Below.heap_setCell _ _ _ _ hne, hg.block b (by omega) (hv b hb)]
    exact h.oth b hb hne
  · exact heap_setCell_same _ O 3 _ _ _ ((hg.block O (by omega) (hv O hl)).trans h.oo)
theorem KW.cells (h : KW w5 wr O st lb s0 v es) : wr.cell? ⟨O, 0, none⟩ = some (.int .i64 st) ∧ wr.cell? ⟨O, 1, none⟩ = some (.int .i64 lb) ∧ wr.cell? ⟨O, 2, none⟩ = some (.int .i64 s0) ∧ wr.cell? ⟨O, 3, none⟩ = some v ∧ wr.frozen? ⟨O, 3, none⟩ = false := by
  have := h.oo
  refine ⟨?_, ?_, ?_, ?_, ?_⟩ <;> simp [World.cell?, World.frozen?, this]
end
end Go.Proofs.YtmlmjhmdjieigaaGreatDoor

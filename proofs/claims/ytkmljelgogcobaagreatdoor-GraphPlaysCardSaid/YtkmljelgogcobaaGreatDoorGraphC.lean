/-
  The graph's methods: own, States, Labels, Start, Out, In, By, From, Edges.
-/
import Derived.Test.YtkmljelgogcobaaGreatDoorGCheck
import Derived.Test.YtkmljelgogcobaaGreatDoorGMem
namespace Go.Proofs.YtkmljelgogcobaaGreatDoor
open Go.RowKit Pl

theorem fldSys0 (x y z : Int) (v : Value) (w : World) : (Instr.field 24 (.agg #[.int .i64 x, .int .i64 y, .int .i64 z, v]) 0).run Tryz.prog w = .ok (.int .i64 x) w := by kernel_rfl
theorem fldSys1 (x y z : Int) (v : Value) (w : World) : (Instr.field 24 (.agg #[.int .i64 x, .int .i64 y, .int .i64 z, v]) 1).run Tryz.prog w = .ok (.int .i64 y) w := by kernel_rfl
theorem fldSys2 (x y z : Int) (v : Value) (w : World) : (Instr.field 24 (.agg #[.int .i64 x, .int .i64 y, .int .i64 z, v]) 2).run Tryz.prog w = .ok (.int .i64 z) w := by kernel_rfl
theorem fldSys3 (x y z : Int) (v : Value) (w : World) : (Instr.field 24 (.agg #[.int .i64 x, .int .i64 y, .int .i64 z, v]) 3).run Tryz.prog w = .ok v w := by kernel_rfl

theorem outs_len {s : Lts} (h : s.Right) (i : Int) : (s.outs i).length ≤ 10000 := by
  have := h.st0
  unfold Lts.outs; rw [List.length_map]
  have := List.length_filter_le (fun x => x.1 == i) s.es; omega
theorem ins_len {s : Lts} (h : s.Right) (i : Int) : (s.ins i).length ≤ 10000 := by
  have := h.st0
  unfold Lts.ins; rw [List.length_map]
  have := List.length_filter_le (fun x => x.2.2 == i) (nf ltB s.es)
  have := length_nf (lt := ltB) s.es; omega

set_option maxRecDepth 100000 in
theorem own_any {w : World} {gb : Nat} {s : Lts} (h : GraphAt w gb s) :
    Calls Tryz.prog 61 #[.pointer (some ⟨gb, 0, none⟩)] w fun e w' => ∃ a c b off, e = .returned (.agg #[.int .i64 s.st, .int .i64 s.lb, .int .i64 s.s0, .slice a s.es.length c]) ∧ s.es.length ≤ c ∧ SlAt encE 3 w' a b off s.es ∧ Below w.heap.size w w' := by
  obtain ⟨ve, oa, of, ia, if_, h1, ⟨a, c, b, off, rfl, hcc, h3⟩, _, _⟩ := h.blk
  have c0 : w.cell? ⟨gb, 0, none⟩ = some (.int .i64 s.st) := by simp [World.cell?, h1]
  have c1 : w.cell? ⟨gb, 1, none⟩ = some (.int .i64 s.lb) := by simp [World.cell?, h1]
  have c2 : w.cell? ⟨gb, 2, none⟩ = some (.int .i64 s.s0) := by simp [World.cell?, h1]
  have c3 : w.cell? ⟨gb, 3, none⟩ = some (.slice a s.es.length c) := by simp [World.cell?, h1]
  have hgb := h.lt
  have H3 := Lib.hid h3
  clear h h1 h3
  go_enter Tryz.func61, Tryz.ntmps61
  go_wp2
  have hB : Below w.heap.size w _ := (Below.refl w.heap.size w).alloc (Nat.le_refl _) (Obj.cells #[.int .i64 s.st, .int .i64 s.lb, .int .i64 s.s0, .slice a s.es.length c] 24)
  exact bodyPost_ret (v := .agg #[.int .i64 s.st, .int .i64 s.lb, .int .i64 s.s0, .slice a s.es.length c]) (by simp [results, Tryz.results61, go_sem]) rfl ⟨a, c, b, off, rfl, hcc, H3.out.below hB (Nat.le_refl _), hB⟩

set_option maxRecDepth 100000 in
theorem getStates_any {w : World} {gb : Nat} {s : Lts} (h : GraphAt w gb s) :
    Calls Tryz.prog 43 #[.pointer (some ⟨gb, 0, none⟩)] w fun e w' => e = .returned (.int .i64 s.st) ∧ Below w.heap.size w w' := by
  have HO := Lib.hid (own_any h); clear h
  have hfl := fldSys0
  have hfl := fldSys0
  have hfl := fldSys0
  go_enter Tryz.func43, Tryz.ntmps43
  go_wp2_with (go_at_call 61; refine (HO.out).mono ?_; rintro e w1 ⟨a, c, b, off, rfl, hcc, hS, hB⟩; have HS := Lib.hid hS; clear hS)
  go_ret
  exact ⟨rfl, hB⟩

set_option maxRecDepth 100000 in
theorem getLabels_any {w : World} {gb : Nat} {s : Lts} (h : GraphAt w gb s) :
    Calls Tryz.prog 44 #[.pointer (some ⟨gb, 0, none⟩)] w fun e w' => e = .returned (.int .i64 s.lb) ∧ Below w.heap.size w w' := by
  have HO := Lib.hid (own_any h); clear h
  have hfl := fldSys1
  have hfl := fldSys1
  have hfl := fldSys1
  go_enter Tryz.func44, Tryz.ntmps44
  go_wp2_with (go_at_call 61; refine (HO.out).mono ?_; rintro e w1 ⟨a, c, b, off, rfl, hcc, hS, hB⟩; have HS := Lib.hid hS; clear hS)
  go_ret
  exact ⟨rfl, hB⟩

set_option maxRecDepth 100000 in
theorem getStart_any {w : World} {gb : Nat} {s : Lts} (h : GraphAt w gb s) :
    Calls Tryz.prog 45 #[.pointer (some ⟨gb, 0, none⟩)] w fun e w' => e = .returned (.int .i64 s.s0) ∧ Below w.heap.size w w' := by
  have HO := Lib.hid (own_any h); clear h
  have hfl := fldSys2
  have hfl := fldSys2
  have hfl := fldSys2
  go_enter Tryz.func45, Tryz.ntmps45
  go_wp2_with (go_at_call 61; refine (HO.out).mono ?_; rintro e w1 ⟨a, c, b, off, rfl, hcc, hS, hB⟩; have HS := Lib.hid hS; clear hS)
  go_ret
  exact ⟨rfl, hB⟩

set_option maxRecDepth 100000 in
theorem getOut_any {w : World} {gb : Nat} {s : Lts} (h : GraphAt w gb s) (i : Int) :
    Calls Tryz.prog 9 #[.pointer (some ⟨gb, 0, none⟩), .int .i64 i] w fun e w' => ∃ v, e = .returned v ∧ w'.ownsRow w.heap.size 92 2 v (s.outs i).length ((s.outs i).flatMap encS) ∧ Below w.heap.size w w' := by
  have hl : (s.outs i).length ≤ 1000000 := by have := outs_len h.right i; omega
  have HO := Lib.hid (each_any h (Below.refl _ w) i); clear h
  go_enter Tryz.func9, Tryz.ntmps9
  go_wp2_with (go_at_call 58; refine (HO.out).mono ?_; rintro e w1 ⟨⟨a, c, b, off, rfl, hc1, hc2, hS⟩, hB⟩; have HS := Lib.hid hS; clear hS)
  have hsz := hB.size
  refine (cloneS_any (HS.out.below hB (Nat.le_refl _)) hl).mono ?_
  rintro e w2 ⟨v, rfl, hown, hB2⟩
  have HW := Lib.hid hown; clear hown
  go_wp2
  go_ret
  exact ⟨v, rfl, own_mono HW.out hsz, hB.trans (hB2.mono hsz)⟩

set_option maxRecDepth 100000 in
theorem getIn_any {w : World} {gb : Nat} {s : Lts} (h : GraphAt w gb s) (i : Int) :
    Calls Tryz.prog 10 #[.pointer (some ⟨gb, 0, none⟩), .int .i64 i] w fun e w' => ∃ v, e = .returned v ∧ w'.ownsRow w.heap.size 92 2 v (s.ins i).length ((s.ins i).flatMap encS) ∧ Below w.heap.size w w' := by
  have hl : (s.ins i).length ≤ 1000000 := by have := ins_len h.right i; omega
  have HO := Lib.hid (back_any h (Below.refl _ w) i); clear h
  go_enter Tryz.func10, Tryz.ntmps10
  go_wp2_with (go_at_call 59; refine (HO.out).mono ?_; rintro e w1 ⟨⟨a, c, b, off, rfl, hc1, hc2, hS⟩, hB⟩; have HS := Lib.hid hS; clear hS)
  have hsz := hB.size
  refine (cloneS_any (HS.out.below hB (Nat.le_refl _)) hl).mono ?_
  rintro e w2 ⟨v, rfl, hown, hB2⟩
  have HW := Lib.hid hown; clear hown
  go_wp2
  go_ret
  exact ⟨v, rfl, own_mono HW.out hsz, hB.trans (hB2.mono hsz)⟩

set_option maxRecDepth 100000 in
theorem getBy_any {w : World} {gb : Nat} {s : Lts} (h : GraphAt w gb s) (i label : Int) :
    Calls Tryz.prog 12 #[.pointer (some ⟨gb, 0, none⟩), .int .i64 i, .int .i64 label] w fun e w' => ∃ v, e = .returned v ∧ w'.ownsRow w.heap.size 3 1 v (withL label (s.outs i)).length ((withL label (s.outs i)).flatMap encI) ∧ Below w.heap.size w w' := by
  have hl : (s.outs i).length ≤ 20000 := by have := outs_len h.right i; omega
  have HO := Lib.hid (each_any h (Below.refl _ w) i); clear h
  go_enter Tryz.func12, Tryz.ntmps12
  go_wp2_with (go_at_call 58; refine (HO.out).mono ?_; rintro e w1 ⟨⟨a, c, b, off, rfl, hc1, hc2, hS⟩, hB⟩; have HS := Lib.hid hS; clear hS)
  have hsz := hB.size
  refine (with_sl (HS.out.below hB (Nat.le_refl _)) hl label).mono ?_
  rintro e w2 ⟨v, rfl, hown, hB2⟩
  have HW := Lib.hid hown; clear hown
  go_wp2
  go_ret
  exact ⟨v, rfl, own_mono HW.out hsz, hB.trans (hB2.mono hsz)⟩

set_option maxRecDepth 100000 in
theorem getFrom_any {w : World} {gb : Nat} {s : Lts} (h : GraphAt w gb s) (i label : Int) :
    Calls Tryz.prog 13 #[.pointer (some ⟨gb, 0, none⟩), .int .i64 i, .int .i64 label] w fun e w' => ∃ v, e = .returned v ∧ w'.ownsRow w.heap.size 3 1 v (withL label (s.ins i)).length ((withL label (s.ins i)).flatMap encI) ∧ Below w.heap.size w w' := by
  have hl : (s.ins i).length ≤ 20000 := by have := ins_len h.right i; omega
  have HO := Lib.hid (back_any h (Below.refl _ w) i); clear h
  go_enter Tryz.func13, Tryz.ntmps13
  go_wp2_with (go_at_call 59; refine (HO.out).mono ?_; rintro e w1 ⟨⟨a, c, b, off, rfl, hc1, hc2, hS⟩, hB⟩; have HS := Lib.hid hS; clear hS)
  have hsz := hB.size
  refine (with_sl (HS.out.below hB (Nat.le_refl _)) hl label).mono ?_
  rintro e w2 ⟨v, rfl, hown, hB2⟩
  have HW := Lib.hid hown; clear hown
  go_wp2
  go_ret
  exact ⟨v, rfl, own_mono HW.out hsz, hB.trans (hB2.mono hsz)⟩

set_option maxRecDepth 100000 in
theorem getEdges_any {w : World} {gb : Nat} {s : Lts} (h : GraphAt w gb s) :
    Calls Tryz.prog 15 #[.pointer (some ⟨gb, 0, none⟩)] w fun e w' => ∃ v, e = .returned v ∧ w'.ownsRow w.heap.size 79 3 v s.es.length (s.es.flatMap encE) ∧ Below w.heap.size w w' := by
  have hl : s.es.length ≤ 1000000 := by have := h.right.st0; omega
  have HO := Lib.hid (own_any h); clear h
  have hfl := fldSys3
  go_enter Tryz.func15, Tryz.ntmps15
  go_wp2_with (go_at_call 61; refine (HO.out).mono ?_; rintro e w1 ⟨a, c, b, off, rfl, hcc, hS, hB⟩; have HS := Lib.hid hS; clear hS)
  have hsz := hB.size
  refine (cloneE_any HS.out hl).mono ?_
  rintro e w2 ⟨v, rfl, hown, hB2⟩
  have HW := Lib.hid hown; clear hown
  go_wp2
  go_ret
  exact ⟨v, rfl, own_mono HW.out hsz, hB.trans (hB2.mono hsz)⟩

end Go.Proofs.YtkmljelgogcobaaGreatDoor

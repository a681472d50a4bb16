/-
  The graph's methods: own, States, Labels, Start, Out, In, By, From, Edges.
  The world in which a system's edges grow.
  '==' at edges and steps; rows of a call's own, written in place; slices.Compact at edges.
-/
import Derived.Test.YtdhloijdefnkpaaGreatDoorGKeyE
import Derived.Test.YtdhloijdefnkpaaGreatDoorGBrL
import Derived.Test.YtdhloijdefnkpaaGreatDoorGPl2
import Derived.Deep.Cut
import Derived.Deep.QuietTactic
import Derived.BigQuiet
namespace Go.Proofs.YtdhloijdefnkpaaGreatDoor
open Go.RowKit Pl

theorem fldSys0 (x y z : Int) (v : Value) (w : World) : (Instr.field 24 (.agg #[.int .i64 x, .int .i64 y, .int .i64 z, v]) 0).run Tryz.prog w = .ok (.int .i64 x) w := by kernel_rfl
theorem fldSys1 (x y z : Int) (v : Value) (w : World) : (Instr.field 24 (.agg #[.int .i64 x, .int .i64 y, .int .i64 z, v]) 1).run Tryz.prog w = .ok (.int .i64 y) w := by kernel_rfl
theorem fldSys2 (x y z : Int) (v : Value) (w : World) : (Instr.field 24 (.agg #[.int .i64 x, .int .i64 y, .int .i64 z, v]) 2).run Tryz.prog w = .ok (.int .i64 z) w := by kernel_rfl
theorem fldSys3 (x y z : Int) (v : Value) (w : World) : (Instr.field 24 (.agg #[.int .i64 x, .int .i64 y, .int .i64 z, v]) 3).run Tryz.prog w = .ok v w := by kernel_rfl

theorem outs_len {s : Lts} (h : s.Right) (i : Int) : (s.outs i).length ≤ 10000 := by
  have := h.st0
  unfold Lts.outs; rw [List.length_map]
  have := List.length_filter_le (fun x => x.1 == i) s.es; omega
theorem ins_len {s : Lts} (h : s.Right) (i : Int) : (s.ins i).length ≤ 10000 := by
  have := h.st0
  unfold Lts.ins; rw [List.length_map]
  have := List.length_filter_le (fun x => x.2.2 == i) (nf ltB s.es)
  have := length_nf (lt := ltB) s.es; omega

set_option maxRecDepth 100000 in
theorem own_any {w : World} {gb : Nat} {s : Lts} (h : GraphAt w gb s) :
    Calls Tryz.prog 109 #[.pointer (some ⟨gb, 0, none⟩)] w fun e w' => ∃ a c b off, e = .returned (.agg #[.int .i64 s.st, .int .i64 s.lb, .int .i64 s.s0, .slice a s.es.length c]) ∧ s.es.length ≤ c ∧ SlAt encE 3 w' a b off s.es ∧ Below w.heap.size w w' := by
  obtain ⟨ve, oa, of, ia, if_, h1, ⟨a, c, b, off, rfl, hcc, h3⟩, _, _⟩ := h.blk
  have c0 : w.cell? ⟨gb, 0, none⟩ = some (.int .i64 s.st) := by simp [World.cell?, h1]
  have c1 : w.cell? ⟨gb, 1, none⟩ = some (.int .i64 s.lb) := by simp [World.cell?, h1]
  have c2 : w.cell? ⟨gb, 2, none⟩ = some (.int .i64 s.s0) := by simp [World.cell?, h1]
  have c3 : w.cell? ⟨gb, 3, none⟩ = some (.slice a s.es.length c) := by simp [World.cell?, h1]
  have hgb := h.lt
  have H3 := Lib.hid h3
  clear h h1 h3
  go_enter Tryz.func109, Tryz.ntmps109
  go_wp2
  have hB : Below w.heap.size w _ := (Below.refl w.heap.size w).alloc (Nat.le_refl _) (Obj.cells #[.int .i64 s.st, .int .i64 s.lb, .int .i64 s.s0, .slice a s.es.length c] 24)
  exact bodyPost_ret (v := .agg #[.int .i64 s.st, .int .i64 s.lb, .int .i64 s.s0, .slice a s.es.length c]) (by simp [results, Tryz.results109, go_sem]) rfl ⟨a, c, b, off, rfl, hcc, H3.out.below hB (Nat.le_refl _), hB⟩

set_option maxRecDepth 100000 in
theorem getStates_any {w : World} {gb : Nat} {s : Lts} (h : GraphAt w gb s) :
    Calls Tryz.prog 59 #[.pointer (some ⟨gb, 0, none⟩)] w fun e w' => e = .returned (.int .i64 s.st) ∧ Below w.heap.size w w' := by
  have HO := Lib.hid (own_any h); clear h
  have hfl := fldSys0
  have hfl := fldSys0
  have hfl := fldSys0
  go_enter Tryz.func59, Tryz.ntmps59
  go_wp2_with (go_at_call 109; refine (HO.out).mono ?_; rintro e w1 ⟨a, c, b, off, rfl, hcc, hS, hB⟩; have HS := Lib.hid hS; clear hS)
  go_ret
  exact ⟨rfl, hB⟩

set_option maxRecDepth 100000 in
theorem getLabels_any {w : World} {gb : Nat} {s : Lts} (h : GraphAt w gb s) :
    Calls Tryz.prog 58 #[.pointer (some ⟨gb, 0, none⟩)] w fun e w' => e = .returned (.int .i64 s.lb) ∧ Below w.heap.size w w' := by
  have HO := Lib.hid (own_any h); clear h
  have hfl := fldSys1
  have hfl := fldSys1
  have hfl := fldSys1
  go_enter Tryz.func58, Tryz.ntmps58
  go_wp2_with (go_at_call 109; refine (HO.out).mono ?_; rintro e w1 ⟨a, c, b, off, rfl, hcc, hS, hB⟩; have HS := Lib.hid hS; clear hS)
  go_ret
  exact ⟨rfl, hB⟩



set_option maxRecDepth 100000 in
theorem getBy_any {w : World} {gb : Nat} {s : Lts} (h : GraphAt w gb s) (i label : Int) :
    Calls Tryz.prog 83 #[.pointer (some ⟨gb, 0, none⟩), .int .i64 i, .int .i64 label] w fun e w' => ∃ v, e = .returned v ∧ w'.ownsRow w.heap.size 3 1 v (withL label (s.outs i)).length ((withL label (s.outs i)).flatMap encI) ∧ Below w.heap.size w w' := by
  have hl : (s.outs i).length ≤ 20000 := by have := outs_len h.right i; omega
  have HO := Lib.hid (each_any h (Below.refl _ w) i); clear h
  go_enter Tryz.func83, Tryz.ntmps83
  go_wp2_with (go_at_call 60; refine (HO.out).mono ?_; rintro e w1 ⟨⟨a, c, b, off, rfl, hc1, hc2, hS⟩, hB⟩; have HS := Lib.hid hS; clear hS)
  have hsz := hB.size
  refine (with_sl (HS.out.below hB (Nat.le_refl _)) hl label).mono ?_
  rintro e w2 ⟨v, rfl, hown, hB2⟩
  have HW := Lib.hid hown; clear hown
  go_wp2
  go_ret
  exact ⟨v, rfl, own_mono HW.out hsz, hB.trans (hB2.mono hsz)⟩

set_option maxRecDepth 100000 in
theorem getFrom_any {w : World} {gb : Nat} {s : Lts} (h : GraphAt w gb s) (i label : Int) :
    Calls Tryz.prog 84 #[.pointer (some ⟨gb, 0, none⟩), .int .i64 i, .int .i64 label] w fun e w' => ∃ v, e = .returned v ∧ w'.ownsRow w.heap.size 3 1 v (withL label (s.ins i)).length ((withL label (s.ins i)).flatMap encI) ∧ Below w.heap.size w w' := by
  have hl : (s.ins i).length ≤ 20000 := by have := ins_len h.right i; omega
  have HO := Lib.hid (back_any h (Below.refl _ w) i); clear h
  go_enter Tryz.func84, Tryz.ntmps84
  go_wp2_with (go_at_call 122; refine (HO.out).mono ?_; rintro e w1 ⟨⟨a, c, b, off, rfl, hc1, hc2, hS⟩, hB⟩; have HS := Lib.hid hS; clear hS)
  have hsz := hB.size
  refine (with_sl (HS.out.below hB (Nat.le_refl _)) hl label).mono ?_
  rintro e w2 ⟨v, rfl, hown, hB2⟩
  have HW := Lib.hid hown; clear hown
  go_wp2
  go_ret
  exact ⟨v, rfl, own_mono HW.out hsz, hB.trans (hB2.mono hsz)⟩


end Go.Proofs.YtdhloijdefnkpaaGreatDoor

namespace Go.Proofs.YtdhloijdefnkpaaGreatDoor
open Go.RowKit Pl

theorem belowStepT {w0 w w' : World} (h : Below w0.heap.size w0 w) (hB : Below w.heap.size w w') : Below w0.heap.size w0 w' := h.trans (hB.mono h.size)
/-- The world within Cut's last loop: the system at O, its edges the call's own. -/
structure KW (w5 wr : World) (O : Nat) (st lb s0 : Int) (v : Value) (es : List E) : Prop where
  oth : ∀ b, b < w5.heap.size → b ≠ O → wr.heap[b]? = w5.heap[b]?
  bel : Below O w5 wr
  oo : wr.heap[O]? = some (.cells #[.int .i64 st, .int .i64 lb, .int .i64 s0, v] 24 (0, 0))
  own : wr.ownsRow w5.heap.size 35 3 v es.length (es.flatMap encE)
  lt : O < w5.heap.size
section
variable {w5 wr w' : World} {O : Nat} {st lb s0 : Int} {v : Value} {es : List E}
theorem KW.call (h : KW w5 wr O st lb s0 v es) (hB : Below wr.heap.size wr w') : KW w5 w' O st lb s0 v es := by
  have hs := h.bel.size; have hl := h.lt
  exact ⟨fun b hb hne => by rw [hB.block _ (by omega)]; exact h.oth b hb hne, h.bel.trans (hB.mono (by omega)), by rw [hB.block _ (by omega)]; exact h.oo, own_below h.own hB, h.lt⟩
theorem KW.keepc {w1 : World} (h : KW w5 wr O st lb s0 v es) (hg : wr.grownBy w1 v.ownBlock) : w1.cell? ⟨O, 3, none⟩ = some v ∧ w1.frozen? ⟨O, 3, none⟩ = false := by
  have hs := h.bel.size; have hl := h.lt
  have := (hg.block O (by omega) (fun e => by have := (h.own.lt O e.symm).1; omega)).trans h.oo
  constructor <;> simp [World.cell?, World.frozen?, this]
theorem KW.setEs {w1 : World} {v' : Value} {es' : List E} (h : KW w5 wr O st lb s0 v es) (hown : w1.ownsRow w5.heap.size 35 3 v' es'.length (es'.flatMap encE)) (hg : wr.grownBy w1 v.ownBlock) :
    KW w5 (w1.setCell ⟨O, 3, none⟩ v') O st lb s0 v' es' := by
  have hs := h.bel.size; have hl := h.lt; have hgs := hg.size
  have hv : ∀ b, b < w5.heap.size → some b ≠ v.ownBlock := fun b hb e => by have := (h.own.lt b e.symm).1; omega
  refine ⟨fun b hb hne => ?_, (h.bel.grown hg (by omega) (fun k hk => by have := (h.own.lt k hk).1; omega)).setCell (Nat.le_refl _) _, ?_, ownsRow_setCell_below hown hl _, hl⟩
  · rw [Below.heap_setCell _ _ _ _ hne, hg.block b (by omega) (hv b hb)]
    exact h.oth b hb hne
  · exact heap_setCell_same _ O 3 _ _ _ ((hg.block O (by omega) (hv O hl)).trans h.oo)
theorem KW.cells (h : KW w5 wr O st lb s0 v es) : wr.cell? ⟨O, 0, none⟩ = some (.int .i64 st) ∧ wr.cell? ⟨O, 1, none⟩ = some (.int .i64 lb) ∧ wr.cell? ⟨O, 2, none⟩ = some (.int .i64 s0) ∧ wr.cell? ⟨O, 3, none⟩ = some v ∧ wr.frozen? ⟨O, 3, none⟩ = false := by
  have := h.oo
  refine ⟨?_, ?_, ?_, ?_, ?_⟩ <;> simp [World.cell?, World.frozen?, this]
end
end Go.Proofs.YtdhloijdefnkpaaGreatDoor

namespace Go.Proofs.YtdhloijdefnkpaaGreatDoor
open Go.RowKit Pl

theorem eqlE (x y : E) (w : World) : (binOp .eql 35 (.agg #[.int .i64 x.1, .int .i64 x.2.1, .int .i64 x.2.2]) (.agg #[.int .i64 y.1, .int .i64 y.2.1, .int .i64 y.2.2])).run Tryz.prog w = .ok (.bool (decide (x = y))) w := by
  have u3 := Tryz.underlying3
  have a3 := Tryz.isAgg3
  have z3 := Tryz.sizeOf3
  have hS : Tryz.prog.underlying 35 = some (.struct (Tryz.prog.fieldsOf 35)) := by kernel_rfl
  have hp : Tryz.prog.stoodInHeld 35 = false := by kernel_rfl
  rw [run_eql_struct, show (10000 : Nat) = 9999 + 1 from rfl, run_equalIn_agg w 9999 35 _ _ hS hp]
  simp only [Program.fieldsOf, Tryz.underlying35]
  go_simp
  obtain ⟨x1, x2, x3⟩ := x; obtain ⟨y1, y2, y3⟩ := y
  by_cases h1 : x1 = y1 <;> by_cases h2 : x2 = y2 <;> by_cases h3 : x3 = y3 <;> simp [h1, h2, h3]

theorem neqE (x y : E) (w : World) : (binOp .neq 35 (.agg #[.int .i64 x.1, .int .i64 x.2.1, .int .i64 x.2.2]) (.agg #[.int .i64 y.1, .int .i64 y.2.1, .int .i64 y.2.2])).run Tryz.prog w = .ok (.bool (!decide (x = y))) w := by
  have h := eqlE x y w
  rw [run_eql_struct] at h
  rw [run_neq_struct]
  cases hr : (Op.equalIn 10000 35 (.agg #[.int .i64 x.1, .int .i64 x.2.1, .int .i64 x.2.2]) (.agg #[.int .i64 y.1, .int .i64 y.2.1, .int .i64 y.2.2])).run Tryz.prog w with
  | ok b w' => rw [hr] at h; simp [Result.andThen] at h ⊢; exact ⟨h.1, h.2⟩
  | halt b w' => rw [hr] at h; simp [Result.andThen] at h

theorem guardE : Tryz.prog.eqGuardType Tryz.prog.depth 35 = false := by kernel_rfl

section
variable {α : Type} {enc : α → List Value} {k : Nat} {w : World} {base g n cap : Nat} {e : TypeId} {xs : List α}

/-- A row of the call's own, whose place is known, reads as a list. -/
theorem slAt_row (hk : ∀ x, (enc x).length = k) (h : w.ownsRow base e k (.slice (some ⟨g, 0, none⟩) n cap) xs.length (xs.flatMap enc)) : SlAt enc k w (some ⟨g, 0, none⟩) g 0 xs := by
  obtain ⟨a, c, b, hv, _, _, hs, _⟩ := slAt_own hk h
  simp only [Value.slice.injEq] at hv
  obtain ⟨rfl, _, _⟩ := hv
  by_cases h0 : 0 < xs.length
  · have := hs.ad h0
    simp at this; subst this
    exact hs
  · have : xs = [] := List.eq_nil_of_length_eq_zero (by omega)
    subst this
    exact slAt_nil _ _ _ _

theorem flat_set (hk : ∀ x, (enc x).length = k) : ∀ (xs : List α) (i : Nat) (x : α), i < xs.length → (xs.set i x).flatMap enc = (xs.flatMap enc).take (i * k) ++ enc x ++ (xs.flatMap enc).drop (i * k + k)
  | [], i, x, h => by simp at h
  | y :: xs, 0, x, _ => by
    simp only [List.set_cons_zero, List.flatMap_cons, Nat.zero_mul, List.take_zero, List.nil_append, Nat.zero_add]
    rw [List.drop_append_of_le_length (by rw [hk]; omega), List.drop_of_length_le (by rw [hk]; omega), List.nil_append]
  | y :: xs, i + 1, x, h => by
    simp only [List.set_cons_succ, List.flatMap_cons]
    rw [flat_set hk xs i x (by simpa using h)]
    rw [Nat.add_mul, Nat.one_mul, List.take_append, List.drop_append, hk]
    rw [List.take_of_length_le (l := enc y) (by rw [hk]; omega), List.drop_of_length_le (l := enc y) (by rw [hk]; omega)]
    rw [show i * k + k - k = i * k by omega, show i * k + k + k - k = i * k + k by omega]
    simp

end

theorem row_frozen {w : World} {base g n m cap k : Nat} {e : TypeId} {xs : List Value} (h : w.ownsRow base e k (.slice (some ⟨g, 0, none⟩) n cap) m xs) (j : Nat) : w.frozen? ⟨g, j, none⟩ = false := by
  rcases h.2 with ⟨h', _⟩ | ⟨g', cap', cur, h', hb, hg, hnc, hcm, hcs, htake⟩
  · simp at h'
  · simp only [Value.slice.injEq, Option.some.injEq, Addr.mk.injEq, and_true] at h'
    obtain ⟨rfl, rfl, rfl⟩ := h'
    simp [World.frozen?, hg]

theorem set3 {l : List Value} {i : Nat} {a b c : Value} (h : i * 3 + 3 ≤ l.length) : ((l.set (i * 3) a).set (i * 3 + 1) b).set (i * 3 + 2) c = l.take (i * 3) ++ [a, b, c] ++ l.drop (i * 3 + 3) := by
  apply List.ext_getElem?
  intro j
  simp only [List.getElem?_set, List.length_set, List.append_assoc]
  by_cases h1 : j < i * 3
  · rw [if_neg (by omega), if_neg (by omega), if_neg (by omega), List.getElem?_append_left (by simp; omega), List.getElem?_take, if_pos h1]
  · rw [List.getElem?_append_right (by simp; omega)]
    simp only [List.length_take, Nat.min_eq_left (show i * 3 ≤ l.length by omega)]
    by_cases h2 : j = i * 3
    · subst h2; rw [if_neg (by omega), if_neg (by omega), if_pos rfl, if_pos (by omega)]; simp
    · by_cases h3 : j = i * 3 + 1
      · subst h3; rw [if_neg (by omega), if_pos rfl, if_pos (by omega)]; rw [show i * 3 + 1 - i * 3 = 1 by omega]; rfl
      · by_cases h4 : j = i * 3 + 2
        · subst h4; rw [if_pos rfl, if_pos (by omega), show i * 3 + 2 - i * 3 = 2 by omega]; rfl
        · rw [if_neg (by omega), if_neg (by omega), if_neg (by omega)]
          rw [show j - i * 3 = (j - (i * 3 + 3)) + 1 + 1 + 1 by omega]
          simp only [List.cons_append, List.nil_append, List.getElem?_cons_succ, List.getElem?_drop]
          congr 1; omega

/-- 's[i] = x', s an edge row of the call's own. -/
theorem ownE_set {w : World} {base g n cap : Nat} {e : TypeId} {xs : List E} (h : w.ownsRow base e 3 (.slice (some ⟨g, 0, none⟩) n cap) xs.length (xs.flatMap encE)) (hn : n = xs.length) (i : Nat) (x : E) (hi : i < xs.length) :
    (((w.setCell ⟨g, i * 3, none⟩ (.int .i64 x.1)).setCell ⟨g, i * 3 + 1, none⟩ (.int .i64 x.2.1)).setCell ⟨g, i * 3 + 2, none⟩ (.int .i64 x.2.2)).ownsRow base e 3 (.slice (some ⟨g, 0, none⟩) n cap) (xs.set i x).length ((xs.set i x).flatMap encE) := by
  subst hn
  have h1 := ((h.stored (i * 3) (.int .i64 x.1)).1.stored (i * 3 + 1) (.int .i64 x.2.1)).1.stored (i * 3 + 2) (.int .i64 x.2.2)
  rw [set3 (by rw [length_flatMap lenE]; omega)] at h1
  replace h1 := h1.1
  rw [flat_set lenE xs i x hi, List.length_set]
  exact h1

theorem below_set3 {w0 w : World} {B g i : Nat} {a b c : Value} (h : Below B w0 w) (hg : B ≤ g) : Below B w0 (((w.setCell ⟨g, i, none⟩ a).setCell ⟨g, i + 1, none⟩ b).setCell ⟨g, i + 2, none⟩ c) :=
  ((h.setCell hg _).setCell hg _).setCell hg _

end Go.Proofs.YtdhloijdefnkpaaGreatDoor

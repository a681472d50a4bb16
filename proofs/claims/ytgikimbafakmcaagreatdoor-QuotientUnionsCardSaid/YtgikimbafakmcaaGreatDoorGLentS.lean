/-
  Lemmas.
-/
import Derived.Test.YtgikimbafakmcaaGreatDoorGQuoE
import Derived.Deep.RegionHeld3
import Derived.Deep.QuietTactic
import Derived.BigQuiet
import Derived.IntWalk
import Derived.Test.YtgikimbafakmcaaGreatDoorGRws
import Derived.Test.YtgikimbafakmcaaGreatDoorGPl6
import Derived.Shelf.Abstract
set_option maxHeartbeats 4000000
set_option maxRecDepth 100000
namespace Go.Proofs.YtgikimbafakmcaaGreatDoor
open Go.RowKit Pl
open Lib (hid)
def marksE : List E := [(-7, 0, 0), (-7, 1, 0), (-7, 2, 0)]
structure LentS (w : World) (base g cap : Nat) (es : List E) : Prop where
  own : w.ownsRow base 57 3 (.slice (some ⟨g, 0, none⟩) (es.length + 3) cap) (es.length + 3) ((es ++ marksE).flatMap encE)
theorem LentS.below {w w' : World} {base g cap : Nat} {es : List E} (h : LentS w base g cap es) (hB : Below w.heap.size w w') : LentS w' base g cap es := ⟨own_below h.own hB⟩
theorem LentS.all {w : World} {base g cap : Nat} {es : List E} (h : LentS w base g cap es) : SlAt encE 3 w (some ⟨g, 0, none⟩) g 0 (es ++ marksE) /\ es.length + 3 <= cap /\ cap <= maxLen /\ base <= g := by
 have h2 : w.ownsRow base 57 3 (.slice (some ⟨g, 0, none⟩) (es.length + 3) cap) (es ++ marksE).length ((es ++ marksE).flatMap encE) := by
   rw [List.length_append]; exact h.own
 obtain ⟨a, c, b, hv, h3, h4, h5, h6⟩ := slAt_own lenE h2
 simp only [Value.slice.injEq] at hv
 obtain ⟨rfl, _, rfl⟩ := hv
 have h7 := h5.ad (by simp [marksE])
 simp at h7
 subst h7
 exact ⟨h5, by simpa [marksE] using h3, h4, h6 (by simp [marksE])⟩
theorem SlAt.preE {α : Type} {enc : α -> List Value} {k : Nat} {w : World} {a : Option Addr} {b off : Nat} {xs ys : List α} (h : SlAt enc k w a b off (xs ++ ys)) : SlAt enc k w a b off xs :=
  ⟨fun hp => h.ad (by simp; omega), fun hp => h.lt (by simp; omega), fun i x hx => h.cell i x (by rw [List.getElem?_append_left (List.getElem?_eq_some_iff.1 hx).1]; exact hx)⟩
theorem oneEL (x : E) : ∀ u ∈ encE x, u.oneCell' = true := by intro u hu; simp [encE] at hu; rcases hu with rfl | rfl | rfl <;> rfl
theorem lent_any {s : Lts} {a : Option Addr} {b off c : Nat} {w : World} (hS : SlAt encE 3 w a b off s.es) (hl : s.es.length <= 1000000) :
    Calls Tryz.prog 5 #[.agg #[.int .i64 s.st, .int .i64 s.lb, .int .i64 s.s0, .slice a s.es.length c]] w fun e w' => ∃ g cap, e = .returned (.agg #[.int .i64 s.st, .int .i64 s.lb, .int .i64 s.s0, .slice (some ⟨g, 0, none⟩) s.es.length cap]) /\ LentS w' w.heap.size g cap s.es /\ Below w.heap.size w w' := by
 obtain ⟨W, hW⟩ : ∃ W, W = (w.alloc (.cells #[.int .i64 s.st, .int .i64 s.lb, .int .i64 s.s0, .slice a s.es.length c] 24)).alloc (.cells #[.int .i64 0, .int .i64 0, .int .i64 0, .slice none 0 0] 24) := ⟨_, rfl⟩
 have hB0 : Below w.heap.size w W := by rw [hW]; exact ((Below.refl _ _).alloc (Nat.le_refl _) _).alloc (by simp) _
 have h1 : W.heap[w.heap.size]? = some (.cells #[.int .i64 s.st, .int .i64 s.lb, .int .i64 s.s0, .slice a s.es.length c] 24 (0, 0)) := by
   rw [hW, Below.heap_alloc _ _ _ (by simp)]; exact heap_alloc_new w _
 have h2 : W.heap[w.heap.size + 1]? = some (.cells #[.int .i64 0, .int .i64 0, .int .i64 0, .slice none 0 0] 24 (0, 0)) := by (
 have h := heap_alloc_new (w.alloc (.cells #[.int .i64 s.st, .int .i64 s.lb, .int .i64 s.s0, .slice a s.es.length c] 24)) (.cells #[.int .i64 0, .int .i64 0, .int .i64 0, .slice none 0 0] 24)
 rw [show (w.alloc (.cells #[.int .i64 s.st, .int .i64 s.lb, .int .i64 s.s0, .slice a s.es.length c] 24)).heap.size = w.heap.size + 1 by simp] at h
 rw [hW]; exact h)
 have hSW := hS.below hB0 (Nat.le_refl _)
 obtain ⟨m, hm⟩ : ∃ m, m = s.es.length := ⟨_, rfl⟩
 rw [<- hm] at hW h1 ⊢
 have HW := hid hW; have HB0 := hid hB0; have H1 := hid h1; have H2 := hid h2; have HM := hid hm; have HS := hid hSW
 have hmx : m <= 1000000 := by omega
 have hb1 : (0 + s.es.length) * 24 <= 140737488355328 := by omega
 have hb2 : 0 + s.es.length <= maxLen := by unfold maxLen; omega
 obtain ⟨x0, x1, x2, x3, x4⟩ := sysC h1
 clear hW hB0 h1 h2 hm hS hSW hl
 go_enter Tryz.func5, Tryz.ntmps5
 go_wp2_with (at_builtin; rw [<- HW.out]; refine wpList_appS rfl (Operand.const (Value.slice none 0 0)) (Operand.tmp 6) _ rfl rowE (base := W.heap.size) (Nat.le_refl _) rfl (World.ownsRow_nil _ _ _ _) lenE oneEL HS.out (by rw [<- HM.out]; rfl) hb1 hb2 ?_; intro v' w3 hown3 hg3; have HO3 := hid hown3; have hb3 := (Below.refl W.heap.size W).grown hg3 (Nat.le_refl _) (fun k hk => by cases hk); have HB3 := hid hb3; have hs3 := hb3.size; clear hown3 hg3 hb3)
 clear x0 x1 x2 x3 x4
 go_loopw [3, 4] (fun v3 v4 wr => ∃ i : Nat, v4 = .int .i64 i /\ i <= 3 /\ Below W.heap.size W wr /\ wr.ownsRow W.heap.size 57 3 v3 (m + i) ((s.es ++ marksE.take i).flatMap encE)) (fun _ v4 _ => 3 - (intOf v4).toNat)
 case atStart => exact ⟨0, rfl, Nat.zero_le _, HB3.out, by have h := HO3.out; rw [Nat.zero_add, <- HM.out, List.nil_append] at h; simpa using h⟩
 case round => (
 obtain ⟨i, rfl, hi, hB, hown⟩ := hrel
 have HB := hid hB; have HO := hid hown
 have hs4 := hB.size
 clear hB hown HO3 HB3 hs3
 by_cases hlt : i < 3
 · (
 have hiI : (i : Int) < 3 := by omega
 have hmk : marksE[i]? = some (-7, (i : Int), 0) := by
   have h3 : i = 0 ∨ i = 1 ∨ i = 2 := by omega
   rcases h3 with rfl | rfl | rfl <;> rfl
 have HMK := hid hmk
 clear hmk
 go_wp2_with (at_builtin; refine wpList_lies rfl _ _ 22 rfl rowE (base := W.heap.size) (by simp; omega) rfl (own_below HO.out ((Below.refl wr.heap.size wr).alloc (Nat.le_refl _) _)) ⟨wr.heap.size, 0, none⟩ 1 1 [.int .i64 (-7), .int .i64 i, .int .i64 0] rfl rfl (cells3 (by simp [go_sem]) (by simp [go_sem]) (by simp [go_sem])) (by simp [Value.oneCell']) (by omega) (by omega) (by unfold maxLen; omega) _ rfl ?_; intro g cap w6 hown6 hg6 _ _)
 have hb6 := (HB.out.alloc HB.out.size (.cells #[.int .i64 (-7), .int .i64 i, .int .i64 0] 57)).grown hg6 (by simp; omega) (fun k hk => (HO.out.lt k hk).1)
 have HB6 := hid hb6
 have HO6 : Hid (w6.ownsRow W.heap.size 57 3 (.slice (some ⟨g, 0, none⟩) (m + i + 1) cap) (m + (i + 1)) ((s.es ++ marksE.take (i + 1)).flatMap encE)) := hid (by
   rw [take_snoc HMK.out, <- List.append_assoc, List.flatMap_append]
   simpa [encE, Nat.add_assoc] using hown6)
 clear hb6 hown6 hg6 HO HB
 go_roundw
 case rel => exact ⟨i + 1, by go_num, by omega, HB6.out, HO6.out⟩
 case measure => simp [intOf]; omega)
 · (
 obtain rfl : i = 3 := by omega
 have ho := HO.out
 rw [show marksE.take 3 = marksE from rfl] at ho
 rcases ho.2 with ⟨_, h0⟩ | ⟨g, cap, cur, hv, hg0, _, hnc, hcm, _⟩
 · omega
 subst hv
 have hcap2 : cap <= 9223372036854775807 := by unfold maxLen at hcm; omega
 have hx1 := (HB.out.block _ (Array.getElem?_eq_some_iff.1 H1.out).1).trans H1.out
 have hx2 := (HB.out.block _ (Array.getElem?_eq_some_iff.1 H2.out).1).trans H2.out
 obtain ⟨x0, x1, x2, x3, x4⟩ := sysC hx1
 obtain ⟨⟨y0, y1, y2, y3, y4⟩, z0, z1, z2, z3⟩ := sysZ hx2
 have xf : wr.frozen? ⟨w.heap.size, 3, none⟩ = false := by simp [World.frozen?, hx1]
 have HO2 := hid ho; have HB2 := hid (HB0.out.trans (HB.out.mono HB0.out.size)); have HX1 := hid hx1; have HX2 := hid hx2
 clear ho hg0 hcm hx1 hx2 HO HB
 go_wp2_with fail
 have hsW : W.heap.size = w.heap.size + 2 := by rw [HW.out]; simp
 have ho2 := HO2.out
 rw [hsW, HM.out] at ho2
 have hlt : w.heap.size + 2 <= g := ho2.lt g rfl |>.1
 refine bodyPost_ret (v := .agg #[.int .i64 s.st, .int .i64 s.lb, .int .i64 s.s0, .slice (some ⟨g, 0, none⟩) m cap]) (by simp [results, Tryz.results5, go_sem, y0, y1, y2, y3]) rfl ⟨g, cap, rfl, ⟨?_⟩, ?_⟩
 · refine own_blockR (own_mono ho2 (by omega)) (fun k hk => ?_)
   simp only [Value.ownBlock, Option.some.injEq] at hk
   subst hk
   rw [Below.heap_setCell _ _ _ _ (by show g ≠ w.heap.size + 1; omega), Below.heap_setCell _ _ _ _ (by show g ≠ w.heap.size + 1; omega), Below.heap_setCell _ _ _ _ (by show g ≠ w.heap.size + 1; omega), Below.heap_setCell _ _ _ _ (by show g ≠ w.heap.size + 1; omega), Below.heap_setCell _ _ _ _ (by show g ≠ w.heap.size; omega)]
 · exact ((((HB2.out.setCell (p := ⟨w.heap.size, 3, none⟩) (by simp) _).setCell (p := ⟨w.heap.size + 1, 0, none⟩) (by simp) _).setCell (p := ⟨w.heap.size + 1, 1, none⟩) (by simp) _).setCell (p := ⟨w.heap.size + 1, 2, none⟩) (by simp) _).setCell (p := ⟨w.heap.size + 1, 3, none⟩) (by simp) _))
theorem stays_any {es : List E} {base g cap : Nat} {st lb s0 st' lb' s0' : Int} {a : Option Addr} {b off c : Nat} {w : World} (hL : LentS w base g cap es) (hS : SlAt encE 3 w a b off es) (hl : es.length <= 1000000) :
    Calls Tryz.prog 10 #[.agg #[.int .i64 st, .int .i64 lb, .int .i64 s0, .slice (some ⟨g, 0, none⟩) es.length cap], .agg #[.int .i64 st', .int .i64 lb', .int .i64 s0', .slice a es.length c]] w fun e w' => e = .returned (.bool true) /\ Below w.heap.size w w' := by
 obtain ⟨h1, h2, h3, _⟩ := hL.all
 obtain ⟨W, hW⟩ : ∃ W, W = (w.alloc (.cells #[.int .i64 st, .int .i64 lb, .int .i64 s0, .slice (some ⟨g, 0, none⟩) es.length cap] 24)).alloc (.cells #[.int .i64 st', .int .i64 lb', .int .i64 s0', .slice a es.length c] 24) := ⟨_, rfl⟩
 have hB0 : Below w.heap.size w W := by rw [hW]; exact ((Below.refl _ _).alloc (Nat.le_refl _) _).alloc (by simp) _
 have k1 : W.heap[w.heap.size]? = some (.cells #[.int .i64 st, .int .i64 lb, .int .i64 s0, .slice (some ⟨g, 0, none⟩) es.length cap] 24 (0, 0)) := by
   rw [hW, Below.heap_alloc _ _ _ (by simp)]; exact heap_alloc_new w _
 have hsame := sameEdges_any (c1 := cap) (c2 := c) (SlAt.preE h1 |>.below hB0 (Nat.le_refl _)) (hS.below hB0 (Nat.le_refl _)) hl hl
 rw [show decide (es = es) = true by simp] at hsame
 have hcell : ∀ i, i < 3 -> W.cell? ⟨g, (es.length + i) * 3, none⟩ = some (.int .i64 (-7)) /\ W.cell? ⟨g, (es.length + i) * 3 + 1, none⟩ = some (.int .i64 i) /\ W.cell? ⟨g, (es.length + i) * 3 + 2, none⟩ = some (.int .i64 0) := fun i hi => by (
 have hx : (es ++ marksE)[es.length + i]? = some (-7, (i : Int), 0) := by (
 rw [List.getElem?_append_right (by omega), Nat.add_sub_cancel_left]
 have h3 : i = 0 ∨ i = 1 ∨ i = 2 := by omega
 rcases h3 with rfl | rfl | rfl <;> rfl)
 have hh := h1.below hB0 (Nat.le_refl _)
 have e0 := hh.cell _ _ hx 0 _ rfl
 have e1 := hh.cell _ _ hx 1 _ rfl
 have e2 := hh.cell _ _ hx 2 _ rfl
 rw [Nat.add_zero, Nat.zero_add] at e0
 rw [Nat.zero_add] at e1 e2
 exact ⟨e0, e1, e2⟩)
 have hgl := World.block_lt_of_cell? _ _ (hcell 0 (by omega)).1
 obtain ⟨m, hm⟩ : ∃ m, m = es.length := ⟨_, rfl⟩
 rw [<- hm] at hW k1 hsame hcell h2 hl ⊢
 unfold maxLen at h3
 have HW := hid hW; have HB0 := hid hB0; have HSA := hid hsame; have HCE := hid hcell; have HK := hid k1
 obtain ⟨x0, x1, x2, x3, x4⟩ := sysC k1
 clear hW hB0 hsame hcell hL hS h1 k1 hm
 have k2 : (0 : Int) <= (m : Int) + 3 := by omega
 have k3 : ((m : Int) + 3).toNat = m + 3 := by omega
 have k4 : (m : Int) + 3 <= (cap : Int) := by omega
 have hgE := guardE
 go_enter Tryz.func10, Tryz.ntmps10
 go_wp2_with fail
 rw [<- HW.out]
 refine HSA.out.mono ?_
 rintro e w2 ⟨rfl, nq, rfl⟩
 clear HSA
 go_wp2_with fail
 go_loopw [6] (fun v6 wr => ∃ i : Nat, v6 = .int .i64 i /\ i <= 3 /\ wr = W.drewN nq) (fun v6 _ => 3 - (intOf v6).toNat)
 case atStart => exact ⟨0, rfl, Nat.zero_le _, rfl⟩
 case round => (
 obtain ⟨i, rfl, hi, rfl⟩ := hrel
 by_cases hlt : i < 3
 · (
 have hiI : (i : Int) < 3 := by omega
 obtain ⟨e0, e1, e2⟩ := HCE.out i hlt
 have q1 : (0 : Int) <= (m : Int) + (i : Int) := by omega
 have q2 : ((m : Int) + (i : Int)).toNat = m + i := by omega
 have q3 : (m : Int) + (i : Int) < ((m + 3 : Nat) : Int) := by omega
 have hq := fun w => neqE (-7, (i : Int), 0) (-7, (i : Int), 0) w
 have hzz : decide (((-7 : Int), (i : Int), (0 : Int)) = (-7, (i : Int), 0)) = true := by simp
 rw [hzz] at hq
 simp only [Bool.not_true] at hq
 clear hzz
 go_wp2_with fail
 go_roundw
 case rel => exact ⟨i + 1, by go_num, by omega, by first | rfl | trivial⟩
 case measure => simp [intOf]; omega)
 · obtain rfl : i = 3 := by omega
   go_wp2_with fail
   go_ret
   exact ⟨rfl, bdrew HB0.out⟩)
end Go.Proofs.YtgikimbafakmcaaGreatDoor
namespace Go.Proofs.YtgikimbafakmcaaGreatDoor
open Go.RowKit Pl
theorem sysG {w : World} {B : Nat} {x y z : Int} {v : Value} (h : w.heap[B]? = some (.cells #[.int .i64 x, .int .i64 y, .int .i64 z, v] 24 (0, 0))) :
    w.cell? ⟨B, 0, none⟩ = some (.int .i64 x) /\ w.cell? ⟨B, 1, none⟩ = some (.int .i64 y) /\ w.cell? ⟨B, 2, none⟩ = some (.int .i64 z) /\ w.cell? ⟨B, 3, none⟩ = some v := by
 refine ⟨?_, ?_, ?_, ?_⟩ <;> simp [World.cell?, h]
theorem at_world {P : Program} {c : Code} {Q : Exit -> Act -> World -> Prop} {a : Act} {w : World} (R : World -> Prop) (h0 : R w) (h : ∀ W, R W -> c.wp P Q a W) : c.wp P Q a w := h w h0
theorem own_unlike {w : World} {b1 b2 : Nat} {t1 t2 : TypeId} {k1 k2 n1 n2 : Nat} {v1 v2 : Value} {x1 x2 : List Value} (h1 : w.ownsRow b1 t1 k1 v1 n1 x1) (h2 : w.ownsRow b2 t2 k2 v2 n2 x2) (hne : t1 ≠ t2) : ∀ g, v1.ownBlock = some g -> v2.ownBlock ≠ some g := fun g hg hg2 => by
  rcases h1.2 with ⟨e, _⟩ | ⟨g1, c1, cur1, e1, _, hh1, _⟩
  · rw [e] at hg; cases hg
  · rcases h2.2 with ⟨e, _⟩ | ⟨g2, c2, cur2, e2, _, hh2, _⟩
    · rw [e] at hg2; cases hg2
    · rw [e1] at hg; rw [e2] at hg2
      simp only [Value.ownBlock, Option.some.injEq] at hg hg2
      subst hg
      subst hg2
      rw [hh1] at hh2
      simp only [Option.some.injEq, Obj.cells.injEq] at hh2
      exact hne hh2.2.1
end Go.Proofs.YtgikimbafakmcaaGreatDoor
namespace Go.Proofs.YtgikimbafakmcaaGreatDoor
open Go.RowKit
structure Kp (n : Nat) (a b : Act) : Prop where
  size : b.tmps.size = a.tmps.size
  low : ∀ s, s < n -> b.tmps[s]? = a.tmps[s]?
  df : b.defers = a.defers
theorem Kp.refl (n : Nat) (a : Act) : Kp n a a := ⟨rfl, fun _ _ => rfl, rfl⟩
theorem put_size (a : Act) (d : Nat) (v : Value) : (a.put (some d) v).tmps.size = a.tmps.size := by simp [Act.put]
theorem put_same {a : Act} {d : Nat} (h : d < a.tmps.size) (v : Value) : (a.put (some d) v).tmps[d]? = some v := by simp [Act.put, h]
theorem put_ne {a : Act} {d s : Nat} (h : d ≠ s) (v : Value) : (a.put (some d) v).tmps[s]? = a.tmps[s]? := by simp [Act.put, Array.getElem?_setIfInBounds_ne h]
theorem Kp.put {n : Nat} {a b : Act} (h : Kp n a b) {d : Nat} (hd : n <= d) (v : Value) : Kp n a (b.put (some d) v) :=
  ⟨by rw [put_size, h.size], fun s hs => by rw [put_ne (by omega), h.low s hs], h.df⟩
theorem eval_tmp {a : Act} {s : Nat} {v : Value} (h : a.tmps[s]? = some v) : a.eval (.tmp s) = v := by simp [Act.eval, Array.getD_eq_getD_getElem?, h]
section
variable {P : Program} {ops : Array Oper} {rest : List Oper} {Q : Exit -> Act -> World -> Prop} {a : Act} {w : World} {o : Oper}
theorem wanted_of {k d : Nat} (hg : o.guard = some (k, true)) (hk : (ops[k]?).bind (·.dst) = some d) (hd : a.tmps[d]? = some (.bool true)) : Region.wanted o (yielded ops a.tmps) = true := by
 simp [Region.wanted, hg, yielded, hk, hd]
theorem wanted_none (hg : o.guard = none) : Region.wanted o (yielded ops a.tmps) = true := by simp [Region.wanted, hg]
theorem wpL_val {d : Nat} {v : Value} (hw : Region.wanted o (yielded ops a.tmps) = true) (hd : o.dst = some d) (hr : (execOp a.eval o).run P w = .ok (.value v) w) (h : wpList P ops Q rest (a.put (some d) v) w) : wpList P ops Q (o :: rest) a w := by
 refine wpList_step fun K hK => ?_
 rw [if_pos hw]
 unfold Oper.wp
 rw [hr, Oper.upon_value, hd]
 exact hK _ _ h
theorem wpL_call {d f : Nat} {args : Array Value} {v : Value} {R : World -> Prop} (hw : Region.wanted o (yielded ops a.tmps) = true) (hd : o.dst = some d) (hr : (execOp a.eval o).run P w = .ok (.enter f args) w) (hc : Calls P f args w fun e w' => e = .returned v /\ R w')
    (h : ∀ w', R w' -> wpList P ops Q rest (a.put (some d) v) w') : wpList P ops Q (o :: rest) a w := by
 refine wpList_step fun K hK => ?_
 rw [if_pos hw]
 unfold Oper.wp
 rw [hr, Oper.upon_enter]
 refine hc.mono fun e w'' hh => ?_
 obtain ⟨rfl, hR⟩ := hh
 rw [hd]
 exact hK _ _ (h _ hR)
theorem run_move {x : Operand} (ho : o.op = .move x) : (execOp a.eval o).run P w = .ok (.value (a.eval x)) w := by simp [execOp, ho]
theorem run_assign {x : Operand} (ho : o.op = .assign x) : (execOp a.eval o).run P w = .ok (.value (a.eval x)) w := by simp [execOp, ho]
theorem put_df (a : Act) (d : Nat) (v : Value) : (a.put (some d) v).defers = a.defers := rfl
theorem run_pick {c x y : Operand} (ho : o.op = .pick c x y) (hc : a.eval c = .bool true) : (execOp a.eval o).run P w = .ok (.value (a.eval x)) w := by simp [execOp, ho, hc, asBool]
theorem run_nilCheck {x : Operand} (ho : o.op = .nilCheck x) {p : Addr} (hx : a.eval x = .pointer (some p)) : (execOp a.eval o).run P w = .ok (.value (.pointer (some p))) w := by simp [execOp, ho, hx]
theorem run_call {f : Nat} {x : Operand} {t : Array TypeId} (ho : o.op = .call { callee := .value (.func f), args := #[x], argTypes := t }) (he : ∀ args w, (callFunc f args).run P w = .ok (.enter f args) w) : (execOp a.eval o).run P w = .ok (.enter f #[a.eval x]) w := by
 simp [execOp, ho, resolve, Deferred.ofValue, invoke, Act.eval, he]
theorem at_act {c : Code} (h : ∀ a0, a0 = a -> c.wp P Q a0 w) : c.wp P Q a w := h a rfl
theorem and_slot {n dp d1 d2 d3 d4 s k f : Nat} {a0 : Act} {gv : Value} {R : World -> Prop} {t : Array TypeId} {o1 o2 o3 o4 : Oper}
    (e1 : o1.op = .move (.tmp dp)) (g1 : o1.guard = none) (t1 : o1.dst = some d1) (e2 : o2.op = .move (.tmp s)) (g2 : o2.guard = some (k, true)) (t2 : o2.dst = some d2)
    (e3 : o3.op = .call { callee := .value (.func f), args := #[.tmp d2], argTypes := t }) (g3 : o3.guard = some (k, true)) (t3 : o3.dst = some d3) (e4 : o4.op = .pick (.tmp d1) (.tmp d3) (.const (.bool false))) (g4 : o4.guard = none) (t4 : o4.dst = some d4)
    (hk : (ops[k]?).bind (·.dst) = some d1) (h1 : n <= d1) (h2 : d1 < d2) (h3 : d2 < d3) (h4 : d3 < d4) (hs : s < n)
    (hK : Kp n a0 a) (hz : d4 < a0.tmps.size) (hp : a.tmps[dp]? = some (.bool true)) (hgv : a0.tmps[s]? = some gv) (he : ∀ args w, (callFunc f args).run P w = .ok (.enter f args) w)
    (hc : Calls P f #[gv] w fun e w' => e = .returned (.bool true) /\ R w')
    (h : ∀ a' w', Kp n a0 a' -> a'.tmps[d4]? = some (.bool true) -> R w' -> wpList P ops Q rest a' w') : wpList P ops Q (o1 :: o2 :: o3 :: o4 :: rest) a w := by
 have z := hK.size
 refine wpL_val (v := .bool true) (wanted_none g1) t1 (by rw [run_move e1, eval_tmp hp]) ?_
 have k1 := hK.put h1 (.bool true)
 have q1 : (a.put (some d1) (.bool true)).tmps[d1]? = some (.bool true) := put_same (by omega) _
 refine wpL_val (v := gv) (wanted_of g2 hk q1) t2 (by rw [run_move e2, eval_tmp (by rw [k1.low s hs]; exact hgv)]) ?_
 have k2 := k1.put (d := d2) (by omega) gv
 have q2 : ((a.put (some d1) (.bool true)).put (some d2) gv).tmps[d1]? = some (.bool true) := by rw [put_ne (by omega)]; exact q1
 have r2 : ((a.put (some d1) (.bool true)).put (some d2) gv).tmps[d2]? = some gv := put_same (by rw [put_size]; omega) _
 refine wpL_call (v := .bool true) (wanted_of g3 hk q2) t3 (by rw [run_call e3 he, eval_tmp r2]) hc (fun w' hR => ?_)
 have k3 := k2.put (d := d3) (by omega) (.bool true)
 have q3 : (((a.put (some d1) (.bool true)).put (some d2) gv).put (some d3) (.bool true)).tmps[d1]? = some (.bool true) := by rw [put_ne (by omega)]; exact q2
 have r3 : (((a.put (some d1) (.bool true)).put (some d2) gv).put (some d3) (.bool true)).tmps[d3]? = some (.bool true) := put_same (by rw [put_size, put_size]; omega) _
 refine wpL_val (v := .bool true) (wanted_none g4) t4 (by rw [run_pick e4 (eval_tmp q3), eval_tmp r3]) ?_
 exact h _ _ (k3.put (d := d4) (by omega) _) (put_same (by rw [put_size, put_size, put_size]; omega) _) hR
theorem and_field {n dp d1 d2 d3 d4 d5 d6 d7 s k f bb fld st ft off : Nat} {a0 : Act} {ov : Value} {R : World -> Prop} {t : Array TypeId} {o1 o2 o3 o4 o5 o6 o7 : Oper}
    (e1 : o1.op = .move (.tmp dp)) (g1 : o1.guard = none) (t1 : o1.dst = some d1) (e2 : o2.op = .move (.tmp s)) (g2 : o2.guard = some (k, true)) (t2 : o2.dst = some d2)
    (e3 : o3.op = .nilCheck (.tmp d2)) (g3 : o3.guard = some (k, true)) (t3 : o3.dst = some d3) (e4 : o4.op = .fieldAddr st (.tmp d3) fld) (g4 : o4.guard = some (k, true)) (t4 : o4.dst = some d4)
    (e5 : o5.op = .load ft (.tmp d4)) (g5 : o5.guard = some (k, true)) (t5 : o5.dst = some d5)
    (e6 : o6.op = .call { callee := .value (.func f), args := #[.tmp d5], argTypes := t }) (g6 : o6.guard = some (k, true)) (t6 : o6.dst = some d6) (e7 : o7.op = .pick (.tmp d1) (.tmp d6) (.const (.bool false))) (g7 : o7.guard = none) (t7 : o7.dst = some d7)
    (hk : (ops[k]?).bind (·.dst) = some d1) (h1 : n <= d1) (h2 : d1 < d2) (h3 : d2 < d3) (h4 : d3 < d4) (h5 : d4 < d5) (h6 : d5 < d6) (h7 : d6 < d7) (hs : s < n)
    (hK : Kp n a0 a) (hz : d7 < a0.tmps.size) (hp : a.tmps[dp]? = some (.bool true)) (hgv : a0.tmps[s]? = some (.pointer (some ⟨bb, 0, none⟩))) (he : ∀ args w, (callFunc f args).run P w = .ok (.enter f args) w)
    (hfa : ∀ w, (Instr.fieldAt st (.pointer (some ⟨bb, 0, none⟩)) fld).run P w = .ok (.pointer (some ⟨bb, off, none⟩)) w) (hld : (Instr.loadAt ft (.pointer (some ⟨bb, off, none⟩))).run P w = .ok ov w)
    (hc : Calls P f #[ov] w fun e w' => e = .returned (.bool true) /\ R w')
    (h : ∀ a' w', Kp n a0 a' -> a'.tmps[d7]? = some (.bool true) -> R w' -> wpList P ops Q rest a' w') : wpList P ops Q (o1 :: o2 :: o3 :: o4 :: o5 :: o6 :: o7 :: rest) a w := by
 have z := hK.size
 refine wpL_val (v := .bool true) (wanted_none g1) t1 (by rw [run_move e1, eval_tmp hp]) ?_
 have k1 := hK.put h1 (.bool true)
 have q1 : (a.put (some d1) (.bool true)).tmps[d1]? = some (.bool true) := put_same (by omega) _
 have z1 := put_size a d1 (.bool true)
 generalize a.put (some d1) (.bool true) = b1 at *
 refine wpL_val (v := .pointer (some ⟨bb, 0, none⟩)) (wanted_of g2 hk q1) t2 (by rw [run_move e2, eval_tmp (by rw [k1.low s hs]; exact hgv)]) ?_
 have k2 := k1.put (d := d2) (by omega) (.pointer (some ⟨bb, 0, none⟩))
 have q2 : (b1.put (some d2) (.pointer (some ⟨bb, 0, none⟩))).tmps[d1]? = some (.bool true) := by rw [put_ne (by omega)]; exact q1
 have r2 : (b1.put (some d2) (.pointer (some ⟨bb, 0, none⟩))).tmps[d2]? = some (.pointer (some ⟨bb, 0, none⟩)) := put_same (by omega) _
 have z2 := put_size b1 d2 (.pointer (some ⟨bb, 0, none⟩))
 generalize b1.put (some d2) (.pointer (some ⟨bb, 0, none⟩)) = b2 at *
 refine wpL_val (v := .pointer (some ⟨bb, 0, none⟩)) (wanted_of g3 hk q2) t3 (run_nilCheck e3 (eval_tmp r2)) ?_
 have k3 := k2.put (d := d3) (by omega) (.pointer (some ⟨bb, 0, none⟩))
 have q3 : (b2.put (some d3) (.pointer (some ⟨bb, 0, none⟩))).tmps[d1]? = some (.bool true) := by rw [put_ne (by omega)]; exact q2
 have r3 : (b2.put (some d3) (.pointer (some ⟨bb, 0, none⟩))).tmps[d3]? = some (.pointer (some ⟨bb, 0, none⟩)) := put_same (by omega) _
 have z3 := put_size b2 d3 (.pointer (some ⟨bb, 0, none⟩))
 generalize b2.put (some d3) (.pointer (some ⟨bb, 0, none⟩)) = b3 at *
 refine wpL_val (v := .pointer (some ⟨bb, off, none⟩)) (wanted_of g4 hk q3) t4 (by simp [execOp, e4, eval_tmp r3, hfa]) ?_
 have k4 := k3.put (d := d4) (by omega) (.pointer (some ⟨bb, off, none⟩))
 have q4 : (b3.put (some d4) (.pointer (some ⟨bb, off, none⟩))).tmps[d1]? = some (.bool true) := by rw [put_ne (by omega)]; exact q3
 have r4 : (b3.put (some d4) (.pointer (some ⟨bb, off, none⟩))).tmps[d4]? = some (.pointer (some ⟨bb, off, none⟩)) := put_same (by omega) _
 have z4 := put_size b3 d4 (.pointer (some ⟨bb, off, none⟩))
 generalize b3.put (some d4) (.pointer (some ⟨bb, off, none⟩)) = b4 at *
 refine wpL_val (v := ov) (wanted_of g5 hk q4) t5 (by simp [execOp, e5, eval_tmp r4, hld]) ?_
 have k5 := k4.put (d := d5) (by omega) ov
 have q5 : (b4.put (some d5) ov).tmps[d1]? = some (.bool true) := by rw [put_ne (by omega)]; exact q4
 have r5 : (b4.put (some d5) ov).tmps[d5]? = some ov := put_same (by omega) _
 have z5 := put_size b4 d5 ov
 generalize b4.put (some d5) ov = b5 at *
 refine wpL_call (v := .bool true) (wanted_of g6 hk q5) t6 (by rw [run_call e6 he, eval_tmp r5]) hc (fun w' hR => ?_)
 have k6 := k5.put (d := d6) (by omega) (.bool true)
 have q6 : (b5.put (some d6) (.bool true)).tmps[d1]? = some (.bool true) := by rw [put_ne (by omega)]; exact q5
 have r6 : (b5.put (some d6) (.bool true)).tmps[d6]? = some (.bool true) := put_same (by omega) _
 have z6 := put_size b5 d6 (.bool true)
 generalize b5.put (some d6) (.bool true) = b6 at *
 refine wpL_val (v := .bool true) (wanted_none g7) t7 (by rw [run_pick e7 (eval_tmp q6), eval_tmp r6]) ?_
 exact h _ _ (k6.put (d := d7) (by omega) _) (put_same (by omega) _) hR
end
end Go.Proofs.YtgikimbafakmcaaGreatDoor
namespace Go.Proofs.YtgikimbafakmcaaGreatDoor
open Go.RowKit Pl
section
variable {α : Type} {f : Nat -> Nat -> α} {i k n m : Nat}
def mkG (f : Nat -> Nat -> α) (i k n : Nat) : List α := (List.range n).map (fun j => f i (k + j))
theorem mkG_len : (mkG f i k n).length = n := by simp [mkG]
theorem mkG_get {j : Nat} (h : j < n) : (mkG f i k n)[j]? = some (f i (k + j)) := by simp [mkG, h]
theorem mkG_app : mkG f i k n ++ mkG f i (k + n) m = mkG f i k (n + m) := by
 apply List.ext_getElem?
 intro j
 by_cases h : j < n
 · rw [List.getElem?_append_left (by rw [mkG_len]; exact h), mkG_get h, mkG_get (by omega)]
 · rw [List.getElem?_append_right (by rw [mkG_len]; omega), mkG_len]
   by_cases h2 : j < n + m
   · rw [mkG_get (by omega), mkG_get h2, show k + n + (j - n) = k + j by omega]
   · rw [List.getElem?_eq_none (by rw [mkG_len]; omega), List.getElem?_eq_none (by rw [mkG_len]; omega)]
theorem mkG_app0 : mkG f i 0 n ++ mkG f i n m = mkG f i 0 (n + m) := by
 have := mkG_app (f := f) (i := i) (k := 0) (n := n) (m := m)
 rwa [Nat.zero_add] at this
theorem mkG_one : mkG f i k 1 = [f i k] := by simp [mkG]
theorem mkG_snoc : mkG f i k n ++ [f i (k + n)] = mkG f i k (n + 1) := by rw [<- mkG_one, mkG_app]
end
def mI (i k : Nat) : Int := -1000000 * (i : Int) - (k : Int) - 7
def mB (i k : Nat) : Bool := decide ((i + k) % 2 = 0)
theorem mB_int (i k j : Nat) : mB i (k + j) = (((i : Int) + ((k : Int) + (j : Int))) % 2 == 0) := by
 unfold mB
 rw [Bool.eq_iff_iff]
 simp only [decide_eq_true_eq, beq_iff_eq]
 omega
def mS (i k : Nat) : S := (-1 - (i : Int), (k : Int))
def mE (i k : Nat) : E := (-1 - (i : Int), (k : Int), 7)
structure Kd where
  T : TypeId
  o : Value
  p : Value
  vs : List Value
  us : List Value
  G : List Rw
def Kd.rs (K : Kd) : List Rw := ⟨K.T, 1, K.o, K.vs.length, K.vs⟩ :: ⟨K.T, 1, K.p, K.us.length, K.us⟩ :: K.G
def bkCells (kds : List Kd) : List Value := kds.flatMap (fun K => [K.o, K.p])
def bkBox (bb : Nat) (kds : List Kd) : Rw := ⟨44, 22, .slice (some ⟨bb, 0, none⟩) 1 1, 1, bkCells kds⟩
def bkRows (bb : Nat) (kds : List Kd) (D : List Rw) : List Rw := bkBox bb kds :: (kds.flatMap Kd.rs ++ D)
def bkX (kds : List Kd) (j : Nat) (D : List Rw) : List Rw := (kds.take j ++ kds.drop (j + 1)).flatMap Kd.rs ++ D
section
variable {kds : List Kd} {K K' : Kd} {j bb : Nat} {D : List Rw}
theorem bk_cut (h : kds[j]? = some K) : kds = kds.take j ++ K :: kds.drop (j + 1) := by
 obtain ⟨hl, rfl⟩ := List.getElem?_eq_some_iff.1 h
 rw [List.getElem_cons_drop, List.take_append_drop]
theorem bkX_set : bkX (kds.set j K') j D = bkX kds j D := by
 unfold bkX
 rw [List.take_set_of_le (Nat.le_refl _), List.drop_set_of_lt (by omega)]
theorem bkFlat_perm (h : kds[j]? = some K) : (kds.flatMap Kd.rs ++ D).Perm (K.rs ++ bkX kds j D) := by
 unfold bkX
 conv => lhs; rw [bk_cut h]
 rw [List.flatMap_append, List.flatMap_append, List.flatMap_cons, List.append_assoc, List.append_assoc, List.append_assoc]
 refine (List.perm_append_comm_assoc _ _ _).trans ?_
 exact List.Perm.refl _
theorem bkRows_perm (h : kds[j]? = some K) : (bkRows bb kds D).Perm (bkBox bb kds :: (K.rs ++ bkX kds j D)) := (bkFlat_perm h).cons _
theorem bkRows_perm' (h : kds[j]? = some K) : (bkRows bb (kds.set j K') D).Perm (bkBox bb (kds.set j K') :: (K'.rs ++ bkX kds j D)) := by
 have hl := (List.getElem?_eq_some_iff.1 h).1
 have := bkRows_perm (bb := bb) (D := D) (K := K') (kds := kds.set j K') (j := j) (by simp [hl])
 rw [bkX_set] at this
 exact this
theorem bkCells_at (h : kds[j]? = some K) : (bkCells kds)[j * 2]? = some K.o /\ (bkCells kds)[j * 2 + 1]? = some K.p :=
  ⟨getElem?_flatMap (enc := fun K : Kd => [K.o, K.p]) (k := 2) (fun _ => rfl) kds j K h 0 _ rfl, getElem?_flatMap (enc := fun K : Kd => [K.o, K.p]) (k := 2) (fun _ => rfl) kds j K h 1 _ rfl⟩
theorem bkCells_len : (bkCells kds).length = kds.length * 2 := length_flatMap (enc := fun K : Kd => [K.o, K.p]) (k := 2) (fun _ => rfl) kds
theorem bkCells_set (h : kds[j]? = some K) : bkCells (kds.set j K') = ((bkCells kds).set (j * 2) K'.o).set (j * 2 + 1) K'.p := by
 have hl := (List.getElem?_eq_some_iff.1 h).1
 apply List.ext_getElem?
 intro q
 by_cases hq : q < kds.length * 2
 · (
 obtain ⟨Y, hY⟩ := getElem?_of_lt (xs := kds) (i := q / 2) (by omega)
 have hq2 : q = q / 2 * 2 ∨ q = q / 2 * 2 + 1 := by omega
 have e1 := bkCells_at hY
 rw [List.getElem?_set, List.getElem?_set]
 by_cases e : j = q / 2
 · (
 subst e
 have e2 := bkCells_at (kds := kds.set (q / 2) K') (j := q / 2) (K := K') (by simp [hl])
 rcases hq2 with e3 | e3
 · rw [show (bkCells (kds.set (q / 2) K'))[q]? = some K'.o by rw [e3]; simpa using e2.1]
   rw [if_neg (by omega), if_pos (by omega)]
   simp [bkCells_len]; omega
 · rw [show (bkCells (kds.set (q / 2) K'))[q]? = some K'.p by rw [e3]; have := e2.2; rw [show (q / 2 * 2 + 1) / 2 = q / 2 by omega]; exact this]
   rw [if_pos (by omega)]
   simp [bkCells_len]; omega)
 · have e2 := bkCells_at (kds := kds.set j K') (j := q / 2) (K := Y) (by rw [List.getElem?_set_ne e]; exact hY)
   rw [if_neg (by omega), if_neg (by omega)]
   rcases hq2 with e3 | e3
   · rw [e3, e1.1, e2.1]
   · rw [e3, e1.2, e2.2])
 · rw [List.getElem?_eq_none (by rw [bkCells_len]; simp; omega), List.getElem?_eq_none (by simp [bkCells_len]; omega)]
theorem bkBox_set (h : kds[j]? = some K) (ho : K'.o = K.o) (hp : K'.p = K.p) : bkBox bb (kds.set j K') = bkBox bb kds := by
 unfold bkBox
 rw [bkCells_set h, ho, hp]
 obtain ⟨h1, h2⟩ := bkCells_at h
 congr 1
 have set_self : ∀ (l : List Value) (i : Nat) (x : Value), l[i]? = some x -> l.set i x = l := fun l i x h => by (
 apply List.ext_getElem?
 intro q
 rw [List.getElem?_set]
 by_cases e : i = q
 · subst e; rw [if_pos rfl, if_pos (List.getElem?_eq_some_iff.1 h).1, h]
 · rw [if_neg e])
 rw [set_self _ _ _ h1, set_self _ _ _ h2]
end
def Pre (G : List Rw) (k : Nat) (v : Value) (n : Nat) (cs : List Value) : Prop :=
  ∃ r ∈ G, r.k = k /\ ∃ a c c', v = .slice a n c /\ r.v = .slice a r.n c' /\ n <= r.n /\ r.xs.take (n * k) = cs
theorem Pre.mono {G G' : List Rw} {k n : Nat} {v : Value} {cs : List Value} (h : Pre G k v n cs) (hs : ∀ r ∈ G, r ∈ G') : Pre G' k v n cs := by
 obtain ⟨r, hr, x⟩ := h
 exact ⟨r, hs r hr, x⟩
section
variable {w0 w : World} {L : List Rw}
theorem Rws.shape (h : Rws w0 w L) {r : Rw} (hr : r ∈ L) : ∃ a c, r.v = .slice a r.n c /\ (0 < r.n -> ∃ g, a = some ⟨g, 0, none⟩) /\ (a = none ∨ ∃ g, a = some ⟨g, 0, none⟩) /\ r.n <= c /\ c <= maxLen /\ r.xs.length = r.n * r.k := by
 have ho := h.own r hr
 rcases ho.2 with ⟨h1, h2⟩ | ⟨g, c, cur, hv, _, _, hnc, hcm, _⟩
 · exact ⟨none, 0, by rw [h1, h2], fun h => by omega, .inl rfl, by omega, by unfold maxLen; omega, ho.1⟩
 · exact ⟨some ⟨g, 0, none⟩, c, hv, fun _ => ⟨g, rfl⟩, .inr ⟨g, rfl⟩, hnc, hcm, ho.1⟩
theorem Rws.pre {α : Type} {enc : α -> List Value} {k : Nat} (h : Rws w0 w L) {G : List Rw} (hs : ∀ r ∈ G, r ∈ L) (hk : ∀ x, (enc x).length = k) {v : Value} {ys : List α} {n : Nat} (hp : Pre G k v n (ys.flatMap enc)) (hn : n = ys.length) :
    ∃ a c b, v = .slice a ys.length c /\ SlAt enc k w a b 0 ys := by
 subst hn
 obtain ⟨r, hr, rfl, a, c, c', hv, hrv, hle, htk⟩ := hp
 have ho := h.own r (hs r hr)
 rcases ho.2 with ⟨h1, h2⟩ | ⟨g, cap, cur, hv2, _, hg, _, _, _, htake⟩
 · rw [h2] at hle
   have : ys = [] := List.eq_nil_of_length_eq_zero (by omega)
   subst this
   exact ⟨a, c, 0, hv, slAt_nil _ _ _ _⟩
 · (
 rw [hv2] at hrv
 simp only [Value.slice.injEq] at hrv
 obtain ⟨rfl, _, _⟩ := hrv
 refine ⟨_, c, g, hv, fun _ => rfl, fun _ => (Array.getElem?_eq_some_iff.1 hg).1, fun i x hx j u hu => ?_⟩
 rw [cell_of_row w g _ cur r.T (0, 0) hg]
 have h1 := getElem?_flatMap hk ys i x hx j u hu
 rw [<- htk, List.getElem?_take] at h1
 split at h1
 · rw [<- htake, List.getElem?_take] at h1
   split at h1
   · simpa using h1
   · cases h1
 · cases h1)
theorem Pre.self {r : Rw} (h : Rws w0 w L) (hr : r ∈ L) : Pre [r] r.k r.v r.n r.xs := by
 obtain ⟨a, c, hv, _, _, _, _, hl⟩ := h.shape hr
 exact ⟨r, by simp, rfl, a, c, c, hv, hv, Nat.le_refl _, List.take_of_length_le (by omega)⟩
end
end Go.Proofs.YtgikimbafakmcaaGreatDoor

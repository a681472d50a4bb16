/-
  Small lemmas on rows: two rows of unlike elements, a struct's cells. (Taken out of LawGAll.)
  '==' at steps; slices.Compact at steps, on a row of the call's own (XCompact, XCompact2 turned from edges to steps).
  semblancebook.SameSteps.
-/
import Derived.Test.YtkmljelgogcobaaGreatDoorGEnds
import Derived.Test.YtkmljelgogcobaaGreatDoorCompact2
import Derived.Test.YtkmljelgogcobaaGreatDoorRows2
import Derived.Test.YtkmljelgogcobaaGreatDoorGClone
import Derived.Deep.RegionHeld3
import Derived.Deep.Cut
import Derived.Deep.CutRange
import Derived.Deep.QuietTactic
import Derived.BigQuiet
import Derived.IntWalk
import Derived.Deep.DeepMust
namespace Go.Proofs.YtkmljelgogcobaaGreatDoor
open Go.RowKit Pl

theorem own_ofRow {w : World} {b : Nat} {t : TypeId} {n base : Nat} {f : Nat → Value} (h : w.rowIs b t n f) (hb : base ≤ b) (hn : n ≤ maxLen) : w.ownsRow base t 1 (.slice (some ⟨b, 0, none⟩) n n) n ((List.range n).map f) := by
  obtain ⟨cs, h1, h2, h3⟩ := h
  refine ⟨by simp, .inr ⟨b, n, cs, rfl, hb, h1, Nat.le_refl _, hn, by rw [h2]; omega, ?_⟩⟩
  apply List.ext_getElem?
  intro i
  rw [List.getElem?_take]
  by_cases hi : i < n
  · rw [if_pos (by omega), Array.getElem?_toList, h3 i hi]
    simp [hi]
  · rw [if_neg (by omega), List.getElem?_eq_none (by simp; omega)]
theorem sysG {w : World} {B : Nat} {x y z : Int} {v : Value} (h : w.heap[B]? = some (.cells #[.int .i64 x, .int .i64 y, .int .i64 z, v] 24 (0, 0))) :
    w.cell? ⟨B, 0, none⟩ = some (.int .i64 x) ∧ w.cell? ⟨B, 1, none⟩ = some (.int .i64 y) ∧ w.cell? ⟨B, 2, none⟩ = some (.int .i64 z) ∧ w.cell? ⟨B, 3, none⟩ = some v := by
  refine ⟨?_, ?_, ?_, ?_⟩ <;> simp [World.cell?, h]
theorem at_world {P : Program} {c : Code} {Q : Exit → Act → World → Prop} {a : Act} {w : World} (R : World → Prop) (h0 : R w) (h : ∀ W, R W → c.wp P Q a W) : c.wp P Q a w := h w h0
/-- Rows of unlike elements share no block. -/
theorem own_unlike {w : World} {b1 b2 : Nat} {t1 t2 : TypeId} {k1 k2 n1 n2 : Nat} {v1 v2 : Value} {x1 x2 : List Value} (h1 : w.ownsRow b1 t1 k1 v1 n1 x1) (h2 : w.ownsRow b2 t2 k2 v2 n2 x2) (hne : t1 ≠ t2) : ∀ g, v1.ownBlock = some g → v2.ownBlock ≠ some g := fun g hg hg2 => by
  rcases h1.2 with ⟨e, _⟩ | ⟨g1, c1, cur1, e1, _, hh1, _⟩
  · rw [e] at hg; cases hg
  · rcases h2.2 with ⟨e, _⟩ | ⟨g2, c2, cur2, e2, _, hh2, _⟩
    · rw [e] at hg2; cases hg2
    · rw [e1] at hg; rw [e2] at hg2
      simp only [Value.ownBlock, Option.some.injEq] at hg hg2
      subst hg
      subst hg2
      rw [hh1] at hh2
      simp only [Option.some.injEq, Obj.cells.injEq] at hh2
      exact hne hh2.2.1
theorem Rws.two {w w' : World} {t1 t2 : TypeId} {k1 k2 n1 n2 : Nat} {v1 v2 : Value} {x1 x2 : List Value} (hB : Below w.heap.size w w') (h1 : w'.ownsRow w.heap.size t1 k1 v1 n1 x1) (h2 : w'.ownsRow w.heap.size t2 k2 v2 n2 x2) (hne : t1 ≠ t2) : Rws w w' [⟨t1, k1, v1, n1, x1⟩, ⟨t2, k2, v2, n2, x2⟩] where
  bel := hB
  own r hr := by
    simp only [List.mem_cons, List.not_mem_nil, or_false] at hr
    rcases hr with rfl | rfl
    · exact h1
    · exact h2
  apart := by
    rw [List.pairwise_cons]
    refine ⟨fun b hb => ?_, by simp⟩
    simp only [List.mem_cons, List.not_mem_nil, or_false] at hb
    subst hb
    exact own_unlike h1 h2 hne
end Go.Proofs.YtkmljelgogcobaaGreatDoor

namespace Go.Proofs.YtkmljelgogcobaaGreatDoor
open Go.RowKit Pl

theorem eqlS (x y : S) (w : World) : (binOp .eql 92 (.agg #[.int .i64 x.1, .int .i64 x.2]) (.agg #[.int .i64 y.1, .int .i64 y.2])).run Tryz.prog w = .ok (.bool (decide (x = y))) w := by
  have u3 := Tryz.underlying3
  have a3 := Tryz.isAgg3
  have z3 := Tryz.sizeOf3
  have hS : Tryz.prog.underlying 92 = some (.struct (Tryz.prog.fieldsOf 92)) := by kernel_rfl
  have hp : Tryz.prog.stoodInHeld 92 = false := by kernel_rfl
  rw [run_eql_struct, show (10000 : Nat) = 9999 + 1 from rfl, run_equalIn_agg w 9999 92 _ _ hS hp]
  simp only [Program.fieldsOf, Tryz.underlying92]
  go_simp
  obtain ⟨x1, x2⟩ := x; obtain ⟨y1, y2⟩ := y
  by_cases h1 : x1 = y1 <;> by_cases h2 : x2 = y2 <;> simp [h1, h2]

theorem neqS (x y : S) (w : World) : (binOp .neq 92 (.agg #[.int .i64 x.1, .int .i64 x.2]) (.agg #[.int .i64 y.1, .int .i64 y.2])).run Tryz.prog w = .ok (.bool (!decide (x = y))) w := by
  have h := eqlS x y w
  rw [run_eql_struct] at h
  rw [run_neq_struct]
  cases hr : (Op.equalIn 10000 92 (.agg #[.int .i64 x.1, .int .i64 x.2]) (.agg #[.int .i64 y.1, .int .i64 y.2])).run Tryz.prog w with
  | ok b w' => rw [hr] at h; simp [Result.andThen] at h ⊢; exact ⟨h.1, h.2⟩
  | halt b w' => rw [hr] at h; simp [Result.andThen] at h

theorem guardS : Tryz.prog.eqGuardType Tryz.prog.depth 92 = false := by kernel_rfl

theorem set2 {l : List Value} {i : Nat} {a b : Value} (h : i * 2 + 2 ≤ l.length) : (l.set (i * 2) a).set (i * 2 + 1) b = l.take (i * 2) ++ [a, b] ++ l.drop (i * 2 + 2) := by
  apply List.ext_getElem?
  intro j
  simp only [List.getElem?_set, List.length_set, List.append_assoc]
  by_cases h1 : j < i * 2
  · rw [if_neg (by omega), if_neg (by omega), List.getElem?_append_left (by simp; omega), List.getElem?_take, if_pos h1]
  · rw [List.getElem?_append_right (by simp; omega)]
    simp only [List.length_take, Nat.min_eq_left (show i * 2 ≤ l.length by omega)]
    by_cases h2 : j = i * 2
    · subst h2; rw [if_neg (by omega), if_pos rfl, if_pos (by omega)]; simp
    · by_cases h3 : j = i * 2 + 1
      · subst h3; rw [if_pos rfl, if_pos (by omega)]; rw [show i * 2 + 1 - i * 2 = 1 by omega]; rfl
      · rw [if_neg (by omega), if_neg (by omega)]
        rw [show j - i * 2 = (j - (i * 2 + 2)) + 1 + 1 by omega]
        simp only [List.cons_append, List.nil_append, List.getElem?_cons_succ, List.getElem?_drop]
        congr 1; omega

/-- 's[i] = x', s a step row of the call's own. -/
theorem ownS_set {w : World} {base g n cap : Nat} {e : TypeId} {xs : List S} (h : w.ownsRow base e 2 (.slice (some ⟨g, 0, none⟩) n cap) xs.length (xs.flatMap encS)) (hn : n = xs.length) (i : Nat) (x : S) (hi : i < xs.length) :
    ((w.setCell ⟨g, i * 2, none⟩ (.int .i64 x.1)).setCell ⟨g, i * 2 + 1, none⟩ (.int .i64 x.2)).ownsRow base e 2 (.slice (some ⟨g, 0, none⟩) n cap) (xs.set i x).length ((xs.set i x).flatMap encS) := by
  subst hn
  have h1 := (h.stored (i * 2) (.int .i64 x.1)).1.stored (i * 2 + 1) (.int .i64 x.2)
  rw [set2 (by rw [length_flatMap lenS]; omega)] at h1
  replace h1 := h1.1
  rw [flat_set lenS xs i x hi, List.length_set]
  exact h1

theorem below_set2 {w0 w : World} {B g i : Nat} {a b : Value} (h : Below B w0 w) (hg : B ≤ g) : Below B w0 ((w.setCell ⟨g, i, none⟩ a).setCell ⟨g, i + 1, none⟩ b) :=
  (h.setCell hg _).setCell hg _

/-- 'clear(s[k:])', s a step row of the call's own. -/
theorem clearS {w : World} {base g n cap : Nat} {ys : List S} (h : w.ownsRow base 92 2 (.slice (some ⟨g, 0, none⟩) n cap) ys.length (ys.flatMap encS)) (hn : n = ys.length) (kk c : Nat) (hk : kk < n) :
    ∃ w1, (∀ ty, (Builtin.clear_ #[46] ty #[.slice (some ⟨g, kk * 2, none⟩) (n - kk) c]).run Tryz.prog w = .ok (.tuple #[]) w1) ∧
      w1.ownsRow base 92 2 (.slice (some ⟨g, 0, none⟩) kk cap) kk ((ys.take kk).flatMap encS) ∧ ∀ {w0 : World}, Below base w0 w → Below base w0 w1 := by
  subst hn
  rcases h.2 with ⟨h', _⟩ | ⟨g', cap', cur, h', hb, hg, hnc, hcm, hcs, htake⟩
  · simp at h'
  · simp only [Value.slice.injEq, Option.some.injEq, Addr.mk.injEq, and_true, true_and] at h'
    obtain ⟨rfl, rfl⟩ := h'
    obtain ⟨m, hm⟩ : ∃ m, ys.length - kk = m + 1 := ⟨ys.length - kk - 1, by omega⟩
    rw [hm]
    obtain ⟨zs, hzs⟩ : ∃ zs, zs = (Builtin.zeroCells #[.int .i64 0, .int .i64 0] (m + 1)).toList := ⟨_, rfl⟩
    have hz : zs.length = (m + 1) * 2 := by rw [hzs, Array.length_toList, size_zeroCells]; rfl
    have hst := run_storeCells_at Tryz.prog g (kk * 2) 92 zs 0 cur w hg (by rw [hz]; omega) (by rw [hzs]; exact zeroCells_one _ _ (by simp [Value.oneCell']))
    simp only [Nat.add_zero] at hst
    obtain ⟨F, hF⟩ : ∃ F, F = (cur.toList.take (kk * 2) ++ zs ++ cur.toList.drop (kk * 2 + zs.length)).toArray := ⟨_, rfl⟩
    rw [← hF] at hst
    refine ⟨w.setRow g F, fun ty => ?_, ⟨?_, .inr ⟨g, cap, F, rfl, hb, setRow_heap w g cur _ _ _ hg, by omega, hcm, ?_, ?_⟩⟩, fun {w0} hB => ?_⟩
    · rw [hzs] at hst
      simp only [Builtin.clear_]
      simp [run_underlying Tryz.underlying46, Value.cells, hst]
    · rw [length_flatMap lenS, List.length_take, Nat.min_eq_left (by omega)]
    · rw [hF]
      simp only [List.size_toArray, List.length_append, List.length_take, List.length_drop, Array.length_toList, hz, hcs]
      omega
    · rw [hF, List.append_assoc, List.take_append_of_le_length (by simp; omega), List.take_take, Nat.min_self]
      have : (cur.toList.take (ys.length * 2)).take (kk * 2) = ((ys.flatMap encS)).take (kk * 2) := by rw [htake]
      rw [List.take_take, Nat.min_eq_left (by omega)] at this
      rw [this]
      have h2 := List.take_append_drop kk ys
      have h3 : ys.flatMap encS = (ys.take kk).flatMap encS ++ (ys.drop kk).flatMap encS := by rw [← List.flatMap_append, h2]
      rw [h3, List.take_append_of_le_length (by rw [length_flatMap lenS]; simp; omega), List.take_of_length_le (by rw [length_flatMap lenS]; simp; omega)]
    · exact hB.trans ⟨rfl, rfl, rfl, by simp [World.setRow], fun k hk => setRow_other w g k _ (by omega)⟩

end Go.Proofs.YtkmljelgogcobaaGreatDoor

namespace Go.Proofs.YtkmljelgogcobaaGreatDoor
open Go.RowKit Pl

theorem eq_uptoSt {α : Type} {xs ys : List α} (hl : xs.length = ys.length) (h : ∀ j, j < xs.length → xs[j]? = ys[j]?) : xs = ys := by
  apply List.ext_getElem?
  intro j
  by_cases hj : j < xs.length
  · exact h j hj
  · rw [List.getElem?_eq_none (by omega), List.getElem?_eq_none (by omega)]

set_option maxRecDepth 100000 in
theorem sameSteps_any {a1 a2 : Option Addr} {b1 o1 c1 b2 o2 c2 : Nat} {xs ys : List S} {w : World} (h1 : SlAt encS 2 w a1 b1 o1 xs) (h2 : SlAt encS 2 w a2 b2 o2 ys) (hx : xs.length ≤ 1000000) (hy : ys.length ≤ 1000000) :
    Calls Tryz.prog 22 #[.slice a1 xs.length c1, .slice a2 ys.length c2] w fun e w' => e = .returned (.bool (decide (xs = ys))) ∧ ∃ n, w' = w.drewN n := by
  by_cases hl : xs.length = ys.length
  · have hlB : ((xs.length : Int) != (ys.length : Int)) = false := by simp [hl]
    have HL := Lib.hid hl; clear hl
    go_enter Tryz.func22, Tryz.ntmps22
    go_wp2
    go_loopw [5] (fun i wr => ∃ k m : Nat, k ≤ xs.length ∧ i = .int .i64 k ∧ (∀ j, j < k → xs[j]? = ys[j]?) ∧ wr = w.drewN m)
      (fun i _ => xs.length - (intOf i).toNat)
    case atStart => exact ⟨0, 0, Nat.zero_le _, rfl, by intro j hj; omega, rfl⟩
    case round =>
      obtain ⟨k, m, hk, rfl, heq, rfl⟩ := hrel
      have HE := Lib.hid heq; clear heq
      by_cases hlt : k < xs.length
      · have hlt2 : k < ys.length := by rw [← HL.out]; exact hlt
        obtain ⟨x, hxk⟩ := getElem?_of_lt hlt
        obtain ⟨y, hyk⟩ := getElem?_of_lt hlt2
        obtain rfl := h1.ad (by omega)
        obtain rfl := h2.ad (by omega)
        have c0 := h1.s0 hxk; have c1' := h1.s1 hxk
        have d0 := h2.s0 hyk; have d1 := h2.s1 hyk
        have hq := fun w => eqlS x y w
        have hgd := guardS
        have hi1 : (k : Int) < (xs.length : Int) := by omega
        have hi2 : (k : Int) < (ys.length : Int) := by omega
        have HX := Lib.hid hxk; have HY := Lib.hid hyk
        clear h1 h2 hxk hyk
        by_cases hxy : x = y
        · have hb : decide (x = y) = true := by simp [hxy]
          have HXY := Lib.hid hxy; clear hxy
          go_wp2_with fail
          go_quiet (fail)
          go_wp2
          go_roundw
          case rel => exact ⟨k + 1, _, by omega, by go_num, by
            intro j hj
            by_cases hjk : j = k
            · subst hjk; rw [HX.out, HY.out, HXY.out]
            · exact HE.out j (by omega), rfl⟩
          case measure => simp [intOf]; omega
        · have hb : decide (x = y) = false := by simp [hxy]
          have HXY := Lib.hid hxy; clear hxy
          go_wp2_with fail
          go_quiet (fail)
          go_wp2
          go_ret
          refine ⟨?_, _, World.drewN_drewN _ _ _⟩
          have : xs ≠ ys := fun e => HXY.out (by have h1 := HX.out; have h2 := HY.out; rw [e, h2] at h1; simpa using h1.symm)
          simp [this]
      · clear h1 h2
        have hkk : k = xs.length := by omega
        go_wp2
        go_ret
        refine ⟨?_, _, rfl⟩
        have : xs = ys := eq_uptoSt HL.out (by rw [← hkk]; exact HE.out)
        simp [this]
  · have hlB : ((xs.length : Int) != (ys.length : Int)) = true := by simp; omega
    go_enter Tryz.func22, Tryz.ntmps22
    go_wp2
    go_ret
    have : xs ≠ ys := fun e => hl (by rw [e])
    exact ⟨by simp [this], 0, rfl⟩
end Go.Proofs.YtkmljelgogcobaaGreatDoor

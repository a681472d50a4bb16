/-
  slices.Clone at edges and at steps: the same cells, in memory of the call's own.
  '==' at edges and steps; rows of a call's own, written in place; slices.Compact at edges.
-/
import Derived.Test.YtkmljelgogcobaaGreatDoorGBase
import Derived.Outline
import Derived.Deep.QuietTactic
import Derived.BigQuiet
namespace Go.Proofs.YtkmljelgogcobaaGreatDoor
open Go.RowKit Pl

theorem slAt_flat {α : Type} {enc : α → List Value} {k : Nat} {w : World} {a : Option Addr} {b off : Nat} {xs : List α} (hk : ∀ x, (enc x).length = k) (h : SlAt enc k w a b off xs) (j : Nat) (u : Value) (hu : (xs.flatMap enc)[j]? = some u) :
    w.cell? ((⟨b, off, none⟩ : Addr).add j) = some u := by
  have hj := (List.getElem?_eq_some_iff.1 hu).1
  rw [length_flatMap hk] at hj
  have hk0 : 0 < k := by
    rcases Nat.eq_zero_or_pos k with rfl | h
    · simp at hj
    · exact h
  have hi : j / k < xs.length := by rw [Nat.div_lt_iff_lt_mul hk0]; exact hj
  obtain ⟨x, hx⟩ := getElem?_of_lt hi
  have hm : j % k < (enc x).length := by rw [hk]; exact Nat.mod_lt _ hk0
  have h1 := getElem?_flatMap hk xs (j / k) x hx (j % k) _ (List.getElem?_eq_getElem hm)
  rw [show j / k * k + j % k = j from Nat.div_add_mod' j k] at h1
  rw [hu] at h1
  have h2 := h.cell (j / k) x hx (j % k) u (by rw [List.getElem?_eq_getElem hm, ← h1])
  rw [show off + j / k * k + j % k = off + j by rw [Nat.add_assoc, Nat.div_add_mod']] at h2
  have hadd : (⟨b, off, none⟩ : Addr).add j = ⟨b, off + j, none⟩ := by unfold Addr.add; split <;> simp_all
  rw [hadd]; exact h2

theorem cell_alloc_of {w : World} {o : Obj} {a : Addr} {u : Value} (h : w.cell? a = some u) : (w.alloc o).cell? a = some u := by
  rw [World.cell?_alloc_old _ _ _ (Nat.ne_of_lt (World.block_lt_of_cell? _ _ h))]; exact h

set_option maxRecDepth 100000 in
theorem cloneE_any {a : Option Addr} {b off c : Nat} {xs : List E} {w : World} (h : SlAt encE 3 w a b off xs) (hl : xs.length ≤ 1000000) :
    Calls Tryz.prog 50 #[.slice a xs.length c] w fun e w' => ∃ v, e = .returned v ∧ w'.ownsRow w.heap.size 79 3 v xs.length (xs.flatMap encE) ∧ Below w.heap.size w w' := by
  cases a with
  | none =>
    have hx : xs = [] := by
      cases xs with
      | nil => rfl
      | cons x l => have := h.ad (by simp); cases this
    subst hx
    have heq := fun (w : World) => Lib.run_eql_slice_nil (P := Tryz.prog) w 22 79 none 0 c 0 0 Tryz.underlying22
    clear h
    go_enter Tryz.func50, Tryz.ntmps50
    go_wp2
    go_ret
    exact ⟨_, rfl, World.ownsRow_nil _ _ _ _, Below.refl _ _⟩
  | some ad =>
    have heq := fun (w : World) => Lib.run_eql_slice_nil (P := Tryz.prog) w 22 79 (some ad) xs.length c 0 0 Tryz.underlying22
    have hnews : ∀ j u, (xs.flatMap encE)[j]? = some u → w.cell? (ad.add j) = some u := by
      intro j u hu
      have hj := (List.getElem?_eq_some_iff.1 hu).1
      rw [length_flatMap lenE] at hj
      have hp : 0 < xs.length := by cases xs <;> simp at *
      have := h.ad hp
      simp at this; subst this
      exact slAt_flat lenE h j u hu
    have hlen : (xs.flatMap encE).length = xs.length * 3 := length_flatMap lenE xs
    have h1 : ∀ u ∈ xs.flatMap encE, u.oneCell' = true := by
      intro u hu
      obtain ⟨x, _, hx⟩ := List.mem_flatMap.1 hu
      simp [encE] at hx
      rcases hx with rfl | rfl | rfl <;> rfl
    have HN := Lib.hid hnews; have HL := Lib.hid hlen; have H1 := Lib.hid h1
    clear h hnews hlen h1
    generalize xs.flatMap encE = news at *
    go_enter Tryz.func50, Tryz.ntmps50
    go_wp2_with (at_builtin; refine wpList_app rfl _ _ _ rfl rowE ((Below.refl w.heap.size w).alloc (Nat.le_refl _) _) (by simp) rfl (World.ownsRow_made w #[] 0 (Nat.le_refl _) (by decide) (by simp)) ad xs.length c news rfl HL.out (fun j u hu => cell_alloc_of (HN.out j u hu)) H1.out (by omega) (by unfold maxLen; omega) ?_; intro v' w1 hown1 hb1 _)
    go_ret
    exact ⟨_, rfl, by simpa using hown1, hb1⟩

set_option maxRecDepth 100000 in
theorem cloneS_any {a : Option Addr} {b off c : Nat} {xs : List S} {w : World} (h : SlAt encS 2 w a b off xs) (hl : xs.length ≤ 1000000) :
    Calls Tryz.prog 57 #[.slice a xs.length c] w fun e w' => ∃ v, e = .returned v ∧ w'.ownsRow w.heap.size 92 2 v xs.length (xs.flatMap encS) ∧ Below w.heap.size w w' := by
  cases a with
  | none =>
    have hx : xs = [] := by
      cases xs with
      | nil => rfl
      | cons x l => have := h.ad (by simp); cases this
    subst hx
    have heq := fun (w : World) => Lib.run_eql_slice_nil (P := Tryz.prog) w 46 92 none 0 c 0 0 Tryz.underlying46
    clear h
    go_enter Tryz.func57, Tryz.ntmps57
    go_wp2
    go_ret
    exact ⟨_, rfl, World.ownsRow_nil _ _ _ _, Below.refl _ _⟩
  | some ad =>
    have heq := fun (w : World) => Lib.run_eql_slice_nil (P := Tryz.prog) w 46 92 (some ad) xs.length c 0 0 Tryz.underlying46
    have hnews : ∀ j u, (xs.flatMap encS)[j]? = some u → w.cell? (ad.add j) = some u := by
      intro j u hu
      have hj := (List.getElem?_eq_some_iff.1 hu).1
      rw [length_flatMap lenS] at hj
      have hp : 0 < xs.length := by cases xs <;> simp at *
      have := h.ad hp
      simp at this; subst this
      exact slAt_flat lenS h j u hu
    have hlen : (xs.flatMap encS).length = xs.length * 2 := length_flatMap lenS xs
    have h1 : ∀ u ∈ xs.flatMap encS, u.oneCell' = true := by
      intro u hu
      obtain ⟨x, _, hx⟩ := List.mem_flatMap.1 hu
      simp [encS] at hx
      rcases hx with rfl | rfl <;> rfl
    have HN := Lib.hid hnews; have HL := Lib.hid hlen; have H1 := Lib.hid h1
    clear h hnews hlen h1
    generalize xs.flatMap encS = news at *
    go_enter Tryz.func57, Tryz.ntmps57
    go_wp2_with (at_builtin; refine wpList_app rfl _ _ _ rfl rowS ((Below.refl w.heap.size w).alloc (Nat.le_refl _) _) (by simp) rfl (World.ownsRow_made w #[] 0 (Nat.le_refl _) (by decide) (by simp)) ad xs.length c news rfl HL.out (fun j u hu => cell_alloc_of (HN.out j u hu)) H1.out (by omega) (by unfold maxLen; omega) ?_; intro v' w1 hown1 hb1 _)
    go_ret
    exact ⟨_, rfl, by simpa using hown1, hb1⟩

end Go.Proofs.YtkmljelgogcobaaGreatDoor

namespace Go.Proofs.YtkmljelgogcobaaGreatDoor
open Go.RowKit Pl

theorem eqlE (x y : E) (w : World) : (binOp .eql 79 (.agg #[.int .i64 x.1, .int .i64 x.2.1, .int .i64 x.2.2]) (.agg #[.int .i64 y.1, .int .i64 y.2.1, .int .i64 y.2.2])).run Tryz.prog w = .ok (.bool (decide (x = y))) w := by
  have u3 := Tryz.underlying3
  have a3 := Tryz.isAgg3
  have z3 := Tryz.sizeOf3
  have hS : Tryz.prog.underlying 79 = some (.struct (Tryz.prog.fieldsOf 79)) := by kernel_rfl
  have hp : Tryz.prog.stoodInHeld 79 = false := by kernel_rfl
  rw [run_eql_struct, show (10000 : Nat) = 9999 + 1 from rfl, run_equalIn_agg w 9999 79 _ _ hS hp]
  simp only [Program.fieldsOf, Tryz.underlying79]
  go_simp
  obtain ⟨x1, x2, x3⟩ := x; obtain ⟨y1, y2, y3⟩ := y
  by_cases h1 : x1 = y1 <;> by_cases h2 : x2 = y2 <;> by_cases h3 : x3 = y3 <;> simp [h1, h2, h3]

theorem neqE (x y : E) (w : World) : (binOp .neq 79 (.agg #[.int .i64 x.1, .int .i64 x.2.1, .int .i64 x.2.2]) (.agg #[.int .i64 y.1, .int .i64 y.2.1, .int .i64 y.2.2])).run Tryz.prog w = .ok (.bool (!decide (x = y))) w := by
  have h := eqlE x y w
  rw [run_eql_struct] at h
  rw [run_neq_struct]
  cases hr : (Op.equalIn 10000 79 (.agg #[.int .i64 x.1, .int .i64 x.2.1, .int .i64 x.2.2]) (.agg #[.int .i64 y.1, .int .i64 y.2.1, .int .i64 y.2.2])).run Tryz.prog w with
  | ok b w' => rw [hr] at h; simp [Result.andThen] at h ⊢; exact ⟨h.1, h.2⟩
  | halt b w' => rw [hr] at h; simp [Result.andThen] at h

theorem guardE : Tryz.prog.eqGuardType Tryz.prog.depth 79 = false := by kernel_rfl

section
variable {α : Type} {enc : α → List Value} {k : Nat} {w : World} {base g n cap : Nat} {e : TypeId} {xs : List α}

/-- A row of the call's own, whose place is known, reads as a list. -/
theorem slAt_row (hk : ∀ x, (enc x).length = k) (h : w.ownsRow base e k (.slice (some ⟨g, 0, none⟩) n cap) xs.length (xs.flatMap enc)) : SlAt enc k w (some ⟨g, 0, none⟩) g 0 xs := by
  obtain ⟨a, c, b, hv, _, _, hs, _⟩ := slAt_own hk h
  simp only [Value.slice.injEq] at hv
  obtain ⟨rfl, _, _⟩ := hv
  by_cases h0 : 0 < xs.length
  · have := hs.ad h0
    simp at this; subst this
    exact hs
  · have : xs = [] := List.eq_nil_of_length_eq_zero (by omega)
    subst this
    exact slAt_nil _ _ _ _

theorem flat_set (hk : ∀ x, (enc x).length = k) : ∀ (xs : List α) (i : Nat) (x : α), i < xs.length → (xs.set i x).flatMap enc = (xs.flatMap enc).take (i * k) ++ enc x ++ (xs.flatMap enc).drop (i * k + k)
  | [], i, x, h => by simp at h
  | y :: xs, 0, x, _ => by
    simp only [List.set_cons_zero, List.flatMap_cons, Nat.zero_mul, List.take_zero, List.nil_append, Nat.zero_add]
    rw [List.drop_append_of_le_length (by rw [hk]; omega), List.drop_of_length_le (by rw [hk]; omega), List.nil_append]
  | y :: xs, i + 1, x, h => by
    simp only [List.set_cons_succ, List.flatMap_cons]
    rw [flat_set hk xs i x (by simpa using h)]
    rw [Nat.add_mul, Nat.one_mul, List.take_append, List.drop_append, hk]
    rw [List.take_of_length_le (l := enc y) (by rw [hk]; omega), List.drop_of_length_le (l := enc y) (by rw [hk]; omega)]
    rw [show i * k + k - k = i * k by omega, show i * k + k + k - k = i * k + k by omega]
    simp

end

theorem row_frozen {w : World} {base g n m cap k : Nat} {e : TypeId} {xs : List Value} (h : w.ownsRow base e k (.slice (some ⟨g, 0, none⟩) n cap) m xs) (j : Nat) : w.frozen? ⟨g, j, none⟩ = false := by
  rcases h.2 with ⟨h', _⟩ | ⟨g', cap', cur, h', hb, hg, hnc, hcm, hcs, htake⟩
  · simp at h'
  · simp only [Value.slice.injEq, Option.some.injEq, Addr.mk.injEq, and_true] at h'
    obtain ⟨rfl, rfl, rfl⟩ := h'
    simp [World.frozen?, hg]

theorem set3 {l : List Value} {i : Nat} {a b c : Value} (h : i * 3 + 3 ≤ l.length) : ((l.set (i * 3) a).set (i * 3 + 1) b).set (i * 3 + 2) c = l.take (i * 3) ++ [a, b, c] ++ l.drop (i * 3 + 3) := by
  apply List.ext_getElem?
  intro j
  simp only [List.getElem?_set, List.length_set, List.append_assoc]
  by_cases h1 : j < i * 3
  · rw [if_neg (by omega), if_neg (by omega), if_neg (by omega), List.getElem?_append_left (by simp; omega), List.getElem?_take, if_pos h1]
  · rw [List.getElem?_append_right (by simp; omega)]
    simp only [List.length_take, Nat.min_eq_left (show i * 3 ≤ l.length by omega)]
    by_cases h2 : j = i * 3
    · subst h2; rw [if_neg (by omega), if_neg (by omega), if_pos rfl, if_pos (by omega)]; simp
    · by_cases h3 : j = i * 3 + 1
      · subst h3; rw [if_neg (by omega), if_pos rfl, if_pos (by omega)]; rw [show i * 3 + 1 - i * 3 = 1 by omega]; rfl
      · by_cases h4 : j = i * 3 + 2
        · subst h4; rw [if_pos rfl, if_pos (by omega), show i * 3 + 2 - i * 3 = 2 by omega]; rfl
        · rw [if_neg (by omega), if_neg (by omega), if_neg (by omega)]
          rw [show j - i * 3 = (j - (i * 3 + 3)) + 1 + 1 + 1 by omega]
          simp only [List.cons_append, List.nil_append, List.getElem?_cons_succ, List.getElem?_drop]
          congr 1; omega

/-- 's[i] = x', s an edge row of the call's own. -/
theorem ownE_set {w : World} {base g n cap : Nat} {e : TypeId} {xs : List E} (h : w.ownsRow base e 3 (.slice (some ⟨g, 0, none⟩) n cap) xs.length (xs.flatMap encE)) (hn : n = xs.length) (i : Nat) (x : E) (hi : i < xs.length) :
    (((w.setCell ⟨g, i * 3, none⟩ (.int .i64 x.1)).setCell ⟨g, i * 3 + 1, none⟩ (.int .i64 x.2.1)).setCell ⟨g, i * 3 + 2, none⟩ (.int .i64 x.2.2)).ownsRow base e 3 (.slice (some ⟨g, 0, none⟩) n cap) (xs.set i x).length ((xs.set i x).flatMap encE) := by
  subst hn
  have h1 := ((h.stored (i * 3) (.int .i64 x.1)).1.stored (i * 3 + 1) (.int .i64 x.2.1)).1.stored (i * 3 + 2) (.int .i64 x.2.2)
  rw [set3 (by rw [length_flatMap lenE]; omega)] at h1
  replace h1 := h1.1
  rw [flat_set lenE xs i x hi, List.length_set]
  exact h1

theorem below_set3 {w0 w : World} {B g i : Nat} {a b c : Value} (h : Below B w0 w) (hg : B ≤ g) : Below B w0 (((w.setCell ⟨g, i, none⟩ a).setCell ⟨g, i + 1, none⟩ b).setCell ⟨g, i + 2, none⟩ c) :=
  ((h.setCell hg _).setCell hg _).setCell hg _

end Go.Proofs.YtkmljelgogcobaaGreatDoor

/-
  Lemmas.
-/
import Derived.Test.YtbaccmlfnbgehaaGreatDoorGKit
import Derived.Outline
import Derived.Deep.QuietTactic
import Derived.BigQuiet
import Derived.IntWalk
import Derived.Test.YtbaccmlfnbgehaaGreatDoorGPl1
namespace Go.Proofs.YtbaccmlfnbgehaaGreatDoor
open Go.RowKit Pl
theorem slAt_flat {α : Type} {enc : α → List Value} {k : Nat} {w : World} {a : Option Addr} {b off : Nat} {xs : List α} (hk : ∀ x, (enc x).length = k) (h : SlAt enc k w a b off xs) (j : Nat) (u : Value) (hu : (xs.flatMap enc)[j]? = some u) :
    w.cell? ((⟨b, off, none⟩ : Addr).add j) = some u := by
  have hj := (List.getElem?_eq_some_iff.1 hu).1
  rw [length_flatMap hk] at hj
  have hk0 : 0 < k := by
    rcases Nat.eq_zero_or_pos k with rfl | h
    · simp at hj
    · exact h
  have hi : j / k < xs.length := by rw [Nat.div_lt_iff_lt_mul hk0]; exact hj
  obtain ⟨x, hx⟩ := getElem?_of_lt hi
  have hm : j % k < (enc x).length := by rw [hk]; exact Nat.mod_lt _ hk0
  have h1 := getElem?_flatMap hk xs (j / k) x hx (j % k) _ (List.getElem?_eq_getElem hm)
  rw [show j / k * k + j % k = j from Nat.div_add_mod' j k] at h1
  rw [hu] at h1
  have h2 := h.cell (j / k) x hx (j % k) u (by rw [List.getElem?_eq_getElem hm, ← h1])
  rw [show off + j / k * k + j % k = off + j by rw [Nat.add_assoc, Nat.div_add_mod']] at h2
  have hadd : (⟨b, off, none⟩ : Addr).add j = ⟨b, off + j, none⟩ := by unfold Addr.add; split <;> simp_all
  rw [hadd]; exact h2
theorem cell_alloc_of {w : World} {o : Obj} {a : Addr} {u : Value} (h : w.cell? a = some u) : (w.alloc o).cell? a = some u := by
  rw [World.cell?_alloc_old _ _ _ (Nat.ne_of_lt (World.block_lt_of_cell? _ _ h))]; exact h
set_option maxRecDepth 100000 in
theorem cloneE_any {a : Option Addr} {b off c : Nat} {xs : List E} {w : World} (h : SlAt encE 3 w a b off xs) (hl : xs.length ≤ 1000000) :
    Calls Tryz.prog 140 #[.slice a xs.length c] w fun e w' => ∃ v, e = .returned v ∧ w'.ownsRow w.heap.size 71 3 v xs.length (xs.flatMap encE) ∧ Below w.heap.size w w' := by
  cases a with
  | none =>
    have hx : xs = [] := by
      cases xs with
      | nil => rfl
      | cons x l => have := h.ad (by simp); cases this
    subst hx
    have heq := fun (w : World) => Lib.run_eql_slice_nil (P := Tryz.prog) w 22 71 none 0 c 0 0 Tryz.underlying22
    clear h
    go_enter Tryz.func140, Tryz.ntmps140
    go_wp2
    go_ret
    exact ⟨_, rfl, World.ownsRow_nil _ _ _ _, Below.refl _ _⟩
  | some ad =>
    have heq := fun (w : World) => Lib.run_eql_slice_nil (P := Tryz.prog) w 22 71 (some ad) xs.length c 0 0 Tryz.underlying22
    have hnews : ∀ j u, (xs.flatMap encE)[j]? = some u → w.cell? (ad.add j) = some u := by
      intro j u hu
      have hj := (List.getElem?_eq_some_iff.1 hu).1
      rw [length_flatMap lenE] at hj
      have hp : 0 < xs.length := by cases xs <;> simp at *
      have := h.ad hp
      simp at this; subst this
      exact slAt_flat lenE h j u hu
    have hlen : (xs.flatMap encE).length = xs.length * 3 := length_flatMap lenE xs
    have h1 : ∀ u ∈ xs.flatMap encE, u.oneCell' = true := by
      intro u hu
      obtain ⟨x, _, hx⟩ := List.mem_flatMap.1 hu
      simp [encE] at hx
      rcases hx with rfl | rfl | rfl <;> rfl
    have HN := Lib.hid hnews; have HL := Lib.hid hlen; have H1 := Lib.hid h1
    clear h hnews hlen h1
    generalize xs.flatMap encE = news at *
    go_enter Tryz.func140, Tryz.ntmps140
    go_wp2_with (at_builtin; refine wpList_app rfl _ _ _ rfl rowE ((Below.refl w.heap.size w).alloc (Nat.le_refl _) _) (by simp) rfl (World.ownsRow_made w #[] 0 (Nat.le_refl _) (by decide) (by simp)) ad xs.length c news rfl HL.out (fun j u hu => cell_alloc_of (HN.out j u hu)) H1.out (by omega) (by unfold maxLen; omega) ?_; intro v' w1 hown1 hb1 _)
    go_ret
    exact ⟨_, rfl, by simpa using hown1, hb1⟩
end Go.Proofs.YtbaccmlfnbgehaaGreatDoor
namespace Go.Proofs.YtbaccmlfnbgehaaGreatDoor
open Go.RowKit Pl
theorem eqlE (x y : E) (w : World) : (binOp .eql 71 (.agg #[.int .i64 x.1, .int .i64 x.2.1, .int .i64 x.2.2]) (.agg #[.int .i64 y.1, .int .i64 y.2.1, .int .i64 y.2.2])).run Tryz.prog w = .ok (.bool (decide (x = y))) w := by
  have u3 := Tryz.underlying3
  have a3 := Tryz.isAgg3
  have z3 := Tryz.sizeOf3
  have hS : Tryz.prog.underlying 71 = some (.struct (Tryz.prog.fieldsOf 71)) := by kernel_rfl
  have hp : Tryz.prog.stoodInHeld 71 = false := by kernel_rfl
  rw [run_eql_struct, show (10000 : Nat) = 9999 + 1 from rfl, run_equalIn_agg w 9999 71 _ _ hS hp]
  simp only [Program.fieldsOf, Tryz.underlying71]
  go_simp
  obtain ⟨x1, x2, x3⟩ := x; obtain ⟨y1, y2, y3⟩ := y
  by_cases h1 : x1 = y1 <;> by_cases h2 : x2 = y2 <;> by_cases h3 : x3 = y3 <;> simp [h1, h2, h3]
theorem neqE (x y : E) (w : World) : (binOp .neq 71 (.agg #[.int .i64 x.1, .int .i64 x.2.1, .int .i64 x.2.2]) (.agg #[.int .i64 y.1, .int .i64 y.2.1, .int .i64 y.2.2])).run Tryz.prog w = .ok (.bool (!decide (x = y))) w := by
  have h := eqlE x y w
  rw [run_eql_struct] at h
  rw [run_neq_struct]
  cases hr : (Op.equalIn 10000 71 (.agg #[.int .i64 x.1, .int .i64 x.2.1, .int .i64 x.2.2]) (.agg #[.int .i64 y.1, .int .i64 y.2.1, .int .i64 y.2.2])).run Tryz.prog w with
  | ok b w' => rw [hr] at h; simp [Result.andThen] at h ⊢; exact ⟨h.1, h.2⟩
  | halt b w' => rw [hr] at h; simp [Result.andThen] at h
theorem guardE : Tryz.prog.eqGuardType Tryz.prog.depth 71 = false := by kernel_rfl
section
variable {α : Type} {enc : α → List Value} {k : Nat} {w : World} {base g n cap : Nat} {e : TypeId} {xs : List α}
theorem slAt_row (hk : ∀ x, (enc x).length = k) (h : w.ownsRow base e k (.slice (some ⟨g, 0, none⟩) n cap) xs.length (xs.flatMap enc)) : SlAt enc k w (some ⟨g, 0, none⟩) g 0 xs := by
  obtain ⟨a, c, b, hv, _, _, hs, _⟩ := slAt_own hk h
  simp only [Value.slice.injEq] at hv
  obtain ⟨rfl, _, _⟩ := hv
  by_cases h0 : 0 < xs.length
  · have := hs.ad h0
    simp at this; subst this
    exact hs
  · have : xs = [] := List.eq_nil_of_length_eq_zero (by omega)
    subst this
    exact slAt_nil _ _ _ _
theorem flat_set (hk : ∀ x, (enc x).length = k) : ∀ (xs : List α) (i : Nat) (x : α), i < xs.length → (xs.set i x).flatMap enc = (xs.flatMap enc).take (i * k) ++ enc x ++ (xs.flatMap enc).drop (i * k + k)
  | [], i, x, h => by simp at h
  | y :: xs, 0, x, _ => by
    simp only [List.set_cons_zero, List.flatMap_cons, Nat.zero_mul, List.take_zero, List.nil_append, Nat.zero_add]
    rw [List.drop_append_of_le_length (by rw [hk]; omega), List.drop_of_length_le (by rw [hk]; omega), List.nil_append]
  | y :: xs, i + 1, x, h => by
    simp only [List.set_cons_succ, List.flatMap_cons]
    rw [flat_set hk xs i x (by simpa using h)]
    rw [Nat.add_mul, Nat.one_mul, List.take_append, List.drop_append, hk]
    rw [List.take_of_length_le (l := enc y) (by rw [hk]; omega), List.drop_of_length_le (l := enc y) (by rw [hk]; omega)]
    rw [show i * k + k - k = i * k by omega, show i * k + k + k - k = i * k + k by omega]
    simp
end
theorem row_frozen {w : World} {base g n m cap k : Nat} {e : TypeId} {xs : List Value} (h : w.ownsRow base e k (.slice (some ⟨g, 0, none⟩) n cap) m xs) (j : Nat) : w.frozen? ⟨g, j, none⟩ = false := by
  rcases h.2 with ⟨h', _⟩ | ⟨g', cap', cur, h', hb, hg, hnc, hcm, hcs, htake⟩
  · simp at h'
  · simp only [Value.slice.injEq, Option.some.injEq, Addr.mk.injEq, and_true] at h'
    obtain ⟨rfl, rfl, rfl⟩ := h'
    simp [World.frozen?, hg]
theorem set3 {l : List Value} {i : Nat} {a b c : Value} (h : i * 3 + 3 ≤ l.length) : ((l.set (i * 3) a).set (i * 3 + 1) b).set (i * 3 + 2) c = l.take (i * 3) ++ [a, b, c] ++ l.drop (i * 3 + 3) := by
  apply List.ext_getElem?
  intro j
  simp only [List.getElem?_set, List.length_set, List.append_assoc]
  by_cases h1 : j < i * 3
  · rw [if_neg (by omega), if_neg (by omega), if_neg (by omega), List.getElem?_append_left (by simp; omega), List.getElem?_take, if_pos h1]
  · rw [List.getElem?_append_right (by simp; omega)]
    simp only [List.length_take, Nat.min_eq_left (show i * 3 ≤ l.length by omega)]
    by_cases h2 : j = i * 3
    · subst h2; rw [if_neg (by omega), if_neg (by omega), if_pos rfl, if_pos (by omega)]; simp
    · by_cases h3 : j = i * 3 + 1
      · subst h3; rw [if_neg (by omega), if_pos rfl, if_pos (by omega)]; rw [show i * 3 + 1 - i * 3 = 1 by omega]; rfl
      · by_cases h4 : j = i * 3 + 2
        · subst h4; rw [if_pos rfl, if_pos (by omega), show i * 3 + 2 - i * 3 = 2 by omega]; rfl
        · rw [if_neg (by omega), if_neg (by omega), if_neg (by omega)]
          rw [show j - i * 3 = (j - (i * 3 + 3)) + 1 + 1 + 1 by omega]
          simp only [List.cons_append, List.nil_append, List.getElem?_cons_succ, List.getElem?_drop]
          congr 1; omega
theorem ownE_set {w : World} {base g n cap : Nat} {e : TypeId} {xs : List E} (h : w.ownsRow base e 3 (.slice (some ⟨g, 0, none⟩) n cap) xs.length (xs.flatMap encE)) (hn : n = xs.length) (i : Nat) (x : E) (hi : i < xs.length) :
    (((w.setCell ⟨g, i * 3, none⟩ (.int .i64 x.1)).setCell ⟨g, i * 3 + 1, none⟩ (.int .i64 x.2.1)).setCell ⟨g, i * 3 + 2, none⟩ (.int .i64 x.2.2)).ownsRow base e 3 (.slice (some ⟨g, 0, none⟩) n cap) (xs.set i x).length ((xs.set i x).flatMap encE) := by
  subst hn
  have h1 := ((h.stored (i * 3) (.int .i64 x.1)).1.stored (i * 3 + 1) (.int .i64 x.2.1)).1.stored (i * 3 + 2) (.int .i64 x.2.2)
  rw [set3 (by rw [length_flatMap lenE]; omega)] at h1
  replace h1 := h1.1
  rw [flat_set lenE xs i x hi, List.length_set]
  exact h1
theorem below_set3 {w0 w : World} {B g i : Nat} {a b c : Value} (h : Below B w0 w) (hg : B ≤ g) : Below B w0 (((w.setCell ⟨g, i, none⟩ a).setCell ⟨g, i + 1, none⟩ b).setCell ⟨g, i + 2, none⟩ c) :=
  ((h.setCell hg _).setCell hg _).setCell hg _
end Go.Proofs.YtbaccmlfnbgehaaGreatDoor
namespace Go.Proofs.YtbaccmlfnbgehaaGreatDoor
open Go.RowKit Pl
theorem slAt_sub {α : Type} {enc : α → List Value} {k : Nat} {w : World} {a : Option Addr} {b off : Nat} {xs : List α} (h : SlAt enc k w a b off xs) (lo m : Nat) :
    SlAt enc k w (some ⟨b, off + lo * k, none⟩) b (off + lo * k) ((xs.drop lo).take m) where
  ad _ := rfl
  lt hl := h.lt (by simp at hl; omega)
  cell i x hx j u hu := by
    rw [List.getElem?_take] at hx
    split at hx
    · rw [List.getElem?_drop] at hx
      have := h.cell (lo + i) x hx j u hu
      rw [Nat.add_mul] at this
      rw [show off + lo * k + i * k + j = off + (lo * k + i * k) + j by omega]
      exact this
    · cases hx
structure RowsAt (w : World) (va vf : Value) (n : Nat) (all : List S) (fr : Nat → Nat) : Prop where
  alls : ∃ a c b off, va = .slice a all.length c ∧ all.length ≤ c ∧ c ≤ maxLen ∧ SlAt encS 2 w a b off all
  from_ : ∃ b, vf = .slice (some ⟨b, 0, none⟩) (n + 1) (n + 1) ∧ b < w.heap.size ∧ ∀ i, i ≤ n → w.cell? ⟨b, i, none⟩ = some (.int .i64 (fr i))
  mono : ∀ i, i < n → fr i ≤ fr (i + 1)
  top : ∀ i, i ≤ n → fr i ≤ all.length
  small : all.length ≤ 10000
  n_le : n ≤ 1000
def rowOf (all : List S) (fr : Nat → Nat) (i : Nat) : List S := (all.drop (fr i)).take (fr (i + 1) - fr i)
theorem RowsAt.below {w w' : World} {va vf : Value} {n : Nat} {all : List S} {fr : Nat → Nat} (h : RowsAt w va vf n all fr) (hB : Below w.heap.size w w') : RowsAt w' va vf n all fr := by
  obtain ⟨a, c, b, off, h1, h2, h3, h4⟩ := h.alls
  obtain ⟨b', h5, h6, h7⟩ := h.from_
  exact ⟨⟨a, c, b, off, h1, h2, h3, h4.below hB (Nat.le_refl _)⟩, ⟨b', h5, Nat.lt_of_lt_of_le h6 hB.size, fun i hi => by rw [hB.cell (p := ⟨b', i, none⟩) h6]; exact h7 i hi⟩, h.mono, h.top, h.small, h.n_le⟩
def StepsRet (w' : World) (e : Ending) (ss : List S) : Prop := ∃ a c b off, e = .returned (.slice a ss.length c) ∧ ss.length ≤ c ∧ c ≤ maxLen ∧ SlAt encS 2 w' a b off ss
theorem stepsRet_nil {w' : World} : StepsRet w' (.returned (.slice none 0 0)) [] := ⟨none, 0, 0, 0, rfl, Nat.le_refl _, by unfold maxLen; omega, slAt_nil _ _ _ _⟩
set_option maxRecDepth 100000 in
theorem row_out {w0 w : World} (va vf : Value) {n : Nat} {all : List S} {fr : Nat → Nat} (h : RowsAt w0 va vf n all fr) (_hB : Below w0.heap.size w0 w) (i : Int) (hi : i < 0 ∨ (n : Int) ≤ i) :
    Calls Tryz.prog 163 #[.agg #[va, vf], .int .i64 i] w fun e w' => StepsRet w0 e [] ∧ Below w.heap.size w w' := by
  obtain ⟨a, c, b, off, rfl, h2, h3, h4⟩ := h.alls
  obtain ⟨b', rfl, h6, h7⟩ := h.from_
  have hn := h.n_le
  clear h h4 h7 _hB
  rcases hi with hi | hi
  · go_enter Tryz.func163, Tryz.ntmps163
    go_wp2
    go_ret
    exact ⟨stepsRet_nil, (Below.refl _ _).alloc (Nat.le_refl _) _⟩
  · have hi0 : ¬ i < 0 := by omega
    go_enter Tryz.func163, Tryz.ntmps163
    go_wp2
    go_ret
    exact ⟨stepsRet_nil, (Below.refl _ _).alloc (Nat.le_refl _) _⟩
set_option maxRecDepth 100000 in
theorem row_in {w0 w : World} (va vf : Value) {n : Nat} {all : List S} {fr : Nat → Nat} (h : RowsAt w0 va vf n all fr) (hB : Below w0.heap.size w0 w) (i : Nat) (hi : i < n) :
    Calls Tryz.prog 163 #[.agg #[va, vf], .int .i64 i] w fun e w' => StepsRet w0 e (rowOf all fr i) ∧ Below w.heap.size w w' := by
  obtain ⟨a, c, b, off, rfl, h2, h3, h4⟩ := h.alls
  obtain ⟨b', rfl, h6, h7⟩ := h.from_
  have hn := h.n_le
  have c0 : w.cell? ⟨b', i, none⟩ = _ := (hB.cell (p := ⟨b', i, none⟩) h6).trans (h7 i (by omega))
  have c1 : w.cell? ⟨b', i + 1, none⟩ = _ := (hB.cell (p := ⟨b', i + 1, none⟩) h6).trans (h7 (i + 1) (by omega))
  replace h6 : b' < w.heap.size := Nat.lt_of_lt_of_le h6 hB.size
  have hm := h.mono i hi
  have ht := h.top (i + 1) (by omega)
  have hs := h.small
  unfold rowOf
  generalize fr i = lo at *
  generalize fr (i + 1) = hi' at *
  have hlen : ((all.drop lo).take (hi' - lo)).length = hi' - lo := by simp; omega
  have k1 : (i : Int) < (n : Int) := by omega
  have k2 : (0 : Int) ≤ (i : Int) + 1 := by omega
  have k6 : (i : Int) < (n : Int) + 1 := by omega
  have k3 : IntKind.i64.wrap ((i : Int) + 1) = (i : Int) + 1 := IntWalk.i64_in _ (by omega)
  have k4 : ((i : Int) + 1).toNat = i + 1 := by omega
  have k7 : (lo : Int) ≤ (hi' : Int) := by omega
  have k8 : (hi' : Int) ≤ (c : Int) := by omega
  by_cases heq : lo = hi'
  · subst heq
    have hrow : (all.drop lo).take (lo - lo) = [] := by simp
    rw [hrow]
    clear h h4 h7 hlen hrow hB
    go_enter Tryz.func163, Tryz.ntmps163
    go_wp2_with fail
    go_quiet (fail)
    go_wp2
    all_goals
      go_ret
      exact ⟨⟨a, _, 0, 0, rfl, Nat.le_refl _, by unfold maxLen; omega, slAt_nil _ _ _ _⟩, below_drewN ((Below.refl _ _).alloc (Nat.le_refl _) _) _⟩
  · obtain rfl := h4.ad (by omega)
    have k9 : (lo : Int) < (hi' : Int) := by omega
    have k10 : (lo : Int) < (c : Int) := by omega
    have k11 : lo < hi' := by omega
    have H4 := Lib.hid h4; have HL := Lib.hid hlen
    clear h h4 h7 hlen hB
    go_enter Tryz.func163, Tryz.ntmps163
    go_wp2_with fail
    go_quiet (fail)
    go_wp2
    go_ret
    refine ⟨⟨some ⟨b, off + lo * 2, none⟩, hi' - lo, b, off + lo * 2, ?_, by rw [HL.out]; exact Nat.le_refl _, by omega, slAt_sub H4.out lo (hi' - lo)⟩, below_drewN ((Below.refl _ _).alloc (Nat.le_refl _) _) _⟩
    rw [HL.out]
    first | rfl | (simp; done)
end Go.Proofs.YtbaccmlfnbgehaaGreatDoor
namespace Go.Proofs.YtbaccmlfnbgehaaGreatDoor
open Go.RowKit Pl
def stO (x : E) : S := (x.2.1, x.2.2)
def stI (x : E) : S := (x.2.1, x.1)
structure GraphAt (w : World) (gb : Nat) (s : Lts) : Prop where
  right : s.Right
  srt : Srt ltE s.es
  blk : ∃ ve oa of ia if_ : Value, w.heap[gb]? = some (.cells #[.int .i64 s.st, .int .i64 s.lb, .int .i64 s.s0, ve, oa, of, ia, if_] 179 (0, 0)) ∧
    (∃ a c b off, ve = .slice a s.es.length c ∧ s.es.length ≤ c ∧ SlAt encE 3 w a b off s.es) ∧
    RowsAt w oa of s.st.toNat (s.es.map stO) (frK (fun x => x.1) s.es) ∧
    RowsAt w ia if_ s.st.toNat ((nf ltB s.es).map stI) (frK (fun x => x.2.2) (nf ltB s.es))
theorem GraphAt.lt {w : World} {gb : Nat} {s : Lts} (h : GraphAt w gb s) : gb < w.heap.size := by
  obtain ⟨ve, oa, of, ia, if_, h1, _⟩ := h.blk
  exact (Array.getElem?_eq_some_iff.1 h1).1
theorem GraphAt.below {w w' : World} {gb : Nat} {s : Lts} (h : GraphAt w gb s) (hB : Below w.heap.size w w') : GraphAt w' gb s := by
  obtain ⟨ve, oa, of, ia, if_, h1, ⟨a, c, b, off, h2, h2', h3⟩, h4, h5⟩ := h.blk
  exact ⟨h.right, h.srt, ve, oa, of, ia, if_, by rw [hB.block _ h.lt]; exact h1, ⟨a, c, b, off, h2, h2', h3.below hB (Nat.le_refl _)⟩, h4.below hB, h5.below hB⟩
theorem rowOf_map (key : E → Int) (f : E → S) (l : List E) (h : l.Pairwise (fun a b => key a ≤ key b)) (i : Nat) : rowOf (l.map f) (frK key l) i = (l.filter (fun x => key x == (i : Int))).map f := by
  unfold rowOf
  rw [← List.map_drop, ← List.map_take]
  congr 1
  exact piece i l h
theorem outs_out {s : Lts} (h : s.Right) {i : Int} (hi : i < 0 ∨ s.st ≤ i) : s.outs i = [] := by
  unfold Lts.outs
  have : s.es.filter (fun x => x.1 == i) = [] := by
    rw [List.filter_eq_nil_iff]; intro x hx
    have := offB_false.1 (h.edges x hx)
    simp; omega
  rw [this]; rfl
theorem ins_out {s : Lts} (h : s.Right) {i : Int} (hi : i < 0 ∨ s.st ≤ i) : s.ins i = [] := by
  unfold Lts.ins
  have : (nf ltB s.es).filter (fun x => x.2.2 == i) = [] := by
    rw [List.filter_eq_nil_iff]; intro x hx
    have := offB_false.1 (h.edges x ((mem_nf stoB x s.es).1 hx))
    simp; omega
  rw [this]; rfl
theorem row_outs {w0 w : World} (hB : Below w0.heap.size w0 w) {va vf : Value} {s : Lts} (hr : s.Right) (hs : Srt ltE s.es) (h : RowsAt w0 va vf s.st.toNat (s.es.map stO) (frK (fun x => x.1) s.es)) (i : Int) :
    Calls Tryz.prog 163 #[.agg #[va, vf], .int .i64 i] w fun e w' => StepsRet w0 e (s.outs i) ∧ Below w.heap.size w w' := by
  have h0 := hr.st0
  by_cases hi : i < 0 ∨ s.st ≤ i
  · rw [outs_out hr hi]
    exact row_out va vf h hB i (by omega)
  · obtain ⟨n, rfl⟩ := Int.eq_ofNat_of_zero_le (show 0 ≤ i by omega)
    have := row_in va vf h hB n (by omega)
    rw [rowOf_map (fun x => x.1) stO s.es (srtE_key hs)] at this
    exact this
theorem row_ins {w0 w : World} (hB : Below w0.heap.size w0 w) {va vf : Value} {s : Lts} (hr : s.Right) (h : RowsAt w0 va vf s.st.toNat ((nf ltB s.es).map stI) (frK (fun x => x.2.2) (nf ltB s.es))) (i : Int) :
    Calls Tryz.prog 163 #[.agg #[va, vf], .int .i64 i] w fun e w' => StepsRet w0 e (s.ins i) ∧ Below w.heap.size w w' := by
  have h0 := hr.st0
  by_cases hi : i < 0 ∨ s.st ≤ i
  · rw [ins_out hr hi]
    exact row_out va vf h hB i (by omega)
  · obtain ⟨n, rfl⟩ := Int.eq_ofNat_of_zero_le (show 0 ≤ i by omega)
    have := row_in va vf h hB n (by omega)
    rw [rowOf_map (fun x => x.2.2) stI (nf ltB s.es) (srtB_key (srt_nf stoB _))] at this
    exact this
set_option maxRecDepth 100000 in
theorem each_any {w0 w : World} {gb : Nat} {s : Lts} (h : GraphAt w0 gb s) (hB0 : Below w0.heap.size w0 w) (i : Int) :
    Calls Tryz.prog 132 #[.pointer (some ⟨gb, 0, none⟩), .int .i64 i] w fun e w' => StepsRet w0 e (s.outs i) ∧ Below w.heap.size w w' := by
  obtain ⟨ve, oa, of, ia, if_, h1, _, h4, _⟩ := h.blk
  have h1' := (hB0.block gb h.lt).trans h1
  have c4 : w.cell? ⟨gb, 4, none⟩ = some oa := by simp [World.cell?, h1']
  have c5 : w.cell? ⟨gb, 5, none⟩ = some of := by simp [World.cell?, h1']
  have hR := row_outs hB0 h.right h.srt h4 i
  have HR := Lib.hid hR
  clear h h1 h1' h4 hR hB0
  go_enter Tryz.func132, Tryz.ntmps132
  go_wp2_with (go_at_call 163; refine (HR.out).mono ?_; rintro e w1 ⟨⟨a, c, b, off, rfl, hrest⟩, hB⟩; have HREST := Lib.hid hrest; clear hrest)
  go_ret
  exact ⟨⟨a, c, b, off, rfl, HREST.out⟩, hB⟩
set_option maxRecDepth 100000 in
theorem back_any {w0 w : World} {gb : Nat} {s : Lts} (h : GraphAt w0 gb s) (hB0 : Below w0.heap.size w0 w) (i : Int) :
    Calls Tryz.prog 195 #[.pointer (some ⟨gb, 0, none⟩), .int .i64 i] w fun e w' => StepsRet w0 e (s.ins i) ∧ Below w.heap.size w w' := by
  obtain ⟨ve, oa, of, ia, if_, h1, _, _, h5⟩ := h.blk
  have h1' := (hB0.block gb h.lt).trans h1
  have c4 : w.cell? ⟨gb, 6, none⟩ = some ia := by simp [World.cell?, h1']
  have c5 : w.cell? ⟨gb, 7, none⟩ = some if_ := by simp [World.cell?, h1']
  have hR := row_ins hB0 h.right h5 i
  have HR := Lib.hid hR
  clear h h1 h1' h5 hR hB0
  go_enter Tryz.func195, Tryz.ntmps195
  go_wp2_with (go_at_call 163; refine (HR.out).mono ?_; rintro e w1 ⟨⟨a, c, b, off, rfl, hrest⟩, hB⟩; have HREST := Lib.hid hrest; clear hrest)
  go_ret
  exact ⟨⟨a, c, b, off, rfl, HREST.out⟩, hB⟩
end Go.Proofs.YtbaccmlfnbgehaaGreatDoor

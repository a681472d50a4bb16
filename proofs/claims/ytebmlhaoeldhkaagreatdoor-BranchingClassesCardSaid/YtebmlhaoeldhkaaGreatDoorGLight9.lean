/-
  Lemmas.
-/
import Derived.Test.YtebmlhaoeldhkaaGreatDoorGRefRight
import Derived.Test.YtebmlhaoeldhkaaGreatDoorGBkBoa
import Derived.Test.YtebmlhaoeldhkaaGreatDoorTauI
import Derived.Test.YtebmlhaoeldhkaaGreatDoorGBrP
import Derived.Test.YtebmlhaoeldhkaaGreatDoorGBrQ
import Derived.Test.YtebmlhaoeldhkaaGreatDoorGKeyS
import Derived.Test.YtebmlhaoeldhkaaGreatDoorGPl3
namespace Go.Proofs.YtebmlhaoeldhkaaGreatDoor
open Go.RowKit Pl
open Lib (hid)
theorem refOn_zero (l : ByteArray) (w : World) : Calls Tryz.prog 37 #[.string l, .agg #[.int .i64 0, .int .i64 0, .int .i64 0, .string ⟨#[]⟩]] w fun e w' => e = .returned (.agg #[.int .i64 0, .int .i64 0, .int .i64 0, .string ⟨#[]⟩]) ∧ Below w.heap.size w w' := by
  go_enter Tryz.func37, Tryz.ntmps37
  go_wp2_with fail
  refine bodyPost_ret (v := .agg #[.int .i64 0, .int .i64 0, .int .i64 0, .string ⟨#[]⟩]) (by simp [results, Tryz.results37, go_sem]) rfl ⟨rfl, ((Below.refl _ _).alloc (Nat.le_refl _) _).alloc (by simp) _⟩
set_option maxRecDepth 100000 in
theorem refCheck_yes {s : Lts} (h : s.Right) {a : Option Addr} {b off c : Nat} {w : World} (hS : SlAt encE 3 w a b off s.es) :
    Calls Tryz.prog 38 #[.agg #[.int .i64 s.st, .int .i64 s.lb, .int .i64 s.s0, .slice a s.es.length c]] w fun e w' => e = .returned (.agg #[.int .i64 0, .int .i64 0, .int .i64 0, .string ⟨#[]⟩]) ∧ Below w.heap.size w w' := by
  obtain ⟨el, hel⟩ : ∃ el, el = s.es.length := ⟨_, rfl⟩
  have hR : ∀ V, Below w.heap.size w V → _ := fun V (hV : Below w.heap.size w V) => right_yes (c := c) h (hS.below hV (Nat.le_refl _))
  rw [← hel] at hR ⊢
  obtain ⟨hB0, hE0⟩ := errW w (Obj.cells #[.int .i64 s.st, .int .i64 s.lb, .int .i64 s.s0, .slice a el c] 24)
  have HR := hid (hR _ hB0); have HB0 := hid hB0; have HE0 := hid hE0
  clear hS h hel hR hB0 hE0
  go_enter Tryz.func38, Tryz.ntmps38
  go_wp2_with fail
  refine HR.out.mono ?_
  rintro e w2 ⟨rfl, hB2⟩
  have hx2 := (hB2.block (w.heap.size + 1) (by simp)).trans HE0.out
  have HB2 := hid (HB0.out.trans (hB2.mono HB0.out.size))
  obtain ⟨⟨z0, z1, z2, z3⟩, ⟨f0, f1, f2, f3⟩, zl⟩ := errC hx2
  clear hx2 hB2 HR HB0 HE0
  go_wp2_with fail
  refine bodyPost_ret (v := .agg #[.int .i64 0, .int .i64 0, .int .i64 0, .string ⟨#[]⟩]) (by simp [results, Tryz.results38, go_sem, z0, z1, z2, z3]) rfl ⟨rfl, errS HB2.out _ _ _ _⟩
set_option maxRecDepth 100000 in
theorem refHanded_yes (l : ByteArray) {s : Lts} (h : s.Right) {a : Option Addr} {b off c : Nat} {w : World} (hS : SlAt encE 3 w a b off s.es) :
    Calls Tryz.prog 9 #[.string l, .agg #[.int .i64 s.st, .int .i64 s.lb, .int .i64 s.s0, .slice a s.es.length c]] w fun e w' => e = .returned (.agg #[.int .i64 0, .int .i64 0, .int .i64 0, .string ⟨#[]⟩]) ∧ Below w.heap.size w w' := by
  obtain ⟨hB0, hE0⟩ := errW w (Obj.cells #[.int .i64 s.st, .int .i64 s.lb, .int .i64 s.s0, .slice a s.es.length c] 24)
  have HCK := hid (refCheck_yes (c := c) h (hS.below hB0 (Nat.le_refl _)))
  obtain ⟨el, hel⟩ : ∃ el, el = s.es.length := ⟨_, rfl⟩
  rw [← hel] at HCK hB0 hE0 ⊢
  have HB0 := hid hB0; have HE0 := hid hE0
  have HON := hid (refOn_zero l)
  clear hS h hel hB0 hE0
  go_enter Tryz.func9, Tryz.ntmps9
  go_wp2_with fail
  refine HCK.out.mono ?_
  rintro e w2 ⟨rfl, hB2⟩
  have hx2 := (hB2.block (w.heap.size + 1) (by simp)).trans HE0.out
  have hb2 := HB0.out.trans (hB2.mono HB0.out.size)
  have HX2 := hid hx2; have HB2 := hid hb2
  clear hx2 hb2 hB2 HCK HB0 HE0
  go_wp2_with fail
  refine (HON.out _).mono ?_
  rintro e w3 ⟨rfl, hB3⟩
  have hx3 := (hB3.block _ (Array.getElem?_eq_some_iff.1 HX2.out).1).trans HX2.out
  have HB3 := hid (HB2.out.trans (hB3.mono HB2.out.size))
  obtain ⟨⟨z0, z1, z2, z3⟩, ⟨f0, f1, f2, f3⟩, zl⟩ := errC hx3
  clear hx3 hB3 HX2 HB2 HON
  go_wp2_with fail
  refine bodyPost_ret (v := .agg #[.int .i64 0, .int .i64 0, .int .i64 0, .string ⟨#[]⟩]) (by simp [results, Tryz.results9, go_sem, z0, z1, z2, z3]) rfl ⟨rfl, errS HB3.out _ _ _ _⟩
end Go.Proofs.YtebmlhaoeldhkaaGreatDoor
namespace Go.Proofs.YtebmlhaoeldhkaaGreatDoor
namespace Pl
section
variable {κ : Type} [DecidableEq κ] {key : Nat → κ} {n : Nat}
def rep (key : Nat → κ) (i : Nat) : Nat := ((List.range (i + 1)).find? (fun j => decide (key j = key i))).getD i
theorem rep_some (key : Nat → κ) (i : Nat) : (List.range (i + 1)).find? (fun j => decide (key j = key i)) = some (rep key i) := by
  unfold rep
  cases h : (List.range (i + 1)).find? (fun j => decide (key j = key i)) with
  | none =>
    have := List.find?_eq_none.1 h i (List.mem_range.2 (by omega))
    simp at this
  | some j => rfl
theorem rep_le (key : Nat → κ) (i : Nat) : rep key i ≤ i := by
  have := List.mem_range.1 (List.mem_of_find?_eq_some (rep_some key i)); omega
theorem rep_key (key : Nat → κ) (i : Nat) : key (rep key i) = key i := by
  have := List.find?_some (rep_some key i)
  simpa using this
theorem rep_min {i j : Nat} (h : key j = key i) : rep key i ≤ j := by
  rcases Nat.lt_or_ge i j with h1 | h1
  · exact Nat.le_trans (rep_le key i) (by omega)
  · refine Nat.le_of_not_lt (fun hlt => ?_)
    have h2 := rep_some key i
    rw [List.find?_range_eq_some] at h2
    have := h2.2.2 j hlt
    simp [h] at this
theorem rep_iff {i j : Nat} : rep key i = rep key j ↔ key i = key j := by
  constructor
  · intro h
    have h1 := rep_key key i
    have h2 := rep_key key j
    rw [h] at h1
    exact h1.symm.trans h2
  · intro h
    exact Nat.le_antisymm (rep_min ((rep_key key j).trans h.symm)) (rep_min ((rep_key key i).trans h))
theorem rep_rep (i : Nat) : rep key (rep key i) = rep key i := rep_iff.2 (rep_key key i)
def repL (key : Nat → κ) (n : Nat) : List Int := fl n (fun i => (rep key i : Int))
theorem repL_get {i : Nat} (h : i < n) : (repL key n)[i]? = some (rep key i : Int) := fl_get _ h
theorem repL_take {i : Nat} (h : i ≤ n) : (repL key n).take i = repL key i := by
  apply List.ext_getElem?
  intro j
  rw [List.getElem?_take]
  by_cases hj : j < i
  · rw [if_pos hj, repL_get (by omega), repL_get hj]
  · rw [if_neg hj, List.getElem?_eq_none (by unfold repL; rw [fl_len]; omega)]
theorem mem_rep {i : Nat} {x : Int} : x ∈ dist (repL key i) ↔ ∃ q, q < i ∧ x = (q : Int) ∧ rep key q = q := by
  unfold repL
  rw [mem_dist_fl]
  constructor
  · rintro ⟨p, hp, rfl⟩
    exact ⟨rep key p, Nat.lt_of_le_of_lt (rep_le key p) hp, rfl, rep_rep p⟩
  · rintro ⟨q, hq, rfl, h⟩
    exact ⟨q, hq, by rw [h]⟩
theorem rep_found {i k q : Nat} (hk : (dist (repL key i))[k]? = some (q : Int)) (h : key q = key i) : (rep key i : Int) ∈ dist (repL key i) ∧ (dist (repL key i)).idxOf (rep key i : Int) = k := by
  have hm := List.mem_of_getElem? hk
  obtain ⟨q', hq, e, hr⟩ := mem_rep.1 hm
  obtain rfl : q = q' := by omega
  have h1 : rep key i = q := by rw [← hr]; exact rep_iff.2 h.symm
  rw [h1]
  refine ⟨hm, ?_⟩
  obtain ⟨h2, h3⟩ := List.getElem?_eq_some_iff.1 hk
  rw [← h3]
  exact (nodup_dist (repL key i)).idxOf_getElem k h2
theorem rep_new {i : Nat} (h : ∀ k q : Nat, (dist (repL key i))[k]? = some (q : Int) → key q ≠ key i) : rep key i = i ∧ (rep key i : Int) ∉ dist (repL key i) := by
  have hn : (rep key i : Int) ∉ dist (repL key i) := fun hm => by
    obtain ⟨k, hk⟩ := List.getElem?_of_mem hm
    exact h k _ hk (rep_key key i)
  refine ⟨?_, hn⟩
  rcases Nat.eq_or_lt_of_le (rep_le key i) with e | e
  · exact e
  · exact absurd (mem_rep.2 ⟨rep key i, e, rfl, rep_rep i⟩) hn
end
end Pl
end Go.Proofs.YtebmlhaoeldhkaaGreatDoor
namespace Go.Proofs.YtebmlhaoeldhkaaGreatDoor
namespace Pl
def inertS (s : Lts) (C : Nat → Int) : Lts := ⟨s.st, s.lb, s.s0, s.es.filter (fun x => decide (x.2.1 = 0) && decide (C x.2.2.toNat = C x.1.toNat))⟩
def shareE (C : Nat → Int) (p q : Nat) (l : List S) : List E := (l.filter (fun x => !(decide (x.1 = 0) && decide (C x.2.toNat = C q)))).map (fun x => ((p : Int), x.1, C x.2.toNat))
def sigE (s : Lts) (C : Nat → Int) (G : Nat → Bool) (p n : Nat) : List E := (List.range n).flatMap (fun q => if G q then shareE C p q (s.outs (q : Int)) else [])
def sigR (s : Lts) (C : Nat → Int) (G : Nat → Bool) (p n : Nat) : List S := (nf ltE (sigE s C G p n)).map (fun x => (x.2.1, x.2.2))
section
variable {s : Lts} {C : Nat → Int} {n p q : Nat}
theorem inertS_right (h : s.Right) : (inertS s C).Right := by
  refine ⟨?_, fun x hx => h.edges x (List.mem_filter.1 hx).1⟩
  have h1 := h.head
  have := List.length_filter_le (fun x : E => decide (x.2.1 = 0) && decide (C x.2.2.toNat = C x.1.toNat)) s.es
  unfold HeadBad inertS at *
  simp only
  omega
theorem inertS_srt (h : Srt ltE s.es) : Srt ltE (inertS s C).es := List.Pairwise.sublist List.filter_sublist h
theorem mem_inertS {x y : Nat} : tau (inertS s C) x y ↔ stp s x 0 y ∧ C y = C x := by
  unfold tau inertS stp
  simp only [List.mem_filter, Bool.and_eq_true, decide_eq_true_eq, Int.toNat_natCast]
  constructor
  · rintro ⟨h1, _, h2⟩; exact ⟨h1, h2⟩
  · rintro ⟨h1, h2⟩; exact ⟨h1, trivial, h2⟩
theorem inertS_outs (i : Nat) : (inertS s C).outs (i : Int) = (s.outs (i : Int)).filter (fun y => decide (y.1 = 0) && decide (C y.2.toNat = C i)) := by
  unfold Lts.outs inertS
  simp only
  rw [List.filter_map, List.filter_filter, List.filter_filter]
  congr 1
  apply List.filter_congr
  intro x _
  by_cases e : x.1 = (i : Int)
  · simp [e]
  · have e2 : (x.1 == (i : Int)) = false := by simp [e]
    rw [e2, Bool.false_and, Bool.and_false]
theorem tr_inertS (h : TR (inertS s C) p q) : Via s (fun x => C x = C p) p q := by
  induction h with
  | refl => exact .refl rfl
  | tail _ h2 ih =>
    obtain ⟨h3, h4⟩ := mem_inertS.1 h2
    exact .tail ih h3 (by rw [h4, ih.last])
theorem inertS_via (h : Via s (fun x => C x = C p) p q) : TR (inertS s C) p q := by
  induction h with
  | refl _ => exact .refl
  | tail h1 h2 h3 ih => exact ih.trans (TR.one (mem_inertS.2 ⟨h2, by rw [h3, h1.last]⟩))
theorem mem_sigE {G : Nat → Bool} {x : E} : x ∈ sigE s C G p n ↔ ∃ q, q < n ∧ G q = true ∧ ∃ y ∈ s.outs (q : Int), ¬ (y.1 = 0 ∧ C y.2.toNat = C q) ∧ x = ((p : Int), y.1, C y.2.toNat) := by
  unfold sigE
  simp only [List.mem_flatMap, List.mem_range]
  constructor
  · rintro ⟨q, hq, hx⟩
    by_cases hG : G q = true
    · rw [if_pos hG] at hx
      unfold shareE at hx
      simp only [List.mem_map, List.mem_filter] at hx
      obtain ⟨y, ⟨h1, h2⟩, rfl⟩ := hx
      refine ⟨q, hq, hG, y, h1, fun e => ?_, rfl⟩
      simp [e.1, e.2] at h2
    · rw [if_neg hG] at hx; simp at hx
  · rintro ⟨q, hq, hG, y, h1, h2, rfl⟩
    refine ⟨q, hq, ?_⟩
    rw [if_pos hG]
    unfold shareE
    simp only [List.mem_map, List.mem_filter]
    refine ⟨y, ⟨h1, ?_⟩, rfl⟩
    rw [Bool.not_eq_true', Bool.eq_false_iff]
    intro e
    exact h2 (by simpa using e)
theorem sigR_ok (hr : s.Right) (hn : s.st = (n : Int)) {G : Nat → Bool} (hG : ∀ q, q < n → (G q = true ↔ TR (inertS s C) p q)) : SigOk s C p (sigR s C G p n) := by
  have hfirst : ∀ x ∈ nf ltE (sigE s C G p n), x.1 = (p : Int) := fun x hx => by
    obtain ⟨_, _, _, _, _, _, rfl⟩ := mem_sigE.1 ((mem_nf stoE x _).1 hx); rfl
  refine ⟨?_, fun l e => ?_⟩
  · unfold sigR Srt
    rw [List.pairwise_map]
    refine List.Pairwise.imp_of_mem ?_ (srt_nf stoE (sigE s C G p n))
    intro a b ha hb hab
    have h1 := hfirst a ha; have h2 := hfirst b hb
    rw [ltE_iff] at hab
    rw [ltS_iff]
    simp only
    omega
  · unfold sigR
    rw [List.mem_map]
    constructor
    · rintro ⟨x, hx, he⟩
      obtain ⟨q, hq, h1, y, h2, h3, rfl⟩ := mem_sigE.1 ((mem_nf stoE x _).1 hx)
      simp only [Prod.mk.injEq] at he
      obtain ⟨rfl, rfl⟩ := he
      have h4 := offB_false.1 (hr.edges _ (mem_outs.1 h2))
      simp only at h4
      obtain ⟨l, t⟩ := y
      obtain ⟨t, rfl⟩ := Int.eq_ofNat_of_zero_le h4.2.2.2.2.1
      simp only [Int.toNat_natCast] at h2 h3 ⊢
      exact Sg.via (tr_inertS ((hG q hq).1 h1)) (.here (mem_outs.1 h2) h3)
    · intro hs
      obtain ⟨q, t, h1, h2, h3, h4⟩ := hs.way
      have hq := (stp_lt hr hn h2).1
      refine ⟨((p : Int), l, e), (mem_nf stoE _ _).2 (mem_sigE.2 ⟨q, hq, (hG q hq).2 (inertS_via h1), (l, (t : Int)), mem_outs.2 h2, ?_, ?_⟩), rfl⟩
      · simp only [Int.toNat_natCast]
        rw [h1.last]
        exact h4
      · simp only [Int.toNat_natCast, h3]
end
theorem next_rep {s : Lts} {n : Nat} {C : Nat → Int} {F : Nat → List S} (hF : ∀ p, p < n → SigOk s C p (F p)) : NextB s n C (clf n (fun i => (rep (fun p => (C p, F p)) i : Int))) := fun p q hp hq => by
  rw [clf_eq (f := fun i => (rep (fun p => (C p, F p)) i : Int)) hp hq]
  simp only [Int.ofNat_inj, rep_iff, Prod.mk.injEq]
  exact and_congr_right (fun _ => (hF p hp).eq (hF q hq))
end Pl
end Go.Proofs.YtebmlhaoeldhkaaGreatDoor
namespace Go.Proofs.YtebmlhaoeldhkaaGreatDoor
namespace Pl
theorem stp_norm12 {s : Lts} {p t : Nat} {l : Int} : stp s.norm p l t ↔ stp s p l t := by
  unfold stp
  show _ ∈ nf ltE s.es ↔ _
  rw [mem_nf stoE]
theorem sg_norm12 {s : Lts} {C : Nat → Int} {p : Nat} {l c : Int} : Sg s.norm C p l c ↔ Sg s C p l c := by
  constructor
  · intro h
    induction h with
    | here h1 h2 => exact .here (stp_norm12.1 h1) h2
    | on h1 h2 _ ih => exact .on (stp_norm12.1 h1) h2 ih
  · intro h
    induction h with
    | here h1 h2 => exact .here (stp_norm12.2 h1) h2
    | on h1 h2 _ ih => exact .on (stp_norm12.2 h1) h2 ih
theorem sigOk_norm12 {s : Lts} {C : Nat → Int} {p : Nat} {L : List S} (h : SigOk s.norm C p L) : SigOk s C p L :=
  ⟨h.srt, fun l e => by rw [h.mem, sg_norm12]⟩
theorem big_eq12 {s : Lts} {n : Nat} (hr : s.Right) (hn : s.st = (n : Int)) {C D : Nat → Int} (h : BrBig s n C) (h' : BrBig s n D) (hC : canon (fl n C) = fl n C) (hD : canon (fl n D) = fl n D) : fl n C = fl n D := by
  have e := h.uniq hr hn h'
  rw [← canon_fl, ← canon_fl, hC, hD] at e
  exact e
end Pl
end Go.Proofs.YtebmlhaoeldhkaaGreatDoor
namespace Go.Proofs.YtebmlhaoeldhkaaGreatDoor
open Go.RowKit Pl
def FR (ob m : Nat) (vs : Nat → Value) (f : Nat → List Int) : List Rw :=
  ⟨31, 1, .slice (some ⟨ob, 0, none⟩) m m, m, (List.range m).map vs⟩ :: (List.range m).map (fun l => (⟨3, 1, vs l, (f l).length, (f l).flatMap encI⟩ : Rw))
theorem range_map_set {α : Type} {m l : Nat} (g : Nat → α) (x : α) : ((List.range m).map g).set l x = (List.range m).map (upd g l x) := by
  apply List.ext_getElem?
  intro i
  rw [List.getElem?_set]
  by_cases h : i < m
  · by_cases e : l = i
    · subst e; simp [h, upd]
    · rw [if_neg e]
      simp [h, upd, show ¬ i = l from fun e2 => e e2.symm]
  · by_cases e : l = i
    · subst e; simp [h]
    · rw [if_neg e]; simp [h]
theorem FR.set {ob m l : Nat} {vs : Nat → Value} {f : Nat → List Int} (v : Value) (ys : List Int) (rest : List Rw) (hl : l < m) :
    (((FR ob m vs f ++ rest).set (l + 1) ⟨3, 1, v, ys.length, ys.flatMap encI⟩).set 0 ⟨31, 1, .slice (some ⟨ob, 0, none⟩) m m, m, ((List.range m).map vs).set l v⟩) = FR ob m (upd vs l v) (upd f l ys) ++ rest := by
  unfold FR
  rw [List.cons_append, List.set_cons_succ, List.set_cons_zero, List.set_append_left _ _ (by simpa using hl), range_map_set, range_map_set, List.cons_append]
  congr 2
  apply List.map_congr_left
  intro i _
  unfold upd
  split <;> rfl
section
variable {w0 w w' w1 w2 : World} {rest : List Rw} {ob m : Nat} {vs : Nat → Value} {f : Nat → List Int}
end
end Go.Proofs.YtebmlhaoeldhkaaGreatDoor

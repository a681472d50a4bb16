/-
  Lemmas.
-/
import Derived.Test.YtbaccmlfnbgehaaGreatDoorGSimG
import Derived.Test.YtbaccmlfnbgehaaGreatDoorGRws
import Derived.Test.YtbaccmlfnbgehaaGreatDoorGPl4
import Derived.Test.YtbaccmlfnbgehaaGreatDoorGPlS
import Derived.BigRegion
import Derived.Deep.QuietTactic
import Derived.BigQuiet
import Derived.IntWalk
import Derived.Outline
import Derived.Deep.RegionHeld3
import Derived.Deep.Cut
import Derived.Deep.CutRange
import Derived.Test.YtbaccmlfnbgehaaGreatDoorGKw
import Derived.Lib.OwnBridge
import Derived.Sort.OwnSortedInts
import Derived.Test.YtbaccmlfnbgehaaGreatDoorGClone
import Derived.Test.YtbaccmlfnbgehaaGreatDoorGCanon
import Derived.Deep.RegionWith
import Derived.Test.YtbaccmlfnbgehaaGreatDoorGBkRow
import Derived.Test.YtbaccmlfnbgehaaGreatDoorGRows2
import Derived.Test.YtbaccmlfnbgehaaGreatDoorGNew
import Derived.Test.YtbaccmlfnbgehaaGreatDoorGLentS
import Derived.Test.YtbaccmlfnbgehaaGreatDoorGRefRight
namespace Go.Proofs.YtbaccmlfnbgehaaGreatDoor
open Go.RowKit Pl
theorem doesB_iff {s : Lts} (hr : s.Right) {n : Nat} (hn : s.st = (n : Int)) {R : Nat → Nat → Bool} {p q : Nat} : doesB s R p q = true ↔ ∀ (l : Int) (t : Nat), (l, (t : Int)) ∈ s.outs (p : Int) → ∃ u : Nat, u < n ∧ (l, (u : Int)) ∈ s.outs (q : Int) ∧ R t u = true := by
  unfold doesB stepD
  rw [List.all_eq_true]
  constructor
  · intro h l t hx
    have h1 := h _ hx
    rw [List.any_eq_true] at h1
    obtain ⟨y, hy, h2⟩ := h1
    have hyr := offB_false.1 (hr.edges _ (mem_outs.1 hy))
    obtain ⟨y1, y2⟩ := y
    simp only [Bool.and_eq_true, decide_eq_true_eq, Int.toNat_natCast] at hyr h2
    obtain ⟨u, rfl⟩ := Int.eq_ofNat_of_zero_le hyr.2.2.2.2.1
    obtain ⟨rfl, h2⟩ := h2
    exact ⟨u, by omega, hy, by simpa using h2⟩
  · intro h x hx
    have hxr := offB_false.1 (hr.edges _ (mem_outs.1 hx))
    obtain ⟨l, x2⟩ := x
    simp only at hxr
    obtain ⟨t, rfl⟩ := Int.eq_ofNat_of_zero_le hxr.2.2.2.2.1
    obtain ⟨u, _, h1, h2⟩ := h l t hx
    rw [List.any_eq_true]
    exact ⟨_, h1, by simp [h2]⟩
section
variable {s : Lts} {n : Nat} {R : Nat → Nat → Bool}
theorem Great.refl (h : Great s n R) (hr : s.Right) (hn : s.st = (n : Int)) {p : Nat} (hp : p < n) : R p p = true :=
  h.left.sim (fun a i => decide (a = i)) (fun a i ha _ e => by
    simp at e; subst e
    rw [doesB_iff hr hn]
    intro l t hx
    have hxr := offB_false.1 (hr.edges _ (mem_outs.1 hx))
    simp only at hxr
    exact ⟨t, by omega, hx, by simp⟩) p p hp hp (by simp)
theorem Great.trans (h : Great s n R) (hr : s.Right) (hn : s.st = (n : Int)) {p q r : Nat} (hp : p < n) (h1 : R p q = true) (h2 : R q r = true) : R p r = true := by
  have hq := h.left.rng p q hp h1
  have hrn := h.left.rng q r hq h2
  refine h.left.sim (fun a i => (List.range n).any (fun m => R a m && R m i)) (fun a i ha hi e => ?_) p r hp hrn (by rw [List.any_eq_true]; exact ⟨q, List.mem_range.2 hq, by simp [h1, h2]⟩)
  rw [List.any_eq_true] at e
  obtain ⟨m, hm, e⟩ := e
  rw [List.mem_range] at hm
  rw [Bool.and_eq_true] at e
  have d1 := (doesB_iff hr hn).1 (h.does a m ha e.1)
  have d2 := (doesB_iff hr hn).1 (h.does m i hm e.2)
  rw [doesB_iff hr hn]
  intro l t hx
  obtain ⟨u, hu, hu1, hu2⟩ := d1 l t hx
  obtain ⟨v, hv, hv1, hv2⟩ := d2 l u hu1
  exact ⟨v, hv, hv1, by rw [List.any_eq_true]; exact ⟨u, List.mem_range.2 hu, by simp [hu2, hv2]⟩⟩
theorem Great.fix (h : Great s n R) (hr : s.Right) (hn : s.st = (n : Int)) {p q : Nat} (hp : p < n) (hq : q < n) : R p q = doesB s R p q := by
  rw [Bool.eq_iff_iff]
  refine ⟨h.does p q hp, fun hd => ?_⟩
  refine h.left.sim (fun a i => R a i || decide (a = p ∧ i = q)) (fun a i ha hi e => ?_) p q hp hq (by simp)
  have hmono : ∀ a i, a < n → i < n → R a i = true → (R a i || decide (a = p ∧ i = q)) = true := fun a i _ _ e => by simp [e]
  simp only [Bool.or_eq_true, decide_eq_true_eq] at e
  rcases e with e | ⟨rfl, rfl⟩
  · exact doesB_mono hr hn hmono (h.does a i ha e)
  · exact doesB_mono hr hn hmono hd
theorem Great.uniq {R' : Nat → Nat → Bool} (h : Great s n R) (h' : Great s n R') {p q : Nat} (hp : p < n) : R p q = R' p q := by
  rw [Bool.eq_iff_iff]
  exact ⟨fun e => h'.left.sim R (fun a i ha _ e2 => h.does a i ha e2) p q hp (h.left.rng p q hp e) e, fun e => h.left.sim R' (fun a i ha _ e2 => h'.does a i ha e2) p q hp (h'.left.rng p q hp e) e⟩
theorem clsN_mut (h : Great s n R) (hr : s.Right) (hn : s.st = (n : Int)) (hn3 : n ≤ 300) {p : Nat} (hp : p < n) : R p (clsN R p) = true ∧ R (clsN R p) p = true := by
  unfold clsN
  rcases hf : (idsN (R p) 320).find? (fun q => R q p) with _ | i
  · rw [List.find?_eq_none] at hf
    have hpp := h.refl hr hn hp
    exact absurd hpp (hf p (by unfold idsN; rw [List.mem_filter, List.mem_range]; exact ⟨by omega, hpp⟩))
  · have h1 := List.mem_of_find?_eq_some hf
    have h2 := List.find?_some hf
    unfold idsN at h1
    exact ⟨(List.mem_filter.1 h1).2, h2⟩
theorem clsN_congr (h : Great s n R) (hr : s.Right) (hn : s.st = (n : Int)) {p q : Nat} (hp : p < n) (hq : q < n) (h1 : R p q = true) (h2 : R q p = true) : clsN R p = clsN R q := by
  have e1 : ∀ i, R p i = R q i := fun i => by
    rw [Bool.eq_iff_iff]
    exact ⟨fun e => h.trans hr hn hq h2 e, fun e => h.trans hr hn hp h1 e⟩
  have e2 : ∀ i, i < n → R i p = R i q := fun i hi => by
    rw [Bool.eq_iff_iff]
    exact ⟨fun e => h.trans hr hn hi e h1, fun e => h.trans hr hn hi e h2⟩
  have e3 : idsN (R p) 320 = idsN (R q) 320 := by rw [funext e1]
  unfold clsN
  rw [e3]
  have e4 : ∀ L : List Nat, (∀ i ∈ L, i < n) → L.find? (fun x => R x p) = L.find? (fun x => R x q) := by
    intro L
    induction L with
    | nil => intro _; rfl
    | cons x L ih =>
      intro hL
      rw [List.find?_cons, List.find?_cons, e2 x (hL x List.mem_cons_self), ih (fun i hi => hL i (List.mem_cons_of_mem _ hi))]
  rw [e4 _ (fun i hi => by unfold idsN at hi; exact h.left.rng q i hq (List.mem_filter.1 hi).2)]
theorem clsN_iff (h : Great s n R) (hr : s.Right) (hn : s.st = (n : Int)) (hn3 : n ≤ 300) {p q : Nat} (hp : p < n) (hq : q < n) : clsN R p = clsN R q ↔ R p q = true ∧ R q p = true := by
  constructor
  · intro e
    obtain ⟨a1, a2⟩ := clsN_mut h hr hn hn3 hp
    obtain ⟨b1, b2⟩ := clsN_mut h hr hn hn3 hq
    rw [← e] at b1 b2
    exact ⟨h.trans hr hn hp a1 b2, h.trans hr hn hq b1 a2⟩
  · rintro ⟨h1, h2⟩
    exact clsN_congr h hr hn hp hq h1 h2
end
/-! the system of law17.alive -/
def aliveS : Lts := ⟨(3 : Nat), 2, 0, [(0, 1, 1)]⟩
theorem aliveS_right : aliveS.Right := ⟨by unfold HeadBad aliveS; simp, by decide⟩
theorem aliveS_nf : nf ltE [((0 : Int), (1 : Int), (1 : Int))] = [(0, 1, 1)] := by decide
theorem aliveS_R {R : Nat → Nat → Bool} (h : Great aliveS 3 R) : R 1 0 = true ∧ R 0 1 = false ∧ canon (fl 3 (fun p => (clsN R p : Int))) = [0, 1, 1] := by
  have f := fun {p q : Nat} (hp : p < 3) (hq : q < 3) => h.fix aliveS_right rfl hp hq
  have a00 : R 0 0 = true := h.refl aliveS_right rfl (by omega)
  have a11 : R 1 1 = true := h.refl aliveS_right rfl (by omega)
  have o0 : aliveS.outs ((0 : Nat) : Int) = [(1, 1)] := by decide
  have o1 : aliveS.outs ((1 : Nat) : Int) = [] := by decide
  have o2 : aliveS.outs ((2 : Nat) : Int) = [] := by decide
  have a10 : R 1 0 = true := by rw [f (by omega) (by omega)]; unfold doesB; rw [o1]; rfl
  have a12 : R 1 2 = true := by rw [f (by omega) (by omega)]; unfold doesB; rw [o1]; rfl
  have a20 : R 2 0 = true := by rw [f (by omega) (by omega)]; unfold doesB; rw [o2]; rfl
  have a21 : R 2 1 = true := by rw [f (by omega) (by omega)]; unfold doesB; rw [o2]; rfl
  have a01 : R 0 1 = false := by rw [f (by omega) (by omega)]; unfold doesB stepD; rw [o0, o1]; rfl
  have a02 : R 0 2 = false := by rw [f (by omega) (by omega)]; unfold doesB stepD; rw [o0, o2]; rfl
  refine ⟨a10, a01, ?_⟩
  have hlt : ∀ p, p < 3 → clsN R p < 3 := fun p hp => clsN_lt h.left hp
  have m0 := clsN_mut h aliveS_right rfl (by omega) (p := 0) (by omega)
  have m1 := clsN_mut h aliveS_right rfl (by omega) (p := 1) (by omega)
  have c12 : clsN R 1 = clsN R 2 := (clsN_iff h aliveS_right rfl (by omega) (by omega) (by omega)).2 ⟨a12, a21⟩
  have c01 : clsN R 0 ≠ clsN R 1 := fun e => by
    have := (clsN_iff h aliveS_right rfl (by omega) (by omega) (by omega)).1 e
    rw [a01] at this; exact absurd this.1 (by decide)
  have hfl : fl 3 (fun p => (clsN R p : Int)) = [(clsN R 0 : Int), (clsN R 1 : Int), (clsN R 1 : Int)] := by
    unfold fl
    simp [List.range_succ, c12]
  rw [hfl]
  obtain ⟨x, hx⟩ : ∃ x : Int, x = (clsN R 0 : Int) := ⟨_, rfl⟩
  obtain ⟨y, hy⟩ : ∃ y : Int, y = (clsN R 1 : Int) := ⟨_, rfl⟩
  have hxy : x ≠ y := by omega
  rw [← hx, ← hy]
  have := canon_map (f := fun z => if z = 0 then x else y) (l := [0, 1, 1]) (by
    intro a ha b hb e
    simp at ha hb
    rcases ha with rfl | rfl <;> rcases hb with rfl | rfl <;> simp at e ⊢
    · exact hxy e
    · exact hxy e.symm)
  simp at this
  rw [this]
  decide
end Go.Proofs.YtbaccmlfnbgehaaGreatDoor
namespace Go.Proofs.YtbaccmlfnbgehaaGreatDoor
open Go.RowKit Pl
theorem sysS {w : World} {B : Nat} {x y z : Int} {v : Value} (h : w.heap[B]? = some (.cells #[.int .i64 x, .int .i64 y, .int .i64 z, v] 24 (0, 0))) :
    w.cell? ⟨B, 0, none⟩ = some (.int .i64 x) ∧ w.cell? ⟨B, 1, none⟩ = some (.int .i64 y) ∧ w.cell? ⟨B, 2, none⟩ = some (.int .i64 z) ∧ w.cell? ⟨B, 3, none⟩ = some v ∧ B < w.heap.size := by
  refine ⟨?_, ?_, ?_, ?_, (Array.getElem?_eq_some_iff.1 h).1⟩ <;> simp [World.cell?, h]
set_option maxRecDepth 100000 in
set_option maxHeartbeats 4000000 in
theorem alive17_any {w : World} {p : Addr} (hG : GErr 15 p w) (hT : Tab w) :
    Calls Tryz.prog 6 #[] w fun e w' => e = .returned (.bool true) ∧ Below w.heap.size w w' := by
  have HG := Lib.hid hG; have HT := Lib.hid hT
  clear hG hT
  go_enter Tryz.func6, Tryz.ntmps6
  go_wp2_with fail
  have hS : SlAt encE 3 (w.alloc (.cells #[.int .i64 0, .int .i64 1, .int .i64 1] 71)) (some ⟨w.heap.size, 0, none⟩) w.heap.size 0 [(0, 1, 1)] := by
    have h := World.ownsRow_lit (e := 71) (size := 3) (base := w.heap.size) w #[.int .i64 0, .int .i64 1, .int .i64 1] 1 (Nat.le_refl _) (by unfold maxLen; omega) rfl
    obtain ⟨a, c, b, hv, _, _, hs, _⟩ := slAt_own (xs := [((0 : Int), (1 : Int), (1 : Int))]) lenE h
    simp only [Value.slice.injEq] at hv
    obtain ⟨rfl, _, _⟩ := hv
    have := hs.ad (by decide)
    simp at this
    subst this
    exact hs
  have hB0 := ((Below.refl w.heap.size w).alloc (Nat.le_refl _) (.cells #[.int .i64 0, .int .i64 1, .int .i64 1] 71)).alloc (by simp) (.cells #[.int .i64 3, .int .i64 2, .int .i64 0, .slice (some ⟨w.heap.size, 0, none⟩) 1 1] 24)
  have hx0 := heap_alloc_new (w.alloc (.cells #[.int .i64 0, .int .i64 1, .int .i64 1] 71)) (.cells #[.int .i64 3, .int .i64 2, .int .i64 0, .slice (some ⟨w.heap.size, 0, none⟩) 1 1] 24)
  rw [show (w.alloc (.cells #[.int .i64 0, .int .i64 1, .int .i64 1] 71)).heap.size = w.heap.size + 1 by simp] at hx0
  have hS1 := hS.alloc (.cells #[.int .i64 3, .int .i64 2, .int .i64 0, .slice (some ⟨w.heap.size, 0, none⟩) 1 1] 24)
  have hb1 := below_any (n := 3) (lb := 2) (s0 := 0) (es := [(0, 1, 1)]) (c := 1) aliveS_right (by omega) (HG.out.below hB0) (HT.out.below hB0) hS1 (p := 1) (q := 0) (by omega) (by omega)
  refine hb1.mono ?_
  rintro e w1 ⟨R, rfl, hgt, hB1⟩
  rw [aliveS_nf] at hgt
  rw [(aliveS_R (R := R) hgt).1]
  have hx1 := (hB1.block (w.heap.size + 1) (by simp)).trans hx0
  have hB1' := hB0.trans (hB1.mono (by simp; omega))
  have hS2 := hS1.below hB1 (Nat.le_refl _)
  have HB1 := Lib.hid hB1'; have HX1 := Lib.hid hx1; have HS := Lib.hid hS2
  obtain ⟨x0, x1, x2, x3, x4⟩ := sysS hx1
  clear hB0 hx0 hS hS1 hb1 hgt hx1 hB1 hB1' hS2
  go_wp2_with fail
  refine (below_any (n := 3) (lb := 2) (s0 := 0) (es := [(0, 1, 1)]) (c := 1) aliveS_right (by omega) (HG.out.below HB1.out) (HT.out.below HB1.out) HS.out (p := 0) (q := 1) (by omega) (by omega)).mono ?_
  rintro e w2 ⟨R2, rfl, hgt, hB2⟩
  rw [aliveS_nf] at hgt
  rw [(aliveS_R (R := R2) hgt).2.1]
  have hx2 := (hB2.block (w.heap.size + 1) x4).trans HX1.out
  have hB2' := HB1.out.trans (hB2.mono HB1.out.size)
  have hS3 := HS.out.below hB2 (Nat.le_refl _)
  clear x0 x1 x2 x3 x4 HX1 HB1 HS
  have HB2 := Lib.hid hB2'; have HS := Lib.hid hS3
  obtain ⟨x0, x1, x2, x3, x4⟩ := sysS hx2
  clear hgt hx2 hB2 hB2' hS3
  go_wp2_with fail
  refine (simClasses_any (n := 3) (lb := 2) (s0 := 0) (es := [(0, 1, 1)]) (c := 1) aliveS_right (by omega) (HG.out.below HB2.out) (HT.out.below HB2.out) HS.out).mono ?_
  rintro e w3 ⟨R3, v, rfl, hgt, hown, hB3⟩
  rw [aliveS_nf] at hgt
  rw [(aliveS_R (R := R3) hgt).2.2] at hown
  obtain ⟨la, lc, lb, rfl, _, _, hls, _⟩ := slAt_own (xs := [0, 1, 1]) lenI hown
  obtain rfl := hls.ad (by decide)
  have l2 := hls.ci (i := 2) (x := 1) rfl
  have ll := hls.lt (by decide)
  simp only [Nat.zero_add] at l2
  have HB3 := Lib.hid (HB2.out.trans (hB3.mono HB2.out.size))
  clear hgt hown hls hB3 x0 x1 x2 x3 x4 HB2 HS
  go_wp2_with fail
  go_ret
  exact ⟨rfl, HB3.out⟩
end Go.Proofs.YtbaccmlfnbgehaaGreatDoor
namespace Go.Proofs.YtbaccmlfnbgehaaGreatDoor
open Go.RowKit Pl
def FR (ob m : Nat) (vs : Nat → Value) (f : Nat → List Int) : List Rw :=
  ⟨50, 1, .slice (some ⟨ob, 0, none⟩) m m, m, (List.range m).map vs⟩ :: (List.range m).map (fun l => (⟨3, 1, vs l, (f l).length, (f l).flatMap encI⟩ : Rw))
theorem range_map_set {α : Type} {m l : Nat} (g : Nat → α) (x : α) : ((List.range m).map g).set l x = (List.range m).map (upd g l x) := by
  apply List.ext_getElem?
  intro i
  rw [List.getElem?_set]
  by_cases h : i < m
  · by_cases e : l = i
    · subst e; simp [h, upd]
    · rw [if_neg e]
      simp [h, upd, show ¬ i = l from fun e2 => e e2.symm]
  · by_cases e : l = i
    · subst e; simp [h]
    · rw [if_neg e]; simp [h]
theorem FR.set {ob m l : Nat} {vs : Nat → Value} {f : Nat → List Int} (v : Value) (ys : List Int) (rest : List Rw) (hl : l < m) :
    (((FR ob m vs f ++ rest).set (l + 1) ⟨3, 1, v, ys.length, ys.flatMap encI⟩).set 0 ⟨50, 1, .slice (some ⟨ob, 0, none⟩) m m, m, ((List.range m).map vs).set l v⟩) = FR ob m (upd vs l v) (upd f l ys) ++ rest := by
  unfold FR
  rw [List.cons_append, List.set_cons_succ, List.set_cons_zero, List.set_append_left _ _ (by simpa using hl), range_map_set, range_map_set, List.cons_append]
  congr 2
  apply List.map_congr_left
  intro i _
  unfold upd
  split <;> rfl
section
variable {w0 w w' w1 w2 : World} {rest : List Rw} {ob m : Nat} {vs : Nat → Value} {f : Nat → List Int}
end
end Go.Proofs.YtbaccmlfnbgehaaGreatDoor
namespace Go.Proofs.YtbaccmlfnbgehaaGreatDoor
open Go.RowKit Pl
def encT (x : B3) : List Value := [.int .i64 x.1, .int .i64 x.2.1, .int .i64 x.2.2]
def flN (n : Nat) (f : Nat → Nat) : List Int := fl n (fun i => (f i : Int))
structure PK where
  pb : Nat
  eb : Nat
  qb : Nat
  ib : Nat
  bb : Nat
  ce : Nat
  cq : Nat
  ci : Nat
  cb : Nat
section
variable {w0 w w' w1 : World} {K : PK} {n : Nat} {el pl inn : Nat → Nat} {bl : List B3} {rest : List Rw}
end
end Go.Proofs.YtbaccmlfnbgehaaGreatDoor
namespace Go.Proofs.YtbaccmlfnbgehaaGreatDoor
open Go.RowKit Pl
section
variable {w0 w : World} {K : PK} {n : Nat} {el pl inn : Nat → Nat} {bl : List B3} {rest : List Rw}
end
end Go.Proofs.YtbaccmlfnbgehaaGreatDoor
namespace Go.Proofs.YtbaccmlfnbgehaaGreatDoor
open Go.RowKit Pl
section
variable {w0 w : World} {K : PK} {n : Nat} {el pl inn : Nat → Nat} {bl : List B3} {rest : List Rw}
end
end Go.Proofs.YtbaccmlfnbgehaaGreatDoor
namespace Go.Proofs.YtbaccmlfnbgehaaGreatDoor
open Go.RowKit Pl
section
variable {w0 w : World} {K : PK} {n : Nat} {el pl inn : Nat → Nat} {bl : List B3} {rest : List Rw}
end
end Go.Proofs.YtbaccmlfnbgehaaGreatDoor
namespace Go.Proofs.YtbaccmlfnbgehaaGreatDoor
open Go.RowKit Pl Go.Sort Go.Shelf Go.Lib
end Go.Proofs.YtbaccmlfnbgehaaGreatDoor
namespace Go.Proofs.YtbaccmlfnbgehaaGreatDoor
open Go.RowKit Pl
section
variable {w0 w : World} {K : PK} {n : Nat} {el pl inn : Nat → Nat} {bl : List B3} {rest : List Rw}
def MembersPost (w : World) (M : List Int) (e : Ending) (w' : World) : Prop :=
  ∃ v, e = .returned (.tuple #[v, .nilIface]) ∧ w'.ownsRow w.heap.size 3 1 v M.length (M.flatMap encI) ∧ Below w.heap.size w w'
end
end Go.Proofs.YtbaccmlfnbgehaaGreatDoor
namespace Go.Proofs.YtbaccmlfnbgehaaGreatDoor
open Go.RowKit Pl
namespace Pl
end Pl
section
variable {w0 w : World} {K : PK} {n : Nat} {el pl inn : Nat → Nat} {bl : List B3} {rest : List Rw}
def OwnI (w : World) (M : List Int) (e : Ending) (w' : World) : Prop :=
  ∃ v, e = .returned v ∧ w'.ownsRow w.heap.size 3 1 v M.length (M.flatMap encI) ∧ Below w.heap.size w w'
end
end Go.Proofs.YtbaccmlfnbgehaaGreatDoor
namespace Go.Proofs.YtbaccmlfnbgehaaGreatDoor
open Go.RowKit Pl
section
variable {w0 w w1 w2 : World} {K : PK} {n : Nat} {el pl inn : Nat → Nat} {bl : List B3} {rest : List Rw}
end
def innK (n : Nat) (pl inn : Nat → Nat) (m lo k : Nat) : Nat → Nat := fun e => if e < n ∧ lo ≤ pl e ∧ pl e < lo + k then m else inn e
section
variable {w0 w : World} {K : PK} {n : Nat} {el pl inn : Nat → Nat} {bl : List B3} {rest : List Rw}
end
end Go.Proofs.YtbaccmlfnbgehaaGreatDoor
namespace Go.Proofs.YtbaccmlfnbgehaaGreatDoor
open Go.RowKit Pl
namespace Pl
def z0 : Nat → Nat := fun _ => 0
theorem PI.one (n : Nat) (h : 0 < n) : PI n id id z0 [(0, n, 0)] where
  hel i hi := ⟨hi, rfl⟩
  hpl e he := ⟨he, rfl⟩
  blk b x hx := by
    rcases b with _ | b
    · simp at hx; subst hx; simp; exact h
    · simp at hx
  hin e he := ⟨(0, n, 0), rfl, Nat.zero_le _, he⟩
  cov b x i hx _ _ := by
    rcases b with _ | b
    · rfl
    · simp at hx
end Pl
def plK (j : Nat) : Nat → Nat := fun e => if e < j then e else 0
section
variable {w0 w w1 w2 : World} {pb : Nat} {ea : Option Addr} {ec qb ib ci bb n j : Nat} {pl : Nat → Nat} {x : B3} {rest : List Rw}
end
end Go.Proofs.YtbaccmlfnbgehaaGreatDoor
namespace Go.Proofs.YtbaccmlfnbgehaaGreatDoor
open Go.RowKit Pl
end Go.Proofs.YtbaccmlfnbgehaaGreatDoor
namespace Go.Proofs.YtbaccmlfnbgehaaGreatDoor
open Go.RowKit Pl
structure SK where
  xb : Nat
  gb : Nat
  hb : Nat
  qb : Nat
  sa : Option Addr
  sc : Nat
  ta : Option Addr
  tc : Nat
section
variable {w0 w w' : World} {s : Lts} {K : PK} {S : SK} {n : Nat} {el pl inn : Nat → Nat} {bl : List B3} {hp ga : Nat → Nat} {sz : List Int} {tl : List Value} {rest : List Rw} {pb : Nat}
theorem Rws.swap {A B C : List Rw} (h : Rws w0 w (A ++ (B ++ C))) : Rws w0 w (B ++ (A ++ C)) := h.perm (by
  rw [← List.append_assoc, ← List.append_assoc]
  exact (List.perm_append_comm).append_right C)
end
namespace Pl
def stepsTo (s : Lts) (L : List Nat) : List S := L.flatMap (fun t : Nat => s.ins (t : Int))
theorem mem_withL {M : List S} {l t : Int} : t ∈ withL l M ↔ (l, t) ∈ M := by
  unfold withL
  simp only [List.mem_map, List.mem_filter, beq_iff_eq]
  constructor
  · rintro ⟨y, ⟨hy, rfl⟩, rfl⟩; exact hy
  · intro h; exact ⟨_, ⟨h, rfl⟩, rfl⟩
theorem mem_stepsTo {s : Lts} {n : Nat} {L : List Nat} (hL : ∀ t ∈ L, t < n) {l : Int} {p : Nat} : (p : Int) ∈ withL l (stepsTo s L) ↔ intoX s n l (· ∈ L) p := by
  rw [mem_withL]
  unfold stepsTo intoX
  simp only [List.mem_flatMap]
  constructor
  · rintro ⟨t, ht, h⟩
    exact ⟨t, hL t ht, ht, mem_inS.1 h⟩
  · rintro ⟨t, _, ht, h⟩
    exact ⟨t, ht, mem_inS.2 h⟩
theorem stepsTo_rng {s : Lts} (hr : s.Right) {n : Nat} (hn : s.st = (n : Int)) {L : List Nat} {y : S} (h : y ∈ stepsTo s L) : 0 ≤ y.1 ∧ y.1 < s.lb ∧ ∃ p : Nat, p < n ∧ y.2 = (p : Int) := by
  unfold stepsTo at h
  obtain ⟨t, _, ht⟩ := List.mem_flatMap.1 h
  have := offB_false.1 (hr.edges _ (mem_inS.1 ht))
  simp only at this
  exact ⟨this.2.2.1, this.2.2.2.1, y.2.toNat, by omega, by omega⟩
end Pl
end Go.Proofs.YtbaccmlfnbgehaaGreatDoor
namespace Go.Proofs.YtbaccmlfnbgehaaGreatDoor
open Go.RowKit Pl
namespace Pl
def SplitK (s : Lts) (n : Nat) (L : List Nat) (inn inn' : Nat → Nat) (k : Nat) : Prop :=
  ∀ p q, p < n → q < n → (inn' p = inn' q ↔ inn p = inn q ∧ ∀ l : Nat, l < k → (((p : Nat) : Int) ∈ withL (l : Int) (stepsTo s L) ↔ ((q : Nat) : Int) ∈ withL (l : Int) (stepsTo s L)))
theorem SplitK.zero (s : Lts) (n : Nat) (L : List Nat) (inn : Nat → Nat) : SplitK s n L inn inn 0 := fun p q _ _ => by
  constructor
  · intro h; exact ⟨h, fun l hl => by omega⟩
  · intro h; exact h.1
theorem SplitK.done {s : Lts} (hr : s.Right) {n : Nat} (hn : s.st = (n : Int)) {L : List Nat} (hL : ∀ t ∈ L, t < n) {inn inn' : Nat → Nat} {m : Nat} (hm : s.lb = (m : Int)) (h : SplitK s n L inn inn' m) : SplitBy s n (· ∈ L) inn inn' := fun p q hp hq => by
  rw [h p q hp hq]
  constructor
  · rintro ⟨h1, h2⟩
    refine ⟨h1, fun l => ?_⟩
    rw [← mem_stepsTo hL, ← mem_stepsTo hL]
    by_cases hl : 0 ≤ l ∧ l < s.lb
    · obtain ⟨k, rfl⟩ := Int.eq_ofNat_of_zero_le hl.1
      exact h2 k (by omega)
    · constructor
      · intro h3; have := stepsTo_rng hr hn (mem_withL.1 h3); exact absurd ⟨this.1, this.2.1⟩ hl
      · intro h3; have := stepsTo_rng hr hn (mem_withL.1 h3); exact absurd ⟨this.1, this.2.1⟩ hl
  · rintro ⟨h1, h2⟩
    exact ⟨h1, fun l _ => by rw [mem_stepsTo hL, mem_stepsTo hL]; exact h2 l⟩
end Pl
section
variable {w0 w : World} {s : Lts} {K : PK} {S : SK} {n : Nat} {el pl inn : Nat → Nat} {bl : List B3} {hp ga : Nat → Nat} {sz : List Int} {tl : List Value} {rest : List Rw}
end
end Go.Proofs.YtbaccmlfnbgehaaGreatDoor
namespace Go.Proofs.YtbaccmlfnbgehaaGreatDoor
open Go.RowKit Pl
section
variable {w0 w w' w1 w2 : World} {s : Lts} {K : PK} {S : SK} {n : Nat} {el pl inn : Nat → Nat} {bl : List B3} {hp ga : Nat → Nat} {sz : List Int} {tl : List Value} {rest : List Rw} {pb : Nat}
end
def gaK (ga : Nat → Nat) (L : List Nat) (k : Nat) : Nat → Nat := fun p => if p ∈ L.take k then ga p + 1 else ga p
section
variable {w0 w : World} {S : SK} {n pb : Nat} {hp ga : Nat → Nat} {sz : List Int} {tl : List Value} {rest : List Rw}
end
end Go.Proofs.YtbaccmlfnbgehaaGreatDoor
namespace Go.Proofs.YtbaccmlfnbgehaaGreatDoor
open Go.RowKit Pl
def blkOf : Option Addr → Nat
  | some a => a.block
  | none => 0
section
variable {w0 w w1 w2 : World} {L A B C : List Rw} {r : Rw}
end
section
variable {w0 w : World} {s : Lts} {K : PK} {S : SK} {n : Nat} {el pl inn : Nat → Nat} {bl : List B3} {hp ga : Nat → Nat} {sz : List Int} {tl : List Value} {rest : List Rw}
end
end Go.Proofs.YtbaccmlfnbgehaaGreatDoor
namespace Go.Proofs.YtbaccmlfnbgehaaGreatDoor
open Go.RowKit Pl
def strName : ByteArray := ⟨#[115, 116, 114, 111, 110, 103]⟩
def FaultS (w : World) (p : Addr) (v : Value) : Prop :=
  ∃ vi, FaultAt w v strName vi ∧ FaultAt w vi sysName (.iface 278 (.pointer (some p)))
theorem FaultS.below {w w' : World} {p : Addr} {v : Value} (h : FaultS w p v) (hB : Below w.heap.size w w') : FaultS w' p v := by
  obtain ⟨vi, h1, h2⟩ := h
  exact ⟨vi, h1.below hB, h2.below hB⟩
end Go.Proofs.YtbaccmlfnbgehaaGreatDoor
namespace Go.Proofs.YtbaccmlfnbgehaaGreatDoor
open Go.RowKit Pl
def simName : ByteArray := ⟨#[115, 105, 109, 117, 108]⟩
end Go.Proofs.YtbaccmlfnbgehaaGreatDoor
namespace Go.Proofs.YtbaccmlfnbgehaaGreatDoor
open Go.RowKit Pl
open Lib (hid)
set_option maxRecDepth 100000 in
theorem refGuard17_no {s : Lts} (h : ¬ s.Right) {a : Option Addr} {b off c : Nat} {w : World} (hS : SlAt encE 3 w a b off s.es) :
    Calls Tryz.prog 8 #[.agg #[.int .i64 s.st, .int .i64 s.lb, .int .i64 s.s0, .slice a s.es.length c]] w fun e w' => e = .returned (.agg #[.int .i64 14, .int .i64 0, .int .i64 0, .string (simName ++ ⟨#[32]⟩ ++ sysName ++ ⟨#[32]⟩)]) ∧ Below w.heap.size w w' := by
  obtain ⟨hB0, hE0⟩ := errW w (Obj.cells #[.int .i64 s.st, .int .i64 s.lb, .int .i64 s.s0, .slice a s.es.length c] 24)
  have HR := hid (right_no (c := c) h (hS.below hB0 (Nat.le_refl _)))
  have HHA : Hid (∀ V, Below w.heap.size w V → Calls Tryz.prog 32 #[.string ⟨#[115, 105, 109, 117, 108]⟩, .agg #[.int .i64 s.st, .int .i64 s.lb, .int .i64 s.s0, .slice a s.es.length c]] V fun e w' => e = .returned (.agg #[.int .i64 14, .int .i64 0, .int .i64 0, .string (simName ++ ⟨#[32]⟩ ++ sysName ++ ⟨#[32]⟩)]) ∧ Below V.heap.size V w') := hid (fun V hV => refHanded_no simName (by decide) h (hS.below hV (Nat.le_refl _)))
  obtain ⟨rx, hrx⟩ : ∃ rx, rx = simName ++ ⟨#[32]⟩ ++ sysName ++ ⟨#[32]⟩ := ⟨_, rfl⟩
  rw [← hrx] at HHA ⊢
  obtain ⟨el, hel⟩ : ∃ el, el = s.es.length := ⟨_, rfl⟩
  rw [← hel] at HR HHA hB0 hE0 ⊢
  have HB0 := hid hB0; have HE0 := hid hE0
  have hbx : ((w.alloc (Obj.cells #[.int .i64 s.st, .int .i64 s.lb, .int .i64 s.s0, .slice a el c] 24)).alloc (Obj.cells #[.int .i64 0, .int .i64 0, .int .i64 0, .string ⟨#[]⟩] 29)).heap[w.heap.size]? = some (Obj.cells #[.int .i64 s.st, .int .i64 s.lb, .int .i64 s.s0, .slice a el c] 24) := by
    rw [((Below.refl (w.alloc (Obj.cells #[.int .i64 s.st, .int .i64 s.lb, .int .i64 s.s0, .slice a el c] 24)).heap.size _).alloc (Nat.le_refl _) (Obj.cells #[.int .i64 0, .int .i64 0, .int .i64 0, .string ⟨#[]⟩] 29)).block _ (by simp)]
    exact heap_alloc_new w _
  have HBX := hid hbx
  clear hS h hel hB0 hE0 hrx hbx
  go_enter Tryz.func8, Tryz.ntmps8
  go_wp2_with fail
  refine HR.out.mono ?_
  rintro e w2 ⟨rfl, hB2⟩
  have hx2 := (hB2.block (w.heap.size + 1) (by simp)).trans HE0.out
  obtain ⟨y0, y1, y2, y3, y4⟩ := sysC ((hB2.block w.heap.size (by simp; omega)).trans HBX.out)
  have hb2 := HB0.out.trans (hB2.mono HB0.out.size)
  have HX2 := hid hx2; have HB2 := hid hb2
  clear hx2 hb2 hB2 HR HB0 HE0 HBX
  go_wp2_with fail
  refine (HHA.out _ HB2.out).mono ?_
  rintro e w3 ⟨rfl, hB3⟩
  have hx3 := (hB3.block _ (Array.getElem?_eq_some_iff.1 HX2.out).1).trans HX2.out
  have HB3 := hid (HB2.out.trans (hB3.mono HB2.out.size))
  obtain ⟨⟨z0, z1, z2, z3⟩, ⟨f0, f1, f2, f3⟩, zl⟩ := errC hx3
  clear hx3 hB3 HX2 HB2 HHA y0 y1 y2 y3 y4
  go_wp2_with fail
  refine bodyPost_ret (v := .agg #[.int .i64 14, .int .i64 0, .int .i64 0, .string rx]) (by simp [results, Tryz.results8, go_sem, z0, z1, z2, z3]) rfl ⟨rfl, errS HB3.out _ _ _ _⟩
set_option maxRecDepth 100000 in
theorem refGuard17_yes {s : Lts} (h : s.Right) {a : Option Addr} {b off c : Nat} {w : World} (hS : SlAt encE 3 w a b off s.es) :
    Calls Tryz.prog 8 #[.agg #[.int .i64 s.st, .int .i64 s.lb, .int .i64 s.s0, .slice a s.es.length c]] w fun e w' => e = .returned (if 300 < s.st then .agg #[.int .i64 2, .int .i64 0, .int .i64 0, .string (simName ++ ⟨#[32]⟩)] else .agg #[.int .i64 0, .int .i64 0, .int .i64 0, .string ⟨#[]⟩]) ∧ Below w.heap.size w w' := by
  obtain ⟨hB0, hE0⟩ := errW w (Obj.cells #[.int .i64 s.st, .int .i64 s.lb, .int .i64 s.s0, .slice a s.es.length c] 24)
  have HR := hid (right_yes (c := c) h (hS.below hB0 (Nat.le_refl _)))
  have hbd := bad_any simName (by decide) 2
  unfold simName at hbd ⊢
  obtain ⟨gv, hgv⟩ : ∃ gv, gv = (if 300 < s.st then Value.agg #[.int .i64 2, .int .i64 0, .int .i64 0, .string ((⟨#[115, 105, 109, 117, 108]⟩ : ByteArray) ++ ⟨#[32]⟩)] else .agg #[.int .i64 0, .int .i64 0, .int .i64 0, .string ⟨#[]⟩]) := ⟨_, rfl⟩
  rw [← hgv]
  obtain ⟨el, hel⟩ : ∃ el, el = s.es.length := ⟨_, rfl⟩
  rw [← hel] at HR hB0 hE0 ⊢
  have HB0 := hid hB0; have HE0 := hid hE0
  have hbx : ((w.alloc (Obj.cells #[.int .i64 s.st, .int .i64 s.lb, .int .i64 s.s0, .slice a el c] 24)).alloc (Obj.cells #[.int .i64 0, .int .i64 0, .int .i64 0, .string ⟨#[]⟩] 29)).heap[w.heap.size]? = some (Obj.cells #[.int .i64 s.st, .int .i64 s.lb, .int .i64 s.s0, .slice a el c] 24) := by
    rw [((Below.refl (w.alloc (Obj.cells #[.int .i64 s.st, .int .i64 s.lb, .int .i64 s.s0, .slice a el c] 24)).heap.size _).alloc (Nat.le_refl _) (Obj.cells #[.int .i64 0, .int .i64 0, .int .i64 0, .string ⟨#[]⟩] 29)).block _ (by simp)]
    exact heap_alloc_new w _
  have HBX := hid hbx
  clear hS h hel hB0 hE0 hbx
  go_enter Tryz.func8, Tryz.ntmps8
  go_wp2_with fail
  refine HR.out.mono ?_
  rintro e w2 ⟨rfl, hB2⟩
  have hx2 := (hB2.block (w.heap.size + 1) (by simp)).trans HE0.out
  obtain ⟨y0, y1, y2, y3, y4⟩ := sysC ((hB2.block w.heap.size (by simp; omega)).trans HBX.out)
  have hb2 := HB0.out.trans (hB2.mono HB0.out.size)
  have HX2 := hid hx2; have HB2 := hid hb2
  clear hx2 hb2 hB2 HR HB0 HE0 HBX
  by_cases hg : 300 < s.st
  · have hg1 : decide (300 < s.st) = true := by simp [hg]
    rw [if_pos hg] at hgv
    go_wp2_with fail
    refine (hbd _).mono ?_
    rintro e w3 ⟨rfl, hB3⟩
    have hx3 := (hB3.block _ (Array.getElem?_eq_some_iff.1 HX2.out).1).trans HX2.out
    have HB3 := hid (HB2.out.trans (hB3.mono HB2.out.size))
    obtain ⟨⟨z0, z1, z2, z3⟩, ⟨f0, f1, f2, f3⟩, zl⟩ := errC hx3
    clear hx3 hB3 HX2 HB2 hbd y0 y1 y2 y3 y4
    go_wp2_with fail
    refine bodyPost_ret (v := .agg #[.int .i64 2, .int .i64 0, .int .i64 0, .string (⟨#[115, 105, 109, 117, 108]⟩ ++ ⟨#[32]⟩)]) (by simp [results, Tryz.results8, go_sem, z0, z1, z2, z3]) rfl ⟨by rw [hgv], errS HB3.out _ _ _ _⟩
  · have hg1 : decide (300 < s.st) = false := by simp [hg]
    rw [if_neg hg] at hgv
    obtain ⟨⟨z0, z1, z2, z3⟩, ⟨f0, f1, f2, f3⟩, zl⟩ := errC HX2.out
    go_wp2_with fail
    refine bodyPost_ret (v := .agg #[.int .i64 0, .int .i64 0, .int .i64 0, .string ⟨#[]⟩]) (by simp [results, Tryz.results8, go_sem, z0, z1, z2, z3]) rfl ⟨by rw [hgv], errS HB2.out _ _ _ _⟩
end Go.Proofs.YtbaccmlfnbgehaaGreatDoor

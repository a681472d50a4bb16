/-
  The greatest simulation, plain: it orders the states; a pair stands in it where every step is met.
  law17.alive.
  law17.small.
-/
import Derived.Test.YtfakdgljilmpkaaGreatDoorSimI
import Derived.Test.YtfakdgljilmpkaaGreatDoorG17
namespace Go.Proofs.YtfakdgljilmpkaaGreatDoor
open Go.RowKit Pl

theorem doesB_iff {s : Lts} (hr : s.Right) {n : Nat} (hn : s.st = (n : Int)) {R : Nat → Nat → Bool} {p q : Nat} : doesB s R p q = true ↔ ∀ (l : Int) (t : Nat), (l, (t : Int)) ∈ s.outs (p : Int) → ∃ u : Nat, u < n ∧ (l, (u : Int)) ∈ s.outs (q : Int) ∧ R t u = true := by
  unfold doesB stepD
  rw [List.all_eq_true]
  constructor
  · intro h l t hx
    have h1 := h _ hx
    rw [List.any_eq_true] at h1
    obtain ⟨y, hy, h2⟩ := h1
    have hyr := offB_false.1 (hr.edges _ (mem_outs.1 hy))
    obtain ⟨y1, y2⟩ := y
    simp only [Bool.and_eq_true, decide_eq_true_eq, Int.toNat_natCast] at hyr h2
    obtain ⟨u, rfl⟩ := Int.eq_ofNat_of_zero_le hyr.2.2.2.2.1
    obtain ⟨rfl, h2⟩ := h2
    exact ⟨u, by omega, hy, by simpa using h2⟩
  · intro h x hx
    have hxr := offB_false.1 (hr.edges _ (mem_outs.1 hx))
    obtain ⟨l, x2⟩ := x
    simp only at hxr
    obtain ⟨t, rfl⟩ := Int.eq_ofNat_of_zero_le hxr.2.2.2.2.1
    obtain ⟨u, _, h1, h2⟩ := h l t hx
    rw [List.any_eq_true]
    exact ⟨_, h1, by simp [h2]⟩

section
variable {s : Lts} {n : Nat} {R : Nat → Nat → Bool}
theorem Great.refl (h : Great s n R) (hr : s.Right) (hn : s.st = (n : Int)) {p : Nat} (hp : p < n) : R p p = true :=
  h.left.sim (fun a i => decide (a = i)) (fun a i ha _ e => by
    simp at e; subst e
    rw [doesB_iff hr hn]
    intro l t hx
    have hxr := offB_false.1 (hr.edges _ (mem_outs.1 hx))
    simp only at hxr
    exact ⟨t, by omega, hx, by simp⟩) p p hp hp (by simp)
theorem Great.trans (h : Great s n R) (hr : s.Right) (hn : s.st = (n : Int)) {p q r : Nat} (hp : p < n) (h1 : R p q = true) (h2 : R q r = true) : R p r = true := by
  have hq := h.left.rng p q hp h1
  have hrn := h.left.rng q r hq h2
  refine h.left.sim (fun a i => (List.range n).any (fun m => R a m && R m i)) (fun a i ha hi e => ?_) p r hp hrn (by rw [List.any_eq_true]; exact ⟨q, List.mem_range.2 hq, by simp [h1, h2]⟩)
  rw [List.any_eq_true] at e
  obtain ⟨m, hm, e⟩ := e
  rw [List.mem_range] at hm
  rw [Bool.and_eq_true] at e
  have d1 := (doesB_iff hr hn).1 (h.does a m ha e.1)
  have d2 := (doesB_iff hr hn).1 (h.does m i hm e.2)
  rw [doesB_iff hr hn]
  intro l t hx
  obtain ⟨u, hu, hu1, hu2⟩ := d1 l t hx
  obtain ⟨v, hv, hv1, hv2⟩ := d2 l u hu1
  exact ⟨v, hv, hv1, by rw [List.any_eq_true]; exact ⟨u, List.mem_range.2 hu, by simp [hu2, hv2]⟩⟩
theorem Great.fix (h : Great s n R) (hr : s.Right) (hn : s.st = (n : Int)) {p q : Nat} (hp : p < n) (hq : q < n) : R p q = doesB s R p q := by
  rw [Bool.eq_iff_iff]
  refine ⟨h.does p q hp, fun hd => ?_⟩
  refine h.left.sim (fun a i => R a i || decide (a = p ∧ i = q)) (fun a i ha hi e => ?_) p q hp hq (by simp)
  have hmono : ∀ a i, a < n → i < n → R a i = true → (R a i || decide (a = p ∧ i = q)) = true := fun a i _ _ e => by simp [e]
  simp only [Bool.or_eq_true, decide_eq_true_eq] at e
  rcases e with e | ⟨rfl, rfl⟩
  · exact doesB_mono hr hn hmono (h.does a i ha e)
  · exact doesB_mono hr hn hmono hd
theorem Great.uniq {R' : Nat → Nat → Bool} (h : Great s n R) (h' : Great s n R') {p q : Nat} (hp : p < n) : R p q = R' p q := by
  rw [Bool.eq_iff_iff]
  exact ⟨fun e => h'.left.sim R (fun a i ha _ e2 => h.does a i ha e2) p q hp (h.left.rng p q hp e) e, fun e => h.left.sim R' (fun a i ha _ e2 => h'.does a i ha e2) p q hp (h'.left.rng p q hp e) e⟩

theorem clsN_mut (h : Great s n R) (hr : s.Right) (hn : s.st = (n : Int)) (hn3 : n ≤ 300) {p : Nat} (hp : p < n) : R p (clsN R p) = true ∧ R (clsN R p) p = true := by
  unfold clsN
  rcases hf : (idsN (R p) 320).find? (fun q => R q p) with _ | i
  · rw [List.find?_eq_none] at hf
    have hpp := h.refl hr hn hp
    exact absurd hpp (hf p (by unfold idsN; rw [List.mem_filter, List.mem_range]; exact ⟨by omega, hpp⟩))
  · have h1 := List.mem_of_find?_eq_some hf
    have h2 := List.find?_some hf
    unfold idsN at h1
    exact ⟨(List.mem_filter.1 h1).2, h2⟩
theorem clsN_congr (h : Great s n R) (hr : s.Right) (hn : s.st = (n : Int)) {p q : Nat} (hp : p < n) (hq : q < n) (h1 : R p q = true) (h2 : R q p = true) : clsN R p = clsN R q := by
  have e1 : ∀ i, R p i = R q i := fun i => by
    rw [Bool.eq_iff_iff]
    exact ⟨fun e => h.trans hr hn hq h2 e, fun e => h.trans hr hn hp h1 e⟩
  have e2 : ∀ i, i < n → R i p = R i q := fun i hi => by
    rw [Bool.eq_iff_iff]
    exact ⟨fun e => h.trans hr hn hi e h1, fun e => h.trans hr hn hi e h2⟩
  have e3 : idsN (R p) 320 = idsN (R q) 320 := by rw [funext e1]
  unfold clsN
  rw [e3]
  have e4 : ∀ L : List Nat, (∀ i ∈ L, i < n) → L.find? (fun x => R x p) = L.find? (fun x => R x q) := by
    intro L
    induction L with
    | nil => intro _; rfl
    | cons x L ih =>
      intro hL
      rw [List.find?_cons, List.find?_cons, e2 x (hL x List.mem_cons_self), ih (fun i hi => hL i (List.mem_cons_of_mem _ hi))]
  rw [e4 _ (fun i hi => by unfold idsN at hi; exact h.left.rng q i hq (List.mem_filter.1 hi).2)]
/-- One class: above each other. -/
theorem clsN_iff (h : Great s n R) (hr : s.Right) (hn : s.st = (n : Int)) (hn3 : n ≤ 300) {p q : Nat} (hp : p < n) (hq : q < n) : clsN R p = clsN R q ↔ R p q = true ∧ R q p = true := by
  constructor
  · intro e
    obtain ⟨a1, a2⟩ := clsN_mut h hr hn hn3 hp
    obtain ⟨b1, b2⟩ := clsN_mut h hr hn hn3 hq
    rw [← e] at b1 b2
    exact ⟨h.trans hr hn hp a1 b2, h.trans hr hn hq b1 a2⟩
  · rintro ⟨h1, h2⟩
    exact clsN_congr h hr hn hp hq h1 h2
theorem canon_clsN (h : Great s n R) (hr : s.Right) (hn : s.st = (n : Int)) (hn3 : n ≤ 300) {p q : Nat} (hp : p < n) (hq : q < n) {x y : Int} (hx : (canon (fl n (fun p => (clsN R p : Int))))[p]? = some x) (hy : (canon (fl n (fun p => (clsN R p : Int))))[q]? = some y) : (x = y) ↔ (R p q = true ∧ R q p = true) := by
  rw [canon_get, fl_get _ hp] at hx
  rw [canon_get, fl_get _ hq] at hy
  simp only [Option.map_some, Option.some.injEq] at hx hy
  have hc := canon_eq_iff (fl_get (fun p => (clsN R p : Int)) hp) (fl_get (fun p => (clsN R p : Int)) hq)
  rw [← clsN_iff h hr hn hn3 hp hq, ← hx, ← hy]
  exact hc.trans (by omega)
end

/-! the system of law17.alive -/
def aliveS : Lts := ⟨(3 : Nat), 2, 0, [(0, 1, 1)]⟩
theorem aliveS_right : aliveS.Right := ⟨by unfold HeadBad aliveS; simp, by decide⟩
theorem aliveS_nf : nf ltE [((0 : Int), (1 : Int), (1 : Int))] = [(0, 1, 1)] := by decide
theorem aliveS_R {R : Nat → Nat → Bool} (h : Great aliveS 3 R) : R 1 0 = true ∧ R 0 1 = false ∧ canon (fl 3 (fun p => (clsN R p : Int))) = [0, 1, 1] := by
  have f := fun {p q : Nat} (hp : p < 3) (hq : q < 3) => h.fix aliveS_right rfl hp hq
  have a00 : R 0 0 = true := h.refl aliveS_right rfl (by omega)
  have a11 : R 1 1 = true := h.refl aliveS_right rfl (by omega)
  have o0 : aliveS.outs ((0 : Nat) : Int) = [(1, 1)] := by decide
  have o1 : aliveS.outs ((1 : Nat) : Int) = [] := by decide
  have o2 : aliveS.outs ((2 : Nat) : Int) = [] := by decide
  have a10 : R 1 0 = true := by rw [f (by omega) (by omega)]; unfold doesB; rw [o1]; rfl
  have a12 : R 1 2 = true := by rw [f (by omega) (by omega)]; unfold doesB; rw [o1]; rfl
  have a20 : R 2 0 = true := by rw [f (by omega) (by omega)]; unfold doesB; rw [o2]; rfl
  have a21 : R 2 1 = true := by rw [f (by omega) (by omega)]; unfold doesB; rw [o2]; rfl
  have a01 : R 0 1 = false := by rw [f (by omega) (by omega)]; unfold doesB stepD; rw [o0, o1]; rfl
  have a02 : R 0 2 = false := by rw [f (by omega) (by omega)]; unfold doesB stepD; rw [o0, o2]; rfl
  refine ⟨a10, a01, ?_⟩
  have hlt : ∀ p, p < 3 → clsN R p < 3 := fun p hp => clsN_lt h.left hp
  have m0 := clsN_mut h aliveS_right rfl (by omega) (p := 0) (by omega)
  have m1 := clsN_mut h aliveS_right rfl (by omega) (p := 1) (by omega)
  have c12 : clsN R 1 = clsN R 2 := (clsN_iff h aliveS_right rfl (by omega) (by omega) (by omega)).2 ⟨a12, a21⟩
  have c01 : clsN R 0 ≠ clsN R 1 := fun e => by
    have := (clsN_iff h aliveS_right rfl (by omega) (by omega) (by omega)).1 e
    rw [a01] at this; exact absurd this.1 (by decide)
  have hfl : fl 3 (fun p => (clsN R p : Int)) = [(clsN R 0 : Int), (clsN R 1 : Int), (clsN R 1 : Int)] := by
    unfold fl
    simp [List.range_succ, c12]
  rw [hfl]
  obtain ⟨x, hx⟩ : ∃ x : Int, x = (clsN R 0 : Int) := ⟨_, rfl⟩
  obtain ⟨y, hy⟩ : ∃ y : Int, y = (clsN R 1 : Int) := ⟨_, rfl⟩
  have hxy : x ≠ y := by omega
  rw [← hx, ← hy]
  have := canon_map (f := fun z => if z = 0 then x else y) (l := [0, 1, 1]) (by
    intro a ha b hb e
    simp at ha hb
    rcases ha with rfl | rfl <;> rcases hb with rfl | rfl <;> simp at e ⊢
    · exact hxy e
    · exact hxy e.symm)
  simp at this
  rw [this]
  decide
end Go.Proofs.YtfakdgljilmpkaaGreatDoor

namespace Go.Proofs.YtfakdgljilmpkaaGreatDoor
open Go.RowKit Pl

theorem sysS {w : World} {B : Nat} {x y z : Int} {v : Value} (h : w.heap[B]? = some (.cells #[.int .i64 x, .int .i64 y, .int .i64 z, v] 24 (0, 0))) :
    w.cell? ⟨B, 0, none⟩ = some (.int .i64 x) ∧ w.cell? ⟨B, 1, none⟩ = some (.int .i64 y) ∧ w.cell? ⟨B, 2, none⟩ = some (.int .i64 z) ∧ w.cell? ⟨B, 3, none⟩ = some v ∧ B < w.heap.size := by
  refine ⟨?_, ?_, ?_, ?_, (Array.getElem?_eq_some_iff.1 h).1⟩ <;> simp [World.cell?, h]

set_option maxRecDepth 100000 in
set_option maxHeartbeats 4000000 in
theorem alive17_any {w : World} {p : Addr} (hG : GErr 0 p w) (hT : Tab w) :
    Calls Tryz.prog 35 #[] w fun e w' => e = .returned (.bool true) ∧ Below w.heap.size w w' := by
  have HG := Lib.hid hG; have HT := Lib.hid hT
  clear hG hT
  go_enter Tryz.func35, Tryz.ntmps35
  go_wp2_with fail
  have hS : SlAt encE 3 (w.alloc (.cells #[.int .i64 0, .int .i64 1, .int .i64 1] 35)) (some ⟨w.heap.size, 0, none⟩) w.heap.size 0 [(0, 1, 1)] := by
    have h := World.ownsRow_lit (e := 35) (size := 3) (base := w.heap.size) w #[.int .i64 0, .int .i64 1, .int .i64 1] 1 (Nat.le_refl _) (by unfold maxLen; omega) rfl
    obtain ⟨a, c, b, hv, _, _, hs, _⟩ := slAt_own (xs := [((0 : Int), (1 : Int), (1 : Int))]) lenE h
    simp only [Value.slice.injEq] at hv
    obtain ⟨rfl, _, _⟩ := hv
    have := hs.ad (by decide)
    simp at this
    subst this
    exact hs
  have hB0 := ((Below.refl w.heap.size w).alloc (Nat.le_refl _) (.cells #[.int .i64 0, .int .i64 1, .int .i64 1] 35)).alloc (by simp) (.cells #[.int .i64 3, .int .i64 2, .int .i64 0, .slice (some ⟨w.heap.size, 0, none⟩) 1 1] 24)
  have hx0 := heap_alloc_new (w.alloc (.cells #[.int .i64 0, .int .i64 1, .int .i64 1] 35)) (.cells #[.int .i64 3, .int .i64 2, .int .i64 0, .slice (some ⟨w.heap.size, 0, none⟩) 1 1] 24)
  rw [show (w.alloc (.cells #[.int .i64 0, .int .i64 1, .int .i64 1] 35)).heap.size = w.heap.size + 1 by simp] at hx0
  have hS1 := hS.alloc (.cells #[.int .i64 3, .int .i64 2, .int .i64 0, .slice (some ⟨w.heap.size, 0, none⟩) 1 1] 24)
  have hb1 := below_any (n := 3) (lb := 2) (s0 := 0) (es := [(0, 1, 1)]) (c := 1) aliveS_right (by omega) (HG.out.below hB0) (HT.out.below hB0) hS1 (p := 1) (q := 0) (by omega) (by omega)
  refine hb1.mono ?_
  rintro e w1 ⟨R, rfl, hgt, hB1⟩
  rw [aliveS_nf] at hgt
  rw [(aliveS_R (R := R) hgt).1]
  have hx1 := (hB1.block (w.heap.size + 1) (by simp)).trans hx0
  have hB1' := hB0.trans (hB1.mono (by simp; omega))
  have hS2 := hS1.below hB1 (Nat.le_refl _)
  have HB1 := Lib.hid hB1'; have HX1 := Lib.hid hx1; have HS := Lib.hid hS2
  obtain ⟨x0, x1, x2, x3, x4⟩ := sysS hx1
  clear hB0 hx0 hS hS1 hb1 hgt hx1 hB1 hB1' hS2
  go_wp2_with fail
  refine (below_any (n := 3) (lb := 2) (s0 := 0) (es := [(0, 1, 1)]) (c := 1) aliveS_right (by omega) (HG.out.below HB1.out) (HT.out.below HB1.out) HS.out (p := 0) (q := 1) (by omega) (by omega)).mono ?_
  rintro e w2 ⟨R2, rfl, hgt, hB2⟩
  rw [aliveS_nf] at hgt
  rw [(aliveS_R (R := R2) hgt).2.1]
  have hx2 := (hB2.block (w.heap.size + 1) x4).trans HX1.out
  have hB2' := HB1.out.trans (hB2.mono HB1.out.size)
  have hS3 := HS.out.below hB2 (Nat.le_refl _)
  clear x0 x1 x2 x3 x4 HX1 HB1 HS
  have HB2 := Lib.hid hB2'; have HS := Lib.hid hS3
  obtain ⟨x0, x1, x2, x3, x4⟩ := sysS hx2
  clear hgt hx2 hB2 hB2' hS3
  go_wp2_with fail
  refine (simClasses_any (n := 3) (lb := 2) (s0 := 0) (es := [(0, 1, 1)]) (c := 1) aliveS_right (by omega) (HG.out.below HB2.out) (HT.out.below HB2.out) HS.out).mono ?_
  rintro e w3 ⟨R3, v, rfl, hgt, hown, hB3⟩
  rw [aliveS_nf] at hgt
  rw [(aliveS_R (R := R3) hgt).2.2] at hown
  obtain ⟨la, lc, lb, rfl, _, _, hls, _⟩ := slAt_own (xs := [0, 1, 1]) lenI hown
  obtain rfl := hls.ad (by decide)
  have l2 := hls.ci (i := 2) (x := 1) rfl
  have ll := hls.lt (by decide)
  simp only [Nat.zero_add] at l2
  have HB3 := Lib.hid (HB2.out.trans (hB3.mono HB2.out.size))
  clear hgt hown hls hB3 x0 x1 x2 x3 x4 HB2 HS
  go_wp2_with fail
  go_ret
  exact ⟨rfl, HB3.out⟩
end Go.Proofs.YtfakdgljilmpkaaGreatDoor

namespace Go.Proofs.YtfakdgljilmpkaaGreatDoor
open Go.RowKit Pl

def Small17 (s : Lts) (w : World) (e : Ending) (w' : World) : Prop := ∃ m : Bool, e = .returned (.bool m) ∧ (m = true ↔ s.st ≤ 25 ∧ s.es.length ≤ 150 ∧ s.Right) ∧ Below w.heap.size w w'
theorem small17_any {p : Addr} {s : Lts} {a : Option Addr} {b off c : Nat} {w : World} (hG : GErr 0 p w) (hS : SlAt encE 3 w a b off s.es) :
    Calls Tryz.prog 34 #[.agg #[.int .i64 s.st, .int .i64 s.lb, .int .i64 s.s0, .slice a s.es.length c]] w (Small17 s w) := by
  have hb := (Below.refl w.heap.size w).alloc (Nat.le_refl _) (.cells #[.int .i64 s.st, .int .i64 s.lb, .int .i64 s.s0, .slice a s.es.length c] 24)
  have HB := Lib.hid hb
  by_cases h1 : s.st ≤ 25
  · by_cases h2 : s.es.length ≤ 150
    · have h2' : (s.es.length : Int) ≤ 150 := by omega
      by_cases hr : s.Right
      · have HC := Lib.hid (check_ok hr a b off c _ (hG.below hb) (hS.below hb (Nat.le_refl _)))
        have HR := Lib.hid hr
        clear hb hG hS hr
        go_enter Tryz.func34, Tryz.ntmps34
        go_wp2_with fail
        refine HC.out.mono ?_
        rintro e w1 ⟨rfl, hB1⟩
        have HB1 := Lib.hid (HB.out.trans (hB1.mono (by simp)))
        clear hB1
        go_wp2_with fail
        go_ret
        unfold Small17
        exact ⟨true, rfl, by simp [h1, h2, HR.out], HB1.out⟩
      · have HC := Lib.hid (check_no hr a b off c _ (hG.below hb) (hS.below hb (Nat.le_refl _)))
        have HR := Lib.hid hr
        clear hb hG hS hr
        go_enter Tryz.func34, Tryz.ntmps34
        go_wp2_with fail
        refine HC.out.mono ?_
        rintro e w1 ⟨v, rfl, hf, hB1⟩
        obtain ⟨fb, rfl, _⟩ := hf.ex
        have HB1 := Lib.hid (HB.out.trans (hB1.mono (by simp)))
        clear hB1 hf
        go_wp2_with fail
        go_ret
        unfold Small17
        exact ⟨false, rfl, by simp [HR.out], HB1.out⟩
    · have h2' : ¬ (s.es.length : Int) ≤ 150 := by omega
      clear hb hG hS
      go_enter Tryz.func34, Tryz.ntmps34
      go_wp2_with fail
      go_ret
      unfold Small17
      exact ⟨false, rfl, by simp [h2], HB.out⟩
  · clear hb hG hS
    go_enter Tryz.func34, Tryz.ntmps34
    go_wp2_with fail
    go_ret
    unfold Small17
    exact ⟨false, rfl, by simp; omega, HB.out⟩
end Go.Proofs.YtfakdgljilmpkaaGreatDoor

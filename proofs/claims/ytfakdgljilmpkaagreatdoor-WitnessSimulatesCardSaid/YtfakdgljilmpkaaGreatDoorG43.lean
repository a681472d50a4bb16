/-
  The greatest simulation, plain: it orders the states; a pair stands in it where every step is met.
  law17.alive.
  law17.small.
  law17.above: the states above, as rows of truths.
-/
import Derived.Test.YtfakdgljilmpkaaGreatDoorG42
import Derived.Test.YtfakdgljilmpkaaGreatDoorG16
namespace Go.Proofs.YtfakdgljilmpkaaGreatDoor
open Go.RowKit Pl

theorem doesB_iff {s : Lts} (hr : s.Right) {n : Nat} (hn : s.st = (n : Int)) {R : Nat → Nat → Bool} {p q : Nat} : doesB s R p q = true ↔ ∀ (l : Int) (t : Nat), (l, (t : Int)) ∈ s.outs (p : Int) → ∃ u : Nat, u < n ∧ (l, (u : Int)) ∈ s.outs (q : Int) ∧ R t u = true := by
  unfold doesB stepD
  rw [List.all_eq_true]
  constructor
  · intro h l t hx
    have h1 := h _ hx
    rw [List.any_eq_true] at h1
    obtain ⟨y, hy, h2⟩ := h1
    have hyr := offB_false.1 (hr.edges _ (mem_outs.1 hy))
    obtain ⟨y1, y2⟩ := y
    simp only [Bool.and_eq_true, decide_eq_true_eq, Int.toNat_natCast] at hyr h2
    obtain ⟨u, rfl⟩ := Int.eq_ofNat_of_zero_le hyr.2.2.2.2.1
    obtain ⟨rfl, h2⟩ := h2
    exact ⟨u, by omega, hy, by simpa using h2⟩
  · intro h x hx
    have hxr := offB_false.1 (hr.edges _ (mem_outs.1 hx))
    obtain ⟨l, x2⟩ := x
    simp only at hxr
    obtain ⟨t, rfl⟩ := Int.eq_ofNat_of_zero_le hxr.2.2.2.2.1
    obtain ⟨u, _, h1, h2⟩ := h l t hx
    rw [List.any_eq_true]
    exact ⟨_, h1, by simp [h2]⟩

section
variable {s : Lts} {n : Nat} {R : Nat → Nat → Bool}
theorem Great.refl (h : Great s n R) (hr : s.Right) (hn : s.st = (n : Int)) {p : Nat} (hp : p < n) : R p p = true :=
  h.left.sim (fun a i => decide (a = i)) (fun a i ha _ e => by
    simp at e; subst e
    rw [doesB_iff hr hn]
    intro l t hx
    have hxr := offB_false.1 (hr.edges _ (mem_outs.1 hx))
    simp only at hxr
    exact ⟨t, by omega, hx, by simp⟩) p p hp hp (by simp)
theorem Great.trans (h : Great s n R) (hr : s.Right) (hn : s.st = (n : Int)) {p q r : Nat} (hp : p < n) (h1 : R p q = true) (h2 : R q r = true) : R p r = true := by
  have hq := h.left.rng p q hp h1
  have hrn := h.left.rng q r hq h2
  refine h.left.sim (fun a i => (List.range n).any (fun m => R a m && R m i)) (fun a i ha hi e => ?_) p r hp hrn (by rw [List.any_eq_true]; exact ⟨q, List.mem_range.2 hq, by simp [h1, h2]⟩)
  rw [List.any_eq_true] at e
  obtain ⟨m, hm, e⟩ := e
  rw [List.mem_range] at hm
  rw [Bool.and_eq_true] at e
  have d1 := (doesB_iff hr hn).1 (h.does a m ha e.1)
  have d2 := (doesB_iff hr hn).1 (h.does m i hm e.2)
  rw [doesB_iff hr hn]
  intro l t hx
  obtain ⟨u, hu, hu1, hu2⟩ := d1 l t hx
  obtain ⟨v, hv, hv1, hv2⟩ := d2 l u hu1
  exact ⟨v, hv, hv1, by rw [List.any_eq_true]; exact ⟨u, List.mem_range.2 hu, by simp [hu2, hv2]⟩⟩
theorem Great.fix (h : Great s n R) (hr : s.Right) (hn : s.st = (n : Int)) {p q : Nat} (hp : p < n) (hq : q < n) : R p q = doesB s R p q := by
  rw [Bool.eq_iff_iff]
  refine ⟨h.does p q hp, fun hd => ?_⟩
  refine h.left.sim (fun a i => R a i || decide (a = p ∧ i = q)) (fun a i ha hi e => ?_) p q hp hq (by simp)
  have hmono : ∀ a i, a < n → i < n → R a i = true → (R a i || decide (a = p ∧ i = q)) = true := fun a i _ _ e => by simp [e]
  simp only [Bool.or_eq_true, decide_eq_true_eq] at e
  rcases e with e | ⟨rfl, rfl⟩
  · exact doesB_mono hr hn hmono (h.does a i ha e)
  · exact doesB_mono hr hn hmono hd
theorem Great.uniq {R' : Nat → Nat → Bool} (h : Great s n R) (h' : Great s n R') {p q : Nat} (hp : p < n) : R p q = R' p q := by
  rw [Bool.eq_iff_iff]
  exact ⟨fun e => h'.left.sim R (fun a i ha _ e2 => h.does a i ha e2) p q hp (h.left.rng p q hp e) e, fun e => h.left.sim R' (fun a i ha _ e2 => h'.does a i ha e2) p q hp (h'.left.rng p q hp e) e⟩

theorem clsN_mut (h : Great s n R) (hr : s.Right) (hn : s.st = (n : Int)) (hn3 : n ≤ 300) {p : Nat} (hp : p < n) : R p (clsN R p) = true ∧ R (clsN R p) p = true := by
  unfold clsN
  rcases hf : (idsN (R p) 320).find? (fun q => R q p) with _ | i
  · rw [List.find?_eq_none] at hf
    have hpp := h.refl hr hn hp
    exact absurd hpp (hf p (by unfold idsN; rw [List.mem_filter, List.mem_range]; exact ⟨by omega, hpp⟩))
  · have h1 := List.mem_of_find?_eq_some hf
    have h2 := List.find?_some hf
    unfold idsN at h1
    exact ⟨(List.mem_filter.1 h1).2, h2⟩
theorem clsN_congr (h : Great s n R) (hr : s.Right) (hn : s.st = (n : Int)) {p q : Nat} (hp : p < n) (hq : q < n) (h1 : R p q = true) (h2 : R q p = true) : clsN R p = clsN R q := by
  have e1 : ∀ i, R p i = R q i := fun i => by
    rw [Bool.eq_iff_iff]
    exact ⟨fun e => h.trans hr hn hq h2 e, fun e => h.trans hr hn hp h1 e⟩
  have e2 : ∀ i, i < n → R i p = R i q := fun i hi => by
    rw [Bool.eq_iff_iff]
    exact ⟨fun e => h.trans hr hn hi e h1, fun e => h.trans hr hn hi e h2⟩
  have e3 : idsN (R p) 320 = idsN (R q) 320 := by rw [funext e1]
  unfold clsN
  rw [e3]
  have e4 : ∀ L : List Nat, (∀ i ∈ L, i < n) → L.find? (fun x => R x p) = L.find? (fun x => R x q) := by
    intro L
    induction L with
    | nil => intro _; rfl
    | cons x L ih =>
      intro hL
      rw [List.find?_cons, List.find?_cons, e2 x (hL x List.mem_cons_self), ih (fun i hi => hL i (List.mem_cons_of_mem _ hi))]
  rw [e4 _ (fun i hi => by unfold idsN at hi; exact h.left.rng q i hq (List.mem_filter.1 hi).2)]
/-- One class: above each other. -/
theorem clsN_iff (h : Great s n R) (hr : s.Right) (hn : s.st = (n : Int)) (hn3 : n ≤ 300) {p q : Nat} (hp : p < n) (hq : q < n) : clsN R p = clsN R q ↔ R p q = true ∧ R q p = true := by
  constructor
  · intro e
    obtain ⟨a1, a2⟩ := clsN_mut h hr hn hn3 hp
    obtain ⟨b1, b2⟩ := clsN_mut h hr hn hn3 hq
    rw [← e] at b1 b2
    exact ⟨h.trans hr hn hp a1 b2, h.trans hr hn hq b1 a2⟩
  · rintro ⟨h1, h2⟩
    exact clsN_congr h hr hn hp hq h1 h2
theorem canon_clsN (h : Great s n R) (hr : s.Right) (hn : s.st = (n : Int)) (hn3 : n ≤ 300) {p q : Nat} (hp : p < n) (hq : q < n) {x y : Int} (hx : (canon (fl n (fun p => (clsN R p : Int))))[p]? = some x) (hy : (canon (fl n (fun p => (clsN R p : Int))))[q]? = some y) : (x = y) ↔ (R p q = true ∧ R q p = true) := by
  rw [canon_get, fl_get _ hp] at hx
  rw [canon_get, fl_get _ hq] at hy
  simp only [Option.map_some, Option.some.injEq] at hx hy
  have hc := canon_eq_iff (fl_get (fun p => (clsN R p : Int)) hp) (fl_get (fun p => (clsN R p : Int)) hq)
  rw [← clsN_iff h hr hn hn3 hp hq, ← hx, ← hy]
  exact hc.trans (by omega)
end

/-! the system of law17.alive -/
def aliveS : Lts := ⟨(3 : Nat), 2, 0, [(0, 1, 1)]⟩
theorem aliveS_right : aliveS.Right := ⟨by unfold HeadBad aliveS; simp, by decide⟩
theorem aliveS_nf : nf ltE [((0 : Int), (1 : Int), (1 : Int))] = [(0, 1, 1)] := by decide
theorem aliveS_R {R : Nat → Nat → Bool} (h : Great aliveS 3 R) : R 1 0 = true ∧ R 0 1 = false ∧ canon (fl 3 (fun p => (clsN R p : Int))) = [0, 1, 1] := by
  have f := fun {p q : Nat} (hp : p < 3) (hq : q < 3) => h.fix aliveS_right rfl hp hq
  have a00 : R 0 0 = true := h.refl aliveS_right rfl (by omega)
  have a11 : R 1 1 = true := h.refl aliveS_right rfl (by omega)
  have o0 : aliveS.outs ((0 : Nat) : Int) = [(1, 1)] := by decide
  have o1 : aliveS.outs ((1 : Nat) : Int) = [] := by decide
  have o2 : aliveS.outs ((2 : Nat) : Int) = [] := by decide
  have a10 : R 1 0 = true := by rw [f (by omega) (by omega)]; unfold doesB; rw [o1]; rfl
  have a12 : R 1 2 = true := by rw [f (by omega) (by omega)]; unfold doesB; rw [o1]; rfl
  have a20 : R 2 0 = true := by rw [f (by omega) (by omega)]; unfold doesB; rw [o2]; rfl
  have a21 : R 2 1 = true := by rw [f (by omega) (by omega)]; unfold doesB; rw [o2]; rfl
  have a01 : R 0 1 = false := by rw [f (by omega) (by omega)]; unfold doesB stepD; rw [o0, o1]; rfl
  have a02 : R 0 2 = false := by rw [f (by omega) (by omega)]; unfold doesB stepD; rw [o0, o2]; rfl
  refine ⟨a10, a01, ?_⟩
  have hlt : ∀ p, p < 3 → clsN R p < 3 := fun p hp => clsN_lt h.left hp
  have m0 := clsN_mut h aliveS_right rfl (by omega) (p := 0) (by omega)
  have m1 := clsN_mut h aliveS_right rfl (by omega) (p := 1) (by omega)
  have c12 : clsN R 1 = clsN R 2 := (clsN_iff h aliveS_right rfl (by omega) (by omega) (by omega)).2 ⟨a12, a21⟩
  have c01 : clsN R 0 ≠ clsN R 1 := fun e => by
    have := (clsN_iff h aliveS_right rfl (by omega) (by omega) (by omega)).1 e
    rw [a01] at this; exact absurd this.1 (by decide)
  have hfl : fl 3 (fun p => (clsN R p : Int)) = [(clsN R 0 : Int), (clsN R 1 : Int), (clsN R 1 : Int)] := by
    unfold fl
    simp [List.range_succ, c12]
  rw [hfl]
  obtain ⟨x, hx⟩ : ∃ x : Int, x = (clsN R 0 : Int) := ⟨_, rfl⟩
  obtain ⟨y, hy⟩ : ∃ y : Int, y = (clsN R 1 : Int) := ⟨_, rfl⟩
  have hxy : x ≠ y := by omega
  rw [← hx, ← hy]
  have := canon_map (f := fun z => if z = 0 then x else y) (l := [0, 1, 1]) (by
    intro a ha b hb e
    simp at ha hb
    rcases ha with rfl | rfl <;> rcases hb with rfl | rfl <;> simp at e ⊢
    · exact hxy e
    · exact hxy e.symm)
  simp at this
  rw [this]
  decide
end Go.Proofs.YtfakdgljilmpkaaGreatDoor

namespace Go.Proofs.YtfakdgljilmpkaaGreatDoor
open Go.RowKit Pl

theorem sysS {w : World} {B : Nat} {x y z : Int} {v : Value} (h : w.heap[B]? = some (.cells #[.int .i64 x, .int .i64 y, .int .i64 z, v] 24 (0, 0))) :
    w.cell? ⟨B, 0, none⟩ = some (.int .i64 x) ∧ w.cell? ⟨B, 1, none⟩ = some (.int .i64 y) ∧ w.cell? ⟨B, 2, none⟩ = some (.int .i64 z) ∧ w.cell? ⟨B, 3, none⟩ = some v ∧ B < w.heap.size := by
  refine ⟨?_, ?_, ?_, ?_, (Array.getElem?_eq_some_iff.1 h).1⟩ <;> simp [World.cell?, h]

set_option maxRecDepth 100000 in
set_option maxHeartbeats 4000000 in
theorem alive17_any {w : World} {p : Addr} (hG : GErr 0 p w) (hT : Tab w) :
    Calls Tryz.prog 35 #[] w fun e w' => e = .returned (.bool true) ∧ Below w.heap.size w w' := by
  have HG := Lib.hid hG; have HT := Lib.hid hT
  clear hG hT
  go_enter Tryz.func35, Tryz.ntmps35
  go_wp2_with fail
  have hS : SlAt encE 3 (w.alloc (.cells #[.int .i64 0, .int .i64 1, .int .i64 1] 35)) (some ⟨w.heap.size, 0, none⟩) w.heap.size 0 [(0, 1, 1)] := by
    have h := World.ownsRow_lit (e := 35) (size := 3) (base := w.heap.size) w #[.int .i64 0, .int .i64 1, .int .i64 1] 1 (Nat.le_refl _) (by unfold maxLen; omega) rfl
    obtain ⟨a, c, b, hv, _, _, hs, _⟩ := slAt_own (xs := [((0 : Int), (1 : Int), (1 : Int))]) lenE h
    simp only [Value.slice.injEq] at hv
    obtain ⟨rfl, _, _⟩ := hv
    have := hs.ad (by decide)
    simp at this
    subst this
    exact hs
  have hB0 := ((Below.refl w.heap.size w).alloc (Nat.le_refl _) (.cells #[.int .i64 0, .int .i64 1, .int .i64 1] 35)).alloc (by simp) (.cells #[.int .i64 3, .int .i64 2, .int .i64 0, .slice (some ⟨w.heap.size, 0, none⟩) 1 1] 24)
  have hx0 := heap_alloc_new (w.alloc (.cells #[.int .i64 0, .int .i64 1, .int .i64 1] 35)) (.cells #[.int .i64 3, .int .i64 2, .int .i64 0, .slice (some ⟨w.heap.size, 0, none⟩) 1 1] 24)
  rw [show (w.alloc (.cells #[.int .i64 0, .int .i64 1, .int .i64 1] 35)).heap.size = w.heap.size + 1 by simp] at hx0
  have hS1 := hS.alloc (.cells #[.int .i64 3, .int .i64 2, .int .i64 0, .slice (some ⟨w.heap.size, 0, none⟩) 1 1] 24)
  have hb1 := below_any (n := 3) (lb := 2) (s0 := 0) (es := [(0, 1, 1)]) (c := 1) aliveS_right (by omega) (HG.out.below hB0) (HT.out.below hB0) hS1 (p := 1) (q := 0) (by omega) (by omega)
  refine hb1.mono ?_
  rintro e w1 ⟨R, rfl, hgt, hB1⟩
  rw [aliveS_nf] at hgt
  rw [(aliveS_R (R := R) hgt).1]
  have hx1 := (hB1.block (w.heap.size + 1) (by simp)).trans hx0
  have hB1' := hB0.trans (hB1.mono (by simp; omega))
  have hS2 := hS1.below hB1 (Nat.le_refl _)
  have HB1 := Lib.hid hB1'; have HX1 := Lib.hid hx1; have HS := Lib.hid hS2
  obtain ⟨x0, x1, x2, x3, x4⟩ := sysS hx1
  clear hB0 hx0 hS hS1 hb1 hgt hx1 hB1 hB1' hS2
  go_wp2_with fail
  refine (below_any (n := 3) (lb := 2) (s0 := 0) (es := [(0, 1, 1)]) (c := 1) aliveS_right (by omega) (HG.out.below HB1.out) (HT.out.below HB1.out) HS.out (p := 0) (q := 1) (by omega) (by omega)).mono ?_
  rintro e w2 ⟨R2, rfl, hgt, hB2⟩
  rw [aliveS_nf] at hgt
  rw [(aliveS_R (R := R2) hgt).2.1]
  have hx2 := (hB2.block (w.heap.size + 1) x4).trans HX1.out
  have hB2' := HB1.out.trans (hB2.mono HB1.out.size)
  have hS3 := HS.out.below hB2 (Nat.le_refl _)
  clear x0 x1 x2 x3 x4 HX1 HB1 HS
  have HB2 := Lib.hid hB2'; have HS := Lib.hid hS3
  obtain ⟨x0, x1, x2, x3, x4⟩ := sysS hx2
  clear hgt hx2 hB2 hB2' hS3
  go_wp2_with fail
  refine (simClasses_any (n := 3) (lb := 2) (s0 := 0) (es := [(0, 1, 1)]) (c := 1) aliveS_right (by omega) (HG.out.below HB2.out) (HT.out.below HB2.out) HS.out).mono ?_
  rintro e w3 ⟨R3, v, rfl, hgt, hown, hB3⟩
  rw [aliveS_nf] at hgt
  rw [(aliveS_R (R := R3) hgt).2.2] at hown
  obtain ⟨la, lc, lb, rfl, _, _, hls, _⟩ := slAt_own (xs := [0, 1, 1]) lenI hown
  obtain rfl := hls.ad (by decide)
  have l2 := hls.ci (i := 2) (x := 1) rfl
  have ll := hls.lt (by decide)
  simp only [Nat.zero_add] at l2
  have HB3 := Lib.hid (HB2.out.trans (hB3.mono HB2.out.size))
  clear hgt hown hls hB3 x0 x1 x2 x3 x4 HB2 HS
  go_wp2_with fail
  go_ret
  exact ⟨rfl, HB3.out⟩
end Go.Proofs.YtfakdgljilmpkaaGreatDoor

namespace Go.Proofs.YtfakdgljilmpkaaGreatDoor
open Go.RowKit Pl

def Small17 (s : Lts) (w : World) (e : Ending) (w' : World) : Prop := ∃ m : Bool, e = .returned (.bool m) ∧ (m = true ↔ s.st ≤ 25 ∧ s.es.length ≤ 150 ∧ s.Right) ∧ Below w.heap.size w w'
theorem small17_any {p : Addr} {s : Lts} {a : Option Addr} {b off c : Nat} {w : World} (hG : GErr 0 p w) (hS : SlAt encE 3 w a b off s.es) :
    Calls Tryz.prog 34 #[.agg #[.int .i64 s.st, .int .i64 s.lb, .int .i64 s.s0, .slice a s.es.length c]] w (Small17 s w) := by
  have hb := (Below.refl w.heap.size w).alloc (Nat.le_refl _) (.cells #[.int .i64 s.st, .int .i64 s.lb, .int .i64 s.s0, .slice a s.es.length c] 24)
  have HB := Lib.hid hb
  by_cases h1 : s.st ≤ 25
  · by_cases h2 : s.es.length ≤ 150
    · have h2' : (s.es.length : Int) ≤ 150 := by omega
      by_cases hr : s.Right
      · have HC := Lib.hid (check_ok hr a b off c _ (hG.below hb) (hS.below hb (Nat.le_refl _)))
        have HR := Lib.hid hr
        clear hb hG hS hr
        go_enter Tryz.func34, Tryz.ntmps34
        go_wp2_with fail
        refine HC.out.mono ?_
        rintro e w1 ⟨rfl, hB1⟩
        have HB1 := Lib.hid (HB.out.trans (hB1.mono (by simp)))
        clear hB1
        go_wp2_with fail
        go_ret
        unfold Small17
        exact ⟨true, rfl, by simp [h1, h2, HR.out], HB1.out⟩
      · have HC := Lib.hid (check_no hr a b off c _ (hG.below hb) (hS.below hb (Nat.le_refl _)))
        have HR := Lib.hid hr
        clear hb hG hS hr
        go_enter Tryz.func34, Tryz.ntmps34
        go_wp2_with fail
        refine HC.out.mono ?_
        rintro e w1 ⟨v, rfl, hf, hB1⟩
        obtain ⟨fb, rfl, _⟩ := hf.ex
        have HB1 := Lib.hid (HB.out.trans (hB1.mono (by simp)))
        clear hB1 hf
        go_wp2_with fail
        go_ret
        unfold Small17
        exact ⟨false, rfl, by simp [HR.out], HB1.out⟩
    · have h2' : ¬ (s.es.length : Int) ≤ 150 := by omega
      clear hb hG hS
      go_enter Tryz.func34, Tryz.ntmps34
      go_wp2_with fail
      go_ret
      unfold Small17
      exact ⟨false, rfl, by simp [h2], HB.out⟩
  · clear hb hG hS
    go_enter Tryz.func34, Tryz.ntmps34
    go_wp2_with fail
    go_ret
    unfold Small17
    exact ⟨false, rfl, by simp; omega, HB.out⟩
end Go.Proofs.YtfakdgljilmpkaaGreatDoor

namespace Go.Proofs.YtfakdgljilmpkaaGreatDoor
open Go.RowKit Pl

theorem mem_upL {R : Nat → Nat → Bool} {p q : Nat} (hq : q < 320) : (q : Int) ∈ upL R p ↔ R p q = true := by
  unfold upL intsOf idsN
  rw [List.mem_map]
  constructor
  · rintro ⟨x, hx, e⟩
    have : x = q := Int.ofNat.inj e
    subst this
    exact (List.mem_filter.1 hx).2
  · intro h
    exact ⟨q, List.mem_filter.2 ⟨List.mem_range.2 hq, h⟩, rfl⟩

/-- Rows of truths, the first k made. -/
structure UB (w1 wr : World) (n k : Nat) (R : Nat → Nat → Bool) (rb : Nat → Nat) : Prop where
  bel : Below w1.heap.size w1 wr
  out : wr.rowIs w1.heap.size 32 n (fun j => if j < k then .slice (some ⟨rb j, 0, none⟩) n n else .slice none 0 0)
  rows : ∀ j, j < k → w1.heap.size < rb j ∧ rb j < wr.heap.size ∧ wr.rowIs (rb j) 4 n (fun q => .bool (R j q))
theorem UB.call {w1 wr w' : World} {n k : Nat} {R : Nat → Nat → Bool} {rb : Nat → Nat} (h : UB w1 wr n k R rb) (hB : Below wr.heap.size wr w') : UB w1 w' n k R rb :=
  ⟨h.bel.trans (hB.mono h.bel.size), h.out.of_block (hB.block _ h.out.lt), fun j hj => by
    obtain ⟨a, b, c⟩ := h.rows j hj
    exact ⟨a, Nat.lt_of_lt_of_le b hB.size, c.of_block (hB.block _ b)⟩⟩
/-- .. and of row k the first m of L marked. -/
structure UB2 (w1 wr : World) (n k : Nat) (R : Nat → Nat → Bool) (rb : Nat → Nat) (L : List Int) (m : Nat) : Prop where
  bel : Below w1.heap.size w1 wr
  out : wr.rowIs w1.heap.size 32 n (fun j => if j < k + 1 then .slice (some ⟨rb j, 0, none⟩) n n else .slice none 0 0)
  rows : ∀ j, j < k → w1.heap.size < rb j ∧ rb j < wr.heap.size ∧ rb j ≠ rb k ∧ wr.rowIs (rb j) 4 n (fun q => .bool (R j q))
  last : w1.heap.size < rb k ∧ rb k < wr.heap.size ∧ wr.rowIs (rb k) 4 n (fun q => .bool (decide ((q : Int) ∈ L.take m)))
theorem UB.step {w1 wr : World} {n k : Nat} {R : Nat → Nat → Bool} {rb : Nat → Nat} (h : UB w1 wr n k R rb) (L : List Int) :
    UB2 w1 ((wr.setCell ⟨w1.heap.size, k, none⟩ (.slice (some ⟨wr.heap.size, 0, none⟩) n n)).alloc (.cells (madeCells #[.bool false] n) 4)) n k R (fun j => if j = k then wr.heap.size else rb j) L 0 := by
  have hsz := h.out.lt
  have hs := size_setCell wr ⟨w1.heap.size, k, none⟩ (.slice (some ⟨wr.heap.size, 0, none⟩) n n)
  have hset : ∀ b, b < wr.heap.size → b ≠ w1.heap.size → ((wr.setCell ⟨w1.heap.size, k, none⟩ (.slice (some ⟨wr.heap.size, 0, none⟩) n n)).alloc (.cells (madeCells #[.bool false] n) 4)).heap[b]? = wr.heap[b]? := fun b h1 hb => (Below.heap_alloc _ _ _ (by rw [hs]; exact h1)).trans (Below.heap_setCell _ _ _ _ hb)
  refine ⟨(h.bel.setCell (Nat.le_refl _) _).alloc (by rw [hs]; omega) _, ((h.out.set k _).of_block (Below.heap_alloc _ _ _ (by rw [hs]; exact hsz))).congr (fun j _ => ?_), fun j hj => ?_, ?_⟩
  · by_cases e : j = k
    · subst e; simp
    · by_cases e2 : j < k
      · simp [e, e2, show j < k + 1 by omega]
      · simp [e, e2, show ¬ j < k + 1 by omega]
  · obtain ⟨a, b, c⟩ := h.rows j hj
    have hjk : j ≠ k := by omega
    simp only [if_neg hjk, if_true]
    exact ⟨a, by simp [hs]; omega, by omega, c.of_block (hset _ b (by omega))⟩
  · simp only [if_true]
    refine ⟨hsz, by simp [hs], ?_⟩
    have := World.rowIs_made (wr.setCell ⟨w1.heap.size, k, none⟩ (.slice (some ⟨wr.heap.size, 0, none⟩) n n)) (.bool false) n 4
    rw [hs] at this
    exact this.congr (fun j _ => by simp)
theorem UB2.set {w1 wr : World} {n k : Nat} {R : Nat → Nat → Bool} {rb : Nat → Nat} {L : List Int} {m q : Nat} (h : UB2 w1 wr n k R rb L m) (hq : L[m]? = some (q : Int)) : UB2 w1 (wr.setCell ⟨rb k, q, none⟩ (.bool true)) n k R rb L (m + 1) := by
  have hset : ∀ b, b ≠ rb k → (wr.setCell ⟨rb k, q, none⟩ (.bool true)).heap[b]? = wr.heap[b]? := fun b hb => Below.heap_setCell _ _ _ _ hb
  have hl := h.last
  refine ⟨h.bel.setCell (by show w1.heap.size ≤ rb k; omega) _, h.out.of_block (hset _ (by omega)), fun j hj => ?_, hl.1, by rw [size_setCell]; exact hl.2.1, (hl.2.2.set q _).congr (fun j _ => ?_)⟩
  · obtain ⟨a, b, c, d⟩ := h.rows j hj
    exact ⟨a, by rw [size_setCell]; exact b, c, d.of_block (hset _ c)⟩
  · rw [take_snoc hq]
    by_cases e : j = q
    · subst e; simp
    · have : ¬ (j : Int) = (q : Int) := by omega
      simp [e, this]
theorem UB2.done {w1 wr : World} {n k : Nat} {R : Nat → Nat → Bool} {rb : Nat → Nat} (h : UB2 w1 wr n k R rb (upL R k) (upL R k).length) (hn : n ≤ 300) : UB w1 wr n (k + 1) R rb :=
  ⟨h.bel, h.out, fun j hj => by
    by_cases e : j = k
    · subst e
      refine ⟨h.last.1, h.last.2.1, h.last.2.2.congr (fun q hq => ?_)⟩
      rw [List.take_length]
      congr 1
      rw [Bool.eq_iff_iff, decide_eq_true_eq, mem_upL (by omega)]
    · obtain ⟨a, b, _, d⟩ := h.rows j (by omega)
      exact ⟨a, b, d⟩⟩
/-- The answer of law17.above in memory. -/
structure TabB (w : World) (v : Value) (n : Nat) (R : Nat → Nat → Bool) : Prop where
  ex : ∃ (ob : Nat) (rb : Nat → Nat), v = .slice (some ⟨ob, 0, none⟩) n n ∧ w.rowIs ob 32 n (fun j => .slice (some ⟨rb j, 0, none⟩) n n) ∧ ∀ j, j < n → w.rowIs (rb j) 4 n (fun q => .bool (R j q))
theorem TabB.below {w w' : World} {v : Value} {n : Nat} {R : Nat → Nat → Bool} (h : TabB w v n R) (hB : Below w.heap.size w w') : TabB w' v n R := by
  obtain ⟨ob, rb, h1, h2, h3⟩ := h.ex
  exact ⟨ob, rb, h1, h2.of_block (hB.block _ h2.lt), fun j hj => (h3 j hj).of_block (hB.block _ (h3 j hj).lt)⟩

def Ab17 (s : Lts) (n : Nat) (w : World) (e : Ending) (w' : World) : Prop := ∃ (R : Nat → Nat → Bool) (v : Value), e = .returned (.tuple #[v, .bool true]) ∧ Great s n R ∧ TabB w' v n R ∧ Below w.heap.size w w'

set_option maxRecDepth 100000 in
set_option maxHeartbeats 4000000 in
theorem above17_any {p0 : Addr} {n : Nat} {lb s0 : Int} {es : List E} (h : Lts.Right ⟨n, lb, s0, es⟩) (hn3 : n ≤ 25) {a : Option Addr} {b off c : Nat} {w : World} (hG : GErr 0 p0 w) (hT : Tab w) (hS : SlAt encE 3 w a b off es) :
    Calls Tryz.prog 36 #[.agg #[.int .i64 n, .int .i64 lb, .int .i64 s0, .slice a es.length c]] w (Ab17 ⟨n, lb, s0, nf ltE es⟩ n w) := by
  have hB0 := (Below.refl w.heap.size w).alloc (Nat.le_refl _) (Obj.cells #[.int .i64 n, .int .i64 lb, .int .i64 s0, .slice a es.length c] 24)
  have hbx := heap_alloc_new w (Obj.cells #[.int .i64 n, .int .i64 lb, .int .i64 s0, .slice a es.length c] 24)
  have hmb := run_make_row' (P := Tryz.prog) 32 4 (.bool false) 1 Tryz.underlying32 (by kernel_rfl) rfl .i64 .i64 n (by omega) (by omega)
  have hmo := run_make_row' (P := Tryz.prog) 31 32 (.slice none 0 0) 24 Tryz.underlying31 (by kernel_rfl) rfl .i64 .i64 n (by omega) (by omega)
  have HA := Lib.hid (aboveL_any (c := c) h (by omega) (hG.below hB0) (hT.below hB0) (hS.below hB0 (Nat.le_refl _)))
  have HB0 := Lib.hid hB0; have HBX := Lib.hid hbx
  obtain ⟨s, hs⟩ : ∃ s : Lts, s = ⟨n, lb, s0, nf ltE es⟩ := ⟨_, rfl⟩
  rw [← hs] at HA ⊢
  clear hB0 hbx hS hG hT h hs
  go_enter Tryz.func36, Tryz.ntmps36
  go_wp2_with fail
  refine HA.out.mono ?_
  unfold UpPost
  rintro e w1 ⟨R, v, vs, rfl, hgt, hvl, hown, hrows, hB1⟩
  obtain ⟨va, vc, vb, rfl, _, _, hvs, _⟩ := slAt_own lenV hown
  rw [hvl]
  have hx1 := (hB1.block w.heap.size (by simp)).trans HBX.out
  have x0 : w1.cell? ⟨w.heap.size, 0, none⟩ = some (.int .i64 n) := by simp [World.cell?, hx1]
  have xl := (Array.getElem?_eq_some_iff.1 hx1).1
  have hb1 := HB0.out.trans (hB1.mono (by simp))
  have hub : UB w1 (w1.alloc (.cells (madeCells #[.slice none 0 0] n) 32)) n 0 R (fun _ => 0) :=
    ⟨(Below.refl _ _).alloc (Nat.le_refl _) _, (World.rowIs_made w1 (.slice none 0 0) n 32).congr (fun j _ => by simp), fun j hj => by omega⟩
  have HUB := Lib.hid hub; have HVS := Lib.hid hvs; have HROWS := Lib.hid hrows; have HGT := Lib.hid hgt; have HB1 := Lib.hid hb1; have HVL := Lib.hid hvl; have HX1 := Lib.hid hx1
  clear hB1 hx1 hb1 hub hvs hrows hgt hvl hown HA HB0 HBX
  go_wp2_with fail
  go_loopw [7, 9, 44] (fun v7 _ _ wr => ∃ (k : Nat) (rb : Nat → Nat), v7 = .int .i64 k ∧ k ≤ n ∧ UB w1 wr n k R rb) (fun v7 _ _ _ => n - (intOf v7).toNat)
  case atStart => exact ⟨0, _, rfl, Nat.zero_le _, HUB.out⟩
  case round =>
    obtain ⟨k, rb, rfl, hk, hub⟩ := hrel
    have HU := Lib.hid hub
    have hsz := hub.bel.size
    have y0 : wr.cell? ⟨w.heap.size, 0, none⟩ = some (.int .i64 n) := by have := (hub.bel.block w.heap.size xl).trans HX1.out; simp [World.cell?, this]
    have yl : w.heap.size < wr.heap.size := by omega
    clear hub HUB x0
    by_cases hlt : k < n
    · have hkI : (k : Int) < (n : Int) := by omega
      have hol := HU.out.out.lt
      have hof := HU.out.out.frozen k
      have hoc := HU.out.out.cell hlt
      have hvs := HVS.out.below HU.out.bel (Nat.le_refl _)
      have hvln := HVL.out
      obtain rfl := hvs.ad (by omega)
      obtain ⟨x, hx⟩ := getElem?_of_lt (xs := vs) (i := k) (by omega)
      have hxr := HROWS.out k x hx
      obtain ⟨ia, ic, ib, rfl, _, _, hsl, _⟩ := slAt_own lenI hxr
      have cv := HVS.out.cv hx
      have cvl := HVS.out.lt (by omega)
      simp only [Nat.zero_add] at cv
      have HSL := Lib.hid hsl
      obtain ⟨L, hL⟩ : ∃ L, L = upL R k := ⟨_, rfl⟩
      have hLl : L.length ≤ 320 := by rw [hL]; unfold upL; rw [intsOf_len]; exact idsN_le _ _
      rw [← hL] at cv
      rw [← hL] at HSL
      have HL := Lib.hid hL
      have h2 := HU.out.step L
      have H2 := Lib.hid h2; have HCV := Lib.hid cv
      clear hvs hvln hx hxr hsl hL h2 cv
      go_upto_region 9 with fail
      obtain ⟨W, hW⟩ : ∃ W, W = (wr.setCell ⟨w1.heap.size, k, none⟩ (.slice (some ⟨wr.heap.size, 0, none⟩) n n)).alloc (.cells (madeCells #[.bool false] n) 4) := ⟨_, rfl⟩
      obtain ⟨rb2, hrb⟩ : ∃ rb2, rb2 = (fun j => if j = k then wr.heap.size else rb j) := ⟨_, rfl⟩
      rw [← hW, ← hrb] at H2
      rw [← hW]
      have cv2 : W.cell? ⟨vb, k, none⟩ = some (.slice ia L.length ic) := by rw [H2.out.bel.cell (p := ⟨vb, k, none⟩) cvl]; exact HCV.out
      have vl2 : vb < W.heap.size := Nat.lt_of_lt_of_le cvl H2.out.bel.size
      clear hW hrb HU y0 yl hol hof hoc hsz
      go_wp2_with fail
      go_loopw [9, 44] (fun _ v44 wr => ∃ m : Nat, v44 = .int .i64 m ∧ m ≤ L.length ∧ UB2 w1 wr n k R rb2 L m) (fun _ v44 _ => L.length - (intOf v44).toNat)
      case atStart => exact ⟨0, rfl, Nat.zero_le _, H2.out⟩
      case round =>
        obtain ⟨m, rfl, hm, h2⟩ := hrel
        have H2 := Lib.hid h2
        have hsz := h2.bel.size
        have y0 : wr.cell? ⟨w.heap.size, 0, none⟩ = some (.int .i64 n) := by have := (h2.bel.block w.heap.size xl).trans HX1.out; simp [World.cell?, this]
        have yl : w.heap.size < wr.heap.size := by omega
        clear h2 cv2 vl2
        by_cases hmL : m < L.length
        · obtain ⟨z, hz⟩ := getElem?_of_lt hmL
          obtain ⟨i, hi, rfl⟩ : ∃ i : Nat, i < n ∧ z = (i : Int) := by
            have h1 := List.mem_of_getElem? hz
            rw [HL.out] at h1
            unfold upL intsOf idsN at h1
            obtain ⟨i, h3, rfl⟩ := List.mem_map.1 h1
            exact ⟨i, HGT.out.left.rng k i hlt (List.mem_filter.1 h3).2, rfl⟩
          have hsl := HSL.out.below H2.out.bel (Nat.le_refl _)
          obtain rfl := hsl.ad (by omega)
          have c0 := hsl.ci hz
          have cl := hsl.lt (by omega)
          simp only [Nat.zero_add] at c0
          have hmI : (m : Int) < (L.length : Int) := by omega
          have hiI : (i : Int) < (n : Int) := by omega
          have d1 : decide ((i : Int) < 0) = false := by simp
          have d2 : decide ((n : Int) ≤ (i : Int)) = false := by simp; omega
          have o1 := H2.out.out.cell hlt
          rw [if_pos (by omega)] at o1
          have ol := H2.out.out.lt
          have q1 := H2.out.last.2.2.cell hi
          have q2 := H2.out.last.2.2.frozen i
          have ql := H2.out.last.2.1
          have H3 := Lib.hid (H2.out.set hz)
          clear hsl hz H2
          go_wp2_with fail
          go_roundw
          case rel => exact ⟨m + 1, by go_num, by omega, H3.out⟩
          case measure => simp [intOf]; omega
        · obtain rfl : m = L.length := by omega
          have H3 : RowKit.Hid (UB w1 wr n (k + 1) R rb2) := Lib.hid ((by have := H2.out; rw [HL.out] at this; exact this.done (by omega)))
          clear H2
          go_wp2_with fail
          go_roundw
          case rel => exact ⟨k + 1, rb2, by go_num, by omega, H3.out⟩
          case measure => simp [intOf]; omega
    · obtain rfl : n = k := by omega
      have HT2 : RowKit.Hid (TabB wr (.slice (some ⟨w1.heap.size, 0, none⟩) n n) n R) := Lib.hid ⟨w1.heap.size, rb, rfl, HU.out.out.congr (fun j hj => by rw [if_pos hj]), fun j hj => (HU.out.rows j hj).2.2⟩
      have HBF := Lib.hid (HB1.out.trans (HU.out.bel.mono HB1.out.size))
      go_wp2_with fail
      go_ret2
      unfold Ab17
      exact ⟨R, _, rfl, HGT.out, HT2.out, HBF.out⟩
end Go.Proofs.YtfakdgljilmpkaaGreatDoor

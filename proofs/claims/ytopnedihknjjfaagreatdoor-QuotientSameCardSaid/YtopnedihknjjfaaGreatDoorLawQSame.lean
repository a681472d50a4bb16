/-
  law14.QuotientSame.
-/
import Derived.Test.YtopnedihknjjfaaGreatDoorGQuoE
namespace Go.Proofs.YtopnedihknjjfaaGreatDoor
open Go.RowKit Pl

/-- Whatever Strong answers, it comes back so. -/
def QuoEnd (w : World) (e : Ending) (w' : World) : Prop :=
  ∃ (x0 x1 x2 : Int) (ea : Option Addr) (el ec : Nat) (l v : Value), e = .returned (.tuple #[.agg #[.int .i64 x0, .int .i64 x1, .int .i64 x2, .slice ea el ec], l, v]) ∧ Below w.heap.size w w'
theorem quoStrongEnd_any {p : Addr} {s : Lts} (h0 : s.st ≠ 0) (hb : s.st.toNat * s.es.length ≤ 10000) {a : Option Addr} {b off c : Nat} {w : World} (hG : GErr 0 p w) (hT : ErrType w) (hS : SlAt encE 3 w a b off s.es) :
    Calls Tryz.prog 26 #[.agg #[.int .i64 s.st, .int .i64 s.lb, .int .i64 s.s0, .slice a s.es.length c]] w (QuoEnd w) := by
  by_cases h : s.Right
  · have hst := h.st0
    refine (quoStrong_any (c := c) (n := s.st.toNat) h (by omega) (by omega) hb hG hS).mono ?_
    unfold QuoStr QuoPost
    rintro e w3 ⟨C, hbig, ea, ta, eb, ec, tb, tc, rfl, hes, hto, heb, htb, hB3⟩
    exact ⟨_, _, _, _, _, _, _, _, rfl, hB3⟩
  · refine (quoStrongNo_any (c := c) h hG hT hS).mono ?_
    rintro e w3 ⟨fb, rfl, hB3⟩
    exact ⟨_, _, _, _, _, _, _, _, rfl, hB3⟩
theorem eqv_norm {s t : Lts} {n p m q : Nat} : Eqv s.norm n p t m q ↔ Eqv s n p t m q := by
  have hs : ∀ p l x, stp s.norm p l x ↔ stp s p l x := fun p l x => mem_nf stoE _ _
  constructor
  · rintro ⟨R, h1, h2⟩
    refine ⟨R, ⟨fun a b ha hb hr l a' ha' h => ?_, fun a b ha hb hr l b' hb' h => ?_⟩, h2⟩
    · exact h1.fwd a b ha hb hr l a' ha' ((hs _ _ _).2 h)
    · obtain ⟨x, h3, h4, h5⟩ := h1.bwd a b ha hb hr l b' hb' h
      exact ⟨x, h3, (hs _ _ _).1 h4, h5⟩
  · rintro ⟨R, h1, h2⟩
    refine ⟨R, ⟨fun a b ha hb hr l a' ha' h => ?_, fun a b ha hb hr l b' hb' h => ?_⟩, h2⟩
    · exact h1.fwd a b ha hb hr l a' ha' ((hs _ _ _).1 h)
    · obtain ⟨x, h3, h4, h5⟩ := h1.bwd a b ha hb hr l b' hb' h
      exact ⟨x, h3, (hs _ _ _).2 h4, h5⟩
/-- What the law knows of a quotient. -/
structure QuoOk (s : Lts) (n z : Nat) (Q : Lts) : Prop where
  right : Q.Right
  le : Q.st ≤ (n : Int)
  es : Q.es.length ≤ s.es.length
  eqv : ∃ k z' : Nat, Q.st = (k : Int) ∧ 0 < k ∧ Q.s0 = (z' : Int) ∧ z' < k ∧ Eqv s n z Q k z'
theorem quoOk {s : Lts} {n z : Nat} {C : Nat → Int} (hr : s.Right) (hn : s.st = (n : Int)) (hn0 : 0 < n) (hz : s.s0 = (z : Int)) (hb : n * s.es.length ≤ 10000) (h : Big s n C) : QuoOk s n z (quoS s.norm (fl n C)) := by
  have hl : s.norm.es.length ≤ s.es.length := length_nf (lt := ltE) s.es
  have h1 : (quoE s.norm (fl n C) (quoD s.norm (fl n C)) (reachL s.norm)).length ≤ 10000 := by
    have a := quoE_len s.norm (fl n C) (quoD s.norm (fl n C)) (reachL s.norm)
    have b := reachL_len (s := s.norm)
    have hnn : s.norm.st = (n : Int) := hn
    have b2 : (reachL s.norm).length ≤ n := by omega
    have b3 : (reachL s.norm).length * s.norm.es.length ≤ n * s.es.length := Nat.mul_le_mul b2 hl
    omega
  obtain ⟨r1, r2, r3⟩ := quo_Right hr.norm (n := n) hn hn0 (fl n C) h1
  obtain ⟨z', e1, e2, e3⟩ := quo_eqv hr.norm (n := n) (z := z) (C := C) hn hn0 hz (big_norm9 h)
  refine ⟨r1, r2, Nat.le_trans (quo_len _ _) hl, _, z', rfl, ?_, e1, e2, eqv_norm.1 e3⟩
  have : (quoS s.norm (fl n C)).st = ((quoD s.norm (fl n C)).length : Int) := rfl
  omega

set_option maxRecDepth 100000 in
set_option maxHeartbeats 16000000 in
theorem quotientSame_any {w : World} {p0 : Addr} (hG : GErr 0 p0 w) (hE : ErrType w) {s t : Lts} {a a2 : Option Addr} {b off c b2 off2 c2 : Nat} (hS : SlAt encE 3 w a b off s.es) (hT : SlAt encE 3 w a2 b2 off2 t.es) :
    Calls Tryz.prog 7 #[.agg #[.int .i64 s.st, .int .i64 s.lb, .int .i64 s.s0, .slice a s.es.length c], .agg #[.int .i64 t.st, .int .i64 t.lb, .int .i64 t.s0, .slice a2 t.es.length c2]] w fun e w' => e = .returned (.bool true) ∧ Below w.heap.size w w' := by
  have hB0 := ((Below.refl w.heap.size w).alloc (Nat.le_refl _) (Obj.cells #[.int .i64 s.st, .int .i64 s.lb, .int .i64 s.s0, .slice a s.es.length c] 24)).alloc (by simp) (Obj.cells #[.int .i64 t.st, .int .i64 t.lb, .int .i64 t.s0, .slice a2 t.es.length c2] 24)
  have hx0 := (((Below.refl _ _).alloc (Nat.le_refl _) (Obj.cells #[.int .i64 t.st, .int .i64 t.lb, .int .i64 t.s0, .slice a2 t.es.length c2] 24)).block w.heap.size (by simp)).trans (heap_alloc_new w (Obj.cells #[.int .i64 s.st, .int .i64 s.lb, .int .i64 s.s0, .slice a s.es.length c] 24))
  have hy0 := heap_alloc_at (w.alloc (Obj.cells #[.int .i64 s.st, .int .i64 s.lb, .int .i64 s.s0, .slice a s.es.length c] 24)) (Obj.cells #[.int .i64 t.st, .int .i64 t.lb, .int .i64 t.s0, .slice a2 t.es.length c2] 24) (w.heap.size + 1) (by simp)
  have HSM := Lib.hid (small14_any s.s0 s.st s.lb a s.es.length c ((w.alloc (Obj.cells #[.int .i64 s.st, .int .i64 s.lb, .int .i64 s.s0, .slice a s.es.length c] 24)).alloc (Obj.cells #[.int .i64 t.st, .int .i64 t.lb, .int .i64 t.s0, .slice a2 t.es.length c2] 24)))
  have HG := Lib.hid hG; have HE := Lib.hid hE; have HS := Lib.hid hS; have HT := Lib.hid hT; have HB0 := Lib.hid hB0; have HX0 := Lib.hid hx0; have HY0 := Lib.hid hy0
  clear hG hE hS hT hB0 hx0 hy0
  have ALV : RowKit.Hid (∀ w1 : World, Below w.heap.size w w1 → Calls Tryz.prog 25 #[] w1 fun e w' => e = .returned (.bool true) ∧ Below w.heap.size w w' ∧ Below w1.heap.size w1 w') := Lib.hid (by
    intro w1 h1
    refine (alive14_any (HG.out.below h1)).mono ?_
    rintro e w' ⟨rfl, hB⟩
    exact ⟨rfl, h1.trans (hB.mono h1.size), hB⟩)
  go_enter Tryz.func7, Tryz.ntmps7
  go_wp2_with fail
  refine HSM.out.mono ?_
  rintro e w1 ⟨rfl, hB1⟩
  obtain ⟨m1, hm1⟩ : ∃ m1, m1 = (decide (s.st ≤ 40) && decide (s.es.length ≤ 250)) := ⟨_, rfl⟩
  rw [← hm1]
  have HM1 := Lib.hid hm1
  have hx1 := (hB1.block w.heap.size (by simp; omega)).trans HX0.out
  have hy1 := (hB1.block (w.heap.size + 1) (by simp)).trans HY0.out
  have HB1 := Lib.hid (HB0.out.trans (hB1.mono (by simp; omega)))
  obtain ⟨X, hX⟩ : ∃ X, X = w.heap.size := ⟨_, rfl⟩
  obtain ⟨Z, hZ⟩ : ∃ Z, Z = w.heap.size + 1 := ⟨_, rfl⟩
  rw [← hX] at hx1
  rw [← hZ] at hy1
  rw [← hZ, ← hX]
  have HX1 := Lib.hid hx1; have HY1 := Lib.hid hy1
  obtain ⟨x0, x1, x2, x3, x4⟩ := sys9 hx1
  obtain ⟨z0, z1, z2, z3, z4⟩ := sys9 hy1
  clear hm1 hx1 hy1 hB1 HX0 HY0 HB0 HSM hX hZ
  cases m1
  · go_wp2_with fail
    refine (ALV.out _ HB1.out).mono ?_
    rintro e w2 ⟨rfl, hB, _⟩
    go_wp2
    go_ret
    exact ⟨rfl, hB⟩
  have HSM := Lib.hid (small14_any t.s0 t.st t.lb a2 t.es.length c2 w1)
  go_wp2_with fail
  refine HSM.out.mono ?_
  rintro e w2 ⟨rfl, hB2⟩
  obtain ⟨m2, hm2⟩ : ∃ m2, m2 = (decide (t.st ≤ 40) && decide (t.es.length ≤ 250)) := ⟨_, rfl⟩
  rw [← hm2]
  have HM2 := Lib.hid hm2
  have hx2 := (hB2.block X x4).trans HX1.out
  have hy2 := (hB2.block Z z4).trans HY1.out
  have HB2 := Lib.hid (HB1.out.trans (hB2.mono HB1.out.size))
  have HX2 := Lib.hid hx2; have HY2 := Lib.hid hy2
  clear x0 x1 x2 x3 x4 z0 z1 z2 z3 z4
  obtain ⟨x0, x1, x2, x3, x4⟩ := sys9 hx2
  obtain ⟨z0, z1, z2, z3, z4⟩ := sys9 hy2
  clear hm2 hx2 hy2 hB2 HX1 HY1 HB1 HSM
  cases m2
  · go_wp2_with fail
    refine (ALV.out _ HB2.out).mono ?_
    rintro e w3 ⟨rfl, hB, _⟩
    go_wp2
    go_ret
    exact ⟨rfl, hB⟩
  by_cases h1 : s.st = 0
  · have g1 : (s.st == 0) = true := by simp [h1]
    clear h1
    go_wp2_with fail
    refine (ALV.out _ HB2.out).mono ?_
    rintro e w3 ⟨rfl, hB, _⟩
    go_wp2
    go_ret
    exact ⟨rfl, hB⟩
  have g1 : (s.st == 0) = false := by simp [h1]
  by_cases h2 : t.st = 0
  · have g2 : (t.st == 0) = true := by simp [h2]
    clear h1 h2
    go_wp2_with fail
    refine (ALV.out _ HB2.out).mono ?_
    rintro e w3 ⟨rfl, hB, _⟩
    go_wp2
    go_ret
    exact ⟨rfl, hB⟩
  have g2 : (t.st == 0) = false := by simp [h2]
  have hm1 := HM1.out; have hm2 := HM2.out
  simp only [Bool.true_eq, Bool.and_eq_true, decide_eq_true_eq] at hm1 hm2
  obtain ⟨k1, k2⟩ := hm1
  obtain ⟨k3, k4⟩ := hm2
  have HK1 := Lib.hid k1; have HK2 := Lib.hid k2; have HK3 := Lib.hid k3; have HK4 := Lib.hid k4; have H1 := Lib.hid h1; have H2 := Lib.hid h2
  have hm : ∀ {x : Int} {l : Nat}, x ≤ 40 → l ≤ 250 → x.toNat * l ≤ 10000 := fun {x l} h h' => Nat.le_trans (Nat.mul_le_mul (show x.toNat ≤ 40 by omega) h') (by decide)
  have HMU : RowKit.Hid (s.st.toNat * s.es.length ≤ 10000 ∧ t.st.toNat * t.es.length ≤ 10000) := Lib.hid ⟨hm k1 k2, hm k3 k4⟩
  clear k1 k2 k3 k4 h1 h2 hm HM1 HM2
  by_cases hr : ¬ s.Right
  · have HQ := Lib.hid (quoStrongNo_any (c := c) hr (HG.out.below HB2.out) (HE.out.below HB2.out) (HS.out.below HB2.out (Nat.le_refl _)))
    clear hr
    go_wp2_with fail
    refine HQ.out.mono ?_
    rintro e w3 ⟨fb, rfl, hB3⟩
    have hz3 := HB2.out.trans (hB3.mono HB2.out.size)
    have hb4 := hz3.alloc hz3.size (.cells #[.int .i64 0, .int .i64 0, .int .i64 0, .slice none 0 0] 24)
    have hy4 := (((Below.refl w3.heap.size w3).alloc (Nat.le_refl _) (.cells #[.int .i64 0, .int .i64 0, .int .i64 0, .slice none 0 0] 24)).block Z (Nat.lt_of_lt_of_le z4 hB3.size)).trans ((hB3.block Z z4).trans HY2.out)
    have HQ2 := Lib.hid (quoStrongEnd_any (c := c2) H2.out HMU.out.2 (HG.out.below hb4) (HE.out.below hb4) (HT.out.below hb4 (Nat.le_refl _)))
    have HB4 := Lib.hid hb4
    have z0 : w3.cell? ⟨Z, 0, none⟩ = some (.int .i64 t.st) := (World.cell?_of_block (a := ⟨Z, 0, none⟩) (hB3.block Z z4)).trans z0
    have z1 : w3.cell? ⟨Z, 1, none⟩ = some (.int .i64 t.lb) := (World.cell?_of_block (a := ⟨Z, 1, none⟩) (hB3.block Z z4)).trans z1
    have z2 : w3.cell? ⟨Z, 2, none⟩ = some (.int .i64 t.s0) := (World.cell?_of_block (a := ⟨Z, 2, none⟩) (hB3.block Z z4)).trans z2
    have z3 : w3.cell? ⟨Z, 3, none⟩ = some (.slice a2 t.es.length c2) := (World.cell?_of_block (a := ⟨Z, 3, none⟩) (hB3.block Z z4)).trans z3
    have z4 := Nat.lt_of_lt_of_le z4 hB3.size
    clear x0 x1 x2 x3 x4 hB3 hz3 hb4 hy4 HQ HX2 HY2 HB2
    go_wp2_with fail
    refine HQ2.out.mono ?_
    rintro e w5 ⟨v0, v1, v2, va, vl, vc, l, v, rfl, hB5⟩
    have hz5 := HB4.out.trans (hB5.mono HB4.out.size)
    have HB6 := Lib.hid (hz5.alloc hz5.size (.cells #[.int .i64 v0, .int .i64 v1, .int .i64 v2, .slice va vl vc] 24))
    clear hB5 hz5 HQ2 HB4 z0 z1 z2 z3 z4
    go_wp2_with fail
    refine (ALV.out _ HB6.out).mono ?_
    rintro e w6 ⟨rfl, hB, _⟩
    go_wp2
    go_ret
    exact ⟨rfl, hB⟩
  have hr := Classical.not_not.1 hr
  have hs0 := hr.st0
  obtain ⟨n, hn⟩ := Int.eq_ofNat_of_zero_le hs0.1
  have hn0 : 0 < n := by have := H1.out; omega
  obtain ⟨z, hz⟩ := Int.eq_ofNat_of_zero_le hs0.2.2.2.2.1
  have HR := Lib.hid hr; have HN := Lib.hid hn; have HZ := Lib.hid hz; have HN0 := Lib.hid hn0
  have hbn : n * s.es.length ≤ 10000 := by have h := HMU.out.1; rw [hn] at h; simpa using h
  have HBN := Lib.hid hbn
  have HQ := Lib.hid (quoStrong_any (c := c) hr hn hn0 hbn (HG.out.below HB2.out) (HS.out.below HB2.out (Nat.le_refl _)))
  clear hr hs0 hn hn0 hz hbn
  go_wp2_with fail
  refine HQ.out.mono ?_
  unfold QuoStr QuoPost
  rintro e w3 ⟨C, hbig, ea, ta, eb, ec, tb, tc, rfl, hes, _, _, _, hB3⟩
  have HOK := Lib.hid (quoOk HR.out HN.out HN0.out HZ.out HBN.out hbig)
  obtain ⟨Q, hQ⟩ : ∃ Q, Q = quoS s.norm (fl n C) := ⟨_, rfl⟩
  rw [← hQ] at hes HOK ⊢
  have hz3 := HB2.out.trans (hB3.mono HB2.out.size)
  have hb4 := hz3.alloc hz3.size (.cells #[.int .i64 Q.st, .int .i64 Q.lb, .int .i64 Q.s0, .slice ea Q.es.length ec] 24)
  have hbn := (Below.refl w3.heap.size w3).alloc (Nat.le_refl _) (.cells #[.int .i64 Q.st, .int .i64 Q.lb, .int .i64 Q.s0, .slice ea Q.es.length ec] 24)
  have hu4 := heap_alloc_new w3 (.cells #[.int .i64 Q.st, .int .i64 Q.lb, .int .i64 Q.s0, .slice ea Q.es.length ec] 24)
  have hx4 := (hbn.block X (Nat.lt_of_lt_of_le x4 hB3.size)).trans ((hB3.block X x4).trans HX2.out)
  have hy4 := (hbn.block Z (Nat.lt_of_lt_of_le z4 hB3.size)).trans ((hB3.block Z z4).trans HY2.out)
  have hq4 := hes.below hbn (Nat.le_refl _)
  obtain ⟨w4, hw4⟩ : ∃ w4, w4 = w3.alloc (.cells #[.int .i64 Q.st, .int .i64 Q.lb, .int .i64 Q.s0, .slice ea Q.es.length ec] 24) := ⟨_, rfl⟩
  obtain ⟨U, hU⟩ : ∃ U, U = w3.heap.size := ⟨_, rfl⟩
  rw [← hw4] at hb4 hu4 hx4 hy4 hq4
  rw [← hU] at hu4
  have HB4 := Lib.hid hb4; have HU4 := Lib.hid hu4; have HX4 := Lib.hid hx4; have HY4 := Lib.hid hy4; have HQ4 := Lib.hid hq4
  clear x0 x1 x2 x3 x4 z0 z1 z2 z3 z4
  clear hQ hes hz3 hb4 hbn hq4 hB3 hbig HQ HX2 HY2 HB2
  go_upto_region 4 with fail
  rw [← hw4, ← hU]
  clear hw4 hU
  obtain ⟨x0, x1, x2, x3, x4⟩ := sys9 hx4
  obtain ⟨z0, z1, z2, z3, z4⟩ := sys9 hy4
  obtain ⟨u0, u1, u2, u3, u4⟩ := sys9 hu4
  clear hu4 hx4 hy4
  by_cases hr : ¬ t.Right
  · have HQ2 := Lib.hid (quoStrongNo_any (c := c2) hr (HG.out.below HB4.out) (HE.out.below HB4.out) (HT.out.below HB4.out (Nat.le_refl _)))
    clear hr
    go_wp2_with fail
    refine HQ2.out.mono ?_
    rintro e w5 ⟨fb, rfl, hB5⟩
    have hz5 := HB4.out.trans (hB5.mono HB4.out.size)
    have HB6 := Lib.hid (hz5.alloc hz5.size (.cells #[.int .i64 0, .int .i64 0, .int .i64 0, .slice none 0 0] 24))
    clear hB5 hz5 HQ2 HB4 z0 z1 z2 z3 z4 x0 x1 x2 x3 x4 u0 u1 u2 u3 u4
    go_wp2_with fail
    refine (ALV.out _ HB6.out).mono ?_
    rintro e w6 ⟨rfl, hB, _⟩
    go_wp2
    go_ret
    exact ⟨rfl, hB⟩
  have hr := Classical.not_not.1 hr
  have hs0 := hr.st0
  obtain ⟨m, hm⟩ := Int.eq_ofNat_of_zero_le hs0.1
  have hm0 : 0 < m := by have := H2.out; omega
  obtain ⟨y, hy⟩ := Int.eq_ofNat_of_zero_le hs0.2.2.2.2.1
  have HRT := Lib.hid hr; have HM := Lib.hid hm; have HY := Lib.hid hy; have HM0 := Lib.hid hm0
  have hbm : m * t.es.length ≤ 10000 := by have h := HMU.out.2; rw [hm] at h; simpa using h
  have HBM := Lib.hid hbm
  have HQ2 := Lib.hid (quoStrong_any (c := c2) hr hm hm0 hbm (HG.out.below HB4.out) (HT.out.below HB4.out (Nat.le_refl _)))
  clear hr hs0 hm hm0 hy hbm
  go_wp2_with fail
  refine HQ2.out.mono ?_
  unfold QuoStr QuoPost
  rintro e w5 ⟨D, hbig, fa, ta2, fb, fc, tb2, tc2, rfl, hes, _, _, _, hB5⟩
  have HOK2 := Lib.hid (quoOk HRT.out HM.out HM0.out HY.out HBM.out hbig)
  obtain ⟨R, hR⟩ : ∃ R, R = quoS t.norm (fl m D) := ⟨_, rfl⟩
  rw [← hR] at hes HOK2 ⊢
  have hz5 := HB4.out.trans (hB5.mono HB4.out.size)
  have hb6 := hz5.alloc hz5.size (.cells #[.int .i64 R.st, .int .i64 R.lb, .int .i64 R.s0, .slice fa R.es.length fc] 24)
  have hbn := (Below.refl w5.heap.size w5).alloc (Nat.le_refl _) (.cells #[.int .i64 R.st, .int .i64 R.lb, .int .i64 R.s0, .slice fa R.es.length fc] 24)
  have hv6 := heap_alloc_new w5 (.cells #[.int .i64 R.st, .int .i64 R.lb, .int .i64 R.s0, .slice fa R.es.length fc] 24)
  have hx6 := (hbn.block X (Nat.lt_of_lt_of_le x4 hB5.size)).trans ((hB5.block X x4).trans HX4.out)
  have hy6 := (hbn.block Z (Nat.lt_of_lt_of_le z4 hB5.size)).trans ((hB5.block Z z4).trans HY4.out)
  have hu6 := (hbn.block U (Nat.lt_of_lt_of_le u4 hB5.size)).trans ((hB5.block U u4).trans HU4.out)
  have hq6 := (HQ4.out.below hB5 (Nat.le_refl _)).below hbn (Nat.le_refl _)
  have hp6 := hes.below hbn (Nat.le_refl _)
  obtain ⟨w6, hw6⟩ : ∃ w6, w6 = w5.alloc (.cells #[.int .i64 R.st, .int .i64 R.lb, .int .i64 R.s0, .slice fa R.es.length fc] 24) := ⟨_, rfl⟩
  obtain ⟨V, hV⟩ : ∃ V, V = w5.heap.size := ⟨_, rfl⟩
  rw [← hw6] at hb6 hv6 hx6 hy6 hu6 hq6 hp6
  rw [← hV] at hv6
  have HB6 := Lib.hid hb6; have HV6 := Lib.hid hv6; have HX6 := Lib.hid hx6; have HY6 := Lib.hid hy6; have HU6 := Lib.hid hu6; have HQ6 := Lib.hid hq6; have HP6 := Lib.hid hp6
  clear x0 x1 x2 x3 x4 z0 z1 z2 z3 z4 u0 u1 u2 u3 u4
  clear hR hes hz5 hb6 hbn hq6 hp6 hB5 hbig HQ2 HX4 HY4 HU4 HQ4 HB4
  go_upto_region 7 with fail
  rw [← hw6, ← hV]
  clear hw6 hV
  have hk1 := HOK.out; have hk2 := HOK2.out
  obtain ⟨k, z', e1, e2, e3, e4, e5⟩ := hk1.eqv
  obtain ⟨k2, y', f1, f2, f3, f4, f5⟩ := hk2.eqv
  have j1 := HK1.out; have j2 := HK2.out; have j3 := HK3.out; have j4 := HK4.out; have j5 := HN.out; have j6 := HM.out
  have i1 := hk1.le; have i2 := hk1.es; have i3 := hk2.le; have i4 := hk2.es
  have HSA := Lib.hid (fun (W : World) (hW : Below w6.heap.size w6 W) => same_any (c := c) (c2 := ec) (w := W) HR.out hk1.right HN.out e1 HN0.out e2 HZ.out e3 (by omega) (by omega) (HG.out.below (HB6.out.trans (hW.mono HB6.out.size))) (HS.out.below (HB6.out.trans (hW.mono HB6.out.size)) (Nat.le_refl _)) (HQ6.out.below hW (Nat.le_refl _)))
  have HST := Lib.hid (fun (W : World) (hW : Below w6.heap.size w6 W) => same_any (c := c) (c2 := c2) (w := W) HR.out HRT.out HN.out HM.out HN0.out HM0.out HZ.out HY.out (by omega) (by omega) (HG.out.below (HB6.out.trans (hW.mono HB6.out.size))) (HS.out.below (HB6.out.trans (hW.mono HB6.out.size)) (Nat.le_refl _)) (HT.out.below (HB6.out.trans (hW.mono HB6.out.size)) (Nat.le_refl _)))
  have HAB := Lib.hid (fun (W : World) (hW : Below w6.heap.size w6 W) => same_any (c := ec) (c2 := fc) (w := W) hk1.right hk2.right e1 f1 e2 f2 e3 f3 (by omega) (by omega) (HG.out.below (HB6.out.trans (hW.mono HB6.out.size))) (HQ6.out.below hW (Nat.le_refl _)) (HP6.out.below hW (Nat.le_refl _)))
  have HEQ : RowKit.Hid (Eqv s n z Q k z' ∧ (Eqv s n z t m y ↔ Eqv Q k z' R k2 y')) := Lib.hid (by
    have hs0 := HR.out.st0; have ht0 := HRT.out.st0
    have q1 := HZ.out; have q2 := HY.out
    have hzn : z < n := by omega
    have hym : y < m := by omega
    exact ⟨e5, fun h => ((e5.symm).trans h hzn).trans f5 hym, fun h => (e5.trans h e4).trans f5.symm f4⟩)
  unfold SamePost at HSA HST HAB
  clear hk1 hk2 e1 e2 e3 e4 e5 f1 f2 f3 f4 f5 j1 j2 j3 j4 j5 j6 i1 i2 i3 i4
  obtain ⟨x0, x1, x2, x3, x4⟩ := sys9 hx6
  obtain ⟨u0, u1, u2, u3, u4⟩ := sys9 hu6
  clear hx6 hy6 hu6 hv6
  go_wp2_with fail
  refine (HSA.out _ (Below.refl _ _)).mono ?_
  rintro e w7 ⟨r1, rfl, hr1, hB7⟩
  obtain rfl : r1 = true := hr1.2 HEQ.out.1
  have hx7 := (hB7.block X x4).trans HX6.out
  have hy7 := (hB7.block Z (Array.getElem?_eq_some_iff.1 HY6.out).1).trans HY6.out
  have HB7 := Lib.hid hB7
  clear x0 x1 x2 x3 x4 u0 u1 u2 u3 u4 hr1 hB7
  obtain ⟨x0, x1, x2, x3, x4⟩ := sys9 hx7
  obtain ⟨z0, z1, z2, z3, z4⟩ := sys9 hy7
  clear hx7 hy7
  go_wp2_with fail
  refine (HST.out _ HB7.out).mono ?_
  rintro e w8 ⟨r2, rfl, hr2, hB8⟩
  have hB8' := HB7.out.trans (hB8.mono HB7.out.size)
  have hu8 := (hB8'.block U (Array.getElem?_eq_some_iff.1 HU6.out).1).trans HU6.out
  have hv8 := (hB8'.block V (Array.getElem?_eq_some_iff.1 HV6.out).1).trans HV6.out
  have HB8 := Lib.hid hB8'; have HR2 := Lib.hid hr2
  clear x0 x1 x2 x3 x4 z0 z1 z2 z3 z4 hr2 hB8 hB8'
  obtain ⟨u0, u1, u2, u3, u4⟩ := sys9 hu8
  obtain ⟨z0, z1, z2, z3, z4⟩ := sys9 hv8
  clear hu8 hv8
  go_wp2_with fail
  refine (HAB.out _ HB8.out).mono ?_
  rintro e w9 ⟨r3, rfl, hr3, hB9⟩
  have h23 : r2 = r3 := by
    have h1 := HR2.out
    have h2 := HEQ.out.2
    rcases r2 <;> rcases r3 <;> simp_all
  have HB9 := Lib.hid (HB6.out.trans ((HB8.out.trans (hB9.mono HB8.out.size)).mono HB6.out.size))
  subst h23
  clear u0 u1 u2 u3 u4 z0 z1 z2 z3 z4 hr3 hB9 HR2
  have heq : (r2 == r2) = true := by simp
  go_wp2_with fail
  refine (ALV.out _ HB9.out).mono ?_
  rintro e w10 ⟨rfl, hB, _⟩
  go_wp2
  go_ret
  exact ⟨rfl, hB⟩
end Go.Proofs.YtopnedihknjjfaaGreatDoor

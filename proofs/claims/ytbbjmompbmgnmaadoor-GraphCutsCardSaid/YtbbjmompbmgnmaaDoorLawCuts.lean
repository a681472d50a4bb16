/-
  law7.GraphCuts.
-/
import Derived.Test.YtbbjmompbmgnmaaDoorZero
import Derived.Test.YtbbjmompbmgnmaaDoorRefRight
import Derived.Test.YtbbjmompbmgnmaaDoorAlive
import Derived.Test.YtbbjmompbmgnmaaDoorSameInts
namespace Go.Proofs.YtbbjmompbmgnmaaDoor
open Go.RowKit Pl

theorem sameSystem_zero {a : Option Addr} {c : Nat} (w : World) :
    Calls Tryd.prog 23 #[.agg #[.int .i64 0, .int .i64 0, .int .i64 0, .slice a 0 c], .agg #[.int .i64 0, .int .i64 0, .int .i64 0, .slice none 0 0]] w fun e w' =>
      e = .returned (.bool true) ∧ Below w.heap.size w w' :=
  sameSystem_yes 0 0 0 (a1 := a) (b1 := 0) (o1 := 0) (c1 := c) (a2 := none) (b2 := 0) (o2 := 0) (c2 := 0) (xs := []) (w := w) (slAt_nil _ _ _ _) (slAt_nil _ _ _ _) (by simp)

theorem sysCells {w : World} {B : Nat} {x y z : Int} {v : Value} (h : w.heap[B]? = some (.cells #[.int .i64 x, .int .i64 y, .int .i64 z, v] 24 (0, 0))) :
    w.cell? ⟨B, 0, none⟩ = some (.int .i64 x) ∧ w.cell? ⟨B, 1, none⟩ = some (.int .i64 y) ∧ w.cell? ⟨B, 2, none⟩ = some (.int .i64 z) ∧ w.cell? ⟨B, 3, none⟩ = some v ∧ B < w.heap.size := by
  refine ⟨?_, ?_, ?_, ?_, (Array.getElem?_eq_some_iff.1 h).1⟩ <;> simp [World.cell?, h]

/-- A row of numbers reads as a list. -/
theorem slAt_rowI {w : World} {tb n : Nat} {f : Nat → Int} (h : w.rowIs tb 3 n (fun j => .int .i64 (f j))) : SlAt encI 1 w (some ⟨tb, 0, none⟩) tb 0 ((List.range n).map f) :=
  ⟨fun _ => rfl, fun _ => h.lt, fun i x hx j u hu => by
    have hi := (List.getElem?_eq_some_iff.1 hx).1
    simp only [List.length_map, List.length_range] at hi
    have hxe : x = f i := by
      rw [List.getElem?_map, List.getElem?_range hi] at hx
      simpa using hx.symm
    have hj := (List.getElem?_eq_some_iff.1 hu).1
    rw [lenI] at hj
    obtain rfl : j = 0 := by omega
    have h2 := h.cell hi
    simp only [encI, List.getElem?_cons_zero, Option.some.injEq] at hu
    rw [← hu, hxe, Nat.zero_add, Nat.mul_one, Nat.add_zero]
    exact h2⟩

/-- The world within GraphCuts: the argument's box, an empty graph behind it. -/
structure GIn (w wr : World) (s : Lts) (a : Option Addr) (c : Nat) : Prop where
  bel : Below w.heap.size w wr
  box : wr.heap[w.heap.size]? = some (.cells #[.int .i64 s.st, .int .i64 s.lb, .int .i64 s.s0, .slice a s.es.length c] 24 (0, 0))
  zer : wr.heap[w.heap.size + 1]? = some (.cells #[.int .i64 0, .int .i64 0, .int .i64 0, .slice none 0 0, .slice none 0 0, .slice none 0 0, .slice none 0 0, .slice none 0 0] 56 (0, 0))
theorem GIn.call {w wr w' : World} {s : Lts} {a : Option Addr} {c : Nat} (h : GIn w wr s a c) (hB : Below wr.heap.size wr w') : GIn w w' s a c :=
  ⟨h.bel.trans (hB.mono h.bel.size), by rw [hB.block _ (Array.getElem?_eq_some_iff.1 h.box).1]; exact h.box, by rw [hB.block _ (Array.getElem?_eq_some_iff.1 h.zer).1]; exact h.zer⟩
theorem GIn.zero {w wr : World} {s : Lts} {a : Option Addr} {c : Nat} (h : GIn w wr s a c) : ZeroG wr (.pointer (some ⟨w.heap.size + 1, 0, none⟩)) := .inr ⟨_, rfl, h.zer⟩

set_option maxRecDepth 100000 in
set_option maxHeartbeats 8000000 in
theorem graphCuts_any {w : World} {p : Addr} (hE : GErr 0 p w) {s : Lts} {a : Option Addr} {b off c : Nat} (hS : SlAt encE 3 w a b off s.es) (hc : s.es.length ≤ c) (hcm : c ≤ maxLen) :
    Calls Tryd.prog 7 #[.agg #[.int .i64 s.st, .int .i64 s.lb, .int .i64 s.s0, .slice a s.es.length c]] w fun e w' => e = .returned (.bool true) ∧ Below w.heap.size w w' := by
  have hB0 := (Below.refl w.heap.size w).alloc (Nat.le_refl _) (Obj.cells #[.int .i64 s.st, .int .i64 s.lb, .int .i64 s.s0, .slice a s.es.length c] 24)
  have hbx := heap_alloc_new w (Obj.cells #[.int .i64 s.st, .int .i64 s.lb, .int .i64 s.s0, .slice a s.es.length c] 24)
  have HE := Lib.hid hE; have HS := Lib.hid hS; have HB0 := Lib.hid hB0; have HBX := Lib.hid hbx; have HC := Lib.hid hc; have HCM := Lib.hid hcm
  clear hE hS hB0 hbx hc hcm
  have ALV : RowKit.Hid (∀ w1 : World, Below w.heap.size w w1 → Calls Tryd.prog 21 #[] w1 fun e w' => e = .returned (.bool true) ∧ Below w.heap.size w w') := Lib.hid (by
    intro w1 h1
    refine (alive_any (HE.out.below h1)).mono ?_
    rintro e w' ⟨rfl, hB⟩
    exact ⟨rfl, h1.trans (hB.mono h1.size)⟩)
  by_cases h300 : 2000 < s.es.length
  · have hi : (2000 : Int) < (s.es.length : Int) := by omega
    go_enter Tryd.func7, Tryd.ntmps7
    go_wp2_with fail
    refine (ALV.out _ HB0.out).mono ?_
    rintro e w1 ⟨rfl, hB⟩
    go_wp2
    go_ret
    exact ⟨rfl, hB⟩
  have hi : ¬ (2000 : Int) < (s.es.length : Int) := by omega
  go_enter Tryd.func7, Tryd.ntmps7
  go_wp2_with fail
  -- the world behind: a box, an empty graph
  have hB1 := HB0.out.alloc (by simp) (Obj.cells #[.int .i64 0, .int .i64 0, .int .i64 0, .slice none 0 0, .slice none 0 0, .slice none 0 0, .slice none 0 0, .slice none 0 0] 56)
  have hz1 := heap_alloc_new (w.alloc (Obj.cells #[.int .i64 s.st, .int .i64 s.lb, .int .i64 s.s0, .slice a s.es.length c] 24)) (Obj.cells #[.int .i64 0, .int .i64 0, .int .i64 0, .slice none 0 0, .slice none 0 0, .slice none 0 0, .slice none 0 0, .slice none 0 0] 56)
  have hx1 := (Below.heap_alloc (w.alloc (Obj.cells #[.int .i64 s.st, .int .i64 s.lb, .int .i64 s.s0, .slice a s.es.length c] 24)) (Obj.cells #[.int .i64 0, .int .i64 0, .int .i64 0, .slice none 0 0, .slice none 0 0, .slice none 0 0, .slice none 0 0, .slice none 0 0] 56) w.heap.size (by simp)).trans HBX.out
  rw [show (w.alloc (Obj.cells #[.int .i64 s.st, .int .i64 s.lb, .int .i64 s.s0, .slice a s.es.length c] 24)).heap.size = w.heap.size + 1 by simp] at hz1
  have hG1 : GIn w ((w.alloc (Obj.cells #[.int .i64 s.st, .int .i64 s.lb, .int .i64 s.s0, .slice a s.es.length c] 24)).alloc (Obj.cells #[.int .i64 0, .int .i64 0, .int .i64 0, .slice none 0 0, .slice none 0 0, .slice none 0 0, .slice none 0 0, .slice none 0 0] 56)) s a c :=
    ⟨hB1, hx1, hz1⟩
  have HG1 := Lib.hid hG1
  clear hB1 hz1 hx1 hG1 HBX HB0
  refine (cut_zero (.inl rfl)).mono ?_
  rintro e w2 ⟨a5, c5, T5, rfl, hB2⟩
  have HG2 := Lib.hid (HG1.out.call hB2)
  clear hB2 HG1
  go_wp2_with fail
  have HG3 := Lib.hid (HG2.out.call ((Below.refl w2.heap.size w2).alloc (Nat.le_refl _) (Obj.cells #[.int .i64 0, .int .i64 0, .int .i64 0, .slice a5 0 c5] 24)))
  have HX5 := Lib.hid (heap_alloc_new w2 (Obj.cells #[.int .i64 0, .int .i64 0, .int .i64 0, .slice a5 0 c5] 24))
  refine (cut_zero HG3.out.zero).mono ?_
  rintro e w4 ⟨a7, c7, T7, rfl, hB4⟩
  have HG4 := Lib.hid (HG3.out.call hB4)
  have hx5 := (hB4.block w2.heap.size (by simp)).trans HX5.out
  have hs4 := hB4.size
  have hl5 : w2.heap.size < w4.heap.size := by simp at hs4; omega
  have HX5' := Lib.hid hx5
  clear hB4 HG3 HX5 hs4 hx5
  obtain ⟨b5, hb5⟩ : ∃ b5, b5 = w2.heap.size := ⟨_, rfl⟩
  rw [← hb5] at HX5' hl5 ⊢
  have HB5 := Lib.hid hb5
  clear hb5 HG2
  have HX6 := Lib.hid ((Below.heap_alloc w4 (Obj.cells #[.int .i64 0, .int .i64 0, .int .i64 0, .slice a7 0 c7] 24) b5 hl5).trans HX5'.out)
  obtain ⟨q0, q1, q2, q3, q4⟩ := sysCells HX5'.out
  go_wp2_with fail
  have HG6 := Lib.hid (HG4.out.call ((Below.refl w4.heap.size w4).alloc (Nat.le_refl _) (Obj.cells #[.int .i64 0, .int .i64 0, .int .i64 0, .slice a7 0 c7] 24)))
  have HX7 := Lib.hid (heap_alloc_new w4 (Obj.cells #[.int .i64 0, .int .i64 0, .int .i64 0, .slice a7 0 c7] 24))
  refine (sameSystem_zero _).mono ?_
  rintro e w7 ⟨rfl, hB7⟩
  have HG7 := Lib.hid (HG6.out.call hB7)
  have hx7 := (hB7.block w4.heap.size (by simp)).trans HX7.out
  obtain ⟨r0, r1, r2, r3, r4⟩ := sysCells hx7
  clear hB7 hx7 HX7 HG6 HX6 HX5' HG4 q0 q1 q2 q3 q4
  go_wp2_with fail
  refine (sameSystem_zero _).mono ?_
  rintro e w8 ⟨rfl, hB8⟩
  have HG8 := Lib.hid (HG7.out.call hB8)
  clear hB8 HG7 r0 r1 r2 r3 r4
  go_wp2_with fail
  refine (states_zero (.inl rfl)).mono ?_
  rintro e w9 ⟨rfl, hB⟩
  have HG9 := Lib.hid (HG8.out.call hB)
  clear hB HG8
  go_wp2_with fail
  refine (states_zero HG9.out.zero).mono ?_
  rintro e w10 ⟨rfl, hB⟩
  have HG10 := Lib.hid (HG9.out.call hB)
  clear hB HG9
  go_wp2_with fail
  refine (labels_zero (.inl rfl)).mono ?_
  rintro e w11 ⟨rfl, hB⟩
  have HG11 := Lib.hid (HG10.out.call hB)
  clear hB HG10
  go_wp2_with fail
  refine (degree_zero HG11.out.zero).mono ?_
  rintro e w12 ⟨rfl, hB⟩
  have HG12 := Lib.hid (HG11.out.call hB)
  clear hB HG11
  go_wp2_with fail
  refine (reach_zero (.inl rfl)).mono ?_
  rintro e w13 ⟨rfl, hB⟩
  have HG13 := Lib.hid (HG12.out.call hB)
  clear hB HG12
  go_wp2_with fail
  refine (edges_zero HG13.out.zero).mono ?_
  rintro e w14 ⟨ae, ce, rfl, hB⟩
  have HG14 := Lib.hid (HG13.out.call hB)
  clear hB HG13
  go_wp2_with fail
  refine (out_nil 0).mono ?_
  rintro e w15 ⟨ao, co, rfl, hB⟩
  have HG15 := Lib.hid (HG14.out.call hB)
  obtain ⟨x0, x1, x2, x3, x4⟩ := sysCells HG15.out.box
  clear hB HG14
  go_wp2_with fail
  have hE15 := HE.out.below HG15.out.bel
  have hS15 := HS.out.below HG15.out.bel (Nat.le_refl _)
  have HE15 := Lib.hid hE15; have HS15 := Lib.hid hS15
  clear hE15 hS15
  by_cases hr : s.Right
  case neg =>
    refine (new_no (c := c) hr HE15.out HS15.out).mono ?_
    rintro e w16 ⟨v, rfl, hF, hB⟩
    obtain ⟨fb, rfl, _⟩ := hF.ex
    have HG16 := Lib.hid (HG15.out.call hB)
    have HR := Lib.hid hr
    clear hB hF hr HG15 x0 x1 x2 x3 x4
    go_wp2_with fail
    refine (alive_any (HE.out.below HG16.out.bel)).mono ?_
    rintro e w17 ⟨rfl, hB⟩
    have HG17 := Lib.hid (HG16.out.call hB)
    obtain ⟨x0, x1, x2, x3, x4⟩ := sysCells HG17.out.box
    clear hB HG16
    go_wp2_with fail
    refine (right_no (c := c) HR.out (HS.out.below HG17.out.bel (Nat.le_refl _))).mono ?_
    rintro e w18 ⟨rfl, hB⟩
    have HG18 := Lib.hid (HG17.out.call hB)
    clear hB HG17 x0 x1 x2 x3 x4
    go_wp2
    go_ret
    exact ⟨rfl, HG18.out.bel⟩
  case pos =>
    refine (new_ok (c := c) hr HE15.out HS15.out).mono ?_
    rintro e w16 ⟨gb, rfl, hGr, hB, _⟩
    have HG16 := Lib.hid (HG15.out.call hB)
    have HGR := Lib.hid hGr; have HR := Lib.hid hr
    clear hB hGr hr HG15 x0 x1 x2 x3 x4
    go_wp2_with fail
    refine (cut_any HGR.out).mono ?_
    rintro e w17 ⟨v, TB, rfl, hown, hrow, hTB, hB⟩
    obtain ⟨ga, gc, g, rfl, _, _, hsl, hgb⟩ := slAt_own lenE hown
    have HG17 := Lib.hid (HG16.out.call hB)
    obtain ⟨D, hD⟩ : ∃ D, D = cut s.norm := ⟨_, rfl⟩
    obtain ⟨N, hN⟩ : ∃ N, N = s.st.toNat := ⟨_, rfl⟩
    have hN2 : s.norm.st.toNat = N := hN.symm
    rw [hN2] at hrow ⊢
    rw [← hD] at hsl ⊢
    have HSL := Lib.hid hsl; have HRW := Lib.hid (slAt_rowI hrow); have HD := Lib.hid hD; have HN := Lib.hid hN
    have hdl : D.es.length ≤ 1000000 := by
      rw [hD]
      have h1 := cutE_len s.norm
      have h2 := HR.out.norm.st0
      show (cutE s.norm).length ≤ _
      omega
    have hNl : N ≤ 1000 := by have := HR.out.st0; omega
    obtain ⟨el, hel⟩ : ∃ el, el = D.es.length := ⟨_, rfl⟩
    rw [← hel] at hdl ⊢
    have HEL := Lib.hid hel
    clear hB hown hrow hsl hgb hTB HG16 hD hN hN2 hel HGR
    obtain ⟨x0, x1, x2, x3, x4⟩ := sysCells HG17.out.box
    have HG18 := Lib.hid (HG17.out.call ((Below.refl w17.heap.size w17).alloc (Nat.le_refl _) (Obj.cells #[.int .i64 D.st, .int .i64 D.lb, .int .i64 D.s0, .slice ga el gc] 24)))
    have HX18 := Lib.hid (heap_alloc_new w17 (Obj.cells #[.int .i64 D.st, .int .i64 D.lb, .int .i64 D.s0, .slice ga el gc] 24))
    go_wp2_with fail
    have hq := refCut_any (c := c) HR.out (HS.out.below HG18.out.bel (Nat.le_refl _)) HC.out HCM.out
    rw [← HN.out] at hq
    refine hq.mono ?_
    rintro e w19 ⟨v2, TB2, rfl, hown, hrow, hTB, hB⟩
    rw [← HD.out] at hown
    obtain ⟨ga2, gc2, g2, rfl, _, _, hsl, hgb⟩ := slAt_own lenE hown
    rw [← HD.out, ← HEL.out]
    have HG19 := Lib.hid (HG18.out.call hB)
    have hb17 : Below w17.heap.size w17 w19 := ((Below.refl w17.heap.size w17).alloc (Nat.le_refl _) _).trans (hB.mono (by simp))
    have HSL19 := Lib.hid (HSL.out.below hb17 (Nat.le_refl _)); have HRW19 := Lib.hid (HRW.out.below hb17 (Nat.le_refl _))
    have HSM19 := Lib.hid hsl; have HRM19 := Lib.hid (slAt_rowI hrow)
    have hx19 := (hB.block w17.heap.size (by simp)).trans HX18.out
    have hl19 : w17.heap.size < w19.heap.size := (Array.getElem?_eq_some_iff.1 hx19).1
    obtain ⟨b11, hb11⟩ : ∃ b11, b11 = w17.heap.size := ⟨_, rfl⟩
    rw [← hb11] at hx19 hl19 ⊢
    have HX19 := Lib.hid hx19; have HB11 := Lib.hid hb11
    clear hq hB hown hrow hsl hgb hTB HG17 HG18 HX18 x0 x1 x2 x3 x4 hb17 hx19 hb11 HSL HRW
    go_wp2_with fail
    have ha20 := (Below.refl w19.heap.size w19).alloc (Nat.le_refl _) (Obj.cells #[.int .i64 D.st, .int .i64 D.lb, .int .i64 D.s0, .slice ga2 el gc2] 24)
    have HG20 := Lib.hid (HG19.out.call ha20)
    have hx20a := (Below.heap_alloc w19 (Obj.cells #[.int .i64 D.st, .int .i64 D.lb, .int .i64 D.s0, .slice ga2 el gc2] 24) b11 hl19).trans HX19.out
    have hx20b := heap_alloc_new w19 (Obj.cells #[.int .i64 D.st, .int .i64 D.lb, .int .i64 D.s0, .slice ga2 el gc2] 24)
    refine (alive_any (HE.out.below HG20.out.bel)).mono ?_
    rintro e w21 ⟨rfl, hB⟩
    have HG21 := Lib.hid (HG20.out.call hB)
    have hb19 : Below w19.heap.size w19 w21 := ha20.trans (hB.mono (by simp))
    obtain ⟨q0, q1, q2, q3, q4⟩ := sysCells ((hB.block b11 (by simp; omega)).trans hx20a)
    obtain ⟨r0, r1, r2, r3, r4⟩ := sysCells ((hB.block w19.heap.size (by simp)).trans hx20b)
    have HSL21 := Lib.hid (HSL19.out.below hb19 (Nat.le_refl _)); have HRW21 := Lib.hid (HRW19.out.below hb19 (Nat.le_refl _)); have HSM21 := Lib.hid (HSM19.out.below hb19 (Nat.le_refl _)); have HRM21 := Lib.hid (HRM19.out.below hb19 (Nat.le_refl _))
    clear hB ha20 hx20a hx20b hb19 HG19 HG20 HX19 HSL19 HRW19 HSM19 HRM19
    go_wp2_with fail
    have hq := sameSystem_yes D.st D.lb D.s0 (c1 := gc) (c2 := gc2) HSL21.out HSM21.out (by rw [← HEL.out]; exact hdl)
    rw [← HEL.out] at hq
    refine hq.mono ?_
    rintro e w22 ⟨rfl, hB⟩
    have HG22 := Lib.hid (HG21.out.call hB)
    have hq2 := sameInts_any (c1 := N) (c2 := N) (HRW21.out.below hB (Nat.le_refl _)) (HRM21.out.below hB (Nat.le_refl _)) (by simp; omega) (by simp; omega)
    simp only [List.length_map, List.length_range, decide_true] at hq2
    have HQ2 := Lib.hid hq2
    clear hB hq hq2 q0 q1 q2 q3 q4 r0 r1 r2 r3 r4 HG21
    go_wp2_with fail
    refine HQ2.out.mono ?_
    rintro e w23 ⟨rfl, nn, rfl⟩
    go_wp2
    go_ret
    exact ⟨rfl, bdrew HG22.out.bel⟩
end Go.Proofs.YtbbjmompbmgnmaaDoor

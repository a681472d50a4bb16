/-
  quotient.Same.
  law14.small, law14.alive.
-/
import Derived.Test.YtopnedihknjjfaaGreatDoorGQuoB
namespace Go.Proofs.YtopnedihknjjfaaGreatDoor
open Go.RowKit Pl

/-- What Same answers. -/
def SamePost (s : Lts) (n z : Nat) (t : Lts) (m y : Nat) (w : World) (e : Ending) (w' : World) : Prop :=
  ∃ r, e = .returned (.tuple #[.bool r, .nilIface]) ∧ (r = true ↔ Eqv s n z t m y) ∧ Below w.heap.size w w'

set_option maxRecDepth 100000 in
set_option maxHeartbeats 8000000 in
theorem same_any {p : Addr} {s t : Lts} {n z m y : Nat} (hs : s.Right) (ht : t.Right) (hn : s.st = (n : Int)) (hm : t.st = (m : Int)) (hn0 : 0 < n) (hm0 : 0 < m) (hz : s.s0 = (z : Int)) (hy : t.s0 = (y : Int)) (h1 : s.st + t.st ≤ 1000) (h2 : s.es.length + t.es.length ≤ 10000) {a a2 : Option Addr} {b off c b2 off2 c2 : Nat} {w : World} (hG : GErr 0 p w) (hS : SlAt encE 3 w a b off s.es) (hT : SlAt encE 3 w a2 b2 off2 t.es) :
    Calls Tryz.prog 27 #[.agg #[.int .i64 s.st, .int .i64 s.lb, .int .i64 s.s0, .slice a s.es.length c], .agg #[.int .i64 t.st, .int .i64 t.lb, .int .i64 t.s0, .slice a2 t.es.length c2]] w (SamePost s n z t m y w) := by
  have k1 := hs.st0; have k2 := ht.st0
  have hzn : z < n := by omega
  have hym : y < m := by omega
  have hB0 := ((Below.refl w.heap.size w).alloc (Nat.le_refl _) (Obj.cells #[.int .i64 s.st, .int .i64 s.lb, .int .i64 s.s0, .slice a s.es.length c] 24)).alloc (by simp) (Obj.cells #[.int .i64 t.st, .int .i64 t.lb, .int .i64 t.s0, .slice a2 t.es.length c2] 24)
  have hx0 := (((Below.refl _ _).alloc (Nat.le_refl _) (Obj.cells #[.int .i64 t.st, .int .i64 t.lb, .int .i64 t.s0, .slice a2 t.es.length c2] 24)).block w.heap.size (by simp)).trans (heap_alloc_new w (Obj.cells #[.int .i64 s.st, .int .i64 s.lb, .int .i64 s.s0, .slice a s.es.length c] 24))
  have hy0 := heap_alloc_at (w.alloc (Obj.cells #[.int .i64 s.st, .int .i64 s.lb, .int .i64 s.s0, .slice a s.es.length c] 24)) (Obj.cells #[.int .i64 t.st, .int .i64 t.lb, .int .i64 t.s0, .slice a2 t.es.length c2] 24) (w.heap.size + 1) (by simp)
  have HUN := Lib.hid (union_any (c := c) (c2 := c2) hs ht (by omega) h1 h2 (hG.below hB0) (hS.below hB0 (Nat.le_refl _)) (hT.below hB0 (Nat.le_refl _)))
  have HUR := Lib.hid (uni_Right hs ht h1 h2)
  have HST : RowKit.Hid ((uniS s t).st = ((n + m : Nat) : Int)) := Lib.hid (by show s.st + t.st = _; omega)
  have HB0 := Lib.hid hB0; have HX0 := Lib.hid hx0; have HY0 := Lib.hid hy0; have HG := Lib.hid hG; have HR := Lib.hid hs; have HRT := Lib.hid ht; have HN := Lib.hid hn; have HM := Lib.hid hm; have HZ := Lib.hid hz; have HYY := Lib.hid hy
  have g1 : ¬ s.st = 0 := by omega
  have g2 : ¬ t.st = 0 := by omega
  have g3 : (s.st == 0) = false := by simp [g1]
  have g4 : (t.st == 0) = false := by simp [g2]
  have hnm : n + m ≤ 1000 := by omega
  obtain ⟨u, hu⟩ : ∃ u, u = uniS s t := ⟨_, rfl⟩
  unfold UniPost at HUN
  rw [← hu] at HUN HUR HST
  have HU := Lib.hid hu
  clear hB0 hx0 hy0 hG hs ht hS hT hn hm hz hy h1 h2 k1 k2 hu
  go_enter Tryz.func27, Tryz.ntmps27
  go_wp2_with fail
  refine HUN.out.mono ?_
  rintro e w1 ⟨ea, eb, ec, rfl, hes, hB1⟩
  have hB2 := (hB1.mono (show w.heap.size + 1 + 1 ≤ _ by simp)).alloc (by have := hB1.size; simp at this; omega) (.cells #[.int .i64 u.st, .int .i64 u.lb, .int .i64 u.s0, .slice ea u.es.length ec] 24)
  have hx2 := (hB2.block w.heap.size (by omega)).trans HX0.out
  have hy2 := (hB2.block (w.heap.size + 1) (by omega)).trans HY0.out
  have hb2 := HB0.out.trans (hB2.mono (show _ ≤ w.heap.size + 1 + 1 by omega))
  have hs2 := hes.below ((Below.refl w1.heap.size w1).alloc (Nat.le_refl _) (.cells #[.int .i64 u.st, .int .i64 u.lb, .int .i64 u.s0, .slice ea u.es.length ec] 24)) (Nat.le_refl _)
  have hg2 := HG.out.below hb2
  have hu2 := heap_alloc_new w1 (Obj.cells #[.int .i64 u.st, .int .i64 u.lb, .int .i64 u.s0, .slice ea u.es.length ec] 24)
  obtain ⟨w2, hw2⟩ : ∃ w2, w2 = w1.alloc (.cells #[.int .i64 u.st, .int .i64 u.lb, .int .i64 u.s0, .slice ea u.es.length ec] 24) := ⟨_, rfl⟩
  obtain ⟨X, hX⟩ : ∃ X, X = w.heap.size := ⟨_, rfl⟩
  obtain ⟨Z, hZ⟩ : ∃ Z, Z = w.heap.size + 1 := ⟨_, rfl⟩
  obtain ⟨U, hU⟩ : ∃ U, U = w1.heap.size := ⟨_, rfl⟩
  rw [← hw2] at hx2 hy2 hb2 hs2 hg2 hu2
  rw [← hX] at hx2
  rw [← hZ] at hy2
  rw [← hU] at hu2
  have HCL := Lib.hid (strClasses_any (c := ec) HUR.out HST.out hg2 hs2)
  have HX2 := Lib.hid hx2; have HY2 := Lib.hid hy2; have HU2 := Lib.hid hu2; have HB2 := Lib.hid hb2
  clear hB2 hes hB1 hs2 hg2 HB0 HX0 HY0 HUN
  obtain ⟨x0, x1, x2, x3, x4⟩ := sys9 hx2
  obtain ⟨z0, z1, z2, z3, z4⟩ := sys9 hy2
  obtain ⟨u0, u1, u2, u3, u4⟩ := sys9 hu2
  clear hx2 hy2 hb2 hu2
  go_upto_region 2 with fail
  rw [← hZ, ← hX, ← hU, ← hw2]
  clear hZ hX hU hw2
  go_wp2_with fail
  refine HCL.out.mono ?_
  unfold StrClasses
  rintro e w3 ⟨inn, ca, cc, hbig, rfl, hown, hB3⟩
  have hcl : (canon (flN (n + m) inn)).length = n + m := by rw [canon_len, flN_len]
  have hos : SlAt encI 1 w3 ca (blkOf ca) 0 (canon (flN (n + m) inn)) := ((Rws.nil (Below.refl w2.heap.size w2)).add hB3 hown).slO (i := 0) rfl lenI hcl.symm
  rw [canon9] at hos
  obtain ⟨cb, hcb⟩ : ∃ cb, cb = blkOf ca := ⟨_, rfl⟩
  rw [← hcb] at hos
  clear hcb
  obtain rfl := hos.ad (by rw [fl_len]; omega)
  have d0 := hos.ci (fl_get (cl9 (n + m) inn) (i := z) (by omega))
  have d1 := hos.ci (fl_get (cl9 (n + m) inn) (i := n + y) (by omega))
  have dl := hos.lt (by rw [fl_len]; omega)
  have hbu := cl9_big hbig
  rw [HU.out] at hbu
  have HUB := Lib.hid (uni_big HR.out HRT.out HN.out hbu hzn hym)
  obtain ⟨c1, hc1⟩ : ∃ c1, c1 = cl9 (n + m) inn z := ⟨_, rfl⟩
  obtain ⟨c2, hc2⟩ : ∃ c2, c2 = cl9 (n + m) inn (n + y) := ⟨_, rfl⟩
  rw [← hc1] at d0 HUB
  rw [← hc2] at d1 HUB
  have hx3 := (hB3.block X x4).trans HX2.out
  have hy3 := (hB3.block Z z4).trans HY2.out
  have HB3 := Lib.hid (HB2.out.trans (hB3.mono HB2.out.size)).drew
  clear x0 x1 x2 x3 x4 z0 z1 z2 z3 z4 u0 u1 u2 u3 u4
  have x2 : w3.cell? ⟨X, 2, none⟩ = some (.int .i64 (z : Int)) := by rw [← HZ.out]; exact (sys9 hx3).2.2.1
  have x4 := (sys9 hx3).2.2.2.2
  have z2 : w3.cell? ⟨Z, 2, none⟩ = some (.int .i64 (y : Int)) := by rw [← HYY.out]; exact (sys9 hy3).2.2.1
  have z4 := (sys9 hy3).2.2.2.2
  clear hcl hos hbu hbig hown hB3 hx3 hy3 HX2 HY2 HU2 HB2 hc1 hc2 HCL
  have g5 : IntKind.i64.wrap ((y : Int) + s.st) = ((n + y : Nat) : Int) := by rw [HN.out, IntWalk.i64_in _ (by omega)]; omega
  have g6 : ((n + y : Nat) : Int) < ((n + m : Nat) : Int) := by omega
  have g7 : (z : Int) < ((n + m : Nat) : Int) := by omega
  simp only [Nat.zero_add] at d0 d1
  go_upto_region 7 with fail
  go_region
  go_wp2
  go_ret2
  exact ⟨_, rfl, by rw [beq_iff_eq]; exact HUB.out, HB3.out⟩

/-- quotient.by of no right system. -/
def QuoNo (w : World) (e : Ending) (w' : World) : Prop :=
  ∃ fb : Nat, e = .returned (.tuple #[.agg #[.int .i64 0, .int .i64 0, .int .i64 0, .slice none 0 0], .slice none 0 0, .iface 106 (.pointer (some ⟨fb, 0, none⟩))]) ∧ Below w.heap.size w w'

set_option maxRecDepth 100000 in
set_option maxHeartbeats 4000000 in
theorem quoByNo_any {p : Addr} {s : Lts} (h : ¬ s.Right) {a : Option Addr} {b off c : Nat} {w : World} {kind : Value} (hG : GErr 0 p w) (hT : ErrType w) (hS : SlAt encE 3 w a b off s.es) :
    Calls Tryz.prog 63 #[.agg #[.int .i64 s.st, .int .i64 s.lb, .int .i64 s.s0, .slice a s.es.length c], kind, .bool false] w (QuoNo w) := by
  have hB0 := ((Below.refl w.heap.size w).alloc (Nat.le_refl _) (Obj.cells #[.int .i64 s.st, .int .i64 s.lb, .int .i64 s.s0, .slice a s.es.length c] 24)).alloc (by simp) (Obj.cells #[.int .i64 0, .int .i64 0, .int .i64 0, .slice none 0 0] 24)
  have hy0 := heap_alloc_at (w.alloc (Obj.cells #[.int .i64 s.st, .int .i64 s.lb, .int .i64 s.s0, .slice a s.es.length c] 24)) (Obj.cells #[.int .i64 0, .int .i64 0, .int .i64 0, .slice none 0 0] 24) (w.heap.size + 1) (by simp)
  have HCK := Lib.hid (check_no h a b off c _ (hG.below hB0) (hS.below hB0 (Nat.le_refl _)))
  have HB0 := Lib.hid hB0; have HY0 := Lib.hid hy0; have HT := Lib.hid hT
  clear hB0 hy0 hS hG hT h
  go_enter Tryz.func63, Tryz.ntmps63
  go_wp2_with fail
  refine HCK.out.mono ?_
  rintro e w1 ⟨v, rfl, hF, hB1⟩
  obtain ⟨fb, rfl, hfb⟩ := hF.ex
  have HB1 := Lib.hid (HB0.out.trans (hB1.mono (by simp; omega)))
  have HA := Lib.hid (faultAs_any quoName (HT.out.below HB1.out) hfb)
  have HY1 := Lib.hid ((hB1.block (w.heap.size + 1) (by simp)).trans HY0.out)
  clear hB1 hfb hF HY0 HB0 HCK
  unfold quoName at HA
  go_wp2_with fail
  refine HA.out.mono ?_
  rintro e w2 ⟨v, rfl, hF2, hB2⟩
  obtain ⟨fb, rfl, hfb⟩ := hF2.ex
  have HB2 := Lib.hid (HB1.out.trans (hB2.mono HB1.out.size))
  have hy2 := (hB2.block (w.heap.size + 1) (Array.getElem?_eq_some_iff.1 HY1.out).1).trans HY1.out
  obtain ⟨y0, y1, y2, y3, y4⟩ := sys9 hy2
  have yf0 : w2.frozen? ⟨w.heap.size + 1, 0, none⟩ = false := by simp [World.frozen?, hy2]
  have yf1 : w2.frozen? ⟨w.heap.size + 1, 1, none⟩ = false := by simp [World.frozen?, hy2]
  have yf2 : w2.frozen? ⟨w.heap.size + 1, 2, none⟩ = false := by simp [World.frozen?, hy2]
  have yf3 : w2.frozen? ⟨w.heap.size + 1, 3, none⟩ = false := by simp [World.frozen?, hy2]
  clear hF2 hfb hB2 hy2 HY1 HB1 HA
  go_wp2_with fail
  refine bodyPost_ret (v := .tuple #[.agg #[.int .i64 0, .int .i64 0, .int .i64 0, .slice none 0 0], .slice none 0 0, .iface 106 (.pointer (some ⟨fb, 0, none⟩))]) (by simp [results, Tryz.results63, go_sem, y0, y1, y2, y3]) rfl ⟨fb, rfl, ?_⟩
  exact (((HB2.out.setCell (by show w.heap.size ≤ w.heap.size + 1; omega) _).setCell (by show w.heap.size ≤ w.heap.size + 1; omega) _).setCell (by show w.heap.size ≤ w.heap.size + 1; omega) _).setCell (by show w.heap.size ≤ w.heap.size + 1; omega) _

set_option maxRecDepth 100000 in
set_option maxHeartbeats 4000000 in
theorem quoStrongNo_any {p : Addr} {s : Lts} (h : ¬ s.Right) {a : Option Addr} {b off c : Nat} {w : World} (hG : GErr 0 p w) (hT : ErrType w) (hS : SlAt encE 3 w a b off s.es) :
    Calls Tryz.prog 26 #[.agg #[.int .i64 s.st, .int .i64 s.lb, .int .i64 s.s0, .slice a s.es.length c]] w (QuoNo w) := by
  have hB0 := ((Below.refl w.heap.size w).alloc (Nat.le_refl _) (Obj.cells #[.int .i64 s.st, .int .i64 s.lb, .int .i64 s.s0, .slice a s.es.length c] 24)).alloc (by simp) (Obj.cells #[.int .i64 0, .int .i64 0, .int .i64 0, .slice none 0 0] 24)
  have hy0 := heap_alloc_at (w.alloc (Obj.cells #[.int .i64 s.st, .int .i64 s.lb, .int .i64 s.s0, .slice a s.es.length c] 24)) (Obj.cells #[.int .i64 0, .int .i64 0, .int .i64 0, .slice none 0 0] 24) (w.heap.size + 1) (by simp)
  have HBY := Lib.hid (quoByNo_any (c := c) (kind := .func (.func 28) #[] #[]) h (hG.below hB0) (hT.below hB0) (hS.below hB0 (Nat.le_refl _)))
  have HB0 := Lib.hid hB0; have HY0 := Lib.hid hy0
  clear hB0 hy0 hS hG hT h
  go_enter Tryz.func26, Tryz.ntmps26
  go_wp2_with fail
  refine HBY.out.mono ?_
  rintro e w2 ⟨fb, rfl, hB2⟩
  have HB2 := Lib.hid (HB0.out.trans (hB2.mono (by simp; omega)))
  have hy2 := (hB2.block (w.heap.size + 1) (by simp)).trans HY0.out
  obtain ⟨y0, y1, y2, y3, y4⟩ := sys9 hy2
  have yf0 : w2.frozen? ⟨w.heap.size + 1, 0, none⟩ = false := by simp [World.frozen?, hy2]
  have yf1 : w2.frozen? ⟨w.heap.size + 1, 1, none⟩ = false := by simp [World.frozen?, hy2]
  have yf2 : w2.frozen? ⟨w.heap.size + 1, 2, none⟩ = false := by simp [World.frozen?, hy2]
  have yf3 : w2.frozen? ⟨w.heap.size + 1, 3, none⟩ = false := by simp [World.frozen?, hy2]
  clear hB2 hy2 HY0 HB0 HBY
  go_wp2_with fail
  refine bodyPost_ret (v := .tuple #[.agg #[.int .i64 0, .int .i64 0, .int .i64 0, .slice none 0 0], .slice none 0 0, .iface 106 (.pointer (some ⟨fb, 0, none⟩))]) (by simp [results, Tryz.results26, go_sem, y0, y1, y2, y3]) rfl ⟨fb, rfl, ?_⟩
  exact (((HB2.out.setCell (by show w.heap.size ≤ w.heap.size + 1; omega) _).setCell (by show w.heap.size ≤ w.heap.size + 1; omega) _).setCell (by show w.heap.size ≤ w.heap.size + 1; omega) _).setCell (by show w.heap.size ≤ w.heap.size + 1; omega) _
end Go.Proofs.YtopnedihknjjfaaGreatDoor

namespace Go.Proofs.YtopnedihknjjfaaGreatDoor
open Go.RowKit Pl

theorem small14_any (s0 st lb : Int) (a : Option Addr) (m c : Nat) (w : World) :
    Calls Tryz.prog 24 #[.agg #[.int .i64 st, .int .i64 lb, .int .i64 s0, .slice a m c]] w fun e w' => e = .returned (.bool (decide (st ≤ 40) && decide (m ≤ 250))) ∧ Below w.heap.size w w' := by
  have hb := (Below.refl w.heap.size w).alloc (Nat.le_refl _) (.cells #[.int .i64 st, .int .i64 lb, .int .i64 s0, .slice a m c] 24)
  by_cases h1 : st ≤ 40
  · have e1 : decide (st ≤ 40) = true := by simp [h1]
    have HE1 := Lib.hid e1
    by_cases h2 : m ≤ 250
    · have e2 : decide (m ≤ 250) = true := by simp [h2]
      have HE2 := Lib.hid e2
      have h2' : (m : Int) ≤ 250 := by omega
      clear e1 e2
      rw [HE1.out, HE2.out]
      go_enter Tryz.func24, Tryz.ntmps24
      go_wp2
      go_ret
      exact ⟨rfl, hb⟩
    · have e2 : decide (m ≤ 250) = false := by simp [h2]
      have HE2 := Lib.hid e2
      have h2' : ¬ (m : Int) ≤ 250 := by omega
      clear e1 e2
      rw [HE1.out, HE2.out]
      go_enter Tryz.func24, Tryz.ntmps24
      go_wp2
      go_ret
      exact ⟨rfl, hb⟩
  · have e1 : decide (st ≤ 40) = false := by simp [h1]
    rw [e1, Bool.false_and]
    clear e1
    go_enter Tryz.func24, Tryz.ntmps24
    go_wp2
    go_ret
    exact ⟨rfl, hb⟩

namespace Pl
def al14 : Lts := ⟨3, 2, 0, [(0, 1, 1), (0, 1, 2)]⟩
theorem al14_right : al14.Right := ⟨by unfold HeadBad al14; simp, by decide⟩
theorem al14_norm : al14.norm = al14 := by
  unfold Lts.norm
  have : nf ltE al14.es = al14.es := by decide
  rw [this]
theorem al14_big {C : Nat → Int} (h : Big al14 3 C) : C 0 ≠ C 1 ∧ C 1 = C 2 := by
  have hs : ∀ p l t, stp al14 p l t ↔ l = 1 ∧ p = 0 ∧ (t = 1 ∨ t = 2) := fun p l t => by
    unfold stp al14
    simp only [List.mem_cons, Prod.mk.injEq, List.not_mem_nil, or_false]
    omega
  constructor
  · intro e
    obtain ⟨u, _, h1, _⟩ := (h.bis 0 1 (by omega) (by omega) e).1 1 1 (by omega) ((hs _ _ _).2 (by omega))
    rw [hs] at h1; omega
  · exact h.all (fun p q => p = q ∨ (p = 1 ∧ q = 2) ∨ (p = 2 ∧ q = 1)) (fun p q hp hq hr => by
      refine ⟨fun l t ht hst => ?_, fun l t ht hst => ?_⟩
      · rw [hs] at hst
        rcases hr with rfl | ⟨rfl, rfl⟩ | ⟨rfl, rfl⟩
        · exact ⟨t, ht, (hs _ _ _).2 hst, .inl rfl⟩
        · omega
        · omega
      · rw [hs] at hst
        rcases hr with rfl | ⟨rfl, rfl⟩ | ⟨rfl, rfl⟩
        · exact ⟨t, ht, (hs _ _ _).2 hst, .inl rfl⟩
        · omega
        · omega) 1 2 (by omega) (by omega) (.inr (.inl ⟨rfl, rfl⟩))
theorem al14_reach : reachL al14 = [0, 1, 2] := by
  have h0 : Rch al14 0 := Rch.start al14
  have h1 : Rch al14 1 := h0.step (l := 1) (by decide)
  have h2 : Rch al14 2 := h0.step (l := 1) (by decide)
  unfold reachL
  show List.filter _ [(0 : Int), 1, 2] = _
  simp [h0, h1, h2]
theorem al14_quo {C : Nat → Int} (h : Big al14 3 C) : quoS al14 (fl 3 C) = ⟨2, 2, 0, [(0, 1, 1)]⟩ ∧ fl 3 (fun j => toI (quoD al14 (fl 3 C)) (C j)) = [0, 1, 1] := by
  obtain ⟨h1, h2⟩ := al14_big h
  have a0 : atL (fl 3 C) 0 = C 0 := atLF (n := 3) (f := C) (t := 0) (by omega)
  have a1 : atL (fl 3 C) 1 = C 1 := atLF (n := 3) (f := C) (t := 1) (by omega)
  have a2 : atL (fl 3 C) 2 = C 2 := atLF (n := 3) (f := C) (t := 2) (by omega)
  have hd : quoD al14 (fl 3 C) = [C 0, C 1] := by
    unfold quoD clsL
    rw [al14_reach]
    simp only [List.map_cons, List.map_nil, a0, a1, a2, ← h2]
    have e : ([C 0, C 1, C 1] : List Int) = [] ++ [C 0] ++ [C 1] ++ [C 1] := rfl
    rw [e, dist_snoc, dist_snoc, dist_snoc]
    unfold addN
    simp [dist, Ne.symm h1]
  have t0 : toI [C 0, C 1] (C 0) = 0 := by unfold toI; simp
  have t1 : toI [C 0, C 1] (C 1) = 1 := by
    have e : (C 0 == C 1) = false := by simp [h1]
    unfold toI
    simp [List.idxOf_cons, e]
  have o0 : al14.outs 0 = [(1, 1), (1, 2)] := by decide
  have o1 : al14.outs 1 = [] := by decide
  have o2 : al14.outs 2 = [] := by decide
  have he : quoE al14 (fl 3 C) [C 0, C 1] [0, 1, 2] = [(0, 1, 1), (0, 1, 1)] := by
    unfold quoE
    simp [o0, o1, o2, a0, a1, a2, ← h2, t0, t1]
  constructor
  · unfold quoS
    rw [hd, al14_reach, he]
    have : nf ltE [((0 : Int), (1 : Int), (1 : Int)), (0, 1, 1)] = [(0, 1, 1)] := by decide
    rw [this]
    have : al14.s0 = 0 := rfl
    rw [this, a0, t0]
    rfl
  · rw [hd]
    unfold fl
    show [toI [C 0, C 1] (C 0), toI [C 0, C 1] (C 1), toI [C 0, C 1] (C 2)] = _
    rw [← h2, t0, t1]
end Pl

set_option maxRecDepth 100000 in
set_option maxHeartbeats 4000000 in
theorem alive14_any {w : World} {p : Addr} (hG : GErr 0 p w) :
    Calls Tryz.prog 25 #[] w fun e w' => e = .returned (.bool true) ∧ Below w.heap.size w w' := by
  have HG := Lib.hid hG
  clear hG
  go_enter Tryz.func25, Tryz.ntmps25
  go_wp2_with fail
  have hS : SlAt encE 3 (w.alloc (.cells #[.int .i64 0, .int .i64 1, .int .i64 1, .int .i64 0, .int .i64 1, .int .i64 2] 36)) (some ⟨w.heap.size, 0, none⟩) w.heap.size 0 al14.es := by
    have h := ((Rws.nil (Below.refl w.heap.size w)).addLit #[.int .i64 0, .int .i64 1, .int .i64 1, .int .i64 0, .int .i64 1, .int .i64 2] 36 (k := 3) (n := 2) (by decide) rfl).slO (enc := encE) (i := 0) (ys := al14.es) rfl lenE rfl
    exact h
  have hB0 := ((Below.refl w.heap.size w).alloc (Nat.le_refl _) (.cells #[.int .i64 0, .int .i64 1, .int .i64 1, .int .i64 0, .int .i64 1, .int .i64 2] 36)).alloc (by simp) (.cells #[.int .i64 3, .int .i64 2, .int .i64 0, .slice (some ⟨w.heap.size, 0, none⟩) 2 2] 24)
  have hS1 := hS.below ((Below.refl _ _).alloc (Nat.le_refl _) (.cells #[.int .i64 3, .int .i64 2, .int .i64 0, .slice (some ⟨w.heap.size, 0, none⟩) 2 2] 24)) (Nat.le_refl _)
  have HQ := Lib.hid (quoStrong_any (s := al14) (n := 3) (c := 2) al14_right rfl (by omega) (by decide) (HG.out.below hB0) hS1)
  have HB0 := Lib.hid hB0
  clear hS hS1 hB0 HG
  refine HQ.out.mono ?_
  unfold QuoStr QuoPost
  rintro e w1 ⟨C, hbig, ea, ta, eb, ec, tb, tc, rfl, hes, hto, heb, htb, hB1⟩
  rw [al14_norm, (al14_quo hbig).1] at hes
  rw [al14_norm, (al14_quo hbig).2] at hto
  rw [al14_norm, (al14_quo hbig).1]
  obtain rfl := hto.ad (by decide)
  have l3 := hto.ci (i := 2) (x := 1) rfl
  have ll := hto.lt (by decide)
  simp only [Nat.zero_add] at l3
  have HB1 := Lib.hid ((HB0.out.trans (hB1.mono (by simp; omega))).alloc (by have := hB1.size; simp at this; omega) (.cells #[.int .i64 2, .int .i64 2, .int .i64 0, .slice ea 1 ec] 24))
  clear hbig hes hto heb htb hB1 HQ HB0
  go_wp2_with fail
  go_ret
  exact ⟨rfl, HB1.out⟩
end Go.Proofs.YtopnedihknjjfaaGreatDoor

/-
  law17.alive.
  law17.small.
-/
import Derived.Test.YtbbjmompbmgnmaaDoorSimQ
import Derived.Test.YtbbjmompbmgnmaaDoorCheck
namespace Go.Proofs.YtbbjmompbmgnmaaDoor
open Go.RowKit Pl

theorem sysS {w : World} {B : Nat} {x y z : Int} {v : Value} (h : w.heap[B]? = some (.cells #[.int .i64 x, .int .i64 y, .int .i64 z, v] 24 (0, 0))) :
    w.cell? ⟨B, 0, none⟩ = some (.int .i64 x) ∧ w.cell? ⟨B, 1, none⟩ = some (.int .i64 y) ∧ w.cell? ⟨B, 2, none⟩ = some (.int .i64 z) ∧ w.cell? ⟨B, 3, none⟩ = some v ∧ B < w.heap.size := by
  refine ⟨?_, ?_, ?_, ?_, (Array.getElem?_eq_some_iff.1 h).1⟩ <;> simp [World.cell?, h]

set_option maxRecDepth 100000 in
set_option maxHeartbeats 4000000 in
theorem alive17_any {w : World} {p : Addr} (hG : GErr 0 p w) (hT : Tab w) :
    Calls Tryd.prog 13 #[] w fun e w' => e = .returned (.bool true) ∧ Below w.heap.size w w' := by
  have HG := Lib.hid hG; have HT := Lib.hid hT
  clear hG hT
  go_enter Tryd.func13, Tryd.ntmps13
  go_wp2_with fail
  have hS : SlAt encE 3 (w.alloc (.cells #[.int .i64 0, .int .i64 1, .int .i64 1] 35)) (some ⟨w.heap.size, 0, none⟩) w.heap.size 0 [(0, 1, 1)] := by
    have h := World.ownsRow_lit (e := 35) (size := 3) (base := w.heap.size) w #[.int .i64 0, .int .i64 1, .int .i64 1] 1 (Nat.le_refl _) (by unfold maxLen; omega) rfl
    obtain ⟨a, c, b, hv, _, _, hs, _⟩ := slAt_own (xs := [((0 : Int), (1 : Int), (1 : Int))]) lenE h
    simp only [Value.slice.injEq] at hv
    obtain ⟨rfl, _, _⟩ := hv
    have := hs.ad (by decide)
    simp at this
    subst this
    exact hs
  have hB0 := ((Below.refl w.heap.size w).alloc (Nat.le_refl _) (.cells #[.int .i64 0, .int .i64 1, .int .i64 1] 35)).alloc (by simp) (.cells #[.int .i64 3, .int .i64 2, .int .i64 0, .slice (some ⟨w.heap.size, 0, none⟩) 1 1] 24)
  have hx0 := heap_alloc_new (w.alloc (.cells #[.int .i64 0, .int .i64 1, .int .i64 1] 35)) (.cells #[.int .i64 3, .int .i64 2, .int .i64 0, .slice (some ⟨w.heap.size, 0, none⟩) 1 1] 24)
  rw [show (w.alloc (.cells #[.int .i64 0, .int .i64 1, .int .i64 1] 35)).heap.size = w.heap.size + 1 by simp] at hx0
  have hS1 := hS.alloc (.cells #[.int .i64 3, .int .i64 2, .int .i64 0, .slice (some ⟨w.heap.size, 0, none⟩) 1 1] 24)
  have hb1 := below_any (n := 3) (lb := 2) (s0 := 0) (es := [(0, 1, 1)]) (c := 1) aliveS_right (by omega) (HG.out.below hB0) (HT.out.below hB0) hS1 (p := 1) (q := 0) (by omega) (by omega)
  refine hb1.mono ?_
  rintro e w1 ⟨R, rfl, hgt, hB1⟩
  rw [aliveS_nf] at hgt
  rw [(aliveS_R (R := R) hgt).1]
  have hx1 := (hB1.block (w.heap.size + 1) (by simp)).trans hx0
  have hB1' := hB0.trans (hB1.mono (by simp; omega))
  have hS2 := hS1.below hB1 (Nat.le_refl _)
  have HB1 := Lib.hid hB1'; have HX1 := Lib.hid hx1; have HS := Lib.hid hS2
  obtain ⟨x0, x1, x2, x3, x4⟩ := sysS hx1
  clear hB0 hx0 hS hS1 hb1 hgt hx1 hB1 hB1' hS2
  go_wp2_with fail
  refine (below_any (n := 3) (lb := 2) (s0 := 0) (es := [(0, 1, 1)]) (c := 1) aliveS_right (by omega) (HG.out.below HB1.out) (HT.out.below HB1.out) HS.out (p := 0) (q := 1) (by omega) (by omega)).mono ?_
  rintro e w2 ⟨R2, rfl, hgt, hB2⟩
  rw [aliveS_nf] at hgt
  rw [(aliveS_R (R := R2) hgt).2.1]
  have hx2 := (hB2.block (w.heap.size + 1) x4).trans HX1.out
  have hB2' := HB1.out.trans (hB2.mono HB1.out.size)
  have hS3 := HS.out.below hB2 (Nat.le_refl _)
  clear x0 x1 x2 x3 x4 HX1 HB1 HS
  have HB2 := Lib.hid hB2'; have HS := Lib.hid hS3
  obtain ⟨x0, x1, x2, x3, x4⟩ := sysS hx2
  clear hgt hx2 hB2 hB2' hS3
  go_wp2_with fail
  refine (simClasses_any (n := 3) (lb := 2) (s0 := 0) (es := [(0, 1, 1)]) (c := 1) aliveS_right (by omega) (HG.out.below HB2.out) (HT.out.below HB2.out) HS.out).mono ?_
  rintro e w3 ⟨R3, v, rfl, hgt, hown, hB3⟩
  rw [aliveS_nf] at hgt
  rw [(aliveS_R (R := R3) hgt).2.2] at hown
  obtain ⟨la, lc, lb, rfl, _, _, hls, _⟩ := slAt_own (xs := [0, 1, 1]) lenI hown
  obtain rfl := hls.ad (by decide)
  have l2 := hls.ci (i := 2) (x := 1) rfl
  have ll := hls.lt (by decide)
  simp only [Nat.zero_add] at l2
  have HB3 := Lib.hid (HB2.out.trans (hB3.mono HB2.out.size))
  clear hgt hown hls hB3 x0 x1 x2 x3 x4 HB2 HS
  go_wp2_with fail
  go_ret
  exact ⟨rfl, HB3.out⟩
end Go.Proofs.YtbbjmompbmgnmaaDoor

namespace Go.Proofs.YtbbjmompbmgnmaaDoor
open Go.RowKit Pl

def Small17 (s : Lts) (w : World) (e : Ending) (w' : World) : Prop := ∃ m : Bool, e = .returned (.bool m) ∧ (m = true ↔ s.st ≤ 25 ∧ s.es.length ≤ 150 ∧ s.Right) ∧ Below w.heap.size w w'
theorem small17_any {p : Addr} {s : Lts} {a : Option Addr} {b off c : Nat} {w : World} (hG : GErr 0 p w) (hS : SlAt encE 3 w a b off s.es) :
    Calls Tryd.prog 12 #[.agg #[.int .i64 s.st, .int .i64 s.lb, .int .i64 s.s0, .slice a s.es.length c]] w (Small17 s w) := by
  have hb := (Below.refl w.heap.size w).alloc (Nat.le_refl _) (.cells #[.int .i64 s.st, .int .i64 s.lb, .int .i64 s.s0, .slice a s.es.length c] 24)
  have HB := Lib.hid hb
  by_cases h1 : s.st ≤ 25
  · by_cases h2 : s.es.length ≤ 150
    · have h2' : (s.es.length : Int) ≤ 150 := by omega
      by_cases hr : s.Right
      · have HC := Lib.hid (check_ok hr a b off c _ (hG.below hb) (hS.below hb (Nat.le_refl _)))
        have HR := Lib.hid hr
        clear hb hG hS hr
        go_enter Tryd.func12, Tryd.ntmps12
        go_wp2_with fail
        refine HC.out.mono ?_
        rintro e w1 ⟨rfl, hB1⟩
        have HB1 := Lib.hid (HB.out.trans (hB1.mono (by simp)))
        clear hB1
        go_wp2_with fail
        go_ret
        unfold Small17
        exact ⟨true, rfl, by simp [h1, h2, HR.out], HB1.out⟩
      · have HC := Lib.hid (check_no hr a b off c _ (hG.below hb) (hS.below hb (Nat.le_refl _)))
        have HR := Lib.hid hr
        clear hb hG hS hr
        go_enter Tryd.func12, Tryd.ntmps12
        go_wp2_with fail
        refine HC.out.mono ?_
        rintro e w1 ⟨v, rfl, hf, hB1⟩
        obtain ⟨fb, rfl, _⟩ := hf.ex
        have HB1 := Lib.hid (HB.out.trans (hB1.mono (by simp)))
        clear hB1 hf
        go_wp2_with fail
        go_ret
        unfold Small17
        exact ⟨false, rfl, by simp [HR.out], HB1.out⟩
    · have h2' : ¬ (s.es.length : Int) ≤ 150 := by omega
      clear hb hG hS
      go_enter Tryd.func12, Tryd.ntmps12
      go_wp2_with fail
      go_ret
      unfold Small17
      exact ⟨false, rfl, by simp [h2], HB.out⟩
  · clear hb hG hS
    go_enter Tryd.func12, Tryd.ntmps12
    go_wp2_with fail
    go_ret
    unfold Small17
    exact ⟨false, rfl, by simp; omega, HB.out⟩
end Go.Proofs.YtbbjmompbmgnmaaDoor

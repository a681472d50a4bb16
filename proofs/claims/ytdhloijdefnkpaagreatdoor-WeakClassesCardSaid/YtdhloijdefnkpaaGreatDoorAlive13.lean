/-
  law13.alive.
-/
import Derived.Test.YtdhloijdefnkpaaGreatDoorGWkQ
import Derived.Test.YtdhloijdefnkpaaGreatDoorWkV
import Derived.Test.YtdhloijdefnkpaaGreatDoorGWkL
namespace Go.Proofs.YtdhloijdefnkpaaGreatDoor
open Go.RowKit Pl

set_option maxRecDepth 100000 in
set_option maxHeartbeats 4000000 in
theorem alive13_any {w : World} {p pe : Addr} (hG : WkErr p w) (hGE : GErr 0 pe w) (hT : Tab w) :
    Calls Tryz.prog 10 #[] w fun e w' => e = .returned (.bool true) ∧ Below w.heap.size w w' := by
  have HG := Lib.hid hG; have HGE := Lib.hid hGE; have HT := Lib.hid hT
  clear hG hGE hT
  go_enter Tryz.func10, Tryz.ntmps10
  go_wp2_with fail
  have hS : SlAt encE 3 (w.alloc (.cells #[.int .i64 0, .int .i64 0, .int .i64 1, .int .i64 1, .int .i64 1, .int .i64 2, .int .i64 3, .int .i64 1, .int .i64 2] 35)) (some ⟨w.heap.size, 0, none⟩) w.heap.size 0 al13.es := by
    have h := World.ownsRow_lit (e := 35) (size := 3) (base := w.heap.size) w #[.int .i64 0, .int .i64 0, .int .i64 1, .int .i64 1, .int .i64 1, .int .i64 2, .int .i64 3, .int .i64 1, .int .i64 2] 3 (Nat.le_refl _) (by unfold maxLen; omega) rfl
    obtain ⟨a, c, b, hv, _, _, hs, _⟩ := slAt_own (xs := al13.es) lenE h
    simp only [Value.slice.injEq] at hv
    obtain ⟨rfl, _, _⟩ := hv
    have := hs.ad (by decide)
    simp at this
    subst this
    exact hs
  have hB0 := ((Below.refl w.heap.size w).alloc (Nat.le_refl _) (.cells #[.int .i64 0, .int .i64 0, .int .i64 1, .int .i64 1, .int .i64 1, .int .i64 2, .int .i64 3, .int .i64 1, .int .i64 2] 35)).alloc (by simp) (.cells #[.int .i64 4, .int .i64 2, .int .i64 0, .slice (some ⟨w.heap.size, 0, none⟩) 3 3] 24)
  have hx0 := heap_alloc_at (w.alloc (.cells #[.int .i64 0, .int .i64 0, .int .i64 1, .int .i64 1, .int .i64 1, .int .i64 2, .int .i64 3, .int .i64 1, .int .i64 2] 35)) (.cells #[.int .i64 4, .int .i64 2, .int .i64 0, .slice (some ⟨w.heap.size, 0, none⟩) 3 3] 24) (w.heap.size + 1) (by simp)
  have hS1 := hS.alloc (.cells #[.int .i64 4, .int .i64 2, .int .i64 0, .slice (some ⟨w.heap.size, 0, none⟩) 3 3] 24)
  refine (weakClasses_any (s := al13) (n := 4) (lb := 2) (c := 3) al13_right rfl rfl (by decide) (HG.out.below hB0) (HT.out.below hB0) hS1).mono ?_
  rintro e w1 ⟨cb, C, rfl, hcs, hres, hcb, hB1⟩
  have hx1 := (hB1.block (w.heap.size + 1) (by simp)).trans hx0
  have hB1' := hB0.trans (hB1.mono (by simp; omega))
  have hS2 := hS1.below hB1 (Nat.le_refl _)
  obtain ⟨hC3, hC2⟩ := al13_res al13K_ok (hres.big _ al13K_ok) hres.can
  have HCS := Lib.hid hcs; have HB1 := Lib.hid hB1'; have HC3 := Lib.hid hC3; have HC2 := Lib.hid hC2
  have HSA := Lib.hid (satYes_any (s := al13) (n := 4) (lb := 2) (c := 3) al13_right rfl rfl (by decide) (HG.out.below hB1') (HGE.out.below hB1') (HT.out.below hB1') hS2)
  obtain ⟨x0, x1, x2, x3, x4⟩ := sysC hx1
  clear hB0 hx0 hS hS1 hx1 hB1 hB1' hS2 hcs hres hC3 hC2 hcb
  go_wp2_with fail
  refine HSA.out.mono ?_
  rintro e w2 ⟨K, hK, hB2, hor⟩
  have h8 := al13_sat hK
  rcases hor with ⟨_, ve, rfl, hown⟩ | ⟨h9, _⟩
  case inr => omega
  obtain ⟨ta, tc, tb, rfl, _, _, _, _⟩ := slAt_own lenE hown
  rw [h8]
  have hcs := HCS.out.below hB2 (Nat.le_refl _)
  have l1 := hcs.ci (fl_get C (show 3 < 4 by omega))
  have l2 := hcs.ci (fl_get C (show 2 < 4 by omega))
  have ll := hcs.lt (by rw [fl_len]; omega)
  rw [HC3.out] at l1; rw [HC2.out] at l2
  simp only [Nat.zero_add] at l1 l2
  have HB2 := Lib.hid (HB1.out.trans (hB2.mono HB1.out.size))
  clear hcs hB2 x0 x1 x2 x3 x4 HSA HB1 HCS hown h8 hK
  go_wp2_with fail
  go_ret
  exact ⟨rfl, HB2.out.alloc HB2.out.size _⟩
end Go.Proofs.YtdhloijdefnkpaaGreatDoor

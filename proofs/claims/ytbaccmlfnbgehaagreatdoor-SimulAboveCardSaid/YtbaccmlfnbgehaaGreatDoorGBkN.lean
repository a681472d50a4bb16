/-
  Lemmas.
-/
import Derived.Test.YtbaccmlfnbgehaaGreatDoorBkB
import Derived.Deep.QuietTactic
import Derived.BigQuiet
import Derived.IntWalk
import Derived.Test.YtbaccmlfnbgehaaGreatDoorGBkEp
import Derived.BigRegion
import Derived.Test.YtbaccmlfnbgehaaGreatDoorGRwsB
import Derived.Deep.RegionLaw
namespace Go.Proofs.YtbaccmlfnbgehaaGreatDoor
open Go.RowKit Pl
set_option maxRecDepth 100000 in
theorem stillTokens_nil {w : World} {bb : Nat} (h0 : w.cell? ⟨bb, 2, none⟩ = some (.slice none 0 0)) : Calls Tryz.prog 45 #[.pointer (some ⟨bb, 0, none⟩)] w fun e w' => e = .returned (.bool true) ∧ w' = w := by
  go_enter Tryz.func45, Tryz.ntmps45
  go_wp2_with fail
  go_loopw [3] (fun v3 wr => v3 = .int .i64 0 ∧ wr = w) (fun _ _ => 0)
  case atStart => exact ⟨rfl, rfl⟩
  case round =>
    obtain ⟨rfl, rfl⟩ := hrel
    go_wp2_with fail
    go_ret
    exact ⟨rfl, rfl⟩
set_option maxRecDepth 100000 in
theorem putTokens_nil {w : World} {bb : Nat} (h0 : w.cell? ⟨bb, 2, none⟩ = some (.slice none 0 0)) : Calls Tryz.prog 56 #[.pointer (some ⟨bb, 0, none⟩)] w fun e w' => e = .returned (.tuple #[]) ∧ w' = w := by
  go_enter Tryz.func56, Tryz.ntmps56
  go_wp2_with fail
  go_loopw [2] (fun v2 wr => v2 = .int .i64 0 ∧ wr = w) (fun _ _ => 0)
  case atStart => exact ⟨rfl, rfl⟩
  case round =>
    obtain ⟨rfl, rfl⟩ := hrel
    go_wp2_with fail
    go_end0
    exact ⟨rfl, rfl⟩
set_option maxRecDepth 100000 in
theorem growTokens_nil {w : World} {bb : Nat} (h0 : w.cell? ⟨bb, 2, none⟩ = some (.slice none 0 0)) : Calls Tryz.prog 67 #[.pointer (some ⟨bb, 0, none⟩)] w fun e w' => e = .returned (.slice none 0 0) ∧ w' = w := by
  go_enter Tryz.func67, Tryz.ntmps67
  go_wp2_with fail
  go_loopw [3, 4] (fun v3 v4 wr => v3 = .slice none 0 0 ∧ v4 = .int .i64 0 ∧ wr = w) (fun _ _ _ => 0)
  case atStart => exact ⟨rfl, rfl, rfl⟩
  case round =>
    obtain ⟨rfl, rfl, rfl⟩ := hrel
    go_wp2_with fail
    go_ret
    exact ⟨rfl, rfl⟩
set_option maxRecDepth 100000 in
theorem markedTokens_nil {w : World} : Calls Tryz.prog 78 #[.slice none 0 0] w fun e w' => e = .returned (.bool true) ∧ w' = w := by
  go_enter Tryz.func78, Tryz.ntmps78
  go_wp2_with fail
  go_loopw [3] (fun v3 wr => v3 = .int .i64 0 ∧ wr = w) (fun _ _ => 0)
  case atStart => exact ⟨rfl, rfl⟩
  case round =>
    obtain ⟨rfl, rfl⟩ := hrel
    go_wp2_with fail
    go_ret
    exact ⟨rfl, rfl⟩
set_option maxRecDepth 100000 in
theorem stillTexts_nil {w : World} {bb : Nat} (h0 : w.cell? ⟨bb, 4, none⟩ = some (.slice none 0 0)) : Calls Tryz.prog 46 #[.pointer (some ⟨bb, 0, none⟩)] w fun e w' => e = .returned (.bool true) ∧ w' = w := by
  go_enter Tryz.func46, Tryz.ntmps46
  go_wp2_with fail
  go_loopw [3] (fun v3 wr => v3 = .int .i64 0 ∧ wr = w) (fun _ _ => 0)
  case atStart => exact ⟨rfl, rfl⟩
  case round =>
    obtain ⟨rfl, rfl⟩ := hrel
    go_wp2_with fail
    go_ret
    exact ⟨rfl, rfl⟩
set_option maxRecDepth 100000 in
theorem putTexts_nil {w : World} {bb : Nat} (h0 : w.cell? ⟨bb, 4, none⟩ = some (.slice none 0 0)) : Calls Tryz.prog 57 #[.pointer (some ⟨bb, 0, none⟩)] w fun e w' => e = .returned (.tuple #[]) ∧ w' = w := by
  go_enter Tryz.func57, Tryz.ntmps57
  go_wp2_with fail
  go_loopw [2] (fun v2 wr => v2 = .int .i64 0 ∧ wr = w) (fun _ _ => 0)
  case atStart => exact ⟨rfl, rfl⟩
  case round =>
    obtain ⟨rfl, rfl⟩ := hrel
    go_wp2_with fail
    go_end0
    exact ⟨rfl, rfl⟩
set_option maxRecDepth 100000 in
theorem growTexts_nil {w : World} {bb : Nat} (h0 : w.cell? ⟨bb, 4, none⟩ = some (.slice none 0 0)) : Calls Tryz.prog 68 #[.pointer (some ⟨bb, 0, none⟩)] w fun e w' => e = .returned (.slice none 0 0) ∧ w' = w := by
  go_enter Tryz.func68, Tryz.ntmps68
  go_wp2_with fail
  go_loopw [3, 4] (fun v3 v4 wr => v3 = .slice none 0 0 ∧ v4 = .int .i64 0 ∧ wr = w) (fun _ _ _ => 0)
  case atStart => exact ⟨rfl, rfl, rfl⟩
  case round =>
    obtain ⟨rfl, rfl, rfl⟩ := hrel
    go_wp2_with fail
    go_ret
    exact ⟨rfl, rfl⟩
set_option maxRecDepth 100000 in
theorem markedTexts_nil {w : World} : Calls Tryz.prog 79 #[.slice none 0 0] w fun e w' => e = .returned (.bool true) ∧ w' = w := by
  go_enter Tryz.func79, Tryz.ntmps79
  go_wp2_with fail
  go_loopw [3] (fun v3 wr => v3 = .int .i64 0 ∧ wr = w) (fun _ _ => 0)
  case atStart => exact ⟨rfl, rfl⟩
  case round =>
    obtain ⟨rfl, rfl⟩ := hrel
    go_wp2_with fail
    go_ret
    exact ⟨rfl, rfl⟩
set_option maxRecDepth 100000 in
theorem stillNodes_nil {w : World} {bb : Nat} (h0 : w.cell? ⟨bb, 12, none⟩ = some (.slice none 0 0)) : Calls Tryz.prog 50 #[.pointer (some ⟨bb, 0, none⟩)] w fun e w' => e = .returned (.bool true) ∧ w' = w := by
  go_enter Tryz.func50, Tryz.ntmps50
  go_wp2_with fail
  go_loopw [3] (fun v3 wr => v3 = .int .i64 0 ∧ wr = w) (fun _ _ => 0)
  case atStart => exact ⟨rfl, rfl⟩
  case round =>
    obtain ⟨rfl, rfl⟩ := hrel
    go_wp2_with fail
    go_ret
    exact ⟨rfl, rfl⟩
set_option maxRecDepth 100000 in
theorem putNodes_nil {w : World} {bb : Nat} (h0 : w.cell? ⟨bb, 12, none⟩ = some (.slice none 0 0)) : Calls Tryz.prog 61 #[.pointer (some ⟨bb, 0, none⟩)] w fun e w' => e = .returned (.tuple #[]) ∧ w' = w := by
  go_enter Tryz.func61, Tryz.ntmps61
  go_wp2_with fail
  go_loopw [2] (fun v2 wr => v2 = .int .i64 0 ∧ wr = w) (fun _ _ => 0)
  case atStart => exact ⟨rfl, rfl⟩
  case round =>
    obtain ⟨rfl, rfl⟩ := hrel
    go_wp2_with fail
    go_end0
    exact ⟨rfl, rfl⟩
set_option maxRecDepth 100000 in
theorem growNodes_nil {w : World} {bb : Nat} (h0 : w.cell? ⟨bb, 12, none⟩ = some (.slice none 0 0)) : Calls Tryz.prog 72 #[.pointer (some ⟨bb, 0, none⟩)] w fun e w' => e = .returned (.slice none 0 0) ∧ w' = w := by
  go_enter Tryz.func72, Tryz.ntmps72
  go_wp2_with fail
  go_loopw [3, 4] (fun v3 v4 wr => v3 = .slice none 0 0 ∧ v4 = .int .i64 0 ∧ wr = w) (fun _ _ _ => 0)
  case atStart => exact ⟨rfl, rfl, rfl⟩
  case round =>
    obtain ⟨rfl, rfl, rfl⟩ := hrel
    go_wp2_with fail
    go_ret
    exact ⟨rfl, rfl⟩
set_option maxRecDepth 100000 in
theorem markedNodes_nil {w : World} : Calls Tryz.prog 83 #[.slice none 0 0] w fun e w' => e = .returned (.bool true) ∧ w' = w := by
  go_enter Tryz.func83, Tryz.ntmps83
  go_wp2_with fail
  go_loopw [3] (fun v3 wr => v3 = .int .i64 0 ∧ wr = w) (fun _ _ => 0)
  case atStart => exact ⟨rfl, rfl⟩
  case round =>
    obtain ⟨rfl, rfl⟩ := hrel
    go_wp2_with fail
    go_ret
    exact ⟨rfl, rfl⟩
set_option maxRecDepth 100000 in
theorem stillPairs_nil {w : World} {bb : Nat} (h0 : w.cell? ⟨bb, 14, none⟩ = some (.slice none 0 0)) : Calls Tryz.prog 51 #[.pointer (some ⟨bb, 0, none⟩)] w fun e w' => e = .returned (.bool true) ∧ w' = w := by
  go_enter Tryz.func51, Tryz.ntmps51
  go_wp2_with fail
  go_loopw [3] (fun v3 wr => v3 = .int .i64 0 ∧ wr = w) (fun _ _ => 0)
  case atStart => exact ⟨rfl, rfl⟩
  case round =>
    obtain ⟨rfl, rfl⟩ := hrel
    go_wp2_with fail
    go_ret
    exact ⟨rfl, rfl⟩
set_option maxRecDepth 100000 in
theorem putPairs_nil {w : World} {bb : Nat} (h0 : w.cell? ⟨bb, 14, none⟩ = some (.slice none 0 0)) : Calls Tryz.prog 62 #[.pointer (some ⟨bb, 0, none⟩)] w fun e w' => e = .returned (.tuple #[]) ∧ w' = w := by
  go_enter Tryz.func62, Tryz.ntmps62
  go_wp2_with fail
  go_loopw [2] (fun v2 wr => v2 = .int .i64 0 ∧ wr = w) (fun _ _ => 0)
  case atStart => exact ⟨rfl, rfl⟩
  case round =>
    obtain ⟨rfl, rfl⟩ := hrel
    go_wp2_with fail
    go_end0
    exact ⟨rfl, rfl⟩
set_option maxRecDepth 100000 in
theorem growPairs_nil {w : World} {bb : Nat} (h0 : w.cell? ⟨bb, 14, none⟩ = some (.slice none 0 0)) : Calls Tryz.prog 73 #[.pointer (some ⟨bb, 0, none⟩)] w fun e w' => e = .returned (.slice none 0 0) ∧ w' = w := by
  go_enter Tryz.func73, Tryz.ntmps73
  go_wp2_with fail
  go_loopw [3, 4] (fun v3 v4 wr => v3 = .slice none 0 0 ∧ v4 = .int .i64 0 ∧ wr = w) (fun _ _ _ => 0)
  case atStart => exact ⟨rfl, rfl, rfl⟩
  case round =>
    obtain ⟨rfl, rfl, rfl⟩ := hrel
    go_wp2_with fail
    go_ret
    exact ⟨rfl, rfl⟩
set_option maxRecDepth 100000 in
theorem markedPairs_nil {w : World} : Calls Tryz.prog 84 #[.slice none 0 0] w fun e w' => e = .returned (.bool true) ∧ w' = w := by
  go_enter Tryz.func84, Tryz.ntmps84
  go_wp2_with fail
  go_loopw [3] (fun v3 wr => v3 = .int .i64 0 ∧ wr = w) (fun _ _ => 0)
  case atStart => exact ⟨rfl, rfl⟩
  case round =>
    obtain ⟨rfl, rfl⟩ := hrel
    go_wp2_with fail
    go_ret
    exact ⟨rfl, rfl⟩
set_option maxRecDepth 100000 in
theorem stillLines_nil {w : World} {bb : Nat} (h0 : w.cell? ⟨bb, 18, none⟩ = some (.slice none 0 0)) : Calls Tryz.prog 53 #[.pointer (some ⟨bb, 0, none⟩)] w fun e w' => e = .returned (.bool true) ∧ w' = w := by
  go_enter Tryz.func53, Tryz.ntmps53
  go_wp2_with fail
  go_loopw [3] (fun v3 wr => v3 = .int .i64 0 ∧ wr = w) (fun _ _ => 0)
  case atStart => exact ⟨rfl, rfl⟩
  case round =>
    obtain ⟨rfl, rfl⟩ := hrel
    go_wp2_with fail
    go_ret
    exact ⟨rfl, rfl⟩
set_option maxRecDepth 100000 in
theorem putLines_nil {w : World} {bb : Nat} (h0 : w.cell? ⟨bb, 18, none⟩ = some (.slice none 0 0)) : Calls Tryz.prog 64 #[.pointer (some ⟨bb, 0, none⟩)] w fun e w' => e = .returned (.tuple #[]) ∧ w' = w := by
  go_enter Tryz.func64, Tryz.ntmps64
  go_wp2_with fail
  go_loopw [2] (fun v2 wr => v2 = .int .i64 0 ∧ wr = w) (fun _ _ => 0)
  case atStart => exact ⟨rfl, rfl⟩
  case round =>
    obtain ⟨rfl, rfl⟩ := hrel
    go_wp2_with fail
    go_end0
    exact ⟨rfl, rfl⟩
set_option maxRecDepth 100000 in
theorem growLines_nil {w : World} {bb : Nat} (h0 : w.cell? ⟨bb, 18, none⟩ = some (.slice none 0 0)) : Calls Tryz.prog 75 #[.pointer (some ⟨bb, 0, none⟩)] w fun e w' => e = .returned (.slice none 0 0) ∧ w' = w := by
  go_enter Tryz.func75, Tryz.ntmps75
  go_wp2_with fail
  go_loopw [3, 4] (fun v3 v4 wr => v3 = .slice none 0 0 ∧ v4 = .int .i64 0 ∧ wr = w) (fun _ _ _ => 0)
  case atStart => exact ⟨rfl, rfl, rfl⟩
  case round =>
    obtain ⟨rfl, rfl, rfl⟩ := hrel
    go_wp2_with fail
    go_ret
    exact ⟨rfl, rfl⟩
set_option maxRecDepth 100000 in
theorem markedLines_nil {w : World} : Calls Tryz.prog 86 #[.slice none 0 0] w fun e w' => e = .returned (.bool true) ∧ w' = w := by
  go_enter Tryz.func86, Tryz.ntmps86
  go_wp2_with fail
  go_loopw [3] (fun v3 wr => v3 = .int .i64 0 ∧ wr = w) (fun _ _ => 0)
  case atStart => exact ⟨rfl, rfl⟩
  case round =>
    obtain ⟨rfl, rfl⟩ := hrel
    go_wp2_with fail
    go_ret
    exact ⟨rfl, rfl⟩
end Go.Proofs.YtbaccmlfnbgehaaGreatDoor
namespace Go.Proofs.YtbaccmlfnbgehaaGreatDoor
open Go.RowKit Pl
open Lib (hid)
theorem oneI_bka (x : Int) : ∀ u ∈ encI x, u.oneCell' = true := by intro u hu; simp [encI] at hu; first | (subst hu; rfl) | (rcases hu with rfl | rfl <;> rfl) | (rcases hu with rfl | rfl | rfl <;> rfl)
set_option maxRecDepth 100000 in
set_option maxHeartbeats 8000000 in
theorem addI_any {w0 w : World} {bb n m : Nat} {cs : List Value} {o p v : Value} {vs us : List Value} {ys : List Int} {rest : List Rw}
    (h : Rws w0 w (⟨45, 22, .slice (some ⟨bb, 0, none⟩) 1 1, 1, cs⟩ :: ⟨50, 1, o, m, vs⟩ :: ⟨50, 1, p, m, us⟩ :: ⟨3, 1, v, n, ys.flatMap encI⟩ :: rest)) (hcl : cs.length = 22) (hc : cs[0]? = some o) (hc1 : cs[1]? = some p) (hn : n = ys.length) (hnm : n ≤ 500000) (hm : m ≤ 400) (hv1 : v.oneCell' = true) :
    Calls Tryz.prog 18 #[.pointer (some ⟨bb, 0, none⟩), v] w fun e w' => e = .returned (.tuple #[]) ∧ AddP w0 w w' 3 50 1 bb 0 1 m n cs vs us v (ys.flatMap encI) rest := by
  obtain ⟨oa, oc, hov, _, _, _, _, _⟩ := h.shape (r := ⟨50, 1, o, m, vs⟩) (by simp)
  obtain ⟨pa, pc, hpv, _, _, _, _, _⟩ := h.shape (r := ⟨50, 1, p, m, us⟩) (by simp)
  dsimp only at hov hpv
  subst hov hpv
  have b0 := h.cell (i := 0) rfl hc
  have f0 := h.fz (i := 0) rfl 0
  have hbl := (h.lt (i := 0) rfl).2
  by_cases hlt : m < 400
  · have hltI : (m : Int) < 400 := by omega
    have hltB : decide ((m : Int) < 400) = true := by simp [hltI]
    obtain ⟨va, vc, hvv, _⟩ := h.shape (r := ⟨3, 1, v, n, ys.flatMap encI⟩) (by simp)
    dsimp only at hvv
    subst hvv
    have H := hid h; have HC1 := hid hc1; have HN := hid hn; have HC := hid hc; have HCL := hid hcl
    have hsz := h.bel.size
    clear h hc1 hn hc hv1 hcl
    go_enter Tryz.func18, Tryz.ntmps18
    go_wp2_with (at_builtin; refine wpList_lie rfl _ _ 34 rfl rowII_bk (base := w0.heap.size) (by simp; omega) rfl ((H.out.alloc _).get (i := 1) rfl) ⟨w.heap.size, 0, none⟩ 1 1 [.slice va n vc] rfl rfl (cells1 (by simp [go_sem])) (by simp [Value.oneCell']) (by decide) (by dsimp only; omega) (by dsimp only; unfold maxLen; omega) w.heap.size (by simp) ?_; intro g cap w4 hown4 hg4 hgg4 hlt4; have hR4 := H.out.grown ((Below.refl w.heap.size w).alloc (Nat.le_refl _) _) 1 rfl hown4 hg4 (fun b hb => by simp only [Value.ownBlock, Option.some.injEq] at hb; subst hb; exact hgg4); have c0 := hR4.cell (i := 0) rfl HC.out; have c1 := hR4.fz (i := 0) rfl 0; have c2 := (hR4.lt (i := 0) rfl).2; have HR4 := hid hR4; clear hown4 hg4 hgg4 hlt4 hR4)
    obtain ⟨W, hW⟩ : ∃ W, W = w4.setCell ⟨bb, 0, none⟩ (.slice (some ⟨g, 0, none⟩) (m + 1) cap) := ⟨_, rfl⟩
    have HR5 : Hid (Rws w0 W (⟨45, 22, .slice (some ⟨bb, 0, none⟩) 1 1, 1, cs.set 0 (.slice (some ⟨g, 0, none⟩) (m + 1) cap)⟩ :: ⟨50, 1, .slice (some ⟨g, 0, none⟩) (m + 1) cap, m + 1, vs ++ [.slice va n vc]⟩ :: ⟨50, 1, .slice pa m pc, m, us⟩ :: ⟨3, 1, .slice va n vc, n, ys.flatMap encI⟩ :: rest)) := hid (by
      have := HR4.out.set 0 rfl 0 (.slice (some ⟨g, 0, none⟩) (m + 1) cap)
      rw [hW]; exact this)
    rw [← hW]
    have d0 := HR5.out.cell (i := 0) (j := 1) (u := .slice pa m pc) rfl (by rw [List.getElem?_set, if_neg (by decide)]; exact HC1.out)
    have d1 := HR5.out.fz (i := 0) rfl 1
    have d2 := (HR5.out.lt (i := 0) rfl).2
    have hsW := HR5.out.bel.size
    obtain ⟨va2, vc2, vb2, hv2, _, _, hvs, _⟩ := HR5.out.sl (i := 3) rfl lenI HN.out
    simp only [Value.slice.injEq] at hv2
    obtain ⟨rfl, hnl, rfl⟩ := hv2
    have HVS := hid hvs
    clear hnl hW HR4 H hvs c0 c1 c2 b0 f0 hbl
    have KD : Hid (∀ V, Below W.heap.size W V → V.cell? ⟨bb, 1, none⟩ = some (.slice pa m pc) ∧ V.frozen? ⟨bb, 1, none⟩ = false ∧ bb < V.heap.size) := hid (fun V hV => by
      have hb := hV.block bb d2
      exact ⟨by rw [hV.cell (p := ⟨bb, 1, none⟩) d2]; exact d0, by rw [World.frozen?_of_block (w := W) (a := ⟨bb, 1, none⟩) hb]; exact d1, Nat.lt_of_lt_of_le d2 hV.size⟩)
    go_wp2_with fail
    go_region_law (first
      | (refine step_appS rfl _ _ _ rfl rowI (base := W.heap.size) (by simp) rfl (World.ownsRow_nil _ _ _ _) (ys := ys) lenI (fun u hu => by obtain ⟨x, _, hx⟩ := List.mem_flatMap.1 hu; exact oneI_bka x u hx) (HVS.out.below (bdrew (n := 1) (Below.refl _ _)) (Nat.le_refl _)) (by rw [← HN.out]; rfl) (by rw [← HN.out]; omega) (by rw [← HN.out]; unfold maxLen; omega) ?_; intro u w5 hown5 hg5; rw [← HN.out] at hown5; obtain ⟨ua, uc, rfl⟩ := own_sl hown5; have hB5 : Below W.heap.size W w5 := (bdrew (n := 1) (Below.refl _ _)).grown hg5 (by simp) (fun k hk => by cases hk); obtain ⟨e0, e1, e2⟩ := KD.out _ hB5; have hs5 := hB5.size; have HR55 := hid (HR5.out.add hB5 (by rw [Nat.zero_add, List.nil_append] at hown5; exact hown5)); clear hown5 hg5 hB5)
      | (refine step_lie rfl _ _ _ rfl rowII_bk (base := w0.heap.size) (by simp; omega) rfl ((HR55.out.alloc _).get (i := 3) rfl) ⟨w5.heap.size, 0, none⟩ 1 1 [.slice ua n uc] rfl rfl (cells1 (by simp [go_sem])) (by simp [Value.oneCell']) (by decide) (by dsimp only; omega) (by dsimp only; unfold maxLen; omega) w5.heap.size (by simp) ?_; intro g2 cap2 w6 hown6 hg6 hgg6 hlt6; have hR6 := HR55.out.grown ((Below.refl w5.heap.size w5).alloc (Nat.le_refl _) _) 3 rfl hown6 hg6 (fun b hb => by simp only [Value.ownBlock, Option.some.injEq] at hb; subst hb; exact hgg6); have e0 := hR6.cell (i := 1) (j := 1) (u := .slice pa m pc) rfl (by rw [List.getElem?_set, if_neg (by decide)]; exact HC1.out); have e1 := hR6.fz (i := 1) rfl 1; have e2 := (hR6.lt (i := 1) rfl).2; have HR6 := hid hR6; clear hown6 hg6 hgg6 hR6))
    all_goals
      have HR7 := hid (HR6.out.set 1 rfl 1 (.slice (some ⟨g2, 0, none⟩) (m + 1) cap2))
      clear e0 e1 e2 HR6 HR55 KD HVS HR5
      go_wp2_with fail
      go_end0
      refine ⟨rfl, .inr ⟨hlt, .slice (some ⟨g, 0, none⟩) (m + 1) cap, .slice (some ⟨g2, 0, none⟩) (m + 1) cap2, .slice ua n uc, ?_⟩⟩
      exact HR7.out.perm (List.perm_middle (a := (⟨3, 1, Value.slice ua n uc, n, ys.flatMap encI⟩ : Rw)) (l₁ := [⟨45, 22, Value.slice (some ⟨bb, 0, none⟩) 1 1, 1, (cs.set 0 (Value.slice (some ⟨g, 0, none⟩) (m + 1) cap)).set 1 (Value.slice (some ⟨g2, 0, none⟩) (m + 1) cap2)⟩, ⟨50, 1, Value.slice (some ⟨g, 0, none⟩) (m + 1) cap, m + 1, vs ++ [Value.slice va n vc]⟩, ⟨50, 1, Value.slice (some ⟨g2, 0, none⟩) (m + 1) cap2, m + 1, us ++ [Value.slice ua n uc]⟩, ⟨3, 1, Value.slice va n vc, n, ys.flatMap encI⟩]) (l₂ := rest)).symm
  · have hltI : ¬ (m : Int) < 400 := by omega
    go_enter Tryz.func18, Tryz.ntmps18
    go_wp2_with fail
    go_end0
    exact ⟨rfl, .inl ⟨hlt, rfl⟩⟩
end Go.Proofs.YtbaccmlfnbgehaaGreatDoor

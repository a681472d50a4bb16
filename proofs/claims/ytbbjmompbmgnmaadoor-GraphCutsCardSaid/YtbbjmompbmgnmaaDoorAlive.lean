/-
  law7.alive: the small system that every law of chapter 7 asks first.
-/
import Derived.Test.YtbbjmompbmgnmaaDoorDegree
import Derived.Deep.DeepMust
namespace Go.Proofs.YtbbjmompbmgnmaaDoor
open Go.RowKit Pl

namespace Pl
def aliveS : Lts := ⟨3, 2, 0, [(0, 1, 1), (1, 0, 0), (2, 1, 0)]⟩
theorem aliveS_right : aliveS.Right := ⟨by unfold HeadBad aliveS; simp, by decide⟩
theorem aliveS_norm : aliveS.norm = aliveS := by unfold Lts.norm aliveS; simp only; congr 1
theorem aliveS_out : aliveS.outs 0 = [(1, 1)] := by decide
theorem aliveS_ins : aliveS.ins 0 = [(0, 1), (1, 2)] := by decide
theorem aliveS_deg : degTo aliveS aliveS.st.toNat = 1 := by decide
theorem aliveS_reach : reachL aliveS = [0, 1] := by
  apply srt_ext stoI _ _ (reachL_srt _) (by unfold Srt; decide)
  intro x
  rw [mem_reachL aliveS_right (by decide)]
  constructor
  · intro h
    have := h (fun x => x = 0 ∨ x = 1) (Or.inl rfl) (by
      intro a l b ha he
      simp [aliveS] at he
      omega)
    simpa using this
  · intro h
    have h1 : Rch aliveS 1 := (Rch.start aliveS).step (a := 0) (l := 1) (by decide)
    simp at h
    rcases h with rfl | rfl
    · exact Rch.start aliveS
    · exact h1
end Pl

set_option maxRecDepth 100000 in
theorem alive_any {w : World} {p : Addr} (hG : GErr 0 p w) :
    Calls Tryd.prog 21 #[] w fun e w' => e = .returned (.bool true) ∧ Below w.heap.size w w' := by
  have hnew := fun (w : World) (a : Option Addr) (b c : Nat) (hG : GErr 0 p w) (hS : SlAt encE 3 w a b 0 aliveS.es) => new_ok (c := c) aliveS_right hG hS
  rw [aliveS_norm] at hnew
  have HG := Lib.hid hG; have HN := Lib.hid hnew
  clear hG hnew
  go_enter Tryd.func21, Tryd.ntmps21
  go_wp2_with fail
  have hS : SlAt encE 3 (w.alloc (.cells #[.int .i64 0, .int .i64 1, .int .i64 1, .int .i64 1, .int .i64 0, .int .i64 0, .int .i64 2, .int .i64 1, .int .i64 0] 35)) (some ⟨w.heap.size, 0, none⟩) w.heap.size 0 aliveS.es := by
    have h := World.ownsRow_lit (e := 35) (size := 3) (base := w.heap.size) w #[.int .i64 0, .int .i64 1, .int .i64 1, .int .i64 1, .int .i64 0, .int .i64 0, .int .i64 2, .int .i64 1, .int .i64 0] 3 (Nat.le_refl _) (by unfold maxLen; omega) rfl
    obtain ⟨a, c, b, hv, _, _, hs, _⟩ := slAt_own (xs := aliveS.es) lenE h
    simp only [Value.slice.injEq] at hv
    obtain ⟨rfl, _, _⟩ := hv
    have := hs.ad (by decide)
    simp at this
    subst this
    exact hs
  have hB0 := (Below.refl w.heap.size w).alloc (Nat.le_refl _) (.cells #[.int .i64 0, .int .i64 1, .int .i64 1, .int .i64 1, .int .i64 0, .int .i64 0, .int .i64 2, .int .i64 1, .int .i64 0] 35)
  refine (HN.out _ _ _ _ (HG.out.below hB0) hS).mono ?_
  rintro e w1 ⟨gb, rfl, hGr, hB1, hgb⟩
  have hB1' := hB0.trans (hB1.mono (by simp))
  have HGr := Lib.hid hGr; have HB1 := Lib.hid hB1'
  clear hB0 hS hB1 hB1' hGr hgb
  go_wp2_with fail
  have h0 := getOut_any HGr.out 0
  rw [aliveS_out] at h0
  refine h0.mono ?_
  rintro e w2 ⟨v, rfl, hown, hB2⟩
  obtain ⟨a2, c2, b2, rfl, _, _, _, _⟩ := slAt_own lenS hown
  clear hown
  have HB2 := Lib.hid hB2
  have HBB2 := Lib.hid (HB1.out.trans (hB2.mono HB1.out.size))
  clear h0 hB2
  go_wp2_with fail
  have h0 := getIn_any (HGr.out.below HB2.out) 0
  rw [aliveS_ins] at h0
  refine h0.mono ?_
  rintro e w3 ⟨v, rfl, hown, hB3⟩
  obtain ⟨a3, c3, b3, rfl, _, _, _, _⟩ := slAt_own lenS hown
  clear hown
  have HB3 := Lib.hid (HB2.out.trans (hB3.mono HB2.out.size))
  have HBB3 := Lib.hid (HBB2.out.trans (hB3.mono HBB2.out.size))
  clear h0 hB3
  go_wp2_with fail
  have h0 := reach_any (HGr.out.below HB3.out)
  rw [aliveS_reach] at h0
  refine h0.mono ?_
  rintro e w4 ⟨v, rfl, hown, hB4⟩
  obtain ⟨a4, c4, b4, rfl, _, _, _, _⟩ := slAt_own lenI hown
  have HB4 := Lib.hid (HB3.out.trans (hB4.mono HB3.out.size))
  have HBB4 := Lib.hid (HBB3.out.trans (hB4.mono HBB3.out.size))
  clear h0 hB4 hown
  go_wp2_with fail
  have h0 := degree_any (HGr.out.below HB4.out)
  rw [aliveS_deg] at h0
  refine h0.mono ?_
  rintro e w5 ⟨rfl, hB5⟩
  have HBB5 := Lib.hid (HBB4.out.trans (hB5.mono HBB4.out.size))
  clear h0 hB5
  go_wp2
  go_ret
  exact ⟨rfl, HBB5.out⟩
end Go.Proofs.YtbbjmompbmgnmaaDoor

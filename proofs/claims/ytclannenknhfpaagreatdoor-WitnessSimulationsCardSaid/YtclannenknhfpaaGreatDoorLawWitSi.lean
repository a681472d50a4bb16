/-
  law19.WitnessSimulations.
-/
import Derived.Test.YtclannenknhfpaaGreatDoorRefPaj
import Derived.Test.YtclannenknhfpaaGreatDoorGWitO
import Derived.Test.YtclannenknhfpaaGreatDoorTold
import Derived.Test.YtclannenknhfpaaGreatDoorGRwsB
import Derived.Deep.RegionHeld3
import Derived.Deep.QuietTactic
import Derived.BigQuiet
import Derived.IntWalk
namespace Go.Proofs.YtclannenknhfpaaGreatDoor
open Go.RowKit Pl

theorem rowPrS : IsRow Tryz.prog 25 28 2 16 (.agg #[.int .i64 0, .int .i64 0]) := isRow_of Tryz.underlying25 (by kernel_rfl) rfl (by decide)
theorem onePr (x : Int × Int) : ∀ u ∈ encPr x, u.oneCell' = true := by intro u hu; simp [encPr] at hu; rcases hu with rfl | rfl <;> rfl
theorem SlAt.preK {α : Type} {enc : α → List Value} {k : Nat} {w : World} {a : Option Addr} {b off : Nat} {xs ys : List α} (h : SlAt enc k w a b off (xs ++ ys)) : SlAt enc k w a b off xs :=
  ⟨fun hp => h.ad (by simp; omega), fun hp => h.lt (by simp; omega), fun i x hx => h.cell i x (by rw [List.getElem?_append_left (List.getElem?_eq_some_iff.1 hx).1]; exact hx)⟩
theorem own_capK {w : World} {base : Nat} {e : TypeId} {k n m cap : Nat} {ad : Addr} {xs : List Value} (h : w.ownsRow base e k (.slice (some ad) m cap) n xs) : n ≤ cap ∧ cap ≤ maxLen := by
  rcases h.2 with ⟨h1, _⟩ | ⟨g, cap', cur, hv, _, _, h2, h3, _⟩
  · cases h1
  · simp only [Value.slice.injEq] at hv
    obtain ⟨_, _, rfl⟩ := hv
    exact ⟨h2, h3⟩
theorem first_bad {P : Int × Int → Prop} : ∀ {Z : List (Int × Int)}, ¬ (∀ z ∈ Z, P z) → ∃ K zx, Z[K]? = some zx ∧ ¬ P zx ∧ ∀ z ∈ Z.take K, P z
  | [], h => absurd (by simp) h
  | y :: Z, h => by
    by_cases hy : P y
    · have h2 : ¬ (∀ z ∈ Z, P z) := fun h3 => h (fun z hz => by rcases List.mem_cons.1 hz with rfl | hz; exact hy; exact h3 z hz)
      obtain ⟨K, zx, h4, h5, h6⟩ := first_bad h2
      exact ⟨K + 1, zx, by simpa using h4, h5, fun z hz => by
        rw [List.take_succ_cons] at hz
        rcases List.mem_cons.1 hz with rfl | hz
        · exact hy
        · exact h6 z hz⟩
    · exact ⟨0, y, rfl, hy, by simp⟩

set_option maxRecDepth 100000 in
set_option maxHeartbeats 16000000 in
theorem wSims_any {w : World} {p p0 p2 p3 : Addr} (hG : GErr 15 p w) (hE0 : ErrsK 14 p0 w) (hE2 : ErrsK 2 p2 w) (hE3 : ErrsK 3 p3 w) (hT : ErrType w) {s : Lts} {a : Option Addr} {b off c : Nat} (hS : SlAt encE 3 w a b off s.es) (hc : s.es.length ≤ c) (hcm : c ≤ maxLen)
    {Z : List (Int × Int)} {za : Option Addr} {zb zo zc : Nat} (hZS : SlAt encPr 2 w za zb zo Z) :
    Calls Tryz.prog 3 #[.agg #[.int .i64 s.st, .int .i64 s.lb, .int .i64 s.s0, .slice a s.es.length c], .slice za Z.length zc] w fun e w' => e = .returned (.bool true) ∧ Below w.heap.size w w' := by
  obtain rfl : p = p0 := by
    have h1 := hG.cell
    have h2 := hE0.sys.cell
    rw [show gE 14 = 15 from rfl, h1] at h2
    simpa using h2
  obtain ⟨W, hW⟩ : ∃ W, W = w.alloc (Obj.cells #[.int .i64 s.st, .int .i64 s.lb, .int .i64 s.s0, .slice a s.es.length c] 24) := ⟨_, rfl⟩
  have hB0 : Below w.heap.size w W := by rw [hW]; exact (Below.refl w.heap.size w).alloc (Nat.le_refl _) _
  have hbx := heap_alloc_new w (Obj.cells #[.int .i64 s.st, .int .i64 s.lb, .int .i64 s.s0, .slice a s.es.length c] 24)
  rw [← hW] at hbx
  have HG := Lib.hid hG; have HE0 := Lib.hid hE0; have HE2 := Lib.hid hE2; have HE3 := Lib.hid hE3; have HTY := Lib.hid hT; have HS := Lib.hid hS; have HZS := Lib.hid hZS
  have ALV : RowKit.Hid (∀ w1 : World, Below w.heap.size w w1 → Calls Tryz.prog 7 #[] w1 fun e w' => e = .returned (.bool true) ∧ Below w.heap.size w w' ∧ Below w1.heap.size w1 w') := Lib.hid (by
    intro w1 h1
    refine (alive19_any (hG.below h1)).mono ?_
    rintro e w' ⟨rfl, hB⟩
    exact ⟨rfl, h1.trans (hB.mono h1.size), hB⟩)
  have HLI := Lib.hid (light19_any (c := c) (hS.below hB0 (Nat.le_refl _)))
  obtain ⟨m, hm⟩ : ∃ m, m = Z.length := ⟨_, rfl⟩
  have HMZ := Lib.hid hm
  rw [← hm]
  by_cases hbig : 11000 < m
  · obtain ⟨el, hel⟩ : ∃ el, el = s.es.length := ⟨_, rfl⟩
    rw [← hel] at HLI hW hbx ⊢
    have HB0 := Lib.hid hB0; have HBX := Lib.hid hbx; have HW := Lib.hid hW
    obtain ⟨x0, x1, x2, x3, x4⟩ := sysC hbx
    have e1 : decide (11000 < (m : Int)) = true := by simp; omega
    clear hG hE0 hE2 hE3 hT hS hZS hB0 hbx hW hel hm
    go_enter Tryz.func3, Tryz.ntmps3
    go_wp2_with fail
    rw [← HW.out]
    go_wp2_with fail
    refine HLI.out.mono ?_
    rintro e w1 ⟨bv, rfl, hbv, hB1⟩
    have hx1 := (hB1.block w.heap.size x4).trans HBX.out
    have hb1 := HB0.out.trans (hB1.mono HB0.out.size)
    clear x0 x1 x2 x3 x4
    obtain ⟨x0, x1, x2, x3, x4⟩ := sysC hx1
    have HB1 := Lib.hid hb1
    clear hx1 hb1 hB1 hbv HLI HB0 HBX HW
    by_cases h3 : s.st ≤ 300
    · have e2 : decide (s.st ≤ 300) = true := by simp [h3]
      cases bv
      all_goals
        go_wp2_with fail
        refine (ALV.out _ HB1.out).mono ?_
        rintro e w2 ⟨rfl, hB, _⟩
        go_wp2
        go_ret
        exact ⟨rfl, hB⟩
    · have e2 : decide (s.st ≤ 300) = false := by simp [h3]
      cases bv
      all_goals
        go_wp2_with fail
        refine (ALV.out _ HB1.out).mono ?_
        rintro e w2 ⟨rfl, hB, _⟩
        go_wp2
        go_ret
        exact ⟨rfl, hB⟩
  have hm1 : m ≤ 11000 := by omega
  have eM : decide (11000 < (m : Int)) = false := by simp; omega
  by_cases hgo : s.Right ∧ 30 < s.st ∧ s.st ≤ 300
  · obtain ⟨hr, h30, h3⟩ := hgo
    obtain ⟨el, hel⟩ : ∃ el, el = s.es.length := ⟨_, rfl⟩
    rw [← hel] at HLI hW hbx ⊢
    have HB0 := Lib.hid hB0; have HBX := Lib.hid hbx; have HW := Lib.hid hW; have HRR := Lib.hid hr
    obtain ⟨x0, x1, x2, x3, x4⟩ := sysC hbx
    have e2 : decide (s.st ≤ 300) = true := by simp [h3]
    clear hG hE0 hE2 hE3 hT hS hZS hB0 hbx hW hel hm hr
    go_enter Tryz.func3, Tryz.ntmps3
    go_wp2_with fail
    rw [← HW.out]
    go_wp2_with fail
    refine HLI.out.mono ?_
    rintro e w1 ⟨bv, rfl, hbv, hB1⟩
    have hx1 := (hB1.block w.heap.size x4).trans HBX.out
    have hb1 := HB0.out.trans (hB1.mono HB0.out.size)
    clear x0 x1 x2 x3 x4
    obtain ⟨x0, x1, x2, x3, x4⟩ := sysC hx1
    have HB1 := Lib.hid hb1
    cases bv
    case true => rcases hbv rfl with h | h; omega; exact absurd HRR.out h
    clear hx1 hb1 hB1 hbv HLI HB0 HBX HW HRR
    go_wp2_with fail
    refine (ALV.out _ HB1.out).mono ?_
    rintro e w2 ⟨rfl, hB, _⟩
    go_wp2
    go_ret
    exact ⟨rfl, hB⟩
  have HX : ∃ (fa fb fc fd : Int) (ok : Bool) (k : Int) (x : ByteArray) (Q : World → Value → Prop), (∀ w w' v, Q w v → Below w.heap.size w w' → Q w' v) ∧
      (∀ V la lb lc, Below w.heap.size w V → SlAt encPr 2 V la lb 0 Z → Calls Tryz.prog 8 #[.agg #[.int .i64 s.st, .int .i64 s.lb, .int .i64 s.s0, .slice a s.es.length c], .slice la Z.length lc] V fun e w' => ∃ v, e = .returned (.tuple #[.agg #[.int .i64 fa, .int .i64 fb, .int .i64 fc, .int .i64 fd], .bool ok, v]) ∧ Q w' v ∧ Below V.heap.size V w') ∧
      (∀ V, Below w.heap.size w V → Calls Tryz.prog 9 #[.agg #[.int .i64 s.st, .int .i64 s.lb, .int .i64 s.s0, .slice a s.es.length c], .slice za Z.length zc] V fun e w' => e = .returned (.tuple #[.agg #[.int .i64 fa, .int .i64 fb, .int .i64 fc, .int .i64 fd], .bool ok, .agg #[.int .i64 k, .int .i64 0, .int .i64 0, .string x]]) ∧ Below V.heap.size V w') ∧
      (∀ V v, Below w.heap.size w V → Q V v → Calls Tryz.prog 11 #[v, .agg #[.int .i64 k, .int .i64 0, .int .i64 0, .string x]] V fun e w' => e = .returned (.bool true) ∧ Below V.heap.size V w') := by
    by_cases hr : s.Right
    case neg =>
      refine ⟨0, 0, 0, 0, false, 14, witName ++ ⟨#[32]⟩ ++ sysName ++ ⟨#[32]⟩, fun w v => FaultOn witName w p v, fun w w' v h hB => ?_, fun V la lb lc hV hSZ => ?_, fun V hV => ?_, fun V v hV h => ?_⟩
      · obtain ⟨vi, h1, h2⟩ := h
        exact ⟨vi, h1.below hB, h2.below hB⟩
      · exact simulationNo_any hr (HG.out.below hV) (HTY.out.below hV) (HS.out.below hV (Nat.le_refl _))
      · exact refPairsNo_any hr (HS.out.below hV (Nat.le_refl _))
      · obtain ⟨vi, h1, h2⟩ := h
        exact told_two (k := 14) (by unfold CodeIn; omega) (HE0.out.below hV) h1 h2 (by decide) (by decide)
    case pos =>
    by_cases hb : 300 < s.st ∨ 10000 < Z.length
    · refine ⟨0, 0, 0, 0, false, 2, witName ++ ⟨#[32]⟩, fun w v => FaultAt w v witName (.iface 197 (.pointer (some p2))), fun w w' v h hB => h.below hB, fun V la lb lc hV hSZ => ?_, fun V hV => ?_, fun V v hV h => ?_⟩
      · exact simulationBig_any hr hb (HG.out.below hV) (HE2.out.sys.below hV) (HS.out.below hV (Nat.le_refl _))
      · exact refPairsBig_any hr (HS.out.below hV (Nat.le_refl _)) hb
      · exact told_one (k := 2) (by unfold CodeIn; omega) (HE2.out.below hV) h (by decide)
    have hst := hr.st0
    obtain ⟨n, hn⟩ : ∃ n : Nat, s.st = (n : Int) := ⟨s.st.toNat, by omega⟩
    have hn3 : n ≤ 300 := by omega
    have hZl : Z.length ≤ 10000 := by omega
    by_cases hrg : ∀ z ∈ Z, 0 ≤ z.1 ∧ z.1 < (n : Int) ∧ 0 ≤ z.2 ∧ z.2 < (n : Int)
    · cases hsr : simR s.norm Z with
      | none =>
        refine ⟨0, 0, 0, 0, true, 0, ⟨#[]⟩, fun _ v => v = .nilIface, fun w w' v h _ => h, fun V la lb lc hV hSZ => ?_, fun V hV => ?_, fun V v hV h => ?_⟩
        · refine (simulationG_any hr hn hn3 (HG.out.below hV) (HS.out.below hV (Nat.le_refl _)) hZl hrg hSZ).mono ?_
          rintro e w' ⟨he, hB⟩
          rw [hsr] at he
          exact ⟨_, he, rfl, hB⟩
        · refine (refPairs_any hr hn hn3 (HS.out.below hV (Nat.le_refl _)) hc hcm hZl (HZS.out.below hV (Nat.le_refl _)) hrg).mono ?_
          rintro e w' ⟨he, hB⟩
          rw [hsr] at he
          exact ⟨he, hB⟩
        · subst h; exact told_nil 0 0 ⟨#[]⟩ V
      | some y =>
        refine ⟨y.1.1, y.1.2, y.2.1, y.2.2, false, 0, ⟨#[]⟩, fun _ v => v = .nilIface, fun w w' v h _ => h, fun V la lb lc hV hSZ => ?_, fun V hV => ?_, fun V v hV h => ?_⟩
        · refine (simulationG_any hr hn hn3 (HG.out.below hV) (HS.out.below hV (Nat.le_refl _)) hZl hrg hSZ).mono ?_
          rintro e w' ⟨he, hB⟩
          rw [hsr] at he
          exact ⟨_, he, rfl, hB⟩
        · refine (refPairs_any hr hn hn3 (HS.out.below hV (Nat.le_refl _)) hc hcm hZl (HZS.out.below hV (Nat.le_refl _)) hrg).mono ?_
          rintro e w' ⟨he, hB⟩
          rw [hsr] at he
          exact ⟨he, hB⟩
        · subst h; exact told_nil 0 0 ⟨#[]⟩ V
    · obtain ⟨K, zx, hK, hbad, hrgK⟩ := first_bad (P := fun z => 0 ≤ z.1 ∧ z.1 < (n : Int) ∧ 0 ≤ z.2 ∧ z.2 < (n : Int)) hrg
      refine ⟨0, 0, 0, 0, false, 3, witName ++ ⟨#[32]⟩, fun w v => FaultAt w v witName (.iface 197 (.pointer (some p3))), fun w w' v h hB => h.below hB, fun V la lb lc hV hSZ => ?_, fun V hV => ?_, fun V v hV h => ?_⟩
      · exact simulationIx_any hr hn hn3 (HG.out.below hV) (HS.out.below hV (Nat.le_refl _)) hZl hK hrgK hbad (HE3.out.sys.below hV) hSZ
      · exact refPairsIx_any hr hn hn3 (HS.out.below hV (Nat.le_refl _)) hc hcm hZl (HZS.out.below hV (Nat.le_refl _)) hK hbad hrgK
      · exact told_one (k := 3) (by unfold CodeIn; omega) (HE3.out.below hV) h (by decide)
  obtain ⟨fa, fb, fc, fd, ok, k, x, Q, hQb, hSIM, hREF, hTO⟩ := HX
  obtain ⟨el, hel⟩ : ∃ el, el = s.es.length := ⟨_, rfl⟩
  rw [← hel] at HLI hW hbx hSIM hREF ⊢
  rw [← hm] at hSIM hREF
  have HB0 := Lib.hid hB0; have HBX := Lib.hid hbx; have HW := Lib.hid hW; have HGO := Lib.hid hgo
  have HQB := Lib.hid hQb; have HSIM := Lib.hid hSIM; have HREF := Lib.hid hREF; have HTO := Lib.hid hTO
  obtain ⟨x0, x1, x2, x3, x4⟩ := sysC hbx
  clear hG hE0 hE2 hE3 hT hS hZS hB0 hbx hW hel hgo hQb hSIM hREF hTO hc hcm HG HE0 HE2 HE3 HTY HS hm
  go_enter Tryz.func3, Tryz.ntmps3
  go_wp2_with fail
  rw [← HW.out]
  go_wp2_with fail
  refine HLI.out.mono ?_
  rintro e w1 ⟨bv, rfl, hbv, hB1⟩
  have hx1 := (hB1.block w.heap.size x4).trans HBX.out
  have hb1 := HB0.out.trans (hB1.mono HB0.out.size)
  clear x0 x1 x2 x3 x4
  obtain ⟨x0, x1, x2, x3, x4⟩ := sysC hx1
  have HX1 := Lib.hid hx1; have HB1 := Lib.hid hb1; have HZ1 := Lib.hid (HZS.out.below hb1 (Nat.le_refl _))
  clear hx1 hb1 hB1 hbv HLI HB0 HBX HW HGO
  have hmZ : (0 + Z.length) * 16 ≤ 140737488355328 := by have := HMZ.out; omega
  have hmZ2 : 0 + Z.length ≤ maxLen := by unfold maxLen; have := HMZ.out; omega
  by_cases h3 : s.st ≤ 300
  · have e2 : decide (s.st ≤ 300) = true := by simp [h3]
    cases bv
    · go_wp2_with fail
      refine (ALV.out _ HB1.out).mono ?_
      rintro e w2 ⟨rfl, hB, _⟩
      go_wp2
      go_ret
      exact ⟨rfl, hB⟩
    · go_wp2_with (first
        | (at_builtin; refine wpList_appS rfl (Operand.const (Value.slice none 0 0)) (Operand.tmp 27) _ rfl rowPrS (base := w1.heap.size) (Nat.le_refl _) rfl (World.ownsRow_nil _ _ _ _) lenP2 onePr HZ1.out (by rw [← HMZ.out]; rfl) hmZ hmZ2 ?_; intro v' w3 hown3 hg3; have HO3 := Lib.hid hown3; have hb3 := (Below.refl w1.heap.size w1).grown hg3 (Nat.le_refl _) (fun k hk => by cases hk); have HB3 := Lib.hid hb3; have hs3 := hb3.size; clear hown3 hg3 hb3)
        | (at_builtin; refine wpList_lies rfl (Operand.tmp 28) (Operand.tmp 30) _ rfl rowPrS (base := w1.heap.size) (by simp; omega) rfl (own_below HO3.out ((Below.refl w3.heap.size w3).alloc (Nat.le_refl _) _)) ⟨w3.heap.size, 0, none⟩ 1 1 [.int .i64 (-7), .int .i64 (-8)] rfl rfl (cells2 (by simp [go_sem]) (by simp [go_sem])) (by simp [Value.oneCell']) (by omega) (by have := HMZ.out; omega) (by unfold maxLen; have := HMZ.out; omega) _ rfl ?_; intro g cap w4 hown4 hg4 _ _; have hcap := own_capK hown4; have hcap1 : m + 1 ≤ cap := (by have := HMZ.out; have := hcap.1; omega); have hcap2 : cap ≤ 9223372036854775807 := (by have := hcap.2; unfold maxLen at this; omega); have HO4 := Lib.hid hown4; have hb4 := (HB3.out.alloc HB3.out.size (.cells #[.int .i64 (-7), .int .i64 (-8)] 28)).grown hg4 (by simp; omega) (fun k hk => (HO3.out.lt k hk).1); have HB4 := Lib.hid hb4; have HX4 := Lib.hid ((hb4.block w.heap.size x4).trans HX1.out); obtain ⟨k0, k1, k2, k3, k4⟩ := sysC HX4.out; clear hown4 hg4 hb4 hcap))
      have h4 : w4.ownsRow w1.heap.size 28 2 (.slice (some ⟨g, 0, none⟩) (0 + Z.length + 1) cap) (Z ++ [(-7, -8)]).length ((Z ++ [(-7, -8)]).flatMap encPr) := by
        have h := HO4.out
        rw [List.flatMap_append, List.length_append]
        rw [List.nil_append] at h
        simpa [encPr] using h
      obtain ⟨la, lc, lb, hv, _, _, hsl, _⟩ := slAt_own lenP2 h4
      simp only [Value.slice.injEq] at hv
      obtain ⟨hv1, _, rfl⟩ := hv
      have hlb := hsl.ad (by simp)
      rw [← hv1] at hlb
      have HLL : RowKit.Hid (SlAt encPr 2 w4 (some ⟨g, 0, none⟩) g 0 (Z ++ [(-7, -8)])) := Lib.hid (by
        rw [← hv1] at hsl
        obtain rfl : g = lb := by simpa using hlb
        exact hsl)
      have HB4W := Lib.hid (HB1.out.trans (HB4.out.mono HB1.out.size))
      have hsim := HSIM.out w4 (some ⟨g, 0, none⟩) g cap HB4W.out (SlAt.preK HLL.out)
      have HSI := Lib.hid hsim
      clear h4 hsl hlb hv1 hsim HO4 HO3 HB3 hs3 x0 x1 x2 x3 x4 HB4 HX1 HZ1
      refine HSI.out.mono ?_
      rintro e w5 ⟨v, rfl, hq5, hB5⟩
      have HX5 := Lib.hid ((hB5.block w.heap.size k4).trans HX4.out)
      have HL5 := Lib.hid (HLL.out.below hB5 (Nat.le_refl _))
      have HB5 := Lib.hid (HB4W.out.trans (hB5.mono HB4W.out.size)); have HQ5 := Lib.hid hq5
      clear k0 k1 k2 k3 k4
      obtain ⟨k0, k1, k2, k3, k4⟩ := sysC HX5.out
      clear hq5 hB5 HX4 HLL HB4W HSI
      go_wp2_with fail
      obtain ⟨wF, hwF⟩ : ∃ wF, wF = w5.alloc (.cells #[.int .i64 fa, .int .i64 fb, .int .i64 fc, .int .i64 fd] 30) := ⟨_, rfl⟩
      have hbF : Below w5.heap.size w5 wF := by rw [hwF]; exact (Below.refl _ _).alloc (Nat.le_refl _) _
      have hfF := heap_alloc_new w5 (.cells #[.int .i64 fa, .int .i64 fb, .int .i64 fc, .int .i64 fd] 30)
      rw [← hwF] at hfF
      rw [← hwF]
      obtain ⟨qb, hqb⟩ : ∃ qb, qb = w5.heap.size := ⟨_, rfl⟩
      rw [← hqb] at hfF ⊢
      have HLF := Lib.hid (HL5.out.below hbF (Nat.le_refl _)); have HQF := Lib.hid (HQB.out _ _ _ HQ5.out hbF); have HXF := Lib.hid ((hbF.block w.heap.size k4).trans HX5.out)
      have HBF := Lib.hid (HB5.out.trans (hbF.mono HB5.out.size)); have HFF := Lib.hid hfF
      clear hwF hbF hfF hqb HL5 HQ5 HX5 HB5 k0 k1 k2 k3 k4
      refine (HREF.out wF HBF.out).mono ?_
      rintro e w6 ⟨rfl, hB6⟩
      have HL6 := Lib.hid (HLF.out.below hB6 (Nat.le_refl _)); have HQ6 := Lib.hid (HQB.out _ _ _ HQF.out hB6)
      have HF6 := Lib.hid ((hB6.block qb (Array.getElem?_eq_some_iff.1 HFF.out).1).trans HFF.out)
      have HX6 := Lib.hid ((hB6.block w.heap.size (Array.getElem?_eq_some_iff.1 HXF.out).1).trans HXF.out)
      have HB6 := Lib.hid (HBF.out.trans (hB6.mono HBF.out.size))
      clear hB6 HLF HQF HXF HBF HFF
      go_wp2_with fail
      obtain ⟨wG, hwG⟩ : ∃ wG, wG = (w6.alloc (.cells #[.int .i64 fa, .int .i64 fb, .int .i64 fc, .int .i64 fd] 35)).alloc (.cells #[.int .i64 k, .int .i64 0, .int .i64 0, .string x] 37) := ⟨_, rfl⟩
      have hbG : Below w6.heap.size w6 wG := by rw [hwG]; exact ((Below.refl _ _).alloc (Nat.le_refl _) _).alloc (by simp) _
      have hg1 : wG.heap[w6.heap.size]? = some (.cells #[.int .i64 fa, .int .i64 fb, .int .i64 fc, .int .i64 fd] 35 (0, 0)) := by
        rw [hwG, Below.heap_alloc _ _ _ (by simp)]; exact heap_alloc_new w6 _
      have hg2 : wG.heap[w6.heap.size + 1]? = some (.cells #[.int .i64 k, .int .i64 0, .int .i64 0, .string x] 37 (0, 0)) := by
        have h := heap_alloc_new (w6.alloc (.cells #[.int .i64 fa, .int .i64 fb, .int .i64 fc, .int .i64 fd] 35)) (.cells #[.int .i64 k, .int .i64 0, .int .i64 0, .string x] 37)
        rw [show (w6.alloc (.cells #[.int .i64 fa, .int .i64 fb, .int .i64 fc, .int .i64 fd] 35)).heap.size = w6.heap.size + 1 by simp] at h
        rw [hwG]; exact h
      rw [← hwG]
      obtain ⟨rb, hrb⟩ : ∃ rb, rb = w6.heap.size := ⟨_, rfl⟩
      rw [← hrb] at hg1 hg2 ⊢
      have HLG := Lib.hid (HL6.out.below hbG (Nat.le_refl _)); have HQG := Lib.hid (HQB.out _ _ _ HQ6.out hbG)
      have HF7 := Lib.hid ((hbG.block qb (Array.getElem?_eq_some_iff.1 HF6.out).1).trans HF6.out)
      have HBG := Lib.hid (HB6.out.trans (hbG.mono HB6.out.size)); have HG1 := Lib.hid hg1; have HG2 := Lib.hid hg2
      have HZG := Lib.hid (HZS.out.below HBG.out (Nat.le_refl _))
      clear hwG hbG hg1 hg2 hrb HL6 HQ6 HF6 HX6 HB6 HSIM HREF
      have hgd := guardA
      go_loopw [12] (fun v12 wr => ∃ i : Nat, v12 = .int .i64 i ∧ i ≤ m ∧ Below wG.heap.size wG wr) (fun v12 _ => m - (intOf v12).toNat)
      case atStart => exact ⟨0, rfl, Nat.zero_le _, Below.refl _ _⟩
      case round =>
        obtain ⟨i, rfl, hi, hB⟩ := hrel
        have HB := Lib.hid hB
        by_cases him : i < m
        · have himI : (i : Int) < (m : Int) := by omega
          obtain ⟨z, hz⟩ := getElem?_of_lt (xs := Z) (i := i) (by rw [← HMZ.out]; exact him)
          have hzs := HZG.out.below hB (Nat.le_refl _)
          have hls := HLG.out.below hB (Nat.le_refl _)
          have hz2 : (Z ++ [(-7, -8)])[i]? = some z := by rw [List.getElem?_append_left (List.getElem?_eq_some_iff.1 hz).1]; exact hz
          obtain rfl := hzs.ad (by rw [← HMZ.out]; omega)
          have e0 := hzs.cell i z hz 0 _ rfl
          have e1 := hzs.cell i z hz 1 _ rfl
          rw [Nat.add_zero] at e0
          have f0 := hls.cell i z hz2 0 _ rfl
          have f1 := hls.cell i z hz2 1 _ rfl
          rw [Nat.add_zero, Nat.zero_add] at f0
          rw [Nat.zero_add] at f1
          have el := World.block_lt_of_cell? _ _ e0
          have fl := World.block_lt_of_cell? _ _ f0
          have hq := fun w => neqA z z w
          obtain ⟨z1, z2⟩ := z
          have hzz : decide ((z1, z2) = (z1, z2)) = true := by simp
          rw [hzz] at hq
          simp only [Bool.not_true] at hq e0 e1 f0 f1
          clear hB hz hzs hls hz2 hzz
          go_wp2_with fail
          go_quiet (fail)
          go_wp2_with fail
          go_roundw
          case rel => exact ⟨i + 1, by go_num, by omega, bdrew HB.out⟩
          case measure => simp [intOf]; omega
        · obtain rfl : m = i := by omega
          have hq := fun w => eqlA (-7, -8) (-7, -8) w
          have hqf := fun w => eqlRF fa fb fc fd fa fb fc fd w
          have hgf := guardRF
          have hzz : decide (((-7 : Int), (-8 : Int)) = (-7, -8)) = true := by simp
          have hff : decide (fa = fa ∧ fb = fb ∧ fc = fc ∧ fd = fd) = true := by simp
          rw [hzz] at hq
          rw [hff] at hqf
          clear hzz hff hB
          have KEEP : RowKit.Hid (∀ V, Below wr.heap.size wr V → (V.cell? ⟨qb, 0, none⟩ = some (.int .i64 fa) ∧ V.cell? ⟨qb, 1, none⟩ = some (.int .i64 fb) ∧ V.cell? ⟨qb, 2, none⟩ = some (.int .i64 fc) ∧ V.cell? ⟨qb, 3, none⟩ = some (.int .i64 fd) ∧ qb < V.heap.size) ∧ (V.cell? ⟨rb, 0, none⟩ = some (.int .i64 fa) ∧ V.cell? ⟨rb, 1, none⟩ = some (.int .i64 fb) ∧ V.cell? ⟨rb, 2, none⟩ = some (.int .i64 fc) ∧ V.cell? ⟨rb, 3, none⟩ = some (.int .i64 fd) ∧ rb < V.heap.size) ∧ (V.cell? ⟨rb + 1, 0, none⟩ = some (.int .i64 k) ∧ V.cell? ⟨rb + 1, 1, none⟩ = some (.int .i64 0) ∧ V.cell? ⟨rb + 1, 2, none⟩ = some (.int .i64 0) ∧ V.cell? ⟨rb + 1, 3, none⟩ = some (.string x) ∧ rb + 1 < V.heap.size) ∧ V.cell? ⟨g, m * 2, none⟩ = some (.int .i64 (-7)) ∧ V.cell? ⟨g, m * 2 + 1, none⟩ = some (.int .i64 (-8)) ∧ g < V.heap.size) := Lib.hid (fun V hV => by
            have hBV := HB.out.trans (hV.mono HB.out.size)
            have h1 := (hBV.block qb (Array.getElem?_eq_some_iff.1 HF7.out).1).trans HF7.out
            have h2 := (hBV.block rb (Array.getElem?_eq_some_iff.1 HG1.out).1).trans HG1.out
            have h3' := (hBV.block (rb + 1) (Array.getElem?_eq_some_iff.1 HG2.out).1).trans HG2.out
            have hl := HLG.out.below hBV (Nat.le_refl _)
            have hz2 : (Z ++ [(-7, -8)])[m]? = some (-7, -8) := by rw [HMZ.out, List.getElem?_append_right (Nat.le_refl _)]; simp
            have g0 := hl.cell m _ hz2 0 _ rfl
            have g1 := hl.cell m _ hz2 1 _ rfl
            rw [Nat.add_zero, Nat.zero_add] at g0
            rw [Nat.zero_add] at g1
            exact ⟨⟨by simp [World.cell?, h1], by simp [World.cell?, h1], by simp [World.cell?, h1], by simp [World.cell?, h1], (Array.getElem?_eq_some_iff.1 h1).1⟩, ⟨by simp [World.cell?, h2], by simp [World.cell?, h2], by simp [World.cell?, h2], by simp [World.cell?, h2], (Array.getElem?_eq_some_iff.1 h2).1⟩, ⟨by simp [World.cell?, h3'], by simp [World.cell?, h3'], by simp [World.cell?, h3'], by simp [World.cell?, h3'], (Array.getElem?_eq_some_iff.1 h3').1⟩, g0, g1, World.block_lt_of_cell? _ _ g0⟩)
          have HBR := Lib.hid (HBG.out.trans (HB.out.mono HBG.out.size))
          have HQR := Lib.hid (HQB.out _ _ _ HQG.out HB.out)
          have hk1 : (0 : Int) ≤ (m : Int) + 1 := by omega
          have hk2 : ((m : Int) + 1).toNat = m + 1 := by omega
          have hbb : (ok == ok) = true := by simp
          have hk3 : (m : Int) + 1 ≤ (cap : Int) := by omega
          have hk6 : (m : Int) < ((m + 1 : Nat) : Int) := by omega
          have hk7 : (m : Int) < (m : Int) + 1 := by omega
          have hk8 : (0 : Int) ≤ (m : Int) := by omega
          have hkw : IntKind.i64.wrap ((m : Int) + 1) = (m : Int) + 1 := IntWalk.i64_in _ (by omega)
          clear HLG HQG HF7 HG1 HG2 HZG HZS HB HBG HB1
          go_wp2_with fail
          go_region_held3 (fun V => (V.cell? ⟨qb, 0, none⟩ = some (.int .i64 fa) ∧ V.cell? ⟨qb, 1, none⟩ = some (.int .i64 fb) ∧ V.cell? ⟨qb, 2, none⟩ = some (.int .i64 fc) ∧ V.cell? ⟨qb, 3, none⟩ = some (.int .i64 fd) ∧ qb < V.heap.size) ∧ (V.cell? ⟨rb, 0, none⟩ = some (.int .i64 fa) ∧ V.cell? ⟨rb, 1, none⟩ = some (.int .i64 fb) ∧ V.cell? ⟨rb, 2, none⟩ = some (.int .i64 fc) ∧ V.cell? ⟨rb, 3, none⟩ = some (.int .i64 fd) ∧ rb < V.heap.size) ∧ (V.cell? ⟨rb + 1, 0, none⟩ = some (.int .i64 k) ∧ V.cell? ⟨rb + 1, 1, none⟩ = some (.int .i64 0) ∧ V.cell? ⟨rb + 1, 2, none⟩ = some (.int .i64 0) ∧ V.cell? ⟨rb + 1, 3, none⟩ = some (.string x) ∧ rb + 1 < V.heap.size) ∧ V.cell? ⟨g, m * 2, none⟩ = some (.int .i64 (-7)) ∧ V.cell? ⟨g, m * 2 + 1, none⟩ = some (.int .i64 (-8)) ∧ g < V.heap.size)
            (first | exact KEEP.out _ (Below.refl _ _).drew | exact KEEP.out _ (bdrew (Below.refl _ _)) | exact KEEP.out _ hb10 | exact KEEP.out _ hb9 | exact KEEP.out _ hb8)
            (first
              | (go_at_call 7; refine (ALV.out _ (bdrew HBR.out)).mono ?_; rintro e w8 ⟨rfl, _, hB8⟩; have hb8 : Below wr.heap.size wr w8 := (bdrew (Below.refl _ _)).trans hB8)
              | (go_at_call 10; refine (as19_any fa fb fc fd _).mono ?_; rintro e w9 ⟨rfl, hB9⟩; have hb9 : Below wr.heap.size wr w9 := hb8.trans (hB9.mono hb8.size))
              | (go_at_call 11; refine (HTO.out _ _ (HBR.out.trans (hb9.mono HBR.out.size)) (HQB.out _ _ _ HQR.out hb9)).mono ?_; rintro e w10 ⟨rfl, hB10⟩; have hb10 : Below wr.heap.size wr w10 := hb9.trans (hB10.mono hb9.size)))
          all_goals
            go_wp2_with fail
            go_ret
            first
              | exact ⟨rfl, HBR.out.trans (hb10.mono HBR.out.size)⟩
              | exact ⟨rfl, bdrew (HBR.out.trans (hb10.mono HBR.out.size))⟩
  · have e2 : decide (s.st ≤ 300) = false := by simp [h3]
    cases bv
    · go_wp2_with (first
        | (at_builtin; refine wpList_appS rfl (Operand.const (Value.slice none 0 0)) (Operand.tmp 27) _ rfl rowPrS (base := w1.heap.size) (Nat.le_refl _) rfl (World.ownsRow_nil _ _ _ _) lenP2 onePr HZ1.out (by rw [← HMZ.out]; rfl) hmZ hmZ2 ?_; intro v' w3 hown3 hg3; have HO3 := Lib.hid hown3; have hb3 := (Below.refl w1.heap.size w1).grown hg3 (Nat.le_refl _) (fun k hk => by cases hk); have HB3 := Lib.hid hb3; have hs3 := hb3.size; clear hown3 hg3 hb3)
        | (at_builtin; refine wpList_lies rfl (Operand.tmp 28) (Operand.tmp 30) _ rfl rowPrS (base := w1.heap.size) (by simp; omega) rfl (own_below HO3.out ((Below.refl w3.heap.size w3).alloc (Nat.le_refl _) _)) ⟨w3.heap.size, 0, none⟩ 1 1 [.int .i64 (-7), .int .i64 (-8)] rfl rfl (cells2 (by simp [go_sem]) (by simp [go_sem])) (by simp [Value.oneCell']) (by omega) (by have := HMZ.out; omega) (by unfold maxLen; have := HMZ.out; omega) _ rfl ?_; intro g cap w4 hown4 hg4 _ _; have hcap := own_capK hown4; have hcap1 : m + 1 ≤ cap := (by have := HMZ.out; have := hcap.1; omega); have hcap2 : cap ≤ 9223372036854775807 := (by have := hcap.2; unfold maxLen at this; omega); have HO4 := Lib.hid hown4; have hb4 := (HB3.out.alloc HB3.out.size (.cells #[.int .i64 (-7), .int .i64 (-8)] 28)).grown hg4 (by simp; omega) (fun k hk => (HO3.out.lt k hk).1); have HB4 := Lib.hid hb4; have HX4 := Lib.hid ((hb4.block w.heap.size x4).trans HX1.out); obtain ⟨k0, k1, k2, k3, k4⟩ := sysC HX4.out; clear hown4 hg4 hb4 hcap))
      have h4 : w4.ownsRow w1.heap.size 28 2 (.slice (some ⟨g, 0, none⟩) (0 + Z.length + 1) cap) (Z ++ [(-7, -8)]).length ((Z ++ [(-7, -8)]).flatMap encPr) := by
        have h := HO4.out
        rw [List.flatMap_append, List.length_append]
        rw [List.nil_append] at h
        simpa [encPr] using h
      obtain ⟨la, lc, lb, hv, _, _, hsl, _⟩ := slAt_own lenP2 h4
      simp only [Value.slice.injEq] at hv
      obtain ⟨hv1, _, rfl⟩ := hv
      have hlb := hsl.ad (by simp)
      rw [← hv1] at hlb
      have HLL : RowKit.Hid (SlAt encPr 2 w4 (some ⟨g, 0, none⟩) g 0 (Z ++ [(-7, -8)])) := Lib.hid (by
        rw [← hv1] at hsl
        obtain rfl : g = lb := by simpa using hlb
        exact hsl)
      have HB4W := Lib.hid (HB1.out.trans (HB4.out.mono HB1.out.size))
      have hsim := HSIM.out w4 (some ⟨g, 0, none⟩) g cap HB4W.out (SlAt.preK HLL.out)
      have HSI := Lib.hid hsim
      clear h4 hsl hlb hv1 hsim HO4 HO3 HB3 hs3 x0 x1 x2 x3 x4 HB4 HX1 HZ1
      refine HSI.out.mono ?_
      rintro e w5 ⟨v, rfl, hq5, hB5⟩
      have HX5 := Lib.hid ((hB5.block w.heap.size k4).trans HX4.out)
      have HL5 := Lib.hid (HLL.out.below hB5 (Nat.le_refl _))
      have HB5 := Lib.hid (HB4W.out.trans (hB5.mono HB4W.out.size)); have HQ5 := Lib.hid hq5
      clear k0 k1 k2 k3 k4
      obtain ⟨k0, k1, k2, k3, k4⟩ := sysC HX5.out
      clear hq5 hB5 HX4 HLL HB4W HSI
      go_wp2_with fail
      obtain ⟨wF, hwF⟩ : ∃ wF, wF = w5.alloc (.cells #[.int .i64 fa, .int .i64 fb, .int .i64 fc, .int .i64 fd] 30) := ⟨_, rfl⟩
      have hbF : Below w5.heap.size w5 wF := by rw [hwF]; exact (Below.refl _ _).alloc (Nat.le_refl _) _
      have hfF := heap_alloc_new w5 (.cells #[.int .i64 fa, .int .i64 fb, .int .i64 fc, .int .i64 fd] 30)
      rw [← hwF] at hfF
      rw [← hwF]
      obtain ⟨qb, hqb⟩ : ∃ qb, qb = w5.heap.size := ⟨_, rfl⟩
      rw [← hqb] at hfF ⊢
      have HLF := Lib.hid (HL5.out.below hbF (Nat.le_refl _)); have HQF := Lib.hid (HQB.out _ _ _ HQ5.out hbF); have HXF := Lib.hid ((hbF.block w.heap.size k4).trans HX5.out)
      have HBF := Lib.hid (HB5.out.trans (hbF.mono HB5.out.size)); have HFF := Lib.hid hfF
      clear hwF hbF hfF hqb HL5 HQ5 HX5 HB5 k0 k1 k2 k3 k4
      refine (HREF.out wF HBF.out).mono ?_
      rintro e w6 ⟨rfl, hB6⟩
      have HL6 := Lib.hid (HLF.out.below hB6 (Nat.le_refl _)); have HQ6 := Lib.hid (HQB.out _ _ _ HQF.out hB6)
      have HF6 := Lib.hid ((hB6.block qb (Array.getElem?_eq_some_iff.1 HFF.out).1).trans HFF.out)
      have HX6 := Lib.hid ((hB6.block w.heap.size (Array.getElem?_eq_some_iff.1 HXF.out).1).trans HXF.out)
      have HB6 := Lib.hid (HBF.out.trans (hB6.mono HBF.out.size))
      clear hB6 HLF HQF HXF HBF HFF
      go_wp2_with fail
      obtain ⟨wG, hwG⟩ : ∃ wG, wG = (w6.alloc (.cells #[.int .i64 fa, .int .i64 fb, .int .i64 fc, .int .i64 fd] 35)).alloc (.cells #[.int .i64 k, .int .i64 0, .int .i64 0, .string x] 37) := ⟨_, rfl⟩
      have hbG : Below w6.heap.size w6 wG := by rw [hwG]; exact ((Below.refl _ _).alloc (Nat.le_refl _) _).alloc (by simp) _
      have hg1 : wG.heap[w6.heap.size]? = some (.cells #[.int .i64 fa, .int .i64 fb, .int .i64 fc, .int .i64 fd] 35 (0, 0)) := by
        rw [hwG, Below.heap_alloc _ _ _ (by simp)]; exact heap_alloc_new w6 _
      have hg2 : wG.heap[w6.heap.size + 1]? = some (.cells #[.int .i64 k, .int .i64 0, .int .i64 0, .string x] 37 (0, 0)) := by
        have h := heap_alloc_new (w6.alloc (.cells #[.int .i64 fa, .int .i64 fb, .int .i64 fc, .int .i64 fd] 35)) (.cells #[.int .i64 k, .int .i64 0, .int .i64 0, .string x] 37)
        rw [show (w6.alloc (.cells #[.int .i64 fa, .int .i64 fb, .int .i64 fc, .int .i64 fd] 35)).heap.size = w6.heap.size + 1 by simp] at h
        rw [hwG]; exact h
      rw [← hwG]
      obtain ⟨rb, hrb⟩ : ∃ rb, rb = w6.heap.size := ⟨_, rfl⟩
      rw [← hrb] at hg1 hg2 ⊢
      have HLG := Lib.hid (HL6.out.below hbG (Nat.le_refl _)); have HQG := Lib.hid (HQB.out _ _ _ HQ6.out hbG)
      have HF7 := Lib.hid ((hbG.block qb (Array.getElem?_eq_some_iff.1 HF6.out).1).trans HF6.out)
      have HBG := Lib.hid (HB6.out.trans (hbG.mono HB6.out.size)); have HG1 := Lib.hid hg1; have HG2 := Lib.hid hg2
      have HZG := Lib.hid (HZS.out.below HBG.out (Nat.le_refl _))
      clear hwG hbG hg1 hg2 hrb HL6 HQ6 HF6 HX6 HB6 HSIM HREF
      have hgd := guardA
      go_loopw [12] (fun v12 wr => ∃ i : Nat, v12 = .int .i64 i ∧ i ≤ m ∧ Below wG.heap.size wG wr) (fun v12 _ => m - (intOf v12).toNat)
      case atStart => exact ⟨0, rfl, Nat.zero_le _, Below.refl _ _⟩
      case round =>
        obtain ⟨i, rfl, hi, hB⟩ := hrel
        have HB := Lib.hid hB
        by_cases him : i < m
        · have himI : (i : Int) < (m : Int) := by omega
          obtain ⟨z, hz⟩ := getElem?_of_lt (xs := Z) (i := i) (by rw [← HMZ.out]; exact him)
          have hzs := HZG.out.below hB (Nat.le_refl _)
          have hls := HLG.out.below hB (Nat.le_refl _)
          have hz2 : (Z ++ [(-7, -8)])[i]? = some z := by rw [List.getElem?_append_left (List.getElem?_eq_some_iff.1 hz).1]; exact hz
          obtain rfl := hzs.ad (by rw [← HMZ.out]; omega)
          have e0 := hzs.cell i z hz 0 _ rfl
          have e1 := hzs.cell i z hz 1 _ rfl
          rw [Nat.add_zero] at e0
          have f0 := hls.cell i z hz2 0 _ rfl
          have f1 := hls.cell i z hz2 1 _ rfl
          rw [Nat.add_zero, Nat.zero_add] at f0
          rw [Nat.zero_add] at f1
          have el := World.block_lt_of_cell? _ _ e0
          have fl := World.block_lt_of_cell? _ _ f0
          have hq := fun w => neqA z z w
          obtain ⟨z1, z2⟩ := z
          have hzz : decide ((z1, z2) = (z1, z2)) = true := by simp
          rw [hzz] at hq
          simp only [Bool.not_true] at hq e0 e1 f0 f1
          clear hB hz hzs hls hz2 hzz
          go_wp2_with fail
          go_quiet (fail)
          go_wp2_with fail
          go_roundw
          case rel => exact ⟨i + 1, by go_num, by omega, bdrew HB.out⟩
          case measure => simp [intOf]; omega
        · obtain rfl : m = i := by omega
          have hq := fun w => eqlA (-7, -8) (-7, -8) w
          have hqf := fun w => eqlRF fa fb fc fd fa fb fc fd w
          have hgf := guardRF
          have hzz : decide (((-7 : Int), (-8 : Int)) = (-7, -8)) = true := by simp
          have hff : decide (fa = fa ∧ fb = fb ∧ fc = fc ∧ fd = fd) = true := by simp
          rw [hzz] at hq
          rw [hff] at hqf
          clear hzz hff hB
          have KEEP : RowKit.Hid (∀ V, Below wr.heap.size wr V → (V.cell? ⟨qb, 0, none⟩ = some (.int .i64 fa) ∧ V.cell? ⟨qb, 1, none⟩ = some (.int .i64 fb) ∧ V.cell? ⟨qb, 2, none⟩ = some (.int .i64 fc) ∧ V.cell? ⟨qb, 3, none⟩ = some (.int .i64 fd) ∧ qb < V.heap.size) ∧ (V.cell? ⟨rb, 0, none⟩ = some (.int .i64 fa) ∧ V.cell? ⟨rb, 1, none⟩ = some (.int .i64 fb) ∧ V.cell? ⟨rb, 2, none⟩ = some (.int .i64 fc) ∧ V.cell? ⟨rb, 3, none⟩ = some (.int .i64 fd) ∧ rb < V.heap.size) ∧ (V.cell? ⟨rb + 1, 0, none⟩ = some (.int .i64 k) ∧ V.cell? ⟨rb + 1, 1, none⟩ = some (.int .i64 0) ∧ V.cell? ⟨rb + 1, 2, none⟩ = some (.int .i64 0) ∧ V.cell? ⟨rb + 1, 3, none⟩ = some (.string x) ∧ rb + 1 < V.heap.size) ∧ V.cell? ⟨g, m * 2, none⟩ = some (.int .i64 (-7)) ∧ V.cell? ⟨g, m * 2 + 1, none⟩ = some (.int .i64 (-8)) ∧ g < V.heap.size) := Lib.hid (fun V hV => by
            have hBV := HB.out.trans (hV.mono HB.out.size)
            have h1 := (hBV.block qb (Array.getElem?_eq_some_iff.1 HF7.out).1).trans HF7.out
            have h2 := (hBV.block rb (Array.getElem?_eq_some_iff.1 HG1.out).1).trans HG1.out
            have h3' := (hBV.block (rb + 1) (Array.getElem?_eq_some_iff.1 HG2.out).1).trans HG2.out
            have hl := HLG.out.below hBV (Nat.le_refl _)
            have hz2 : (Z ++ [(-7, -8)])[m]? = some (-7, -8) := by rw [HMZ.out, List.getElem?_append_right (Nat.le_refl _)]; simp
            have g0 := hl.cell m _ hz2 0 _ rfl
            have g1 := hl.cell m _ hz2 1 _ rfl
            rw [Nat.add_zero, Nat.zero_add] at g0
            rw [Nat.zero_add] at g1
            exact ⟨⟨by simp [World.cell?, h1], by simp [World.cell?, h1], by simp [World.cell?, h1], by simp [World.cell?, h1], (Array.getElem?_eq_some_iff.1 h1).1⟩, ⟨by simp [World.cell?, h2], by simp [World.cell?, h2], by simp [World.cell?, h2], by simp [World.cell?, h2], (Array.getElem?_eq_some_iff.1 h2).1⟩, ⟨by simp [World.cell?, h3'], by simp [World.cell?, h3'], by simp [World.cell?, h3'], by simp [World.cell?, h3'], (Array.getElem?_eq_some_iff.1 h3').1⟩, g0, g1, World.block_lt_of_cell? _ _ g0⟩)
          have HBR := Lib.hid (HBG.out.trans (HB.out.mono HBG.out.size))
          have HQR := Lib.hid (HQB.out _ _ _ HQG.out HB.out)
          have hk1 : (0 : Int) ≤ (m : Int) + 1 := by omega
          have hk2 : ((m : Int) + 1).toNat = m + 1 := by omega
          have hbb : (ok == ok) = true := by simp
          have hk3 : (m : Int) + 1 ≤ (cap : Int) := by omega
          have hk6 : (m : Int) < ((m + 1 : Nat) : Int) := by omega
          have hk7 : (m : Int) < (m : Int) + 1 := by omega
          have hk8 : (0 : Int) ≤ (m : Int) := by omega
          have hkw : IntKind.i64.wrap ((m : Int) + 1) = (m : Int) + 1 := IntWalk.i64_in _ (by omega)
          clear HLG HQG HF7 HG1 HG2 HZG HZS HB HBG HB1
          go_wp2_with fail
          go_region_held3 (fun V => (V.cell? ⟨qb, 0, none⟩ = some (.int .i64 fa) ∧ V.cell? ⟨qb, 1, none⟩ = some (.int .i64 fb) ∧ V.cell? ⟨qb, 2, none⟩ = some (.int .i64 fc) ∧ V.cell? ⟨qb, 3, none⟩ = some (.int .i64 fd) ∧ qb < V.heap.size) ∧ (V.cell? ⟨rb, 0, none⟩ = some (.int .i64 fa) ∧ V.cell? ⟨rb, 1, none⟩ = some (.int .i64 fb) ∧ V.cell? ⟨rb, 2, none⟩ = some (.int .i64 fc) ∧ V.cell? ⟨rb, 3, none⟩ = some (.int .i64 fd) ∧ rb < V.heap.size) ∧ (V.cell? ⟨rb + 1, 0, none⟩ = some (.int .i64 k) ∧ V.cell? ⟨rb + 1, 1, none⟩ = some (.int .i64 0) ∧ V.cell? ⟨rb + 1, 2, none⟩ = some (.int .i64 0) ∧ V.cell? ⟨rb + 1, 3, none⟩ = some (.string x) ∧ rb + 1 < V.heap.size) ∧ V.cell? ⟨g, m * 2, none⟩ = some (.int .i64 (-7)) ∧ V.cell? ⟨g, m * 2 + 1, none⟩ = some (.int .i64 (-8)) ∧ g < V.heap.size)
            (first | exact KEEP.out _ (Below.refl _ _).drew | exact KEEP.out _ (bdrew (Below.refl _ _)) | exact KEEP.out _ hb10 | exact KEEP.out _ hb9 | exact KEEP.out _ hb8)
            (first
              | (go_at_call 7; refine (ALV.out _ (bdrew HBR.out)).mono ?_; rintro e w8 ⟨rfl, _, hB8⟩; have hb8 : Below wr.heap.size wr w8 := (bdrew (Below.refl _ _)).trans hB8)
              | (go_at_call 10; refine (as19_any fa fb fc fd _).mono ?_; rintro e w9 ⟨rfl, hB9⟩; have hb9 : Below wr.heap.size wr w9 := hb8.trans (hB9.mono hb8.size))
              | (go_at_call 11; refine (HTO.out _ _ (HBR.out.trans (hb9.mono HBR.out.size)) (HQB.out _ _ _ HQR.out hb9)).mono ?_; rintro e w10 ⟨rfl, hB10⟩; have hb10 : Below wr.heap.size wr w10 := hb9.trans (hB10.mono hb9.size)))
          all_goals
            go_wp2_with fail
            go_ret
            first
              | exact ⟨rfl, HBR.out.trans (hb10.mono HBR.out.size)⟩
              | exact ⟨rfl, bdrew (HBR.out.trans (hb10.mono HBR.out.size))⟩
    · go_wp2_with (first
        | (at_builtin; refine wpList_appS rfl (Operand.const (Value.slice none 0 0)) (Operand.tmp 27) _ rfl rowPrS (base := w1.heap.size) (Nat.le_refl _) rfl (World.ownsRow_nil _ _ _ _) lenP2 onePr HZ1.out (by rw [← HMZ.out]; rfl) hmZ hmZ2 ?_; intro v' w3 hown3 hg3; have HO3 := Lib.hid hown3; have hb3 := (Below.refl w1.heap.size w1).grown hg3 (Nat.le_refl _) (fun k hk => by cases hk); have HB3 := Lib.hid hb3; have hs3 := hb3.size; clear hown3 hg3 hb3)
        | (at_builtin; refine wpList_lies rfl (Operand.tmp 28) (Operand.tmp 30) _ rfl rowPrS (base := w1.heap.size) (by simp; omega) rfl (own_below HO3.out ((Below.refl w3.heap.size w3).alloc (Nat.le_refl _) _)) ⟨w3.heap.size, 0, none⟩ 1 1 [.int .i64 (-7), .int .i64 (-8)] rfl rfl (cells2 (by simp [go_sem]) (by simp [go_sem])) (by simp [Value.oneCell']) (by omega) (by have := HMZ.out; omega) (by unfold maxLen; have := HMZ.out; omega) _ rfl ?_; intro g cap w4 hown4 hg4 _ _; have hcap := own_capK hown4; have hcap1 : m + 1 ≤ cap := (by have := HMZ.out; have := hcap.1; omega); have hcap2 : cap ≤ 9223372036854775807 := (by have := hcap.2; unfold maxLen at this; omega); have HO4 := Lib.hid hown4; have hb4 := (HB3.out.alloc HB3.out.size (.cells #[.int .i64 (-7), .int .i64 (-8)] 28)).grown hg4 (by simp; omega) (fun k hk => (HO3.out.lt k hk).1); have HB4 := Lib.hid hb4; have HX4 := Lib.hid ((hb4.block w.heap.size x4).trans HX1.out); obtain ⟨k0, k1, k2, k3, k4⟩ := sysC HX4.out; clear hown4 hg4 hb4 hcap))
      have h4 : w4.ownsRow w1.heap.size 28 2 (.slice (some ⟨g, 0, none⟩) (0 + Z.length + 1) cap) (Z ++ [(-7, -8)]).length ((Z ++ [(-7, -8)]).flatMap encPr) := by
        have h := HO4.out
        rw [List.flatMap_append, List.length_append]
        rw [List.nil_append] at h
        simpa [encPr] using h
      obtain ⟨la, lc, lb, hv, _, _, hsl, _⟩ := slAt_own lenP2 h4
      simp only [Value.slice.injEq] at hv
      obtain ⟨hv1, _, rfl⟩ := hv
      have hlb := hsl.ad (by simp)
      rw [← hv1] at hlb
      have HLL : RowKit.Hid (SlAt encPr 2 w4 (some ⟨g, 0, none⟩) g 0 (Z ++ [(-7, -8)])) := Lib.hid (by
        rw [← hv1] at hsl
        obtain rfl : g = lb := by simpa using hlb
        exact hsl)
      have HB4W := Lib.hid (HB1.out.trans (HB4.out.mono HB1.out.size))
      have hsim := HSIM.out w4 (some ⟨g, 0, none⟩) g cap HB4W.out (SlAt.preK HLL.out)
      have HSI := Lib.hid hsim
      clear h4 hsl hlb hv1 hsim HO4 HO3 HB3 hs3 x0 x1 x2 x3 x4 HB4 HX1 HZ1
      refine HSI.out.mono ?_
      rintro e w5 ⟨v, rfl, hq5, hB5⟩
      have HX5 := Lib.hid ((hB5.block w.heap.size k4).trans HX4.out)
      have HL5 := Lib.hid (HLL.out.below hB5 (Nat.le_refl _))
      have HB5 := Lib.hid (HB4W.out.trans (hB5.mono HB4W.out.size)); have HQ5 := Lib.hid hq5
      clear k0 k1 k2 k3 k4
      obtain ⟨k0, k1, k2, k3, k4⟩ := sysC HX5.out
      clear hq5 hB5 HX4 HLL HB4W HSI
      go_wp2_with fail
      obtain ⟨wF, hwF⟩ : ∃ wF, wF = w5.alloc (.cells #[.int .i64 fa, .int .i64 fb, .int .i64 fc, .int .i64 fd] 30) := ⟨_, rfl⟩
      have hbF : Below w5.heap.size w5 wF := by rw [hwF]; exact (Below.refl _ _).alloc (Nat.le_refl _) _
      have hfF := heap_alloc_new w5 (.cells #[.int .i64 fa, .int .i64 fb, .int .i64 fc, .int .i64 fd] 30)
      rw [← hwF] at hfF
      rw [← hwF]
      obtain ⟨qb, hqb⟩ : ∃ qb, qb = w5.heap.size := ⟨_, rfl⟩
      rw [← hqb] at hfF ⊢
      have HLF := Lib.hid (HL5.out.below hbF (Nat.le_refl _)); have HQF := Lib.hid (HQB.out _ _ _ HQ5.out hbF); have HXF := Lib.hid ((hbF.block w.heap.size k4).trans HX5.out)
      have HBF := Lib.hid (HB5.out.trans (hbF.mono HB5.out.size)); have HFF := Lib.hid hfF
      clear hwF hbF hfF hqb HL5 HQ5 HX5 HB5 k0 k1 k2 k3 k4
      refine (HREF.out wF HBF.out).mono ?_
      rintro e w6 ⟨rfl, hB6⟩
      have HL6 := Lib.hid (HLF.out.below hB6 (Nat.le_refl _)); have HQ6 := Lib.hid (HQB.out _ _ _ HQF.out hB6)
      have HF6 := Lib.hid ((hB6.block qb (Array.getElem?_eq_some_iff.1 HFF.out).1).trans HFF.out)
      have HX6 := Lib.hid ((hB6.block w.heap.size (Array.getElem?_eq_some_iff.1 HXF.out).1).trans HXF.out)
      have HB6 := Lib.hid (HBF.out.trans (hB6.mono HBF.out.size))
      clear hB6 HLF HQF HXF HBF HFF
      go_wp2_with fail
      obtain ⟨wG, hwG⟩ : ∃ wG, wG = (w6.alloc (.cells #[.int .i64 fa, .int .i64 fb, .int .i64 fc, .int .i64 fd] 35)).alloc (.cells #[.int .i64 k, .int .i64 0, .int .i64 0, .string x] 37) := ⟨_, rfl⟩
      have hbG : Below w6.heap.size w6 wG := by rw [hwG]; exact ((Below.refl _ _).alloc (Nat.le_refl _) _).alloc (by simp) _
      have hg1 : wG.heap[w6.heap.size]? = some (.cells #[.int .i64 fa, .int .i64 fb, .int .i64 fc, .int .i64 fd] 35 (0, 0)) := by
        rw [hwG, Below.heap_alloc _ _ _ (by simp)]; exact heap_alloc_new w6 _
      have hg2 : wG.heap[w6.heap.size + 1]? = some (.cells #[.int .i64 k, .int .i64 0, .int .i64 0, .string x] 37 (0, 0)) := by
        have h := heap_alloc_new (w6.alloc (.cells #[.int .i64 fa, .int .i64 fb, .int .i64 fc, .int .i64 fd] 35)) (.cells #[.int .i64 k, .int .i64 0, .int .i64 0, .string x] 37)
        rw [show (w6.alloc (.cells #[.int .i64 fa, .int .i64 fb, .int .i64 fc, .int .i64 fd] 35)).heap.size = w6.heap.size + 1 by simp] at h
        rw [hwG]; exact h
      rw [← hwG]
      obtain ⟨rb, hrb⟩ : ∃ rb, rb = w6.heap.size := ⟨_, rfl⟩
      rw [← hrb] at hg1 hg2 ⊢
      have HLG := Lib.hid (HL6.out.below hbG (Nat.le_refl _)); have HQG := Lib.hid (HQB.out _ _ _ HQ6.out hbG)
      have HF7 := Lib.hid ((hbG.block qb (Array.getElem?_eq_some_iff.1 HF6.out).1).trans HF6.out)
      have HBG := Lib.hid (HB6.out.trans (hbG.mono HB6.out.size)); have HG1 := Lib.hid hg1; have HG2 := Lib.hid hg2
      have HZG := Lib.hid (HZS.out.below HBG.out (Nat.le_refl _))
      clear hwG hbG hg1 hg2 hrb HL6 HQ6 HF6 HX6 HB6 HSIM HREF
      have hgd := guardA
      go_loopw [12] (fun v12 wr => ∃ i : Nat, v12 = .int .i64 i ∧ i ≤ m ∧ Below wG.heap.size wG wr) (fun v12 _ => m - (intOf v12).toNat)
      case atStart => exact ⟨0, rfl, Nat.zero_le _, Below.refl _ _⟩
      case round =>
        obtain ⟨i, rfl, hi, hB⟩ := hrel
        have HB := Lib.hid hB
        by_cases him : i < m
        · have himI : (i : Int) < (m : Int) := by omega
          obtain ⟨z, hz⟩ := getElem?_of_lt (xs := Z) (i := i) (by rw [← HMZ.out]; exact him)
          have hzs := HZG.out.below hB (Nat.le_refl _)
          have hls := HLG.out.below hB (Nat.le_refl _)
          have hz2 : (Z ++ [(-7, -8)])[i]? = some z := by rw [List.getElem?_append_left (List.getElem?_eq_some_iff.1 hz).1]; exact hz
          obtain rfl := hzs.ad (by rw [← HMZ.out]; omega)
          have e0 := hzs.cell i z hz 0 _ rfl
          have e1 := hzs.cell i z hz 1 _ rfl
          rw [Nat.add_zero] at e0
          have f0 := hls.cell i z hz2 0 _ rfl
          have f1 := hls.cell i z hz2 1 _ rfl
          rw [Nat.add_zero, Nat.zero_add] at f0
          rw [Nat.zero_add] at f1
          have el := World.block_lt_of_cell? _ _ e0
          have fl := World.block_lt_of_cell? _ _ f0
          have hq := fun w => neqA z z w
          obtain ⟨z1, z2⟩ := z
          have hzz : decide ((z1, z2) = (z1, z2)) = true := by simp
          rw [hzz] at hq
          simp only [Bool.not_true] at hq e0 e1 f0 f1
          clear hB hz hzs hls hz2 hzz
          go_wp2_with fail
          go_quiet (fail)
          go_wp2_with fail
          go_roundw
          case rel => exact ⟨i + 1, by go_num, by omega, bdrew HB.out⟩
          case measure => simp [intOf]; omega
        · obtain rfl : m = i := by omega
          have hq := fun w => eqlA (-7, -8) (-7, -8) w
          have hqf := fun w => eqlRF fa fb fc fd fa fb fc fd w
          have hgf := guardRF
          have hzz : decide (((-7 : Int), (-8 : Int)) = (-7, -8)) = true := by simp
          have hff : decide (fa = fa ∧ fb = fb ∧ fc = fc ∧ fd = fd) = true := by simp
          rw [hzz] at hq
          rw [hff] at hqf
          clear hzz hff hB
          have KEEP : RowKit.Hid (∀ V, Below wr.heap.size wr V → (V.cell? ⟨qb, 0, none⟩ = some (.int .i64 fa) ∧ V.cell? ⟨qb, 1, none⟩ = some (.int .i64 fb) ∧ V.cell? ⟨qb, 2, none⟩ = some (.int .i64 fc) ∧ V.cell? ⟨qb, 3, none⟩ = some (.int .i64 fd) ∧ qb < V.heap.size) ∧ (V.cell? ⟨rb, 0, none⟩ = some (.int .i64 fa) ∧ V.cell? ⟨rb, 1, none⟩ = some (.int .i64 fb) ∧ V.cell? ⟨rb, 2, none⟩ = some (.int .i64 fc) ∧ V.cell? ⟨rb, 3, none⟩ = some (.int .i64 fd) ∧ rb < V.heap.size) ∧ (V.cell? ⟨rb + 1, 0, none⟩ = some (.int .i64 k) ∧ V.cell? ⟨rb + 1, 1, none⟩ = some (.int .i64 0) ∧ V.cell? ⟨rb + 1, 2, none⟩ = some (.int .i64 0) ∧ V.cell? ⟨rb + 1, 3, none⟩ = some (.string x) ∧ rb + 1 < V.heap.size) ∧ V.cell? ⟨g, m * 2, none⟩ = some (.int .i64 (-7)) ∧ V.cell? ⟨g, m * 2 + 1, none⟩ = some (.int .i64 (-8)) ∧ g < V.heap.size) := Lib.hid (fun V hV => by
            have hBV := HB.out.trans (hV.mono HB.out.size)
            have h1 := (hBV.block qb (Array.getElem?_eq_some_iff.1 HF7.out).1).trans HF7.out
            have h2 := (hBV.block rb (Array.getElem?_eq_some_iff.1 HG1.out).1).trans HG1.out
            have h3' := (hBV.block (rb + 1) (Array.getElem?_eq_some_iff.1 HG2.out).1).trans HG2.out
            have hl := HLG.out.below hBV (Nat.le_refl _)
            have hz2 : (Z ++ [(-7, -8)])[m]? = some (-7, -8) := by rw [HMZ.out, List.getElem?_append_right (Nat.le_refl _)]; simp
            have g0 := hl.cell m _ hz2 0 _ rfl
            have g1 := hl.cell m _ hz2 1 _ rfl
            rw [Nat.add_zero, Nat.zero_add] at g0
            rw [Nat.zero_add] at g1
            exact ⟨⟨by simp [World.cell?, h1], by simp [World.cell?, h1], by simp [World.cell?, h1], by simp [World.cell?, h1], (Array.getElem?_eq_some_iff.1 h1).1⟩, ⟨by simp [World.cell?, h2], by simp [World.cell?, h2], by simp [World.cell?, h2], by simp [World.cell?, h2], (Array.getElem?_eq_some_iff.1 h2).1⟩, ⟨by simp [World.cell?, h3'], by simp [World.cell?, h3'], by simp [World.cell?, h3'], by simp [World.cell?, h3'], (Array.getElem?_eq_some_iff.1 h3').1⟩, g0, g1, World.block_lt_of_cell? _ _ g0⟩)
          have HBR := Lib.hid (HBG.out.trans (HB.out.mono HBG.out.size))
          have HQR := Lib.hid (HQB.out _ _ _ HQG.out HB.out)
          have hk1 : (0 : Int) ≤ (m : Int) + 1 := by omega
          have hk2 : ((m : Int) + 1).toNat = m + 1 := by omega
          have hbb : (ok == ok) = true := by simp
          have hk3 : (m : Int) + 1 ≤ (cap : Int) := by omega
          have hk6 : (m : Int) < ((m + 1 : Nat) : Int) := by omega
          have hk7 : (m : Int) < (m : Int) + 1 := by omega
          have hk8 : (0 : Int) ≤ (m : Int) := by omega
          have hkw : IntKind.i64.wrap ((m : Int) + 1) = (m : Int) + 1 := IntWalk.i64_in _ (by omega)
          clear HLG HQG HF7 HG1 HG2 HZG HZS HB HBG HB1
          go_wp2_with fail
          go_region_held3 (fun V => (V.cell? ⟨qb, 0, none⟩ = some (.int .i64 fa) ∧ V.cell? ⟨qb, 1, none⟩ = some (.int .i64 fb) ∧ V.cell? ⟨qb, 2, none⟩ = some (.int .i64 fc) ∧ V.cell? ⟨qb, 3, none⟩ = some (.int .i64 fd) ∧ qb < V.heap.size) ∧ (V.cell? ⟨rb, 0, none⟩ = some (.int .i64 fa) ∧ V.cell? ⟨rb, 1, none⟩ = some (.int .i64 fb) ∧ V.cell? ⟨rb, 2, none⟩ = some (.int .i64 fc) ∧ V.cell? ⟨rb, 3, none⟩ = some (.int .i64 fd) ∧ rb < V.heap.size) ∧ (V.cell? ⟨rb + 1, 0, none⟩ = some (.int .i64 k) ∧ V.cell? ⟨rb + 1, 1, none⟩ = some (.int .i64 0) ∧ V.cell? ⟨rb + 1, 2, none⟩ = some (.int .i64 0) ∧ V.cell? ⟨rb + 1, 3, none⟩ = some (.string x) ∧ rb + 1 < V.heap.size) ∧ V.cell? ⟨g, m * 2, none⟩ = some (.int .i64 (-7)) ∧ V.cell? ⟨g, m * 2 + 1, none⟩ = some (.int .i64 (-8)) ∧ g < V.heap.size)
            (first | exact KEEP.out _ (Below.refl _ _).drew | exact KEEP.out _ (bdrew (Below.refl _ _)) | exact KEEP.out _ hb10 | exact KEEP.out _ hb9 | exact KEEP.out _ hb8)
            (first
              | (go_at_call 7; refine (ALV.out _ (bdrew HBR.out)).mono ?_; rintro e w8 ⟨rfl, _, hB8⟩; have hb8 : Below wr.heap.size wr w8 := (bdrew (Below.refl _ _)).trans hB8)
              | (go_at_call 10; refine (as19_any fa fb fc fd _).mono ?_; rintro e w9 ⟨rfl, hB9⟩; have hb9 : Below wr.heap.size wr w9 := hb8.trans (hB9.mono hb8.size))
              | (go_at_call 11; refine (HTO.out _ _ (HBR.out.trans (hb9.mono HBR.out.size)) (HQB.out _ _ _ HQR.out hb9)).mono ?_; rintro e w10 ⟨rfl, hB10⟩; have hb10 : Below wr.heap.size wr w10 := hb9.trans (hB10.mono hb9.size)))
          all_goals
            go_wp2_with fail
            go_ret
            first
              | exact ⟨rfl, HBR.out.trans (hb10.mono HBR.out.size)⟩
              | exact ⟨rfl, bdrew (HBR.out.trans (hb10.mono HBR.out.size))⟩
end Go.Proofs.YtclannenknhfpaaGreatDoor

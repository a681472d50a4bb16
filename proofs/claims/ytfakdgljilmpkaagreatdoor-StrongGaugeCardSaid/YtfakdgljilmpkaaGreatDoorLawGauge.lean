/-
  law9.StrongGauge.
-/
import Derived.Test.YtfakdgljilmpkaaGreatDoorGStrQ
import Derived.Test.YtfakdgljilmpkaaGreatDoorMetP
namespace Go.Proofs.YtfakdgljilmpkaaGreatDoor
open Go.RowKit Pl

/-- What the law reads of Refine. -/
def GauPost (n : Nat) (w : World) (e : Ending) (w' : World) : Prop :=
  ∃ (ga : Nat → Nat) (ca ta ba : Option Addr) (cn cc tn tc bb bc : Nat), e = .returned (.tuple #[.agg #[.slice ca cn cc, .slice ta tn tc, .slice ba n bc], .nilIface]) ∧ (∀ p, p < n → 1 ≤ ga p ∧ 2 ^ (ga p - 1) ≤ n) ∧ SlAt encI 1 w' ba bb 0 (flN n ga) ∧ Below w.heap.size w w'
theorem refineG_any {p : Addr} {s : Lts} {n : Nat} (h : s.Right) (hn : s.st = (n : Int)) {a : Option Addr} {b off c : Nat} {w : World} (hG : GErr 0 p w) (hS : SlAt encE 3 w a b off s.es) :
    Calls Tryz.prog 17 #[.agg #[.int .i64 s.st, .int .i64 s.lb, .int .i64 s.s0, .slice a s.es.length c]] w (GauPost n w) := by
  rcases Nat.eq_zero_or_pos n with rfl | hn0
  · refine (refineZero_any (c := c) h hn hG hS).mono ?_
    rintro e w' ⟨rfl, hB⟩
    exact ⟨fun _ => 0, none, none, none, 0, 0, 0, 0, 0, 0, rfl, fun p hp => by omega, slAt_nil _ _ _ _, hB⟩
  · refine (refineYes_any (c := c) h hn hn0 hG hS).mono ?_
    unfold RefPost
    rintro e w' ⟨inn, ga, cg, cc, ta, tn, tc, ba, bb, bc, _, hga, rfl, _, hs, hB⟩
    exact ⟨ga, _, ta, ba, n, cc, tn, tc, bb, bc, rfl, hga, hs, hB⟩

set_option maxRecDepth 100000 in
set_option maxHeartbeats 8000000 in
theorem strongGauge_any {w : World} {p0 pc : Addr} (hG : GErr 0 p0 w) (hC : GErr 2 pc w) (hT : ErrType w) {s : Lts} {a : Option Addr} {b off c : Nat} (hS : SlAt encE 3 w a b off s.es) :
    Calls Tryz.prog 4 #[.agg #[.int .i64 s.st, .int .i64 s.lb, .int .i64 s.s0, .slice a s.es.length c]] w fun e w' => e = .returned (.bool true) ∧ Below w.heap.size w w' := by
  have hB0 := (Below.refl w.heap.size w).alloc (Nat.le_refl _) (Obj.cells #[.int .i64 s.st, .int .i64 s.lb, .int .i64 s.s0, .slice a s.es.length c] 24)
  have hbx := heap_alloc_new w (Obj.cells #[.int .i64 s.st, .int .i64 s.lb, .int .i64 s.s0, .slice a s.es.length c] 24)
  have HG := Lib.hid hG; have HC := Lib.hid hC; have HT := Lib.hid hT; have HS := Lib.hid hS; have HB0 := Lib.hid hB0; have HBX := Lib.hid hbx
  clear hG hC hT hS hB0 hbx
  have ALV : RowKit.Hid (∀ w1 : World, Below w.heap.size w w1 → Calls Tryz.prog 16 #[] w1 fun e w' => e = .returned (.bool true) ∧ Below w.heap.size w w') := Lib.hid (by
    intro w1 h1
    refine (alive9_any (HG.out.below h1) (HC.out.below h1)).mono ?_
    rintro e w' ⟨rfl, hB⟩
    exact ⟨rfl, h1.trans (hB.mono h1.size)⟩)
  by_cases h1 : s.st > 300
  · go_enter Tryz.func4, Tryz.ntmps4
    go_wp2_with fail
    refine (ALV.out _ HB0.out).mono ?_
    rintro e w2 ⟨rfl, hB⟩
    go_wp2
    go_ret
    exact ⟨rfl, hB⟩
  by_cases h2 : (s.es.length : Int) > 3000
  · go_enter Tryz.func4, Tryz.ntmps4
    go_wp2_with fail
    refine (ALV.out _ HB0.out).mono ?_
    rintro e w2 ⟨rfl, hB⟩
    go_wp2
    go_ret
    exact ⟨rfl, hB⟩
  by_cases hr : ¬ s.Right
  · have HNO := Lib.hid (refineNo_any (c := c) hr (HG.out.below HB0.out) (HT.out.below HB0.out) (HS.out.below HB0.out (Nat.le_refl _)))
    clear hr
    go_enter Tryz.func4, Tryz.ntmps4
    go_wp2_with fail
    refine HNO.out.mono ?_
    unfold runZ
    rintro e w2 ⟨v, rfl, hf, hB⟩
    obtain ⟨v1, hf, _⟩ := hf
    obtain ⟨fb, rfl, _⟩ := hf.ex
    have hz : w.heap.size ≤ w2.heap.size := by have := hB.size; simp at this; omega
    have HB2 := Lib.hid ((HB0.out.trans (hB.mono (by simp))).alloc hz (.cells #[.slice none 0 0, .slice none 0 0, .slice none 0 0] 38))
    clear hB hf HNO
    go_wp2_with fail
    refine (ALV.out _ HB2.out).mono ?_
    rintro e w3 ⟨rfl, hB⟩
    go_wp2
    go_ret
    exact ⟨rfl, hB⟩
  have hr := Classical.not_not.1 hr
  have h0 := hr.st0
  obtain ⟨st, lb, s0, es⟩ := s
  simp only at h1 h2 h0 HBX HS HB0
  obtain ⟨n, rfl⟩ := Int.eq_ofNat_of_zero_le h0.1
  have hn3 : n ≤ 300 := by omega
  have HR := Lib.hid hr
  have HRF := Lib.hid (refineG_any (c := c) (n := n) HR.out rfl (HG.out.below HB0.out) (HS.out.below HB0.out (Nat.le_refl _)))
  clear h0 hr
  go_enter Tryz.func4, Tryz.ntmps4
  go_wp2_with fail
  refine HRF.out.mono ?_
  unfold GauPost
  rintro e w2 ⟨ga, ca, ta, ba, cn, cc, tn, tc, bb, bc, rfl, hga, hs, hB⟩
  have hz : w.heap.size < w2.heap.size := by have := hB.size; simp at this; omega
  obtain ⟨R, hR⟩ : ∃ R, R = Obj.cells #[.slice ca cn cc, .slice ta tn tc, .slice ba n bc] 38 := ⟨_, rfl⟩
  have hBA := (Below.refl w2.heap.size w2).alloc (Nat.le_refl _) R
  have HX : RowKit.Hid ((w2.alloc R).heap[w.heap.size]? = some (.cells #[.int .i64 n, .int .i64 lb, .int .i64 s0, .slice a es.length c] 24 (0, 0)) ∧ (w2.alloc R).heap[w2.heap.size]? = some (.cells #[.slice ca cn cc, .slice ta tn tc, .slice ba n bc] 38 (0, 0))) := Lib.hid
    ⟨(hBA.block _ hz).trans ((hB.block w.heap.size (by simp)).trans HBX.out), by rw [hR]; exact heap_alloc_new _ _⟩
  have HSG := Lib.hid (hs.below hBA (Nat.le_refl _)); have HGA := Lib.hid hga
  have HB2 := Lib.hid ((HB0.out.trans (hB.mono (by simp))).alloc (show w.heap.size ≤ w2.heap.size by omega) R)
  rw [hR] at HX HSG HB2
  clear hBA hs hga hB hR HRF hz
  go_upto_region 7 with fail
  obtain ⟨W, hW⟩ : ∃ W, W = w2.alloc (Obj.cells #[.slice ca cn cc, .slice ta tn tc, .slice ba n bc] 38) := ⟨_, rfl⟩
  obtain ⟨rb, hrb⟩ : ∃ rb, rb = w2.heap.size := ⟨_, rfl⟩
  rw [← hW, ← hrb] at HX
  rw [← hW] at HSG HB2 ⊢
  rw [← hrb]
  clear hW hrb
  have x0 : W.cell? ⟨w.heap.size, 0, none⟩ = some (.int .i64 n) := by simp [World.cell?, HX.out.1]
  have xl : w.heap.size < W.heap.size := (Array.getElem?_eq_some_iff.1 HX.out.1).1
  have r2 : W.cell? ⟨rb, 2, none⟩ = some (.slice ba n bc) := by simp [World.cell?, HX.out.2]
  have rl : rb < W.heap.size := (Array.getElem?_eq_some_iff.1 HX.out.2).1
  go_wp2_with fail
  go_loopw [5, 6] (fun v5 v6 wr => ∃ m k : Nat, v5 = .int .i64 m ∧ v6 = .int .i64 k ∧ wr = W ∧ LogI n m k) (fun _ v6 _ => (intOf v6).toNat)
  case atStart => exact ⟨1, n, rfl, rfl, rfl, LogI.start n⟩
  case round =>
    obtain ⟨m, k, rfl, rfl, rfl, hlog⟩ := hrel
    have HL := Lib.hid hlog
    clear hlog
    by_cases hk : 1 < k
    · have hml := HL.out.small (by omega)
      have hkI : (k : Int) > 1 := by omega
      have hkb : k ≤ n := by
        have h1 := HL.out.lo
        have h2 : 1 * k ≤ 2 ^ (m - 1) * k := Nat.mul_le_mul_right _ Nat.one_le_two_pow
        omega
      go_wp2_with fail
      go_roundw
      case rel => exact ⟨m + 1, k / 2, by go_num, by go_num, trivial, HL.out.step⟩
      case measure => simp [intOf]; omega
    · have hkI : ¬ ((k : Int) > 1) := by omega
      have HLG : RowKit.Hid (∀ p, p < n → 1 ≤ ga p ∧ ga p ≤ m) := Lib.hid (fun p hp => ⟨(HGA.out p hp).1, HL.out.done (by omega) (HGA.out p hp).2⟩)
      go_wp2_with fail
      go_loopw [7] (fun v7 wx => ∃ i : Nat, v7 = .int .i64 i ∧ i ≤ n ∧ wx = wr) (fun v7 _ => n - (intOf v7).toNat)
      case atStart => exact ⟨0, rfl, Nat.zero_le _, rfl⟩
      case round =>
        obtain ⟨i, rfl, hi, rfl⟩ := hrel
        by_cases hin : i < n
        · have hs := HSG.out
          have hln : 0 < (flN n ga).length := by rw [flN_len]; omega
          obtain rfl := hs.ad hln
          have d0 := hs.ci (flN_get ga hin)
          have dl := hs.lt hln
          simp only [Nat.zero_add] at d0
          obtain ⟨g1, g2⟩ := HLG.out i hin
          obtain ⟨g, hg⟩ : ∃ g, g = ga i := ⟨_, rfl⟩
          rw [← hg] at d0 g1 g2
          have q1 : ¬ ((g : Int) < 1) := by omega
          have q2 : ¬ ((g : Int) > (m : Int)) := by omega
          have hiI : (i : Int) < (n : Int) := by omega
          clear hs hln hg
          go_wp2_with fail
          go_roundw
          case rel => exact ⟨i + 1, by go_num, by omega, trivial⟩
          case measure => simp [intOf]; omega
        · obtain rfl : i = n := by omega
          go_wp2_with fail
          refine (ALV.out _ HB2.out).mono ?_
          rintro e w3 ⟨rfl, hB⟩
          go_wp2
          go_ret
          exact ⟨rfl, hB⟩
end Go.Proofs.YtfakdgljilmpkaaGreatDoor

/-
  law9.StrongRelates.
-/
import Derived.Test.YtfakdgljilmpkaaGreatDoorGStrQ
import Derived.Test.YtfakdgljilmpkaaGreatDoorMet9
import Derived.Test.YtfakdgljilmpkaaGreatDoorGLaidStr
import Derived.Test.YtfakdgljilmpkaaGreatDoorGEqual
namespace Go.Proofs.YtfakdgljilmpkaaGreatDoor
open Go.RowKit Pl

theorem canon9_wf {l : List Int} (h : l.length ≤ 1000000) : ∀ x ∈ canon l, (Lit.int .i64 x).wf = true := by
  intro x hx
  unfold canon at hx
  obtain ⟨y, hy, rfl⟩ := List.mem_map.1 hx
  have h1 := dist_len l
  have h2 : (dist l).idxOf y ≤ (dist l).length := List.idxOf_le_length
  exact WalkArith.wf_i64 (by omega)
/-- The classes told, as a function. -/
def cl9 (n : Nat) (inn : Nat → Nat) : Nat → Int := clf n (fun p => (inn p : Int))
theorem canon9 (n : Nat) (inn : Nat → Nat) : canon (flN n inn) = fl n (cl9 n inn) := by
  unfold flN cl9
  rw [canon_fl]
theorem cl9_big {s : Lts} {n : Nat} {inn : Nat → Nat} (h : Big s n (fun p => (inn p : Int))) : Big s n (cl9 n inn) := h.clf
theorem big_norm9 {s : Lts} {n : Nat} {C : Nat → Int} (h : Big s n C) : Big s.norm n C := h.steps (fun _ _ _ _ _ => (mem_nf stoE _ s.es).symm)

set_option maxRecDepth 100000 in
set_option maxHeartbeats 8000000 in
theorem strongRelates_any {w : World} {p0 pc : Addr} (hG : GErr 0 p0 w) (hC : GErr 2 pc w) (hT : ErrType w) {s : Lts} {a : Option Addr} {b off c : Nat} (hS : SlAt encE 3 w a b off s.es) :
    Calls Tryz.prog 9 #[.agg #[.int .i64 s.st, .int .i64 s.lb, .int .i64 s.s0, .slice a s.es.length c]] w fun e w' => e = .returned (.bool true) ∧ Below w.heap.size w w' := by
  have hB0 := (Below.refl w.heap.size w).alloc (Nat.le_refl _) (Obj.cells #[.int .i64 s.st, .int .i64 s.lb, .int .i64 s.s0, .slice a s.es.length c] 24)
  have hbx := heap_alloc_new w (Obj.cells #[.int .i64 s.st, .int .i64 s.lb, .int .i64 s.s0, .slice a s.es.length c] 24)
  have HG := Lib.hid hG; have HC := Lib.hid hC; have HT := Lib.hid hT; have HS := Lib.hid hS; have HB0 := Lib.hid hB0; have HBX := Lib.hid hbx
  have HSM := Lib.hid (small9_any s.s0 s.st s.lb a s.es.length c (w.alloc (Obj.cells #[.int .i64 s.st, .int .i64 s.lb, .int .i64 s.s0, .slice a s.es.length c] 24)))
  clear hG hC hT hS hB0 hbx
  have ALV : RowKit.Hid (∀ w1 : World, Below w.heap.size w w1 → Calls Tryz.prog 16 #[] w1 fun e w' => e = .returned (.bool true) ∧ Below w.heap.size w w' ∧ Below w1.heap.size w1 w') := Lib.hid (by
    intro w1 h1
    refine (alive9_any (HG.out.below h1) (HC.out.below h1)).mono ?_
    rintro e w' ⟨rfl, hB⟩
    exact ⟨rfl, h1.trans (hB.mono h1.size), hB⟩)
  go_enter Tryz.func9, Tryz.ntmps9
  go_wp2_with fail
  refine HSM.out.mono ?_
  rintro e w1 ⟨rfl, hB⟩
  obtain ⟨m, hm⟩ : ∃ m, m = (decide (s.st ≤ 80) && decide (s.es.length ≤ 600)) := ⟨_, rfl⟩
  rw [← hm]
  have hb1 := HB0.out.trans (hB.mono (by simp))
  have hx1 := (hB.block w.heap.size (by simp)).trans HBX.out
  have HB1 := Lib.hid hb1; have HM := Lib.hid hm
  obtain ⟨x0, x1, x2, x3, x4⟩ := sys9 hx1
  have HX1 := Lib.hid hx1
  clear hb1 hm hB hx1 HBX HB0 HSM
  cases m
  · go_wp2_with fail
    refine (ALV.out _ HB1.out).mono ?_
    rintro e w2 ⟨rfl, hB, _⟩
    go_wp2
    go_ret
    exact ⟨rfl, hB⟩
  by_cases hr : ¬ s.Right
  · have HNO := Lib.hid (strClassesNo_any (c := c) hr (HG.out.below HB1.out) (HT.out.below HB1.out) (HS.out.below HB1.out (Nat.le_refl _)))
    clear hr
    go_wp2_with fail
    refine HNO.out.mono ?_
    rintro e w2 ⟨v, rfl, hf, hB⟩
    have HF := Lib.hid hf
    obtain ⟨v1, hf, _⟩ := hf
    obtain ⟨fb, rfl, _⟩ := hf.ex
    have HB2 := Lib.hid (HB1.out.trans (hB.mono HB1.out.size))
    clear hB hf HNO
    go_wp2_with fail
    refine (ALV.out _ HB2.out).mono ?_
    rintro e w3 ⟨rfl, hB, hB3⟩
    have hg := (HG.out.below hB).cell
    have hgl := (HG.out.below hB).lt
    have HIS := Lib.hid (is_FaultS (HF.out.below hB3))
    have HB3 := Lib.hid hB
    clear hB hB3 HF
    go_wp2_with fail
    refine HIS.out.mono ?_
    rintro e w4 ⟨rfl, rfl⟩
    go_wp2
    go_ret
    exact ⟨rfl, HB3.out⟩
  have hr := Classical.not_not.1 hr
  have h0 := hr.st0
  have hm := HM.out
  simp only [Bool.true_eq, Bool.and_eq_true, decide_eq_true_eq] at hm
  obtain ⟨h80, h600⟩ := hm
  obtain ⟨st, lb, s0, es⟩ := s
  simp only at h80 h600 h0 x0 x1 x2 x3 HX1 HS
  obtain ⟨n, rfl⟩ := Int.eq_ofNat_of_zero_le h0.1
  have hn3 : n ≤ 80 := by omega
  have HR := Lib.hid hr
  have HCL := Lib.hid (strClasses_any (c := c) (n := n) HR.out rfl (HG.out.below HB1.out) (HS.out.below HB1.out (Nat.le_refl _)))
  clear h80 h0 hr HM
  go_wp2_with fail
  refine HCL.out.mono ?_
  unfold StrClasses
  rintro e w3 ⟨inn, ca, cc, hbig, rfl, hown, hB⟩
  have hb3 := HB1.out.trans (hB.mono HB1.out.size)
  have hx3 := (hB.block w.heap.size x4).trans HX1.out
  clear x0 x1 x2 x3 x4
  have hcl : (canon (flN n inn)).length = n := by rw [canon_len, flN_len]
  have hos : SlAt encI 1 w3 ca (blkOf ca) 0 (canon (flN n inn)) := ((Rws.nil (Below.refl w1.heap.size w1)).add hB hown).slO (i := 0) rfl lenI hcl.symm
  have hclb : clB (n : Int) (canon (flN n inn)) = true := by unfold clB; rw [canon_canon, hcl]; simp
  have hwf := canon9_wf (l := flN n inn) (by rw [flN_len]; omega)
  obtain ⟨cb, hcb⟩ : ∃ cb, cb = blkOf ca := ⟨_, rfl⟩
  rw [← hcb] at hos
  obtain ⟨L, hL⟩ : ∃ L, L = canon (flN n inn) := ⟨_, rfl⟩
  rw [← hL] at hos hcl hclb hwf
  have HLE := Lib.hid hL
  have HNW := Lib.hid (new_ok (c := c) HR.out (HG.out.below hb3) (HS.out.below hb3 (Nat.le_refl _)))
  have HB3 := Lib.hid hb3; have HX3 := Lib.hid hx3; have HCS := Lib.hid hos; have HBIG := Lib.hid hbig
  have HCLN := Lib.hid hcl; have HCLB := Lib.hid hclb; have HWF := Lib.hid hwf
  obtain ⟨x0, x1, x2, x3, x4⟩ := sys9 hx3
  clear hb3 hx3 hB hown hos hbig hcl hcb hL hclb hwf HCL HX1 HB1
  go_wp2_with fail
  refine HNW.out.mono ?_
  rintro e w4 ⟨gb, rfl, hgr, hB4, _⟩
  have hb4 := HB3.out.trans (hB4.mono HB3.out.size)
  have hx4 := (hB4.block w.heap.size x4).trans HX3.out
  have hc4 := HCS.out.below hB4 (Nat.le_refl _)
  have HGR := Lib.hid hgr; have HB4 := Lib.hid hb4; have HX4 := Lib.hid hx4; have HC4 := Lib.hid hc4
  have hcs := classes_any (c := cc) (n : Int) lb s0 (.slice a es.length c) hc4 (by rw [HCLN.out]; omega) HWF.out
  rw [HCLN.out, HCLB.out] at hcs
  have HSC := Lib.hid hcs
  clear x0 x1 x2 x3 x4
  obtain ⟨x0, x1, x2, x3, x4⟩ := sys9 hx4
  clear hgr hB4 hb4 hx4 hc4 hcs HNW HX3 HB3 HCS
  go_wp2_with fail
  refine HSC.out.mono ?_
  rintro e w5 ⟨rfl, hB5⟩
  have hb5 := HB4.out.trans (hB5.mono HB4.out.size)
  have hx5 := (hB5.block w.heap.size x4).trans HX4.out
  have HB5 := Lib.hid hb5; have HX5 := Lib.hid hx5; have HC5 := Lib.hid (HC4.out.below hB5 (Nat.le_refl _))
  have HGR5 := Lib.hid (HGR.out.below hB5)
  clear x0 x1 x2 x3 x4
  obtain ⟨x0, x1, x2, x3, x4⟩ := sys9 hx5
  clear hB5 hb5 hx5 HX4 HB4 HC4 HSC HGR
  have HMET : RowKit.Hid (∀ (W : World) (p q : Nat), Below w5.heap.size w5 W → p < n → q < n → Calls Tryz.prog 22 #[.pointer (some ⟨gb, 0, none⟩), .slice ca n cc, .int .i64 p, .int .i64 q] W fun e w' => (∃ r, e = .returned (.bool r) ∧ (r = true ↔ MetP (Lts.norm ⟨(n : Int), lb, s0, es⟩) n (cl9 n inn) p q)) ∧ Below W.heap.size W w') := Lib.hid (fun W p q hW hp hq => by
    refine (met9_any HGR5.out hW (show (Lts.norm ⟨(n : Int), lb, s0, es⟩).st = (n : Int) from rfl) HCLN.out (HC5.out.below hW (Nat.le_refl _)) (p : Int) (q : Int)).mono ?_
    rintro e w' ⟨rfl, hB⟩
    refine ⟨⟨_, rfl, ?_⟩, hB⟩
    rw [HLE.out, canon9]
    exact metB_iff HGR5.out.right rfl)
  have HBG : RowKit.Hid (Big (Lts.norm ⟨(n : Int), lb, s0, es⟩) n (cl9 n inn)) := Lib.hid (big_norm9 (cl9_big HBIG.out))
  have HAT : RowKit.Hid (∀ p, p < n → L[p]? = some (cl9 n inn p)) := Lib.hid (fun p hp => by rw [HLE.out, canon9]; exact fl_get _ hp)
  clear HLE HCLB HWF HBIG
  go_wp2_with fail
  clear x0 x1 x2 x3 x4
  go_loopw [7, 8] (fun v7 _ wr => ∃ p : Nat, v7 = .int .i64 p ∧ p ≤ n ∧ Below w5.heap.size w5 wr) (fun v7 _ _ => n - (intOf v7).toNat)
  case atStart => exact ⟨0, rfl, Nat.zero_le _, Below.refl _ _⟩
  case round =>
    obtain ⟨p, rfl, hp, hbe⟩ := hrel
    have HBE := Lib.hid hbe
    have hx := (hbe.block w.heap.size (Array.getElem?_eq_some_iff.1 HX5.out).1).trans HX5.out
    obtain ⟨y0, y1, y2, y3, yl⟩ := sys9 hx
    clear hbe hx y1 y2 y3
    by_cases hpn : p < n
    · have hpI : (p : Int) < (n : Int) := by omega
      go_wp2_with fail
      go_loopw [8] (fun v8 wr => ∃ q : Nat, v8 = .int .i64 q ∧ q ≤ n ∧ Below w5.heap.size w5 wr) (fun v8 _ => n - (intOf v8).toNat)
      case atStart => exact ⟨0, rfl, Nat.zero_le _, HBE.out⟩
      case round =>
        obtain ⟨q, rfl, hq, hbe⟩ := hrel
        have HBF := Lib.hid hbe
        have hx := (hbe.block w.heap.size (Array.getElem?_eq_some_iff.1 HX5.out).1).trans HX5.out
        have y0 : wr.cell? ⟨w.heap.size, 0, none⟩ = some (.int .i64 n) := (sys9 hx).1
        have yl := (sys9 hx).2.2.2.2
        clear hx HBE
        by_cases hqn : q < n
        · have hqI : (q : Int) < (n : Int) := by omega
          have hcs := HC5.out.below hbe (Nat.le_refl _)
          have hln : 0 < L.length := by rw [HCLN.out]; omega
          obtain rfl := hcs.ad hln
          obtain ⟨cp, hcp⟩ : ∃ cp, cp = cl9 n inn p := ⟨_, rfl⟩
          obtain ⟨cq, hcq⟩ : ∃ cq, cq = cl9 n inn q := ⟨_, rfl⟩
          have d0 := hcs.ci (HAT.out p hpn); have d1 := hcs.ci (HAT.out q hqn)
          have dl := hcs.lt hln
          rw [← hcp] at d0; rw [← hcq] at d1
          simp only [Nat.zero_add] at d0 d1
          have HCP := Lib.hid hcp; have HCQ := Lib.hid hcq
          clear hcs hln hcp hcq
          by_cases hc : cp = cq
          · have HMT : RowKit.Hid (∀ W, Below w5.heap.size w5 W → Calls Tryz.prog 22 #[.pointer (some ⟨gb, 0, none⟩), .slice (some ⟨cb, 0, none⟩) n cc, .int .i64 p, .int .i64 q] W fun e w' => e = .returned (.bool true) ∧ Below w5.heap.size w5 w') := Lib.hid (fun W hW => by
              refine (HMET.out W p q hW hpn hqn).mono ?_
              rintro e w' ⟨⟨r, rfl, hr⟩, hB⟩
              have : r = true := hr.2 (HBG.out.met hpn hqn (by rw [← HCP.out, ← HCQ.out, hc]))
              rw [this]
              exact ⟨rfl, hW.trans (hB.mono hW.size)⟩)
            have KEEP : RowKit.Hid (∀ W, Below w5.heap.size w5 W → W.cell? ⟨cb, p, none⟩ = some (.int .i64 cp) ∧ W.cell? ⟨cb, q, none⟩ = some (.int .i64 cq) ∧ cb < W.heap.size ∧ Below w5.heap.size w5 W) := Lib.hid (fun W h1 => by
              have hcs := HC5.out.below h1 (Nat.le_refl _)
              have e0 := hcs.ci (HAT.out p hpn); have e1 := hcs.ci (HAT.out q hqn)
              rw [← HCP.out] at e0; rw [← HCQ.out] at e1
              simp only [Nat.zero_add] at e0 e1
              exact ⟨e0, e1, hcs.lt (by rw [HCLN.out]; omega), h1⟩)
            have hdr : Below w5.heap.size w5 wr.drew := hbe.drew
            subst hc
            go_upto_region 15 with fail
            go_region_held3 (fun W => W.cell? ⟨cb, p, none⟩ = some (.int .i64 cp) ∧ W.cell? ⟨cb, q, none⟩ = some (.int .i64 cp) ∧ cb < W.heap.size ∧ Below w5.heap.size w5 W)
              (exact KEEP.out _ (by assumption))
              ((go_at_call 22; go_split_ands; refine (HMT.out _ (by assumption)).mono ?_; rintro e w' ⟨rfl, hB⟩))
            all_goals go_split_ands
            all_goals go_wp2_with fail
            all_goals go_roundw
            all_goals first | (exact ⟨q + 1, by go_num, by omega, by assumption⟩) | (simp [intOf]; omega)
          · have hcd : decide (cp = cq) = false := by simpa using hc
            have hcd2 : (cp == cq) = false := by simpa using hc
            go_upto_region 15 with fail
            go_quiet (fail)
            go_wp2_with fail
            go_roundw
            case rel => exact ⟨q + 1, by go_num, by omega, bdrew HBF.out⟩
            case measure => simp [intOf]; omega
        · obtain rfl : q = n := by omega
          clear hbe
          go_wp2_with fail
          go_roundw
          case rel => exact ⟨p + 1, by go_num, by omega, HBF.out⟩
          case measure => simp [intOf]; omega
    · have hpe : n = p := by omega
      subst hpe
      go_wp2_with fail
      refine (ALV.out _ (HB5.out.trans (HBE.out.mono HB5.out.size))).mono ?_
      rintro e w6 ⟨rfl, hB, _⟩
      go_wp2
      go_ret
      exact ⟨rfl, hB⟩
end Go.Proofs.YtfakdgljilmpkaaGreatDoor

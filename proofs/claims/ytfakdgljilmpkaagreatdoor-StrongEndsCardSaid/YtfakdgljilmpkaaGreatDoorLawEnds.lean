/-
  law9.StrongEnds.
-/
import Derived.Test.YtfakdgljilmpkaaGreatDoorGStrQ
import Derived.Test.YtfakdgljilmpkaaGreatDoorErrIs3
import Derived.Test.YtfakdgljilmpkaaGreatDoorCodeC
import Derived.Test.YtfakdgljilmpkaaGreatDoorGEqual
namespace Go.Proofs.YtfakdgljilmpkaaGreatDoor
open Go.RowKit Pl

theorem bigN9 {s : Lts} {n : Nat} {C : Nat → Int} (h : Big s n C) : Big s.norm n C := h.steps (fun _ _ _ _ _ => (mem_nf stoE _ s.es).symm)

set_option maxRecDepth 100000 in
set_option maxHeartbeats 8000000 in
theorem strongEnds_any {w : World} {p0 pc : Addr} (hG : GErr 0 p0 w) (hE : ErrsC pc w) (hT : ErrType w) {s : Lts} {a : Option Addr} {b off c : Nat} (hS : SlAt encE 3 w a b off s.es)
    {T : List (List Int)} (hTl : T.length ≤ 9223372036854775807) {ta : Option Addr} {tb tf tc : Nat} {vs : List Value} (hI : IRows w ta tb tf vs T) :
    Calls Tryz.prog 12 #[.agg #[.int .i64 s.st, .int .i64 s.lb, .int .i64 s.s0, .slice a s.es.length c], .slice ta T.length tc] w fun e w' => e = .returned (.bool true) ∧ Below w.heap.size w w' := by
  have hB0 := (Below.refl w.heap.size w).alloc (Nat.le_refl _) (Obj.cells #[.int .i64 s.st, .int .i64 s.lb, .int .i64 s.s0, .slice a s.es.length c] 24)
  have hbx := heap_alloc_new w (Obj.cells #[.int .i64 s.st, .int .i64 s.lb, .int .i64 s.s0, .slice a s.es.length c] 24)
  have HG := Lib.hid hG; have HE := Lib.hid hE; have HC := Lib.hid hE.sys; have HT := Lib.hid hT; have HS := Lib.hid hS; have HI := Lib.hid hI; have HB0 := Lib.hid hB0; have HBX := Lib.hid hbx
  have HSM := Lib.hid (small9_any s.s0 s.st s.lb a s.es.length c (w.alloc (Obj.cells #[.int .i64 s.st, .int .i64 s.lb, .int .i64 s.s0, .slice a s.es.length c] 24)))
  have HTL := Lib.hid hTl
  obtain ⟨m, hm⟩ : ∃ m, m = T.length := ⟨_, rfl⟩
  rw [← hm] at hTl ⊢
  have HMT := Lib.hid hm
  clear hG hE hT hS hI hB0 hbx hm
  have ALV : RowKit.Hid (∀ w1 : World, Below w.heap.size w w1 → Calls Tryz.prog 16 #[] w1 fun e w' => e = .returned (.bool true) ∧ Below w.heap.size w w' ∧ Below w1.heap.size w1 w') := Lib.hid (by
    intro w1 h1
    refine (alive9_any (HG.out.below h1) (HC.out.below h1)).mono ?_
    rintro e w' ⟨rfl, hB⟩
    exact ⟨rfl, h1.trans (hB.mono h1.size), hB⟩)
  go_enter Tryz.func12, Tryz.ntmps12
  go_wp2_with fail
  refine HSM.out.mono ?_
  rintro e w1 ⟨rfl, hB⟩
  obtain ⟨q, hq⟩ : ∃ q, q = (decide (s.st ≤ 80) && decide (s.es.length ≤ 600)) := ⟨_, rfl⟩
  rw [← hq]
  have hb1 := HB0.out.trans (hB.mono (by simp))
  have hx1 := (hB.block w.heap.size (by simp)).trans HBX.out
  have HB1 := Lib.hid hb1; have HM := Lib.hid hq
  obtain ⟨x0, x1, x2, x3, x4⟩ := sys9 hx1
  have HX1 := Lib.hid hx1
  clear hb1 hq hB hx1 HBX HB0 HSM
  cases q
  · go_wp2_with fail
    refine (ALV.out _ HB1.out).mono ?_
    rintro e w2 ⟨rfl, hB, _⟩
    go_wp2
    go_ret
    exact ⟨rfl, hB⟩
  by_cases h200 : 200 < m
  · have k1 : decide ((m : Int) > 200) = true := by simp; omega
    go_wp2_with fail
    refine (ALV.out _ HB1.out).mono ?_
    rintro e w2 ⟨rfl, hB, _⟩
    go_wp2
    go_ret
    exact ⟨rfl, hB⟩
  have k1 : decide ((m : Int) > 200) = false := by simp; omega
  by_cases hr : ¬ s.Right
  · have HNO := Lib.hid (replayNo_any (ta := ta) (m := m) (tc := tc) (c := c) hr (HG.out.below HB1.out) (HT.out.below HB1.out) (HS.out.below HB1.out (Nat.le_refl _)))
    clear hr
    go_wp2_with fail
    refine HNO.out.mono ?_
    rintro e w2 ⟨v, rfl, hf, hB⟩
    have HF := Lib.hid hf
    obtain ⟨v1, hf, _⟩ := hf
    obtain ⟨fb, rfl, _⟩ := hf.ex
    have HB2 := Lib.hid (HB1.out.trans (hB.mono HB1.out.size))
    clear hB hf HNO
    go_wp2_with fail
    refine (ALV.out _ HB2.out).mono ?_
    rintro e w3 ⟨rfl, hB, hB3⟩
    have hg := (HG.out.below hB).cell
    have hgl := (HG.out.below hB).lt
    have HIS := Lib.hid (is_FaultS (HF.out.below hB3))
    have HB3 := Lib.hid hB
    clear hB hB3 HF
    go_wp2_with fail
    refine HIS.out.mono ?_
    rintro e w4 ⟨rfl, rfl⟩
    go_wp2
    go_ret
    exact ⟨rfl, HB3.out⟩
  have hr := Classical.not_not.1 hr
  have h0 := hr.st0
  obtain ⟨st, lb, s0, es⟩ := s
  simp only at h0 x0 x1 x2 x3 HX1 HS
  obtain ⟨n, rfl⟩ := Int.eq_ofNat_of_zero_le h0.1
  have hn1 : n ≤ 1000 := by omega
  have HR := Lib.hid hr
  have hrp := replay_any (c := c) (tc := tc) (n := n) HR.out rfl (HG.out.below HB1.out) (HC.out.below HB1.out) (HS.out.below HB1.out (Nat.le_refl _)) HTL.out (HI.out.below HB1.out)
  rw [← HMT.out] at hrp
  have HRP := Lib.hid hrp
  clear h0 hr hrp HM
  go_wp2_with fail
  refine HRP.out.mono ?_
  unfold RepPost
  rintro e w3 ⟨hor, hB⟩
  have hb3 := HB1.out.trans (hB.mono HB1.out.size)
  have hx3 := (hB.block w.heap.size x4).trans HX1.out
  have HB3 := Lib.hid hb3; have HX3 := Lib.hid hx3
  clear x0 x1 x2 x3 x4
  obtain ⟨x0, x1, x2, x3, x4⟩ := sys9 hx3
  rcases hor with ⟨inn, ca, cc, hbig, rfl, hown⟩ | ⟨v, rfl, hf, _⟩
  · have hcl : (canon (flN n inn)).length = n := by rw [canon_len, flN_len]
    have hos : SlAt encI 1 w3 ca (blkOf ca) 0 (canon (flN n inn)) := ((Rws.nil (Below.refl w1.heap.size w1)).add hB hown).slO (i := 0) rfl lenI hcl.symm
    obtain ⟨cb, hcb⟩ : ∃ cb, cb = blkOf ca := ⟨_, rfl⟩
    rw [← hcb] at hos
    have HCS := Lib.hid hos; have HBIG := Lib.hid hbig
    have HCL := Lib.hid (strClasses_any (c := c) (n := n) HR.out rfl (HG.out.below hb3) (HS.out.below hb3 (Nat.le_refl _)))
    clear hb3 hx3 hB hown hos hbig hcl hcb HRP HX1 HB1
    go_wp2_with fail
    refine HCL.out.mono ?_
    unfold StrClasses
    rintro e w5 ⟨inm, da, dc, hbig, rfl, hown, hB⟩
    have hcl : (canon (flN n inm)).length = n := by rw [canon_len, flN_len]
    have hos : SlAt encI 1 w5 da (blkOf da) 0 (canon (flN n inm)) := ((Rws.nil (Below.refl w3.heap.size w3)).add hB hown).slO (i := 0) rfl lenI hcl.symm
    have HEQ : RowKit.Hid (canon (flN n inn) = canon (flN n inm)) := Lib.hid (HBIG.out.uniq (bigN9 hbig))
    have HD5 := Lib.hid hos; have HC5 := Lib.hid (HCS.out.below hB (Nat.le_refl _)); have HB6 := Lib.hid (HB3.out.trans (hB.mono HB3.out.size))
    clear hbig hown hB hcl hos HCL x0 x1 x2 x3 x4
    go_wp2_with fail
    refine (ALV.out _ HB6.out).mono ?_
    rintro e w6 ⟨rfl, hB7, hB8⟩
    have hsi := sameInts_any (c1 := cc) (c2 := dc) (HC5.out.below hB8 (Nat.le_refl _)) (HD5.out.below hB8 (Nat.le_refl _)) (by rw [canon_len, flN_len]; omega) (by rw [canon_len, flN_len]; omega)
    rw [canon_len, canon_len, flN_len, flN_len, show decide (canon (flN n inn) = canon (flN n inm)) = true by simp [HEQ.out]] at hsi
    have HSI := Lib.hid hsi; have HB7 := Lib.hid hB7
    clear hsi hB7 hB8
    go_wp2_with fail
    refine HSI.out.mono ?_
    rintro e w7 ⟨rfl, u, rfl⟩
    go_wp2
    go_ret
    exact ⟨rfl, bdrew HB7.out⟩
  · have HF := Lib.hid hf
    have hf2 : FaultAt w3 v strName (.iface 275 (.pointer (some pc))) := hf
    obtain ⟨fb, rfl, _⟩ := hf2.ex
    clear hb3 hx3 hB hf hf2 HRP HX1 HB1
    go_wp2_with fail
    refine (ALV.out _ HB3.out).mono ?_
    rintro e w4 ⟨rfl, hB, hB4⟩
    have hE4 := HE.out.below hB
    have hF4 : FaultAt w4 (.iface 160 (.pointer (some ⟨fb, 0, none⟩))) strName (.iface 275 (.pointer (some pc))) := FaultAt.below HF.out hB4
    obtain ⟨fb2, hv, hfb⟩ := hF4.ex
    simp only [Value.iface.injEq, Value.pointer.injEq, Option.some.injEq, Addr.mk.injEq, and_true, true_and] at hv
    subst hv
    obtain ⟨qs, cs, hIS⟩ := is_atC hE4.eSystem hE4.blk (by simp [World.cell?, hfb] : w4.cell? ⟨fb, 3, none⟩ = some (.iface 275 (.pointer (some pc))))
    have HIS := Lib.hid hIS
    have HCO := Lib.hid (codeC_at hE4 hF4)
    have hgl := (HG.out.below hB).lt
    have HB4 := Lib.hid hB
    clear hE4 hF4 hfb hB hB4 hIS
    go_wp2_with fail
    refine HIS.out.mono ?_
    rintro e w5 ⟨rfl, rfl⟩
    go_wp2_with fail
    refine HCO.out.mono ?_
    rintro e w5 ⟨rfl, rfl⟩
    go_wp2
    go_ret
    exact ⟨rfl, HB4.out⟩
end Go.Proofs.YtfakdgljilmpkaaGreatDoor

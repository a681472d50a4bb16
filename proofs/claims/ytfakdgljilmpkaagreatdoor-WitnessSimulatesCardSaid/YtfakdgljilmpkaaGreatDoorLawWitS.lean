/-
  law19.WitnessSimulates.
-/
import Derived.Test.YtfakdgljilmpkaaGreatDoorWitK
import Derived.Test.YtfakdgljilmpkaaGreatDoorG35
import Derived.Test.YtfakdgljilmpkaaGreatDoorG42
import Derived.Test.YtfakdgljilmpkaaGreatDoorG16
namespace Go.Proofs.YtfakdgljilmpkaaGreatDoor
open Go.RowKit Pl

theorem sysV {w : World} {B : Nat} {x y z : Int} {v : Value} (h : w.heap[B]? = some (.cells #[.int .i64 x, .int .i64 y, .int .i64 z, v] 24 (0, 0))) :
    w.cell? ⟨B, 0, none⟩ = some (.int .i64 x) ∧ w.cell? ⟨B, 1, none⟩ = some (.int .i64 y) ∧ w.cell? ⟨B, 2, none⟩ = some (.int .i64 z) ∧ w.cell? ⟨B, 3, none⟩ = some v ∧ B < w.heap.size := by
  refine ⟨?_, ?_, ?_, ?_, (Array.getElem?_eq_some_iff.1 h).1⟩ <;> simp [World.cell?, h]
theorem rowPr : IsRow Tryz.prog 71 72 2 16 (.agg #[.int .i64 0, .int .i64 0]) := isRow_of Tryz.underlying71 (by kernel_rfl) rfl (by decide)

/-- The rows of the law: the pairs that simulate, the pairs that are together. -/
def RPr (a : Option Addr) (m c : Nat) (Z : List (Int × Int)) : Rw := ⟨72, 2, .slice a m c, m, Z.flatMap encPr⟩
section
variable {w0 w w1 w2 : World} {L : List Rw} {a : Option Addr} {m c : Nat} {Z : List (Int × Int)}
theorem prGrow (h : Rws w0 w L) (hB2 : Below w.heap.size w w2) {i : Nat} (hi : L[i]? = some (RPr a m c Z)) {x : Int × Int} {g c' : Nat} (ho : w1.ownsRow w0.heap.size 72 2 (.slice (some ⟨g, 0, none⟩) (m + 1) c') (m + 1) (Z.flatMap encPr ++ [.int .i64 x.1, .int .i64 x.2]))
    (hg : w2.grownBy w1 (Value.slice a m c).ownBlock) (hh : (Value.slice a m c).ownBlock = some g ∨ w.heap.size ≤ g) : Rws w0 w1 (L.set i (RPr (some ⟨g, 0, none⟩) (m + 1) c' (Z ++ [x]))) := by
  have hs := h.grown hB2 i hi ho hg (fun g' hg' => by simp only [Value.ownBlock, Option.some.injEq] at hg'; subst hg'; exact hh)
  have e : (Z ++ [x]).flatMap encPr = Z.flatMap encPr ++ [.int .i64 x.1, .int .i64 x.2] := by rw [List.flatMap_append]; rfl
  unfold RPr
  rw [e]
  exact hs
theorem upL_len (R : Nat → Nat → Bool) (p : Nat) : (upL R p).length ≤ 320 := by
  unfold upL; rw [intsOf_len]; exact idsN_le _ _
end

set_option maxRecDepth 100000 in
set_option maxHeartbeats 8000000 in
theorem witnessSimulates_any {w : World} {p0 : Addr} (hG : GErr 0 p0 w) (hT : ErrType w) (hTb : Tab w) {s : Lts} {a : Option Addr} {b off c : Nat} (hS : SlAt encE 3 w a b off s.es) :
    Calls Tryz.prog 13 #[.agg #[.int .i64 s.st, .int .i64 s.lb, .int .i64 s.s0, .slice a s.es.length c]] w fun e w' => e = .returned (.bool true) ∧ Below w.heap.size w w' := by
  have hB0 := (Below.refl w.heap.size w).alloc (Nat.le_refl _) (Obj.cells #[.int .i64 s.st, .int .i64 s.lb, .int .i64 s.s0, .slice a s.es.length c] 24)
  have hbx := heap_alloc_new w (Obj.cells #[.int .i64 s.st, .int .i64 s.lb, .int .i64 s.s0, .slice a s.es.length c] 24)
  have HG := Lib.hid hG; have HT := Lib.hid hT; have HTB := Lib.hid hTb; have HS := Lib.hid hS; have HB0 := Lib.hid hB0; have HBX := Lib.hid hbx
  have HSM := Lib.hid (smallW_any s.s0 s.st s.lb a s.es.length c (w.alloc (Obj.cells #[.int .i64 s.st, .int .i64 s.lb, .int .i64 s.s0, .slice a s.es.length c] 24)))
  clear hG hT hTb hS hB0 hbx
  have ALV : RowKit.Hid (∀ w1 : World, Below w.heap.size w w1 → Calls Tryz.prog 30 #[] w1 fun e w' => e = .returned (.bool true) ∧ Below w.heap.size w w') := Lib.hid (by
    intro w1 h1
    refine (alive19_any (HG.out.below h1)).mono ?_
    rintro e w' ⟨rfl, hB⟩
    exact ⟨rfl, h1.trans (hB.mono h1.size)⟩)
  go_enter Tryz.func13, Tryz.ntmps13
  go_wp2_with fail
  refine HSM.out.mono ?_
  rintro e w1 ⟨rfl, hB⟩
  obtain ⟨m, hm⟩ : ∃ m, m = (decide (s.st ≤ 25) && decide (s.es.length ≤ 150)) := ⟨_, rfl⟩
  rw [← hm]
  have hb1 := HB0.out.trans (hB.mono (by simp))
  have hx1 := (hB.block w.heap.size (by simp)).trans HBX.out
  have HB1 := Lib.hid hb1; have HM := Lib.hid hm
  obtain ⟨x0, x1, x2, x3, x4⟩ := sysV hx1
  have HX1 := Lib.hid hx1
  clear hb1 hm hB hx1 HBX HB0 HSM
  cases m
  · go_wp2_with fail
    refine (ALV.out _ HB1.out).mono ?_
    rintro e w2 ⟨rfl, hB⟩
    go_wp2
    go_ret
    exact ⟨rfl, hB⟩
  by_cases hr : ¬ s.Right
  · have HNO := Lib.hid (aboveLNo_any (c := c) hr (HG.out.below HB1.out) (HT.out.below HB1.out) (HS.out.below HB1.out (Nat.le_refl _)))
    have HR := Lib.hid hr
    clear hr
    go_wp2_with fail
    refine HNO.out.mono ?_
    rintro e w2 ⟨fb, rfl, hB⟩
    have hb2 := HB1.out.trans (hB.mono HB1.out.size)
    have hx2 := (hB.block w.heap.size x4).trans HX1.out
    have HN2 := Lib.hid (strClassesNo_any (c := c) HR.out (HG.out.below hb2) (HT.out.below hb2) (HS.out.below hb2 (Nat.le_refl _)))
    have HB2 := Lib.hid hb2
    clear x0 x1 x2 x3 x4
    obtain ⟨x0, x1, x2, x3, x4⟩ := sysV hx2
    clear hb2 hx2 hB HNO
    go_wp2_with fail
    refine HN2.out.mono ?_
    rintro e w3 ⟨v, rfl, hf, hB⟩
    obtain ⟨v1, hf, _⟩ := hf
    obtain ⟨fc, rfl, _⟩ := hf.ex
    have HB3 := Lib.hid (HB2.out.trans (hB.mono HB2.out.size))
    clear hB hf HN2
    go_wp2_with fail
    refine (ALV.out _ HB3.out).mono ?_
    rintro e w4 ⟨rfl, hB⟩
    go_wp2
    go_ret
    exact ⟨rfl, hB⟩
  have hr := Classical.not_not.1 hr
  have h0 := hr.st0
  have hm := HM.out
  simp only [Bool.true_eq, Bool.and_eq_true, decide_eq_true_eq] at hm
  obtain ⟨h25, h150⟩ := hm
  obtain ⟨st, lb, s0, es⟩ := s
  simp only at h25 h150 h0 x0 x1 x2 x3 HX1 HS
  obtain ⟨n, rfl⟩ := Int.eq_ofNat_of_zero_le h0.1
  have hn3 : n ≤ 25 := by omega
  have HR := Lib.hid hr
  have HAB := Lib.hid (aboveL_any (c := c) HR.out (by omega) (HG.out.below HB1.out) (HTB.out.below HB1.out) (HS.out.below HB1.out (Nat.le_refl _)))
  clear h25 h0 hr HM
  go_wp2_with fail
  refine HAB.out.mono ?_
  unfold UpPost
  rintro e w2 ⟨R, v, vs, rfl, hgt, hvl, hown, hrows, hB⟩
  obtain ⟨va, vc, vb, rfl, _, _, hvs, _⟩ := slAt_own lenV hown
  have hb2 := HB1.out.trans (hB.mono HB1.out.size)
  have hx2 := (hB.block w.heap.size x4).trans HX1.out
  have HVS : RowKit.Hid (SlAt encV 1 w2 va vb 0 vs ∧ ∀ j, j < n → ∃ (ua : Option Addr) (uc ub : Nat), vs[j]? = some (.slice ua (upL R j).length uc) ∧ SlAt encI 1 w2 ua ub 0 (upL R j)) := Lib.hid ⟨hvs, fun j hj => by
    obtain ⟨x, hx⟩ := getElem?_of_lt (xs := vs) (i := j) (by rw [hvl]; exact hj)
    obtain ⟨ua, uc, ub, rfl, _, _, h2, _⟩ := slAt_own lenI (hrows j x hx)
    exact ⟨ua, uc, ub, hx, h2⟩⟩
  have HVL := Lib.hid hvl
  rw [hvl]
  have HCL := Lib.hid (strClasses_any (c := c) (n := n) HR.out rfl (HG.out.below hb2) (HS.out.below hb2 (Nat.le_refl _)))
  have HB2 := Lib.hid hb2; have HGT := Lib.hid hgt
  clear x0 x1 x2 x3 x4
  obtain ⟨x0, x1, x2, x3, x4⟩ := sysV hx2
  have HX2 := Lib.hid hx2
  clear hb2 hgt hvl hown hrows hvs hB hx2 HAB HX1 HB1
  go_wp2_with fail
  refine HCL.out.mono ?_
  unfold StrClasses
  rintro e w3 ⟨inn, ca, cc, hbig, rfl, hown, hB⟩
  have hb3 := HB2.out.trans (hB.mono HB2.out.size)
  have hx3 := (hB.block w.heap.size x4).trans HX2.out
  clear x0 x1 x2 x3 x4
  have hcl : (canon (flN n inn)).length = n := by rw [canon_len, flN_len]
  have hos : SlAt encI 1 w3 ca (blkOf ca) 0 (canon (flN n inn)) := ((Rws.nil (Below.refl w2.heap.size w2)).add hB hown).slO (i := 0) rfl lenI hcl.symm
  obtain ⟨cb, hcb⟩ : ∃ cb, cb = blkOf ca := ⟨_, rfl⟩
  rw [← hcb] at hos
  clear hcb
  have HV3 : RowKit.Hid (SlAt encV 1 w3 va vb 0 vs ∧ ∀ j, j < n → ∃ (ua : Option Addr) (uc ub : Nat), vs[j]? = some (.slice ua (upL R j).length uc) ∧ SlAt encI 1 w3 ua ub 0 (upL R j)) := Lib.hid ⟨HVS.out.1.below hB (Nat.le_refl _), fun j hj => by
    obtain ⟨ua, uc, ub, h1, h2⟩ := HVS.out.2 j hj
    exact ⟨ua, uc, ub, h1, h2.below hB (Nat.le_refl _)⟩⟩
  have HB3 := Lib.hid hb3; have HX3 := Lib.hid hx3; have HCS := Lib.hid hos; have HBIG := Lib.hid hbig
  have HCLN := Lib.hid hcl
  obtain ⟨x0, x1, x2, x3, x4⟩ := sysV hx3
  clear hb3 hx3 hB hown hos hbig hcl HCL HX2 HB2 HVS
  have HINIT : RowKit.Hid (Rws w3 w3 [RPr none 0 0 (prs (upL R) 0), RPr none 0 0 (prs (fun p => sameL (fun p => (inn p : Int)) p n) 0)]) := Lib.hid (((Rws.nil (Below.refl _ _)).addNil 72 2).addNil 72 2)
  obtain ⟨f, hf⟩ : ∃ f : Nat → List Int, f = (fun p => sameL (fun p => (inn p : Int)) p n) := ⟨_, rfl⟩
  rw [← hf] at HINIT
  have HF := Lib.hid hf
  have HFL : RowKit.Hid (∀ p, (f p).length ≤ n) := Lib.hid (fun p => by rw [hf]; exact sameL_len _ _ _)
  clear hf
  go_wp2_with fail
  clear x0 x1 x2 x3 x4
  go_loopw [7, 8, 9, 11, 12] (fun v7 v8 v9 _ _ wr => ∃ (p : Nat) (a1 a2 : Option Addr) (m1 m2 c1 c2 : Nat), v9 = .int .i64 p ∧ p ≤ n ∧ v7 = .slice a1 m1 c1 ∧ v8 = .slice a2 m2 c2 ∧ m1 = (prs (upL R) p).length ∧ m2 = (prs f p).length ∧ Rws w3 wr [RPr a1 m1 c1 (prs (upL R) p), RPr a2 m2 c2 (prs f p)])
    (fun _ _ v9 _ _ _ => n - (intOf v9).toNat)
  case atStart => exact ⟨0, none, none, 0, 0, 0, 0, rfl, Nat.zero_le _, rfl, rfl, rfl, rfl, HINIT.out⟩
  case round =>
    obtain ⟨p, a1, a2, m1, m2, c1, c2, rfl, hp, rfl, rfl, hm1, hm2, hrw⟩ := hrel
    have hl1 := prs_len (f := upL R) (m := 320) (upL_len R) p
    have hl2 := prs_len (f := f) (m := n) HFL.out p
    have hnn : p * n ≤ 25 * 25 := Nat.mul_le_mul (by omega) hn3
    have HRW := Lib.hid hrw; have HM1 := Lib.hid hm1; have HM2 := Lib.hid hm2
    rw [← hm1] at hl1; rw [← hm2] at hl2
    have hx := (hrw.bel.block w.heap.size (Array.getElem?_eq_some_iff.1 HX3.out).1).trans HX3.out
    obtain ⟨y0, y1, y2, y3, yl⟩ := sysV hx
    have hw3 := hrw.bel.size
    clear hrw hm1 hm2 hx HINIT
    by_cases hpn : p < n
    · have hpI : (p : Int) < (n : Int) := by omega
      obtain ⟨ua, uc, ub, hv, hus⟩ := HV3.out.2 p hpn
      have hvs := HV3.out.1.below HRW.out.bel (Nat.le_refl _)
      have hvl : 0 < vs.length := by rw [HVL.out]; omega
      obtain rfl := hvs.ad hvl
      have d0 := hvs.cv hv
      have dl := hvs.lt hvl
      simp only [Nat.zero_add] at d0
      have HUS := Lib.hid hus
      obtain ⟨ul, hul⟩ : ∃ ul, ul = (upL R p).length := ⟨_, rfl⟩
      have hull : ul ≤ 320 := by rw [hul]; exact upL_len R p
      rw [← hul] at d0
      have HUL := Lib.hid hul
      have HI1 : RowKit.Hid (Rws w3 wr [RPr a1 m1 c1 (prs (upL R) p ++ ((upL R p).take 0).map (fun q => ((p : Int), q))), RPr a2 m2 c2 (prs f p)]) := Lib.hid (by simpa using HRW.out)
      clear hv hus hvs hul y1 y2 y3
      go_wp2_with fail
      clear d0 dl
      go_loopw [7, 11, 71] (fun v7 _ v71 wx => ∃ (k : Nat) (a1 : Option Addr) (m c1 : Nat), v71 = .int .i64 k ∧ k ≤ ul ∧ v7 = .slice a1 m c1 ∧ m = m1 + k ∧ Rws w3 wx [RPr a1 m c1 (prs (upL R) p ++ ((upL R p).take k).map (fun q => ((p : Int), q))), RPr a2 m2 c2 (prs f p)])
        (fun _ _ v71 _ => ul - (intOf v71).toNat)
      case atStart => exact ⟨0, a1, m1, c1, rfl, Nat.zero_le _, rfl, rfl, HI1.out⟩
      case round =>
        obtain ⟨k, a1, mk, c1, rfl, hk, rfl, hmk, hrw⟩ := hrel
        have HRX := Lib.hid hrw
        have hwx := hrw.bel.size
        clear HI1 y0 yl
        by_cases hku : k < ul
        · obtain ⟨q, hq⟩ := getElem?_of_lt (xs := upL R p) (i := k) (by rw [← HUL.out]; exact hku)
          have hus := HUS.out.below hrw.bel (Nat.le_refl _)
          obtain rfl := hus.ad (by rw [← HUL.out]; omega)
          have e0 := hus.ci hq
          have el := hus.lt (by rw [← HUL.out]; omega)
          simp only [Nat.zero_add] at e0
          have hkI : (k : Int) < (ul : Int) := by omega
          have HQ := Lib.hid hq
          have hmb : mk ≤ 9000 := by omega
          have HMK := Lib.hid hmk
          have hown := (hrw.alloc (.cells #[.int .i64 (p : Int), .int .i64 q] 72)).get (i := 0) rfl
          have HOWN : RowKit.Hid ((wr.alloc (.cells #[.int .i64 (p : Int), .int .i64 q] 72)).ownsRow w3.heap.size 72 2 (.slice a1 mk c1) mk ((prs (upL R) p ++ ((upL R p).take k).map (fun q => ((p : Int), q))).flatMap encPr)) := Lib.hid hown
          have HBX := Lib.hid ((Below.refl wr.heap.size wr).alloc (Nat.le_refl _) (.cells #[.int .i64 (p : Int), .int .i64 q] 72))
          clear hrw hus hq hown hmk
          go_wp2_with (at_builtin; go_must (refine wpList_lie rfl _ _ _ rfl rowPr (base := w3.heap.size) (by simp; omega) rfl HOWN.out ⟨wr.heap.size, 0, none⟩ 1 1 [.int .i64 (p : Int), .int .i64 q] rfl rfl (cells2 (by simp [go_sem]) (by simp [go_sem])) (by simp [Value.oneCell']) (by decide) (by omega) (by unfold maxLen; omega) wr.heap.size (by simp) ?_); intro g cap w7 hown7 hg7 hl7 hlt7)
          have HGR : RowKit.Hid (Rws w3 w7 [RPr (some ⟨g, 0, none⟩) (mk + 1) cap (prs (upL R) p ++ ((upL R p).take (k + 1)).map (fun q => ((p : Int), q))), RPr a2 m2 c2 (prs f p)]) := Lib.hid (by
            have h := prGrow (x := ((p : Int), q)) HRX.out HBX.out (i := 0) rfl hown7 hg7 hl7
            rw [take_snoc HQ.out, List.map_append, ← List.append_assoc]
            exact h)
          clear hown7 hg7 hl7 HOWN HBX HRX
          go_roundw
          case rel => exact ⟨k + 1, some ⟨g, 0, none⟩, mk + 1, cap, by go_num, by omega, rfl, by have := HMK.out; omega, HGR.out⟩
          case measure => simp [intOf]; omega
        · obtain rfl : k = ul := by omega
          have hrx := HRX.out
          rw [HUL.out, List.take_length, ← prs_succ] at hrx
          have HRY := Lib.hid hrx
          clear hrx HRX hrw
          go_wp2_with fail
          have HI2 : RowKit.Hid (Rws w3 wr [RPr a1 mk c1 (prs (upL R) (p + 1)), RPr a2 m2 c2 (prs f p ++ (sameL (fun p => (inn p : Int)) p 0).map (fun q => ((p : Int), q)))]) := Lib.hid (by simpa [sameL] using HRY.out)
          have HMK := Lib.hid hmk
          have hmkb : mk ≤ 9000 := by omega
          clear HRY hmk
          go_loopw [8, 12] (fun v8 v12 wx => ∃ (q : Nat) (a2 : Option Addr) (m c2 : Nat), v12 = .int .i64 q ∧ q ≤ n ∧ v8 = .slice a2 m c2 ∧ m = m2 + (sameL (fun p => (inn p : Int)) p q).length ∧ Rws w3 wx [RPr a1 mk c1 (prs (upL R) (p + 1)), RPr a2 m c2 (prs f p ++ (sameL (fun p => (inn p : Int)) p q).map (fun q => ((p : Int), q)))])
            (fun _ v12 _ => n - (intOf v12).toNat)
          case atStart => exact ⟨0, a2, m2, c2, rfl, Nat.zero_le _, rfl, by simp [sameL], HI2.out⟩
          case round =>
            obtain ⟨q, a2, mq, c2, rfl, hq, rfl, hmq, hrw⟩ := hrel
            have HRX := Lib.hid hrw; have HMQ := Lib.hid hmq
            have hwx := hrw.bel.size
            have hsl := sameL_len (fun p => (inn p : Int)) p q
            have hmqb : mq ≤ 9000 := by omega
            obtain ⟨y0, y1, y2, y3, yl⟩ := sysV ((hrw.bel.block w.heap.size (Array.getElem?_eq_some_iff.1 HX3.out).1).trans HX3.out)
            clear HI2 hmq y1 y2 y3
            by_cases hqn : q < n
            · have hqI : (q : Int) < (n : Int) := by omega
              have hcs := HCS.out.below hrw.bel (Nat.le_refl _)
              have hln : 0 < (canon (flN n inn)).length := by rw [HCLN.out]; omega
              obtain rfl := hcs.ad hln
              obtain ⟨cp, hcp⟩ := getElem?_of_lt (xs := canon (flN n inn)) (i := p) (by rw [HCLN.out]; exact hpn)
              obtain ⟨cq, hcq⟩ := getElem?_of_lt (xs := canon (flN n inn)) (i := q) (by rw [HCLN.out]; exact hqn)
              have d0 := hcs.ci hcp; have d1 := hcs.ci hcq
              have dl := hcs.lt hln
              simp only [Nat.zero_add] at d0 d1
              have e1 : (flN n inn)[p]? = some (inn p : Int) := flN_get inn hpn
              have e2 : (flN n inn)[q]? = some (inn q : Int) := flN_get inn hqn
              have HIFF := Lib.hid (canon_eqv e1 e2 hcp hcq)
              clear hcs hln hcp hcq e1 e2 hrw
              by_cases hc : cp = cq
              · have HEQ := Lib.hid (HIFF.out.1 hc)
                have hcd : (cp == cq) = true := by simp [hc]
                have HSN : RowKit.Hid (sameL (fun p => (inn p : Int)) p (q + 1) = sameL (fun p => (inn p : Int)) p q ++ [(q : Int)]) := Lib.hid (by rw [sameL_succ, if_pos HEQ.out])
                have hdr := HRX.out
                clear hc
                go_upto_region 21 with fail
                go_quiet (fail)
                obtain ⟨wd, hwd⟩ : ∃ wd, wd = wr.drewN nq := ⟨_, rfl⟩
                have hrd := HRX.out.drewN nq
                rw [← hwd] at hrd ⊢
                have HRD := Lib.hid hrd
                have hwy := hrd.bel.size
                have HOWN : RowKit.Hid ((wd.alloc (.cells #[.int .i64 (p : Int), .int .i64 (q : Int)] 72)).ownsRow w3.heap.size 72 2 (.slice a2 mq c2) mq ((prs f p ++ (sameL (fun p => (inn p : Int)) p q).map (fun q => ((p : Int), q))).flatMap encPr)) := Lib.hid ((hrd.alloc (.cells #[.int .i64 (p : Int), .int .i64 (q : Int)] 72)).get (i := 1) rfl)
                have HBX := Lib.hid ((Below.refl wd.heap.size wd).alloc (Nat.le_refl _) (.cells #[.int .i64 (p : Int), .int .i64 (q : Int)] 72))
                clear hwd hrd hdr d0 d1 dl y0 yl HRX
                go_wp2_with (at_builtin; go_must (refine wpList_lie rfl _ _ _ rfl rowPr (base := w3.heap.size) (by simp; omega) rfl HOWN.out ⟨wd.heap.size, 0, none⟩ 1 1 [.int .i64 (p : Int), .int .i64 (q : Int)] rfl rfl (cells2 (by simp [go_sem]) (by simp [go_sem])) (by simp [Value.oneCell']) (by decide) (by omega) (by unfold maxLen; omega) wd.heap.size (by simp) ?_); intro g cap w7 hown7 hg7 hl7 hlt7)
                have HGR : RowKit.Hid (Rws w3 w7 [RPr a1 mk c1 (prs (upL R) (p + 1)), RPr (some ⟨g, 0, none⟩) (mq + 1) cap (prs f p ++ (sameL (fun p => (inn p : Int)) p (q + 1)).map (fun q => ((p : Int), q)))]) := Lib.hid (by
                  have h := prGrow (x := ((p : Int), (q : Int))) HRD.out HBX.out (i := 1) rfl hown7 hg7 hl7
                  rw [HSN.out, List.map_append, ← List.append_assoc]
                  exact h)
                clear hown7 hg7 hl7 HOWN HBX HRD
                go_roundw
                case rel => exact ⟨q + 1, some ⟨g, 0, none⟩, mq + 1, cap, by go_num, by omega, rfl, by rw [HSN.out, List.length_append, HMQ.out]; rfl, HGR.out⟩
                case measure => simp [intOf]; omega
              · have hcd : (cp == cq) = false := by simp [hc]
                have HSN : RowKit.Hid (sameL (fun p => (inn p : Int)) p (q + 1) = sameL (fun p => (inn p : Int)) p q) := Lib.hid (by rw [sameL_succ, if_neg (fun e => hc (HIFF.out.2 e)), List.append_nil])
                go_upto_region 21 with fail
                go_quiet (fail)
                go_wp2_with fail
                go_roundw
                case rel => exact ⟨q + 1, a2, mq, c2, by go_num, by omega, rfl, by rw [HSN.out]; exact HMQ.out, by rw [HSN.out]; exact HRX.out.drewN _⟩
                case measure => simp [intOf]; omega
            · obtain rfl : q = n := by omega
              have HNX : RowKit.Hid (Rws w3 wr [RPr a1 mk c1 (prs (upL R) (p + 1)), RPr a2 mq c2 (prs f (p + 1))]) := Lib.hid (by
                rw [prs_succ f]
                have e : f p = sameL (fun p => (inn p : Int)) p q := by rw [HF.out]
                rw [e]
                exact HRX.out)
              have HMQ2 : RowKit.Hid (mq = (prs f (p + 1)).length) := Lib.hid (by
                rw [prs_succ f, List.length_append, List.length_map, HMQ.out, HM2.out]
                have e : f p = sameL (fun p => (inn p : Int)) p q := by rw [HF.out]
                rw [e])
              have HMK2 : RowKit.Hid (mk = (prs (upL R) (p + 1)).length) := Lib.hid (by
                rw [prs_succ, List.length_append, List.length_map, HMK.out, HM1.out, HUL.out])
              clear HRX hrw
              go_wp2_with fail
              go_roundw
              case rel => exact ⟨p + 1, a1, a2, mk, mq, c1, c2, by go_num, by omega, rfl, rfl, HMK2.out, HMQ2.out, HNX.out⟩
              case measure => simp [intOf]; omega
    · obtain rfl : p = n := by omega
      have hbw := HB3.out.trans (HRW.out.bel.mono HB3.out.size)
      have hzA : SlAt encPr 2 wr a1 (blkOf a1) 0 (prs (upL R) p) := HRW.out.slO (i := 0) rfl lenP2 HM1.out
      have hzB : SlAt encPr 2 wr a2 (blkOf a2) 0 (prs f p) := HRW.out.slO (i := 1) rfl lenP2 HM2.out
      have HOA := Lib.hid (all_ok HR.out rfl (by omega) HGT.out)
      have HOB : RowKit.Hid (OkPairs (Lts.norm ⟨(p : Int), lb, s0, es⟩) p (prs f p)) := Lib.hid (by rw [HF.out]; exact some_ok HR.out rfl HBIG.out)
      have hsA := simulationYes_any (c := c) HR.out rfl (by omega) (HG.out.below hbw) (HS.out.below hbw (Nat.le_refl _)) (by rw [← HM1.out]; omega) HOA.out (zc := c1) hzA
      rw [← HM1.out] at hsA
      have HSA := Lib.hid hsA
      have HX4 := Lib.hid ((HRW.out.bel.block w.heap.size (Array.getElem?_eq_some_iff.1 HX3.out).1).trans HX3.out)
      have HZB := Lib.hid hzB; have HBW := Lib.hid hbw
      clear hbw hzA hzB hsA HRW
      go_wp2_with fail
      refine HSA.out.mono ?_
      rintro e w4 ⟨rfl, hB4⟩
      have hB4' := hB4.alloc hB4.size (.cells #[.int .i64 0, .int .i64 0, .int .i64 0, .int .i64 0] 58)
      have hb5 := HBW.out.trans (hB4'.mono HBW.out.size)
      have hx5 := (hB4'.block w.heap.size (Array.getElem?_eq_some_iff.1 HX4.out).1).trans HX4.out
      have hsB := simulationYes_any (c := c) HR.out rfl (by omega) (HG.out.below hb5) (HS.out.below hb5 (Nat.le_refl _)) (by rw [← HM2.out]; omega) HOB.out (zc := c2) (HZB.out.below hB4' (Nat.le_refl _))
      rw [← HM2.out] at hsB
      have HSB := Lib.hid hsB; have HB5 := Lib.hid hb5
      clear y0 y1 y2 y3 yl
      obtain ⟨y0, y1, y2, y3, yl⟩ := sysV hx5
      clear hb5 hx5 hsB hB4' HSA HBW HZB
      go_wp2_with fail
      refine HSB.out.mono ?_
      rintro e w6 ⟨rfl, hB6⟩
      have HB6 := Lib.hid ((HB5.out.trans (hB6.mono HB5.out.size)).alloc (by have := hB6.size; have := HB5.out.size; omega) (.cells #[.int .i64 0, .int .i64 0, .int .i64 0, .int .i64 0] 58))
      clear hB6 HSB hB4
      go_wp2_with fail
      refine (ALV.out _ HB6.out).mono ?_
      rintro e w7 ⟨rfl, hB⟩
      go_wp2
      go_ret
      exact ⟨rfl, hB⟩
end Go.Proofs.YtfakdgljilmpkaaGreatDoor

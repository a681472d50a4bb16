/-
  law9.met: whether each step of a state is met by another one's, by classes.
-/
import Derived.Test.YtfakdgljilmpkaaGreatDoorMetP
import Derived.Test.YtfakdgljilmpkaaGreatDoorGraphC
import Derived.Deep.QuietTactic
import Derived.BigQuiet
namespace Go.Proofs.YtfakdgljilmpkaaGreatDoor
open Go.RowKit Pl

theorem any_snoc {L : List Int} {k : Nat} {y : Int} (P : Int → Bool) (h : L[k]? = some y) : (L.take (k + 1)).any P = ((L.take k).any P || P y) := by
  rw [take_snoc h, List.any_append]; simp

set_option maxRecDepth 100000 in
set_option maxHeartbeats 4000000 in
theorem met9_any {w0 w : World} {gb : Nat} {s : Lts} (h : GraphAt w0 gb s) (hB : Below w0.heap.size w0 w) {n : Nat} (hn : s.st = (n : Int)) {L : List Int} (hL : L.length = n) {ca : Option Addr} {cb co cc : Nat} (hS : SlAt encI 1 w ca cb co L) (p q : Int) :
    Calls Tryz.prog 22 #[.pointer (some ⟨gb, 0, none⟩), .slice ca n cc, .int .i64 p, .int .i64 q] w fun e w' => e = .returned (.bool (metB s L p q)) ∧ Below w.heap.size w w' := by
  have HH := Lib.hid h; have HB := Lib.hid hB; have HN := Lib.hid hn; have HLL := Lib.hid hL; have HS := Lib.hid hS
  have HO := Lib.hid (getOut_any (h.below hB) p)
  have hst := h.right.st0
  have hn1 : n ≤ 1000 := by omega
  have hol := outs_len h.right p
  obtain ⟨m, hm⟩ : ∃ m, m = (s.outs p).length := ⟨_, rfl⟩
  rw [← hm] at hol
  have HM := Lib.hid hm
  clear h hB hn hL hS hst hm
  go_enter Tryz.func22, Tryz.ntmps22
  go_wp2_with fail
  refine HO.out.mono ?_
  rintro e w1 ⟨v, rfl, hown, hB1⟩
  obtain ⟨oa, oc, ob, rfl, _, _, hos, _⟩ := slAt_own lenS hown
  rw [← HM.out]
  have HOS := Lib.hid hos; have HB1 := Lib.hid hB1
  clear hown hos hB1 HO
  go_wp2_with fail
  go_loopw [10, 11, 13, 18] (fun _ _ _ v18 wr => ∃ k : Nat, v18 = .int .i64 k ∧ k ≤ m ∧ (∀ x ∈ (s.outs p).take k, metX s L q x = true) ∧ Below w1.heap.size w1 wr) (fun _ _ _ v18 _ => m - (intOf v18).toNat)
  case atStart => exact ⟨0, rfl, Nat.zero_le _, by simp, Below.refl _ _⟩
  case round =>
    obtain ⟨k, rfl, hk, hall, hbe⟩ := hrel
    have HALL := Lib.hid hall; have HBE := Lib.hid hbe
    clear hall
    by_cases hkm : k < m
    · obtain ⟨x, hx⟩ := getElem?_of_lt (xs := s.outs p) (i := k) (by rw [← HM.out]; exact hkm)
      have hos := HOS.out.below hbe (Nat.le_refl _)
      obtain rfl := hos.ad (by rw [← HM.out]; omega)
      have d0 := hos.s0 hx; have d1 := hos.s1 hx
      have dl := hos.lt (by rw [← HM.out]; omega)
      have hxr := offB_false.1 (HH.out.right.edges _ (mem_outs.1 (List.mem_of_getElem? hx)))
      have HX := Lib.hid hx
      obtain ⟨x1, x2⟩ := x
      simp only [Nat.zero_add] at hxr d0 d1
      obtain ⟨t, rfl⟩ := Int.eq_ofNat_of_zero_le hxr.2.2.2.2.1
      have htn : t < n := by have := HN.out; omega
      have hbx := hbe.alloc hbe.size (.cells #[.int .i64 x1, .int .i64 t] 101)
      have hb0 := HB.out.trans ((HB1.out.trans (hbx.mono HB1.out.size)).mono HB.out.size)
      have HBY := Lib.hid (getBy_any (HH.out.below hb0) q x1)
      have hxb := heap_alloc_new wr (.cells #[.int .i64 x1, .int .i64 t] 101)
      have HBX := Lib.hid hbx; have HXB := Lib.hid hxb
      have hkI : (k : Int) < (m : Int) := by omega
      have hbl : (withL x1 (s.outs q)).length ≤ 10000 := Nat.le_trans (withL_len _ _) (outs_len HH.out.right q)
      obtain ⟨bm, hbm⟩ : ∃ bm, bm = (withL x1 (s.outs q)).length := ⟨_, rfl⟩
      rw [← hbm] at hbl
      have HBM := Lib.hid hbm
      clear hos hx hxr hbx hb0 hxb hbe hbm
      go_wp2_with fail
      refine HBY.out.mono ?_
      rintro e w2 ⟨v, rfl, hown, hB2⟩
      obtain ⟨ya, yc, yb, rfl, _, _, hys, _⟩ := slAt_own lenI hown
      rw [← HBM.out]
      have hx2 := (hB2.block wr.heap.size (by simp)).trans HXB.out
      obtain ⟨xb, hxbe⟩ : ∃ xb, xb = wr.heap.size := ⟨_, rfl⟩
      rw [← hxbe] at hx2 ⊢
      have HX2 := Lib.hid hx2; have HYS := Lib.hid hys
      have hb2 := HBX.out.trans (hB2.mono HBX.out.size)
      have HB2 := Lib.hid hb2
      have HCS := Lib.hid (HS.out.below (HB1.out.trans (hb2.mono HB1.out.size)) (Nat.le_refl _))
      clear hown hys hB2 hx2 hb2 hxbe HBX HXB HBY HBE d0 d1 dl
      go_wp2_with fail
      go_loopw [11, 13, 28] (fun v11 _ v28 wx => ∃ (j u : Nat), v28 = .int .i64 j ∧ j ≤ bm ∧ v11 = .bool (((withL x1 (s.outs q)).take j).any (fun y => decide (atL L y = atL L (t : Int)))) ∧ wx = w2.drewN u) (fun _ _ v28 _ => bm - (intOf v28).toNat)
      case atStart => exact ⟨0, 0, rfl, Nat.zero_le _, by simp, rfl⟩
      case round =>
        obtain ⟨j, u, rfl, hj, rfl, rfl⟩ := hrel
        by_cases hjb : j < bm
        · obtain ⟨y, hy⟩ := getElem?_of_lt (xs := withL x1 (s.outs q)) (i := j) (by rw [← HBM.out]; exact hjb)
          have hys := HYS.out
          obtain rfl := hys.ad (by rw [← HBM.out]; omega)
          have e0 := hys.ci hy
          have el := hys.lt (by rw [← HBM.out]; omega)
          simp only [Nat.zero_add] at e0
          have hyr := offB_false.1 (HH.out.right.edges _ (mem_outs.1 (mem_withL.1 (List.mem_of_getElem? hy))))
          simp only at hyr
          obtain ⟨v, rfl⟩ := Int.eq_ofNat_of_zero_le hyr.2.2.2.2.1
          have hvn : v < n := by have := HN.out; omega
          have hcs := HCS.out
          have hll : 0 < L.length := by rw [HLL.out]; omega
          obtain rfl := hcs.ad hll
          obtain ⟨cv, hcv⟩ := getElem?_of_lt (xs := L) (i := v) (by rw [HLL.out]; exact hvn)
          obtain ⟨ct, hct⟩ := getElem?_of_lt (xs := L) (i := t) (by rw [HLL.out]; exact htn)
          have c0 := hcs.ci hcv; have c1 := hcs.ci hct
          have cl := hcs.lt hll
          have HSN := Lib.hid (any_snoc (fun y => decide (atL L y = atL L (t : Int))) hy)
          have HAV : RowKit.Hid (decide (atL L (v : Int) = atL L (t : Int)) = (cv == ct)) := Lib.hid (by
            unfold atL
            rw [Int.toNat_natCast, Int.toNat_natCast, List.getD_eq_getElem?_getD, List.getD_eq_getElem?_getD, hcv, hct]
            simp [Bool.beq_eq_decide_eq])
          have b1 : w2.cell? ⟨xb, 1, none⟩ = some (.int .i64 t) := by simp [World.cell?, HX2.out]
          have bl := (Array.getElem?_eq_some_iff.1 HX2.out).1
          have hjI : (j : Int) < (bm : Int) := by omega
          have hvI : (v : Int) < (n : Int) := by omega
          have htI : (t : Int) < (n : Int) := by omega
          obtain ⟨r, hr⟩ : ∃ r, r = ((withL x1 (s.outs q)).take j).any (fun y => decide (atL L y = atL L (t : Int))) := ⟨_, rfl⟩
          rw [← hr]
          obtain ⟨rr, hrr⟩ : ∃ rr, rr = (cv == ct) := ⟨_, rfl⟩
          have HR := Lib.hid hr; have HRR := Lib.hid hrr
          have hcmp : (cv == ct) = rr := hrr.symm
          clear hys hy hyr hcs hll hcv hct hr hrr
          cases r
          · go_wp2_with fail
            go_quiet (fail)
            go_wp2_with fail
            go_roundw
            case rel => exact ⟨j + 1, _, by go_num, by omega, by rw [HSN.out, ← HR.out, Bool.false_or, HAV.out, ← HRR.out], rfl⟩
            case measure => simp [intOf]; omega
          · go_wp2_with fail
            go_quiet (fail)
            go_wp2_with fail
            go_roundw
            case rel => exact ⟨j + 1, _, by go_num, by omega, by rw [HSN.out, ← HR.out, Bool.true_or], rfl⟩
            case measure => simp [intOf]; omega
        · obtain rfl : j = bm := by omega
          have hmx : ((withL x1 (s.outs q)).take j).any (fun y => decide (atL L y = atL L (t : Int))) = metX s L q (x1, (t : Int)) := by
            rw [HBM.out, List.take_length]; rfl
          rw [hmx]
          obtain ⟨r, hr⟩ : ∃ r, r = metX s L q (x1, (t : Int)) := ⟨_, rfl⟩
          rw [← hr]
          have HR := Lib.hid hr
          have HB3 : RowKit.Hid (Below w1.heap.size w1 (w2.drewN u)) := Lib.hid (bdrew HB2.out)
          clear hmx hr
          cases r
          · have HF : RowKit.Hid (metB s L p q = false) := Lib.hid (by
              unfold metB
              rw [List.all_eq_false]
              exact ⟨_, List.mem_of_getElem? HX.out, by rw [← HR.out]; simp⟩)
            go_wp2_with fail
            go_ret
            exact ⟨by rw [HF.out]; rfl, HB1.out.trans (HB3.out.mono HB1.out.size)⟩
          · have HA2 : RowKit.Hid (∀ z ∈ (s.outs p).take (k + 1), metX s L q z = true) := Lib.hid (fun z hz => by
              rw [take_snoc HX.out] at hz
              rcases List.mem_append.1 hz with hz | hz
              · exact HALL.out z hz
              · simp at hz; subst hz; exact HR.out.symm)
            go_wp2_with fail
            go_roundw
            case rel => exact ⟨k + 1, by go_num, by omega, HA2.out, HB3.out⟩
            case measure => simp [intOf]; omega
    · obtain rfl : k = m := by omega
      have HT : RowKit.Hid (metB s L p q = true) := Lib.hid (by
        unfold metB
        rw [List.all_eq_true]
        intro x hx
        exact HALL.out x (by rw [HM.out, List.take_length]; exact hx))
      go_wp2_with fail
      go_ret
      exact ⟨by rw [HT.out]; rfl, HB1.out.trans (HBE.out.mono HB1.out.size)⟩
end Go.Proofs.YtfakdgljilmpkaaGreatDoor

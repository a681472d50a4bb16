/-
  law13.WeakSilence.
-/
import Derived.Test.YtdhloijdefnkpaaGreatDoorAlive13
import Derived.Test.YtdhloijdefnkpaaGreatDoorWkX
import Derived.Deep.QuietTactic
import Derived.BigQuiet
namespace Go.Proofs.YtdhloijdefnkpaaGreatDoor
open Go.RowKit Pl

set_option maxRecDepth 100000 in
theorem silentNo_any {p : Addr} {s : Lts} (h : ¬ s.Right) {a : Option Addr} {b off c : Nat} {w : World} (hG : WkErr p w) (hT : ErrType w) (hS : SlAt encE 3 w a b off s.es) :
    Calls Tryz.prog 11 #[.agg #[.int .i64 s.st, .int .i64 s.lb, .int .i64 s.s0, .slice a s.es.length c]] w fun e w' => ∃ v, e = .returned (.tuple #[.slice none 0 0, v]) ∧ FaultW w' p v ∧ Below w.heap.size w w' := by
  have hB0 := (Below.refl w.heap.size w).alloc (Nat.le_refl _) (Obj.cells #[.int .i64 s.st, .int .i64 s.lb, .int .i64 s.s0, .slice a s.es.length c] 24)
  have HMD := Lib.hid (madeWNo_any (c := c) h (hG.below hB0) (hT.below hB0) (hS.below hB0 (Nat.le_refl _)))
  have HB0 := Lib.hid hB0
  clear hG hS hB0 h hT
  go_enter Tryz.func11, Tryz.ntmps11
  go_wp2_with fail
  refine HMD.out.mono ?_
  rintro e w1 ⟨v, rfl, hF, hB1⟩
  obtain ⟨vi, hf1, hf2⟩ := id hF
  obtain ⟨pb, rfl, hpb1⟩ := hf1.ex
  have HF := Lib.hid hF; have HB1 := Lib.hid (HB0.out.trans (hB1.mono (by simp)))
  clear hF hB1 hf1 hf2 hpb1 HMD HB0
  go_wp2_with fail
  go_ret2
  exact ⟨_, rfl, HF.out, HB1.out⟩

theorem idsN_rise {G : Nat → Bool} {n k c d : Nat} (h : (idsN G n)[k]? = some d) (h2 : (idsN G n)[k + 1]? = some c) : d < c := by
  have hp : (idsN G n).Pairwise (· < ·) := List.Pairwise.sublist List.filter_sublist List.pairwise_lt_range
  obtain ⟨h3, h4⟩ := List.getElem?_eq_some_iff.1 h
  obtain ⟨h5, h6⟩ := List.getElem?_eq_some_iff.1 h2
  have := List.pairwise_iff_getElem.1 hp k (k + 1) h3 h5 (by omega)
  rw [h4, h6] at this
  exact this

set_option maxRecDepth 100000 in
set_option maxHeartbeats 8000000 in
theorem wkSilence_any {w : World} {p pe : Addr} (hG : WkErr p w) (hGE : GErr 0 pe w) (hT : ErrType w) (hTab : Tab w) {s : Lts} {a : Option Addr} {b off c : Nat} (hS : SlAt encE 3 w a b off s.es) :
    Calls Tryz.prog 3 #[.agg #[.int .i64 s.st, .int .i64 s.lb, .int .i64 s.s0, .slice a s.es.length c]] w fun e w' => e = .returned (.bool true) ∧ Below w.heap.size w w' := by
  have hB0 := (Below.refl w.heap.size w).alloc (Nat.le_refl _) (Obj.cells #[.int .i64 s.st, .int .i64 s.lb, .int .i64 s.s0, .slice a s.es.length c] 24)
  have hbx := heap_alloc_new w (Obj.cells #[.int .i64 s.st, .int .i64 s.lb, .int .i64 s.s0, .slice a s.es.length c] 24)
  have HG := Lib.hid hG; have HTY := Lib.hid hT; have HTB := Lib.hid hTab; have HS := Lib.hid hS; have HB0 := Lib.hid hB0; have HBX := Lib.hid hbx
  have ALV : RowKit.Hid (∀ w1 : World, Below w.heap.size w w1 → Calls Tryz.prog 10 #[] w1 fun e w' => e = .returned (.bool true) ∧ Below w.heap.size w w' ∧ Below w1.heap.size w1 w') := Lib.hid (by
    intro w1 h1
    refine (alive13_any (hG.below h1) (hGE.below h1) (hTab.below h1)).mono ?_
    rintro e w' ⟨rfl, hB⟩
    exact ⟨rfl, h1.trans (hB.mono h1.size), hB⟩)
  clear hG hGE hT hTab hS hB0 hbx
  by_cases h40 : 30 < s.st
  · have e1 : decide (30 < s.st) = true := by simp [h40]
    clear HBX
    go_enter Tryz.func3, Tryz.ntmps3
    go_wp2_with fail
    refine (ALV.out _ HB0.out).mono ?_
    rintro e w2 ⟨rfl, hB, _⟩
    go_wp2
    go_ret
    exact ⟨rfl, hB⟩
  have e1 : decide (30 < s.st) = false := by simp [h40]
  by_cases h300 : 200 < (s.es.length : Int)
  · have e2 : decide (200 < (s.es.length : Int)) = true := by simp [h300]
    clear HBX
    go_enter Tryz.func3, Tryz.ntmps3
    go_wp2_with fail
    refine (ALV.out _ HB0.out).mono ?_
    rintro e w2 ⟨rfl, hB, _⟩
    go_wp2
    go_ret
    exact ⟨rfl, hB⟩
  have e2 : decide (200 < (s.es.length : Int)) = false := by simp [h300]
  by_cases hr : s.Right
  case neg =>
    have HCO := Lib.hid (silentNo_any (c := c) hr (HG.out.below HB0.out) (HTY.out.below HB0.out) (HS.out.below HB0.out (Nat.le_refl _)))
    go_enter Tryz.func3, Tryz.ntmps3
    go_wp2_with fail
    refine HCO.out.mono ?_
    rintro e w2 ⟨v, rfl, hf, hB2⟩
    obtain ⟨v1, hf, _⟩ := hf
    obtain ⟨fb, rfl, _⟩ := hf.ex
    have HB2 := Lib.hid (HB0.out.trans (hB2.mono (by simp)))
    clear hB2 hf HCO HB0 HBX hr e1 e2
    go_wp2_with fail
    refine (ALV.out _ HB2.out).mono ?_
    rintro e w5 ⟨rfl, hB, _⟩
    have HB := Lib.hid hB
    clear hB
    go_wp2_with fail
    go_ret
    exact ⟨rfl, HB.out⟩
  case pos =>
  have hst := hr.st0
  obtain ⟨n, hn⟩ : ∃ n : Nat, s.st = (n : Int) := ⟨s.st.toNat, by omega⟩
  have hn30 : n ≤ 30 := by omega
  have HR := Lib.hid hr; have HN := Lib.hid hn
  have HSI := Lib.hid (weakSilent_any (c := c) hr hn (by omega) (HG.out.below HB0.out) (HTB.out.below HB0.out) (HS.out.below HB0.out (Nat.le_refl _)))
  have HEL : RowKit.Hid (s.es.length ≤ 200) := Lib.hid (by omega)
  clear hr hst hn
  go_enter Tryz.func3, Tryz.ntmps3
  go_wp2_with fail
  refine HSI.out.mono ?_
  unfold SilPost
  rintro e w2 ⟨F, v, vs, rfl, hF, hvl, hown, hrows, hB2⟩
  have hb2 := HB0.out.trans (hB2.mono (by simp))
  have hx2 := (hB2.block w.heap.size (by simp)).trans HBX.out
  rw [HN.out] at hx2
  have hmk := run_make_row' (P := Tryz.prog) 31 32 (.slice none 0 0) 24 Tryz.underlying31 (by kernel_rfl) rfl .i64 .i64 n (by omega) (by omega)
  have hmk2 := run_make_row' (P := Tryz.prog) 32 4 (.bool false) 1 Tryz.underlying32 (by kernel_rfl) rfl .i64 .i64 n (by omega) (by omega)
  obtain ⟨va, vc, vb, rfl, _, _, hvs, _⟩ := slAt_own lenV hown
  rw [hvl]
  obtain ⟨x0, x1, x2, x3, x4⟩ := sysC hx2
  have HF := Lib.hid hF; have HVL := Lib.hid hvl; have HVS := Lib.hid hvs; have HRW := Lib.hid hrows; have HB2 := Lib.hid hb2; have HX2 := Lib.hid hx2
  clear hF hvl hown hrows hB2 hb2 hx2 hvs HSI HB0 HBX e1 e2 h40 h300
  go_wp2_with fail
  obtain ⟨W, hW⟩ : ∃ W, W = w2.alloc (Obj.cells (madeCells #[.slice none 0 0] n) 32) := ⟨_, rfl⟩
  have hin0 : InT W w2.heap.size n F 0 := by rw [hW]; exact InT.made w2 n F
  have hbw : Below w2.heap.size w2 W := by rw [hW]; exact (Below.refl _ _).alloc (Nat.le_refl _) _
  have HRS : RowKit.Hid (∀ p, p < n → ∃ ra rc rb, vs[p]? = some (.slice ra (intsOf (idsN (F p) n)).length rc) ∧ SlAt encI 1 w2 ra rb 0 (intsOf (idsN (F p) n))) := Lib.hid (fun p hp => by
    obtain ⟨x, hx⟩ := getElem?_of_lt (xs := vs) (i := p) (by have := HVL.out; omega)
    obtain ⟨ra, rc, rb, rfl, _, _, hrs, _⟩ := slAt_own lenI (HRW.out p x hx)
    exact ⟨ra, rc, rb, hx, hrs⟩)
  rw [← hW]
  obtain ⟨ib, hib⟩ : ∃ ib, ib = w2.heap.size := ⟨_, rfl⟩
  rw [← hib] at hin0 ⊢
  have HIB := Lib.hid hib
  have HIN := Lib.hid hin0; have HBW := Lib.hid hbw
  clear hW hin0 hbw x0 x1 x2 x3 x4 HRW hmk hib
  go_loopw [6, 7, 8] (fun v6 _ _ wr => ∃ p : Nat, v6 = .int .i64 p ∧ p ≤ n ∧ Below w2.heap.size w2 wr ∧ InT wr ib n F p) (fun v6 _ _ _ => n - (intOf v6).toNat)
  case atStart => exact ⟨0, rfl, Nat.zero_le _, HBW.out, HIN.out⟩
  case round =>
    obtain ⟨p, rfl, hp, hB, hin⟩ := hrel
    have HB := Lib.hid hB; have HI := Lib.hid hin
    have hxr := (hB.block w.heap.size (Array.getElem?_eq_some_iff.1 HX2.out).1).trans HX2.out
    obtain ⟨x0, x1, x2, x3, x4⟩ := sysC hxr
    clear hB hin hxr x1 x2 x3
    by_cases hlt : p < n
    · have hpI : (p : Int) < (n : Int) := by omega
      have hih := HI.out.here hlt
      have hif := HI.out.frozen p
      have hil := HI.out.lt
      go_upto_region 13 with fail
      obtain ⟨W1, hW1⟩ : ∃ W1, W1 = (wr.setCell ⟨ib, p, none⟩ (.slice (some ⟨wr.heap.size, 0, none⟩) n n)).alloc (.cells (madeCells #[.bool false] n) 4) := ⟨_, rfl⟩
      rw [← hW1]
      have hi1 : InT W1 ib n (fun a c => if a = p then decide (c ∈ (idsN (F p) n).take 0) else F a c) (p + 1) := by rw [hW1]; exact HI.out.next.congr (fun a c _ _ => by simp)
      have hb1 : Below w2.heap.size w2 W1 := by rw [hW1]; exact (HB.out.setCell (show w2.heap.size ≤ ib by have := HIB.out; omega) _).alloc (by rw [size_setCell]; exact HB.out.size) _
      have HI1 := Lib.hid hi1; have HB1 := Lib.hid hb1
      obtain ⟨ra, rc, rb, hvp, hrs⟩ := HRS.out p hlt
      have hvs := HVS.out.below hb1 (Nat.le_refl _)
      have hvlen := HVL.out
      obtain rfl := hvs.ad (by omega)
      have v0 := hvs.cv hvp
      have vl := hvs.lt (by omega)
      simp only [Nat.zero_add] at v0
      have HRI := Lib.hid hrs
      have hul : (intsOf (idsN (F p) n)).length ≤ 30 := by rw [intsOf_len]; have := idsN_le (F p) n; omega
      obtain ⟨ul, hul2⟩ : ∃ ul, ul = (intsOf (idsN (F p) n)).length := ⟨_, rfl⟩
      rw [← hul2] at hul v0
      have HUL := Lib.hid hul2
      clear hW1 hi1 hb1 hvp hrs hvs hvlen hih hif hil x0 x4 HI HB hul2
      go_wp2_with fail
      go_loopw [7, 8, 57] (fun _ _ v57 wr => ∃ k : Nat, v57 = .int .i64 k ∧ k ≤ ul ∧ Below w2.heap.size w2 wr ∧ InT wr ib n (fun a c => if a = p then decide (c ∈ (idsN (F p) n).take k) else F a c) (p + 1)) (fun _ _ v57 _ => ul - (intOf v57).toNat)
      case atStart => exact ⟨0, rfl, Nat.zero_le _, HB1.out, HI1.out⟩
      case round =>
        obtain ⟨k, rfl, hk, hB, hin⟩ := hrel
        have HB := Lib.hid hB; have HI := Lib.hid hin
        have hxr := (hB.block w.heap.size (Array.getElem?_eq_some_iff.1 HX2.out).1).trans HX2.out
        obtain ⟨x0, x1, x2, x3, x4⟩ := sysC hxr
        clear hxr x1 x2 x3
        by_cases hltk : k < ul
        · have hkI : (k : Int) < (ul : Int) := by omega
          have hri := HRI.out.below hB (Nat.le_refl _)
          have hul2 := HUL.out
          rw [intsOf_len] at hul2
          obtain ⟨c, hc⟩ := getElem?_of_lt (xs := idsN (F p) n) (i := k) (by omega)
          have hcm := mem_idsN.1 (List.mem_of_getElem? hc)
          have hcn : c < n := hcm.1
          obtain rfl := hri.ad (by have := HUL.out; omega)
          have r0 := hri.ci (show (intsOf (idsN (F p) n))[k]? = some (c : Int) by unfold intsOf; rw [List.getElem?_map, hc]; rfl)
          have rl := hri.lt (by have := HUL.out; omega)
          simp only [Nat.zero_add] at r0
          obtain ⟨bk, i0, hbl, hrw, hset⟩ := hin.at (show p < p + 1 by omega) hlt
          have i1 : wr.cell? ⟨bk, c, none⟩ = some (.bool (decide (c ∈ (idsN (F p) n).take k))) := by have := hrw.cell hcn; simpa using this
          have i2 := hrw.frozen c
          have il := hin.lt
          have ill := hrw.lt
          have hnx : InT (wr.setCell ⟨bk, c, none⟩ (.bool true)) ib n (fun a d => if a = p then decide (d ∈ (idsN (F p) n).take (k + 1)) else F a d) (p + 1) := (hset c).congr (fun a d _ _ => by
            rw [take_snoc hc]
            by_cases e : a = p
            · subst e
              by_cases e2 : d = c
              · subst e2; simp
              · simp [e2]
            · simp [e])
          have hbn := HB.out.setCell (p := ⟨bk, c, none⟩) (show w2.heap.size ≤ bk by have := HIB.out; omega) (.bool true)
          have hc0 : decide ((c : Int) < 0) = false := by simp
          have hcI : (c : Int) < (n : Int) := by omega
          have HNX := Lib.hid hnx; have HBN := Lib.hid hbn
          have hvs := HVS.out.below hB (Nat.le_refl _)
          obtain ⟨ra2, rc2, rb2, hvp, _⟩ := HRS.out p hlt
          have v1 : wr.cell? ⟨vb, p, none⟩ = some (.slice (some ⟨rb, 0, none⟩) ul rc) := by
            rw [HB.out.cell (p := ⟨vb, p, none⟩) (HVS.out.lt (by have := HVL.out; omega)), ← HB1.out.cell (p := ⟨vb, p, none⟩) (HVS.out.lt (by have := HVL.out; omega))]; exact v0
          have vl2 := hvs.lt (by have := HVL.out; omega)
          clear hB hin hset hrw hnx hbn hvs hvp hcm
          rcases k with _ | k
          · clear hri hc hul2
            go_wp2_with fail
            go_roundw
            case rel => exact ⟨1, by go_num, by omega, HBN.out, HNX.out⟩
            case measure => simp [intOf]; omega
          · obtain ⟨d, hd⟩ := getElem?_of_lt (xs := idsN (F p) n) (i := k) (by omega)
            have r1 := hri.ci (show (intsOf (idsN (F p) n))[k]? = some (d : Int) by unfold intsOf; rw [List.getElem?_map, hd]; rfl)
            simp only [Nat.zero_add] at r1
            have hdc : d < c := idsN_rise hd hc
            have hdI : ¬ c ≤ d := by omega
            have hnc : ¬ n ≤ c := by omega
            have hkI2 : (k : Int) < (ul : Int) := by omega
            clear hri hc hd hul2 hdc
            go_wp2_with fail
            go_roundw
            case rel => exact ⟨k + 2, by go_num, by omega, HBN.out, HNX.out⟩
            case measure => simp [intOf]; omega
        · obtain rfl : ul = k := by omega
          have hnx : InT wr ib n F (p + 1) := HI.out.congr (fun a c ha hc => by
            by_cases e : a = p
            · subst e
              rw [if_pos rfl, List.take_of_length_le (by have := HUL.out; rw [intsOf_len] at this; omega)]
              rw [Bool.eq_iff_iff, decide_eq_true_eq, mem_idsN]
              exact ⟨fun h => h.2, fun h => ⟨hc, h⟩⟩
            · rw [if_neg e])
          have HNX := Lib.hid hnx
          clear hnx hB hin
          go_wp2_with fail
          go_roundw
          case rel => exact ⟨p + 1, by go_num, by omega, HB.out, HNX.out⟩
          case measure => simp [intOf]; omega
    · obtain rfl : n = p := by omega
      obtain ⟨wk, hwk⟩ : ∃ wk, wk = wr := ⟨_, rfl⟩
      subst hwk
      have hxr := (HB.out.block w.heap.size (Array.getElem?_eq_some_iff.1 HX2.out).1).trans HX2.out
      have HXK := Lib.hid hxr
      obtain ⟨y0, y1, y2, y3, y4⟩ := sysC hxr
      have HES := Lib.hid ((HS.out.below HB2.out (Nat.le_refl _)).below HB.out (Nat.le_refl _))
      have hel := HEL.out
      obtain ⟨el, hel2⟩ : ∃ el, el = s.es.length := ⟨_, rfl⟩
      rw [← hel2] at hel y3
      have HELN := Lib.hid hel2
      have HGT : RowKit.Hid (∀ wx, Below wk.heap.size wk wx → ∀ p q, p < n → q < n → ∃ b, wx.cell? ⟨ib, p, none⟩ = some (.slice (some ⟨b, 0, none⟩) n n) ∧ wx.cell? ⟨b, q, none⟩ = some (.bool (F p q)) ∧ ib < wx.heap.size ∧ b < wx.heap.size) := Lib.hid (fun wx hx p q hp hq => by
        obtain ⟨b, h1, h2, h3⟩ := (HI.out.call hx).see hp hp hq
        exact ⟨b, h1, h2, (HI.out.call hx).lt, h3⟩)
      have HFT : RowKit.Hid (∀ p, p < n → ∀ x, F p x = true ↔ TR s p x) := Lib.hid HF.out
      clear hxr hel2 x0 x4 HIN HBW HRS
      go_wp2_with fail
      clear y0 y1 y2 y3 y4
      go_loopw [10, 96] (fun _ v96 wx => ∃ i : Nat, v96 = .int .i64 i ∧ i ≤ el ∧ Below wk.heap.size wk wx) (fun _ v96 _ => el - (intOf v96).toNat)
      case atStart => exact ⟨0, rfl, Nat.zero_le _, Below.refl _ _⟩
      case round =>
        obtain ⟨i, rfl, hi, hBx⟩ := hrel
        have HBX := Lib.hid hBx
        by_cases hie : i < el
        · have hiI : (i : Int) < (el : Int) := by omega
          have hes := HES.out.below hBx (Nat.le_refl _)
          obtain ⟨x, hx⟩ := getElem?_of_lt (xs := s.es) (i := i) (by have := HELN.out; omega)
          obtain rfl := hes.ad (by have := HELN.out; omega)
          have d0 := hes.e0 hx; have d1 := hes.e1 hx; have d2 := hes.e2 hx
          have dl := hes.lt (by have := HELN.out; omega)
          have hxe := offB_false.1 (HR.out.edges _ (List.mem_of_getElem? hx))
          have hnn := HN.out
          obtain ⟨x1, x2, x3⟩ := x
          simp only at hxe d0 d1 d2
          obtain ⟨a, rfl⟩ := Int.eq_ofNat_of_zero_le hxe.1
          obtain ⟨d, rfl⟩ := Int.eq_ofNat_of_zero_le hxe.2.2.2.2.1
          have han : a < n := by omega
          have hdn : d < n := by omega
          have haI : (a : Int) < (n : Int) := by omega
          have hdI : (d : Int) < (n : Int) := by omega
          obtain ⟨bk, g0, g1, gl, gm⟩ := HGT.out _ hBx a d han hdn
          have hst : x2 = 0 → F a d = true := fun e => (HFT.out a han d).2 (TR.one (by subst e; exact List.mem_of_getElem? hx))
          clear hx hes hxe hnn hBx
          by_cases h0 : x2 = 0
          · have ht := hst h0
            rw [ht] at g1
            subst h0
            clear hst ht
            go_wp2_with fail
            go_quiet (fail)
            go_wp2_with fail
            go_roundw
            case rel => exact ⟨i + 1, by go_num, by omega, bdrew (HBX.out.alloc HBX.out.size _)⟩
            case measure => simp [intOf]; omega
          · have hb0 : (x2 == 0) = false := by simp [h0]
            clear hst h0
            go_wp2_with fail
            go_quiet (fail)
            go_wp2_with fail
            go_roundw
            case rel => exact ⟨i + 1, by go_num, by omega, bdrew (HBX.out.alloc HBX.out.size _)⟩
            case measure => simp [intOf]; omega
        · obtain rfl : el = i := by omega
          clear hBx
          go_wp2_with fail
          go_loopw [11, 12, 13] (fun v11 _ _ wx => ∃ p : Nat, v11 = .int .i64 p ∧ p ≤ n ∧ Below wk.heap.size wk wx) (fun v11 _ _ _ => n - (intOf v11).toNat)
          case atStart => exact ⟨0, rfl, Nat.zero_le _, HBX.out⟩
          case round =>
            obtain ⟨p, rfl, hp, hBx⟩ := hrel
            have HBY := Lib.hid hBx
            have hxr := (hBx.block w.heap.size (Array.getElem?_eq_some_iff.1 HXK.out).1).trans HXK.out
            obtain ⟨y0, y1, y2, y3, y4⟩ := sysC hxr
            clear hBx hxr y1 y2 y3 HBX
            by_cases hpn : p < n
            · have hpI : (p : Int) < (n : Int) := by omega
              go_wp2_with fail
              clear y0 y4
              go_loopw [12, 13] (fun v12 _ wx => ∃ q : Nat, v12 = .int .i64 q ∧ q ≤ n ∧ Below wk.heap.size wk wx) (fun v12 _ _ => n - (intOf v12).toNat)
              case atStart => exact ⟨0, rfl, Nat.zero_le _, HBY.out⟩
              case round =>
                obtain ⟨q, rfl, hq, hBx⟩ := hrel
                have HBZ := Lib.hid hBx
                have hxr := (hBx.block w.heap.size (Array.getElem?_eq_some_iff.1 HXK.out).1).trans HXK.out
                obtain ⟨y0, y1, y2, y3, y4⟩ := sysC hxr
                clear hxr y1 y2 y3
                by_cases hqn : q < n
                · have hqI : (q : Int) < (n : Int) := by omega
                  clear hBx
                  go_wp2_with fail
                  clear y0 y4
                  go_loopw [13] (fun v13 wx => ∃ r : Nat, v13 = .int .i64 r ∧ r ≤ n ∧ Below wk.heap.size wk wx) (fun v13 _ => n - (intOf v13).toNat)
                  case atStart => exact ⟨0, rfl, Nat.zero_le _, HBZ.out⟩
                  case round =>
                    obtain ⟨r, rfl, hr, hBx⟩ := hrel
                    have HBV := Lib.hid hBx
                    have hxr := (hBx.block w.heap.size (Array.getElem?_eq_some_iff.1 HXK.out).1).trans HXK.out
                    obtain ⟨y0, y1, y2, y3, y4⟩ := sysC hxr
                    clear hxr y1 y2 y3
                    by_cases hrn : r < n
                    · have hrI : (r : Int) < (n : Int) := by omega
                      obtain ⟨b1, g0, g1, gl, gm⟩ := HGT.out _ hBx p q hpn hqn
                      obtain ⟨b2, k0, k1, kl, km⟩ := HGT.out _ hBx q r hqn hrn
                      obtain ⟨b3, m0, m1, ml, mm⟩ := HGT.out _ hBx p r hpn hrn
                      obtain rfl : b1 = b3 := by
                        rw [m0] at g0
                        simp only [Option.some.injEq, Value.slice.injEq, Addr.mk.injEq, and_true] at g0
                        exact g0.symm
                      have htr : F p q = true → F q r = true → F p r = true := fun e1 e2 => (HFT.out p hpn r).2 (((HFT.out p hpn q).1 e1).trans ((HFT.out q hqn r).1 e2))
                      clear hBx kl ml mm m0
                      by_cases e1 : F p q = true
                      · rw [e1] at g1
                        by_cases e2 : F q r = true
                        · rw [e2] at k1
                          rw [htr e1 e2] at m1
                          clear htr e1 e2
                          go_wp2_with fail
                          go_roundw
                          case rel => exact ⟨r + 1, by go_num, by omega, HBV.out⟩
                          case measure => simp [intOf]; omega
                        · simp only [Bool.not_eq_true] at e2
                          rw [e2] at k1
                          clear htr e1 e2
                          go_wp2_with fail
                          go_roundw
                          case rel => exact ⟨r + 1, by go_num, by omega, HBV.out⟩
                          case measure => simp [intOf]; omega
                      · simp only [Bool.not_eq_true] at e1
                        rw [e1] at g1
                        clear htr e1
                        go_wp2_with fail
                        go_roundw
                        case rel => exact ⟨r + 1, by go_num, by omega, HBV.out⟩
                        case measure => simp [intOf]; omega
                    · obtain rfl : n = r := by omega
                      clear hBx
                      go_wp2_with fail
                      go_roundw
                      case rel => exact ⟨q + 1, by go_num, by omega, HBV.out⟩
                      case measure => simp [intOf]; omega
                · obtain rfl : n = q := by omega
                  obtain ⟨b1, g0, g1, gl, gm⟩ := HGT.out _ hBx p p hpn hpn
                  rw [(HFT.out p hpn p).2 .refl] at g1
                  clear hBx
                  go_wp2_with fail
                  go_roundw
                  case rel => exact ⟨p + 1, by go_num, by omega, HBZ.out⟩
                  case measure => simp [intOf]; omega
            · obtain rfl : n = p := by omega
              go_wp2_with fail
              refine (ALV.out _ ((HB2.out.trans (HB.out.mono HB2.out.size)).trans (HBY.out.mono (Nat.le_trans HB2.out.size HB.out.size)))).mono ?_
              rintro e w9 ⟨rfl, hB, _⟩
              go_wp2
              go_ret
              exact ⟨rfl, hB⟩
end Go.Proofs.YtdhloijdefnkpaaGreatDoor

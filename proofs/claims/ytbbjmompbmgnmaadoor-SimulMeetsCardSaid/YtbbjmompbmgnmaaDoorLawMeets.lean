/-
  law17.SimulMeets.
-/
import Derived.Test.YtbbjmompbmgnmaaDoorSimT
namespace Go.Proofs.YtbbjmompbmgnmaaDoor
open Go.RowKit Pl

theorem stepD_by (s : Lts) (R : Nat → Nat → Bool) (q : Nat) (l : Int) (t : Nat) : stepD s R q (l, (t : Int)) = (withL l (s.outs (q : Int))).any (fun u => R t u.toNat) := by
  unfold stepD withL
  rw [Bool.eq_iff_iff]
  simp only [List.any_eq_true, Bool.and_eq_true, decide_eq_true_eq, Int.toNat_natCast, List.mem_map, List.mem_filter, beq_iff_eq]
  constructor
  · rintro ⟨y, hy, h1, h2⟩
    exact ⟨y.2, ⟨y, ⟨hy, h1⟩, rfl⟩, h2⟩
  · rintro ⟨u, ⟨y, ⟨hy, h1⟩, rfl⟩, h2⟩
    exact ⟨y, hy, h1, h2⟩
theorem any_snoc {α : Type} {l : List α} {k : Nat} {x : α} (f : α → Bool) (h : l[k]? = some x) : (l.take (k + 1)).any f = ((l.take k).any f || f x) := by
  rw [take_snoc h, List.any_append]; simp
theorem all_snoc {α : Type} {l : List α} {k : Nat} {x : α} (f : α → Bool) (h : l[k]? = some x) : (l.take (k + 1)).all f = ((l.take k).all f && f x) := by
  rw [take_snoc h, List.all_append]; simp

set_option maxRecDepth 100000 in
set_option maxHeartbeats 8000000 in
theorem simulMeets_any {w : World} {p0 : Addr} (hG : GErr 0 p0 w) (hT : Tab w) {s : Lts} {a : Option Addr} {b off c : Nat} (hS : SlAt encE 3 w a b off s.es) :
    Calls Tryd.prog 5 #[.agg #[.int .i64 s.st, .int .i64 s.lb, .int .i64 s.s0, .slice a s.es.length c]] w fun e w' => e = .returned (.bool true) ∧ Below w.heap.size w w' := by
  have hB0 := (Below.refl w.heap.size w).alloc (Nat.le_refl _) (Obj.cells #[.int .i64 s.st, .int .i64 s.lb, .int .i64 s.s0, .slice a s.es.length c] 24)
  have hbx := heap_alloc_new w (Obj.cells #[.int .i64 s.st, .int .i64 s.lb, .int .i64 s.s0, .slice a s.es.length c] 24)
  have HG := Lib.hid hG; have HT := Lib.hid hT; have HS := Lib.hid hS; have HB0 := Lib.hid hB0; have HBX := Lib.hid hbx
  have HSM := Lib.hid (small17_any (c := c) (hG.below hB0) (hS.below hB0 (Nat.le_refl _)))
  clear hG hT hS hB0 hbx
  have ALV : RowKit.Hid (∀ w1 : World, Below w.heap.size w w1 → Calls Tryd.prog 13 #[] w1 fun e w' => e = .returned (.bool true) ∧ Below w.heap.size w w') := Lib.hid (by
    intro w1 h1
    refine (alive17_any (HG.out.below h1) (HT.out.below h1)).mono ?_
    rintro e w' ⟨rfl, hB⟩
    exact ⟨rfl, h1.trans (hB.mono h1.size)⟩)
  go_enter Tryd.func5, Tryd.ntmps5
  go_wp2_with fail
  refine HSM.out.mono ?_
  unfold Small17
  rintro e w1 ⟨m, rfl, hm, hB⟩
  have hb1 := HB0.out.trans (hB.mono (by simp))
  have hx1 := (hB.block w.heap.size (by simp)).trans HBX.out
  have HB1 := Lib.hid hb1; have HM := Lib.hid hm
  obtain ⟨x0, x1, x2, x3, x4⟩ := sysS hx1
  have HX1 := Lib.hid hx1
  clear hb1 hm hB hx1 HBX HB0 HSM
  cases m
  · go_wp2_with fail
    refine (ALV.out _ HB1.out).mono ?_
    rintro e w2 ⟨rfl, hB⟩
    go_wp2
    go_ret
    exact ⟨rfl, hB⟩
  obtain ⟨h25, _, hr⟩ := HM.out.1 rfl
  have h0 := hr.st0
  obtain ⟨st, lb, s0, es⟩ := s
  simp only at h25 h0 x0 x1 x2 x3 HX1 HS
  obtain ⟨n, rfl⟩ := Int.eq_ofNat_of_zero_le h0.1
  have hn3 : n ≤ 25 := by omega
  have HR := Lib.hid hr
  have HRN : RowKit.Hid (Lts.Right ⟨n, lb, s0, nf ltE es⟩) := Lib.hid hr.norm
  obtain ⟨t, ht⟩ : ∃ t : Lts, t = ⟨n, lb, s0, nf ltE es⟩ := ⟨_, rfl⟩
  have HTT := Lib.hid ht
  have hst : t.st = (n : Int) := by rw [ht]
  rw [← ht] at HRN
  have HST := Lib.hid hst
  have HAB := Lib.hid (above17_any (c := c) HR.out hn3 (HG.out.below HB1.out) (HT.out.below HB1.out) (HS.out.below HB1.out (Nat.le_refl _)))
  rw [← ht] at HAB
  clear h25 h0 hr ht hst HM
  go_wp2_with fail
  refine HAB.out.mono ?_
  unfold Ab17
  rintro e w2 ⟨R, v, rfl, hgt, htb, hB⟩
  have hb2 := HB1.out.trans (hB.mono HB1.out.size)
  have hx2 := (hB.block w.heap.size x4).trans HX1.out
  clear x0 x1 x2 x3 x4
  have HB2 := Lib.hid hb2; have HGT := Lib.hid hgt; have HTB := Lib.hid htb
  obtain ⟨x0, x1, x2, x3, x4⟩ := sysS hx2
  have HX2 := Lib.hid hx2
  have HCL := Lib.hid (new_ok' (c := c) HR.out (HG.out.below hb2) (HS.out.below hb2 (Nat.le_refl _)))
  rw [← HTT.out] at HCL
  clear hb2 hgt htb hB hx2 HAB HX1 HB1
  go_wp2_with fail
  refine HCL.out.mono ?_
  rintro e w3 ⟨gb, rfl, hgr, hB, _⟩
  have hb3 := HB2.out.trans (hB.mono HB2.out.size)
  have hx3 := (hB.block w.heap.size x4).trans HX2.out
  clear x0 x1 x2 x3 x4
  have HB3 := Lib.hid hb3; have HGR := Lib.hid hgr; have HX3 := Lib.hid hx3
  have HTB3 := Lib.hid (HTB.out.below hB)
  obtain ⟨x0, x1, x2, x3, x4⟩ := sysS hx3
  clear hb3 hx3 hgr hB HCL HX2 HB2 HTB
  obtain ⟨ob, rb, hv, htb⟩ := HTB3.out.ex
  subst hv
  have HTB4 := Lib.hid htb
  clear htb HTB3
  go_wp2_with fail
  clear x0 x1 x2 x3 x4
  go_loopw [7, 8, 9, 11, 12, 14] (fun v7 _ _ _ _ _ wr => ∃ p : Nat, v7 = .int .i64 p ∧ p ≤ n ∧ Below w3.heap.size w3 wr) (fun v7 _ _ _ _ _ _ => n - (intOf v7).toNat)
  case atStart => exact ⟨0, rfl, Nat.zero_le _, Below.refl _ _⟩
  case round =>
    obtain ⟨p, rfl, hp, hbe⟩ := hrel
    have HBE := Lib.hid hbe
    have hx := (hbe.block w.heap.size (Array.getElem?_eq_some_iff.1 HX3.out).1).trans HX3.out
    have y0 : wr.cell? ⟨w.heap.size, 0, none⟩ = some (.int .i64 n) := (sysS hx).1
    have yl := (sysS hx).2.2.2.2
    clear hbe hx
    by_cases hpn : p < n
    · have hpI : (p : Int) < (n : Int) := by omega
      go_wp2_with fail
      go_loopw [8, 9, 11, 12, 14] (fun v8 _ _ _ _ wr => ∃ q : Nat, v8 = .int .i64 q ∧ q ≤ n ∧ Below w3.heap.size w3 wr) (fun v8 _ _ _ _ _ => n - (intOf v8).toNat)
      case atStart => exact ⟨0, rfl, Nat.zero_le _, HBE.out⟩
      case round =>
        obtain ⟨q, rfl, hq, hbe⟩ := hrel
        have HBF := Lib.hid hbe
        have hx := (hbe.block w.heap.size (Array.getElem?_eq_some_iff.1 HX3.out).1).trans HX3.out
        have y0 : wr.cell? ⟨w.heap.size, 0, none⟩ = some (.int .i64 n) := (sysS hx).1
        have yl := (sysS hx).2.2.2.2
        clear hbe hx HBE
        by_cases hqn : q < n
        · have hqI : (q : Int) < (n : Int) := by omega
          have HOUT := Lib.hid (getOut_any (HGR.out.below HBF.out) (p : Int))
          go_wp2_with fail
          refine HOUT.out.mono ?_
          rintro e wq ⟨v, rfl, hown, hB⟩
          obtain ⟨oa, oc, qb, rfl, _, _, hos, _⟩ := slAt_own lenS hown
          have hsl : (t.outs (p : Int)).length ≤ 10000 := outs_len HRN.out _
          have HOS := Lib.hid hos; have HBQ := Lib.hid (HBF.out.trans (hB.mono HBF.out.size))
          clear hown hos hB HOUT HBF y0 yl
          go_wp2_with fail
          go_loopw [9, 11, 12, 14, 51] (fun v9 _ _ _ v51 wr => ∃ k : Nat, v51 = .int .i64 k ∧ k ≤ (t.outs (p : Int)).length ∧ v9 = .bool (((t.outs (p : Int)).take k).all (stepD t R q)) ∧ Below wq.heap.size wq wr) (fun _ _ _ _ v51 _ => (t.outs (p : Int)).length - (intOf v51).toNat)
          case atStart => exact ⟨0, rfl, Nat.zero_le _, by simp, Below.refl _ _⟩
          case round =>
            obtain ⟨k, rfl, hk, rfl, hbk⟩ := hrel
            have HBK := Lib.hid hbk
            have hzk := hbk.size
            clear hbk
            by_cases hkl : k < (t.outs (p : Int)).length
            · obtain ⟨y, hy⟩ := getElem?_of_lt hkl
              have hss := HOS.out.below HBK.out (Nat.le_refl _)
              obtain rfl := hss.ad (by omega)
              have d0 := hss.s0 hy; have d1 := hss.s1 hy
              have dl := hss.lt (by omega)
              simp only [Nat.zero_add] at d0 d1
              have hyr := offB_false.1 (HRN.out.edges _ (mem_outs.1 (List.mem_of_getElem? hy)))
              have hst := HST.out
              obtain ⟨y1, y2⟩ := y
              simp only at hyr d0 d1
              obtain ⟨u, rfl⟩ := Int.eq_ofNat_of_zero_le hyr.2.2.2.2.1
              have hun : u < n := by omega
              have huI : (u : Int) < (n : Int) := by omega
              have hkI : (k : Int) < ((t.outs (p : Int)).length : Int) := by omega
              have HALL := Lib.hid (all_snoc (stepD t R q) hy)
              have hbw := HBQ.out.trans ((HBK.out.alloc hzk (.cells #[.int .i64 y1, .int .i64 u] 49)).mono HBQ.out.size)
              have HBY := Lib.hid (getBy_any (HGR.out.below hbw) (q : Int) y1)
              have hnew := heap_alloc_new wr (.cells #[.int .i64 y1, .int .i64 u] 49)
              have HNEW := Lib.hid hnew
              have HBW := Lib.hid hbw
              clear hy hss hyr hst hbw hnew
              obtain ⟨acc, hacc⟩ : ∃ acc, acc = ((t.outs (p : Int)).take k).all (stepD t R q) := ⟨_, rfl⟩
              rw [← hacc] at HALL ⊢
              clear hacc
              go_wp2_with fail
              refine HBY.out.mono ?_
              rintro e w5 ⟨v, rfl, hown, hB5⟩
              obtain ⟨L, hL⟩ : ∃ L, L = withL y1 (t.outs (q : Int)) := ⟨_, rfl⟩
              rw [← hL] at hown
              obtain ⟨ia, ic, ib, rfl, _, _, hsl, _⟩ := slAt_own lenI hown
              have hLl : L.length ≤ 10000 := by
                rw [hL]; unfold withL; rw [List.length_map]
                have h1 := List.length_filter_le (fun s : S => s.1 == y1) (t.outs (q : Int))
                have h2 := outs_len HRN.out (q : Int)
                omega
              have hrng : ∀ (m : Nat) (z : Int), L[m]? = some z → ∃ i : Nat, i < n ∧ z = (i : Int) := fun m z hz => by
                have h1 := List.mem_of_getElem? hz
                rw [hL] at h1
                unfold withL at h1
                obtain ⟨y, hy, rfl⟩ := List.mem_map.1 h1
                have hyr := offB_false.1 (HRN.out.edges _ (mem_outs.1 (List.mem_filter.1 hy).1))
                have hst := HST.out
                simp only at hyr
                obtain ⟨i, hi⟩ := Int.eq_ofNat_of_zero_le hyr.2.2.2.2.1
                exact ⟨i, by omega, hi⟩
              have HSTP : RowKit.Hid (stepD t R q (y1, (u : Int)) = L.any (fun z => R u z.toNat)) := Lib.hid (by rw [hL]; exact stepD_by t R q y1 u)
              have hst5 := (hB5.block wr.heap.size (by simp)).trans HNEW.out
              have hb5 := (HBK.out.alloc hzk (.cells #[.int .i64 y1, .int .i64 u] 49)).trans (hB5.mono (by simp; omega))
              have HSL := Lib.hid hsl; have HRNG := Lib.hid hrng; have HST5 := Lib.hid hst5; have HB5 := Lib.hid hb5
              obtain ⟨sb, hsb⟩ : ∃ sb, sb = wr.heap.size := ⟨_, rfl⟩
              rw [← hsb] at HST5
              clear hown hB5 hsl hrng hst5 hb5 hL HBY HNEW HBW d0 d1 dl HBK
              go_wp2_with fail
              rw [← hsb]
              clear hsb
              go_loopw [12, 14, 61] (fun v12 _ v61 wx => ∃ m : Nat, v61 = .int .i64 m ∧ m ≤ L.length ∧ v12 = .bool ((L.take m).any (fun z => R u z.toNat)) ∧ Below w5.heap.size w5 wx) (fun _ _ v61 _ => L.length - (intOf v61).toNat)
              case atStart => exact ⟨0, rfl, Nat.zero_le _, by simp, Below.refl _ _⟩
              case round =>
                obtain ⟨m, rfl, hm, rfl, hbm⟩ := hrel
                have HBM := Lib.hid hbm
                obtain ⟨met, hmet⟩ : ∃ met, met = (L.take m).any (fun z => R u z.toNat) := ⟨_, rfl⟩
                rw [← hmet]
                by_cases hml : m < L.length
                · obtain ⟨z, hz⟩ := getElem?_of_lt hml
                  obtain ⟨i, hin, rfl⟩ := HRNG.out m z hz
                  have hiI : (i : Int) < (n : Int) := by omega
                  have hmI : (m : Int) < (L.length : Int) := by omega
                  have hsl := HSL.out.below hbm (Nat.le_refl _)
                  obtain rfl := hsl.ad (by omega)
                  have c0 := hsl.ci hz
                  have cl := hsl.lt (by omega)
                  simp only [Nat.zero_add] at c0
                  have hsx := (hbm.block sb (Array.getElem?_eq_some_iff.1 HST5.out).1).trans HST5.out
                  have d1 : wr.cell? ⟨sb, 1, none⟩ = some (.int .i64 u) := by simp [World.cell?, hsx]
                  have dl := (Array.getElem?_eq_some_iff.1 hsx).1
                  have hbe := HBQ.out.trans ((HB5.out.trans (hbm.mono HB5.out.size)).mono HBQ.out.size)
                  have hob := HTB4.out.1.of_block (hbe.block _ HTB4.out.1.lt)
                  have o1 := hob.cell hun
                  have ol := hob.lt
                  have hru := (HTB4.out.2 u hun).of_block (hbe.block _ (HTB4.out.2 u hun).lt)
                  have r1 := hru.cell hin
                  have rl1 := hru.lt
                  have hnx : (L.take (m + 1)).any (fun z => R u z.toNat) = (met || R u i) := by rw [any_snoc _ hz, ← hmet]; simp
                  have HNX := Lib.hid hnx
                  obtain ⟨bu, hbu⟩ : ∃ bu, bu = R u i := ⟨_, rfl⟩
                  rw [← hbu] at r1 HNX
                  clear hbm hz hsl hsx hbe hob hru hnx hmet hbu
                  cases met
                  · go_wp2_with fail
                    go_roundw
                    case rel => exact ⟨m + 1, by go_num, by omega, by rw [HNX.out]; rfl, HBM.out⟩
                    case measure => simp [intOf]; omega
                  · go_wp2_with fail
                    go_roundw
                    case rel => exact ⟨m + 1, by go_num, by omega, by rw [HNX.out]; rfl, HBM.out⟩
                    case measure => simp [intOf]; omega
                · have hme : m = L.length := by omega
                  have hfin : stepD t R q (y1, (u : Int)) = met := by rw [HSTP.out, hmet, hme, List.take_length]
                  have HFIN := Lib.hid hfin
                  have hbq := HB5.out.trans (hbm.mono HB5.out.size)
                  have HBN := Lib.hid hbq
                  have hmI : ¬ ((m : Int) < (L.length : Int)) := by omega
                  clear hbm hmet hfin hbq
                  cases acc
                  · go_wp2_with fail
                    go_roundw
                    case rel => exact ⟨k + 1, by go_num, by omega, by rw [HALL.out]; rfl, HBN.out⟩
                    case measure => simp [intOf]; omega
                  · go_wp2_with fail
                    go_roundw
                    case rel => exact ⟨k + 1, by go_num, by omega, by rw [HALL.out, HFIN.out]; rfl, HBN.out⟩
                    case measure => simp [intOf]; omega
            · have hke : k = (t.outs (p : Int)).length := by omega
              have hfx : ((t.outs (p : Int)).take k).all (stepD t R q) = R p q := by
                rw [hke, List.take_length, HGT.out.fix HRN.out HST.out hpn hqn]; rfl
              rw [hfx]
              have hkI : ¬ ((k : Int) < ((t.outs (p : Int)).length : Int)) := by omega
              have hbe := HBQ.out.trans (HBK.out.mono HBQ.out.size)
              have hob := HTB4.out.1.of_block (hbe.block _ HTB4.out.1.lt)
              have o1 := hob.cell hpn
              have ol := hob.lt
              have hru := (HTB4.out.2 p hpn).of_block (hbe.block _ (HTB4.out.2 p hpn).lt)
              have r1 := hru.cell hqn
              have rl1 := hru.lt
              have HBE2 := Lib.hid hbe
              obtain ⟨bu, hbu⟩ : ∃ bu, bu = R p q := ⟨_, rfl⟩
              rw [← hbu] at r1 ⊢
              clear hbe hob hru hfx hbu HBK
              go_wp2_with fail
              go_roundw
              case rel => exact ⟨q + 1, by go_num, by omega, HBE2.out⟩
              case measure => simp [intOf]; omega
        · obtain rfl : q = n := by omega
          go_wp2_with fail
          go_roundw
          case rel => exact ⟨p + 1, by go_num, by omega, HBF.out⟩
          case measure => simp [intOf]; omega
    · obtain rfl : p = n := by omega
      have HBZ := Lib.hid (HB3.out.trans (HBE.out.mono HB3.out.size))
      go_wp2_with fail
      refine (ALV.out _ HBZ.out).mono ?_
      rintro e w5 ⟨rfl, hB⟩
      go_wp2
      go_ret
      exact ⟨rfl, hB⟩
end Go.Proofs.YtbbjmompbmgnmaaDoor

/-
  law11.CyclesNone.
-/
import Derived.Test.YtbbjmompbmgnmaaDoorG49
import Derived.Test.YtbbjmompbmgnmaaDoorAlive11
import Derived.Test.YtbbjmompbmgnmaaDoorG31
import Derived.Test.YtbbjmompbmgnmaaDoorG12
import Derived.Deep.RegionWith
import Derived.Deep.QuietTactic
import Derived.BigQuiet
namespace Go.Proofs.YtbbjmompbmgnmaaDoor
open Go.RowKit Pl

/-- The world within CyclesNone behind the first collapse. -/
structure NIn (w wr : World) (n lb s0 : Int) (v : Value) (m : Nat) (t : Lts) (B : Nat) (ea : Option Addr) (eb ec : Nat) : Prop where
  bel : Below w.heap.size w wr
  box : wr.heap[w.heap.size]? = some (.cells #[.int .i64 n, .int .i64 lb, .int .i64 s0, v] 24 (0, 0))
  tb : wr.heap[B]? = some (.cells #[.int .i64 m, .int .i64 t.lb, .int .i64 t.s0, .slice ea t.es.length ec] 24 (0, 0))
  te : SlAt encE 3 wr ea eb 0 t.es
theorem NIn.call {w wr w' : World} {n lb s0 : Int} {v : Value} {m : Nat} {t : Lts} {B : Nat} {ea : Option Addr} {eb ec : Nat} (h : NIn w wr n lb s0 v m t B ea eb ec) (hB : Below wr.heap.size wr w') : NIn w w' n lb s0 v m t B ea eb ec :=
  ⟨h.bel.trans (hB.mono h.bel.size), by rw [hB.block _ (Array.getElem?_eq_some_iff.1 h.box).1]; exact h.box, by rw [hB.block _ (Array.getElem?_eq_some_iff.1 h.tb).1]; exact h.tb, h.te.below hB (Nat.le_refl _)⟩

set_option maxRecDepth 100000 in
set_option maxHeartbeats 4000000 in
theorem cyclesNone_any {w : World} {p : Addr} (hG : GErr 0 p w) (hT : ErrType w) {s : Lts} {a : Option Addr} {b off c : Nat} (hS : SlAt encE 3 w a b off s.es) :
    Calls Tryd.prog 8 #[.agg #[.int .i64 s.st, .int .i64 s.lb, .int .i64 s.s0, .slice a s.es.length c]] w fun e w' => e = .returned (.bool true) ∧ Below w.heap.size w w' := by
  have hB0 := (Below.refl w.heap.size w).alloc (Nat.le_refl _) (Obj.cells #[.int .i64 s.st, .int .i64 s.lb, .int .i64 s.s0, .slice a s.es.length c] 24)
  have hbx := heap_alloc_new w (Obj.cells #[.int .i64 s.st, .int .i64 s.lb, .int .i64 s.s0, .slice a s.es.length c] 24)
  have HG := Lib.hid hG; have HT := Lib.hid (hT.below hB0); have HS := Lib.hid (hS.below hB0 (Nat.le_refl _)); have HB0 := Lib.hid hB0; have HBX := Lib.hid hbx
  clear hG hT hS hB0 hbx
  have ALV : RowKit.Hid (∀ w1 : World, Below w.heap.size w w1 → Calls Tryd.prog 19 #[] w1 fun e w' => e = .returned (.bool true) ∧ Below w.heap.size w w' ∧ Below w1.heap.size w1 w') := Lib.hid (by
    intro w1 h1
    refine (alive11_any (HG.out.below h1)).mono ?_
    rintro e w' ⟨rfl, hB⟩
    exact ⟨rfl, h1.trans (hB.mono h1.size), hB⟩)
  by_cases h60 : 100 < s.st
  · go_enter Tryd.func8, Tryd.ntmps8
    go_wp2_with fail
    refine (ALV.out _ HB0.out).mono ?_
    rintro e w1 ⟨rfl, hB, _⟩
    go_wp2
    go_ret
    exact ⟨rfl, hB⟩
  by_cases h300 : 600 < s.es.length
  · have hi : (600 : Int) < (s.es.length : Int) := by omega
    go_enter Tryd.func8, Tryd.ntmps8
    go_wp2_with fail
    refine (ALV.out _ HB0.out).mono ?_
    rintro e w1 ⟨rfl, hB, _⟩
    go_wp2
    go_ret
    exact ⟨rfl, hB⟩
  have hi : ¬ (600 : Int) < (s.es.length : Int) := by omega
  by_cases hr : s.Right
  case neg =>
    go_enter Tryd.func8, Tryd.ntmps8
    go_wp2_with fail
    refine (collapseNo_any (c := c) hr (HG.out.below HB0.out) HT.out HS.out).mono ?_
    rintro e w1 ⟨v, rfl, hF, hB1⟩
    obtain ⟨vi, hf1, hf2⟩ := id hF
    obtain ⟨fb, rfl, _⟩ := hf1.ex
    have HB1 := Lib.hid (HB0.out.trans (hB1.mono (by simp)))
    have HB2 := Lib.hid (bAlloc HB1.out (.cells #[.int .i64 0, .int .i64 0, .int .i64 0, .slice none 0 0] 24))
    have HF := Lib.hid (hF.below (bAlloc (Below.refl w1.heap.size w1) (.cells #[.int .i64 0, .int .i64 0, .int .i64 0, .slice none 0 0] 24)))
    clear hf1 hf2 hF hB1 hr
    go_wp2_with fail
    refine (ALV.out _ HB2.out).mono ?_
    rintro e w2 ⟨rfl, hB, hBs⟩
    have hg := (HG.out.below hB).cell
    have HF2 := Lib.hid (HF.out.below hBs)
    have HB := Lib.hid hB
    clear hB hBs
    go_wp2_with fail
    refine (is_Fault2 HF2.out).mono ?_
    rintro e w3 ⟨rfl, rfl⟩
    go_wp2
    go_ret
    exact ⟨rfl, HB.out⟩
  case pos =>
  have hst := hr.st0
  obtain ⟨n, hn⟩ : ∃ n : Nat, s.st = (n : Int) := ⟨s.st.toNat, by omega⟩
  have hn60 : n ≤ 100 := by omega
  have HCO := Lib.hid (collapseYes_any (c := c) hr hn (HG.out.below HB0.out) HS.out)
  have HR := Lib.hid hr; have HN := Lib.hid hn
  rw [hn] at HCO HB0 HBX HS HT ⊢
  clear hr hn hst h60
  have HEL := Lib.hid (show s.es.length ≤ 600 by omega)
  have hn60' : ¬ (100 : Int) < (n : Int) := by omega
  go_enter Tryd.func8, Tryd.ntmps8
  go_wp2_with fail
  refine HCO.out.mono ?_
  rintro e w1 ⟨f, v, ve, hcyc, rfl, hown, howne, hB1⟩
  obtain ⟨C, hC⟩ : ∃ C, C = fl n (clf n f) := ⟨_, rfl⟩
  have hCl : C.length = n := by rw [hC, fl_len]
  rw [← hC] at hown howne ⊢
  obtain ⟨t, ht⟩ : ∃ t, t = col s C := ⟨_, rfl⟩
  rw [← ht] at howne ⊢
  have hown' : w1.ownsRow (w.alloc (Obj.cells #[.int .i64 n, .int .i64 s.lb, .int .i64 s.s0, .slice a s.es.length c] 24)).heap.size 3 1 v C.length (C.flatMap encI) := by rw [hCl]; exact hown
  obtain ⟨ca, cc, cb, rfl, _, _, hcs, _⟩ := slAt_own lenI hown'
  obtain ⟨ea, ec, eb, rfl, _, _, hes, _⟩ := slAt_own lenE howne
  rw [hCl] at hown ⊢
  have htst : t.st = ((dist C).length : Int) := by rw [ht]; rfl
  obtain ⟨m, hm⟩ : ∃ m, m = (dist C).length := ⟨_, rfl⟩
  rw [← hm] at htst
  have hmn : m ≤ n := by rw [hm, ← hCl]; exact dist_len C
  have htl3 : t.es.length ≤ 600 := by
    rw [ht]
    have h1 := colE_len C s.es
    have h2 := length_nf (lt := ltE) (colE C s.es)
    have h3 := HEL.out
    show (nf ltE (colE C s.es)).length ≤ 600
    omega
  rw [htst]
  have hx1 := (hB1.block w.heap.size (by simp)).trans HBX.out
  have hb1 := HB0.out.trans (hB1.mono (by simp))
  have hBe := bAlloc (Below.refl w1.heap.size w1) (Obj.cells #[.int .i64 m, .int .i64 t.lb, .int .i64 t.s0, .slice ea t.es.length ec] 24)
  have hN0 : NIn w (w1.alloc (Obj.cells #[.int .i64 m, .int .i64 t.lb, .int .i64 t.s0, .slice ea t.es.length ec] 24)) n s.lb s.s0 (.slice a s.es.length c) m t w1.heap.size ea eb ec :=
    ⟨hb1.trans (hBe.mono hb1.size), (hBe.block w.heap.size (Array.getElem?_eq_some_iff.1 hx1).1).trans hx1, heap_alloc_new w1 _, hes.below hBe (Nat.le_refl _)⟩
  have HTR : RowKit.Hid (t.Right) := Lib.hid (by rw [ht, hC]; exact col_right HR.out HN.out)
  rw [hC] at ht
  have HCS := Lib.hid (fun (W : World) (hg : GErr 0 p W) (h : SlAt encE 3 W ea eb 0 t.es) => collapseSelf_any (c := ec) HR.out HN.out hcyc ht htst hg h)
  have HOS := Lib.hid (fun (W : World) (hg : GErr 0 p W) (h : SlAt encE 3 W ea eb 0 t.es) => orderSelf_any (c := ec) HR.out HN.out hcyc ht htst hg h)
  have HSRT : RowKit.Hid (Srt ltE t.es) := Lib.hid (by rw [ht]; exact col_srt s _)
  have HTST := Lib.hid htst; have HNI := Lib.hid hN0; have HTL := Lib.hid htl3
  obtain ⟨tb, htb⟩ : ∃ tb, tb = w1.heap.size := ⟨_, rfl⟩
  rw [← htb] at HNI
  have HTB := Lib.hid htb
  clear htst hN0 hBe hx1 hb1 hown hown' howne hcs hes hB1 HCO HBX HB0 HS HT hC ht htb hCl hm hcyc
  go_upto_region 4 with fail
  obtain ⟨W, hW⟩ : ∃ W, W = w1.alloc (Obj.cells #[.int .i64 m, .int .i64 t.lb, .int .i64 t.s0, .slice ea t.es.length ec] 24) := ⟨_, rfl⟩
  rw [← hW] at HNI ⊢
  rw [← HTB.out]
  clear hW
  obtain ⟨x0, x1, x2, x3, x4⟩ := sysC HNI.out.box
  obtain ⟨y0, y1, y2, y3, y4⟩ := sysC HNI.out.tb
  go_wp2_with fail
  refine (HCS.out _ (HG.out.below HNI.out.bel) HNI.out.te).mono ?_
  rintro e w2 ⟨v, ve, rfl, ⟨L, hL, hown⟩, howne, hB⟩
  obtain ⟨da, dc, db, rfl, _, _, hds, _⟩ := slAt_own lenI hown
  obtain ⟨ga, gc, gb, rfl, _, _, hgs, _⟩ := slAt_own lenE howne
  have HNI2 := Lib.hid (HNI.out.call hB)
  rw [hL]
  have HGS := Lib.hid hgs
  clear hown howne hB hds hgs HNI x0 x1 x2 x3 x4 y0 y1 y2 y3 y4 hL
  go_upto_region 7 with fail
  have hb3 := bAlloc (Below.refl w2.heap.size w2) (Obj.cells #[.int .i64 m, .int .i64 t.lb, .int .i64 t.s0, .slice ga t.es.length gc] 24)
  have HNI3 := Lib.hid (HNI2.out.call hb3)
  have hu3 := heap_alloc_new w2 (Obj.cells #[.int .i64 m, .int .i64 t.lb, .int .i64 t.s0, .slice ga t.es.length gc] 24)
  have HGS3 := Lib.hid (HGS.out.below hb3 (Nat.le_refl _))
  obtain ⟨W3, hW3⟩ : ∃ W3, W3 = w2.alloc (Obj.cells #[.int .i64 m, .int .i64 t.lb, .int .i64 t.s0, .slice ga t.es.length gc] 24) := ⟨_, rfl⟩
  rw [← hW3] at HNI3 HGS3 hu3 hb3 ⊢
  obtain ⟨x0, x1, x2, x3, x4⟩ := sysC HNI3.out.box
  obtain ⟨y0, y1, y2, y3, y4⟩ := sysC HNI3.out.tb
  obtain ⟨z0, z1, z2, z3, z4⟩ := sysC hu3
  clear hW3 hu3 hb3 HNI2 HGS HTB
  go_wp2_with fail
  refine (sameSystem_yes (m : Int) t.lb t.s0 (c1 := ec) (c2 := gc) HNI3.out.te HGS3.out (by have := HTL.out; omega)).mono ?_
  rintro e w4 ⟨rfl, hB⟩
  have HNI4 := Lib.hid (HNI3.out.call hB)
  clear hB HNI3 HGS3 x0 x1 x2 x3 x4 y0 y1 y2 y3 y4 z0 z1 z2 z3 z4
  obtain ⟨x0, x1, x2, x3, x4⟩ := sysC HNI4.out.box
  obtain ⟨y0, y1, y2, y3, y4⟩ := sysC HNI4.out.tb
  go_wp2_with fail
  refine (HOS.out _ (HG.out.below HNI4.out.bel) HNI4.out.te).mono ?_
  rintro e w5 ⟨D, v, rfl, hD, hDl, hDa, hown, hB⟩
  obtain ⟨oa, oc, ob, rfl, _, _, hos, _⟩ := slAt_own lenI hown
  have HNI5 := Lib.hid (HNI4.out.call hB)
  rw [List.length_map, hDl]
  have HD := Lib.hid hD; have HDL := Lib.hid hDl; have HDA := Lib.hid hDa; have HOS5 := Lib.hid hos
  clear hown hB hos hD hDl hDa HNI4 x0 x1 x2 x3 x4 y0 y1 y2 y3 y4 HCS HOS
  obtain ⟨x0, x1, x2, x3, x4⟩ := sysC HNI5.out.box
  obtain ⟨y0, y1, y2, y3, y4⟩ := sysC HNI5.out.tb
  have hmk := run_make_row' (P := Tryd.prog) 25 3 (.int .i64 0) 8 Tryd.underlying25 (by kernel_rfl) rfl .i64 .i64 m (by omega) (by omega)
  go_wp2_with fail
  have hq : OQ w5 (w5.alloc (.cells (madeCells #[.int .i64 0] m) 3)) m (plc D 0) :=
    ⟨(World.rowIs_made w5 (.int .i64 0) m 3).congr (fun j _ => by rw [plc_nil]), bAlloc (Below.refl _ _) _⟩
  have HQ := Lib.hid hq
  clear hq hmk x0 x1 x2 x3 x4 y0 y1 y2 y3 y4
  have hkm0 : m ≤ 100 := by omega
  have HM := Lib.hid hmn
  clear hmn
  go_loopw [12] (fun v12 wr => ∃ i : Nat, v12 = .int .i64 i ∧ i ≤ m ∧ OQ w5 wr m (plc D i)) (fun v12 _ => m - (intOf v12).toNat)
  case atStart => exact ⟨0, rfl, Nat.zero_le _, HQ.out⟩
  case round =>
    obtain ⟨i, rfl, hi2, hoq⟩ := hrel
    have HOQ := Lib.hid hoq
    have hszr := hoq.bel.size
    have hlr := hoq.rows.lt
    clear hoq HQ
    by_cases hlt : i < m
    · obtain ⟨k, hk⟩ := getElem?_of_lt (xs := D) (i := i) (by have := HDL.out; omega)
      have hkm := HD.out.rng k (List.mem_of_getElem? hk)
      have hosr := HOS5.out.below HOQ.out.bel (Nat.le_refl _)
      have hkI : (D.map Int.ofNat)[i]? = some (k : Int) := by rw [List.getElem?_map, hk]; rfl
      obtain rfl := hosr.ad (by rw [List.length_map]; have := HDL.out; omega)
      have c1 := hosr.ci hkI
      have l1 := hosr.lt (by rw [List.length_map]; have := HDL.out; omega)
      have c2 := HOQ.out.rows.cell hkm
      have f2 := HOQ.out.rows.frozen k
      rw [plc_free HD.out.nodup hk] at c2
      obtain ⟨y0, y1, y2, y3, y4⟩ := sysC ((HNI5.out.call HOQ.out.bel).tb)
      simp only [Nat.zero_add] at c1
      have hnx : OQ w5 (wr.setCell ⟨w5.heap.size, k, none⟩ (.int .i64 ((i : Int) + 1))) m (plc D (i + 1)) := (HOQ.out.set k ((i : Int) + 1)).congr (fun j _ => by rw [plc_snoc HD.out.nodup hk])
      have HNX := Lib.hid hnx
      have hk0 : decide ((k : Int) < 0) = false := by simp
      have hk1 : decide (m ≤ k) = false := by simp; omega
      have hkI2 : (k : Int) < (m : Int) := by omega
      have hiI : (i : Int) < (m : Int) := by omega
      clear hk hosr hkI HOQ y1 y2 y3
      go_wp2_with fail
      go_quiet (fail)
      go_wp2_with fail
      go_roundw
      case rel => exact ⟨i + 1, by go_num, by omega, HNX.out.call (bdrew (Below.refl _ _))⟩
      case measure => simp [intOf]; omega
    · have him : m = i := by omega
      subst him
      obtain ⟨wq, hwq⟩ : ∃ wq, wq = wr := ⟨_, rfl⟩
      subst hwq
      obtain ⟨y0, y1, y2, y3, y4⟩ := sysC ((HNI5.out.call HOQ.out.bel).tb)
      have HWQ := Lib.hid (HOQ.out)
      clear HOQ
      go_wp2_with fail
      go_loopw [14, 125] (fun _ v125 wx => ∃ i : Nat, v125 = .int .i64 i ∧ i ≤ t.es.length ∧ OQ w5 wx m (plc D m)) (fun _ v125 _ => t.es.length - (intOf v125).toNat)
      case atStart => exact ⟨0, rfl, Nat.zero_le _, HWQ.out⟩
      case round =>
        obtain ⟨i, rfl, hi3, hoq⟩ := hrel
        have HOX := Lib.hid hoq
        have hszx := hoq.bel.size
        have hlx := hoq.rows.lt
        clear hoq HWQ y0 y1 y2 y3 y4
        have htl : (t.es.length : Int) ≤ 600 := by have := HTL.out; omega
        by_cases hlt2 : i < t.es.length
        · obtain ⟨x, hx⟩ := getElem?_of_lt (xs := t.es) (i := i) hlt2
          have her := (HNI5.out.call HOX.out.bel).te
          obtain rfl := her.ad (by omega)
          have d0 := her.e0 hx; have d1 := her.e1 hx; have d2 := her.e2 hx
          have dl := her.lt (by omega)
          simp only [Nat.zero_add] at d0 d1 d2
          have hxr := offB_false.1 (HTR.out.edges x (List.mem_of_getElem? hx))
          have hxm := List.mem_of_getElem? hx
          obtain ⟨x1', x2', x3'⟩ := x
          simp only at hxr d0 d1 d2
          obtain ⟨i1, rfl⟩ := Int.eq_ofNat_of_zero_le hxr.1
          obtain ⟨i3, rfl⟩ := Int.eq_ofNat_of_zero_le hxr.2.2.2.2.1
          have htst := HTST.out
          have h1n : i1 < m := by omega
          have h3n : i3 < m := by omega
          have h1nI : (i1 : Int) < (m : Int) := by omega
          have h3nI : (i3 : Int) < (m : Int) := by omega
          have hdn : x2' = 0 → plc D m i3 < plc D m i1 := fun e => plc_down HTR.out HSRT.out HD.out (by have := HDL.out; omega) (HDA.out i1 h1n) (by rw [e] at hxm; exact hxm)
          have c1 := HOX.out.rows.cell h1n
          have c3 := HOX.out.rows.cell h3n
          obtain ⟨p1, hp1⟩ : ∃ p1, p1 = plc D m i1 := ⟨_, rfl⟩
          obtain ⟨p3, hp3⟩ : ∃ p3, p3 = plc D m i3 := ⟨_, rfl⟩
          rw [← hp1] at c1 hdn; rw [← hp3] at c3 hdn
          have hnx : ∀ u, OQ w5 ((wr.alloc (.cells #[.int .i64 i1, .int .i64 x2', .int .i64 i3] 35)).drewN u) m (plc D m) := fun u => HOX.out.call (bdrew (bAlloc (Below.refl _ _) _))
          have HNX := Lib.hid hnx
          have hiI : (i : Int) < (t.es.length : Int) := by omega
          clear hx her hxr hxm htst hp1 hp3 hnx HOX
          by_cases hx0 : x2' = 0
          · have hp := hdn hx0
            have hd : decide (p1 ≤ p3) = false := by simp; omega
            subst hx0
            clear hdn hp
            go_wp2_with fail
            go_quiet (fail)
            go_wp2_with fail
            go_roundw
            case rel => exact ⟨i + 1, by go_num, by omega, HNX.out _⟩
            case measure => simp [intOf]; omega
          · have hb : (x2' == 0) = false := by simp [hx0]
            clear hdn hx0
            go_wp2_with fail
            go_quiet (fail)
            go_wp2_with fail
            go_roundw
            case rel => exact ⟨i + 1, by go_num, by omega, HNX.out _⟩
            case measure => simp [intOf]; omega
        · go_wp2_with fail
          refine (ALV.out _ (HNI5.out.bel.trans (HOX.out.bel.mono HNI5.out.bel.size))).mono ?_
          rintro e w9 ⟨rfl, hB, _⟩
          go_wp2
          go_ret
          exact ⟨rfl, hB⟩
end Go.Proofs.YtbbjmompbmgnmaaDoor

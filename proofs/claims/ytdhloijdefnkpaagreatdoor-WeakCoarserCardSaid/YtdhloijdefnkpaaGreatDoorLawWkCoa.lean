/-
  law13.WeakCoarser.
-/
import Derived.Test.YtdhloijdefnkpaaGreatDoorAlive13
import Derived.Test.YtdhloijdefnkpaaGreatDoorGBrV
namespace Go.Proofs.YtdhloijdefnkpaaGreatDoor
open Go.RowKit Pl

open Classical in
theorem kOk_ex (s : Lts) (n lb : Nat) : ∃ K, KOk s n lb K := ⟨fun p l q => decide (wst s p (l : Int) q), fun p l q _ _ _ => by simp⟩

set_option maxRecDepth 100000 in
set_option maxHeartbeats 8000000 in
theorem wkCoarser_any {w : World} {p pe : Addr} (hG : WkErr p w) (hGE : GErr 0 pe w) (hT : ErrType w) (hTab : Tab w) (htab : Lib.TabIs Tryz.prog w "internal/strconv.uint64pow10" .u64 Lib.pow10Tab) {s : Lts} {a : Option Addr} {b off c : Nat} (hS : SlAt encE 3 w a b off s.es) :
    Calls Tryz.prog 6 #[.agg #[.int .i64 s.st, .int .i64 s.lb, .int .i64 s.s0, .slice a s.es.length c]] w fun e w' => e = .returned (.bool true) ∧ Below w.heap.size w w' := by
  have hB0 := (Below.refl w.heap.size w).alloc (Nat.le_refl _) (Obj.cells #[.int .i64 s.st, .int .i64 s.lb, .int .i64 s.s0, .slice a s.es.length c] 24)
  have hbx := heap_alloc_new w (Obj.cells #[.int .i64 s.st, .int .i64 s.lb, .int .i64 s.s0, .slice a s.es.length c] 24)
  have HG := Lib.hid hG; have HTY := Lib.hid hT; have HT := Lib.hid (Lib.tabBelow_of_tabIs htab); have HTB := Lib.hid hTab; have HS := Lib.hid hS; have HB0 := Lib.hid hB0; have HBX := Lib.hid hbx
  have ALV : RowKit.Hid (∀ w1 : World, Below w.heap.size w w1 → Calls Tryz.prog 10 #[] w1 fun e w' => e = .returned (.bool true) ∧ Below w.heap.size w w' ∧ Below w1.heap.size w1 w') := Lib.hid (by
    intro w1 h1
    refine (alive13_any (hG.below h1) (hGE.below h1) (hTab.below h1)).mono ?_
    rintro e w' ⟨rfl, hB⟩
    exact ⟨rfl, h1.trans (hB.mono h1.size), hB⟩)
  clear hG hGE hT hTab htab hS hB0 hbx
  by_cases h40 : 40 < s.st
  · have e1 : decide (40 < s.st) = true := by simp [h40]
    clear HBX
    go_enter Tryz.func6, Tryz.ntmps6
    go_wp2_with fail
    refine (ALV.out _ HB0.out).mono ?_
    rintro e w2 ⟨rfl, hB, _⟩
    go_wp2
    go_ret
    exact ⟨rfl, hB⟩
  have e1 : decide (40 < s.st) = false := by simp [h40]
  by_cases h300 : 300 < (s.es.length : Int)
  · have e2 : decide (300 < (s.es.length : Int)) = true := by simp [h300]
    clear HBX
    go_enter Tryz.func6, Tryz.ntmps6
    go_wp2_with fail
    refine (ALV.out _ HB0.out).mono ?_
    rintro e w2 ⟨rfl, hB, _⟩
    go_wp2
    go_ret
    exact ⟨rfl, hB⟩
  have e2 : decide (300 < (s.es.length : Int)) = false := by simp [h300]
  by_cases hr : s.Right
  case neg =>
    have HCO := Lib.hid (weakClassesNo_any (c := c) hr (HG.out.below HB0.out) (HTY.out.below HB0.out) (HS.out.below HB0.out (Nat.le_refl _)))
    go_enter Tryz.func6, Tryz.ntmps6
    go_wp2_with fail
    refine HCO.out.mono ?_
    rintro e w2 ⟨v, rfl, hf, hB2⟩
    obtain ⟨v1, hf, _⟩ := hf
    obtain ⟨fb, rfl, _⟩ := hf.ex
    have hb2 := HB0.out.trans (hB2.mono (by simp))
    have hx2 := (hB2.block w.heap.size (by simp)).trans HBX.out
    have HB2 := Lib.hid hb2
    have HCL := Lib.hid (brClassesNo_any (c := c) hr (HG.out.below hb2).sys (HTY.out.below hb2) (HS.out.below hb2 (Nat.le_refl _)))
    obtain ⟨x0, x1, x2, x3, x4⟩ := sysB hx2
    clear hB2 hb2 hx2 hf HCO HB0 HBX hr e1 e2
    go_wp2_with fail
    refine HCL.out.mono ?_
    rintro e w4 ⟨fb2, rfl, hB4⟩
    have HB4 := Lib.hid (HB2.out.trans (hB4.mono HB2.out.size))
    clear hB4 HCL HB2 x0 x1 x2 x3 x4
    go_wp2_with fail
    refine (ALV.out _ HB4.out).mono ?_
    rintro e w5 ⟨rfl, hB, _⟩
    have HB := Lib.hid hB
    clear hB
    go_wp2_with fail
    go_ret
    exact ⟨rfl, HB.out⟩
  case pos =>
  have hst := hr.st0
  obtain ⟨n, hn⟩ : ∃ n : Nat, s.st = (n : Int) := ⟨s.st.toNat, by omega⟩
  obtain ⟨lb, hlb⟩ : ∃ lb : Nat, s.lb = (lb : Int) := ⟨s.lb.toNat, by omega⟩
  have hn40 : n ≤ 40 := by omega
  have HR := Lib.hid hr; have HN := Lib.hid hn; have HLB := Lib.hid hlb
  have hsc := weakClasses_any (c := c) hr hn hlb (by omega) (HG.out.below HB0.out) (HTB.out.below HB0.out) (HS.out.below HB0.out (Nat.le_refl _))
  have HSC := Lib.hid hsc
  have HEL : RowKit.Hid (s.es.length ≤ 300) := Lib.hid (by omega)
  clear hr hlb hst hsc hn
  go_enter Tryz.func6, Tryz.ntmps6
  go_wp2_with fail
  refine HSC.out.mono ?_
  rintro e w2 ⟨cb, D, rfl, hds, hres, _, hB2⟩
  have hb2 := HB0.out.trans (hB2.mono (by simp))
  have hx2 := (hB2.block w.heap.size (by simp)).trans HBX.out
  have hcl := brClasses_any (c := c) HR.out HN.out (by have := HEL.out; omega) (HG.out.below hb2).sys (HT.out _ hb2) (HS.out.below hb2 (Nat.le_refl _))
  have HCL := Lib.hid hcl; have HB2 := Lib.hid hb2; have HX2 := Lib.hid hx2; have HDS := Lib.hid hds; have HRES := Lib.hid hres
  obtain ⟨x0, x1, x2, x3, x4⟩ := sysB hx2
  clear hB2 hb2 hx2 hds hres hcl HSC HB0 HBX e1 e2 h40 h300
  go_wp2_with fail
  refine HCL.out.mono ?_
  unfold BrPost
  rintro e w3 ⟨R, ra, rb, rc, hres, rfl, _, hrs, hB3⟩
  obtain ⟨C, hbig, rfl, hz1, hz2⟩ := hres.big HR.out HN.out
  clear hz1 hz2
  have hb3 := HB2.out.trans (hB3.mono HB2.out.size)
  have HX3 := Lib.hid ((hB3.block w.heap.size x4).trans HX2.out)
  have hds3 := HDS.out.below hB3 (Nat.le_refl _)
  have HB4 := Lib.hid hb3; have HRS4 := Lib.hid hrs; have HDS4 := Lib.hid hds3
  have HCO : RowKit.Hid (∀ i j, i < n → j < n → C i = C j → D i = D j) := Lib.hid (fun i j hi hj e => by
    obtain ⟨K, hK⟩ := kOk_ex s n lb
    exact br_weak HR.out HN.out HLB.out hK hbig (HRES.out.big K hK) hi hj e)
  clear x0 x1 x2 x3 x4 hb3 hds3 hrs hres hbig hB3 HB2 HX2 HDS HRES HCL
  have HX4 := Lib.hid HX3.out
  rw [HN.out] at HX4
  obtain ⟨x0, x1, x2, x3, x4⟩ := sysB HX4.out
  obtain ⟨W, hW⟩ : ∃ W, W = w3 := ⟨_, rfl⟩
  subst hW
  clear HX3
  go_wp2_with fail
  clear x0 x1 x2 x3 x4
  go_loopw [7, 8] (fun v7 _ wx => ∃ i : Nat, v7 = .int .i64 i ∧ i ≤ n ∧ Below W.heap.size W wx) (fun v7 _ _ => n - (intOf v7).toNat)
  case atStart => exact ⟨0, rfl, Nat.zero_le _, Below.refl _ _⟩
  case round =>
    obtain ⟨i, rfl, hi, hBx⟩ := hrel
    have HBX := Lib.hid hBx
    have hxo := (hBx.block w.heap.size (Array.getElem?_eq_some_iff.1 HX4.out).1).trans HX4.out
    obtain ⟨x0, x1, x2, x3, x4⟩ := sysB hxo
    clear hBx hxo x1 x2 x3
    by_cases hin : i < n
    · have hiI : (i : Int) < (n : Int) := by omega
      go_wp2_with fail
      clear x0 x4
      go_loopw [8] (fun v8 wy => ∃ j : Nat, v8 = .int .i64 j ∧ j ≤ i ∧ Below W.heap.size W wy) (fun v8 _ => i - (intOf v8).toNat)
      case atStart => exact ⟨0, rfl, Nat.zero_le _, HBX.out⟩
      case round =>
        obtain ⟨j, rfl, hj, hBy⟩ := hrel
        have HBY := Lib.hid hBy
        by_cases hji : j < i
        · have hjn : j < n := by omega
          have hrs := HRS4.out.below hBy (Nat.le_refl _)
          have hds := HDS4.out.below hBy (Nat.le_refl _)
          obtain rfl := hrs.ad (by rw [fl_len]; omega)
          have r0 := hrs.ci (fl_get C hin); have r1 := hrs.ci (fl_get C hjn); have rl := hrs.lt (by rw [fl_len]; omega)
          have d0 := hds.ci (fl_get D hin); have d1 := hds.ci (fl_get D hjn); have dl := hds.lt (by rw [fl_len]; omega)
          simp only [Nat.zero_add] at r0 r1 d0 d1
          have hst1 : C i = C j → D i = D j := fun e => HCO.out i j hin hjn e
          obtain ⟨ci, hci⟩ : ∃ ci, ci = C i := ⟨_, rfl⟩
          obtain ⟨cj, hcj⟩ : ∃ cj, cj = C j := ⟨_, rfl⟩
          obtain ⟨di, hdi⟩ : ∃ di, di = D i := ⟨_, rfl⟩
          obtain ⟨dj, hdj⟩ : ∃ dj, dj = D j := ⟨_, rfl⟩
          rw [← hci] at r0 hst1; rw [← hcj] at r1 hst1; rw [← hdi] at d0 hst1; rw [← hdj] at d1 hst1
          have hjI : (j : Int) < (i : Int) := by omega
          have hjnI : (j : Int) < (n : Int) := by omega
          clear hrs hds hci hcj hdi hdj hBy
          by_cases he : ci = cj
          · have he2 := hst1 he
            subst he; subst he2
            clear hst1
            go_wp2_with fail
            go_quiet (fail)
            go_wp2_with fail
            go_roundw
            case rel => exact ⟨j + 1, by go_num, by omega, bdrew HBY.out⟩
            case measure => simp [intOf]; omega
          · have hb2 : (ci == cj) = false := by simp [he]
            clear hst1 he
            go_wp2_with fail
            go_quiet (fail)
            go_wp2_with fail
            go_roundw
            case rel => exact ⟨j + 1, by go_num, by omega, bdrew HBY.out⟩
            case measure => simp [intOf]; omega
        · obtain rfl : i = j := by omega
          clear hBy
          go_wp2_with fail
          go_roundw
          case rel => exact ⟨i + 1, by go_num, by omega, HBY.out⟩
          case measure => simp [intOf]; omega
    · obtain rfl : n = i := by omega
      go_wp2_with fail
      refine (ALV.out _ (HB4.out.trans (HBX.out.mono HB4.out.size))).mono ?_
      rintro e w9 ⟨rfl, hB, _⟩
      go_wp2
      go_ret
      exact ⟨rfl, hB⟩
end Go.Proofs.YtdhloijdefnkpaaGreatDoor

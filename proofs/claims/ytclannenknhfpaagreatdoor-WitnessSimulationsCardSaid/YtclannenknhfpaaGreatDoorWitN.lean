/-
  witness.Simulation, whatever the pairs.
-/
import Derived.Test.YtclannenknhfpaaGreatDoorGWitK
import Derived.Test.YtclannenknhfpaaGreatDoorWitH
namespace Go.Proofs.YtclannenknhfpaaGreatDoor
open Go.RowKit Pl

attribute [local go_sem ↓] Go.wp_at_zero Go.wp_at_succ

/-- The first pair that fails, and its step. -/
def simR (s : Lts) (Z : List (Int × Int)) : Option ((Int × Int) × S) := Z.findSome? (fun z => (failP s Z z.1 z.2).map (fun x => (z, x)))
def SimE (o : Option ((Int × Int) × S)) (e : Ending) : Prop :=
  match o with
  | some y => e = .returned (.tuple #[.agg #[.int .i64 y.1.1, .int .i64 y.1.2, .int .i64 y.2.1, .int .i64 y.2.2], .bool false, .nilIface])
  | none => e = .returned (.tuple #[.agg #[.int .i64 0, .int .i64 0, .int .i64 0, .int .i64 0], .bool true, .nilIface])
theorem simR_none {s : Lts} {Z : List (Int × Int)} (h : ∀ z ∈ Z, failP s Z z.1 z.2 = none) : simR s Z = none := by
  unfold simR
  rw [List.findSome?_eq_none_iff]
  intro z hz
  rw [h z hz]; rfl
theorem simR_some {s : Lts} {Z : List (Int × Int)} {j : Nat} {z : Int × Int} {x : S} (hz : Z[j]? = some z) (h : ∀ y ∈ Z.take j, failP s Z y.1 y.2 = none) (hx : failP s Z z.1 z.2 = some x) : simR s Z = some (z, x) := by
  obtain ⟨hj, hj2⟩ := List.getElem?_eq_some_iff.1 hz
  have e : Z = Z.take j ++ z :: Z.drop (j + 1) := by rw [← hj2, ← List.drop_eq_getElem_cons hj, List.take_append_drop]
  unfold simR
  rw [e, List.findSome?_append, ← e, List.findSome?_eq_none_iff.2 (fun y hy => by rw [h y hy]; rfl), List.findSome?_cons, hx]
  rfl

set_option maxRecDepth 100000 in
set_option maxHeartbeats 4000000 in
theorem simulationG_any {p : Addr} {s : Lts} {n : Nat} (h : s.Right) (hn : s.st = (n : Int)) (hn3 : n ≤ 300) {a : Option Addr} {b off c : Nat} {w : World} (hG : GErr 15 p w) (hS : SlAt encE 3 w a b off s.es)
    {Z : List (Int × Int)} (hZ : Z.length ≤ 10000) (hok : ∀ z ∈ Z, 0 ≤ z.1 ∧ z.1 < (n : Int) ∧ 0 ≤ z.2 ∧ z.2 < (n : Int)) {za : Option Addr} {zb zo zc : Nat} (hZS : SlAt encPr 2 w za zb zo Z) :
    Calls Tryz.prog 8 #[.agg #[.int .i64 s.st, .int .i64 s.lb, .int .i64 s.s0, .slice a s.es.length c], .slice za Z.length zc] w fun e w' => SimE (simR s.norm Z) e ∧ Below w.heap.size w w' := by
  have hB0 := ((Below.refl w.heap.size w).alloc (Nat.le_refl _) (Obj.cells #[.int .i64 s.st, .int .i64 s.lb, .int .i64 s.s0, .slice a s.es.length c] 24)).alloc (by simp) (.cells #[.int .i64 0, .int .i64 0, .int .i64 0, .int .i64 0] 30)
  have hsb := (((Below.refl _ _).alloc (Nat.le_refl _) (.cells #[.int .i64 0, .int .i64 0, .int .i64 0, .int .i64 0] 30)).block w.heap.size (by simp)).trans (heap_alloc_new w (Obj.cells #[.int .i64 s.st, .int .i64 s.lb, .int .i64 s.s0, .slice a s.es.length c] 24))
  have hfb := heap_alloc_at (w.alloc (Obj.cells #[.int .i64 s.st, .int .i64 s.lb, .int .i64 s.s0, .slice a s.es.length c] 24)) (.cells #[.int .i64 0, .int .i64 0, .int .i64 0, .int .i64 0] 30) (w.heap.size + 1) (by simp)
  have hN := new_ok (c := c) h (hG.below hB0) (hS.below hB0 (Nat.le_refl _))
  have HN := Lib.hid hN; have HB0 := Lib.hid hB0; have HSB := Lib.hid hsb; have HFB := Lib.hid hfb; have HZS := Lib.hid hZS; have HOK := Lib.hid hok; have HNN := Lib.hid hn
  obtain ⟨st, hst⟩ : ∃ st, st = s.st := ⟨_, rfl⟩
  have HSTE : RowKit.Hid (st = (n : Int)) := Lib.hid (hst.trans hn)
  rw [← hst] at HN HSB HFB HB0 ⊢
  have c300 : decide ((300 : Int) < st) = false := by have := HSTE.out; simp; omega
  have c300' : decide (st > 300) = false := c300
  have HST0 := Lib.hid h.st0
  obtain ⟨m, hm⟩ : ∃ m, m = Z.length := ⟨_, rfl⟩
  rw [← hm] at hZ ⊢
  have cZ : decide ((m : Int) > 10000) = false := by simp; omega
  have hmm := @run_makeMap Tryz.prog
  have HM := Lib.hid hm
  clear hN hB0 hsb hfb hS hG h hn hok hZS hst hm
  go_enter Tryz.func8, Tryz.ntmps8
  go_wp2_with fail
  refine HN.out.mono ?_
  rintro e w1 ⟨gb, rfl, hgr, hB1, _⟩
  have hw1 := hB1.size
  simp at hw1
  have hsb1 := (hB1.block w.heap.size (by simp; omega)).trans HSB.out
  have hfb1 := (hB1.block (w.heap.size + 1) (by simp)).trans HFB.out
  have hbm := (Below.refl w1.heap.size w1).alloc (Nat.le_refl _) (.map #[] 0)
  have HINIT : RowKit.Hid (SimW w w1 (w1.alloc (.map #[] 0)) (w.heap.size + 1) w1.heap.size #[.int .i64 st, .int .i64 s.lb, .int .i64 s.s0, .slice a s.es.length c] (Z.take 0)) := Lib.hid
    ⟨(HB0.out.trans (hB1.mono (by simp; omega))).alloc (by omega) _, hbm, (hbm.block _ (by omega)).trans hsb1, (hbm.block _ (by omega)).trans hfb1, ⟨0, (OMap.made w1).congr (fun z => by rw [List.take_zero]; rfl)⟩, Nat.le_refl _, by omega⟩
  have x0 : w1.cell? ⟨w.heap.size, 0, none⟩ = some (.int .i64 st) := by simp [World.cell?, hsb1]
  have xl : w.heap.size < w1.heap.size := by omega
  have HGR := Lib.hid hgr
  have HLO : RowKit.Hid (w.heap.size ≤ w1.heap.size) := Lib.hid (by omega)
  clear hB1 hsb1 hfb1 hbm hgr HN HSB HFB HB0 hw1
  go_wp2_with fail
  go_loopw [11, 42] (fun _ v42 wr => ∃ k : Nat, v42 = .int .i64 k ∧ k ≤ m ∧ SimW w w1 wr (w.heap.size + 1) w1.heap.size #[.int .i64 st, .int .i64 s.lb, .int .i64 s.s0, .slice a s.es.length c] (Z.take k)) (fun _ v42 _ => m - (intOf v42).toNat)
  case atStart => exact ⟨0, rfl, Nat.zero_le _, HINIT.out⟩
  case round =>
    obtain ⟨k, rfl, hk, hsw⟩ := hrel
    have HSW := Lib.hid hsw
    clear hsw x0 xl HINIT hmm
    by_cases hkm : k < m
    · obtain ⟨x, hx⟩ := getElem?_of_lt (xs := Z) (i := k) (by rw [← HM.out]; exact hkm)
      have hzs := HZS.out.below HSW.out.bel (Nat.le_refl _)
      obtain rfl := hzs.ad (by rw [← HM.out]; omega)
      have d0 := hzs.p0 hx; have d1 := hzs.p1 hx
      have dl := hzs.lt (by rw [← HM.out]; omega)
      obtain ⟨r1, r2, r3, r4⟩ := HOK.out x (List.mem_of_getElem? hx)
      obtain ⟨x1, x2⟩ := x
      simp only at d0 d1 r1 r2 r3 r4
      have hst := HSTE.out
      have hs0 := HST0.out.2.1
      have q1 : ¬ x1 < 0 := by omega
      have q2 : ¬ x2 < 0 := by omega
      have q3 : ¬ st ≤ x1 := by omega
      have q4 : ¬ st ≤ x2 := by omega
      have hokx : okPr (x1, x2) := ⟨WalkArith.wf_i64 (by omega), WalkArith.wf_i64 (by omega)⟩
      have HX := Lib.hid hx; have HOKX := Lib.hid hokx
      have hsa := HSW.out.call ((Below.refl wr.heap.size wr).alloc (Nat.le_refl _) (.cells #[.int .i64 x1, .int .i64 x2] 28))
      have HSA := Lib.hid hsa
      obtain ⟨y0, yl⟩ := HSW.out.cells
      have hkI : (k : Int) < (m : Int) := by omega
      clear hzs hx r1 r2 r3 r4 hst hs0 hokx hsa
      go_wp2_with (at_mapUpdate; refine wpList_oput rfl _ _ _ 74 rfl encPair Tryz.underlying74 rfl HSA.out.map.choose_spec ((x1, x2) : Int × Int) HOKX.out rfl () rfl ?_; intro w4 hM4 hg4 hf4 hs4)
      all_goals
        have hsn := HSW.out.call ((Below.refl wr.heap.size wr).alloc (Nat.le_refl _) (.cells #[.int .i64 x1, .int .i64 x2] 28))
        have HNX : RowKit.Hid (SimW w w1 w4 (w.heap.size + 1) w1.heap.size #[.int .i64 st, .int .i64 s.lb, .int .i64 s.s0, .slice a s.es.length c] (Z.take (k + 1))) := Lib.hid (by
          rw [take_snoc HX.out]
          exact hsn.put hM4 hg4 HLO.out)
        clear hsn hM4 hg4 hf4 hs4 HSA HSW
        go_roundw
        case rel => exact ⟨k + 1, by go_num, by omega, HNX.out⟩
        case measure => simp [intOf]; omega
    · obtain rfl : k = m := by omega
      have hsw := HSW.out
      rw [HM.out, List.take_length] at hsw
      have HSX := Lib.hid hsw
      clear hsw HSW
      go_wp2_with fail
      go_loopw [13, 14, 15, 71] (fun _ _ _ v71 wx => ∃ j : Nat, v71 = .int .i64 j ∧ j ≤ k ∧ (∀ z ∈ Z.take j, failP s.norm Z z.1 z.2 = none) ∧ SimW w w1 wx (w.heap.size + 1) w1.heap.size #[.int .i64 st, .int .i64 s.lb, .int .i64 s.s0, .slice a s.es.length c] Z) (fun _ _ _ v71 _ => k - (intOf v71).toNat)
      case atStart => exact ⟨0, rfl, Nat.zero_le _, by simp, HSX.out⟩
      case round =>
        obtain ⟨j, rfl, hj, hno, hsw⟩ := hrel
        have HNO := Lib.hid hno
        clear hno
        have HSW := Lib.hid hsw
        clear hsw HSX
        by_cases hjk : j < k
        · obtain ⟨x, hx⟩ := getElem?_of_lt (xs := Z) (i := j) (by rw [← HM.out]; exact hjk)
          have hzs := HZS.out.below HSW.out.bel (Nat.le_refl _)
          obtain rfl := hzs.ad (by rw [← HM.out]; omega)
          have d0 := hzs.p0 hx; have d1 := hzs.p1 hx
          have dl := hzs.lt (by rw [← HM.out]; omega)
          have HX := Lib.hid hx
          obtain ⟨x1, x2⟩ := x
          simp only at d0 d1
          have hsa := HSW.out.call ((Below.refl _ _).alloc (Nat.le_refl _) (.cells #[.int .i64 x1, .int .i64 x2] 28))
          have HSA := Lib.hid hsa
          have HPF := Lib.hid (pfailsG_any HGR.out hsa.low hsa.map.choose_spec x1 x2)
          have hjI : (j : Int) < (k : Int) := by omega
          clear hzs hx hsa
          go_wp2_with fail
          refine HPF.out.mono ?_
          rintro e w5 ⟨he, hB5⟩
          unfold FailP at he
          cases hf : failP s.norm Z x1 x2 with
          | none =>
            rw [hf] at he
            obtain rfl : e = _ := he
            have hno2 : ∀ z ∈ Z.take (j + 1), failP s.norm Z z.1 z.2 = none := by
              intro z hz
              rw [take_snoc HX.out] at hz
              rcases List.mem_append.1 hz with hz | hz
              · exact HNO.out z hz
              · simp at hz; subst hz; exact hf
            have HNO2 := Lib.hid hno2
            have HS5 := Lib.hid ((HSA.out.call hB5).call ((Below.refl _ _).alloc (Nat.le_refl _) (.cells #[.int .i64 0, .int .i64 0, .int .i64 0, .int .i64 0] 30)))
            clear hB5 HPF HSA HSW d0 d1 dl hf hno2 HNO
            go_wp2_with fail
            go_roundw
            case rel => exact ⟨j + 1, by go_num, by omega, HNO2.out, HS5.out⟩
            case measure => simp [intOf]; omega
          | some y =>
            rw [hf] at he
            obtain rfl : e = _ := he
            have hfin := simR_some HX.out HNO.out hf
            obtain ⟨y1, y2⟩ := y
            have HS5 := Lib.hid ((HSA.out.call hB5).call ((Below.refl _ _).alloc (Nat.le_refl _) (.cells #[.int .i64 x1, .int .i64 x2, .int .i64 y1, .int .i64 y2] 30)))
            have hsz := hB5.size
            obtain ⟨f0, f1, f2, f3, z0, z1, z2, z3, hfl⟩ := (HSA.out.call hB5).fcells
            have HB := Lib.hid (HSA.out.call hB5).bel
            have HFIN := Lib.hid hfin
            clear hB5 HPF HSA HSW d0 d1 dl hf HNO hfin HS5 HX hsz
            go_wp2_with fail
            refine bodyPost_ret (v := .tuple #[.agg #[.int .i64 x1, .int .i64 x2, .int .i64 y1, .int .i64 y2], .bool false, .nilIface]) (by simp [results, Tryz.results8, go_sem, hfl, f0, f1, f2, f3]) rfl ⟨by rw [HFIN.out]; rfl, ?_⟩
            exact ((((HB.out.setCell (p := ⟨w.heap.size + 1, 0, none⟩) (by simp) _).setCell (p := ⟨w.heap.size + 1, 1, none⟩) (by simp) _).setCell (p := ⟨w.heap.size + 1, 2, none⟩) (by simp) _).setCell (p := ⟨w.heap.size + 1, 3, none⟩) (by simp) _).alloc (by simpa using HB.out.size) _
        · obtain rfl : j = k := by omega
          obtain ⟨f0, f1, f2, f3, z0, z1, z2, z3, hfl⟩ := HSW.out.fcells
          have HB := Lib.hid HSW.out.bel
          have hfin : simR s.norm Z = none := simR_none (fun z hz => HNO.out z (by rw [HM.out, List.take_length]; exact hz))
          have HFIN := Lib.hid hfin
          clear HSW hfin HNO
          go_wp2_with fail
          refine bodyPost_ret (v := .tuple #[.agg #[.int .i64 0, .int .i64 0, .int .i64 0, .int .i64 0], .bool true, .nilIface]) (by simp [results, Tryz.results8, go_sem, f0, f1, f2, f3]) rfl ⟨by rw [HFIN.out]; rfl, ?_⟩
          exact (((HB.out.setCell (p := ⟨w.heap.size + 1, 0, none⟩) (by simp) _).setCell (p := ⟨w.heap.size + 1, 1, none⟩) (by simp) _).setCell (p := ⟨w.heap.size + 1, 2, none⟩) (by simp) _).setCell (p := ⟨w.heap.size + 1, 3, none⟩) (by simp) _

set_option maxRecDepth 100000 in
set_option maxHeartbeats 4000000 in
theorem simulationIx_any {p : Addr} {s : Lts} {n : Nat} (h : s.Right) (hn : s.st = (n : Int)) (hn3 : n ≤ 300) {a : Option Addr} {b off c : Nat} {w : World} (hG : GErr 15 p w) (hS : SlAt encE 3 w a b off s.es)
    {Z : List (Int × Int)} (hZ : Z.length ≤ 10000) {K : Nat} {zx : Int × Int} (hK : Z[K]? = some zx) (hok : ∀ z ∈ Z.take K, 0 ≤ z.1 ∧ z.1 < (n : Int) ∧ 0 ≤ z.2 ∧ z.2 < (n : Int)) (hbad : ¬ (0 ≤ zx.1 ∧ zx.1 < (n : Int) ∧ 0 ≤ zx.2 ∧ zx.2 < (n : Int))) {p3 : Addr} (hI : GErr 1 p3 w) {za : Option Addr} {zb zo zc : Nat} (hZS : SlAt encPr 2 w za zb zo Z) :
    Calls Tryz.prog 8 #[.agg #[.int .i64 s.st, .int .i64 s.lb, .int .i64 s.s0, .slice a s.es.length c], .slice za Z.length zc] w fun e w' => ∃ v, e = .returned (.tuple #[.agg #[.int .i64 0, .int .i64 0, .int .i64 0, .int .i64 0], .bool false, v]) ∧ FaultAt w' v witName (.iface 197 (.pointer (some p3))) ∧ Below w.heap.size w w' := by
  have hB0 := ((Below.refl w.heap.size w).alloc (Nat.le_refl _) (Obj.cells #[.int .i64 s.st, .int .i64 s.lb, .int .i64 s.s0, .slice a s.es.length c] 24)).alloc (by simp) (.cells #[.int .i64 0, .int .i64 0, .int .i64 0, .int .i64 0] 30)
  have hsb := (((Below.refl _ _).alloc (Nat.le_refl _) (.cells #[.int .i64 0, .int .i64 0, .int .i64 0, .int .i64 0] 30)).block w.heap.size (by simp)).trans (heap_alloc_new w (Obj.cells #[.int .i64 s.st, .int .i64 s.lb, .int .i64 s.s0, .slice a s.es.length c] 24))
  have hfb := heap_alloc_at (w.alloc (Obj.cells #[.int .i64 s.st, .int .i64 s.lb, .int .i64 s.s0, .slice a s.es.length c] 24)) (.cells #[.int .i64 0, .int .i64 0, .int .i64 0, .int .i64 0] 30) (w.heap.size + 1) (by simp)
  have hN := new_ok (c := c) h (hG.below hB0) (hS.below hB0 (Nat.le_refl _))
  have HN := Lib.hid hN; have HB0 := Lib.hid hB0; have HSB := Lib.hid hsb; have HFB := Lib.hid hfb; have HZS := Lib.hid hZS; have HOK := Lib.hid hok; have HK := Lib.hid hK; have HBAD := Lib.hid hbad; have HI := Lib.hid hI; have HNN := Lib.hid hn
  obtain ⟨st, hst⟩ : ∃ st, st = s.st := ⟨_, rfl⟩
  have HSTE : RowKit.Hid (st = (n : Int)) := Lib.hid (hst.trans hn)
  rw [← hst] at HN HSB HFB HB0 ⊢
  have c300 : decide ((300 : Int) < st) = false := by have := HSTE.out; simp; omega
  have c300' : decide (st > 300) = false := c300
  have HST0 := Lib.hid h.st0
  obtain ⟨m, hm⟩ : ∃ m, m = Z.length := ⟨_, rfl⟩
  rw [← hm] at hZ ⊢
  have cZ : decide ((m : Int) > 10000) = false := by simp; omega
  have hmm := @run_makeMap Tryz.prog
  have HM := Lib.hid hm
  have hKm : K < m := by rw [hm]; exact (List.getElem?_eq_some_iff.1 hK).1
  clear hN hB0 hsb hfb hS hG h hn hok hZS hst hm hK hbad hI
  go_enter Tryz.func8, Tryz.ntmps8
  go_wp2_with fail
  refine HN.out.mono ?_
  rintro e w1 ⟨gb, rfl, hgr, hB1, _⟩
  have hw1 := hB1.size
  simp at hw1
  have hsb1 := (hB1.block w.heap.size (by simp; omega)).trans HSB.out
  have hfb1 := (hB1.block (w.heap.size + 1) (by simp)).trans HFB.out
  have hbm := (Below.refl w1.heap.size w1).alloc (Nat.le_refl _) (.map #[] 0)
  have HINIT : RowKit.Hid (SimW w w1 (w1.alloc (.map #[] 0)) (w.heap.size + 1) w1.heap.size #[.int .i64 st, .int .i64 s.lb, .int .i64 s.s0, .slice a s.es.length c] (Z.take 0)) := Lib.hid
    ⟨(HB0.out.trans (hB1.mono (by simp; omega))).alloc (by omega) _, hbm, (hbm.block _ (by omega)).trans hsb1, (hbm.block _ (by omega)).trans hfb1, ⟨0, (OMap.made w1).congr (fun z => by rw [List.take_zero]; rfl)⟩, Nat.le_refl _, by omega⟩
  have x0 : w1.cell? ⟨w.heap.size, 0, none⟩ = some (.int .i64 st) := by simp [World.cell?, hsb1]
  have xl : w.heap.size < w1.heap.size := by omega
  have HGR := Lib.hid hgr
  have HLO : RowKit.Hid (w.heap.size ≤ w1.heap.size) := Lib.hid (by omega)
  clear hB1 hsb1 hfb1 hbm hgr HN HSB HFB HB0 hw1
  go_wp2_with fail
  go_loopw [11, 42] (fun _ v42 wr => ∃ k : Nat, v42 = .int .i64 k ∧ k ≤ K ∧ SimW w w1 wr (w.heap.size + 1) w1.heap.size #[.int .i64 st, .int .i64 s.lb, .int .i64 s.s0, .slice a s.es.length c] (Z.take k)) (fun _ v42 _ => m - (intOf v42).toNat)
  case atStart => exact ⟨0, rfl, Nat.zero_le _, HINIT.out⟩
  case round =>
    obtain ⟨k, rfl, hk, hsw⟩ := hrel
    have HSW := Lib.hid hsw
    clear hsw x0 xl HINIT hmm
    have hkm : k < m := by omega
    by_cases hkK : k < K
    · obtain ⟨x, hx⟩ := getElem?_of_lt (xs := Z) (i := k) (by rw [← HM.out]; exact hkm)
      have hzs := HZS.out.below HSW.out.bel (Nat.le_refl _)
      obtain rfl := hzs.ad (by rw [← HM.out]; omega)
      have d0 := hzs.p0 hx; have d1 := hzs.p1 hx
      have dl := hzs.lt (by rw [← HM.out]; omega)
      obtain ⟨r1, r2, r3, r4⟩ := HOK.out x (List.mem_of_getElem? (i := k) (by rw [List.getElem?_take, if_pos hkK]; exact hx))
      obtain ⟨x1, x2⟩ := x
      simp only at d0 d1 r1 r2 r3 r4
      have hst := HSTE.out
      have hs0 := HST0.out.2.1
      have q1 : ¬ x1 < 0 := by omega
      have q2 : ¬ x2 < 0 := by omega
      have q3 : ¬ st ≤ x1 := by omega
      have q4 : ¬ st ≤ x2 := by omega
      have hokx : okPr (x1, x2) := ⟨WalkArith.wf_i64 (by omega), WalkArith.wf_i64 (by omega)⟩
      have HX := Lib.hid hx; have HOKX := Lib.hid hokx
      have hsa := HSW.out.call ((Below.refl wr.heap.size wr).alloc (Nat.le_refl _) (.cells #[.int .i64 x1, .int .i64 x2] 28))
      have HSA := Lib.hid hsa
      obtain ⟨y0, yl⟩ := HSW.out.cells
      have hkI : (k : Int) < (m : Int) := by omega
      clear hzs hx r1 r2 r3 r4 hst hs0 hokx hsa
      go_wp2_with (at_mapUpdate; refine wpList_oput rfl _ _ _ 74 rfl encPair Tryz.underlying74 rfl HSA.out.map.choose_spec ((x1, x2) : Int × Int) HOKX.out rfl () rfl ?_; intro w4 hM4 hg4 hf4 hs4)
      all_goals
        have hsn := HSW.out.call ((Below.refl wr.heap.size wr).alloc (Nat.le_refl _) (.cells #[.int .i64 x1, .int .i64 x2] 28))
        have HNX : RowKit.Hid (SimW w w1 w4 (w.heap.size + 1) w1.heap.size #[.int .i64 st, .int .i64 s.lb, .int .i64 s.s0, .slice a s.es.length c] (Z.take (k + 1))) := Lib.hid (by
          rw [take_snoc HX.out]
          exact hsn.put hM4 hg4 HLO.out)
        clear hsn hM4 hg4 hf4 hs4 HSA HSW
        go_roundw
        case rel => exact ⟨k + 1, by go_num, by omega, HNX.out⟩
        case measure => simp [intOf]; omega
    · obtain rfl : k = K := by omega
      have hx := HK.out
      have hzs := HZS.out.below HSW.out.bel (Nat.le_refl _)
      obtain rfl := hzs.ad (by rw [← HM.out]; omega)
      have d0 := hzs.p0 hx; have d1 := hzs.p1 hx
      have dl := hzs.lt (by rw [← HM.out]; omega)
      obtain ⟨x1, x2⟩ := zx
      have hbad := HBAD.out
      simp only at d0 d1 hbad
      rw [← HSTE.out] at hbad
      obtain ⟨y0, yl⟩ := HSW.out.cells
      obtain ⟨f0, f1, f2, f3, z0, z1, z2, z3, hfl⟩ := HSW.out.fcells
      have hi1 := HI.out.below HSW.out.bel
      have g0 := hi1.cell; have gl := hi1.lt
      have hkI : (k : Int) < (m : Int) := by omega
      have FIN : RowKit.Hid (Calls Tryz.prog 44 #[.string ⟨#[119, 105, 116, 110, 101, 115, 115]⟩, .iface 197 (.pointer (some p3))] (wr.alloc (.cells #[.int .i64 x1, .int .i64 x2] 28)) fun e w' => ∃ fb, e = .returned (.iface 86 (.pointer (some ⟨fb, 0, none⟩))) ∧ FaultAt w' (.iface 86 (.pointer (some ⟨fb, 0, none⟩))) witName (.iface 197 (.pointer (some p3))) ∧ w'.heap[w.heap.size + 1]? = some (.cells #[.int .i64 0, .int .i64 0, .int .i64 0, .int .i64 0] 30 (0, 0)) ∧ Below w.heap.size w w') := Lib.hid (by
        refine (faultNew_any witName 197 (.pointer (some p3)) _).mono ?_
        rintro e w3 ⟨rfl, rfl⟩
        have hsa := (HSW.out.call ((Below.refl wr.heap.size wr).alloc (Nat.le_refl _) (.cells #[.int .i64 x1, .int .i64 x2] 28))).call ((Below.refl _ _).alloc (Nat.le_refl _) (.cells #[.string witName, .int .i64 0, .int .i64 0, .iface 197 (.pointer (some p3))] 89))
        exact ⟨_, rfl, ⟨_, rfl, heap_alloc_new _ _⟩, hsa.fail, hsa.bel⟩)
      clear hzs hx hi1 HSW
      clear HZS HOK f0 f1 f2 f3 z0 z1 z2 z3 hfl
      by_cases q1 : x1 < 0
      · clear hbad
        go_wp2_with fail
        all_goals
          refine FIN.out.mono ?_
          rintro e w5 ⟨fb, rfl, hF, hr, hB⟩
          have f0 : w5.cell? ⟨w.heap.size + 1, 0, none⟩ = some (.int .i64 0) := by simp [World.cell?, hr]
          have f1 : w5.cell? ⟨w.heap.size + 1, 1, none⟩ = some (.int .i64 0) := by simp [World.cell?, hr]
          have f2 : w5.cell? ⟨w.heap.size + 1, 2, none⟩ = some (.int .i64 0) := by simp [World.cell?, hr]
          have f3 : w5.cell? ⟨w.heap.size + 1, 3, none⟩ = some (.int .i64 0) := by simp [World.cell?, hr]
          have z0 : w5.frozen? ⟨w.heap.size + 1, 0, none⟩ = false := by simp [World.frozen?, hr]
          have z1 : w5.frozen? ⟨w.heap.size + 1, 1, none⟩ = false := by simp [World.frozen?, hr]
          have z2 : w5.frozen? ⟨w.heap.size + 1, 2, none⟩ = false := by simp [World.frozen?, hr]
          have z3 : w5.frozen? ⟨w.heap.size + 1, 3, none⟩ = false := by simp [World.frozen?, hr]
          have fl := (Array.getElem?_eq_some_iff.1 hr).1
          have HF := Lib.hid hF; have HR := Lib.hid hr; have HB5 := Lib.hid hB
          clear hF hr hB FIN d0 d1 dl y0 yl
          go_wp2_with fail
          refine bodyPost_ret (v := .tuple #[.agg #[.int .i64 0, .int .i64 0, .int .i64 0, .int .i64 0], .bool false, .iface 86 (.pointer (some ⟨fb, 0, none⟩))]) (by simp [results, Tryz.results8, go_sem, f0, f1, f2, f3]) rfl ⟨_, rfl, HF.out.set4 HR.out _ _ _ _, ?_⟩
          exact (((HB5.out.setCell (p := ⟨w.heap.size + 1, 0, none⟩) (by simp) _).setCell (p := ⟨w.heap.size + 1, 1, none⟩) (by simp) _).setCell (p := ⟨w.heap.size + 1, 2, none⟩) (by simp) _).setCell (p := ⟨w.heap.size + 1, 3, none⟩) (by simp) _
      by_cases q2 : x2 < 0
      · clear hbad
        go_wp2_with fail
        all_goals
          refine FIN.out.mono ?_
          rintro e w5 ⟨fb, rfl, hF, hr, hB⟩
          have f0 : w5.cell? ⟨w.heap.size + 1, 0, none⟩ = some (.int .i64 0) := by simp [World.cell?, hr]
          have f1 : w5.cell? ⟨w.heap.size + 1, 1, none⟩ = some (.int .i64 0) := by simp [World.cell?, hr]
          have f2 : w5.cell? ⟨w.heap.size + 1, 2, none⟩ = some (.int .i64 0) := by simp [World.cell?, hr]
          have f3 : w5.cell? ⟨w.heap.size + 1, 3, none⟩ = some (.int .i64 0) := by simp [World.cell?, hr]
          have z0 : w5.frozen? ⟨w.heap.size + 1, 0, none⟩ = false := by simp [World.frozen?, hr]
          have z1 : w5.frozen? ⟨w.heap.size + 1, 1, none⟩ = false := by simp [World.frozen?, hr]
          have z2 : w5.frozen? ⟨w.heap.size + 1, 2, none⟩ = false := by simp [World.frozen?, hr]
          have z3 : w5.frozen? ⟨w.heap.size + 1, 3, none⟩ = false := by simp [World.frozen?, hr]
          have fl := (Array.getElem?_eq_some_iff.1 hr).1
          have HF := Lib.hid hF; have HR := Lib.hid hr; have HB5 := Lib.hid hB
          clear hF hr hB FIN d0 d1 dl y0 yl
          go_wp2_with fail
          refine bodyPost_ret (v := .tuple #[.agg #[.int .i64 0, .int .i64 0, .int .i64 0, .int .i64 0], .bool false, .iface 86 (.pointer (some ⟨fb, 0, none⟩))]) (by simp [results, Tryz.results8, go_sem, f0, f1, f2, f3]) rfl ⟨_, rfl, HF.out.set4 HR.out _ _ _ _, ?_⟩
          exact (((HB5.out.setCell (p := ⟨w.heap.size + 1, 0, none⟩) (by simp) _).setCell (p := ⟨w.heap.size + 1, 1, none⟩) (by simp) _).setCell (p := ⟨w.heap.size + 1, 2, none⟩) (by simp) _).setCell (p := ⟨w.heap.size + 1, 3, none⟩) (by simp) _
      by_cases q3 : st ≤ x1
      · clear hbad
        go_wp2_with fail
        all_goals
          refine FIN.out.mono ?_
          rintro e w5 ⟨fb, rfl, hF, hr, hB⟩
          have f0 : w5.cell? ⟨w.heap.size + 1, 0, none⟩ = some (.int .i64 0) := by simp [World.cell?, hr]
          have f1 : w5.cell? ⟨w.heap.size + 1, 1, none⟩ = some (.int .i64 0) := by simp [World.cell?, hr]
          have f2 : w5.cell? ⟨w.heap.size + 1, 2, none⟩ = some (.int .i64 0) := by simp [World.cell?, hr]
          have f3 : w5.cell? ⟨w.heap.size + 1, 3, none⟩ = some (.int .i64 0) := by simp [World.cell?, hr]
          have z0 : w5.frozen? ⟨w.heap.size + 1, 0, none⟩ = false := by simp [World.frozen?, hr]
          have z1 : w5.frozen? ⟨w.heap.size + 1, 1, none⟩ = false := by simp [World.frozen?, hr]
          have z2 : w5.frozen? ⟨w.heap.size + 1, 2, none⟩ = false := by simp [World.frozen?, hr]
          have z3 : w5.frozen? ⟨w.heap.size + 1, 3, none⟩ = false := by simp [World.frozen?, hr]
          have fl := (Array.getElem?_eq_some_iff.1 hr).1
          have HF := Lib.hid hF; have HR := Lib.hid hr; have HB5 := Lib.hid hB
          clear hF hr hB FIN d0 d1 dl y0 yl
          go_wp2_with fail
          refine bodyPost_ret (v := .tuple #[.agg #[.int .i64 0, .int .i64 0, .int .i64 0, .int .i64 0], .bool false, .iface 86 (.pointer (some ⟨fb, 0, none⟩))]) (by simp [results, Tryz.results8, go_sem, f0, f1, f2, f3]) rfl ⟨_, rfl, HF.out.set4 HR.out _ _ _ _, ?_⟩
          exact (((HB5.out.setCell (p := ⟨w.heap.size + 1, 0, none⟩) (by simp) _).setCell (p := ⟨w.heap.size + 1, 1, none⟩) (by simp) _).setCell (p := ⟨w.heap.size + 1, 2, none⟩) (by simp) _).setCell (p := ⟨w.heap.size + 1, 3, none⟩) (by simp) _
      have q4 : st ≤ x2 := by omega
      clear hbad
      go_wp2_with fail
      all_goals
        refine FIN.out.mono ?_
        rintro e w5 ⟨fb, rfl, hF, hr, hB⟩
        have f0 : w5.cell? ⟨w.heap.size + 1, 0, none⟩ = some (.int .i64 0) := by simp [World.cell?, hr]
        have f1 : w5.cell? ⟨w.heap.size + 1, 1, none⟩ = some (.int .i64 0) := by simp [World.cell?, hr]
        have f2 : w5.cell? ⟨w.heap.size + 1, 2, none⟩ = some (.int .i64 0) := by simp [World.cell?, hr]
        have f3 : w5.cell? ⟨w.heap.size + 1, 3, none⟩ = some (.int .i64 0) := by simp [World.cell?, hr]
        have z0 : w5.frozen? ⟨w.heap.size + 1, 0, none⟩ = false := by simp [World.frozen?, hr]
        have z1 : w5.frozen? ⟨w.heap.size + 1, 1, none⟩ = false := by simp [World.frozen?, hr]
        have z2 : w5.frozen? ⟨w.heap.size + 1, 2, none⟩ = false := by simp [World.frozen?, hr]
        have z3 : w5.frozen? ⟨w.heap.size + 1, 3, none⟩ = false := by simp [World.frozen?, hr]
        have fl := (Array.getElem?_eq_some_iff.1 hr).1
        have HF := Lib.hid hF; have HR := Lib.hid hr; have HB5 := Lib.hid hB
        clear hF hr hB FIN d0 d1 dl y0 yl
        go_wp2_with fail
        refine bodyPost_ret (v := .tuple #[.agg #[.int .i64 0, .int .i64 0, .int .i64 0, .int .i64 0], .bool false, .iface 86 (.pointer (some ⟨fb, 0, none⟩))]) (by simp [results, Tryz.results8, go_sem, f0, f1, f2, f3]) rfl ⟨_, rfl, HF.out.set4 HR.out _ _ _ _, ?_⟩
        exact (((HB5.out.setCell (p := ⟨w.heap.size + 1, 0, none⟩) (by simp) _).setCell (p := ⟨w.heap.size + 1, 1, none⟩) (by simp) _).setCell (p := ⟨w.heap.size + 1, 2, none⟩) (by simp) _).setCell (p := ⟨w.heap.size + 1, 3, none⟩) (by simp) _

end Go.Proofs.YtclannenknhfpaaGreatDoor

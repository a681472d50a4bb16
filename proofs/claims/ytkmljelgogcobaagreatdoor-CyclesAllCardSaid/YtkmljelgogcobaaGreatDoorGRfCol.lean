/-
  semblanceref11.Collapse.
  semblanceref11.ready.
  semblanceref11.Order.
  Small lemmas on rows: two rows of unlike elements, a struct's cells. (Taken out of LawGAll.)
  law11.CyclesAll of a right system.
  law11.CyclesAll of a wrong system.
  law11.CyclesAll.
-/
import Derived.Test.YtkmljelgogcobaaGreatDoorGRefReach
import Derived.Test.YtkmljelgogcobaaGreatDoorGTauJ
import Derived.Test.YtkmljelgogcobaaGreatDoorRefSort2
import Derived.Test.YtkmljelgogcobaaGreatDoorRws
import Derived.Test.YtkmljelgogcobaaGreatDoorGAs
import Derived.Test.YtkmljelgogcobaaGreatDoorGBkEp
import Derived.Test.YtkmljelgogcobaaGreatDoorBkQ
namespace Go.Proofs.YtkmljelgogcobaaGreatDoor
open Go.RowKit Pl

set_option maxRecDepth 100000 in
set_option maxHeartbeats 8000000 in
theorem refCollapse_any {s : Lts} {n : Nat} (hr : s.Right) (hn : s.st = (n : Int)) {f : Nat → Int} (hf : Cyc s n f) {a : Option Addr} {b off c : Nat} {w : World} (hS : SlAt encE 3 w a b off s.es) (hc : s.es.length ≤ c) (hcm : c ≤ maxLen) :
    Calls Tryz.prog 35 #[.agg #[.int .i64 s.st, .int .i64 s.lb, .int .i64 s.s0, .slice a s.es.length c]] w fun e w' => ∃ (cb : Nat) (va : Option Addr) (vc vb : Nat), e = .returned (.tuple #[.agg #[.int .i64 (col s (fl n (clf n f))).st, .int .i64 (col s (fl n (clf n f))).lb, .int .i64 (col s (fl n (clf n f))).s0, .slice va (col s (fl n (clf n f))).es.length vc], .slice (some ⟨cb, 0, none⟩) n n]) ∧
      SlAt encE 3 w' va vb 0 (col s (fl n (clf n f))).es ∧ (col s (fl n (clf n f))).es.length ≤ vc ∧ vc ≤ maxLen ∧ w'.rowIs cb 3 n (fun k => .int .i64 (clf n f k)) ∧ Below w.heap.size w w' := by
  have hst := hr.st0
  have hn1 : n ≤ 1000 := by omega
  obtain ⟨z, hz⟩ : ∃ z : Nat, s.s0 = (z : Int) := ⟨s.s0.toNat, by omega⟩
  have hB0 := ((Below.refl w.heap.size w).alloc (Nat.le_refl _) (Obj.cells #[.int .i64 n, .int .i64 s.lb, .int .i64 z, .slice a s.es.length c] 24)).alloc (by simp) (Obj.cells #[.int .i64 0, .int .i64 0, .int .i64 0, .slice none 0 0] 24)
  have hX0 := (Below.heap_alloc (w.alloc (Obj.cells #[.int .i64 n, .int .i64 s.lb, .int .i64 z, .slice a s.es.length c] 24)) (Obj.cells #[.int .i64 0, .int .i64 0, .int .i64 0, .slice none 0 0] 24) w.heap.size (by simp)).trans (heap_alloc_new w _)
  have hR0 := heap_alloc_new (w.alloc (Obj.cells #[.int .i64 n, .int .i64 s.lb, .int .i64 z, .slice a s.es.length c] 24)) (Obj.cells #[.int .i64 0, .int .i64 0, .int .i64 0, .slice none 0 0] 24)
  rw [show (w.alloc (Obj.cells #[.int .i64 n, .int .i64 s.lb, .int .i64 z, .slice a s.es.length c] 24)).heap.size = w.heap.size + 1 by simp] at hR0
  have hN := refCycles_any hr hn hf (hS.below hB0 (Nat.le_refl _)) hc hcm
  rw [hn, hz] at hN
  have HN := Lib.hid hN; have HB0 := Lib.hid hB0; have HR0 := Lib.hid hR0; have HX0 := Lib.hid hX0; have HS := Lib.hid hS; have HR := Lib.hid hr; have HNN := Lib.hid hn; have HZ := Lib.hid hz; have HST := Lib.hid hst
  rw [hn, hz]
  clear hN hB0 hS hr hR0 hX0 hn hz hst hf hc hcm
  obtain ⟨el, hel⟩ : ∃ el, el = s.es.length := ⟨_, rfl⟩
  rw [← hel] at HN HB0 HX0 HR0 ⊢
  have HEL := Lib.hid hel
  clear hel
  go_enter Tryz.func35, Tryz.ntmps35
  go_wp2_with fail
  refine HN.out.mono ?_
  rintro e w1 ⟨cb, rfl, hrow, hcbl, hB1⟩
  obtain ⟨C, hC⟩ : ∃ C, C = fl n (clf n f) := ⟨_, rfl⟩
  have hCl : C.length = n := by rw [hC, fl_len]
  have hcs : SlAt encI 1 w1 (some ⟨cb, 0, none⟩) cb 0 C := by rw [hC]; exact rowIs_sl hrow
  have hr1 := (hB1.block (w.heap.size + 1) (by simp)).trans HR0.out
  have hx1 := (hB1.block w.heap.size (by simp; omega)).trans HX0.out
  have hs1 := hB1.size
  simp at hs1 hcbl
  have hB := HB0.out.trans (hB1.mono (by simp; omega))
  have hto := fun W (hW : Below w1.heap.size w1 W) => refTogether_any (c := n) (hcs.below hW (Nat.le_refl _)) (by rw [hCl]; omega)
  rw [hCl] at hto
  have HC := Lib.hid hC; have HCS := Lib.hid hcs; have HR1 := Lib.hid hr1; have HX1 := Lib.hid hx1; have HB := Lib.hid hB; have HTO := Lib.hid hto; have HCL := Lib.hid hCl; have HROW := Lib.hid hrow
  clear hC hcs hr1 hx1 hB1 hB hto HN HR0 HX0 HB0 hCl hrow
  obtain ⟨x0, x1, x2, x3, x4⟩ := sysC HX1.out
  obtain ⟨M, hM⟩ : ∃ M, M = (dist C).length := ⟨_, rfl⟩
  have HM := Lib.hid hM
  rw [← hM] at HTO
  clear hM
  go_upto_region 2 with fail
  go_cut [5] from 9 (fun s5 wx => ∃ O, s5 = .pointer (some ⟨O, 0, none⟩) ∧ w1.heap.size ≤ O ∧ wx.heap[O]? = some (.cells #[.int .i64 M, .int .i64 s.lb, .int .i64 0, .slice none 0 0] 24 (0, 0)) ∧ Below w1.heap.size w1 wx)
  case first =>
    have KEEP : RowKit.Hid (∀ W, Below w1.heap.size w1 W → W.cell? ⟨w.heap.size, 1, none⟩ = some (.int .i64 s.lb) ∧ Below w1.heap.size w1 W) := Lib.hid (fun W hW => ⟨(sysC ((hW.block w.heap.size x4).trans HX1.out)).2.1, hW⟩)
    have HS0 : RowKit.Hid (Below w1.heap.size w1 w1.drew) := Lib.hid (Below.refl _ _).drew
    refine wp_region_held_drew (S := fun W => W.cell? ⟨w.heap.size, 1, none⟩ = some (.int .i64 s.lb) ∧ Below w1.heap.size w1 W) (by kernel_rfl) (KEEP.out _ HS0.out) (fun hHeld => ?_)
    refine wpAnyH_take (i := 0) (v := ?_) rfl (by kernel_rfl) (by kernel_rfl) (by kernel_rfl) (fun _ _ _ h => h) (Or.inl ⟨by rfl, ?_⟩) (by assumption) ?_
    rotate_left
    · intro w hSw
      try dsimp only at hSw
      go_simp
      try with_reducible rfl
    try simp only [List.getElem_toArray, List.getElem_cons_zero, Act.put, List.setIfInBounds_toArray, List.set_cons_zero, List.set_cons_succ]
    refine wpAnyH_take (i := 2) (v := ?_) rfl (by kernel_rfl) (by kernel_rfl) (by kernel_rfl) (fun _ _ _ h => h) (Or.inl ⟨by rfl, ?_⟩) (by assumption) ?_
    rotate_left
    · intro w hSw
      try dsimp only at hSw
      go_simp
      try with_reducible rfl
    try simp only [List.getElem_toArray, List.getElem_cons_zero, List.getElem_cons_succ, Act.put, List.setIfInBounds_toArray, List.set_cons_zero, List.set_cons_succ]
    refine wpAnyH_take (i := 3) (v := ?_) rfl (by kernel_rfl) (by kernel_rfl) (by kernel_rfl) (fun _ _ _ h => h) (Or.inl ⟨by rfl, ?_⟩) (by assumption) ?_
    rotate_left
    · intro w hSw
      try dsimp only at hSw
      go_simp
      try with_reducible rfl
    try simp only [List.getElem_toArray, List.getElem_cons_zero, List.getElem_cons_succ, Act.put, List.setIfInBounds_toArray, List.set_cons_zero, List.set_cons_succ]
    refine wpAnyH_ready (rs := [1, 5]) (by kernel_rfl) (by simp) ?_
    refine AllReadyH.cons rfl (fun K hK => ?_) (AllReadyH.cons rfl (fun K hK => ?_) AllReadyH.nil)
    go_simp
    go_at_call 117
    refine (HTO.out _ HS0.out).mono ?_
    rintro e w' ⟨rfl, hB⟩
    have hb1 := belowStepT HS0.out hB
    refine hK.out _ _ (KEEP.out _ hb1) (fun hHeld => ?_)
    clear hK K
    try simp only [List.getElem_toArray, List.getElem_cons_zero, List.getElem_cons_succ, Act.put, List.setIfInBounds_toArray, List.set_cons_zero, List.set_cons_succ]
    refine wpAnyH_take (i := 4) (v := ?_) rfl (by kernel_rfl) (by kernel_rfl) (by kernel_rfl) (fun _ _ _ h => h) (Or.inl ⟨by rfl, ?_⟩) (by assumption) ?_
    rotate_left
    · intro w hSw
      try dsimp only at hSw
      go_simp
      try with_reducible rfl
    try simp only [List.getElem_toArray, List.getElem_cons_zero, List.getElem_cons_succ, Act.put, List.setIfInBounds_toArray, List.set_cons_zero, List.set_cons_succ]
    refine wpAnyH_ready (rs := [5]) (by kernel_rfl) (by simp) ?_
    refine AllReadyH.cons rfl (fun K hK => ?_) AllReadyH.nil
    go_simp
    refine hK.out _ _ (KEEP.out _ (bAlloc hb1 _)) (fun hHeld => ?_)
    clear hK K
    try simp only [List.getElem_toArray, List.getElem_cons_zero, List.getElem_cons_succ, Act.put, List.setIfInBounds_toArray, List.set_cons_zero, List.set_cons_succ]
    refine wpAnyH_ready (rs := [6]) (by kernel_rfl) (by simp) ?_
    refine AllReadyH.cons rfl (fun K hK => ?_) AllReadyH.nil
    go_simp
    refine hK.out _ _ (KEEP.out _ (bAlloc hb1 _)) (fun hHeld => ?_)
    clear hK K
    try simp only [List.getElem_toArray, List.getElem_cons_zero, List.getElem_cons_succ, Act.put, List.setIfInBounds_toArray, List.set_cons_zero, List.set_cons_succ]
    refine wpAnyH_done (by kernel_rfl) ?_ _
    · go_wp2_with fail
      go_meet
      exact ⟨_, rfl, hb1.size, heap_alloc_new w' _, bAlloc hb1 _⟩
    go_simp
    have hb1 := bAlloc HS0.out (.cells #[.int .i64 0, .int .i64 0, .int .i64 0, .slice none 0 0] 24)
    refine hK.out _ _ (KEEP.out _ hb1) (fun hHeld => ?_)
    clear hK K
    try simp only [List.getElem_toArray, List.getElem_cons_zero, List.getElem_cons_succ, Act.put, List.setIfInBounds_toArray, List.set_cons_zero, List.set_cons_succ]
    refine wpAnyH_ready (rs := [1]) (by kernel_rfl) (by simp) ?_
    refine AllReadyH.cons rfl (fun K hK => ?_) AllReadyH.nil
    go_simp
    go_at_call 117
    refine (HTO.out _ hb1).mono ?_
    rintro e w' ⟨rfl, hB⟩
    have hb2 := belowStepT hb1 hB
    obtain ⟨⟨y0, y1, y2, y3, y4⟩, z0, z1, z2, z3⟩ := zAt hB
    have hq := (hB.block w1.heap.size (by show w1.drew.heap.size < _; simp)).trans (heap_alloc_new w1.drew _)
    have HQ := Lib.hid hq
    clear hq
    refine hK.out _ _ (KEEP.out _ hb2) (fun hHeld => ?_)
    clear hK K
    try simp only [List.getElem_toArray, List.getElem_cons_zero, List.getElem_cons_succ, Act.put, List.setIfInBounds_toArray, List.set_cons_zero, List.set_cons_succ]
    refine wpAnyH_take (i := 4) (v := ?_) rfl (by kernel_rfl) (by kernel_rfl) (by kernel_rfl) (fun _ _ _ h => h) (Or.inl ⟨by rfl, ?_⟩) (by assumption) ?_
    rotate_left
    · intro w hSw
      try dsimp only at hSw
      go_simp
      try with_reducible rfl
    try simp only [List.getElem_toArray, List.getElem_cons_zero, List.getElem_cons_succ, Act.put, List.setIfInBounds_toArray, List.set_cons_zero, List.set_cons_succ]
    refine wpAnyH_ready (rs := [6]) (by kernel_rfl) (by simp) ?_
    refine AllReadyH.cons rfl (fun K hK => ?_) AllReadyH.nil
    go_simp
    refine hK.out _ _ (KEEP.out _ (bSet4 hb2)) (fun hHeld => ?_)
    clear hK K
    try simp only [List.getElem_toArray, List.getElem_cons_zero, List.getElem_cons_succ, Act.put, List.setIfInBounds_toArray, List.set_cons_zero, List.set_cons_succ]
    refine wpAnyH_done (by kernel_rfl) ?_ _
    go_wp2_with fail
    go_meet
    exact ⟨_, rfl, Nat.le_refl _, heap_setCell_same _ _ 3 _ _ _ (heap_setCell_same _ _ 2 _ _ _ (heap_setCell_same _ _ 1 _ _ _ (heap_setCell_same _ _ 0 _ _ _ HQ.out))), bSet4 hb2⟩
  case rest =>
    obtain ⟨O, rfl, hO, hox, hbo⟩ := hcut
    obtain ⟨wd, hwd⟩ : ∃ wd, wd = wc := ⟨_, rfl⟩
    subst hwd
    have hxc := (hbo.block w.heap.size x4).trans HX1.out
    have hrc := (hbo.block (w.heap.size + 1) (by omega)).trans HR1.out
    have hcsc := HCS.out.below hbo (Nat.le_refl _)
    have hroc := HROW.out.of_block (hbo.block cb HROW.out.lt)
    have hcb1 : cb < w1.heap.size := HROW.out.lt
    have hsO : O < wd.heap.size := (Array.getElem?_eq_some_iff.1 hox).1
    have HXC := Lib.hid hxc; have HRC := Lib.hid hrc; have HCSC := Lib.hid hcsc; have HOX := Lib.hid hox; have HBO := Lib.hid hbo; have HROC := Lib.hid hroc
    clear x0 x1 x2 x3 x4 hxc hrc hcsc hox hbo HTO HX1 HR1 hroc
    obtain ⟨x0, x1, x2, x3, x4⟩ := sysC HXC.out
    obtain ⟨S0, hS0⟩ : ∃ S0, S0 = (col s C).s0 := ⟨_, rfl⟩
    have HS0 := Lib.hid hS0
    clear hS0
    go_upto_if 18 with fail
    go_cut [5] from 9 (fun s5 wx => s5 = .pointer (some ⟨O, 0, none⟩) ∧ (∀ b, b ≠ O → b < wd.heap.size → wx.heap[b]? = wd.heap[b]?) ∧ wx.heap[O]? = some (.cells #[.int .i64 M, .int .i64 s.lb, .int .i64 S0, .slice none 0 0] 24 (0, 0)) ∧ Below w1.heap.size w1 wx ∧ wx.heap.size = wd.heap.size)
    case first =>
      by_cases hn0 : n = 0
      · have hs0 : S0 = 0 := by
          rw [HS0.out]; simp only [col]
          rw [if_pos (by rw [HNN.out, hn0]; rfl)]
        subst hn0 hs0
        go_wp2_with fail
        go_meet
        exact ⟨rfl, fun _ _ _ => rfl, HOX.out, HBO.out, rfl⟩
      · have hzn : z < n := by have h1 := HST.out; have h2 := HNN.out; have h3 := HZ.out; omega
        have hzn' : (z : Int) < (n : Int) := by omega
        have hd : decide (0 < n) = true := by simp; omega
        have hn0' : (0 : Int) < (n : Int) := by omega
        have hgz : C[z]? = some (clf n f z) := by rw [HC.out]; exact fl_get _ hzn
        have hcc := HCSC.out
        have g1 := hcc.ci hgz
        have gl := hcc.lt (by rw [HCL.out]; omega)
        simp only [Nat.zero_add] at g1
        have hs0 : RowKit.Hid (clf n f z = S0) := Lib.hid (by
          rw [HS0.out]; simp only [col]
          rw [if_neg (by rw [HNN.out]; omega), HC.out, HZ.out, atL_fl (by omega) (by omega)]
          rfl)
        rw [hs0.out] at g1
        obtain ⟨y0, y1, y2, y3, y4⟩ := sysC HOX.out
        have yf : wd.frozen? ⟨O, 2, none⟩ = false := by simp [World.frozen?, HOX.out]
        clear hcc hgz hn0
        go_wp2_with fail
        go_meet
        exact ⟨rfl, fun b hb _ => Below.heap_setCell _ _ _ _ hb, heap_setCell_same _ O 2 _ _ _ HOX.out, HBO.out.setCell hO _, by rw [size_setCell]⟩
    case rest =>
      obtain ⟨rfl, hoth, hox, hbo, hsz⟩ := hcut
      clear x0 x1 x2 x3
      have hw1s := HB.out.size
      have hbxl : w.heap.size < w1.heap.size := by omega
      have hxc := (hoth w.heap.size (by omega) x4).trans HXC.out
      have hrc := (hoth (w.heap.size + 1) (by omega) (Array.getElem?_eq_some_iff.1 HRC.out).1).trans HRC.out
      have hrow := HROC.out.of_block (hoth cb (by omega) HROC.out.lt)
      have hcsc : SlAt encI 1 wc (some ⟨cb, 0, none⟩) cb 0 C := by rw [HC.out]; exact rowIs_sl hrow
      have hbw := HB.out.trans (hbo.mono HB.out.size)
      have hse := HS.out.below hbw (Nat.le_refl _)
      have HXC2 := Lib.hid hxc; have HRC2 := Lib.hid hrc; have HCSC2 := Lib.hid hcsc; have HBW2 := Lib.hid hbw; have HSE := Lib.hid hse; have HOX2 := Lib.hid hox; have HROC2 := Lib.hid hrow
      clear hoth hox hbo hsz hxc hrc hcsc hbw hse HXC HRC HCSC HOX HBO hsO x4 HROC hrow
      obtain ⟨x0, x1, x2, x3, x4⟩ := sysC HXC2.out
      have hel4 : el ≤ 10000 := by have h1 := HST.out; have h2 := HEL.out; omega
      go_wp2_with fail
      go_loopw [6, 7, 8] (fun v6 v7 _ wr => ∃ (k : Nat) (lv : Value), lv = v6 ∧ v7 = .int .i64 k ∧ k ≤ el ∧ Below wc.heap.size wc wr ∧ wr.ownsRow wc.heap.size 79 3 lv (colE C (s.es.take k)).length ((colE C (s.es.take k)).flatMap encE))
        (fun _ v7 _ _ => el - (intOf v7).toNat)
      case atStart => exact ⟨0, _, rfl, rfl, Nat.zero_le _, Below.refl _ _, by simpa [colE] using World.ownsRow_nil _ _ _ _⟩
      case round =>
        obtain ⟨k, lv, rfl, rfl, hk, hBr, hown⟩ := hrel
        have HBR := Lib.hid hBr; have HOWN := Lib.hid hown
        have hszx := hBr.size
        clear x0 x1 x2 x3 x4 hown
        obtain ⟨x0, x1, x2, x3, x4⟩ := sysC ((hBr.block _ (Array.getElem?_eq_some_iff.1 HXC2.out).1).trans HXC2.out)
        clear hBr
        by_cases hlt : k < el
        · have hlt2 : k < s.es.length := by rw [← HEL.out]; exact hlt
          obtain ⟨x, hx⟩ := getElem?_of_lt hlt2
          have hser := HSE.out.below HBR.out (Nat.le_refl _)
          obtain rfl := hser.ad (by omega)
          have d0 := hser.e0 hx; have d1 := hser.e1 hx; have d2 := hser.e2 hx
          have hbl := hser.lt (by omega)
          have hxr := offB_false.1 (HR.out.edges x (List.mem_of_getElem? hx))
          have hstn := HNN.out
          have hct := colE_take (c := C) hx
          obtain ⟨x1', x2', x3'⟩ := x
          simp only at hxr d0 d1 d2 hct
          obtain ⟨i1, rfl⟩ := Int.eq_ofNat_of_zero_le hxr.1
          obtain ⟨i3, rfl⟩ := Int.eq_ofNat_of_zero_le hxr.2.2.2.2.1
          have h1n : i1 < n := by omega
          have h3n : i3 < n := by omega
          have h1n' : (i1 : Int) < (n : Int) := by omega
          have h3n' : (i3 : Int) < (n : Int) := by omega
          have a1e : atL C (i1 : Int) = clf n f i1 := by rw [HC.out, atL_fl (by omega) (by omega)]; rfl
          have a3e : atL C (i3 : Int) = clf n f i3 := by rw [HC.out, atL_fl (by omega) (by omega)]; rfl
          rw [a1e, a3e] at hct
          have hcr := HCSC2.out.below HBR.out (Nat.le_refl _)
          have g1 := hcr.ci (show C[i1]? = some (clf n f i1) by rw [HC.out]; exact fl_get _ h1n)
          have g3 := hcr.ci (show C[i3]? = some (clf n f i3) by rw [HC.out]; exact fl_get _ h3n)
          have gl := hcr.lt (by rw [HCL.out]; omega)
          simp only [Nat.zero_add] at g1 g3
          obtain ⟨c1, hc1⟩ : ∃ c1, c1 = clf n f i1 := ⟨_, rfl⟩
          obtain ⟨c3, hc3⟩ : ∃ c3, c3 = clf n f i3 := ⟨_, rfl⟩
          rw [← hc1] at g1 hct; rw [← hc3] at g3 hct
          have hki : (k : Int) < (el : Int) := by omega
          have HCT := Lib.hid hct
          have hcl := colE_len C (s.es.take k)
          have hcl2 : (colE C (s.es.take k)).length ≤ 10000 := by have h1 := HST.out; rw [List.length_take] at hcl; omega
          clear hx hser hxr hstn hct a1e a3e hc1 hc3 hcl hcr
          -- region 9
          have KEEP : RowKit.Hid (∀ V, Below wr.heap.size wr V → (V.cell? ⟨w.heap.size, 3, none⟩ = some (.slice (some ⟨b, off, none⟩) el c) ∧ w.heap.size < V.heap.size ∧ V.cell? ⟨b, off + k * 3, none⟩ = some (.int .i64 (i1 : Int)) ∧ V.cell? ⟨b, off + k * 3 + 1, none⟩ = some (.int .i64 x2') ∧ V.cell? ⟨b, off + k * 3 + 2, none⟩ = some (.int .i64 (i3 : Int)) ∧ b < V.heap.size ∧ V.cell? ⟨cb, i1, none⟩ = some (.int .i64 c1) ∧ V.cell? ⟨cb, i3, none⟩ = some (.int .i64 c3) ∧ cb < V.heap.size) ∧ Below wr.heap.size wr V) := Lib.hid (fun V hV => by
            have h9 := (hV.block w.heap.size x4)
            refine ⟨⟨?_, Nat.lt_of_lt_of_le x4 hV.size, ?_, ?_, ?_, Nat.lt_of_lt_of_le hbl hV.size, ?_, ?_, Nat.lt_of_lt_of_le gl hV.size⟩, hV⟩
            · rw [World.cell?_of_block (w := wr) (a := ⟨w.heap.size, 3, none⟩) h9]; exact x3
            · rw [hV.cell (p := ⟨b, off + k * 3, none⟩) hbl]; exact d0
            · rw [hV.cell (p := ⟨b, off + k * 3 + 1, none⟩) hbl]; exact d1
            · rw [hV.cell (p := ⟨b, off + k * 3 + 2, none⟩) hbl]; exact d2
            · rw [hV.cell (p := ⟨cb, i1, none⟩) gl]; exact g1
            · rw [hV.cell (p := ⟨cb, i3, none⟩) gl]; exact g3)
          have HS0 : RowKit.Hid (Below wr.heap.size wr wr.drew) := Lib.hid (Below.refl _ _).drew
          go_upto_region 9 with fail
          clear x0 x1 x2 x3 x4 d0 d1 d2 hbl g1 g3 gl
          refine wp_region_held_drew (S := (fun V => (V.cell? ⟨w.heap.size, 3, none⟩ = some (.slice (some ⟨b, off, none⟩) el c) ∧ w.heap.size < V.heap.size ∧ V.cell? ⟨b, off + k * 3, none⟩ = some (.int .i64 (i1 : Int)) ∧ V.cell? ⟨b, off + k * 3 + 1, none⟩ = some (.int .i64 x2') ∧ V.cell? ⟨b, off + k * 3 + 2, none⟩ = some (.int .i64 (i3 : Int)) ∧ b < V.heap.size ∧ V.cell? ⟨cb, i1, none⟩ = some (.int .i64 c1) ∧ V.cell? ⟨cb, i3, none⟩ = some (.int .i64 c3) ∧ cb < V.heap.size) ∧ Below wr.heap.size wr V)) (by kernel_rfl) (by (try dsimp only); exact KEEP.out _ HS0.out) (fun hHeld => ?_)
          refine wpAnyH_take (i := 0) (v := ?_) rfl (by kernel_rfl) (by kernel_rfl) (by kernel_rfl) (fun _ _ _ h => h) (Or.inl ⟨by rfl, ?_⟩) (by assumption) ?_
          rotate_left
          · intro w hSw
            try dsimp only at hSw
            go_simp
            try with_reducible rfl
          try simp only [List.getElem_toArray, List.getElem_cons_zero, List.getElem_cons_succ, Act.put, List.setIfInBounds_toArray, List.set_cons_zero, List.set_cons_succ]
          refine wpAnyH_take (i := 1) (v := ?_) rfl (by kernel_rfl) (by kernel_rfl) (by kernel_rfl) (fun _ _ _ h => h) (Or.inl ⟨by rfl, ?_⟩) (by assumption) ?_
          rotate_left
          · intro w hSw
            try dsimp only at hSw
            go_simp
            try with_reducible rfl
          try simp only [List.getElem_toArray, List.getElem_cons_zero, List.getElem_cons_succ, Act.put, List.setIfInBounds_toArray, List.set_cons_zero, List.set_cons_succ]
          refine wpAnyH_take (i := 2) (v := ?_) rfl (by kernel_rfl) (by kernel_rfl) (by kernel_rfl) (fun _ _ _ h => h) (Or.inl ⟨by rfl, ?_⟩) (by assumption) ?_
          rotate_left
          · intro w hSw
            try dsimp only at hSw
            go_simp
            try with_reducible rfl
          try simp only [List.getElem_toArray, List.getElem_cons_zero, List.getElem_cons_succ, Act.put, List.setIfInBounds_toArray, List.set_cons_zero, List.set_cons_succ]
          refine wpAnyH_take (i := 3) (v := ?_) rfl (by kernel_rfl) (by kernel_rfl) (by kernel_rfl) (fun _ _ _ h => h) (Or.inl ⟨by rfl, ?_⟩) (by assumption) ?_
          rotate_left
          · intro w hSw
            try dsimp only at hSw
            go_simp
            try with_reducible rfl
          try simp only [List.getElem_toArray, List.getElem_cons_zero, List.getElem_cons_succ, Act.put, List.setIfInBounds_toArray, List.set_cons_zero, List.set_cons_succ]
          refine wpAnyH_take (i := 4) (v := ?_) rfl (by kernel_rfl) (by kernel_rfl) (by kernel_rfl) (fun _ _ _ h => h) (Or.inl ⟨by rfl, ?_⟩) (by assumption) ?_
          rotate_left
          · intro w hSw
            try dsimp only at hSw
            go_simp
            try with_reducible rfl
          try simp only [List.getElem_toArray, List.getElem_cons_zero, List.getElem_cons_succ, Act.put, List.setIfInBounds_toArray, List.set_cons_zero, List.set_cons_succ]
          refine wpAnyH_take (i := 5) (v := ?_) rfl (by kernel_rfl) (by kernel_rfl) (by kernel_rfl) (fun _ _ _ h => h) (Or.inl ⟨by rfl, ?_⟩) (by assumption) ?_
          rotate_left
          · intro w hSw
            try dsimp only at hSw
            go_simp
            try with_reducible rfl
          try simp only [List.getElem_toArray, List.getElem_cons_zero, List.getElem_cons_succ, Act.put, List.setIfInBounds_toArray, List.set_cons_zero, List.set_cons_succ]
          refine wpAnyH_take (i := 6) (v := ?_) rfl (by kernel_rfl) (by kernel_rfl) (by kernel_rfl) (fun _ _ _ h => h) (Or.inl ⟨by rfl, ?_⟩) (by assumption) ?_
          rotate_left
          · intro w hSw
            try dsimp only at hSw
            go_simp
            try with_reducible rfl
          try simp only [List.getElem_toArray, List.getElem_cons_zero, List.getElem_cons_succ, Act.put, List.setIfInBounds_toArray, List.set_cons_zero, List.set_cons_succ]
          refine wpAnyH_take (i := 7) (v := ?_) rfl (by kernel_rfl) (by kernel_rfl) (by kernel_rfl) (fun _ _ _ h => h) (Or.inl ⟨by rfl, ?_⟩) (by assumption) ?_
          rotate_left
          · intro w hSw
            try dsimp only at hSw
            go_simp
            try with_reducible rfl
          try simp only [List.getElem_toArray, List.getElem_cons_zero, List.getElem_cons_succ, Act.put, List.setIfInBounds_toArray, List.set_cons_zero, List.set_cons_succ]
          refine wpAnyH_take (i := 8) (v := ?_) rfl (by kernel_rfl) (by kernel_rfl) (by kernel_rfl) (fun _ _ _ h => h) (Or.inl ⟨by rfl, ?_⟩) (by assumption) ?_
          rotate_left
          · intro w hSw
            try dsimp only at hSw
            go_simp
            try with_reducible rfl
          try simp only [List.getElem_toArray, List.getElem_cons_zero, List.getElem_cons_succ, Act.put, List.setIfInBounds_toArray, List.set_cons_zero, List.set_cons_succ]
          refine wpAnyH_take (i := 9) (v := ?_) rfl (by kernel_rfl) (by kernel_rfl) (by kernel_rfl) (fun _ _ _ h => h) (Or.inl ⟨by rfl, ?_⟩) (by assumption) ?_
          rotate_left
          · intro w hSw
            try dsimp only at hSw
            go_simp
            try with_reducible rfl
          try simp only [List.getElem_toArray, List.getElem_cons_zero, List.getElem_cons_succ, Act.put, List.setIfInBounds_toArray, List.set_cons_zero, List.set_cons_succ]
          refine wpAnyH_take (i := 10) (v := ?_) rfl (by kernel_rfl) (by kernel_rfl) (by kernel_rfl) (fun _ _ _ h => h) (Or.inl ⟨by rfl, ?_⟩) (by assumption) ?_
          rotate_left
          · intro w hSw
            try dsimp only at hSw
            go_simp
            try with_reducible rfl
          try simp only [List.getElem_toArray, List.getElem_cons_zero, List.getElem_cons_succ, Act.put, List.setIfInBounds_toArray, List.set_cons_zero, List.set_cons_succ]
          refine wpAnyH_take (i := 11) (v := ?_) rfl (by kernel_rfl) (by kernel_rfl) (by kernel_rfl) (fun _ _ _ h => h) (Or.inl ⟨by rfl, ?_⟩) (by assumption) ?_
          rotate_left
          · intro w hSw
            try dsimp only at hSw
            go_simp
            try with_reducible rfl
          try simp only [List.getElem_toArray, List.getElem_cons_zero, List.getElem_cons_succ, Act.put, List.setIfInBounds_toArray, List.set_cons_zero, List.set_cons_succ]
          refine wpAnyH_take (i := 12) (v := ?_) rfl (by kernel_rfl) (by kernel_rfl) (by kernel_rfl) (fun _ _ _ h => h) (Or.inl ⟨by rfl, ?_⟩) (by assumption) ?_
          rotate_left
          · intro w hSw
            try dsimp only at hSw
            go_simp
            try with_reducible rfl
          try simp only [List.getElem_toArray, List.getElem_cons_zero, List.getElem_cons_succ, Act.put, List.setIfInBounds_toArray, List.set_cons_zero, List.set_cons_succ]
          refine wpAnyH_take (i := 13) (v := ?_) rfl (by kernel_rfl) (by kernel_rfl) (by kernel_rfl) (fun _ _ _ h => h) (Or.inl ⟨by rfl, ?_⟩) (by assumption) ?_
          rotate_left
          · intro w hSw
            try dsimp only at hSw
            go_simp
            try with_reducible rfl
          try simp only [List.getElem_toArray, List.getElem_cons_zero, List.getElem_cons_succ, Act.put, List.setIfInBounds_toArray, List.set_cons_zero, List.set_cons_succ]
          refine wpAnyH_take (i := 14) (v := ?_) rfl (by kernel_rfl) (by kernel_rfl) (by kernel_rfl) (fun _ _ _ h => h) (Or.inl ⟨by rfl, ?_⟩) (by assumption) ?_
          rotate_left
          · intro w hSw
            try dsimp only at hSw
            go_simp
            try with_reducible rfl
          try simp only [List.getElem_toArray, List.getElem_cons_zero, List.getElem_cons_succ, Act.put, List.setIfInBounds_toArray, List.set_cons_zero, List.set_cons_succ]
          refine wpAnyH_take (i := 15) (v := ?_) rfl (by kernel_rfl) (by kernel_rfl) (by kernel_rfl) (fun _ _ _ h => h) (Or.inl ⟨by rfl, ?_⟩) (by assumption) ?_
          rotate_left
          · intro w hSw
            try dsimp only at hSw
            go_simp
            try with_reducible rfl
          try simp only [List.getElem_toArray, List.getElem_cons_zero, List.getElem_cons_succ, Act.put, List.setIfInBounds_toArray, List.set_cons_zero, List.set_cons_succ]
          refine wpAnyH_take (i := 16) (v := ?_) rfl (by kernel_rfl) (by kernel_rfl) (by kernel_rfl) (fun _ _ _ h => h) (Or.inl ⟨by rfl, ?_⟩) (by assumption) ?_
          rotate_left
          · intro w hSw
            try dsimp only at hSw
            go_simp
            try with_reducible rfl
          try simp only [List.getElem_toArray, List.getElem_cons_zero, List.getElem_cons_succ, Act.put, List.setIfInBounds_toArray, List.set_cons_zero, List.set_cons_succ]
          refine wpAnyH_take (i := 17) (v := ?_) rfl (by kernel_rfl) (by kernel_rfl) (by kernel_rfl) (fun _ _ _ h => h) (Or.inl ⟨by rfl, ?_⟩) (by assumption) ?_
          rotate_left
          · intro w hSw
            try dsimp only at hSw
            go_simp
            try with_reducible rfl
          try simp only [List.getElem_toArray, List.getElem_cons_zero, List.getElem_cons_succ, Act.put, List.setIfInBounds_toArray, List.set_cons_zero, List.set_cons_succ]
          refine wpAnyH_take (i := 18) (v := ?_) rfl (by kernel_rfl) (by kernel_rfl) (by kernel_rfl) (fun _ _ _ h => h) (Or.inl ⟨by rfl, ?_⟩) (by assumption) ?_
          rotate_left
          · intro w hSw
            try dsimp only at hSw
            go_simp
            try with_reducible rfl
          try simp only [List.getElem_toArray, List.getElem_cons_zero, List.getElem_cons_succ, Act.put, List.setIfInBounds_toArray, List.set_cons_zero, List.set_cons_succ]
          refine wpAnyH_take (i := 19) (v := ?_) rfl (by kernel_rfl) (by kernel_rfl) (by kernel_rfl) (fun _ _ _ h => h) (Or.inl ⟨by rfl, ?_⟩) (by assumption) ?_
          rotate_left
          · intro w hSw
            try dsimp only at hSw
            go_simp
            try with_reducible rfl
          try simp only [List.getElem_toArray, List.getElem_cons_zero, List.getElem_cons_succ, Act.put, List.setIfInBounds_toArray, List.set_cons_zero, List.set_cons_succ]
          refine wpAnyH_take (i := 20) (v := ?_) rfl (by kernel_rfl) (by kernel_rfl) (by kernel_rfl) (fun _ _ _ h => h) (Or.inl ⟨by rfl, ?_⟩) (by assumption) ?_
          rotate_left
          · intro w hSw
            try dsimp only at hSw
            go_simp
            try with_reducible rfl
          try simp only [List.getElem_toArray, List.getElem_cons_zero, List.getElem_cons_succ, Act.put, List.setIfInBounds_toArray, List.set_cons_zero, List.set_cons_succ]
          refine wpAnyH_take (i := 21) (v := ?_) rfl (by kernel_rfl) (by kernel_rfl) (by kernel_rfl) (fun _ _ _ h => h) (Or.inl ⟨by rfl, ?_⟩) (by assumption) ?_
          rotate_left
          · intro w hSw
            try dsimp only at hSw
            go_simp
            try with_reducible rfl
          try simp only [List.getElem_toArray, List.getElem_cons_zero, List.getElem_cons_succ, Act.put, List.setIfInBounds_toArray, List.set_cons_zero, List.set_cons_succ]
          refine wpAnyH_take (i := 22) (v := ?_) rfl (by kernel_rfl) (by kernel_rfl) (by kernel_rfl) (fun _ _ _ h => h) (Or.inl ⟨by rfl, ?_⟩) (by assumption) ?_
          rotate_left
          · intro w hSw
            try dsimp only at hSw
            go_simp
            try with_reducible rfl
          try simp only [List.getElem_toArray, List.getElem_cons_zero, List.getElem_cons_succ, Act.put, List.setIfInBounds_toArray, List.set_cons_zero, List.set_cons_succ]
          refine wpAnyH_take (i := 23) (v := ?_) rfl (by kernel_rfl) (by kernel_rfl) (by kernel_rfl) (fun _ _ _ h => h) (Or.inl ⟨by rfl, ?_⟩) (by assumption) ?_
          rotate_left
          · intro w hSw
            try dsimp only at hSw
            go_simp
            try with_reducible rfl
          try simp only [List.getElem_toArray, List.getElem_cons_zero, List.getElem_cons_succ, Act.put, List.setIfInBounds_toArray, List.set_cons_zero, List.set_cons_succ]
          refine wpAnyH_take (i := 24) (v := ?_) rfl (by kernel_rfl) (by kernel_rfl) (by kernel_rfl) (fun _ _ _ h => h) (Or.inl ⟨by rfl, ?_⟩) (by assumption) ?_
          rotate_left
          · intro w hSw
            try dsimp only at hSw
            go_simp
            try with_reducible rfl
          try simp only [List.getElem_toArray, List.getElem_cons_zero, List.getElem_cons_succ, Act.put, List.setIfInBounds_toArray, List.set_cons_zero, List.set_cons_succ]
          refine wpAnyH_ready (rs := [25]) (by kernel_rfl) (by simp) ?_
          refine AllReadyH.cons rfl (fun K hK => ?_) AllReadyH.nil
          go_simp
          refine hK.out _ _ (by (try dsimp only); exact KEEP.out _ (bAlloc HS0.out _)) (fun hHeld => ?_)
          clear hK K
          try simp only [List.getElem_toArray, List.getElem_cons_zero, List.getElem_cons_succ, Act.put, List.setIfInBounds_toArray, List.set_cons_zero, List.set_cons_succ]
          refine wpAnyH_ready (rs := [26]) (by kernel_rfl) (by simp) ?_
          refine AllReadyH.cons rfl (fun K hK => ?_) AllReadyH.nil
          go_simp
          refine hK.out _ _ (by (try dsimp only); exact KEEP.out _ (bAlloc HS0.out _)) (fun hHeld => ?_)
          clear hK K
          try simp only [List.getElem_toArray, List.getElem_cons_zero, List.getElem_cons_succ, Act.put, List.setIfInBounds_toArray, List.set_cons_zero, List.set_cons_succ]
          refine wpAnyH_done (by kernel_rfl) ?_ _
          -- end 9
          obtain ⟨W2, hW2⟩ : ∃ W2, W2 = (wr.alloc (.cells #[.int .i64 c1, .int .i64 x2', .int .i64 c3] 79)).drew := ⟨_, rfl⟩
          have hb2 : Below wr.heap.size wr W2 := by rw [hW2]; exact ((Below.refl _ _).alloc (Nat.le_refl _) _).drew
          have hx3 : W2.heap[wr.heap.size]? = some (.cells #[.int .i64 c1, .int .i64 x2', .int .i64 c3] 79 (0, 0)) := by rw [hW2]; exact heap_alloc_new wr _
          have e0 : W2.cell? ⟨wr.heap.size, 0, none⟩ = some (.int .i64 c1) := by simp [World.cell?, hx3]
          have e1 : W2.cell? ⟨wr.heap.size, 1, none⟩ = some (.int .i64 x2') := by simp [World.cell?, hx3]
          have e2 : W2.cell? ⟨wr.heap.size, 2, none⟩ = some (.int .i64 c3) := by simp [World.cell?, hx3]
          have el2 := (Array.getElem?_eq_some_iff.1 hx3).1
          rw [← hW2]
          have HB2 := Lib.hid hb2
          clear hb2 hx3 hW2 KEEP HS0
          by_cases hx0 : x2' = 0
          · by_cases hcc : c1 = c3
            · have hb1 : (x2' != 0) = false := by simp [hx0]
              have hb2 : (c1 != c3) = false := by simp [hcc]
              have hct2 := HCT.out
              rw [if_pos ⟨hx0, hcc⟩] at hct2
              have HCT2 := Lib.hid hct2
              clear hx0 hcc hct2
              go_wp2_with fail
              go_roundw
              case rel => exact ⟨k + 1, lv, rfl, by go_num, by omega, HBR.out.trans (HB2.out.mono hszx), by rw [HCT2.out]; exact own_below HOWN.out HB2.out⟩
              case measure => simp [intOf]; omega
            · have hb1 : (x2' != 0) = false := by simp [hx0]
              have hb2 : (c1 != c3) = true := by simp [hcc]
              have hct2 := HCT.out
              rw [if_neg (fun h => hcc h.2)] at hct2
              have HCT2 := Lib.hid hct2
              clear hx0 hcc hct2
              have HOZ : RowKit.Hid (∀ o : Obj, (W2.alloc o).ownsRow wc.heap.size 79 3 lv (colE C (s.es.take k)).length ((colE C (s.es.take k)).flatMap encE)) := Lib.hid (fun o => (own_below HOWN.out HB2.out).alloc o)
              have hW2s := HB2.out.size
              go_wp2_with (at_builtin; refine wpList_lie rfl _ _ 22 rfl rowE (base := wc.heap.size) (by simp; omega) rfl (HOZ.out _) ⟨W2.heap.size, 0, none⟩ 1 1 [.int .i64 c1, .int .i64 x2', .int .i64 c3] rfl rfl (cells3 (by simp [go_sem]) (by simp [go_sem]) (by simp [go_sem])) (by simp [Value.oneCell']) (by decide) (by omega) (by unfold maxLen; omega) W2.heap.size (by simp) ?_; intro g2 cap2 w7 hown7 hg7 _ _)
              have hb7 := ((HBR.out.trans (HB2.out.mono hszx)).alloc (by omega) (.cells #[.int .i64 c1, .int .i64 x2', .int .i64 c3] 79)).grown hg7 (by simp; omega) (fun k hk => (HOWN.out.lt k hk).1)
              have HB7 := Lib.hid hb7; have HO7 := Lib.hid hown7
              clear hb7 hown7 hg7 e0 e1 e2 el2 HOZ
              go_roundw
              case rel => exact ⟨k + 1, _, rfl, by go_num, by omega, HB7.out, by rw [HCT2.out, List.length_append, List.flatMap_append]; exact HO7.out⟩
              case measure => simp [intOf]; omega
          · have hb1 : (x2' != 0) = true := by simp [hx0]
            have hct2 := HCT.out
            rw [if_neg (fun h => hx0 h.1)] at hct2
            have HCT2 := Lib.hid hct2
            clear hx0 hct2
            have HOZ : RowKit.Hid (∀ o : Obj, (W2.alloc o).ownsRow wc.heap.size 79 3 lv (colE C (s.es.take k)).length ((colE C (s.es.take k)).flatMap encE)) := Lib.hid (fun o => (own_below HOWN.out HB2.out).alloc o)
            have hW2s := HB2.out.size
            go_wp2_with (at_builtin; refine wpList_lie rfl _ _ 22 rfl rowE (base := wc.heap.size) (by simp; omega) rfl (HOZ.out _) ⟨W2.heap.size, 0, none⟩ 1 1 [.int .i64 c1, .int .i64 x2', .int .i64 c3] rfl rfl (cells3 (by simp [go_sem]) (by simp [go_sem]) (by simp [go_sem])) (by simp [Value.oneCell']) (by decide) (by omega) (by unfold maxLen; omega) W2.heap.size (by simp) ?_; intro g2 cap2 w7 hown7 hg7 _ _)
            have hb7 := ((HBR.out.trans (HB2.out.mono hszx)).alloc (by omega) (.cells #[.int .i64 c1, .int .i64 x2', .int .i64 c3] 79)).grown hg7 (by simp; omega) (fun k hk => (HOWN.out.lt k hk).1)
            have HB7 := Lib.hid hb7; have HO7 := Lib.hid hown7
            clear hb7 hown7 hg7 e0 e1 e2 el2 HOZ
            go_roundw
            case rel => exact ⟨k + 1, _, rfl, by go_num, by omega, HB7.out, by rw [HCT2.out, List.length_append, List.flatMap_append]; exact HO7.out⟩
            case measure => simp [intOf]; omega
        · obtain rfl : k = el := by omega
          have hown2 : wr.ownsRow wc.heap.size 79 3 lv (colE C s.es).length ((colE C s.es).flatMap encE) := by
            have h1 := HOWN.out
            rw [HEL.out, List.take_length] at h1
            exact h1
          obtain ⟨ga, gc, g, rfl, hgc1, hgc2, hsl, _⟩ := slAt_own lenE hown2
          have hcl := colE_len C s.es
          have hcl2 : (colE C s.es).length ≤ 20000 := by have := HST.out; omega
          have HSO := Lib.hid (refSorted_any _ (Nat.le_refl _) hsl hgc1 hgc2 hcl2)
          obtain ⟨cl, hcle⟩ : ∃ cl, cl = (colE C s.es).length := ⟨_, rfl⟩
          rw [← hcle] at HSO ⊢
          have hox := (HBR.out.block _ (Array.getElem?_eq_some_iff.1 HOX2.out).1).trans HOX2.out
          have hrx := (HBR.out.block _ (Array.getElem?_eq_some_iff.1 HRC2.out).1).trans HRC2.out
          have hro := HROC2.out.of_block (HBR.out.block cb HROC2.out.lt)
          have HOX3 := Lib.hid hox; have HRX3 := Lib.hid hrx; have HRO3 := Lib.hid hro
          clear hown2 hsl hcl hcl2 hcle hgc1 hgc2 hox hrx hro HOWN
          go_wp2_with fail
          refine HSO.out.mono ?_
          rintro e w6 ⟨sa, sc, rfl, hown6, hB6⟩
          obtain ⟨nl, hnl⟩ : ∃ nl, nl = (nf ltE (colE C s.es)).length := ⟨_, rfl⟩
          have HNL := Lib.hid hnl
          obtain ⟨sa2, sc2, sb, hse2, hs1', hs2', hss, hsb⟩ := slAt_own lenE hown6
          simp only [Value.slice.injEq] at hse2
          obtain ⟨rfl, _, rfl⟩ := hse2
          rw [← hnl] at hown6 hs1' ⊢
          have ho6 := (hB6.block O (Array.getElem?_eq_some_iff.1 HOX3.out).1).trans HOX3.out
          have hr6 := (hB6.block (w.heap.size + 1) (Array.getElem?_eq_some_iff.1 HRX3.out).1).trans HRX3.out
          have hro6 := HRO3.out.of_block (hB6.block cb HRO3.out.lt)
          have hol := (Array.getElem?_eq_some_iff.1 HOX3.out).1
          have hrl := (Array.getElem?_eq_some_iff.1 HRX3.out).1
          obtain ⟨y0, y1, y2, y3, y4⟩ := sysC ho6
          have yf : w6.frozen? ⟨O, 3, none⟩ = false := by simp [World.frozen?, ho6]
          obtain ⟨⟨z0, z1, z2, z3, z4⟩, f0, f1, f2, f3⟩ := sysZ hr6
          have hOR : ¬ O = w.heap.size + 1 := by omega
          have hOR2 : ¬ w.heap.size + 1 = O := by omega
          have hcO : cb ≠ O := by omega
          have hcR : cb ≠ w.heap.size + 1 := by omega
          have hsne : 0 < (nf ltE (colE C s.es)).length → sb ≠ O ∧ sb ≠ w.heap.size + 1 := fun hp => by have := hsb hp; omega
          have hbel6 : Below w.heap.size w w6 := (HBW2.out.trans (HBR.out.mono HBW2.out.size)).trans (hB6.mono (by have := HBW2.out.size; have := HBR.out.size; omega))
          have HSS := Lib.hid hss; have HRO6 := Lib.hid hro6; have HB6 := Lib.hid hbel6; have HSN := Lib.hid hsne; have HS1 := Lib.hid hs1'; have HS2 := Lib.hid hs2'
          have hwO : w.heap.size ≤ O := by omega
          clear hown6 hB6 ho6 hr6 hro6 hbel6 hsne hsb hnl hss hs1' hs2' x0 x1 x2 x3 x4 hol hrl
          go_wp2_with fail
          have hst2 : (col s C).st = (M : Int) := by rw [HM.out]; rfl
          have hlb2 : (col s C).lb = s.lb := rfl
          have hes2 : (col s C).es = nf ltE (colE C s.es) := rfl
          rw [← HC.out, hst2, hlb2, hes2, ← HS0.out]
          rw [← HNL.out]
          refine bodyPost_ret (v := .tuple #[.agg #[.int .i64 M, .int .i64 s.lb, .int .i64 S0, .slice sa nl sc], .slice (some ⟨cb, 0, none⟩) n n]) (by simp [results, Tryz.results35, go_sem, z0, z1, z2, z3]) rfl ⟨cb, sa, sc, sb, rfl, ?_, HS1.out, HS2.out, ?_, ?_⟩
          · exact ((((HSS.out.setOther (fun hp => (HSN.out hp).1) _).setOther (fun hp => (HSN.out hp).2) _).setOther (fun hp => (HSN.out hp).2) _).setOther (fun hp => (HSN.out hp).2) _).setOther (fun hp => (HSN.out hp).2) _
          · exact ((((HRO6.out.setOther (a := ⟨O, 3, none⟩) hcO _).setOther (a := ⟨w.heap.size + 1, 0, none⟩) hcR _).setOther (a := ⟨w.heap.size + 1, 1, none⟩) hcR _).setOther (a := ⟨w.heap.size + 1, 2, none⟩) hcR _).setOther (a := ⟨w.heap.size + 1, 3, none⟩) hcR _
          · exact ((((HB6.out.setCell (p := ⟨O, 3, none⟩) hwO _).setCell (p := ⟨w.heap.size + 1, 0, none⟩) (by simp) _).setCell (p := ⟨w.heap.size + 1, 1, none⟩) (by simp) _).setCell (p := ⟨w.heap.size + 1, 2, none⟩) (by simp) _).setCell (p := ⟨w.heap.size + 1, 3, none⟩) (by simp) _
end Go.Proofs.YtkmljelgogcobaaGreatDoor

namespace Go.Proofs.YtkmljelgogcobaaGreatDoor
open Go.RowKit Pl

/-- Do all silent steps of a list lead to what stands? -/
def rdy (D : List Nat) (l : List S) : Prop := ∀ y ∈ l, y.1 = 0 → y.2.toNat ∈ D

set_option maxRecDepth 100000 in
set_option maxHeartbeats 4000000 in
theorem ready_any {l : List S} {m sc : Nat} {D : List Nat} {w : World} {a : Option Addr} {b off c sb : Nat} (hL : SlAt encS 2 w a b off l) (hlen : l.length ≤ 10000) (hS : w.rowIs sb 4 m (fun k => .bool (decide (k ∈ D)))) (hm : m ≤ 1000) (hr : ∀ y ∈ l, 0 ≤ y.2 ∧ y.2 < (m : Int)) :
    Calls Tryz.prog 118 #[.slice a l.length c, .slice (some ⟨sb, 0, none⟩) m sc] w fun e w' => (∃ r : Bool, e = .returned (.bool r) ∧ (r = true ↔ rdy D l)) ∧ Below w.heap.size w w' := by
  have HL := Lib.hid hL; have HSR := Lib.hid hS; have HRG := Lib.hid hr
  clear hL hS hr
  go_enter Tryz.func118, Tryz.ntmps118
  go_wp2_with fail
  go_loopw [5] (fun v5 wr => ∃ k : Nat, v5 = .int .i64 k ∧ k ≤ l.length ∧ rdy D (l.take k) ∧ Below w.heap.size w wr)
    (fun v5 _ => l.length - (intOf v5).toNat)
  case atStart => exact ⟨0, rfl, Nat.zero_le _, (fun y hy => by simp at hy), Below.refl _ _⟩
  case round =>
    obtain ⟨k, rfl, hk, hrd, hB⟩ := hrel
    have HRD := Lib.hid hrd; have HB := Lib.hid hB
    clear hrd hB
    by_cases hlt : k < l.length
    · obtain ⟨y, hy⟩ := getElem?_of_lt hlt
      have hki : (k : Int) < (l.length : Int) := by omega
      have hl2 := HL.out.below HB.out (Nat.le_refl _)
      obtain rfl := hl2.ad (by omega)
      have d0 := hl2.s0 hy; have d1 := hl2.s1 hy
      have hbl := hl2.lt (by omega)
      have hym := List.mem_of_getElem? hy
      have hyr := HRG.out y hym
      have htk : l.take (k + 1) = l.take k ++ [y] := by rw [List.take_add_one, hy]; rfl
      obtain ⟨y1, y2⟩ := y
      simp only at d0 d1 hyr
      obtain ⟨t, rfl⟩ := Int.eq_ofNat_of_zero_le hyr.1
      have htn : t < m := by omega
      have htI : (t : Int) < (m : Int) := by omega
      have hrow := HSR.out.of_block (HB.out.block sb HSR.out.lt)
      have c1 := hrow.cell htn
      have hsl := hrow.lt
      have HTK := Lib.hid htk; have HYM := Lib.hid hym
      clear hl2 hy hym hyr htk hrow
      by_cases h0 : y1 = 0
      · subst h0
        by_cases hin : t ∈ D
        · have hd : decide (t ∈ D) = true := by simp [hin]
          rw [hd] at c1
          have HIN := Lib.hid hin
          clear hd hin
          go_wp2_with fail
          go_roundw
          case rel => exact ⟨k + 1, by go_num, by omega, by
            rw [HTK.out]
            intro y hy h0
            rcases List.mem_append.1 hy with h | h
            · exact HRD.out y h h0
            · rw [List.mem_singleton] at h; subst h; simpa using HIN.out, HB.out⟩
          case measure => simp [intOf]; omega
        · have hd : decide (t ∈ D) = false := by simp [hin]
          rw [hd] at c1
          have HIN := Lib.hid hin
          clear hd hin
          go_wp2_with fail
          go_ret
          refine ⟨⟨false, rfl, ?_⟩, HB.out⟩
          constructor
          · intro h; cases h
          · intro h; exact absurd (by simpa using h _ HYM.out rfl) HIN.out
      · have hb : (y1 == 0) = false := by simp [h0]
        have HZ := Lib.hid h0
        clear h0
        go_wp2_with fail
        go_roundw
        case rel => exact ⟨k + 1, by go_num, by omega, by
          rw [HTK.out]
          intro y hy h0
          rcases List.mem_append.1 hy with h | h
          · exact HRD.out y h h0
          · rw [List.mem_singleton] at h; subst h; exact absurd h0 HZ.out, HB.out⟩
        case measure => simp [intOf]; omega
    · obtain rfl : k = l.length := by omega
      go_wp2_with fail
      go_ret
      refine ⟨⟨true, rfl, ?_⟩, HB.out⟩
      have h := HRD.out
      rw [List.take_length] at h
      exact ⟨fun _ => h, fun _ => rfl⟩
end Go.Proofs.YtkmljelgogcobaaGreatDoor

namespace Go.Proofs.YtkmljelgogcobaaGreatDoor
open Go.RowKit Pl

/-- The world of the order while it is made: what stands, the list so far. -/
structure OrQ (w2 wr : World) (sb M : Nat) (D : List Nat) (L : List Int) (v : Value) : Prop where
  below : Below sb w2 wr
  sbe : sb = w2.heap.size
  seen : wr.rowIs sb 4 M (fun k => .bool (decide (k ∈ D)))
  own : wr.ownsRow (sb + 1) 3 1 v L.length (L.flatMap encI)
  lo : sb + 1 ≤ wr.heap.size
theorem OrQ.of {w2 wr V : World} {sb M : Nat} {D : List Nat} {L : List Int} {v : Value} (h : OrQ w2 wr sb M D L v) (hB : Below wr.heap.size wr V) : OrQ w2 V sb M D L v :=
  ⟨h.below.trans (hB.mono (by have := h.lo; omega)), h.sbe, h.seen.of_block (hB.block sb h.seen.lt), own_below h.own hB, Nat.le_trans h.lo hB.size⟩
theorem OrQ.set {w2 wr : World} {sb M : Nat} {D : List Nat} {L : List Int} {v : Value} (h : OrQ w2 wr sb M D L v) (x : Nat) : OrQ w2 (wr.setCell ⟨sb, x, none⟩ (.bool true)) sb M (D ++ [x]) L v := by
  refine ⟨h.below.setCell (Nat.le_refl sb) _, h.sbe, (h.seen.set x (.bool true)).congr (fun i _ => ?_), ownsRow_setCell_below h.own (a := ⟨sb, x, none⟩) (by show sb < sb + 1; omega) _, by rw [size_setCell]; exact h.lo⟩
  by_cases hi : i = x
  · subst hi; simp
  · rw [if_neg hi]; simp [hi]
theorem OrQ.push {w2 wr w1 : World} {sb M : Nat} {D : List Nat} {L : List Int} {v v' : Value} {t : Int} (h : OrQ w2 wr sb M D L v) {o1 : Obj} (hown : w1.ownsRow (sb + 1) 3 1 v' (L ++ [t]).length ((L ++ [t]).flatMap encI))
    (hg : (wr.alloc o1).grownBy w1 v.ownBlock) : OrQ w2 w1 sb M D (L ++ [t]) v' := by
  have hlt := h.seen.lt
  have hlo := h.lo
  have hnb : some sb ≠ v.ownBlock := fun e => by have := (h.own.lt sb e.symm).1; omega
  have hb := hg.block sb (by simp; omega) hnb
  have hgs := hg.size
  refine ⟨(h.below.alloc (by omega) o1).grown hg (by simp; omega) (fun k hk => by have := (h.own.lt k hk).1; omega), h.sbe, (h.seen.alloc o1).of_block hb, hown, by simp at hgs; omega⟩
/-- The states of the cycles of a list, one behind the other. -/
def ordL (C : List Int) (n : Nat) (D : List Nat) : List Int := D.flatMap fun k : Nat => memK C n (k : Int)
theorem ordL_snoc (C : List Int) (n : Nat) (D : List Nat) (x : Nat) : ordL C n (D ++ [x]) = ordL C n D ++ memK C n (x : Int) := by simp [ordL]
theorem ordL_len (C : List Int) (n : Nat) (D : List Nat) : (ordL C n D).length ≤ D.length * n := by
  unfold ordL
  induction D with
  | nil => simp
  | cons x D ih =>
    rw [List.flatMap_cons, List.length_append, List.length_cons, Nat.add_mul]
    have := memK_len C n (x : Int); omega

set_option maxRecDepth 100000 in
set_option maxHeartbeats 8000000 in
theorem refOrder_any {s : Lts} {n : Nat} (hr : s.Right) (hn : s.st = (n : Int)) {f : Nat → Int} (hf : Cyc s n f) {a : Option Addr} {b off c : Nat} {w : World} (hS : SlAt encE 3 w a b off s.es) (hc : s.es.length ≤ c) (hcm : c ≤ maxLen) :
    Calls Tryz.prog 37 #[.agg #[.int .i64 s.st, .int .i64 s.lb, .int .i64 s.s0, .slice a s.es.length c]] w fun e w' => ∃ (D : List Nat) (v : Value), OrdL (col s (fl n (clf n f))) (dist (fl n (clf n f))).length D ∧ D.length = (dist (fl n (clf n f))).length ∧ e = .returned v ∧
      w'.ownsRow w.heap.size 3 1 v (D.flatMap fun k : Nat => memK (fl n (clf n f)) n (k : Int)).length ((D.flatMap fun k : Nat => memK (fl n (clf n f)) n (k : Int)).flatMap encI) ∧ Below w.heap.size w w' := by
  have hst := hr.st0
  have hn1 : n ≤ 1000 := by omega
  have hB0 := (Below.refl w.heap.size w).alloc (Nat.le_refl _) (Obj.cells #[.int .i64 s.st, .int .i64 s.lb, .int .i64 s.s0, .slice a s.es.length c] 24)
  have hX0 := heap_alloc_new w (Obj.cells #[.int .i64 s.st, .int .i64 s.lb, .int .i64 s.s0, .slice a s.es.length c] 24)
  have hN := refCollapse_any hr hn hf (hS.below hB0 (Nat.le_refl _)) hc hcm
  rw [hn] at hN hB0 hX0
  have HN := Lib.hid hN; have HB0 := Lib.hid hB0; have HR := Lib.hid hr; have HNN := Lib.hid hn; have HST := Lib.hid hst; have HX0 := Lib.hid hX0; have HF := Lib.hid hf
  rw [hn]
  clear hN hB0 hS hr hn hst hX0 hc hcm hf
  obtain ⟨el, hel⟩ : ∃ el, el = s.es.length := ⟨_, rfl⟩
  rw [← hel] at HN HB0 HX0 ⊢
  clear hel
  obtain ⟨C, hC⟩ : ∃ C, C = fl n (clf n f) := ⟨_, rfl⟩
  obtain ⟨t, ht⟩ : ∃ t, t = col s C := ⟨_, rfl⟩
  obtain ⟨M, hM⟩ : ∃ M, M = (dist C).length := ⟨_, rfl⟩
  rw [← hC, ← ht] at HN
  rw [← hC, ← ht, ← hM]
  have HC := Lib.hid hC; have HT := Lib.hid ht; have HM := Lib.hid hM
  clear hC ht hM
  go_enter Tryz.func37, Tryz.ntmps37
  go_wp2_with fail
  refine HN.out.mono ?_
  rintro e w1 ⟨cb, va, vc, vb, rfl, hes, hlc, hcm, hrow, hB1⟩
  have hCl : C.length = n := by rw [HC.out, fl_len]
  have htr : t.Right := by rw [HT.out, HC.out]; exact col_right HR.out HNN.out
  have htst : t.st = (M : Int) := by rw [HT.out, HM.out]; rfl
  have hMn : M ≤ n := by rw [HM.out, HC.out]; have := dist_le n (clf n f); exact this
  have hnorm : t.norm = t := by
    have h1 : nf ltE t.es = t.es := by rw [HT.out]; exact nf_of_srt stoE (col_srt s C)
    unfold Lts.norm; rw [h1]
  go_wp2_with fail
  have hV := bAlloc (Below.refl w1.heap.size w1) (Obj.cells #[.int .i64 M, .int .i64 t.lb, .int .i64 t.s0, .slice va t.es.length vc] 24)
  have hO : Calls Tryz.prog 21 #[.agg #[.int .i64 t.st, .int .i64 t.lb, .int .i64 t.s0, .slice va t.es.length vc]] (w1.alloc (Obj.cells #[.int .i64 M, .int .i64 t.lb, .int .i64 t.s0, .slice va t.es.length vc] 24)) fun e w' => ∃ ob, e = .returned (.slice (some ⟨ob, 0, none⟩) M M) ∧ StepsIn w' ob M (fun p => t.outs (p : Int)) ∧ Below (w1.alloc (Obj.cells #[.int .i64 M, .int .i64 t.lb, .int .i64 t.s0, .slice va t.es.length vc] 24)).heap.size (w1.alloc (Obj.cells #[.int .i64 M, .int .i64 t.lb, .int .i64 t.s0, .slice va t.es.length vc] 24)) w' := by
    refine (refOut_any htr (hes.below hV (Nat.le_refl _)) hlc hcm).mono ?_
    rintro e w' ⟨ob, n', base, hn', rfl, hrows, _, hB⟩
    obtain rfl : M = n' := by omega
    rw [hnorm] at hrows
    exact ⟨ob, rfl, StepsIn.of hrows, hB⟩
  rw [htst] at hO
  have hB1' := HB0.out.trans (hB1.mono (by simp))
  have hs1 := hB1.size
  simp at hs1
  have hX1 := (hB1.block w.heap.size (by simp)).trans HX0.out
  have hX1' := (Below.heap_alloc w1 (Obj.cells #[.int .i64 M, .int .i64 t.lb, .int .i64 t.s0, .slice va t.es.length vc] 24) w.heap.size (by omega)).trans hX1
  have hC1 := heap_alloc_new w1 (Obj.cells #[.int .i64 M, .int .i64 t.lb, .int .i64 t.s0, .slice va t.es.length vc] 24)
  have hrow1 := hrow.of_block (Below.heap_alloc w1 (Obj.cells #[.int .i64 M, .int .i64 t.lb, .int .i64 t.s0, .slice va t.es.length vc] 24) cb hrow.lt)
  have HO := Lib.hid hO; have HX1 := Lib.hid hX1'; have HC1 := Lib.hid hC1; have HROW1 := Lib.hid hrow1; have HB1 := Lib.hid (hB1'.trans (hV.mono (by omega))); have HTR := Lib.hid htr; have HTST := Lib.hid htst; have HCL := Lib.hid hCl
  clear hV hO hB1' hX1 hX1' hC1 hrow1 hrow hB1 hes htr htst hnorm hCl HX0 HB0 HN hlc hcm
  refine HO.out.mono ?_
  rintro e w2 ⟨ob, rfl, hro2, hB2⟩
  have hs2 := hB2.size
  simp at hs2
  have hX2 := (hB2.block w.heap.size (by simp; omega)).trans HX1.out
  have hC2 := (hB2.block w1.heap.size (by simp)).trans HC1.out
  have hrow2 := HROW1.out.of_block (hB2.block cb HROW1.out.lt)
  have hBw2 := HB1.out.trans (hB2.mono (by simp; omega))
  have HX2 := Lib.hid hX2; have HC2 := Lib.hid hC2; have HROW2 := Lib.hid hrow2; have HBW2 := Lib.hid hBw2; have HRO := Lib.hid hro2
  clear hX2 hC2 hrow2 hBw2 hro2 hB2 HX1 HC1 HROW1 HB1 HO
  have HX : RowKit.Hid (∀ V, Below w2.heap.size w2 V → V.cell? ⟨w.heap.size, 0, none⟩ = some (.int .i64 n) ∧ V.cell? ⟨w1.heap.size, 0, none⟩ = some (.int .i64 M) ∧ w.heap.size < V.heap.size ∧ w1.heap.size < V.heap.size ∧ V.rowIs cb 3 n (fun k => .int .i64 (clf n f k)) ∧ StepsIn V ob M (fun p => t.outs (p : Int))) := Lib.hid (fun V hV => by
    have h1 := (hV.block w.heap.size (by omega)).trans HX2.out
    have h2 := (hV.block w1.heap.size (by omega)).trans HC2.out
    have h3 := hV.size
    exact ⟨(sysC h1).1, (sysC h2).1, by omega, by omega, HROW2.out.of_block (hV.block cb HROW2.out.lt), HRO.out.below hV⟩)
  obtain ⟨x0, y0, xl, yl, _, _⟩ := HX.out w2 (Below.refl _ _)
  have hmk := run_make_row' (P := Tryz.prog) 81 4 (.bool false) 1 Tryz.underlying81 (by kernel_rfl) rfl .i64 .i64 M (by omega) (by omega)
  obtain ⟨w3, hw3⟩ : ∃ w3, w3 = w2.alloc (Obj.cells (madeCells #[.bool false] M) 4) := ⟨_, rfl⟩
  have hoq : OrQ w2 w3 w2.heap.size M [] (ordL C n []) (.slice none 0 0) := by
    rw [hw3]
    refine ⟨(Below.refl _ _).alloc (Nat.le_refl _) _, rfl, by simpa using World.rowIs_made w2 (.bool false) M 4, ?_, by simp⟩
    exact World.ownsRow_nil _ _ _ _
  have HOQ := Lib.hid hoq; have HW3 := Lib.hid hw3
  clear hoq hw3
  go_wp2_with fail
  rw [← HW3.out]
  obtain ⟨sb, hsb⟩ : ∃ sb, sb = w2.heap.size := ⟨_, rfl⟩
  rw [← hsb] at HOQ HX ⊢
  have HSB := Lib.hid hsb
  clear hmk hsb x0 y0 xl yl
  go_loopw [7, 8, 9, 10] (fun v7 v8 _ _ wr => ∃ (D : List Nat) (lv : Value), lv = v7 ∧ v8 = .int .i64 D.length ∧ OrdL t M D ∧ OrQ w2 wr sb M D (ordL C n D) lv) (fun _ v8 _ _ _ => M - (intOf v8).toNat)
  case atStart => exact ⟨[], _, rfl, rfl, .nil, HOQ.out⟩
  case round =>
    obtain ⟨D, lv, rfl, rfl, hord, hoq⟩ := hrel
    obtain ⟨x0, y0, xl, yl, _, _⟩ := HX.out wr hoq.below
    have hDM := hord.len_le
    have HORD := Lib.hid hord; have HQ := Lib.hid hoq
    clear hord hoq HOQ
    by_cases hlt : D.length < M
    · have hltI : (D.length : Int) < (M : Int) := by omega
      obtain ⟨kx, hkx⟩ : ∃ kx, IsNext t M D kx := by
        obtain ⟨x, h1, h2⟩ := HORD.out.left hlt
        refine next_ex HTR.out (by rw [HT.out]; exact col_srt s C) HTST.out (F := rank n f) ?_ h1 h2
        intro X Y hXY
        rw [HT.out, HC.out] at hXY
        exact rank_down HR.out HNN.out HF.out hXY
      have hkm := hkx.lt
      have HKX := Lib.hid hkx
      clear hkx
      obtain ⟨wa, hwa⟩ : ∃ wa, wa = wr := ⟨_, rfl⟩
      subst hwa
      go_wp2_with fail
      clear y0 x0 xl yl
      go_loopw [9] (fun v9 wr' => ∃ x : Nat, v9 = .int .i64 x ∧ x ≤ kx ∧ (∀ j, j < x → j ∈ D ∨ ∃ y, tau t j y ∧ y ∉ D) ∧ Below wa.heap.size wa wr') (fun v9 _ => kx + 1 - (intOf v9).toNat)
      case atStart => exact ⟨0, rfl, Nat.zero_le _, (fun j hj => by omega), Below.refl _ _⟩
      case round =>
        obtain ⟨x, rfl, hx, hbef, hBr⟩ := hrel
        have hq1 := HQ.out.of hBr
        obtain ⟨x0, y0, xl, yl, hrc, hso⟩ := HX.out wr hq1.below
        have hxM : x < M := by omega
        have hxI : (x : Int) < (M : Int) := by omega
        have c1 := hq1.seen.cell hxM
        have hsl := hq1.seen.lt
        obtain ⟨ra, rc, rb, ro, d1, hrs⟩ := hso.at_ x hxM
        have hol := hso.lt
        have hrl : (t.outs (x : Int)).length ≤ 10000 := by have := outs_len HTR.out (x : Int); exact this
        have hrr : ∀ y ∈ t.outs (x : Int), 0 ≤ y.2 ∧ y.2 < (M : Int) := fun y hy => by
          have h := offB_false.1 (HTR.out.edges _ (mem_outs.1 hy))
          have := HTST.out
          simp only at h
          omega
        have hrd := ready_any (sc := M) (c := rc) hrs hrl hq1.seen (by omega) hrr
        have htx : rdy D (t.outs (x : Int)) ↔ ∀ y, tau t x y → y ∈ D := by
          constructor
          · intro h y hy
            have := h (0, (y : Int)) (mem_outs.2 hy) rfl
            simpa using this
          · intro h y hy h0
            obtain ⟨y1, y2⟩ := y
            simp only at h0
            subst h0
            have hr := hrr _ hy
            simp only at hr
            obtain ⟨u, rfl⟩ := Int.eq_ofNat_of_zero_le hr.1
            simpa using h u (mem_outs.1 hy)
        obtain ⟨OL, hOL⟩ : ∃ OL, OL = t.outs (x : Int) := ⟨_, rfl⟩
        rw [← hOL] at d1 hrd htx
        have HRD := Lib.hid hrd; have HTX := Lib.hid htx; have HBEF := Lib.hid hbef; have HBR := Lib.hid hBr; have HQ1 := Lib.hid hq1
        clear hrd htx hbef hBr hq1 hrc hso hrs hrl hrr hOL x0 y0 xl yl
        by_cases hin : x ∈ D
        · have hd : decide (x ∈ D) = true := by simp [hin]
          rw [hd] at c1
          have hne : x ≠ kx := fun e => HKX.out.new (by rw [← e]; exact hin)
          have HIN := Lib.hid hin
          clear hd hin d1 hol
          go_wp2_with fail
          go_roundw
          case rel => exact ⟨x + 1, by go_num, by omega, (fun j hj => by
            by_cases e : j = x
            · subst e; exact Or.inl HIN.out
            · exact HBEF.out j (by omega)), HBR.out⟩
          case measure => simp [intOf]; omega
        · have hd : decide (x ∈ D) = false := by simp [hin]
          rw [hd] at c1
          have HIN := Lib.hid hin
          clear hd hin
          go_wp2_with fail
          refine HRD.out.mono ?_
          rintro e w5 ⟨⟨r, rfl, hri⟩, hB5⟩
          have HRI := Lib.hid hri; have HB5 := Lib.hid hB5
          clear hri hB5 HRD c1 d1 hol hsl
          cases r with
          | false =>
            have hnr : ¬ ∀ y, tau t x y → y ∈ D := fun h => by have := HRI.out.2 (HTX.out.2 h); cases this
            have hne : x ≠ kx := fun e => hnr (by
              have h := HKX.out.all
              rw [← e] at h
              exact (Wt_zero HTR.out (by rw [HT.out]; exact col_srt s C)).1 h)
            have HNR := Lib.hid hnr
            clear hnr
            go_wp2_with fail
            go_roundw
            case rel => exact ⟨x + 1, by go_num, by omega, (fun j hj => by
              by_cases e : j = x
              · subst e
                refine Or.inr (Classical.byContradiction fun hc => HNR.out fun y hy => Classical.byContradiction fun hn => hc ⟨y, hy, hn⟩)
              · exact HBEF.out j (by omega)), HBR.out.trans (HB5.out.mono HBR.out.size)⟩
            case measure => simp [intOf]; omega
          | true =>
            have hnx : IsNext t M D x := isNext_iff HTR.out (by rw [HT.out]; exact col_srt s C) hxM HIN.out (HTX.out.1 (HRI.out.1 rfl)) HBEF.out
            obtain rfl := hnx.unique HKX.out
            have hq5 := HQ1.out.of HB5.out
            have hfz := hq5.seen.frozen x
            have hcx := hq5.seen.cell hxM
            obtain ⟨bx, hbx⟩ : ∃ bx, bx = decide (x ∈ D) := ⟨_, rfl⟩
            rw [← hbx] at hcx
            have hsl := hq5.seen.lt
            have hq6 := hq5.set x
            have hq6' : OrQ w2 (w5.setCell ⟨sb, x, none⟩ (.bool true)) sb M (D ++ [x]) (ordL C n D ++ memK C 0 (x : Int)) lv := by simpa [memK] using hq6
            have HQ6 := Lib.hid hq6'; have HNX := Lib.hid hnx
            clear hq5 hq6 hq6' hnx HQ1 HBEF HTX HRI HIN HB5 HBR hx hbx
            obtain ⟨w6, hw6⟩ : ∃ w6, w6 = w5.setCell ⟨sb, x, none⟩ (.bool true) := ⟨_, rfl⟩
            rw [← hw6] at HQ6
            go_wp2_with fail
            rw [← hw6]
            clear hcx hfz hsl hw6
            have hdm := Nat.mul_le_mul (show D.length ≤ 1000 by omega) hn1
            have hdl := ordL_len C n D
            have hdm2 := Nat.mul_le_mul (Nat.le_refl D.length) hn1
            have hdk : (ordL C n D).length ≤ 1000000 := by omega
            clear hdm hdl hdm2
            go_loopw [7, 10] (fun v7 v10 wr => ∃ (k : Nat) (lv : Value), lv = v7 ∧ v10 = .int .i64 k ∧ k ≤ n ∧ OrQ w2 wr sb M (D ++ [x]) (ordL C n D ++ memK C k (x : Int)) lv) (fun _ v10 _ => n - (intOf v10).toNat)
            case atStart => exact ⟨0, _, rfl, rfl, Nat.zero_le _, HQ6.out⟩
            case round =>
              obtain ⟨k, lv, rfl, rfl, hk, hq⟩ := hrel
              obtain ⟨x0, y0, xl, yl, hrc, hso⟩ := HX.out wr hq.below
              have HQ7 := Lib.hid hq
              clear hq hso HQ6
              by_cases hkn : k < n
              · have hkI : (k : Int) < (n : Int) := by omega
                have hcl := hrc.cell hkn
                have hcbl := hrc.lt
                have hCk : C[k]? = some (clf n f k) := by rw [HC.out]; exact fl_get _ hkn
                have hms := memK_snoc hCk (x : Int)
                obtain ⟨q, hq⟩ : ∃ q, q = clf n f k := ⟨_, rfl⟩
                rw [← hq] at hcl hms
                have hml := memK_len C k (x : Int)
                have hll : (ordL C n D ++ memK C k (x : Int)).length ≤ 1001000 := by rw [List.length_append]; omega
                clear hrc hCk hq
                by_cases hqx : q = (x : Int)
                · rw [if_pos hqx] at hms
                  have HMS := Lib.hid hms
                  clear hms hml
                  subst hqx
                  obtain ⟨LL, hLL⟩ : ∃ LL, LL = ordL C n D ++ memK C k (x : Int) := ⟨_, rfl⟩
                  rw [← hLL] at HQ7 hll
                  have hlo := HQ7.out.lo
                  go_wp2_with (at_builtin; go_must (refine wpList_app1 rfl _ _ _ rfl rowI (Below.refl _ _) (by simp; omega) rfl (World.ownsRow.alloc HQ7.out.own _) ⟨wr.heap.size, 0, none⟩ 1 1 [.int .i64 k] rfl rfl (cells1 (by simp [go_sem])) (by simp [Value.oneCell']) (by decide) (by omega) (by unfold maxLen; omega) ?_); intro g2 cap2 w7 hown7 _ hg7)
                  have hpush := OrQ.push (v' := .slice (some ⟨g2, 0, none⟩) (LL.length + 1) cap2) HQ7.out (by rw [List.length_append, List.flatMap_append]; exact hown7) hg7
                  rw [hLL, List.append_assoc, ← HMS.out] at hpush
                  have HP := Lib.hid hpush
                  clear hpush hown7 hg7
                  go_roundw
                  case rel => exact ⟨k + 1, _, rfl, by go_num, by omega, by have h := HP.out; rw [List.length_append] at h; exact h⟩
                  case measure => simp [intOf]; omega
                · rw [if_neg hqx] at hms
                  have hb : (q == (x : Int)) = false := by simp [hqx]
                  have HMS := Lib.hid hms
                  clear hms hml
                  go_wp2_with fail
                  go_roundw
                  case rel => exact ⟨k + 1, _, rfl, by go_num, by omega, by rw [HMS.out]; exact HQ7.out⟩
                  case measure => simp [intOf]; omega
              · obtain rfl : n = k := by omega
                clear hrc
                go_wp2_with fail
                go_roundw
                case rel => exact ⟨D ++ [x], _, rfl, by rw [List.length_append]; go_num, HORD.out.step HNX.out, by rw [ordL_snoc]; exact HQ7.out⟩
                case measure => simp [intOf]; omega
    · obtain rfl : D.length = M := by omega
      go_wp2_with fail
      go_ret
      refine ⟨D, _, HORD.out, rfl, rfl, ?_, HBW2.out.trans (HQ.out.below.mono (by rw [HSB.out]; omega))⟩
      exact own_mono HQ.out.own (by rw [HSB.out]; omega)
end Go.Proofs.YtkmljelgogcobaaGreatDoor

namespace Go.Proofs.YtkmljelgogcobaaGreatDoor
open Go.RowKit Pl

theorem own_ofRow {w : World} {b : Nat} {t : TypeId} {n base : Nat} {f : Nat → Value} (h : w.rowIs b t n f) (hb : base ≤ b) (hn : n ≤ maxLen) : w.ownsRow base t 1 (.slice (some ⟨b, 0, none⟩) n n) n ((List.range n).map f) := by
  obtain ⟨cs, h1, h2, h3⟩ := h
  refine ⟨by simp, .inr ⟨b, n, cs, rfl, hb, h1, Nat.le_refl _, hn, by rw [h2]; omega, ?_⟩⟩
  apply List.ext_getElem?
  intro i
  rw [List.getElem?_take]
  by_cases hi : i < n
  · rw [if_pos (by omega), Array.getElem?_toList, h3 i hi]
    simp [hi]
  · rw [if_neg (by omega), List.getElem?_eq_none (by simp; omega)]
theorem sysG {w : World} {B : Nat} {x y z : Int} {v : Value} (h : w.heap[B]? = some (.cells #[.int .i64 x, .int .i64 y, .int .i64 z, v] 24 (0, 0))) :
    w.cell? ⟨B, 0, none⟩ = some (.int .i64 x) ∧ w.cell? ⟨B, 1, none⟩ = some (.int .i64 y) ∧ w.cell? ⟨B, 2, none⟩ = some (.int .i64 z) ∧ w.cell? ⟨B, 3, none⟩ = some v := by
  refine ⟨?_, ?_, ?_, ?_⟩ <;> simp [World.cell?, h]
theorem at_world {P : Program} {c : Code} {Q : Exit → Act → World → Prop} {a : Act} {w : World} (R : World → Prop) (h0 : R w) (h : ∀ W, R W → c.wp P Q a W) : c.wp P Q a w := h w h0
/-- Rows of unlike elements share no block. -/
theorem own_unlike {w : World} {b1 b2 : Nat} {t1 t2 : TypeId} {k1 k2 n1 n2 : Nat} {v1 v2 : Value} {x1 x2 : List Value} (h1 : w.ownsRow b1 t1 k1 v1 n1 x1) (h2 : w.ownsRow b2 t2 k2 v2 n2 x2) (hne : t1 ≠ t2) : ∀ g, v1.ownBlock = some g → v2.ownBlock ≠ some g := fun g hg hg2 => by
  rcases h1.2 with ⟨e, _⟩ | ⟨g1, c1, cur1, e1, _, hh1, _⟩
  · rw [e] at hg; cases hg
  · rcases h2.2 with ⟨e, _⟩ | ⟨g2, c2, cur2, e2, _, hh2, _⟩
    · rw [e] at hg2; cases hg2
    · rw [e1] at hg; rw [e2] at hg2
      simp only [Value.ownBlock, Option.some.injEq] at hg hg2
      subst hg
      subst hg2
      rw [hh1] at hh2
      simp only [Option.some.injEq, Obj.cells.injEq] at hh2
      exact hne hh2.2.1
theorem Rws.two {w w' : World} {t1 t2 : TypeId} {k1 k2 n1 n2 : Nat} {v1 v2 : Value} {x1 x2 : List Value} (hB : Below w.heap.size w w') (h1 : w'.ownsRow w.heap.size t1 k1 v1 n1 x1) (h2 : w'.ownsRow w.heap.size t2 k2 v2 n2 x2) (hne : t1 ≠ t2) : Rws w w' [⟨t1, k1, v1, n1, x1⟩, ⟨t2, k2, v2, n2, x2⟩] where
  bel := hB
  own r hr := by
    simp only [List.mem_cons, List.not_mem_nil, or_false] at hr
    rcases hr with rfl | rfl
    · exact h1
    · exact h2
  apart := by
    rw [List.pairwise_cons]
    refine ⟨fun b hb => ?_, by simp⟩
    simp only [List.mem_cons, List.not_mem_nil, or_false] at hb
    subst hb
    exact own_unlike h1 h2 hne
end Go.Proofs.YtkmljelgogcobaaGreatDoor

namespace Go.Proofs.YtkmljelgogcobaaGreatDoor
open Go.RowKit Pl

theorem cyc_same {s : Lts} {n : Nat} {f g : Nat → Int} (hf : Cyc s n f) (hg : Cyc s n g) : fl n (clf n g) = fl n (clf n f) := by
  have h := hf.unique hg
  rw [canon_fl, canon_fl] at h
  exact h.symm
theorem perm5 {α : Type} (o b d e c : α) : [o, b, d, e, c].Perm [c, d, o, e, b] :=
  (List.perm_append_comm (l₁ := [o, b, d, e]) (l₂ := [c])).trans ((((List.perm_append_comm (l₁ := [b]) (l₂ := [d, e])).cons o).trans (List.Perm.swap d o [e, b])).cons c)
/-- A struct in a block of its own, as a row of one element. -/
theorem own_box {w : World} {base g k : Nat} {T : TypeId} {cs : Array Value} (h : w.ownsRow base T k (.slice (some ⟨g, 0, none⟩) 1 1) 1 cs.toList) : w.heap[g]? = some (.cells cs T (0, 0)) := by
  have hl := h.1
  rcases h.2 with ⟨e, _⟩ | ⟨g', cap, cur, e, _, hh, _, _, hs, ht⟩
  · cases e
  · simp only [Value.slice.injEq, Option.some.injEq, Addr.mk.injEq, and_true] at e
    obtain ⟨rfl, _, rfl⟩ := e
    rw [hh]
    have : cur = cs := by
      apply Array.toList_inj.1
      rw [← ht, List.take_of_length_le (by rw [Array.length_toList]; omega)]
    rw [this]
theorem errG {w : World} {B : Nat} {x y z : Int} {u : ByteArray} (h : w.heap[B]? = some (.cells #[.int .i64 x, .int .i64 y, .int .i64 z, .string u] 66 (0, 0))) :
    w.cell? ⟨B, 0, none⟩ = some (.int .i64 x) ∧ w.cell? ⟨B, 1, none⟩ = some (.int .i64 y) ∧ w.cell? ⟨B, 2, none⟩ = some (.int .i64 z) ∧ w.cell? ⟨B, 3, none⟩ = some (.string u) := by
  refine ⟨?_, ?_, ?_, ?_⟩ <;> simp [World.cell?, h]

set_option maxRecDepth 100000 in
set_option maxHeartbeats 16000000 in
theorem cyclesAllYes_any {w : World} {p : Addr} (hE : ErrsK 14 p w) (hT : ErrType w) {s : Lts} {a : Option Addr} {b off c : Nat} (hS : SlAt encE 3 w a b off s.es) (hc : s.es.length ≤ c) (hcm : c ≤ maxLen) (hr : s.Right) :
    Calls Tryz.prog 4 #[.agg #[.int .i64 s.st, .int .i64 s.lb, .int .i64 s.s0, .slice a s.es.length c]] w fun e w' => e = .returned (.bool true) ∧ Below w.heap.size w w' := by
  have hG : GErr 0 p w := hE.sys
  have hB0 := (Below.refl w.heap.size w).alloc (Nat.le_refl _) (Obj.cells #[.int .i64 s.st, .int .i64 s.lb, .int .i64 s.s0, .slice a s.es.length c] 24)
  have hbx := heap_alloc_new w (Obj.cells #[.int .i64 s.st, .int .i64 s.lb, .int .i64 s.s0, .slice a s.es.length c] 24)
  have HLI := Lib.hid (light9_any (c := c) (hS.below hB0 (Nat.le_refl _)))
  have HE := Lib.hid hE; have HTY := Lib.hid hT; have HS := Lib.hid hS; have HG := Lib.hid hG
  have ALV : RowKit.Hid (∀ w1 : World, Below w.heap.size w w1 → Calls Tryz.prog 26 #[] w1 fun e w' => e = .returned (.bool true) ∧ Below w1.heap.size w1 w') := Lib.hid (fun w1 h1 => alive11_any (hG.below h1))
  have HLT : RowKit.Hid (s.es.length ≤ 1000000 → ∀ w1 : World, Below w.heap.size w w1 → Calls Tryz.prog 27 #[.agg #[.int .i64 s.st, .int .i64 s.lb, .int .i64 s.s0, .slice a s.es.length c]] w1 fun e w' => ∃ g cap, e = .returned (.agg #[.int .i64 s.st, .int .i64 s.lb, .int .i64 s.s0, .slice (some ⟨g, 0, none⟩) s.es.length cap]) ∧ LentS w' w1.heap.size g cap s.es ∧ Below w1.heap.size w1 w') := Lib.hid (fun hl w1 h1 => lent_any (c := c) (hS.below h1 (Nat.le_refl _)) hl)
  have HC := Lib.hid hc; have HCM := Lib.hid hcm
  obtain ⟨el, hel⟩ : ∃ el, el = s.es.length := ⟨_, rfl⟩
  rw [← hel] at HLI hbx hB0 HLT HC ⊢
  have HB0 := Lib.hid hB0; have HBX := Lib.hid hbx; have HEL := Lib.hid hel
  clear hE hG hT hS hB0 hbx hc hcm hel
  go_enter Tryz.func4, Tryz.ntmps4
  go_wp2_with fail
  refine HLI.out.mono ?_
  rintro e w1 ⟨bv, rfl, hbv, hB1⟩
  have HBX1 := Lib.hid ((hB1.block w.heap.size (by simp)).trans HBX.out)
  have HB1 := Lib.hid (HB0.out.trans (hB1.mono (by simp)))
  have HBV := Lib.hid hbv
  clear hbv hB1 HLI HB0 HBX
  cases bv
  · go_wp2_with fail
    refine (ALV.out _ HB1.out).mono ?_
    rintro e w2 ⟨rfl, hB⟩
    have HB2 := Lib.hid (HB1.out.trans (hB.mono HB1.out.size))
    clear hB
    go_wp2
    go_ret
    exact ⟨rfl, HB2.out⟩
  have hlt := HBV.out rfl
  have hel1 : el ≤ 11000 := by rcases hlt with h | h <;> omega
  have HLT1 := Lib.hid (HLT.out (by omega) w1 HB1.out)
  obtain ⟨x0, x1, x2, x3⟩ := sysG HBX1.out
  have xl := (Array.getElem?_eq_some_iff.1 HBX1.out).1
  clear HLT HBV
  go_wp2_with fail
  refine HLT1.out.mono ?_
  rintro e w2 ⟨g, cap, rfl, hlent, hB2⟩
  have HBX2 := Lib.hid ((hB2.block w.heap.size xl).trans HBX1.out)
  have HB2 := Lib.hid (HB1.out.trans (hB2.mono HB1.out.size))
  clear x0 x1 x2 x3 xl
  have hw1 : w.heap.size ≤ w1.heap.size := HB1.out.size
  obtain ⟨W2, hW2⟩ : ∃ W2, W2 = w2.alloc (Obj.cells #[.int .i64 s.st, .int .i64 s.lb, .int .i64 s.s0, .slice (some ⟨g, 0, none⟩) el cap] 24) := ⟨_, rfl⟩
  have hbW : Below w2.heap.size w2 W2 := by rw [hW2]; exact (Below.refl _ _).alloc (Nat.le_refl _) _
  have HLB := Lib.hid (show W2.heap[w2.heap.size]? = some (.cells #[.int .i64 s.st, .int .i64 s.lb, .int .i64 s.s0, .slice (some ⟨g, 0, none⟩) el cap] 24 (0, 0)) by rw [hW2]; exact heap_alloc_new w2 _)
  have HL := Lib.hid (hlent.below hbW)
  obtain ⟨x0, x1, x2, x3⟩ := sysG HBX2.out
  have xl := (Array.getElem?_eq_some_iff.1 HBX2.out).1
  have HXW := Lib.hid ((hbW.block w.heap.size xl).trans HBX2.out)
  have HBW := Lib.hid (HB2.out.trans (hbW.mono HB2.out.size))
  have HW2 := Lib.hid hW2
  clear hlent hB2 HLT1 HBX1 hW2 hbW HB1
  have hHA := refHanded_yes tauName (c := c) hr (HS.out.below HBW.out (Nat.le_refl _))
  rw [← HEL.out] at hHA
  unfold tauName at hHA
  have HHA := Lib.hid hHA
  clear hHA
  go_wp2_with fail
  rw [← HW2.out]
  refine HHA.out.mono ?_
  rintro e w3 ⟨rfl, hB3⟩
  obtain ⟨W3, hW3⟩ : ∃ W3, W3 = w3.alloc (Obj.cells #[.int .i64 0, .int .i64 0, .int .i64 0, .string ⟨#[]⟩] 66) := ⟨_, rfl⟩
  have hbW3 : Below w3.heap.size w3 W3 := by rw [hW3]; exact (Below.refl _ _).alloc (Nat.le_refl _) _
  have hEB : W3.heap[w3.heap.size]? = some (.cells #[.int .i64 0, .int .i64 0, .int .i64 0, .string ⟨#[]⟩] 66 (0, 0)) := by rw [hW3]; exact heap_alloc_new w3 _
  have hb23 := hB3.trans (hbW3.mono hB3.size)
  have hLB3 := (hb23.block w2.heap.size (Array.getElem?_eq_some_iff.1 HLB.out).1).trans HLB.out
  have hXW3 := (hb23.block w.heap.size (Array.getElem?_eq_some_iff.1 HXW.out).1).trans HXW.out
  have hL3 := HL.out.below hb23
  have hBW3 := HBW.out.trans (hb23.mono HBW.out.size)
  have hSYS : ∀ V, Below W3.heap.size W3 V → (V.cell? ⟨w.heap.size, 0, none⟩ = some (.int .i64 s.st) ∧ V.cell? ⟨w.heap.size, 1, none⟩ = some (.int .i64 s.lb) ∧ V.cell? ⟨w.heap.size, 2, none⟩ = some (.int .i64 s.s0) ∧ V.cell? ⟨w.heap.size, 3, none⟩ = some (.slice a el c)) ∧ w.heap.size < V.heap.size ∧
      (V.cell? ⟨w2.heap.size, 0, none⟩ = some (.int .i64 s.st) ∧ V.cell? ⟨w2.heap.size, 1, none⟩ = some (.int .i64 s.lb) ∧ V.cell? ⟨w2.heap.size, 2, none⟩ = some (.int .i64 s.s0) ∧ V.cell? ⟨w2.heap.size, 3, none⟩ = some (.slice (some ⟨g, 0, none⟩) el cap)) ∧ w2.heap.size < V.heap.size ∧
      (V.cell? ⟨w3.heap.size, 0, none⟩ = some (.int .i64 0) ∧ V.cell? ⟨w3.heap.size, 1, none⟩ = some (.int .i64 0) ∧ V.cell? ⟨w3.heap.size, 2, none⟩ = some (.int .i64 0) ∧ V.cell? ⟨w3.heap.size, 3, none⟩ = some (.string ⟨#[]⟩)) ∧ w3.heap.size < V.heap.size ∧ LentS V w1.heap.size g cap s.es ∧ Below w.heap.size w V := fun V hV => by
    have h1 := (hV.block _ (Array.getElem?_eq_some_iff.1 hXW3).1).trans hXW3
    have h2 := (hV.block _ (Array.getElem?_eq_some_iff.1 hLB3).1).trans hLB3
    have h3 := (hV.block _ (Array.getElem?_eq_some_iff.1 hEB).1).trans hEB
    exact ⟨sysG h1, (Array.getElem?_eq_some_iff.1 h1).1, sysG h2, (Array.getElem?_eq_some_iff.1 h2).1, errG h3, (Array.getElem?_eq_some_iff.1 h3).1, hL3.below hV, hBW3.trans (hV.mono hBW3.size)⟩
  have HSYS := Lib.hid hSYS; have HBK := Lib.hid (Bk.start W3); have HR := Lib.hid hr; have HW3 := Lib.hid hW3
  clear hW3 hbW3 hEB hb23 hLB3 hXW3 hL3 hBW3 hSYS hB3 x0 x1 x2 x3 xl HLB HXW HL HBW HW2 HHA hr HBX2 HB2
  go_upto_region 6 with fail
  rw [← HW3.out]
  refine at_world (fun W => Bk W3 W W3.heap.size [] []) HBK.out (fun W1 hW1 => ?_)
  replace HBK := Lib.hid hW1
  clear hW1
  have hbsz : W3.heap.size = w3.heap.size + 1 := by rw [HW3.out]; simp
  obtain ⟨bb, hbb⟩ : ∃ bb, bb = w3.heap.size + 1 := ⟨_, rfl⟩
  rw [hbsz, ← hbb] at HBK
  rw [← hbb]
  clear hbb hbsz HW3
  have hst := HR.out.st0
  obtain ⟨n, hn⟩ : ∃ n : Nat, s.st = (n : Int) := ⟨s.st.toNat, by omega⟩
  have hn1 : n ≤ 1000 := by omega
  have hel2 : el ≤ 10000 := by have := HEL.out; omega
  have hSL : ∀ V, Below W3.heap.size W3 V → SlAt encE 3 V (some ⟨g, 0, none⟩) g 0 s.es ∧ GErr 0 p V ∧ SlAt encE 3 V a b off s.es ∧ Below w.heap.size w V := fun V hV => by
    obtain ⟨_, _, _, _, _, _, hl, hb⟩ := HSYS.out V hV
    exact ⟨SlAt.preE hl.all.1, HG.out.below hb, HS.out.below hb (Nat.le_refl _), hb⟩
  have hCY : ∀ V, Below W3.heap.size W3 V → Calls Tryz.prog 29 #[.agg #[.int .i64 s.st, .int .i64 s.lb, .int .i64 s.s0, .slice (some ⟨g, 0, none⟩) s.es.length cap]] V fun e w' =>
      ∃ (f : Nat → Int) (v : Value), Cyc s n f ∧ e = .returned (.tuple #[v, .nilIface]) ∧ w'.ownsRow V.heap.size 3 1 v n ((fl n (clf n f)).flatMap encI) ∧ Below V.heap.size V w' := fun V hV => by
    obtain ⟨h1, h2, _⟩ := hSL V hV
    exact cyclesYes_any HR.out hn h2 h1
  have hCO : ∀ f, Cyc s n f → ∀ V, Below W3.heap.size W3 V → Calls Tryz.prog 30 #[.agg #[.int .i64 s.st, .int .i64 s.lb, .int .i64 s.s0, .slice (some ⟨g, 0, none⟩) s.es.length cap]] V fun e w' =>
      ∃ v ve : Value, e = .returned (.tuple #[.agg #[.int .i64 (col s (fl n (clf n f))).st, .int .i64 (col s (fl n (clf n f))).lb, .int .i64 (col s (fl n (clf n f))).s0, ve], v, .nilIface]) ∧
        w'.ownsRow V.heap.size 3 1 v n ((fl n (clf n f)).flatMap encI) ∧ w'.ownsRow V.heap.size 79 3 ve (col s (fl n (clf n f))).es.length ((col s (fl n (clf n f))).es.flatMap encE) ∧ Below V.heap.size V w' := fun f hf V hV => by
    obtain ⟨h1, h2, _⟩ := hSL V hV
    refine (collapseYes_any HR.out hn h2 h1).mono ?_
    rintro e w' ⟨f', v, ve, hf', rfl, h3, h4, h5⟩
    rw [cyc_same hf hf'] at h3 h4 ⊢
    exact ⟨v, ve, rfl, h3, h4, h5⟩
  have hOR : ∀ f, Cyc s n f → ∀ V, Below W3.heap.size W3 V → Calls Tryz.prog 31 #[.agg #[.int .i64 s.st, .int .i64 s.lb, .int .i64 s.s0, .slice (some ⟨g, 0, none⟩) s.es.length cap]] V fun e w' =>
      ∃ (D : List Nat) (v : Value), (OrdL (col s (fl n (clf n f))) (dist (fl n (clf n f))).length D ∧ D.length = (dist (fl n (clf n f))).length ∧ (ordL (fl n (clf n f)) n D).length = n) ∧ e = .returned (.tuple #[v, .nilIface]) ∧
        w'.ownsRow V.heap.size 3 1 v n ((ordL (fl n (clf n f)) n D).flatMap encI) ∧ Below V.heap.size V w' := fun f hf V hV => by
    obtain ⟨h1, h2, _⟩ := hSL V hV
    refine (orderYes_any HR.out hn h2 h1).mono ?_
    rintro e w' ⟨f', D, v, hf', h3, h4, rfl, h5, h6⟩
    rw [cyc_same hf hf'] at h3 h4 h5
    have h7 := h5.1
    rw [show ((D.flatMap fun k : Nat => memK (fl n (clf n f)) n (k : Int)).flatMap encI).length = (D.flatMap fun k : Nat => memK (fl n (clf n f)) n (k : Int)).length * 1 from by
      rw [Nat.mul_one]
      generalize (D.flatMap fun k : Nat => memK (fl n (clf n f)) n (k : Int)) = L
      induction L with
      | nil => rfl
      | cons x L ih => rw [List.flatMap_cons, List.length_append, ih, List.length_cons, lenI]; omega] at h7
    exact ⟨D, v, ⟨h3, h3.full h4, by unfold ordL; omega⟩, rfl, h5, h6⟩
  have hRC : ∀ f, Cyc s n f → ∀ V, Below W3.heap.size W3 V → Calls Tryz.prog 35 #[.agg #[.int .i64 s.st, .int .i64 s.lb, .int .i64 s.s0, .slice a s.es.length c]] V fun e w' => ∃ (cb : Nat) (va : Option Addr) (vc vb : Nat), e = .returned (.tuple #[.agg #[.int .i64 (col s (fl n (clf n f))).st, .int .i64 (col s (fl n (clf n f))).lb, .int .i64 (col s (fl n (clf n f))).s0, .slice va (col s (fl n (clf n f))).es.length vc], .slice (some ⟨cb, 0, none⟩) n n]) ∧
      SlAt encE 3 w' va vb 0 (col s (fl n (clf n f))).es ∧ w'.rowIs cb 3 n (fun k => .int .i64 (clf n f k)) ∧ Below V.heap.size V w' := fun f hf V hV => by
    obtain ⟨_, _, h1, _⟩ := hSL V hV
    refine (refCollapse_any HR.out hn hf h1 (by rw [← HEL.out]; exact HC.out) HCM.out).mono ?_
    rintro e w' ⟨cb, va, vc, vb, rfl, h3, _, _, h4, h5⟩
    exact ⟨cb, va, vc, vb, rfl, h3, h4, h5⟩
  have hRO : ∀ f, Cyc s n f → ∀ D, OrdL (col s (fl n (clf n f))) (dist (fl n (clf n f))).length D → D.length = (dist (fl n (clf n f))).length → ∀ V, Below W3.heap.size W3 V → Calls Tryz.prog 37 #[.agg #[.int .i64 s.st, .int .i64 s.lb, .int .i64 s.s0, .slice a s.es.length c]] V fun e w' =>
      ∃ v : Value, e = .returned v ∧ w'.ownsRow V.heap.size 3 1 v (ordL (fl n (clf n f)) n D).length ((ordL (fl n (clf n f)) n D).flatMap encI) ∧ Below V.heap.size V w' := fun f hf D hD hDl V hV => by
    obtain ⟨_, _, h1, _⟩ := hSL V hV
    refine (refOrder_any HR.out hn hf h1 (by rw [← HEL.out]; exact HC.out) HCM.out).mono ?_
    rintro e w' ⟨D', v, h3, h4, rfl, h5, h6⟩
    obtain rfl := hD.unique h3 (by omega)
    exact ⟨v, rfl, h5, h6⟩
  have hSTA : ∀ V, Below W3.heap.size W3 V → Calls Tryz.prog 33 #[.agg #[.int .i64 s.st, .int .i64 s.lb, .int .i64 s.s0, .slice (some ⟨g, 0, none⟩) s.es.length cap], .agg #[.int .i64 s.st, .int .i64 s.lb, .int .i64 s.s0, .slice a s.es.length c]] V fun e w' => e = .returned (.bool true) ∧ Below V.heap.size V w' := fun V hV => by
    obtain ⟨_, _, _, _, _, _, hl, _⟩ := HSYS.out V hV
    obtain ⟨_, _, h1, _⟩ := hSL V hV
    exact stays_any hl h1 (by rw [← HEL.out]; omega)
  have hALV : ∀ V, Below W3.heap.size W3 V → Calls Tryz.prog 26 #[] V fun e w' => e = .returned (.bool true) ∧ Below V.heap.size V w' := fun V hV => by
    obtain ⟨_, _, _, h4⟩ := hSL V hV
    exact ALV.out V h4
  rw [← HEL.out] at hCY hCO hOR hRC hRO hSTA
  have HCY := Lib.hid hCY; have HCO := Lib.hid hCO; have HOR := Lib.hid hOR; have HRC := Lib.hid hRC; have HRO := Lib.hid hRO; have HSTA := Lib.hid hSTA; have HALV := Lib.hid hALV
  have HN := Lib.hid hn
  have HEND : RowKit.Hid (∀ V, Below W3.heap.size W3 V → Below w.heap.size w V) := Lib.hid (fun V hV => (hSL V hV).2.2.2)
  clear hSL hCY hCO hOR hRC hRO hSTA hALV hst hn ALV HE HTY HS HG
  go_wp2_with fail
  go_loopw [6, 7, 8, 9, 10, 11, 12, 13, 14, 15] (fun v6 _ _ _ _ _ _ _ _ _ wr => ∃ (k : Nat) (Z : List Rw), v6 = .int .i64 k ∧ k ≤ 2 ∧ Bk W3 wr bb Z []) (fun v6 _ _ _ _ _ _ _ _ _ _ => 2 - (intOf v6).toNat)
  case atStart => exact ⟨0, [], rfl, by omega, HBK.out⟩
  case round =>
    obtain ⟨k, Z, rfl, hk, hbk⟩ := hrel
    obtain ⟨⟨x0, x1, x2, x3⟩, xl, ⟨y0, y1, y2, y3⟩, yl, ⟨z0, z1, z2, z3⟩, zl, _, _⟩ := HSYS.out _ hbk.bel
    replace HBK := Lib.hid hbk
    clear hbk
    by_cases hk2 : k < 2
    · have hkI : (k : Int) < 2 := by omega
      clear x0 x1 x2 x3 xl z0 z1 z2 z3 zl
      go_wp2_with fail
      refine (HCY.out _ HBK.out.bel).mono ?_
      rintro e w4 ⟨f, v4, hf, rfl, hown, hB⟩
      obtain ⟨va4, vc4, rfl⟩ := own_sl hown
      replace HBK := Lib.hid (HBK.out.add hB hown)
      have HF := Lib.hid hf
      clear hown hB hf y0 y1 y2 y3 yl
      obtain ⟨_, _, ⟨y0, y1, y2, y3⟩, yl, _, _, _, _⟩ := HSYS.out _ HBK.out.bel
      clear y0 y1 y2 y3 yl
      obtain ⟨C, hC⟩ : ∃ C, C = fl n (clf n f) := ⟨_, rfl⟩
      obtain ⟨t, ht⟩ : ∃ t, t = col s C := ⟨_, rfl⟩
      obtain ⟨M, hM⟩ : ∃ M, M = (dist C).length := ⟨_, rfl⟩
      have hcl : C.length = n := by rw [hC, fl_len]
      have htl : t.es.length ≤ 500000 := by
        have h1 : t.Right := by rw [ht, hC]; exact col_right HR.out HN.out
        have h2 := h1.st0
        omega
      have hco := HCO.out f HF.out
      have hor := HOR.out f HF.out
      have hrc := HRC.out f HF.out
      have hro := HRO.out f HF.out
      rw [← hC] at hco hor hrc hro HBK
      rw [← ht] at hco hor hrc hro
      rw [← hM] at hor hro
      have HCO1 := Lib.hid hco; have HOR1 := Lib.hid hor; have HRC1 := Lib.hid hrc; have HRO1 := Lib.hid hro; have HC1 := Lib.hid hC; have HCL := Lib.hid hcl; have HTL := Lib.hid htl
      clear hco hor hrc hro hC ht hM hcl htl
      obtain ⟨⟨x0, x1, x2, x3⟩, xl, ⟨y0, y1, y2, y3⟩, yl, ⟨z0, z1, z2, z3⟩, zl, _, _⟩ := HSYS.out _ HBK.out.bel
      clear x0 x1 x2 x3 xl z0 z1 z2 z3 zl
      go_wp2_with fail
      refine (HCO1.out _ HBK.out.bel).mono ?_
      rintro e w5 ⟨v5, ve5, rfl, ho1, ho2, hB⟩
      obtain ⟨va5, vc5, rfl⟩ := own_sl ho1
      obtain ⟨ea5, ec5, rfl⟩ := own_sl ho2
      replace HBK := Lib.hid (HBK.out.join (Rws.two hB ho1 ho2 (by decide)))
      obtain ⟨W5, hW5⟩ : ∃ W5, W5 = w5.alloc (Obj.cells #[.int .i64 t.st, .int .i64 t.lb, .int .i64 t.s0, .slice ea5 t.es.length ec5] 24) := ⟨_, rfl⟩
      have hbW5 : Below w5.heap.size w5 W5 := by rw [hW5]; exact (Below.refl _ _).alloc (Nat.le_refl _) _
      have HTB := Lib.hid (show W5.heap[w5.heap.size]? = some (.cells #[.int .i64 t.st, .int .i64 t.lb, .int .i64 t.s0, .slice ea5 t.es.length ec5] 24 (0, 0)) by rw [hW5]; exact heap_alloc_new w5 _)
      replace HBK := Lib.hid (HBK.out.add (v := .slice (some ⟨w5.heap.size, 0, none⟩) 1 1) (n := 1) (k := 4) (T := 24) (xs := [.int .i64 t.st, .int .i64 t.lb, .int .i64 t.s0, .slice ea5 t.es.length ec5]) hbW5 (by rw [hW5]; exact World.ownsRow_lit (e := 24) (base := w5.heap.size) w5 #[.int .i64 t.st, .int .i64 t.lb, .int .i64 t.s0, .slice ea5 t.es.length ec5] 1 (size := 4) (Nat.le_refl _) (by unfold maxLen; omega) rfl))
      have HW5 := Lib.hid hW5
      clear hW5 hbW5 ho1 ho2 hB y0 y1 y2 y3 yl HCO1
      go_upto_region 11 with fail
      rw [← HW5.out]
      obtain ⟨tb, htb⟩ : ∃ tb, tb = w5.heap.size := ⟨_, rfl⟩
      rw [← htb] at HTB HBK ⊢
      clear htb HW5
      obtain ⟨⟨x0, x1, x2, x3⟩, xl, ⟨y0, y1, y2, y3⟩, yl, ⟨z0, z1, z2, z3⟩, zl, _, _⟩ := HSYS.out _ HBK.out.bel
      clear x0 x1 x2 x3 xl
      go_wp2_with fail
      refine (HOR1.out _ HBK.out.bel).mono ?_
      rintro e w6 ⟨D, v6, ⟨hD1, hD2, hD3⟩, rfl, hown, hB⟩
      obtain ⟨va6, vc6, rfl⟩ := own_sl hown
      replace HTB := Lib.hid ((hB.block tb (Array.getElem?_eq_some_iff.1 HTB.out).1).trans HTB.out)
      replace HBK := Lib.hid (HBK.out.add hB hown)
      have HD1 := Lib.hid hD1; have HD2 := Lib.hid hD2; have HD3 := Lib.hid hD3
      clear hown hB hD1 hD2 hD3 y0 y1 y2 y3 yl z0 z1 z2 z3 zl HOR1
      obtain ⟨⟨x0, x1, x2, x3⟩, xl, ⟨y0, y1, y2, y3⟩, yl, ⟨z0, z1, z2, z3⟩, zl, _, _⟩ := HSYS.out _ HBK.out.bel
      go_wp2_with fail
      refine (told_nil 0 0 ⟨#[]⟩ _).mono ?_
      rintro e w7 ⟨rfl, hB⟩
      replace HTB := Lib.hid ((hB.block tb (Array.getElem?_eq_some_iff.1 HTB.out).1).trans HTB.out)
      replace HBK := Lib.hid (HBK.out.call hB)
      clear hB x0 x1 x2 x3 xl y0 y1 y2 y3 yl z0 z1 z2 z3 zl
      obtain ⟨⟨x0, x1, x2, x3⟩, xl, ⟨y0, y1, y2, y3⟩, yl, ⟨z0, z1, z2, z3⟩, zl, _, _⟩ := HSYS.out _ HBK.out.bel
      go_wp2_with fail
      refine (told_nil 0 0 ⟨#[]⟩ _).mono ?_
      rintro e w8 ⟨rfl, hB⟩
      replace HTB := Lib.hid ((hB.block tb (Array.getElem?_eq_some_iff.1 HTB.out).1).trans HTB.out)
      replace HBK := Lib.hid (HBK.out.call hB)
      clear hB x0 x1 x2 x3 xl y0 y1 y2 y3 yl z0 z1 z2 z3 zl
      obtain ⟨⟨x0, x1, x2, x3⟩, xl, ⟨y0, y1, y2, y3⟩, yl, ⟨z0, z1, z2, z3⟩, zl, _, _⟩ := HSYS.out _ HBK.out.bel
      go_wp2_with fail
      refine (told_nil 0 0 ⟨#[]⟩ _).mono ?_
      rintro e w9 ⟨rfl, hB⟩
      replace HTB := Lib.hid ((hB.block tb (Array.getElem?_eq_some_iff.1 HTB.out).1).trans HTB.out)
      replace HBK := Lib.hid (HBK.out.call hB)
      clear hB x0 x1 x2 x3 xl y0 y1 y2 y3 yl z0 z1 z2 z3 zl
      obtain ⟨⟨x0, x1, x2, x3⟩, xl, ⟨y0, y1, y2, y3⟩, yl, ⟨z0, z1, z2, z3⟩, zl, _, _⟩ := HSYS.out _ HBK.out.bel
      go_wp2_with fail
      refine (HSTA.out _ HBK.out.bel).mono ?_
      rintro e w10 ⟨rfl, hB⟩
      replace HTB := Lib.hid ((hB.block tb (Array.getElem?_eq_some_iff.1 HTB.out).1).trans HTB.out)
      replace HBK := Lib.hid (HBK.out.call hB)
      clear hB x0 x1 x2 x3 xl y0 y1 y2 y3 yl z0 z1 z2 z3 zl
      obtain ⟨⟨x0, x1, x2, x3⟩, xl, ⟨y0, y1, y2, y3⟩, yl, ⟨z0, z1, z2, z3⟩, zl, _, _⟩ := HSYS.out _ HBK.out.bel
      go_wp2_with fail
      refine (HRC1.out _ HBK.out.bel).mono ?_
      rintro e w11 ⟨cb, ua, uc, ub, rfl, hue, hrow, hB⟩
      replace HTB := Lib.hid ((hB.block tb (Array.getElem?_eq_some_iff.1 HTB.out).1).trans HTB.out)
      replace HBK := Lib.hid (HBK.out.call hB)
      obtain ⟨WU, hWU⟩ : ∃ WU, WU = w11.alloc (Obj.cells #[.int .i64 t.st, .int .i64 t.lb, .int .i64 t.s0, .slice ua t.es.length uc] 24) := ⟨_, rfl⟩
      have hbWU : Below w11.heap.size w11 WU := by rw [hWU]; exact (Below.refl _ _).alloc (Nat.le_refl _) _
      have HUB := Lib.hid (show WU.heap[w11.heap.size]? = some (.cells #[.int .i64 t.st, .int .i64 t.lb, .int .i64 t.s0, .slice ua t.es.length uc] 24 (0, 0)) by rw [hWU]; exact heap_alloc_new w11 _)
      replace HBK := Lib.hid (HBK.out.call hbWU)
      replace HTB := Lib.hid ((hbWU.block tb (Array.getElem?_eq_some_iff.1 HTB.out).1).trans HTB.out)
      have HUE := Lib.hid (hue.below hbWU (Nat.le_refl _))
      have HXR := Lib.hid (show SlAt encI 1 WU (some ⟨cb, 0, none⟩) cb 0 C by rw [HC1.out]; exact (rowIs_sl hrow).below hbWU (Nat.le_refl _))
      have HWU := Lib.hid hWU
      clear hWU hbWU hue hrow hB x0 x1 x2 x3 xl y0 y1 y2 y3 yl z0 z1 z2 z3 zl HRC1
      go_upto_region 18 with fail
      rw [← HWU.out]
      obtain ⟨ub2, hub2⟩ : ∃ ub2, ub2 = w11.heap.size := ⟨_, rfl⟩
      rw [← hub2] at HUB ⊢
      clear hub2 HWU
      have hoc := HBK.out.own (r := ⟨3, 1, .slice va4 n vc4, n, C.flatMap encI⟩) (.inr (by simp))
      dsimp only at hoc
      obtain ⟨a9, c9, b9, e9, _, _, h9, _⟩ := slAt_own (xs := C) lenI (by rw [HCL.out]; exact hoc)
      rw [HCL.out] at e9
      cases e9
      have hsi := sameInts_any (c1 := vc4) (c2 := n) h9 HXR.out (by rw [HCL.out]; omega) (by rw [HCL.out]; omega)
      rw [HCL.out] at hsi
      simp only [decide_true] at hsi
      have HSI := Lib.hid hsi
      clear hoc h9 hsi
      go_wp2_with fail
      refine HSI.out.mono ?_
      rintro e w12 ⟨rfl, q12, hw12⟩
      have hB : Below WU.heap.size WU w12 := by rw [hw12]; exact bdrew (Below.refl _ _)
      clear hw12 HSI
      replace HTB := Lib.hid ((hB.block tb (Array.getElem?_eq_some_iff.1 HTB.out).1).trans HTB.out)
      replace HUB := Lib.hid ((hB.block ub2 (Array.getElem?_eq_some_iff.1 HUB.out).1).trans HUB.out)
      replace HBK := Lib.hid (HBK.out.call hB)
      replace HUE := Lib.hid (HUE.out.below hB (Nat.le_refl _))
      replace HXR := Lib.hid (HXR.out.below hB (Nat.le_refl _))
      clear hB
      have hoc := HBK.out.own (r := ⟨3, 1, .slice va5 n vc5, n, C.flatMap encI⟩) (.inr (by simp))
      dsimp only at hoc
      obtain ⟨a9, c9, b9, e9, _, _, h9, _⟩ := slAt_own (xs := C) lenI (by rw [HCL.out]; exact hoc)
      rw [HCL.out] at e9
      cases e9
      have hsi := sameInts_any (c1 := vc5) (c2 := n) h9 HXR.out (by rw [HCL.out]; omega) (by rw [HCL.out]; omega)
      rw [HCL.out] at hsi
      simp only [decide_true] at hsi
      have HSI := Lib.hid hsi
      clear hoc h9 hsi
      go_wp2_with fail
      refine HSI.out.mono ?_
      rintro e w13 ⟨rfl, q13, hw13⟩
      have hB : Below w12.heap.size w12 w13 := by rw [hw13]; exact bdrew (Below.refl _ _)
      clear hw13 HSI
      replace HTB := Lib.hid ((hB.block tb (Array.getElem?_eq_some_iff.1 HTB.out).1).trans HTB.out)
      replace HUB := Lib.hid ((hB.block ub2 (Array.getElem?_eq_some_iff.1 HUB.out).1).trans HUB.out)
      replace HBK := Lib.hid (HBK.out.call hB)
      replace HUE := Lib.hid (HUE.out.below hB (Nat.le_refl _))
      replace HXR := Lib.hid (HXR.out.below hB (Nat.le_refl _))
      clear hB
      have hoc := HBK.out.own (r := ⟨79, 3, .slice ea5 t.es.length ec5, t.es.length, t.es.flatMap encE⟩) (.inr (by simp))
      dsimp only at hoc
      obtain ⟨a9, c9, b9, e9, _, _, h9, _⟩ := slAt_own (xs := t.es) lenE hoc
      cases e9
      have HSS := Lib.hid (sameSystem_yes t.st t.lb t.s0 (c1 := ec5) (c2 := uc) h9 HUE.out (by have := HTL.out; omega))
      obtain ⟨t0, t1, t2, t3⟩ := sysG HTB.out
      obtain ⟨s0, s1, s2, s3⟩ := sysG HUB.out
      have tl := (Array.getElem?_eq_some_iff.1 HTB.out).1
      have sl := (Array.getElem?_eq_some_iff.1 HUB.out).1
      clear hoc h9
      go_wp2_with fail
      refine HSS.out.mono ?_
      rintro e w14 ⟨rfl, hB⟩
      replace HTB := Lib.hid ((hB.block tb (Array.getElem?_eq_some_iff.1 HTB.out).1).trans HTB.out)
      replace HBK := Lib.hid (HBK.out.call hB)
      clear hB HSS t0 t1 t2 t3 s0 s1 s2 s3 tl sl HUB HUE HXR
      obtain ⟨⟨x0, x1, x2, x3⟩, xl, _, _, _, _, _, _⟩ := HSYS.out _ HBK.out.bel
      go_wp2_with fail
      refine (HRO1.out D HD1.out HD2.out _ HBK.out.bel).mono ?_
      rintro e w15 ⟨v15, rfl, hown, hB⟩
      replace HTB := Lib.hid ((hB.block tb (Array.getElem?_eq_some_iff.1 HTB.out).1).trans HTB.out)
      replace HBK := Lib.hid (HBK.out.call hB)
      obtain ⟨a8, c8, b8, rfl, _, _, h8, _⟩ := slAt_own lenI hown
      have hoc := HBK.out.own (r := ⟨3, 1, .slice va6 n vc6, n, (ordL C n D).flatMap encI⟩) (.inr (by simp))
      dsimp only at hoc
      obtain ⟨a9, c9, b9, e9, _, _, h9, _⟩ := slAt_own (xs := ordL C n D) lenI (by rw [HD3.out]; exact hoc)
      rw [HD3.out] at e9
      cases e9
      have hsi := sameInts_any (c1 := vc6) (c2 := c8) h9 h8 (by rw [HD3.out]; omega) (by rw [HD3.out]; omega)
      rw [HD3.out] at hsi ⊢
      simp only [decide_true] at hsi
      have HSI := Lib.hid hsi
      clear hoc h9 h8 hsi hown hB x0 x1 x2 x3 xl
      go_wp2_with fail
      refine HSI.out.mono ?_
      rintro e w16 ⟨rfl, q16, hw16⟩
      have hB : Below w15.heap.size w15 w16 := by rw [hw16]; exact bdrew (Below.refl _ _)
      replace HTB := Lib.hid ((hB.block tb (Array.getElem?_eq_some_iff.1 HTB.out).1).trans HTB.out)
      replace HBK := Lib.hid (HBK.out.call hB)
      replace HBK := Lib.hid (HBK.out.perm (R' := [⟨3, 1, .slice va4 n vc4, n, C.flatMap encI⟩, ⟨3, 1, .slice va5 n vc5, n, C.flatMap encI⟩, ⟨3, 1, .slice va6 n vc6, n, (ordL C n D).flatMap encI⟩, ⟨79, 3, .slice ea5 t.es.length ec5, t.es.length, t.es.flatMap encE⟩, ⟨24, 4, .slice (some ⟨tb, 0, none⟩) 1 1, 1, [.int .i64 t.st, .int .i64 t.lb, .int .i64 t.s0, .slice ea5 t.es.length ec5]⟩]) (perm5 _ _ _ _ _))
      clear hB hw16 HSI
      go_upto_region 20 with fail
      go_wp2_with fail
      refine (HBK.out.giveI rfl HCL.out.symm (by omega)).mono ?_
      rintro e w17 ⟨rfl, hbk⟩
      replace HBK := Lib.hid hbk
      clear hbk
      go_wp2_with fail
      refine (HBK.out.giveI rfl HCL.out.symm (by omega)).mono ?_
      rintro e w18 ⟨rfl, hbk⟩
      replace HBK := Lib.hid hbk
      clear hbk
      go_wp2_with fail
      refine (HBK.out.giveI rfl HD3.out.symm (by omega)).mono ?_
      rintro e w19 ⟨rfl, hbk⟩
      replace HBK := Lib.hid hbk
      clear hbk
      have hob := HBK.out.own (r := ⟨24, 4, .slice (some ⟨tb, 0, none⟩) 1 1, 1, [.int .i64 t.st, .int .i64 t.lb, .int .i64 t.s0, .slice ea5 t.es.length ec5]⟩) (.inr (by simp))
      dsimp only at hob
      have hbx := own_box (cs := #[.int .i64 t.st, .int .i64 t.lb, .int .i64 t.s0, .slice ea5 t.es.length ec5]) hob
      obtain ⟨_, _, _, t3⟩ := sysG hbx
      have tl := (Array.getElem?_eq_some_iff.1 hbx).1
      clear hob hbx HTB
      go_wp2_with fail
      refine (HBK.out.giveE rfl rfl HTL.out).mono ?_
      rintro e w20 ⟨rfl, hbk⟩
      replace HBK := Lib.hid (hbk.sub (R' := []) (List.nil_sublist _))
      clear hbk t3 tl
      go_wp2_with fail
      go_roundw
      case rel => exact ⟨k + 1, _, by go_num, by omega, HBK.out⟩
      case measure => simp [intOf]; omega
    · clear x0 x1 x2 x3 xl y0 y1 y2 y3 yl z0 z1 z2 z3 zl
      go_wp2_with fail
      refine (HALV.out _ HBK.out.bel).mono ?_
      rintro e w4 ⟨rfl, hB⟩
      replace HBK := Lib.hid (HBK.out.call hB)
      clear hB
      go_wp2_with fail
      refine HBK.out.apart.mono ?_
      rintro e w5 ⟨rfl, hB⟩
      have HB5 := Lib.hid hB
      clear hB
      go_wp2_with fail
      go_ret
      exact ⟨rfl, HEND.out _ HB5.out⟩
end Go.Proofs.YtkmljelgogcobaaGreatDoor

namespace Go.Proofs.YtkmljelgogcobaaGreatDoor
open Go.RowKit Pl

theorem Fault2.shape {w : World} {p : Addr} {v : Value} (h : Fault2 w p v) : ∃ fb, v = .iface 131 (.pointer (some ⟨fb, 0, none⟩)) := by
  obtain ⟨vi, h1, _⟩ := h
  obtain ⟨fb, e, _⟩ := h1.ex
  exact ⟨fb, e⟩

set_option maxRecDepth 100000 in
set_option maxHeartbeats 16000000 in
theorem cyclesAllNo_any {w : World} {p : Addr} (hE : ErrsK 14 p w) (hT : ErrType w) {s : Lts} {a : Option Addr} {b off c : Nat} (hS : SlAt encE 3 w a b off s.es) (hc : s.es.length ≤ c) (hcm : c ≤ maxLen) (hr : ¬ s.Right) :
    Calls Tryz.prog 4 #[.agg #[.int .i64 s.st, .int .i64 s.lb, .int .i64 s.s0, .slice a s.es.length c]] w fun e w' => e = .returned (.bool true) ∧ Below w.heap.size w w' := by
  have hG : GErr 0 p w := hE.sys
  have hB0 := (Below.refl w.heap.size w).alloc (Nat.le_refl _) (Obj.cells #[.int .i64 s.st, .int .i64 s.lb, .int .i64 s.s0, .slice a s.es.length c] 24)
  have hbx := heap_alloc_new w (Obj.cells #[.int .i64 s.st, .int .i64 s.lb, .int .i64 s.s0, .slice a s.es.length c] 24)
  have HLI := Lib.hid (light9_any (c := c) (hS.below hB0 (Nat.le_refl _)))
  have HE := Lib.hid hE; have HTY := Lib.hid hT; have HS := Lib.hid hS; have HG := Lib.hid hG
  have ALV : RowKit.Hid (∀ w1 : World, Below w.heap.size w w1 → Calls Tryz.prog 26 #[] w1 fun e w' => e = .returned (.bool true) ∧ Below w1.heap.size w1 w') := Lib.hid (fun w1 h1 => alive11_any (hG.below h1))
  have HLT : RowKit.Hid (s.es.length ≤ 1000000 → ∀ w1 : World, Below w.heap.size w w1 → Calls Tryz.prog 27 #[.agg #[.int .i64 s.st, .int .i64 s.lb, .int .i64 s.s0, .slice a s.es.length c]] w1 fun e w' => ∃ g cap, e = .returned (.agg #[.int .i64 s.st, .int .i64 s.lb, .int .i64 s.s0, .slice (some ⟨g, 0, none⟩) s.es.length cap]) ∧ LentS w' w1.heap.size g cap s.es ∧ Below w1.heap.size w1 w') := Lib.hid (fun hl w1 h1 => lent_any (c := c) (hS.below h1 (Nat.le_refl _)) hl)
  have HC := Lib.hid hc; have HCM := Lib.hid hcm
  obtain ⟨el, hel⟩ : ∃ el, el = s.es.length := ⟨_, rfl⟩
  rw [← hel] at HLI hbx hB0 HLT HC ⊢
  have HB0 := Lib.hid hB0; have HBX := Lib.hid hbx; have HEL := Lib.hid hel
  clear hE hG hT hS hB0 hbx hc hcm hel
  go_enter Tryz.func4, Tryz.ntmps4
  go_wp2_with fail
  refine HLI.out.mono ?_
  rintro e w1 ⟨bv, rfl, hbv, hB1⟩
  have HBX1 := Lib.hid ((hB1.block w.heap.size (by simp)).trans HBX.out)
  have HB1 := Lib.hid (HB0.out.trans (hB1.mono (by simp)))
  have HBV := Lib.hid hbv
  clear hbv hB1 HLI HB0 HBX
  cases bv
  · go_wp2_with fail
    refine (ALV.out _ HB1.out).mono ?_
    rintro e w2 ⟨rfl, hB⟩
    have HB2 := Lib.hid (HB1.out.trans (hB.mono HB1.out.size))
    clear hB
    go_wp2
    go_ret
    exact ⟨rfl, HB2.out⟩
  have hlt := HBV.out rfl
  have hel1 : el ≤ 11000 := by rcases hlt with h | h <;> omega
  have HLT1 := Lib.hid (HLT.out (by omega) w1 HB1.out)
  obtain ⟨x0, x1, x2, x3⟩ := sysG HBX1.out
  have xl := (Array.getElem?_eq_some_iff.1 HBX1.out).1
  clear HLT HBV
  go_wp2_with fail
  refine HLT1.out.mono ?_
  rintro e w2 ⟨g, cap, rfl, hlent, hB2⟩
  have HBX2 := Lib.hid ((hB2.block w.heap.size xl).trans HBX1.out)
  have HB2 := Lib.hid (HB1.out.trans (hB2.mono HB1.out.size))
  clear x0 x1 x2 x3 xl
  have hw1 : w.heap.size ≤ w1.heap.size := HB1.out.size
  obtain ⟨W2, hW2⟩ : ∃ W2, W2 = w2.alloc (Obj.cells #[.int .i64 s.st, .int .i64 s.lb, .int .i64 s.s0, .slice (some ⟨g, 0, none⟩) el cap] 24) := ⟨_, rfl⟩
  have hbW : Below w2.heap.size w2 W2 := by rw [hW2]; exact (Below.refl _ _).alloc (Nat.le_refl _) _
  have HLB := Lib.hid (show W2.heap[w2.heap.size]? = some (.cells #[.int .i64 s.st, .int .i64 s.lb, .int .i64 s.s0, .slice (some ⟨g, 0, none⟩) el cap] 24 (0, 0)) by rw [hW2]; exact heap_alloc_new w2 _)
  have HL := Lib.hid (hlent.below hbW)
  obtain ⟨x0, x1, x2, x3⟩ := sysG HBX2.out
  have xl := (Array.getElem?_eq_some_iff.1 HBX2.out).1
  have HXW := Lib.hid ((hbW.block w.heap.size xl).trans HBX2.out)
  have HBW := Lib.hid (HB2.out.trans (hbW.mono HB2.out.size))
  have HW2 := Lib.hid hW2
  clear hlent hB2 HLT1 HBX1 hW2 hbW HB1
  have hHA := refHanded_no tauName (by decide) (c := c) hr (HS.out.below HBW.out (Nat.le_refl _))
  rw [← HEL.out] at hHA
  obtain ⟨ly, hly⟩ : ∃ ly, ly = tauName ++ ⟨#[32]⟩ ++ sysName ++ ⟨#[32]⟩ := ⟨_, rfl⟩
  rw [← hly] at hHA
  unfold tauName at hHA
  have HHA := Lib.hid hHA
  have HLY := Lib.hid hly
  clear hHA hly
  go_wp2_with fail
  rw [← HW2.out]
  refine HHA.out.mono ?_
  rintro e w3 ⟨rfl, hB3⟩
  obtain ⟨W3, hW3⟩ : ∃ W3, W3 = w3.alloc (Obj.cells #[.int .i64 14, .int .i64 0, .int .i64 0, .string ly] 66) := ⟨_, rfl⟩
  have hbW3 : Below w3.heap.size w3 W3 := by rw [hW3]; exact (Below.refl _ _).alloc (Nat.le_refl _) _
  have hEB : W3.heap[w3.heap.size]? = some (.cells #[.int .i64 14, .int .i64 0, .int .i64 0, .string ly] 66 (0, 0)) := by rw [hW3]; exact heap_alloc_new w3 _
  have hb23 := hB3.trans (hbW3.mono hB3.size)
  have hLB3 := (hb23.block w2.heap.size (Array.getElem?_eq_some_iff.1 HLB.out).1).trans HLB.out
  have hXW3 := (hb23.block w.heap.size (Array.getElem?_eq_some_iff.1 HXW.out).1).trans HXW.out
  have hL3 := HL.out.below hb23
  have hBW3 := HBW.out.trans (hb23.mono HBW.out.size)
  have hSYS : ∀ V, Below W3.heap.size W3 V → (V.cell? ⟨w.heap.size, 0, none⟩ = some (.int .i64 s.st) ∧ V.cell? ⟨w.heap.size, 1, none⟩ = some (.int .i64 s.lb) ∧ V.cell? ⟨w.heap.size, 2, none⟩ = some (.int .i64 s.s0) ∧ V.cell? ⟨w.heap.size, 3, none⟩ = some (.slice a el c)) ∧ w.heap.size < V.heap.size ∧
      (V.cell? ⟨w2.heap.size, 0, none⟩ = some (.int .i64 s.st) ∧ V.cell? ⟨w2.heap.size, 1, none⟩ = some (.int .i64 s.lb) ∧ V.cell? ⟨w2.heap.size, 2, none⟩ = some (.int .i64 s.s0) ∧ V.cell? ⟨w2.heap.size, 3, none⟩ = some (.slice (some ⟨g, 0, none⟩) el cap)) ∧ w2.heap.size < V.heap.size ∧
      (V.cell? ⟨w3.heap.size, 0, none⟩ = some (.int .i64 14) ∧ V.cell? ⟨w3.heap.size, 1, none⟩ = some (.int .i64 0) ∧ V.cell? ⟨w3.heap.size, 2, none⟩ = some (.int .i64 0) ∧ V.cell? ⟨w3.heap.size, 3, none⟩ = some (.string ly)) ∧ w3.heap.size < V.heap.size ∧ LentS V w1.heap.size g cap s.es ∧ Below w.heap.size w V := fun V hV => by
    have h1 := (hV.block _ (Array.getElem?_eq_some_iff.1 hXW3).1).trans hXW3
    have h2 := (hV.block _ (Array.getElem?_eq_some_iff.1 hLB3).1).trans hLB3
    have h3 := (hV.block _ (Array.getElem?_eq_some_iff.1 hEB).1).trans hEB
    exact ⟨sysG h1, (Array.getElem?_eq_some_iff.1 h1).1, sysG h2, (Array.getElem?_eq_some_iff.1 h2).1, errG h3, (Array.getElem?_eq_some_iff.1 h3).1, hL3.below hV, hBW3.trans (hV.mono hBW3.size)⟩
  have HSYS := Lib.hid hSYS; have HBK := Lib.hid (Bk.start W3); have HR := Lib.hid hr; have HW3 := Lib.hid hW3
  clear hW3 hbW3 hEB hb23 hLB3 hXW3 hL3 hBW3 hSYS hB3 x0 x1 x2 x3 xl HLB HXW HL HBW HW2 HHA hr HBX2 HB2
  go_upto_region 6 with fail
  rw [← HW3.out]
  refine at_world (fun W => Bk W3 W W3.heap.size [] []) HBK.out (fun W1 hW1 => ?_)
  replace HBK := Lib.hid hW1
  clear hW1
  have hbsz : W3.heap.size = w3.heap.size + 1 := by rw [HW3.out]; simp
  obtain ⟨bb, hbb⟩ : ∃ bb, bb = w3.heap.size + 1 := ⟨_, rfl⟩
  rw [hbsz, ← hbb] at HBK
  rw [← hbb]
  clear hbb hbsz HW3
  have hSL : ∀ V, Below W3.heap.size W3 V → SlAt encE 3 V (some ⟨g, 0, none⟩) g 0 s.es ∧ GErr 0 p V ∧ SlAt encE 3 V a b off s.es ∧ Below w.heap.size w V ∧ ErrType V ∧ ErrsK 14 p V := fun V hV => by
    obtain ⟨_, _, _, _, _, _, hl, hb⟩ := HSYS.out V hV
    exact ⟨SlAt.preE hl.all.1, HG.out.below hb, HS.out.below hb (Nat.le_refl _), hb, HTY.out.below hb, HE.out.below hb⟩
  have hCY : ∀ V, Below W3.heap.size W3 V → Calls Tryz.prog 29 #[.agg #[.int .i64 s.st, .int .i64 s.lb, .int .i64 s.s0, .slice (some ⟨g, 0, none⟩) s.es.length cap]] V fun e w' =>
      ∃ v : Value, e = .returned (.tuple #[.slice none 0 0, v]) ∧ Fault2 w' p v ∧ Below V.heap.size V w' := fun V hV => by
    obtain ⟨h1, h2, _, _, h3, _⟩ := hSL V hV
    exact cyclesNo_any HR.out h2 h3 h1
  have hCO : ∀ V, Below W3.heap.size W3 V → Calls Tryz.prog 30 #[.agg #[.int .i64 s.st, .int .i64 s.lb, .int .i64 s.s0, .slice (some ⟨g, 0, none⟩) s.es.length cap]] V fun e w' =>
      ∃ v : Value, e = .returned (.tuple #[.agg #[.int .i64 0, .int .i64 0, .int .i64 0, .slice none 0 0], .slice none 0 0, v]) ∧ Fault2 w' p v ∧ Below V.heap.size V w' := fun V hV => by
    obtain ⟨h1, h2, _, _, h3, _⟩ := hSL V hV
    exact collapseNo_any HR.out h2 h3 h1
  have hOR : ∀ V, Below W3.heap.size W3 V → Calls Tryz.prog 31 #[.agg #[.int .i64 s.st, .int .i64 s.lb, .int .i64 s.s0, .slice (some ⟨g, 0, none⟩) s.es.length cap]] V fun e w' =>
      ∃ v : Value, e = .returned (.tuple #[.slice none 0 0, v]) ∧ Fault2 w' p v ∧ Below V.heap.size V w' := fun V hV => by
    obtain ⟨h1, h2, _, _, h3, _⟩ := hSL V hV
    exact orderNo_any HR.out h2 h3 h1
  have hTO : ∀ V v, Below W3.heap.size W3 V → Fault2 V p v → Calls Tryz.prog 32 #[v, .agg #[.int .i64 14, .int .i64 0, .int .i64 0, .string ly]] V fun e w' => e = .returned (.bool true) ∧ Below V.heap.size V w' := fun V v hV hF => by
    obtain ⟨_, _, _, _, _, h6⟩ := hSL V hV
    obtain ⟨vi, f1, f2⟩ := hF
    have h := told_two (k := 14) (by unfold CodeIn; omega) h6 f1 f2 (by decide) (by decide)
    rw [← HLY.out] at h
    exact h
  have hSTA : ∀ V, Below W3.heap.size W3 V → Calls Tryz.prog 33 #[.agg #[.int .i64 s.st, .int .i64 s.lb, .int .i64 s.s0, .slice (some ⟨g, 0, none⟩) s.es.length cap], .agg #[.int .i64 s.st, .int .i64 s.lb, .int .i64 s.s0, .slice a s.es.length c]] V fun e w' => e = .returned (.bool true) ∧ Below V.heap.size V w' := fun V hV => by
    obtain ⟨_, _, _, _, _, _, hl, _⟩ := HSYS.out V hV
    obtain ⟨_, _, h1, _⟩ := hSL V hV
    exact stays_any hl h1 (by rw [← HEL.out]; omega)
  have hSSY : ∀ V, Calls Tryz.prog 34 #[.agg #[.int .i64 0, .int .i64 0, .int .i64 0, .slice none 0 0], .agg #[.int .i64 0, .int .i64 0, .int .i64 0, .slice none 0 0]] V fun e w' => e = .returned (.bool true) ∧ Below V.heap.size V w' := fun V => by
    have hn : SlAt encE 3 V none 0 0 [] := ⟨fun h => by simp at h, fun h => by simp at h, fun i x hx => by simp at hx⟩
    have h := sameSystem_yes (xs := []) (a1 := none) (a2 := none) (b1 := 0) (o1 := 0) (b2 := 0) (o2 := 0) 0 0 0 (c1 := 0) (c2 := 0) hn hn (Nat.zero_le _)
    exact h
  have hALV : ∀ V, Below W3.heap.size W3 V → Calls Tryz.prog 26 #[] V fun e w' => e = .returned (.bool true) ∧ Below V.heap.size V w' := fun V hV => by
    obtain ⟨_, _, _, h4, _⟩ := hSL V hV
    exact ALV.out V h4
  rw [← HEL.out] at hCY hCO hOR hSTA
  have HCY := Lib.hid hCY; have HCO := Lib.hid hCO; have HOR := Lib.hid hOR; have HTO := Lib.hid hTO; have HSTA := Lib.hid hSTA; have HALV := Lib.hid hALV; have HSSY := Lib.hid hSSY
  have HEND : RowKit.Hid (∀ V, Below W3.heap.size W3 V → Below w.heap.size w V) := Lib.hid (fun V hV => (hSL V hV).2.2.2.1)
  clear hSL hCY hCO hOR hTO hSTA hALV hSSY ALV HE HTY HS HG HLY
  go_wp2_with fail
  go_loopw [6, 7, 8, 9, 10, 11, 12, 13, 14, 15] (fun v6 _ _ _ _ _ _ _ _ _ wr => ∃ (k : Nat), v6 = .int .i64 k ∧ k ≤ 2 ∧ Bk W3 wr bb [] []) (fun v6 _ _ _ _ _ _ _ _ _ _ => 2 - (intOf v6).toNat)
  case atStart => exact ⟨0, rfl, by omega, HBK.out⟩
  case round =>
    obtain ⟨k, rfl, hk, hbk⟩ := hrel
    obtain ⟨_, _, ⟨y0, y1, y2, y3⟩, yl, _, _, _, _⟩ := HSYS.out _ hbk.bel
    replace HBK := Lib.hid hbk
    clear hbk
    by_cases hk2 : k < 2
    · have hkI : (k : Int) < 2 := by omega
      go_wp2_with fail
      refine (HCY.out _ HBK.out.bel).mono ?_
      rintro e w4 ⟨v4, rfl, hf, hB⟩
      obtain ⟨fb4, rfl⟩ := hf.shape
      replace HBK := Lib.hid (HBK.out.call hB)
      have HF4 := Lib.hid hf
      clear hf hB y0 y1 y2 y3 yl
      obtain ⟨_, _, ⟨y0, y1, y2, y3⟩, yl, _, _, _, _⟩ := HSYS.out _ HBK.out.bel
      go_wp2_with fail
      refine (HCO.out _ HBK.out.bel).mono ?_
      rintro e w5 ⟨v5, rfl, hf, hB⟩
      obtain ⟨fb5, rfl⟩ := hf.shape
      replace HBK := Lib.hid (HBK.out.call hB)
      replace HF4 := Lib.hid (HF4.out.below hB)
      obtain ⟨W5, hW5⟩ : ∃ W5, W5 = w5.alloc (Obj.cells #[.int .i64 0, .int .i64 0, .int .i64 0, .slice none 0 0] 24) := ⟨_, rfl⟩
      have hbW5 : Below w5.heap.size w5 W5 := by rw [hW5]; exact (Below.refl _ _).alloc (Nat.le_refl _) _
      have HTB := Lib.hid (show W5.heap[w5.heap.size]? = some (.cells #[.int .i64 0, .int .i64 0, .int .i64 0, .slice none 0 0] 24 (0, 0)) by rw [hW5]; exact heap_alloc_new w5 _)
      replace HBK := Lib.hid (HBK.out.call hbW5)
      replace HF4 := Lib.hid (HF4.out.below hbW5)
      have HF5 := Lib.hid (hf.below hbW5)
      have HW5 := Lib.hid hW5
      clear hW5 hbW5 hf hB y0 y1 y2 y3 yl
      go_upto_region 11 with fail
      rw [← HW5.out]
      obtain ⟨tb, htb⟩ : ∃ tb, tb = w5.heap.size := ⟨_, rfl⟩
      rw [← htb] at HTB ⊢
      clear htb HW5
      obtain ⟨_, _, ⟨y0, y1, y2, y3⟩, yl, _, _, _, _⟩ := HSYS.out _ HBK.out.bel
      go_wp2_with fail
      refine (HOR.out _ HBK.out.bel).mono ?_
      rintro e w6 ⟨v6, rfl, hf, hB⟩
      obtain ⟨fb6, rfl⟩ := hf.shape
      replace HTB := Lib.hid ((hB.block tb (Array.getElem?_eq_some_iff.1 HTB.out).1).trans HTB.out)
      replace HBK := Lib.hid (HBK.out.call hB)
      replace HF4 := Lib.hid (HF4.out.below hB)
      replace HF5 := Lib.hid (HF5.out.below hB)
      have HF6 := Lib.hid hf
      clear hf hB y0 y1 y2 y3 yl
      obtain ⟨⟨x0, x1, x2, x3⟩, xl, ⟨y0, y1, y2, y3⟩, yl, ⟨z0, z1, z2, z3⟩, zl, _, _⟩ := HSYS.out _ HBK.out.bel
      go_wp2_with fail
      refine (HTO.out _ _ HBK.out.bel HF4.out).mono ?_
      rintro e w7 ⟨rfl, hB⟩
      replace HTB := Lib.hid ((hB.block tb (Array.getElem?_eq_some_iff.1 HTB.out).1).trans HTB.out)
      replace HBK := Lib.hid (HBK.out.call hB)
      replace HF4 := Lib.hid (HF4.out.below hB)
      replace HF5 := Lib.hid (HF5.out.below hB)
      replace HF6 := Lib.hid (HF6.out.below hB)
      clear hB x0 x1 x2 x3 xl y0 y1 y2 y3 yl z0 z1 z2 z3 zl
      obtain ⟨⟨x0, x1, x2, x3⟩, xl, ⟨y0, y1, y2, y3⟩, yl, ⟨z0, z1, z2, z3⟩, zl, _, _⟩ := HSYS.out _ HBK.out.bel
      go_wp2_with fail
      refine (HTO.out _ _ HBK.out.bel HF5.out).mono ?_
      rintro e w8 ⟨rfl, hB⟩
      replace HTB := Lib.hid ((hB.block tb (Array.getElem?_eq_some_iff.1 HTB.out).1).trans HTB.out)
      replace HBK := Lib.hid (HBK.out.call hB)
      replace HF4 := Lib.hid (HF4.out.below hB)
      replace HF5 := Lib.hid (HF5.out.below hB)
      replace HF6 := Lib.hid (HF6.out.below hB)
      clear hB x0 x1 x2 x3 xl y0 y1 y2 y3 yl z0 z1 z2 z3 zl
      obtain ⟨⟨x0, x1, x2, x3⟩, xl, ⟨y0, y1, y2, y3⟩, yl, ⟨z0, z1, z2, z3⟩, zl, _, _⟩ := HSYS.out _ HBK.out.bel
      go_wp2_with fail
      refine (HTO.out _ _ HBK.out.bel HF6.out).mono ?_
      rintro e w9 ⟨rfl, hB⟩
      replace HTB := Lib.hid ((hB.block tb (Array.getElem?_eq_some_iff.1 HTB.out).1).trans HTB.out)
      replace HBK := Lib.hid (HBK.out.call hB)
      replace HF4 := Lib.hid (HF4.out.below hB)
      replace HF5 := Lib.hid (HF5.out.below hB)
      replace HF6 := Lib.hid (HF6.out.below hB)
      clear hB x0 x1 x2 x3 xl y0 y1 y2 y3 yl z0 z1 z2 z3 zl
      obtain ⟨⟨x0, x1, x2, x3⟩, xl, ⟨y0, y1, y2, y3⟩, yl, ⟨z0, z1, z2, z3⟩, zl, _, _⟩ := HSYS.out _ HBK.out.bel
      go_wp2_with fail
      refine (HSTA.out _ HBK.out.bel).mono ?_
      rintro e w10 ⟨rfl, hB⟩
      replace HTB := Lib.hid ((hB.block tb (Array.getElem?_eq_some_iff.1 HTB.out).1).trans HTB.out)
      replace HBK := Lib.hid (HBK.out.call hB)
      replace HF4 := Lib.hid (HF4.out.below hB)
      replace HF5 := Lib.hid (HF5.out.below hB)
      replace HF6 := Lib.hid (HF6.out.below hB)
      clear hB x0 x1 x2 x3 xl y0 y1 y2 y3 yl z0 z1 z2 z3 zl
      obtain ⟨⟨x0, x1, x2, x3⟩, xl, ⟨y0, y1, y2, y3⟩, yl, ⟨z0, z1, z2, z3⟩, zl, _, _⟩ := HSYS.out _ HBK.out.bel
      clear x0 x1 x2 x3 xl y0 y1 y2 y3 yl
      obtain ⟨t0, t1, t2, t3⟩ := sysG HTB.out
      have tl := (Array.getElem?_eq_some_iff.1 HTB.out).1
      go_wp2_with fail
      refine (HSSY.out _).mono ?_
      rintro e w11 ⟨rfl, hB⟩
      replace HBK := Lib.hid (HBK.out.call hB)
      clear hB z0 z1 z2 z3 zl t0 t1 t2 t3 tl HTB HF4 HF5 HF6
      go_wp2_with fail
      go_roundw
      case rel => exact ⟨k + 1, by go_num, by omega, HBK.out⟩
      case measure => simp [intOf]; omega
    · clear y0 y1 y2 y3 yl
      go_wp2_with fail
      refine (HALV.out _ HBK.out.bel).mono ?_
      rintro e w4 ⟨rfl, hB⟩
      replace HBK := Lib.hid (HBK.out.call hB)
      clear hB
      go_wp2_with fail
      refine HBK.out.apart.mono ?_
      rintro e w5 ⟨rfl, hB⟩
      have HB5 := Lib.hid hB
      clear hB
      go_wp2_with fail
      go_ret
      exact ⟨rfl, HEND.out _ HB5.out⟩
end Go.Proofs.YtkmljelgogcobaaGreatDoor

namespace Go.Proofs.YtkmljelgogcobaaGreatDoor
open Go.RowKit Pl

theorem cyclesAll_any {w : World} {p : Addr} (hE : ErrsK 14 p w) (hT : ErrType w) {s : Lts} {a : Option Addr} {b off c : Nat} (hS : SlAt encE 3 w a b off s.es) (hc : s.es.length ≤ c) (hcm : c ≤ maxLen) :
    Calls Tryz.prog 4 #[.agg #[.int .i64 s.st, .int .i64 s.lb, .int .i64 s.s0, .slice a s.es.length c]] w fun e w' => e = .returned (.bool true) ∧ Below w.heap.size w w' :=
  (Classical.em s.Right).elim (fun h => cyclesAllYes_any hE hT hS hc hcm h) (fun h => cyclesAllNo_any hE hT hS hc hcm h)
end Go.Proofs.YtkmljelgogcobaaGreatDoor

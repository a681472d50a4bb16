/-
  witness: fails by pairs, where none does; Simulation of pairs that are one.
  witness: fails by pairs, whatever the pairs.
-/
import Derived.Test.YtclannenknhfpaaGreatDoorGStrG
import Derived.Test.YtclannenknhfpaaGreatDoorWitB
namespace Go.Proofs.YtclannenknhfpaaGreatDoor
open Go.RowKit Pl

attribute [local go_sem ↓] Go.wp_at_zero Go.wp_at_succ

theorem pmeets_nilAhead (v : Value) (w : World) : (nilAhead 332 79 v "semblance/witness.meets").run Tryz.prog w = .ok (some false) w := by kernel_rfl
theorem pmeets_method (v : Value) (w : World) : (Go.method 332 79 v "semblance/witness.meets").run Tryz.prog w = .ok (152, v) w := by kernel_rfl

set_option maxRecDepth 100000 in
set_option maxHeartbeats 2000000 in
theorem pfails_any {w0 w : World} {gb : Nat} {s : Lts} (h : GraphAt w0 gb s) (hB : Below w0.heap.size w0 w) {mb k : Nat} {Z : List (Int × Int)} (hM : OMap w mb encP2 okPr encU (addP Z) k) {p q : Int} (hmet : ∀ x ∈ s.outs p, meetsP s Z q x = true) :
    Calls Tryz.prog 45 #[.pointer (some ⟨gb, 0, none⟩), .int .i64 p, .int .i64 q, .iface 79 (.agg #[.pointer (some ⟨gb, 0, none⟩), .map (some mb)])] w fun e w' => e = .returned (.tuple #[.agg #[.int .i64 0, .int .i64 0, .int .i64 0, .int .i64 0], .bool false]) ∧ Below w.heap.size w w' := by
  have hna := pmeets_nilAhead
  have hme := pmeets_method
  have hbA := (Below.refl w.heap.size w).alloc (Nat.le_refl _) (.cells #[.int .i64 0, .int .i64 0, .int .i64 0, .int .i64 0] 30)
  have HEA := Lib.hid (each_any h (hB.trans (hbA.mono hB.size)) p)
  have HH := Lib.hid h; have HB := Lib.hid hB; have HM := Lib.hid hM; have HME := Lib.hid hmet; have HBA := Lib.hid hbA
  have hfz := heap_alloc_new w (.cells #[.int .i64 0, .int .i64 0, .int .i64 0, .int .i64 0] 30)
  have HF0 := Lib.hid hfz
  clear h hB hM hbA hfz hmet
  go_enter Tryz.func45, Tryz.ntmps45
  go_wp2_with fail
  refine (HEA.out).mono ?_
  rintro e wb ⟨⟨a2, c2, b2, off2, rfl, hc2, hm2, hss⟩, hBb⟩
  have HSS := Lib.hid hss
  have hsl : (s.outs p).length ≤ 10000 := outs_len HH.out.right _
  have HBb := Lib.hid hBb
  clear hss hBb hc2 hm2 HEA
  go_wp2_with fail
  go_loopw [11, 16] (fun _ v16 wr => ∃ k : Nat, v16 = .int .i64 k ∧ k ≤ (s.outs p).length ∧ Below w.heap.size w wr ∧ wr.heap[w.heap.size]? = some (.cells #[.int .i64 0, .int .i64 0, .int .i64 0, .int .i64 0] 30 (0, 0)))
    (fun _ v16 _ => (s.outs p).length - (intOf v16).toNat)
  case atStart => exact ⟨0, rfl, Nat.zero_le _, HBA.out.trans (HBb.out.mono (by simp)), (HBb.out.block _ (by simp)).trans HF0.out⟩
  case round =>
    obtain ⟨j, rfl, hk, hbr, hfr⟩ := hrel
    have HBR := Lib.hid hbr; have HFR := Lib.hid hfr
    have hfl := (Array.getElem?_eq_some_iff.1 hfr).1
    clear hbr hfr HBb HF0 HBA
    by_cases hlt : j < (s.outs p).length
    · obtain ⟨y, hy⟩ := getElem?_of_lt hlt
      have hss := HSS.out.below (HB.out.trans (HBR.out.mono HB.out.size)) (Nat.le_refl _)
      obtain rfl := hss.ad (by omega)
      have d0 := hss.s0 hy; have d1 := hss.s1 hy
      have dl := hss.lt (by omega)
      have hym := List.mem_of_getElem? hy
      have hyr := offB_false.1 (HH.out.right.edges _ (mem_outs.1 hym))
      have hst := HH.out.right.st0
      have hwl : (Lit.int .i64 y.2).wf = true := WalkArith.wf_i64 (by simp only at hyr; omega)
      have hjI : (j : Int) < ((s.outs p).length : Int) := by omega
      obtain ⟨y1, y2⟩ := y
      simp only at d0 d1 hwl
      have hbw := HBR.out.alloc HBR.out.size (.cells #[.int .i64 y1, .int .i64 y2] 84)
      have hmm := pmeets_any HH.out (HB.out.trans (hbw.mono HB.out.size)) (HM.out.of_block (hbw.block mb HM.out.lt)) q (y1, y2) hwl
      rw [HME.out _ hym] at hmm
      have HMM := Lib.hid hmm; have HBW := Lib.hid hbw
      clear hy hss hym hyr hst hwl hbw hmm
      go_wp2_with fail
      refine HMM.out.mono ?_
      rintro e w5 ⟨rfl, hB5⟩
      have hff := (hB5.block w.heap.size (by simp; omega)).trans ((Below.heap_alloc wr (.cells #[.int .i64 y1, .int .i64 y2] 84) w.heap.size hfl).trans HFR.out)
      have HB5 := Lib.hid (HBW.out.trans (hB5.mono HBW.out.size))
      have HFF := Lib.hid hff
      clear hff hB5 HMM HBW HBR HFR
      go_wp2_with fail
      go_roundw
      case rel => exact ⟨j + 1, by go_num, by omega, HB5.out, HFF.out⟩
      case measure => simp [intOf]; omega
    · have hkk : (s.outs p).length = j := by omega
      subst hkk
      have hff := HFR.out
      have f0 : wr.cell? ⟨w.heap.size, 0, none⟩ = some (.int .i64 0) := by simp [World.cell?, hff]
      have f1 : wr.cell? ⟨w.heap.size, 1, none⟩ = some (.int .i64 0) := by simp [World.cell?, hff]
      have f2 : wr.cell? ⟨w.heap.size, 2, none⟩ = some (.int .i64 0) := by simp [World.cell?, hff]
      have f3 : wr.cell? ⟨w.heap.size, 3, none⟩ = some (.int .i64 0) := by simp [World.cell?, hff]
      have z0 : wr.frozen? ⟨w.heap.size, 0, none⟩ = false := by simp [World.frozen?, hff]
      have z1 : wr.frozen? ⟨w.heap.size, 1, none⟩ = false := by simp [World.frozen?, hff]
      have z2 : wr.frozen? ⟨w.heap.size, 2, none⟩ = false := by simp [World.frozen?, hff]
      have z3 : wr.frozen? ⟨w.heap.size, 3, none⟩ = false := by simp [World.frozen?, hff]
      clear hff HFR
      go_wp2_with fail
      refine bodyPost_ret (v := .tuple #[.agg #[.int .i64 0, .int .i64 0, .int .i64 0, .int .i64 0], .bool false]) (by simp [results, Tryz.results45, go_sem, hfl, f0, f1, f2, f3]) rfl ⟨rfl, ?_⟩
      exact bSet4W HBR.out

/-- Pairs in memory. -/
theorem SlAt.p0 {w : World} {a : Option Addr} {b off i : Nat} {xs : List (Int × Int)} {x : Int × Int} (h : SlAt encPr 2 w a b off xs) (hx : xs[i]? = some x) : w.cell? ⟨b, off + i * 2, none⟩ = some (.int .i64 x.1) := by
  simpa using h.cell i x hx 0 _ rfl
theorem SlAt.p1 {w : World} {a : Option Addr} {b off i : Nat} {xs : List (Int × Int)} {x : Int × Int} (h : SlAt encPr 2 w a b off xs) (hx : xs[i]? = some x) : w.cell? ⟨b, off + i * 2 + 1, none⟩ = some (.int .i64 x.2) :=
  h.cell i x hx 1 _ rfl

/-- The world of Simulation: the system's box, the answer's block, the map. -/
structure SimW (w w0 wr : World) (fb mb : Nat) (sv : Array Value) (Z : List (Int × Int)) : Prop where
  bel : Below w.heap.size w wr
  low : Below w0.heap.size w0 wr
  sys : wr.heap[w.heap.size]? = some (.cells sv 24 (0, 0))
  fail : wr.heap[fb]? = some (.cells #[.int .i64 0, .int .i64 0, .int .i64 0, .int .i64 0] 30 (0, 0))
  map : ∃ k, OMap wr mb encP2 okPr encU (addP Z) k
  hi : w0.heap.size ≤ mb
  flo : w.heap.size ≤ fb
theorem SimW.call {w w0 wr w' : World} {fb mb : Nat} {sv : Array Value} {Z : List (Int × Int)} (h : SimW w w0 wr fb mb sv Z) (hB : Below wr.heap.size wr w') : SimW w w0 w' fb mb sv Z :=
  ⟨h.bel.trans (hB.mono h.bel.size), h.low.trans (hB.mono h.low.size), (hB.block _ (Array.getElem?_eq_some_iff.1 h.sys).1).trans h.sys, (hB.block _ (Array.getElem?_eq_some_iff.1 h.fail).1).trans h.fail, by
    obtain ⟨k, hm⟩ := h.map
    exact ⟨k, hm.of_block (hB.block _ hm.lt)⟩, h.hi, h.flo⟩
theorem SimW.put {w w0 wr w' : World} {fb mb : Nat} {sv : Array Value} {Z : List (Int × Int)} {x : Int × Int} {n' : Nat} (h : SimW w w0 wr fb mb sv Z) (hm : OMap w' mb encP2 okPr encU (fun z => if z = x then some () else addP Z z) n') (hg : wr.grownBy w' (some mb)) (hlo : w.heap.size ≤ w0.heap.size) : SimW w w0 w' fb mb sv (Z ++ [x]) := by
  obtain ⟨k, hm0⟩ := h.map
  obtain ⟨es, cl, hmb⟩ := hm0.block
  have hsn : w.heap.size ≠ mb := fun e => by
    have h1 := h.sys
    rw [e, hmb] at h1; cases h1
  have hfn : fb ≠ mb := fun e => by
    have h1 := h.fail
    rw [e, hmb] at h1; cases h1
  exact ⟨h.bel.grown hg h.bel.size (fun k hk => by cases hk; have := h.hi; omega), h.low.grown hg h.low.size (fun k hk => by cases hk; exact h.hi),
    (hg.block _ (Array.getElem?_eq_some_iff.1 h.sys).1 (fun e => hsn (Option.some.inj e))).trans h.sys, (hg.block _ (Array.getElem?_eq_some_iff.1 h.fail).1 (fun e => hfn (Option.some.inj e))).trans h.fail, ⟨n', hm.congr (fun z => addP_snoc Z x z)⟩, h.hi, h.flo⟩
theorem SimW.cells {w w0 wr : World} {fb mb : Nat} {x0 x1 x2 x3 : Value} {Z : List (Int × Int)} (h : SimW w w0 wr fb mb #[x0, x1, x2, x3] Z) : wr.cell? ⟨w.heap.size, 0, none⟩ = some x0 ∧ w.heap.size < wr.heap.size := by
  exact ⟨by simp [World.cell?, h.sys], (Array.getElem?_eq_some_iff.1 h.sys).1⟩
theorem SimW.fcells {w w0 wr : World} {fb mb : Nat} {sv : Array Value} {Z : List (Int × Int)} (h : SimW w w0 wr fb mb sv Z) :
    wr.cell? ⟨fb, 0, none⟩ = some (.int .i64 0) ∧ wr.cell? ⟨fb, 1, none⟩ = some (.int .i64 0) ∧ wr.cell? ⟨fb, 2, none⟩ = some (.int .i64 0) ∧ wr.cell? ⟨fb, 3, none⟩ = some (.int .i64 0) ∧
    wr.frozen? ⟨fb, 0, none⟩ = false ∧ wr.frozen? ⟨fb, 1, none⟩ = false ∧ wr.frozen? ⟨fb, 2, none⟩ = false ∧ wr.frozen? ⟨fb, 3, none⟩ = false ∧ fb < wr.heap.size := by
  have h1 := h.fail
  refine ⟨?_, ?_, ?_, ?_, ?_, ?_, ?_, ?_, (Array.getElem?_eq_some_iff.1 h1).1⟩ <;> simp [World.cell?, World.frozen?, h1]

set_option maxRecDepth 100000 in
set_option maxHeartbeats 4000000 in
theorem simulationYes_any {p : Addr} {s : Lts} {n : Nat} (h : s.Right) (hn : s.st = (n : Int)) (hn3 : n ≤ 300) {a : Option Addr} {b off c : Nat} {w : World} (hG : GErr 15 p w) (hS : SlAt encE 3 w a b off s.es)
    {Z : List (Int × Int)} (hZ : Z.length ≤ 10000) (hok : OkPairs s.norm n Z) {za : Option Addr} {zb zo zc : Nat} (hZS : SlAt encPr 2 w za zb zo Z) :
    Calls Tryz.prog 8 #[.agg #[.int .i64 s.st, .int .i64 s.lb, .int .i64 s.s0, .slice a s.es.length c], .slice za Z.length zc] w fun e w' => e = .returned (.tuple #[.agg #[.int .i64 0, .int .i64 0, .int .i64 0, .int .i64 0], .bool true, .nilIface]) ∧ Below w.heap.size w w' := by
  have hB0 := ((Below.refl w.heap.size w).alloc (Nat.le_refl _) (Obj.cells #[.int .i64 s.st, .int .i64 s.lb, .int .i64 s.s0, .slice a s.es.length c] 24)).alloc (by simp) (.cells #[.int .i64 0, .int .i64 0, .int .i64 0, .int .i64 0] 30)
  have hsb := (((Below.refl _ _).alloc (Nat.le_refl _) (.cells #[.int .i64 0, .int .i64 0, .int .i64 0, .int .i64 0] 30)).block w.heap.size (by simp)).trans (heap_alloc_new w (Obj.cells #[.int .i64 s.st, .int .i64 s.lb, .int .i64 s.s0, .slice a s.es.length c] 24))
  have hfb := heap_alloc_at (w.alloc (Obj.cells #[.int .i64 s.st, .int .i64 s.lb, .int .i64 s.s0, .slice a s.es.length c] 24)) (.cells #[.int .i64 0, .int .i64 0, .int .i64 0, .int .i64 0] 30) (w.heap.size + 1) (by simp)
  have hN := new_ok (c := c) h (hG.below hB0) (hS.below hB0 (Nat.le_refl _))
  have HN := Lib.hid hN; have HB0 := Lib.hid hB0; have HSB := Lib.hid hsb; have HFB := Lib.hid hfb; have HZS := Lib.hid hZS; have HOK := Lib.hid hok; have HNN := Lib.hid hn
  obtain ⟨st, hst⟩ : ∃ st, st = s.st := ⟨_, rfl⟩
  have HSTE : RowKit.Hid (st = (n : Int)) := Lib.hid (hst.trans hn)
  rw [← hst] at HN HSB HFB HB0 ⊢
  have c300 : decide ((300 : Int) < st) = false := by have := HSTE.out; simp; omega
  have c300' : decide (st > 300) = false := c300
  have HST0 := Lib.hid h.st0
  obtain ⟨m, hm⟩ : ∃ m, m = Z.length := ⟨_, rfl⟩
  rw [← hm] at hZ ⊢
  have cZ : decide ((m : Int) > 10000) = false := by simp; omega
  have hmm := @run_makeMap Tryz.prog
  have HM := Lib.hid hm
  clear hN hB0 hsb hfb hS hG h hn hok hZS hst hm
  go_enter Tryz.func8, Tryz.ntmps8
  go_wp2_with fail
  refine HN.out.mono ?_
  rintro e w1 ⟨gb, rfl, hgr, hB1, _⟩
  have hw1 := hB1.size
  simp at hw1
  have hsb1 := (hB1.block w.heap.size (by simp; omega)).trans HSB.out
  have hfb1 := (hB1.block (w.heap.size + 1) (by simp)).trans HFB.out
  have hbm := (Below.refl w1.heap.size w1).alloc (Nat.le_refl _) (.map #[] 0)
  have HINIT : RowKit.Hid (SimW w w1 (w1.alloc (.map #[] 0)) (w.heap.size + 1) w1.heap.size #[.int .i64 st, .int .i64 s.lb, .int .i64 s.s0, .slice a s.es.length c] (Z.take 0)) := Lib.hid
    ⟨(HB0.out.trans (hB1.mono (by simp; omega))).alloc (by omega) _, hbm, (hbm.block _ (by omega)).trans hsb1, (hbm.block _ (by omega)).trans hfb1, ⟨0, (OMap.made w1).congr (fun z => by rw [List.take_zero]; rfl)⟩, Nat.le_refl _, by omega⟩
  have x0 : w1.cell? ⟨w.heap.size, 0, none⟩ = some (.int .i64 st) := by simp [World.cell?, hsb1]
  have xl : w.heap.size < w1.heap.size := by omega
  have HGR := Lib.hid hgr
  have HLO : RowKit.Hid (w.heap.size ≤ w1.heap.size) := Lib.hid (by omega)
  clear hB1 hsb1 hfb1 hbm hgr HN HSB HFB HB0 hw1
  go_wp2_with fail
  go_loopw [11, 42] (fun _ v42 wr => ∃ k : Nat, v42 = .int .i64 k ∧ k ≤ m ∧ SimW w w1 wr (w.heap.size + 1) w1.heap.size #[.int .i64 st, .int .i64 s.lb, .int .i64 s.s0, .slice a s.es.length c] (Z.take k)) (fun _ v42 _ => m - (intOf v42).toNat)
  case atStart => exact ⟨0, rfl, Nat.zero_le _, HINIT.out⟩
  case round =>
    obtain ⟨k, rfl, hk, hsw⟩ := hrel
    have HSW := Lib.hid hsw
    clear hsw x0 xl HINIT hmm
    by_cases hkm : k < m
    · obtain ⟨x, hx⟩ := getElem?_of_lt (xs := Z) (i := k) (by rw [← HM.out]; exact hkm)
      have hzs := HZS.out.below HSW.out.bel (Nat.le_refl _)
      obtain rfl := hzs.ad (by rw [← HM.out]; omega)
      have d0 := hzs.p0 hx; have d1 := hzs.p1 hx
      have dl := hzs.lt (by rw [← HM.out]; omega)
      obtain ⟨r1, r2, r3, r4⟩ := HOK.out.rng x (List.mem_of_getElem? hx)
      obtain ⟨x1, x2⟩ := x
      simp only at d0 d1 r1 r2 r3 r4
      have hst := HSTE.out
      have hs0 := HST0.out.2.1
      have q1 : ¬ x1 < 0 := by omega
      have q2 : ¬ x2 < 0 := by omega
      have q3 : ¬ st ≤ x1 := by omega
      have q4 : ¬ st ≤ x2 := by omega
      have hokx : okPr (x1, x2) := ⟨WalkArith.wf_i64 (by omega), WalkArith.wf_i64 (by omega)⟩
      have HX := Lib.hid hx; have HOKX := Lib.hid hokx
      have hsa := HSW.out.call ((Below.refl wr.heap.size wr).alloc (Nat.le_refl _) (.cells #[.int .i64 x1, .int .i64 x2] 28))
      have HSA := Lib.hid hsa
      obtain ⟨y0, yl⟩ := HSW.out.cells
      have hkI : (k : Int) < (m : Int) := by omega
      clear hzs hx r1 r2 r3 r4 hst hs0 hokx hsa
      go_wp2_with (at_mapUpdate; refine wpList_oput rfl _ _ _ 74 rfl encPair Tryz.underlying74 rfl HSA.out.map.choose_spec ((x1, x2) : Int × Int) HOKX.out rfl () rfl ?_; intro w4 hM4 hg4 hf4 hs4)
      all_goals
        have hsn := HSW.out.call ((Below.refl wr.heap.size wr).alloc (Nat.le_refl _) (.cells #[.int .i64 x1, .int .i64 x2] 28))
        have HNX : RowKit.Hid (SimW w w1 w4 (w.heap.size + 1) w1.heap.size #[.int .i64 st, .int .i64 s.lb, .int .i64 s.s0, .slice a s.es.length c] (Z.take (k + 1))) := Lib.hid (by
          rw [take_snoc HX.out]
          exact hsn.put hM4 hg4 HLO.out)
        clear hsn hM4 hg4 hf4 hs4 HSA HSW
        go_roundw
        case rel => exact ⟨k + 1, by go_num, by omega, HNX.out⟩
        case measure => simp [intOf]; omega
    · obtain rfl : k = m := by omega
      have hsw := HSW.out
      rw [HM.out, List.take_length] at hsw
      have HSX := Lib.hid hsw
      clear hsw HSW
      go_wp2_with fail
      go_loopw [13, 14, 15, 71] (fun _ _ _ v71 wx => ∃ j : Nat, v71 = .int .i64 j ∧ j ≤ k ∧ SimW w w1 wx (w.heap.size + 1) w1.heap.size #[.int .i64 st, .int .i64 s.lb, .int .i64 s.s0, .slice a s.es.length c] Z) (fun _ _ _ v71 _ => k - (intOf v71).toNat)
      case atStart => exact ⟨0, rfl, Nat.zero_le _, HSX.out⟩
      case round =>
        obtain ⟨j, rfl, hj, hsw⟩ := hrel
        have HSW := Lib.hid hsw
        clear hsw HSX
        by_cases hjk : j < k
        · obtain ⟨x, hx⟩ := getElem?_of_lt (xs := Z) (i := j) (by rw [← HM.out]; exact hjk)
          have hzs := HZS.out.below HSW.out.bel (Nat.le_refl _)
          obtain rfl := hzs.ad (by rw [← HM.out]; omega)
          have d0 := hzs.p0 hx; have d1 := hzs.p1 hx
          have dl := hzs.lt (by rw [← HM.out]; omega)
          have hmt := HOK.out.met x (List.mem_of_getElem? hx)
          obtain ⟨x1, x2⟩ := x
          simp only at d0 d1 hmt
          have hsa := HSW.out.call ((Below.refl _ _).alloc (Nat.le_refl _) (.cells #[.int .i64 x1, .int .i64 x2] 28))
          have HSA := Lib.hid hsa
          have HPF := Lib.hid (pfails_any HGR.out hsa.low hsa.map.choose_spec hmt)
          have hjI : (j : Int) < (k : Int) := by omega
          clear hzs hx hmt hsa
          go_wp2_with fail
          refine HPF.out.mono ?_
          rintro e w5 ⟨rfl, hB5⟩
          have HS5 := Lib.hid ((HSA.out.call hB5).call ((Below.refl _ _).alloc (Nat.le_refl _) (.cells #[.int .i64 0, .int .i64 0, .int .i64 0, .int .i64 0] 30)))
          clear hB5 HPF HSA HSW d0 d1 dl
          go_wp2_with fail
          go_roundw
          case rel => exact ⟨j + 1, by go_num, by omega, HS5.out⟩
          case measure => simp [intOf]; omega
        · obtain rfl : j = k := by omega
          obtain ⟨f0, f1, f2, f3, z0, z1, z2, z3, hfl⟩ := HSW.out.fcells
          have HB := Lib.hid HSW.out.bel
          clear HSW
          go_wp2_with fail
          refine bodyPost_ret (v := .tuple #[.agg #[.int .i64 0, .int .i64 0, .int .i64 0, .int .i64 0], .bool true, .nilIface]) (by simp [results, Tryz.results8, go_sem, hfl, f0, f1, f2, f3]) rfl ⟨rfl, ?_⟩
          exact (((HB.out.setCell (p := ⟨w.heap.size + 1, 0, none⟩) (by simp) _).setCell (p := ⟨w.heap.size + 1, 1, none⟩) (by simp) _).setCell (p := ⟨w.heap.size + 1, 2, none⟩) (by simp) _).setCell (p := ⟨w.heap.size + 1, 3, none⟩) (by simp) _
end Go.Proofs.YtclannenknhfpaaGreatDoor

namespace Go.Proofs.YtclannenknhfpaaGreatDoor
open Go.RowKit Pl

attribute [local go_sem ↓] Go.wp_at_zero Go.wp_at_succ

/-- The first step of p that q does not meet, by the pairs Z. -/
def failP (s : Lts) (Z : List (Int × Int)) (p q : Int) : Option S := (s.outs p).find? (fun x => !meetsP s Z q x)
def FailP (o : Option S) (p q : Int) (e : Ending) : Prop :=
  match o with
  | some x => e = .returned (.tuple #[.agg #[.int .i64 p, .int .i64 q, .int .i64 x.1, .int .i64 x.2], .bool true])
  | none => e = .returned (.tuple #[.agg #[.int .i64 0, .int .i64 0, .int .i64 0, .int .i64 0], .bool false])

set_option maxRecDepth 100000 in
set_option maxHeartbeats 4000000 in
theorem pfailsG_any {w0 w : World} {gb : Nat} {s : Lts} (h : GraphAt w0 gb s) (hB : Below w0.heap.size w0 w) {mb k : Nat} {Z : List (Int × Int)} (hM : OMap w mb encP2 okPr encU (addP Z) k) (p q : Int) :
    Calls Tryz.prog 45 #[.pointer (some ⟨gb, 0, none⟩), .int .i64 p, .int .i64 q, .iface 79 (.agg #[.pointer (some ⟨gb, 0, none⟩), .map (some mb)])] w fun e w' => FailP (failP s Z p q) p q e ∧ Below w.heap.size w w' := by
  have hna := pmeets_nilAhead
  have hme := pmeets_method
  have hbA := (Below.refl w.heap.size w).alloc (Nat.le_refl _) (.cells #[.int .i64 0, .int .i64 0, .int .i64 0, .int .i64 0] 30)
  have HEA := Lib.hid (each_any h (hB.trans (hbA.mono hB.size)) p)
  have HH := Lib.hid h; have HB := Lib.hid hB; have HM := Lib.hid hM; have HBA := Lib.hid hbA
  have hfz := heap_alloc_new w (.cells #[.int .i64 0, .int .i64 0, .int .i64 0, .int .i64 0] 30)
  have HF0 := Lib.hid hfz
  clear h hB hM hbA hfz
  go_enter Tryz.func45, Tryz.ntmps45
  go_wp2_with fail
  refine (HEA.out).mono ?_
  rintro e wb ⟨⟨a2, c2, b2, off2, rfl, hc2, hm2, hss⟩, hBb⟩
  have HSS := Lib.hid hss
  have hsl : (s.outs p).length ≤ 10000 := outs_len HH.out.right _
  have HBb := Lib.hid hBb
  clear hss hBb hc2 hm2 HEA
  go_wp2_with fail
  go_loopw [11, 16] (fun _ v16 wr => ∃ k : Nat, v16 = .int .i64 k ∧ k ≤ (s.outs p).length ∧ (∀ x ∈ (s.outs p).take k, meetsP s Z q x = true) ∧ Below w.heap.size w wr ∧ wr.heap[w.heap.size]? = some (.cells #[.int .i64 0, .int .i64 0, .int .i64 0, .int .i64 0] 30 (0, 0)))
    (fun _ v16 _ => (s.outs p).length - (intOf v16).toNat)
  case atStart => exact ⟨0, rfl, Nat.zero_le _, by simp, HBA.out.trans (HBb.out.mono (by simp)), (HBb.out.block _ (by simp)).trans HF0.out⟩
  case round =>
    obtain ⟨j, rfl, hk, hall, hbr, hfr⟩ := hrel
    have HALL := Lib.hid hall; have HBR := Lib.hid hbr; have HFR := Lib.hid hfr
    have hfl := (Array.getElem?_eq_some_iff.1 hfr).1
    clear hall hbr hfr HBb HF0 HBA
    by_cases hlt : j < (s.outs p).length
    · obtain ⟨y, hy⟩ := getElem?_of_lt hlt
      have hss := HSS.out.below (HB.out.trans (HBR.out.mono HB.out.size)) (Nat.le_refl _)
      obtain rfl := hss.ad (by omega)
      have d0 := hss.s0 hy; have d1 := hss.s1 hy
      have dl := hss.lt (by omega)
      have hym := List.mem_of_getElem? hy
      have hyr := offB_false.1 (HH.out.right.edges _ (mem_outs.1 hym))
      have hst := HH.out.right.st0
      have hwl : (Lit.int .i64 y.2).wf = true := WalkArith.wf_i64 (by simp only at hyr; omega)
      have hjI : (j : Int) < ((s.outs p).length : Int) := by omega
      have HY := Lib.hid hy
      obtain ⟨y1, y2⟩ := y
      simp only at d0 d1 hwl
      have hbw := HBR.out.alloc HBR.out.size (.cells #[.int .i64 y1, .int .i64 y2] 84)
      have hmm := pmeets_any HH.out (HB.out.trans (hbw.mono HB.out.size)) (HM.out.of_block (hbw.block mb HM.out.lt)) q (y1, y2) hwl
      have HMM := Lib.hid hmm; have HBW := Lib.hid hbw
      clear hy hss hym hyr hst hwl hbw hmm
      go_wp2_with fail
      refine HMM.out.mono ?_
      rintro e w5 ⟨rfl, hB5⟩
      have hbx := (hB5.block wr.heap.size (by simp)).trans (heap_alloc_new wr (.cells #[.int .i64 y1, .int .i64 y2] 84))
      have hff := (hB5.block w.heap.size (by simp; omega)).trans ((Below.heap_alloc wr (.cells #[.int .i64 y1, .int .i64 y2] 84) w.heap.size hfl).trans HFR.out)
      have HB5 := Lib.hid (HBW.out.trans (hB5.mono HBW.out.size))
      by_cases hin : meetsP s Z q (y1, y2) = true
      · rw [hin]
        have HFF := Lib.hid hff
        have HALL2 : RowKit.Hid (∀ x ∈ (s.outs p).take (j + 1), meetsP s Z q x = true) := Lib.hid (fun x hx => by
          rw [take_snoc HY.out] at hx
          rcases List.mem_append.1 hx with hx | hx
          · exact HALL.out x hx
          · simp at hx; subst hx; exact hin)
        clear hin hff hbx hB5 HMM HALL HBW HBR HFR
        go_wp2_with fail
        go_roundw
        case rel => exact ⟨j + 1, by go_num, by omega, HALL2.out, HB5.out, HFF.out⟩
        case measure => simp [intOf]; omega
      · have hd : meetsP s Z q (y1, y2) = false := by simpa using hin
        rw [hd]
        have hfin : failP s Z p q = some (y1, y2) := by
          unfold failP
          rw [← List.take_append_drop j (s.outs p), List.find?_append, List.find?_eq_none.2 (fun x hx => by simp [HALL.out x hx])]
          rw [List.drop_eq_getElem_cons hlt, List.find?_cons_of_pos]
          · have := (List.getElem?_eq_some_iff.1 HY.out).2
            rw [this]; rfl
          · have := (List.getElem?_eq_some_iff.1 HY.out).2
            rw [this]; simp [hd]
        have HFIN := Lib.hid hfin
        have b0 : w5.cell? ⟨wr.heap.size, 0, none⟩ = some (.int .i64 y1) := by simp [World.cell?, hbx]
        have b1 : w5.cell? ⟨wr.heap.size, 1, none⟩ = some (.int .i64 y2) := by simp [World.cell?, hbx]
        have hbl := (Array.getElem?_eq_some_iff.1 hbx).1
        have f0 : w5.cell? ⟨w.heap.size, 0, none⟩ = some (.int .i64 0) := by simp [World.cell?, hff]
        have f1 : w5.cell? ⟨w.heap.size, 1, none⟩ = some (.int .i64 0) := by simp [World.cell?, hff]
        have f2 : w5.cell? ⟨w.heap.size, 2, none⟩ = some (.int .i64 0) := by simp [World.cell?, hff]
        have f3 : w5.cell? ⟨w.heap.size, 3, none⟩ = some (.int .i64 0) := by simp [World.cell?, hff]
        have z0 : w5.frozen? ⟨w.heap.size, 0, none⟩ = false := by simp [World.frozen?, hff]
        have z1 : w5.frozen? ⟨w.heap.size, 1, none⟩ = false := by simp [World.frozen?, hff]
        have z2 : w5.frozen? ⟨w.heap.size, 2, none⟩ = false := by simp [World.frozen?, hff]
        have z3 : w5.frozen? ⟨w.heap.size, 3, none⟩ = false := by simp [World.frozen?, hff]
        have hfl5 := (Array.getElem?_eq_some_iff.1 hff).1
        clear hd hin hff hbx hB5 HMM HALL HBW HBR HFR hfin HY d0 d1 dl hfl
        go_wp2_with fail
        refine bodyPost_ret (v := .tuple #[.agg #[.int .i64 p, .int .i64 q, .int .i64 y1, .int .i64 y2], .bool true]) (by simp [results, Tryz.results45, go_sem, f0, f1, f2, f3]) rfl ⟨?_, ?_⟩
        · rw [HFIN.out]; rfl
        · exact bSet4W HB5.out
    · have hkk : (s.outs p).length = j := by omega
      subst hkk
      have hfin : failP s Z p q = none := by
        unfold failP
        rw [List.find?_eq_none]
        intro x hx
        have := HALL.out x (by rw [List.take_length]; exact hx)
        simp [this]
      have HFIN := Lib.hid hfin
      have hff := HFR.out
      have f0 : wr.cell? ⟨w.heap.size, 0, none⟩ = some (.int .i64 0) := by simp [World.cell?, hff]
      have f1 : wr.cell? ⟨w.heap.size, 1, none⟩ = some (.int .i64 0) := by simp [World.cell?, hff]
      have f2 : wr.cell? ⟨w.heap.size, 2, none⟩ = some (.int .i64 0) := by simp [World.cell?, hff]
      have f3 : wr.cell? ⟨w.heap.size, 3, none⟩ = some (.int .i64 0) := by simp [World.cell?, hff]
      have z0 : wr.frozen? ⟨w.heap.size, 0, none⟩ = false := by simp [World.frozen?, hff]
      have z1 : wr.frozen? ⟨w.heap.size, 1, none⟩ = false := by simp [World.frozen?, hff]
      have z2 : wr.frozen? ⟨w.heap.size, 2, none⟩ = false := by simp [World.frozen?, hff]
      have z3 : wr.frozen? ⟨w.heap.size, 3, none⟩ = false := by simp [World.frozen?, hff]
      clear hff HFR hfin HALL
      go_wp2_with fail
      refine bodyPost_ret (v := .tuple #[.agg #[.int .i64 0, .int .i64 0, .int .i64 0, .int .i64 0], .bool false]) (by simp [results, Tryz.results45, go_sem, f0, f1, f2, f3]) rfl ⟨?_, ?_⟩
      · rw [HFIN.out]; rfl
      · exact bSet4W HBR.out
end Go.Proofs.YtclannenknhfpaaGreatDoor

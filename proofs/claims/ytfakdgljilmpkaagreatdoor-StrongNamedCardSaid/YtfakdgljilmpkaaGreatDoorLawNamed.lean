/-
  law9.StrongNamed.
-/
import Derived.Test.YtfakdgljilmpkaaGreatDoorLawRel
import Derived.Deep.RegionHeldLaw
import Derived.Deep.DeepCutAuto
namespace Go.Proofs.YtfakdgljilmpkaaGreatDoor
open Go.RowKit Pl

theorem oneE9 (x : E) : ∀ u ∈ encE x, u.oneCell' = true := by intro u hu; simp [encE] at hu; rcases hu with rfl | rfl | rfl <;> rfl
/-- The rows of the law: the edges of the new system, the system. -/
def RE9 (ta : Option Addr) (m tc : Nat) (es : List E) : Rw := ⟨35, 3, .slice ta m tc, m, es.flatMap encE⟩
def RT9 (tb : Nat) (x y z : Int) (v : Value) : Rw := ⟨24, 4, .slice (some ⟨tb, 0, none⟩) 1 1, 1, [.int .i64 x, .int .i64 y, .int .i64 z, v]⟩
def RL9 (tb : Nat) (n : Nat) (lb z : Int) (ta : Option Addr) (m tc : Nat) (es : List E) : List Rw := [RE9 ta m tc es, RT9 tb (n : Int) lb z (.slice ta m tc)]
section
variable {w0 w w1 : World} {tb n m tc : Nat} {lb z : Int} {ta : Option Addr} {es : List E}
theorem rl9Cells {v : Value} (h : Rws w0 w [RE9 ta m tc es, RT9 tb (n : Int) lb z v]) : w.cell? ⟨tb, 0, none⟩ = some (.int .i64 (n : Int)) ∧ w.cell? ⟨tb, 1, none⟩ = some (.int .i64 lb) ∧ w.cell? ⟨tb, 2, none⟩ = some (.int .i64 z) ∧ w.cell? ⟨tb, 3, none⟩ = some v ∧ tb < w.heap.size ∧ w.frozen? ⟨tb, 3, none⟩ = false ∧ w.frozen? ⟨tb, 2, none⟩ = false :=
  ⟨h.cell (i := 1) rfl (j := 0) rfl, h.cell (i := 1) rfl (j := 1) rfl, h.cell (i := 1) rfl (j := 2) rfl, h.cell (i := 1) rfl (j := 3) rfl, (h.lt (i := 1) rfl).2, h.fz (i := 1) rfl 3, h.fz (i := 1) rfl 2⟩
theorem rl9Grow {w2 : World} {v : Value} (h : Rws w0 w [RE9 ta m tc es, RT9 tb (n : Int) lb z v]) (hB2 : Below w.heap.size w w2) {x : E} {g c' : Nat} (ho : w1.ownsRow w0.heap.size 35 3 (.slice (some ⟨g, 0, none⟩) (m + 1) c') (m + 1) (es.flatMap encE ++ [.int .i64 x.1, .int .i64 x.2.1, .int .i64 x.2.2]))
    (hg : w2.grownBy w1 (Value.slice ta m tc).ownBlock) (hh : (Value.slice ta m tc).ownBlock = some g ∨ w.heap.size ≤ g) : Rws w0 w1 [RE9 (some ⟨g, 0, none⟩) (m + 1) c' (es ++ [x]), RT9 tb (n : Int) lb z v] := by
  have hs := h.grown hB2 0 rfl ho hg (fun g' hg' => by simp only [Value.ownBlock, Option.some.injEq] at hg'; subst hg'; exact hh)
  have e : (es ++ [x]).flatMap encE = es.flatMap encE ++ [.int .i64 x.1, .int .i64 x.2.1, .int .i64 x.2.2] := by rw [List.flatMap_append]; rfl
  unfold RE9
  rw [e]
  exact hs
theorem rl9Set {v : Value} (h : Rws w0 w [RE9 ta m tc es, RT9 tb (n : Int) lb z v]) : Rws w0 (w.setCell ⟨tb, 3, none⟩ (.slice ta m tc)) (RL9 tb n lb z ta m tc es) :=
  h.set 1 rfl 3 (.slice ta m tc)
end
theorem tmod_rot {n k p : Nat} : Int.tmod ((p : Int) + (k : Int)) (n : Int) = ((rotN n k p : Nat) : Int) := by
  unfold rotN
  rw [← Int.natCast_add]; rfl

set_option maxRecDepth 100000 in
set_option maxHeartbeats 8000000 in
theorem strongNamed_any {w : World} {p0 pc : Addr} (hG : GErr 0 p0 w) (hC : GErr 2 pc w) (hT : ErrType w) {s : Lts} {a : Option Addr} {b off c : Nat} (hS : SlAt encE 3 w a b off s.es) (x : Int) :
    Calls Tryz.prog 5 #[.agg #[.int .i64 s.st, .int .i64 s.lb, .int .i64 s.s0, .slice a s.es.length c], .int .i64 x] w fun e w' => e = .returned (.bool true) ∧ Below w.heap.size w w' := by
  have hB0 := (Below.refl w.heap.size w).alloc (Nat.le_refl _) (Obj.cells #[.int .i64 s.st, .int .i64 s.lb, .int .i64 s.s0, .slice a s.es.length c] 24)
  have hbx := heap_alloc_new w (Obj.cells #[.int .i64 s.st, .int .i64 s.lb, .int .i64 s.s0, .slice a s.es.length c] 24)
  have HG := Lib.hid hG; have HC := Lib.hid hC; have HT := Lib.hid hT; have HS := Lib.hid hS; have HB0 := Lib.hid hB0; have HBX := Lib.hid hbx
  have HSM := Lib.hid (small9_any s.s0 s.st s.lb a s.es.length c (w.alloc (Obj.cells #[.int .i64 s.st, .int .i64 s.lb, .int .i64 s.s0, .slice a s.es.length c] 24)))
  clear hG hC hT hS hB0 hbx
  have ALV : RowKit.Hid (∀ w1 : World, Below w.heap.size w w1 → Calls Tryz.prog 16 #[] w1 fun e w' => e = .returned (.bool true) ∧ Below w.heap.size w w') := Lib.hid (by
    intro w1 h1
    refine (alive9_any (HG.out.below h1) (HC.out.below h1)).mono ?_
    rintro e w' ⟨rfl, hB⟩
    exact ⟨rfl, h1.trans (hB.mono h1.size)⟩)
  go_enter Tryz.func5, Tryz.ntmps5
  go_wp2_with fail
  refine HSM.out.mono ?_
  rintro e w1 ⟨rfl, hB⟩
  obtain ⟨m, hm⟩ : ∃ m, m = (decide (s.st ≤ 80) && decide (s.es.length ≤ 600)) := ⟨_, rfl⟩
  rw [← hm]
  have hb1 := HB0.out.trans (hB.mono (by simp))
  have hx1 := (hB.block w.heap.size (by simp)).trans HBX.out
  have HB1 := Lib.hid hb1; have HM := Lib.hid hm
  obtain ⟨x0, x1, x2, x3, x4⟩ := sys9 hx1
  have HX1 := Lib.hid hx1
  clear hb1 hm hB hx1 HBX HB0 HSM
  cases m
  · go_wp2_with fail
    refine (ALV.out _ HB1.out).mono ?_
    rintro e w2 ⟨rfl, hB⟩
    go_wp2
    go_ret
    exact ⟨rfl, hB⟩
  by_cases hz : s.st = 0
  · have hzB : (s.st == 0) = true := by simp [hz]
    clear hz
    go_wp2_with fail
    refine (ALV.out _ HB1.out).mono ?_
    rintro e w2 ⟨rfl, hB⟩
    go_wp2
    go_ret
    exact ⟨rfl, hB⟩
  have hzB : (s.st == 0) = false := by simp [hz]
  have hst0 : s.Right → (-s.st < x.tmod s.st ∧ x.tmod s.st < s.st) := fun hr => by
    have h0 := hr.st0
    constructor
    · have := Int.lt_tmod_of_pos x (show 0 < s.st by omega); omega
    · exact Int.tmod_lt_of_pos x (by omega)
  have HST0 := Lib.hid hst0
  clear hst0
  by_cases hr : ¬ s.Right
  · have HNO := Lib.hid (strClassesNo_any (c := c) hr (HG.out.below HB1.out) (HT.out.below HB1.out) (HS.out.below HB1.out (Nat.le_refl _)))
    clear hr HST0
    go_wp2_with fail
    all_goals
      refine HNO.out.mono ?_
      rintro e w2 ⟨v, rfl, hf, hB⟩
      obtain ⟨v1, hf, _⟩ := hf
      obtain ⟨fb, rfl, _⟩ := hf.ex
      have HB2 := Lib.hid (HB1.out.trans (hB.mono HB1.out.size))
      clear hB hf HNO
      go_wp2_with fail
      refine (ALV.out _ HB2.out).mono ?_
      rintro e w3 ⟨rfl, hB⟩
      go_wp2
      go_ret
      exact ⟨rfl, hB⟩
  have hr := Classical.not_not.1 hr
  obtain ⟨hr1, hr2⟩ := HST0.out hr
  have h0 := hr.st0
  go_upto_if 29 with fail
  obtain ⟨r, hrr⟩ : ∃ r, r = x.tmod s.st := ⟨_, rfl⟩
  rw [← hrr] at hr1 hr2 ⊢
  clear hrr
  go_cut [5] from 28 (fun s5 wx => ∃ k : Nat, s5 = .int .i64 k ∧ (k : Int) < s.st ∧ wx = w1)
  case first =>
    by_cases hneg : r < 0
    · go_wp2_with fail
      go_meet
      exact ⟨(r + s.st).toNat, by rw [Int.toNat_of_nonneg (by omega)], by omega, rfl⟩
    · go_wp2_with fail
      go_meet
      exact ⟨r.toNat, by rw [Int.toNat_of_nonneg (by omega)], by omega, rfl⟩
  case rest =>
    obtain ⟨k, rfl, hk, rfl⟩ := hcut
    have hm := HM.out
    simp only [Bool.true_eq, Bool.and_eq_true, decide_eq_true_eq] at hm
    obtain ⟨h80, h600⟩ := hm
    obtain ⟨st, lb, s0, es⟩ := s
    simp only at h80 h600 h0 x0 x1 x2 x3 HX1 HS hk hz hzB hr1 hr2
    obtain ⟨n, rfl⟩ := Int.eq_ofNat_of_zero_le h0.1
    have hn3 : n ≤ 80 := by omega
    have hkn : k < n := by omega
    obtain ⟨z0, hz0⟩ := Int.eq_ofNat_of_zero_le h0.2.2.2.2.1
    subst hz0
    have hz80 : z0 ≤ 80 := by omega
    have HR := Lib.hid hr
    have HCL := Lib.hid (strClasses_any (c := c) (n := n) HR.out rfl (HG.out.below HB1.out) (HS.out.below HB1.out (Nat.le_refl _)))
    clear h80 h0 hr HM HST0 hr1 hr2 hz hzB hk
    go_wp2_with fail
    refine HCL.out.mono ?_
    unfold StrClasses
    rintro e w3 ⟨inn, ca, cc, hbig, rfl, hown, hB⟩
    have hb3 := HB1.out.trans (hB.mono HB1.out.size)
    have hx3 := (hB.block w.heap.size x4).trans HX1.out
    clear x0 x1 x2 x3 x4
    have hcl : (canon (flN n inn)).length = n := by rw [canon_len, flN_len]
    have hos : SlAt encI 1 w3 ca (blkOf ca) 0 (canon (flN n inn)) := ((Rws.nil (Below.refl wc.heap.size wc)).add hB hown).slO (i := 0) rfl lenI hcl.symm
    obtain ⟨cb, hcb⟩ : ∃ cb, cb = blkOf ca := ⟨_, rfl⟩
    rw [← hcb] at hos
    rw [canon9] at hos
    have HB3 := Lib.hid hb3; have HX3 := Lib.hid hx3; have HCS := Lib.hid hos; have HBIG := Lib.hid (cl9_big hbig)
    obtain ⟨x0, x1, x2, x3, x4⟩ := sys9 hx3
    clear hb3 hx3 hB hown hos hbig hcl hcb HCL HX1 HB1
    have HRZ : RowKit.Hid (Rws w3 (w3.alloc (.cells #[.int .i64 (n : Int), .int .i64 lb, .int .i64 ((rotN n k z0 : Nat) : Int), .slice none 0 0] 24)) (RL9 w3.heap.size n lb ((rotN n k z0 : Nat) : Int) none 0 0 [])) := Lib.hid
      (((Rws.nil (Below.refl w3.heap.size w3)).addLit #[.int .i64 (n : Int), .int .i64 lb, .int .i64 ((rotN n k z0 : Nat) : Int), .slice none 0 0] 24 (k := 4) (n := 1) (by decide) rfl).addNil 35 3)
    have hq0 := tmod_rot (n := n) (k := k) (p := z0)
    obtain ⟨rz, hrzE⟩ : ∃ rz, rz = rotN n k z0 := ⟨_, rfl⟩
    rw [← hrzE] at HRZ hq0
    have HRZE := Lib.hid hrzE
    have hnz : ¬ (n : Int) = 0 := by omega
    clear hrzE
    have hzk : wrap64 ((z0 : Int) + (k : Int)) = (z0 : Int) + (k : Int) := by unfold wrap64; omega
    go_upto_region 12 with fail
    obtain ⟨tb, htb⟩ : ∃ tb, tb = w3.heap.size := ⟨_, rfl⟩
    obtain ⟨wt, hwt⟩ : ∃ wt, wt = w3.alloc (.cells #[.int .i64 (n : Int), .int .i64 lb, .int .i64 (rz : Int), .slice none 0 0] 24) := ⟨_, rfl⟩
    rw [← hwt] at HRZ ⊢
    rw [← htb] at HRZ ⊢
    have hx5 := (HRZ.out.bel.block w.heap.size x4).trans HX3.out
    clear hwt htb hq0 hzk x0 x1 x2 x3 x4
    obtain ⟨x0, x1, x2, x3, x4⟩ := sys9 hx5
    clear hx5
    go_wp2_with fail
    clear x0 x1 x2 x3 x4
    go_loopw [10, 55] (fun _ v55 wr => ∃ (j : Nat) (ta : Option Addr) (m tc : Nat), v55 = .int .i64 j ∧ j ≤ es.length ∧ m = j ∧ Rws w3 wr (RL9 tb n lb (rz : Int) ta m tc ((es.take j).map (rotE (n : Int) (k : Int))))) (fun _ v55 _ => es.length - (intOf v55).toNat)
    case atStart => exact ⟨0, none, 0, 0, rfl, Nat.zero_le _, rfl, HRZ.out⟩
    case round =>
      obtain ⟨j, ta, m, tc, rfl, hj, hmj, hrw⟩ := hrel
      have HRW := Lib.hid hrw
      have hx := (hrw.bel.block w.heap.size (Array.getElem?_eq_some_iff.1 HX3.out).1).trans HX3.out
      obtain ⟨y0, y1, y2, y3, yl⟩ := sys9 hx
      obtain ⟨t0, t1, t2, t3, tl, tf, tf2⟩ := rl9Cells hrw
      have hwx := hrw.bel.size
      have hw3b := HB3.out.size
      clear hx HRZ
      by_cases hjl : j < es.length
      · obtain ⟨ed, hed⟩ := getElem?_of_lt hjl
        have hes := (HS.out.below (HB3.out.trans (hrw.bel.mono HB3.out.size)) (Nat.le_refl _))
        obtain rfl := hes.ad (by omega)
        have d0 := hes.e0 hed; have d1 := hes.e1 hed; have d2 := hes.e2 hed
        have dl := hes.lt (by omega)
        have hr1 := offB_false.1 (HR.out.edges ed (List.mem_of_getElem? hed))
        obtain ⟨e1, e2, e3⟩ := ed
        simp only at hr1 d0 d1 d2
        obtain ⟨f, rfl⟩ := Int.eq_ofNat_of_zero_le hr1.1
        obtain ⟨g3, rfl⟩ := Int.eq_ofNat_of_zero_le hr1.2.2.2.2.1
        have hfn : f < n := by omega
        have hgn : g3 < n := by omega
        have HED := Lib.hid hed
        have q1 := tmod_rot (n := n) (k := k) (p := f)
        have q2 := tmod_rot (n := n) (k := k) (p := g3)
        obtain ⟨rf, hrf⟩ : ∃ rf, rf = rotN n k f := ⟨_, rfl⟩
        obtain ⟨rg, hrg⟩ : ∃ rg, rg = rotN n k g3 := ⟨_, rfl⟩
        rw [← hrf] at q1; rw [← hrg] at q2
        have HRF := Lib.hid hrf; have HRG := Lib.hid hrg
        have hnz : ¬ (n : Int) = 0 := by omega
        have hnz2 : ¬ n = 0 := by omega
        have hwf : IntKind.i64.wrap ((f : Int) + (k : Int)) = (f : Int) + (k : Int) := IntWalk.i64_in _ (by omega)
        have hwg : IntKind.i64.wrap ((g3 : Int) + (k : Int)) = (g3 : Int) + (k : Int) := IntWalk.i64_in _ (by omega)
        have hjI : (j : Int) < (es.length : Int) := by omega
        have HOWN : RowKit.Hid (((wr.alloc (.cells #[.int .i64 (f : Int), .int .i64 e2, .int .i64 (g3 : Int)] 35)).alloc (.cells #[.int .i64 (rf : Int), .int .i64 e2, .int .i64 (rg : Int)] 35)).drew.ownsRow w3.heap.size 35 3 (.slice ta m tc) m (((es.take j).map (rotE (n : Int) (k : Int))).flatMap encE)) := Lib.hid (((hrw.alloc (.cells #[.int .i64 (f : Int), .int .i64 e2, .int .i64 (g3 : Int)] 35)).alloc (.cells #[.int .i64 (rf : Int), .int .i64 e2, .int .i64 (rg : Int)] 35)).drew.get (i := 0) rfl)
        have HBW := Lib.hid ((((Below.refl wr.heap.size wr).alloc (Nat.le_refl _) (.cells #[.int .i64 (f : Int), .int .i64 e2, .int .i64 (g3 : Int)] 35)).alloc (by simp) (.cells #[.int .i64 (rf : Int), .int .i64 e2, .int .i64 (rg : Int)] 35)).drew)
        have HMJ := Lib.hid hmj
        have hmb : m ≤ 600 := by omega
        clear hed hes hr1 hrf hrg hrw hmj
        have hxs := (HRW.out.bel.block w.heap.size (Array.getElem?_eq_some_iff.1 HX3.out).1).trans HX3.out
        have hed2 := heap_alloc_new wr (.cells #[.int .i64 (f : Int), .int .i64 e2, .int .i64 (g3 : Int)] 35)
        have h1 : (wr.alloc (.cells #[.int .i64 (f : Int), .int .i64 e2, .int .i64 (g3 : Int)] 35)).drew.heap[w.heap.size]? = some (.cells #[.int .i64 n, .int .i64 lb, .int .i64 z0, .slice (some ⟨b, off, none⟩) es.length c] 24 (0, 0)) ∧ (wr.alloc (.cells #[.int .i64 (f : Int), .int .i64 e2, .int .i64 (g3 : Int)] 35)).drew.heap[wr.heap.size]? = some (.cells #[.int .i64 (f : Int), .int .i64 e2, .int .i64 (g3 : Int)] 35 (0, 0)) := ⟨(Below.heap_alloc wr (.cells #[.int .i64 (f : Int), .int .i64 e2, .int .i64 (g3 : Int)] 35) w.heap.size yl).trans hxs, hed2⟩
        have h2 : ((wr.alloc (.cells #[.int .i64 (f : Int), .int .i64 e2, .int .i64 (g3 : Int)] 35)).alloc (.cells #[.int .i64 (rf : Int), .int .i64 e2, .int .i64 (rg : Int)] 35)).drew.heap[w.heap.size]? = some (.cells #[.int .i64 n, .int .i64 lb, .int .i64 z0, .slice (some ⟨b, off, none⟩) es.length c] 24 (0, 0)) ∧ ((wr.alloc (.cells #[.int .i64 (f : Int), .int .i64 e2, .int .i64 (g3 : Int)] 35)).alloc (.cells #[.int .i64 (rf : Int), .int .i64 e2, .int .i64 (rg : Int)] 35)).drew.heap[wr.heap.size]? = some (.cells #[.int .i64 (f : Int), .int .i64 e2, .int .i64 (g3 : Int)] 35 (0, 0)) := ⟨(Below.heap_alloc (wr.alloc (.cells #[.int .i64 (f : Int), .int .i64 e2, .int .i64 (g3 : Int)] 35)) (.cells #[.int .i64 (rf : Int), .int .i64 e2, .int .i64 (rg : Int)] 35) w.heap.size (by simp; omega)).trans h1.1, (Below.heap_alloc (wr.alloc (.cells #[.int .i64 (f : Int), .int .i64 e2, .int .i64 (g3 : Int)] 35)) (.cells #[.int .i64 (rf : Int), .int .i64 e2, .int .i64 (rg : Int)] 35) wr.heap.size (by simp)).trans hed2⟩
        have H7 : RowKit.Hid (∀ w7, ((wr.alloc (.cells #[.int .i64 (f : Int), .int .i64 e2, .int .i64 (g3 : Int)] 35)).alloc (.cells #[.int .i64 (rf : Int), .int .i64 e2, .int .i64 (rg : Int)] 35)).drew.grownBy w7 (Value.slice ta m tc).ownBlock → w7.heap[w.heap.size]? = some (.cells #[.int .i64 n, .int .i64 lb, .int .i64 z0, .slice (some ⟨b, off, none⟩) es.length c] 24 (0, 0)) ∧ w7.heap[wr.heap.size]? = some (.cells #[.int .i64 (f : Int), .int .i64 e2, .int .i64 (g3 : Int)] 35 (0, 0))) := Lib.hid (fun w7 hg => by
          have hob : ∀ q, (Value.slice ta m tc).ownBlock = some q → w3.heap.size ≤ q ∧ q < wr.heap.size := fun q hq => (HRW.out.get (i := 0) rfl).lt q hq
          have hsl : w.heap.size < w3.heap.size := (Array.getElem?_eq_some_iff.1 HX3.out).1
          exact ⟨(hg.block w.heap.size (by show w.heap.size < ((wr.alloc (.cells #[.int .i64 (f : Int), .int .i64 e2, .int .i64 (g3 : Int)] 35)).alloc (.cells #[.int .i64 (rf : Int), .int .i64 e2, .int .i64 (rg : Int)] 35)).heap.size; simp; omega) (fun e => by have := hob _ e.symm; omega)).trans h2.1, (hg.block wr.heap.size (by show wr.heap.size < ((wr.alloc (.cells #[.int .i64 (f : Int), .int .i64 e2, .int .i64 (g3 : Int)] 35)).alloc (.cells #[.int .i64 (rf : Int), .int .i64 e2, .int .i64 (rg : Int)] 35)).heap.size; simp; omega) (fun e => by have := hob _ e.symm; omega)).trans h2.2⟩)
        have H8 : RowKit.Hid (∀ (w7 : World) (v : Value), w7.heap[w.heap.size]? = some (.cells #[.int .i64 n, .int .i64 lb, .int .i64 z0, .slice (some ⟨b, off, none⟩) es.length c] 24 (0, 0)) ∧ w7.heap[wr.heap.size]? = some (.cells #[.int .i64 (f : Int), .int .i64 e2, .int .i64 (g3 : Int)] 35 (0, 0)) → (w7.setCell ⟨tb, 3, none⟩ v).heap[w.heap.size]? = some (.cells #[.int .i64 n, .int .i64 lb, .int .i64 z0, .slice (some ⟨b, off, none⟩) es.length c] 24 (0, 0)) ∧ (w7.setCell ⟨tb, 3, none⟩ v).heap[wr.heap.size]? = some (.cells #[.int .i64 (f : Int), .int .i64 e2, .int .i64 (g3 : Int)] 35 (0, 0))) := Lib.hid (fun w7 v h => by
          have htb := HRW.out.lt (i := 1) rfl
          have hsl : w.heap.size < w3.heap.size := (Array.getElem?_eq_some_iff.1 HX3.out).1
          exact ⟨(Below.heap_setCell _ _ _ _ (by show w.heap.size ≠ tb; omega)).trans h.1, (Below.heap_setCell _ _ _ _ (by show wr.heap.size ≠ tb; omega)).trans h.2⟩)
        have KB : RowKit.Hid (∀ W : World, W.heap[w.heap.size]? = some (.cells #[.int .i64 n, .int .i64 lb, .int .i64 z0, .slice (some ⟨b, off, none⟩) es.length c] 24 (0, 0)) → W.heap[wr.heap.size]? = some (.cells #[.int .i64 (f : Int), .int .i64 e2, .int .i64 (g3 : Int)] 35 (0, 0)) → W.cell? ⟨w.heap.size, 0, none⟩ = some (.int .i64 n) ∧ W.cell? ⟨wr.heap.size, 0, none⟩ = some (.int .i64 (f : Int)) ∧ W.cell? ⟨wr.heap.size, 1, none⟩ = some (.int .i64 e2) ∧ W.cell? ⟨wr.heap.size, 2, none⟩ = some (.int .i64 (g3 : Int))) := Lib.hid (fun W h h' => by
          refine ⟨?_, ?_, ?_, ?_⟩ <;> simp [World.cell?, h, h'])
        go_upto_region 15 with fail
        refine wp_region_held_drew (S := (fun w' => w'.cell? ⟨w.heap.size, 0, none⟩ = some (.int .i64 n) ∧ w'.cell? ⟨wr.heap.size, 0, none⟩ = some (.int .i64 (f : Int)) ∧ w'.cell? ⟨wr.heap.size, 1, none⟩ = some (.int .i64 e2) ∧ w'.cell? ⟨wr.heap.size, 2, none⟩ = some (.int .i64 (g3 : Int)))) (by kernel_rfl) (by (try dsimp only); (first | exact KB.out _ h1.1 h1.2 | exact KB.out _ h2.1 h2.2 | exact KB.out _ h7.1 h7.2 | exact KB.out _ h8.1 h8.2)) (fun hHeld => ?_)
        refine wpAnyH_take (i := 0) (v := ?_) rfl (by kernel_rfl) (by kernel_rfl) (by kernel_rfl) (fun _ _ _ h => h) (Or.inl ⟨by rfl, ?_⟩) (by assumption) ?_
        rotate_left
        · intro w hSw
          try dsimp only at hSw
          go_simp
          try with_reducible rfl
        try simp only [List.getElem_toArray, List.getElem_cons_zero, List.getElem_cons_succ, Act.put, List.setIfInBounds_toArray, List.set_cons_zero, List.set_cons_succ]
        refine wpAnyH_take (i := 2) (v := ?_) rfl (by kernel_rfl) (by kernel_rfl) (by kernel_rfl) (fun _ _ _ h => h) (Or.inl ⟨by rfl, ?_⟩) (by assumption) ?_
        rotate_left
        · intro w hSw
          try dsimp only at hSw
          go_simp
          try with_reducible rfl
        try simp only [List.getElem_toArray, List.getElem_cons_zero, List.getElem_cons_succ, Act.put, List.setIfInBounds_toArray, List.set_cons_zero, List.set_cons_succ]
        refine wpAnyH_take (i := 3) (v := ?_) rfl (by kernel_rfl) (by kernel_rfl) (by kernel_rfl) (fun _ _ _ h => h) (Or.inl ⟨by rfl, ?_⟩) (by assumption) ?_
        rotate_left
        · intro w hSw
          try dsimp only at hSw
          go_simp
          try with_reducible rfl
        try simp only [List.getElem_toArray, List.getElem_cons_zero, List.getElem_cons_succ, Act.put, List.setIfInBounds_toArray, List.set_cons_zero, List.set_cons_succ]
        refine wpAnyH_take (i := 4) (v := ?_) rfl (by kernel_rfl) (by kernel_rfl) (by kernel_rfl) (fun _ _ _ h => h) (Or.inl ⟨by rfl, ?_⟩) (by assumption) ?_
        rotate_left
        · intro w hSw
          try dsimp only at hSw
          go_simp
          try with_reducible rfl
        try simp only [List.getElem_toArray, List.getElem_cons_zero, List.getElem_cons_succ, Act.put, List.setIfInBounds_toArray, List.set_cons_zero, List.set_cons_succ]
        refine wpAnyH_take (i := 5) (v := ?_) rfl (by kernel_rfl) (by kernel_rfl) (by kernel_rfl) (fun _ _ _ h => h) (Or.inl ⟨by rfl, ?_⟩) (by assumption) ?_
        rotate_left
        · intro w hSw
          try dsimp only at hSw
          go_simp
          try with_reducible rfl
        try simp only [List.getElem_toArray, List.getElem_cons_zero, List.getElem_cons_succ, Act.put, List.setIfInBounds_toArray, List.set_cons_zero, List.set_cons_succ]
        refine wpAnyH_take (i := 6) (v := ?_) rfl (by kernel_rfl) (by kernel_rfl) (by kernel_rfl) (fun _ _ _ h => h) (Or.inl ⟨by rfl, ?_⟩) (by assumption) ?_
        rotate_left
        · intro w hSw
          try dsimp only at hSw
          go_simp
          try with_reducible rfl
        try simp only [List.getElem_toArray, List.getElem_cons_zero, List.getElem_cons_succ, Act.put, List.setIfInBounds_toArray, List.set_cons_zero, List.set_cons_succ]
        refine wpAnyH_take (i := 7) (v := ?_) rfl (by kernel_rfl) (by kernel_rfl) (by kernel_rfl) (fun _ _ _ h => h) (Or.inl ⟨by rfl, ?_⟩) (by assumption) ?_
        rotate_left
        · intro w hSw
          try dsimp only at hSw
          go_simp
          try with_reducible rfl
        try simp only [List.getElem_toArray, List.getElem_cons_zero, List.getElem_cons_succ, Act.put, List.setIfInBounds_toArray, List.set_cons_zero, List.set_cons_succ]
        refine wpAnyH_take (i := 8) (v := ?_) rfl (by kernel_rfl) (by kernel_rfl) (by kernel_rfl) (fun _ _ _ h => h) (Or.inl ⟨by rfl, ?_⟩) (by assumption) ?_
        rotate_left
        · intro w hSw
          try dsimp only at hSw
          go_simp
          try with_reducible rfl
        try simp only [List.getElem_toArray, List.getElem_cons_zero, List.getElem_cons_succ, Act.put, List.setIfInBounds_toArray, List.set_cons_zero, List.set_cons_succ]
        refine wpAnyH_take (i := 9) (v := ?_) rfl (by kernel_rfl) (by kernel_rfl) (by kernel_rfl) (fun _ _ _ h => h) (Or.inl ⟨by rfl, ?_⟩) (by assumption) ?_
        rotate_left
        · intro w hSw
          try dsimp only at hSw
          go_simp
          try with_reducible rfl
        try simp only [List.getElem_toArray, List.getElem_cons_zero, List.getElem_cons_succ, Act.put, List.setIfInBounds_toArray, List.set_cons_zero, List.set_cons_succ]
        refine wpAnyH_take (i := 10) (v := ?_) rfl (by kernel_rfl) (by kernel_rfl) (by kernel_rfl) (fun _ _ _ h => h) (Or.inl ⟨by rfl, ?_⟩) (by assumption) ?_
        rotate_left
        · intro w hSw
          try dsimp only at hSw
          go_simp
          try with_reducible rfl
        try simp only [List.getElem_toArray, List.getElem_cons_zero, List.getElem_cons_succ, Act.put, List.setIfInBounds_toArray, List.set_cons_zero, List.set_cons_succ]
        refine wpAnyH_take (i := 11) (v := ?_) rfl (by kernel_rfl) (by kernel_rfl) (by kernel_rfl) (fun _ _ _ h => h) (Or.inl ⟨by rfl, ?_⟩) (by assumption) ?_
        rotate_left
        · intro w hSw
          try dsimp only at hSw
          go_simp
          try with_reducible rfl
        try simp only [List.getElem_toArray, List.getElem_cons_zero, List.getElem_cons_succ, Act.put, List.setIfInBounds_toArray, List.set_cons_zero, List.set_cons_succ]
        refine wpAnyH_take (i := 12) (v := ?_) rfl (by kernel_rfl) (by kernel_rfl) (by kernel_rfl) (fun _ _ _ h => h) (Or.inl ⟨by rfl, ?_⟩) (by assumption) ?_
        rotate_left
        · intro w hSw
          try dsimp only at hSw
          go_simp
          try with_reducible rfl
        try simp only [List.getElem_toArray, List.getElem_cons_zero, List.getElem_cons_succ, Act.put, List.setIfInBounds_toArray, List.set_cons_zero, List.set_cons_succ]
        refine wpAnyH_take (i := 13) (v := ?_) rfl (by kernel_rfl) (by kernel_rfl) (by kernel_rfl) (fun _ _ _ h => h) (Or.inl ⟨by rfl, ?_⟩) (by assumption) ?_
        rotate_left
        · intro w hSw
          try dsimp only at hSw
          go_simp
          try with_reducible rfl
        try simp only [List.getElem_toArray, List.getElem_cons_zero, List.getElem_cons_succ, Act.put, List.setIfInBounds_toArray, List.set_cons_zero, List.set_cons_succ]
        refine wpAnyH_take (i := 14) (v := ?_) rfl (by kernel_rfl) (by kernel_rfl) (by kernel_rfl) (fun _ _ _ h => h) (Or.inl ⟨by rfl, ?_⟩) (by assumption) ?_
        rotate_left
        · intro w hSw
          try dsimp only at hSw
          go_simp
          try with_reducible rfl
        try simp only [List.getElem_toArray, List.getElem_cons_zero, List.getElem_cons_succ, Act.put, List.setIfInBounds_toArray, List.set_cons_zero, List.set_cons_succ]
        refine wpAnyH_take (i := 15) (v := ?_) rfl (by kernel_rfl) (by kernel_rfl) (by kernel_rfl) (fun _ _ _ h => h) (Or.inl ⟨by rfl, ?_⟩) (by assumption) ?_
        rotate_left
        · intro w hSw
          try dsimp only at hSw
          go_simp
          try with_reducible rfl
        try simp only [List.getElem_toArray, List.getElem_cons_zero, List.getElem_cons_succ, Act.put, List.setIfInBounds_toArray, List.set_cons_zero, List.set_cons_succ]
        refine wpAnyH_take (i := 16) (v := ?_) rfl (by kernel_rfl) (by kernel_rfl) (by kernel_rfl) (fun _ _ _ h => h) (Or.inl ⟨by rfl, ?_⟩) (by assumption) ?_
        rotate_left
        · intro w hSw
          try dsimp only at hSw
          go_simp
          try with_reducible rfl
        try simp only [List.getElem_toArray, List.getElem_cons_zero, List.getElem_cons_succ, Act.put, List.setIfInBounds_toArray, List.set_cons_zero, List.set_cons_succ]
        refine wpAnyH_take (i := 17) (v := ?_) rfl (by kernel_rfl) (by kernel_rfl) (by kernel_rfl) (fun _ _ _ h => h) (Or.inl ⟨by rfl, ?_⟩) (by assumption) ?_
        rotate_left
        · intro w hSw
          try dsimp only at hSw
          go_simp
          try with_reducible rfl
        try simp only [List.getElem_toArray, List.getElem_cons_zero, List.getElem_cons_succ, Act.put, List.setIfInBounds_toArray, List.set_cons_zero, List.set_cons_succ]
        refine wpAnyH_take (i := 18) (v := ?_) rfl (by kernel_rfl) (by kernel_rfl) (by kernel_rfl) (fun _ _ _ h => h) (Or.inl ⟨by rfl, ?_⟩) (by assumption) ?_
        rotate_left
        · intro w hSw
          try dsimp only at hSw
          go_simp
          try with_reducible rfl
        try simp only [List.getElem_toArray, List.getElem_cons_zero, List.getElem_cons_succ, Act.put, List.setIfInBounds_toArray, List.set_cons_zero, List.set_cons_succ]
        refine wpAnyH_ready (rs := [1, 19]) (by kernel_rfl) (by simp) ?_
        refine AllReadyH.cons rfl (fun K hK => ?_) (AllReadyH.cons rfl (fun K hK => ?_) AllReadyH.nil)
        go_simp
        refine hK.out _ _ (by (try dsimp only); (first | exact KB.out _ h1.1 h1.2 | exact KB.out _ h2.1 h2.2 | exact KB.out _ h7.1 h7.2 | exact KB.out _ h8.1 h8.2)) (fun hHeld => ?_)
        clear hK K
        try simp only [List.getElem_toArray, List.getElem_cons_zero, List.getElem_cons_succ, Act.put, List.setIfInBounds_toArray, List.set_cons_zero, List.set_cons_succ]
        refine wpAnyH_ready (rs := [19]) (by kernel_rfl) (by simp) ?_
        refine AllReadyH.cons rfl (fun K hK => ?_) AllReadyH.nil
        go_simp
        refine hK.out _ _ (by (try dsimp only); (first | exact KB.out _ h1.1 h1.2 | exact KB.out _ h2.1 h2.2 | exact KB.out _ h7.1 h7.2 | exact KB.out _ h8.1 h8.2)) (fun hHeld => ?_)
        clear hK K
        try simp only [List.getElem_toArray, List.getElem_cons_zero, List.getElem_cons_succ, Act.put, List.setIfInBounds_toArray, List.set_cons_zero, List.set_cons_succ]
        refine wpAnyH_ready (rs := [20]) (by kernel_rfl) (by simp) ?_
        refine AllReadyH.cons rfl (fun K hK => ?_) AllReadyH.nil
        (refine step_lie rfl _ _ _ (by rfl) rowE (base := w3.heap.size) (by simp; omega) (by rfl) HOWN.out ⟨wr.heap.size + 1, 0, none⟩ 1 1 [.int .i64 (rf : Int), .int .i64 e2, .int .i64 (rg : Int)] (by rfl) (by rfl) (cells3 (by simp [go_sem]) (by simp [go_sem]) (by simp [go_sem])) (by simp [Value.oneCell']) (by decide) (by omega) (by unfold maxLen; omega) wr.heap.size (by simp; omega) ?_; intro g cap w7 hown7 hg7 hl7 hlt7; have hgr := rl9Grow (x := ((rf : Int), e2, (rg : Int))) HRW.out HBW.out hown7 hg7 hl7; obtain ⟨v0, v1, v2, v3, v4, vf, vf2⟩ := rl9Cells hgr; have h7 := H7.out _ hg7; have h8 := H8.out _ (.slice (some ⟨g, 0, none⟩) (m + 1) cap) h7; have HGR := Lib.hid (rl9Set hgr); clear hown7 hl7 hgr)
        refine hK.out _ _ (by (try dsimp only); (first | exact KB.out _ h1.1 h1.2 | exact KB.out _ h2.1 h2.2 | exact KB.out _ h7.1 h7.2 | exact KB.out _ h8.1 h8.2)) (fun hHeld => ?_)
        clear hK K
        try simp only [List.getElem_toArray, List.getElem_cons_zero, List.getElem_cons_succ, Act.put, List.setIfInBounds_toArray, List.set_cons_zero, List.set_cons_succ]
        refine wpAnyH_take (i := 21) (v := ?_) rfl (by kernel_rfl) (by kernel_rfl) (by kernel_rfl) (fun _ _ _ h => h) (Or.inl ⟨by rfl, ?_⟩) (by assumption) ?_
        rotate_left
        · intro w hSw
          try dsimp only at hSw
          go_simp
          try with_reducible rfl
        try simp only [List.getElem_toArray, List.getElem_cons_zero, List.getElem_cons_succ, Act.put, List.setIfInBounds_toArray, List.set_cons_zero, List.set_cons_succ]
        refine wpAnyH_ready (rs := [22]) (by kernel_rfl) (by simp) ?_
        refine AllReadyH.cons rfl (fun K hK => ?_) AllReadyH.nil
        go_simp
        refine hK.out _ _ (by (try dsimp only); (first | exact KB.out _ h1.1 h1.2 | exact KB.out _ h2.1 h2.2 | exact KB.out _ h7.1 h7.2 | exact KB.out _ h8.1 h8.2)) (fun hHeld => ?_)
        clear hK K
        try simp only [List.getElem_toArray, List.getElem_cons_zero, List.getElem_cons_succ, Act.put, List.setIfInBounds_toArray, List.set_cons_zero, List.set_cons_succ]
        refine wpAnyH_done (by kernel_rfl) ?_ _
        rotate_left
        go_simp
        refine hK.out _ _ (by (try dsimp only); (first | exact KB.out _ h1.1 h1.2 | exact KB.out _ h2.1 h2.2 | exact KB.out _ h7.1 h7.2 | exact KB.out _ h8.1 h8.2)) (fun hHeld => ?_)
        clear hK K
        try simp only [List.getElem_toArray, List.getElem_cons_zero, List.getElem_cons_succ, Act.put, List.setIfInBounds_toArray, List.set_cons_zero, List.set_cons_succ]
        refine wpAnyH_ready (rs := [1]) (by kernel_rfl) (by simp) ?_
        refine AllReadyH.cons rfl (fun K hK => ?_) AllReadyH.nil
        go_simp
        refine hK.out _ _ (by (try dsimp only); (first | exact KB.out _ h1.1 h1.2 | exact KB.out _ h2.1 h2.2 | exact KB.out _ h7.1 h7.2 | exact KB.out _ h8.1 h8.2)) (fun hHeld => ?_)
        clear hK K
        try simp only [List.getElem_toArray, List.getElem_cons_zero, List.getElem_cons_succ, Act.put, List.setIfInBounds_toArray, List.set_cons_zero, List.set_cons_succ]
        refine wpAnyH_ready (rs := [20]) (by kernel_rfl) (by simp) ?_
        refine AllReadyH.cons rfl (fun K hK => ?_) AllReadyH.nil
        (refine step_lie rfl _ _ _ (by rfl) rowE (base := w3.heap.size) (by simp; omega) (by rfl) HOWN.out ⟨wr.heap.size + 1, 0, none⟩ 1 1 [.int .i64 (rf : Int), .int .i64 e2, .int .i64 (rg : Int)] (by rfl) (by rfl) (cells3 (by simp [go_sem]) (by simp [go_sem]) (by simp [go_sem])) (by simp [Value.oneCell']) (by decide) (by omega) (by unfold maxLen; omega) wr.heap.size (by simp; omega) ?_; intro g cap w7 hown7 hg7 hl7 hlt7; have hgr := rl9Grow (x := ((rf : Int), e2, (rg : Int))) HRW.out HBW.out hown7 hg7 hl7; obtain ⟨v0, v1, v2, v3, v4, vf, vf2⟩ := rl9Cells hgr; have h7 := H7.out _ hg7; have h8 := H8.out _ (.slice (some ⟨g, 0, none⟩) (m + 1) cap) h7; have HGR := Lib.hid (rl9Set hgr); clear hown7 hl7 hgr)
        refine hK.out _ _ (by (try dsimp only); (first | exact KB.out _ h1.1 h1.2 | exact KB.out _ h2.1 h2.2 | exact KB.out _ h7.1 h7.2 | exact KB.out _ h8.1 h8.2)) (fun hHeld => ?_)
        clear hK K
        try simp only [List.getElem_toArray, List.getElem_cons_zero, List.getElem_cons_succ, Act.put, List.setIfInBounds_toArray, List.set_cons_zero, List.set_cons_succ]
        refine wpAnyH_take (i := 21) (v := ?_) rfl (by kernel_rfl) (by kernel_rfl) (by kernel_rfl) (fun _ _ _ h => h) (Or.inl ⟨by rfl, ?_⟩) (by assumption) ?_
        rotate_left
        · intro w hSw
          try dsimp only at hSw
          go_simp
          try with_reducible rfl
        try simp only [List.getElem_toArray, List.getElem_cons_zero, List.getElem_cons_succ, Act.put, List.setIfInBounds_toArray, List.set_cons_zero, List.set_cons_succ]
        refine wpAnyH_ready (rs := [22]) (by kernel_rfl) (by simp) ?_
        refine AllReadyH.cons rfl (fun K hK => ?_) AllReadyH.nil
        go_simp
        refine hK.out _ _ (by (try dsimp only); (first | exact KB.out _ h1.1 h1.2 | exact KB.out _ h2.1 h2.2 | exact KB.out _ h7.1 h7.2 | exact KB.out _ h8.1 h8.2)) (fun hHeld => ?_)
        clear hK K
        try simp only [List.getElem_toArray, List.getElem_cons_zero, List.getElem_cons_succ, Act.put, List.setIfInBounds_toArray, List.set_cons_zero, List.set_cons_succ]
        refine wpAnyH_done (by kernel_rfl) ?_ _
        all_goals
          have HNX : RowKit.Hid (Rws w3 (w7.setCell ⟨tb, 3, none⟩ (.slice (some ⟨g, 0, none⟩) (m + 1) cap)) (RL9 tb n lb (rz : Int) (some ⟨g, 0, none⟩) (m + 1) cap ((es.take (j + 1)).map (rotE (n : Int) (k : Int))))) := Lib.hid (by
            have e : rotE (n : Int) (k : Int) ((f : Int), e2, (g3 : Int)) = ((rf : Int), e2, (rg : Int)) := by
              unfold rotE
              simp only
              rw [rotN_cast, rotN_cast, HRF.out, HRG.out]
            rw [take_snoc HED.out, List.map_append, List.map_singleton, e]
            exact HGR.out)
          clear HGR h1 h2 h7 h8 v0 v1 v2 v3 v4 vf vf2 q1 q2 hwf hwg
          go_wp2_with fail
          go_roundw
          first
            | exact ⟨j + 1, some ⟨g, 0, none⟩, m + 1, cap, by go_num, by omega, by have := HMJ.out; omega, HNX.out⟩
            | (simp [intOf]; omega)
        all_goals (first | exact ⟨j + 1, some ⟨g, 0, none⟩, m + 1, cap, by go_num, by omega, by have := HMJ.out; omega, HNX.out⟩ | (simp [intOf]; omega))
      · obtain rfl : j = es.length := by omega
        have hn0 : 0 < n := by omega
        obtain ⟨E', hE⟩ : ∃ E', E' = es.map (rotE (n : Int) (k : Int)) := ⟨_, rfl⟩
        have hTe : (⟨(n : Int), lb, (rz : Int), E'⟩ : Lts) = rotS ⟨(n : Int), lb, (z0 : Int), es⟩ (k : Int) := by
          unfold rotS
          simp only
          rw [rotN_cast, ← HRZE.out, hE]
        have hEl : E'.length = m := by rw [hE, List.length_map]; omega
        have hTR : Lts.Right ⟨(n : Int), lb, (rz : Int), E'⟩ := by rw [hTe]; exact rot_right HR.out rfl hn0
        have hsT : SlAt encE 3 wr ta (blkOf ta) 0 E' := HRW.out.slO (i := 0) (by rw [hE, List.take_length]; rfl) lenE hEl.symm
        have hb4 := HB3.out.trans (HRW.out.bel.mono HB3.out.size)
        have hct := strClasses_any (c := tc) (n := n) hTR rfl (HG.out.below hb4) hsT
        simp only at hct
        rw [hEl] at hct
        have HCT := Lib.hid hct; have HTE := Lib.hid hTe; have HB4 := Lib.hid hb4
        have HX4 := Lib.hid ((HRW.out.bel.block w.heap.size (Array.getElem?_eq_some_iff.1 HX3.out).1).trans HX3.out)
        have HC4 := Lib.hid (HCS.out.below HRW.out.bel (Nat.le_refl _))
        clear hE hTe hEl hTR hsT hb4 hct hrw HRW HCS HX3 HB3 hmj hj hjl hwx hw3b
        go_wp2_with fail
        refine HCT.out.mono ?_
        unfold StrClasses
        rintro e w5 ⟨inm, da, dc, hbig, rfl, hown, hB⟩
        have hb5 := HB4.out.trans (hB.mono HB4.out.size)
        have hx5 := (hB.block w.heap.size yl).trans HX4.out
        have hcl : (canon (flN n inm)).length = n := by rw [canon_len, flN_len]
        have hos : SlAt encI 1 w5 da (blkOf da) 0 (canon (flN n inm)) := ((Rws.nil (Below.refl wr.heap.size wr)).add hB hown).slO (i := 0) rfl lenI hcl.symm
        obtain ⟨db, hdb⟩ : ∃ db, db = blkOf da := ⟨_, rfl⟩
        rw [← hdb, canon9] at hos
        rw [HTE.out] at hbig
        have HROT : RowKit.Hid (∀ p q, p < n → q < n → (cl9 n inn p = cl9 n inn q ↔ cl9 n inm (rotN n k p) = cl9 n inm (rotN n k q))) := Lib.hid (fun p q hp hq => rot_big HR.out rfl hkn HBIG.out (cl9_big hbig) hp hq)
        have HB5 := Lib.hid hb5; have HX5 := Lib.hid hx5; have HD5 := Lib.hid hos; have HC5 := Lib.hid (HC4.out.below hB (Nat.le_refl _))
        clear y0 y1 y2 y3 yl t0 t1 t2 t3 tl tf tf2
        obtain ⟨x0, x1, x2, x3, x4⟩ := sys9 hx5
        clear hb5 hx5 hos hcl hdb hbig hown hB HC4 HX4 HB4 HCT
        go_wp2_with fail
        clear x0 x1 x2 x3 x4
        go_loopw [13, 14] (fun v13 _ wx => ∃ p : Nat, v13 = .int .i64 p ∧ p ≤ n ∧ Below w5.heap.size w5 wx) (fun v13 _ _ => n - (intOf v13).toNat)
        case atStart => exact ⟨0, rfl, Nat.zero_le _, Below.refl _ _⟩
        case round =>
          obtain ⟨p, rfl, hp, hbe⟩ := hrel
          have HBE := Lib.hid hbe
          have hx := (hbe.block w.heap.size (Array.getElem?_eq_some_iff.1 HX5.out).1).trans HX5.out
          obtain ⟨y0, y1, y2, y3, yl⟩ := sys9 hx
          clear hbe hx y1 y2 y3
          by_cases hpn : p < n
          · have hpI : (p : Int) < (n : Int) := by omega
            go_wp2_with fail
            go_loopw [14] (fun v14 wx => ∃ q : Nat, v14 = .int .i64 q ∧ q ≤ p ∧ Below w5.heap.size w5 wx) (fun v14 _ => p - (intOf v14).toNat)
            case atStart => exact ⟨0, rfl, Nat.zero_le _, HBE.out⟩
            case round =>
              obtain ⟨q, rfl, hq, hbe⟩ := hrel
              have HBF := Lib.hid hbe
              have hx := (hbe.block w.heap.size (Array.getElem?_eq_some_iff.1 HX5.out).1).trans HX5.out
              have y0 : wr.cell? ⟨w.heap.size, 0, none⟩ = some (.int .i64 n) := (sys9 hx).1
              have yl := (sys9 hx).2.2.2.2
              clear hx HBE
              by_cases hqp : q < p
              · have hqn : q < n := by omega
                have hcs := HC5.out.below hbe (Nat.le_refl _)
                have hds := HD5.out.below hbe (Nat.le_refl _)
                have hln : 0 < (fl n (cl9 n inn)).length := by rw [fl_len]; omega
                have hlm : 0 < (fl n (cl9 n inm)).length := by rw [fl_len]; omega
                obtain rfl := hcs.ad hln
                obtain rfl := hds.ad hlm
                have hrp := rotN_lt (k := k) (p := p) hn0
                have hrq := rotN_lt (k := k) (p := q) hn0
                have d0 := hcs.ci (fl_get (cl9 n inn) hpn); have d1 := hcs.ci (fl_get (cl9 n inn) hqn)
                have d2 := hds.ci (fl_get (cl9 n inm) hrp); have d3 := hds.ci (fl_get (cl9 n inm) hrq)
                have dl := hcs.lt hln; have dm := hds.lt hlm
                have q1 := tmod_rot (n := n) (k := k) (p := p)
                have q2 := tmod_rot (n := n) (k := k) (p := q)
                have hiff := HROT.out p q hpn hqn
                obtain ⟨rp, hrpe⟩ : ∃ rp, rp = rotN n k p := ⟨_, rfl⟩
                obtain ⟨rq, hrqe⟩ : ∃ rq, rq = rotN n k q := ⟨_, rfl⟩
                rw [← hrpe] at d2 q1 hrp hiff; rw [← hrqe] at d3 q2 hrq hiff
                obtain ⟨cp, hcp⟩ : ∃ cp, cp = cl9 n inn p := ⟨_, rfl⟩
                obtain ⟨cq, hcq⟩ : ∃ cq, cq = cl9 n inn q := ⟨_, rfl⟩
                obtain ⟨dp, hdp⟩ : ∃ dp, dp = cl9 n inm rp := ⟨_, rfl⟩
                obtain ⟨dq, hdq⟩ : ∃ dq, dq = cl9 n inm rq := ⟨_, rfl⟩
                rw [← hcp] at d0 hiff; rw [← hcq] at d1 hiff; rw [← hdp] at d2 hiff; rw [← hdq] at d3 hiff
                simp only [Nat.zero_add] at d0 d1 d2 d3
                have hnz : ¬ (n : Int) = 0 := by omega
                have hnz2 : ¬ n = 0 := by omega
                have hwp : IntKind.i64.wrap ((p : Int) + (k : Int)) = (p : Int) + (k : Int) := IntWalk.i64_in _ (by omega)
                have hwq : IntKind.i64.wrap ((q : Int) + (k : Int)) = (q : Int) + (k : Int) := IntWalk.i64_in _ (by omega)
                have hrpI : (rp : Int) < (n : Int) := by omega
                have hrqI : (rq : Int) < (n : Int) := by omega
                have hqI : (q : Int) < (n : Int) := by omega
                have hqP : (q : Int) < (p : Int) := by omega
                clear hcs hds hln hlm hrpe hrqe hcp hcq hdp hdq
                have HIFF := Lib.hid hiff
                clear hiff hbe
                by_cases hc : cp = cq
                · have hd := HIFF.out.1 hc
                  have e1 : (cp == cq) = true := by simpa using hc
                  have e2 : (dp == dq) = true := by simpa using hd
                  clear hc hd
                  go_upto_region 26 with fail
                  go_quiet (fail)
                  go_wp2_with fail
                  go_roundw
                  case rel => exact ⟨q + 1, by go_num, by omega, bdrew HBF.out⟩
                  case measure => simp [intOf]; omega
                · have hd : ¬ dp = dq := fun e => hc (HIFF.out.2 e)
                  have e1 : (cp == cq) = false := by simpa using hc
                  have e2 : (dp == dq) = false := by simpa using hd
                  clear hc hd
                  go_upto_region 26 with fail
                  go_quiet (fail)
                  go_wp2_with fail
                  go_roundw
                  case rel => exact ⟨q + 1, by go_num, by omega, bdrew HBF.out⟩
                  case measure => simp [intOf]; omega
              · obtain rfl : q = p := by omega
                clear hbe
                go_wp2_with fail
                go_roundw
                case rel => exact ⟨q + 1, by go_num, by omega, HBF.out⟩
                case measure => simp [intOf]; omega
          · have hpe : n = p := by omega
            subst hpe
            go_wp2_with fail
            refine (ALV.out _ (HB5.out.trans (HBE.out.mono HB5.out.size))).mono ?_
            rintro e w6 ⟨rfl, hB⟩
            go_wp2
            go_ret
            exact ⟨rfl, hB⟩
end Go.Proofs.YtfakdgljilmpkaaGreatDoor

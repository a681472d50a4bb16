/-
  law17.SimulStrong.
-/
import Derived.Test.YtfakdgljilmpkaaGreatDoorSimT
import Derived.Test.YtfakdgljilmpkaaGreatDoorG49
import Derived.Test.YtfakdgljilmpkaaGreatDoorG17
namespace Go.Proofs.YtfakdgljilmpkaaGreatDoor
open Go.RowKit Pl

theorem edgS {w : World} {B : Nat} {x y z : Int} (h : w.heap[B]? = some (.cells #[.int .i64 x, .int .i64 y, .int .i64 z] 35 (0, 0))) :
    w.cell? ⟨B, 0, none⟩ = some (.int .i64 x) ∧ w.cell? ⟨B, 1, none⟩ = some (.int .i64 y) ∧ w.cell? ⟨B, 2, none⟩ = some (.int .i64 z) ∧ B < w.heap.size := by
  refine ⟨?_, ?_, ?_, (Array.getElem?_eq_some_iff.1 h).1⟩ <;> simp [World.cell?, h]
theorem oneES (x : E) : ∀ u ∈ encE x, u.oneCell' = true := by intro u hu; simp [encE] at hu; rcases hu with rfl | rfl | rfl <;> rfl

/-- The rows of the law: the edges of the new system, the system. -/
def RE (ta : Option Addr) (m tc : Nat) (es : List E) : Rw := ⟨35, 3, .slice ta m tc, m, es.flatMap encE⟩
def RT (tb : Nat) (x y z : Int) (v : Value) : Rw := ⟨24, 4, .slice (some ⟨tb, 0, none⟩) 1 1, 1, [.int .i64 x, .int .i64 y, .int .i64 z, v]⟩
def RL (tb : Nat) (n : Nat) (lb s0 : Int) (ta : Option Addr) (m tc : Nat) (es : List E) : List Rw := [RE ta m tc es, RT tb ((n : Int) + 1) lb s0 (.slice ta m tc)]
section
variable {w0 w w1 : World} {tb n m tc : Nat} {lb s0 : Int} {ta : Option Addr} {es : List E}
theorem rlCells (h : Rws w0 w (RL tb n lb s0 ta m tc es)) : w.cell? ⟨tb, 0, none⟩ = some (.int .i64 ((n : Int) + 1)) ∧ w.cell? ⟨tb, 1, none⟩ = some (.int .i64 lb) ∧ w.cell? ⟨tb, 2, none⟩ = some (.int .i64 s0) ∧ w.cell? ⟨tb, 3, none⟩ = some (.slice ta m tc) ∧ tb < w.heap.size ∧ w.frozen? ⟨tb, 3, none⟩ = false :=
  ⟨h.cell (i := 1) rfl (j := 0) rfl, h.cell (i := 1) rfl (j := 1) rfl, h.cell (i := 1) rfl (j := 2) rfl, h.cell (i := 1) rfl (j := 3) rfl, (h.lt (i := 1) rfl).2, h.fz (i := 1) rfl 3⟩
theorem rlGrow {w2 : World} (h : Rws w0 w (RL tb n lb s0 ta m tc es)) (hB2 : Below w.heap.size w w2) {x : E} {g c' : Nat} (ho : w1.ownsRow w0.heap.size 35 3 (.slice (some ⟨g, 0, none⟩) (m + 1) c') (m + 1) (es.flatMap encE ++ [.int .i64 x.1, .int .i64 x.2.1, .int .i64 x.2.2]))
    (hg : w2.grownBy w1 (Value.slice ta m tc).ownBlock) (hh : (Value.slice ta m tc).ownBlock = some g ∨ w.heap.size ≤ g) : Rws w0 w1 [RE (some ⟨g, 0, none⟩) (m + 1) c' (es ++ [x]), RT tb ((n : Int) + 1) lb s0 (.slice ta m tc)] := by
  have hs := h.grown hB2 0 rfl ho hg (fun g' hg' => by simp only [Value.ownBlock, Option.some.injEq] at hg'; subst hg'; exact hh)
  have e : (es ++ [x]).flatMap encE = es.flatMap encE ++ [.int .i64 x.1, .int .i64 x.2.1, .int .i64 x.2.2] := by rw [List.flatMap_append]; rfl
  unfold RE
  rw [e]
  exact hs
theorem rlOwn (h : Rws w0 w (RL tb n lb s0 ta m tc es)) : w.ownsRow w0.heap.size 35 3 (.slice ta m tc) m (es.flatMap encE) := h.get (i := 0) rfl
theorem rlSet {v : Value} (h : Rws w0 w [RE ta m tc es, RT tb ((n : Int) + 1) lb s0 v]) : Rws w0 (w.setCell ⟨tb, 3, none⟩ (.slice ta m tc)) (RL tb n lb s0 ta m tc es) :=
  h.set 1 rfl 3 (.slice ta m tc)
theorem appForm {v' sv : Value} (h : Rws w0 w [⟨35, 3, .slice none 0 0, 0, []⟩, RT w0.heap.size ((n : Int) + 1) lb s0 sv]) (ho : w1.ownsRow w.heap.size 35 3 v' (0 + es.length) ([] ++ es.flatMap encE)) (hg : w.grownBy w1 none) :
    ∃ (ta : Option Addr) (tc : Nat), v' = .slice ta es.length tc ∧ Rws w0 w1 [RE ta es.length tc es, RT w0.heap.size ((n : Int) + 1) lb s0 sv] ∧ w1.cell? ⟨w0.heap.size, 3, none⟩ = some sv ∧ w1.frozen? ⟨w0.heap.size, 3, none⟩ = false := by
  rw [Nat.zero_add, List.nil_append] at ho
  obtain ⟨a, c, b, rfl, _⟩ := slAt_own lenE ho
  have hs := h.grown (v' := .slice a es.length c) (n' := es.length) (xs' := es.flatMap encE) (Below.refl _ _) 0 rfl (own_mono ho h.bel.size) hg (fun g hg' => .inr (ho.lt g hg').1)
  exact ⟨a, c, rfl, hs, hs.cell (i := 1) rfl (j := 3) rfl, hs.fz (i := 1) rfl 3⟩
end

set_option maxRecDepth 100000 in
set_option maxHeartbeats 8000000 in
theorem simulStrong_any {w : World} {p0 : Addr} (hG : GErr 0 p0 w) (hT : Tab w) {s : Lts} {a : Option Addr} {b off c : Nat} (hS : SlAt encE 3 w a b off s.es) (x y z : Int) :
    Calls Tryz.prog 11 #[.agg #[.int .i64 s.st, .int .i64 s.lb, .int .i64 s.s0, .slice a s.es.length c], .agg #[.int .i64 x, .int .i64 y, .int .i64 z]] w fun e w' => e = .returned (.bool true) ∧ Below w.heap.size w w' := by
  have hB0 := ((Below.refl w.heap.size w).alloc (Nat.le_refl _) (Obj.cells #[.int .i64 s.st, .int .i64 s.lb, .int .i64 s.s0, .slice a s.es.length c] 24)).alloc (by simp) (Obj.cells #[.int .i64 x, .int .i64 y, .int .i64 z] 35)
  have hbe := heap_alloc_at (w.alloc (Obj.cells #[.int .i64 s.st, .int .i64 s.lb, .int .i64 s.s0, .slice a s.es.length c] 24)) (Obj.cells #[.int .i64 x, .int .i64 y, .int .i64 z] 35) (w.heap.size + 1) (by simp)
  have hbx := ((((Below.refl _ _).alloc (Nat.le_refl _) (Obj.cells #[.int .i64 x, .int .i64 y, .int .i64 z] 35)).block w.heap.size (by simp))).trans (heap_alloc_new w (Obj.cells #[.int .i64 s.st, .int .i64 s.lb, .int .i64 s.s0, .slice a s.es.length c] 24))
  have HG := Lib.hid hG; have HT := Lib.hid hT; have HS := Lib.hid hS; have HB0 := Lib.hid hB0; have HBX := Lib.hid hbx; have HBE := Lib.hid hbe
  have HSM := Lib.hid (small17_any (c := c) (hG.below hB0) (hS.below hB0 (Nat.le_refl _)))
  clear hG hT hS hB0 hbx hbe
  have ALV : RowKit.Hid (∀ w1 : World, Below w.heap.size w w1 → Calls Tryz.prog 35 #[] w1 fun e w' => e = .returned (.bool true) ∧ Below w.heap.size w w') := Lib.hid (by
    intro w1 h1
    refine (alive17_any (HG.out.below h1) (HT.out.below h1)).mono ?_
    rintro e w' ⟨rfl, hB⟩
    exact ⟨rfl, h1.trans (hB.mono h1.size)⟩)
  go_enter Tryz.func11, Tryz.ntmps11
  go_wp2_with fail
  refine HSM.out.mono ?_
  unfold Small17
  rintro e w1 ⟨m, rfl, hm, hB⟩
  have hb1 := HB0.out.trans (hB.mono (by simp; omega))
  have hx1 := (hB.block w.heap.size (by simp; omega)).trans HBX.out
  have hE1 := (hB.block (w.heap.size + 1) (by simp)).trans HBE.out
  have HB1 := Lib.hid hb1; have HM := Lib.hid hm; have HE1 := Lib.hid hE1
  obtain ⟨x0, x1, x2, x3, x4⟩ := sysS hx1
  have HX1 := Lib.hid hx1
  clear hb1 hm hB hx1 hE1 HBX HBE HB0 HSM
  cases m
  · go_wp2_with fail
    refine (ALV.out _ HB1.out).mono ?_
    rintro e w2 ⟨rfl, hB⟩
    go_wp2
    go_ret
    exact ⟨rfl, hB⟩
  obtain ⟨h25, h150, hr⟩ := HM.out.1 rfl
  have h0 := hr.st0
  obtain ⟨st, lb, s0, es⟩ := s
  simp only at h25 h150 h0 x0 x1 x2 x3 HX1 HS
  obtain ⟨n, rfl⟩ := Int.eq_ofNat_of_zero_le h0.1
  have hn3 : n ≤ 25 := by omega
  have HR := Lib.hid hr
  have HAB := Lib.hid (above17_any (c := c) HR.out hn3 (HG.out.below HB1.out) (HT.out.below HB1.out) (HS.out.below HB1.out (Nat.le_refl _)))
  clear h25 h0 hr HM
  go_wp2_with fail
  refine HAB.out.mono ?_
  unfold Ab17
  rintro e w2 ⟨R, v, rfl, hgt, htb, hB⟩
  have hb2 := HB1.out.trans (hB.mono HB1.out.size)
  have hx2 := (hB.block w.heap.size x4).trans HX1.out
  have hE2 := (hB.block (w.heap.size + 1) (edgS HE1.out).2.2.2).trans HE1.out
  clear x0 x1 x2 x3 x4
  have HB2 := Lib.hid hb2; have HGT := Lib.hid hgt; have HTB := Lib.hid htb; have HE2 := Lib.hid hE2
  obtain ⟨x0, x1, x2, x3, x4⟩ := sysS hx2
  have HX2 := Lib.hid hx2
  have HCL := Lib.hid (strClasses_any (c := c) (n := n) HR.out rfl (HG.out.below hb2) (HS.out.below hb2 (Nat.le_refl _)))
  clear hb2 hgt htb hB hx2 hE2 HAB HX1 HB1 HE1
  go_wp2_with fail
  refine HCL.out.mono ?_
  unfold StrClasses
  rintro e w3 ⟨inn, ca, cc, hbig, rfl, hown, hB⟩
  have hb3 := HB2.out.trans (hB.mono HB2.out.size)
  have hx3 := (hB.block w.heap.size x4).trans HX2.out
  have hE3 := (hB.block (w.heap.size + 1) (edgS HE2.out).2.2.2).trans HE2.out
  clear x0 x1 x2 x3 x4
  have hcl : (canon (flN n inn)).length = n := by rw [canon_len, flN_len]
  have hos : SlAt encI 1 w3 ca (blkOf ca) 0 (canon (flN n inn)) := ((Rws.nil (Below.refl w2.heap.size w2)).add hB hown).slO (i := 0) rfl lenI hcl.symm
  obtain ⟨cb, hcb⟩ : ∃ cb, cb = blkOf ca := ⟨_, rfl⟩
  rw [← hcb] at hos
  clear hcb
  have HB3 := Lib.hid hb3; have HX3 := Lib.hid hx3; have HE3 := Lib.hid hE3; have HCS := Lib.hid hos; have HBIG := Lib.hid hbig
  have HTB3 := Lib.hid (HTB.out.below hB)
  have HCLN := Lib.hid hcl
  obtain ⟨x0, x1, x2, x3, x4⟩ := sysS hx3
  clear hb3 hx3 hE3 hB hown hos hbig hcl HCL HX2 HB2 HTB HE2
  obtain ⟨ob, rb, hv, htb⟩ := HTB3.out.ex
  subst hv
  have HTB4 := Lib.hid htb
  clear htb HTB3
  go_wp2_with fail
  clear x0 x1 x2 x3 x4
  go_loopw [9, 10] (fun v9 _ wr => ∃ p : Nat, v9 = .int .i64 p ∧ p ≤ n ∧ Below w3.heap.size w3 wr) (fun v9 _ _ => n - (intOf v9).toNat)
  case atStart => exact ⟨0, rfl, Nat.zero_le _, Below.refl _ _⟩
  case round =>
    obtain ⟨p, rfl, hp, hbe⟩ := hrel
    have HBE := Lib.hid hbe
    have hx := (hbe.block w.heap.size (Array.getElem?_eq_some_iff.1 HX3.out).1).trans HX3.out
    obtain ⟨y0, y1, y2, y3, yl⟩ := sysS hx
    clear hbe hx
    by_cases hpn : p < n
    · have hpI : (p : Int) < (n : Int) := by omega
      clear y1 y2 y3
      go_wp2_with fail
      go_loopw [10] (fun v10 wr => ∃ q : Nat, v10 = .int .i64 q ∧ q ≤ n ∧ Below w3.heap.size w3 wr) (fun v10 _ => n - (intOf v10).toNat)
      case atStart => exact ⟨0, rfl, Nat.zero_le _, HBE.out⟩
      case round =>
        obtain ⟨q, rfl, hq, hbe⟩ := hrel
        have HBF := Lib.hid hbe
        have hx := (hbe.block w.heap.size (Array.getElem?_eq_some_iff.1 HX3.out).1).trans HX3.out
        have y0 : wr.cell? ⟨w.heap.size, 0, none⟩ = some (.int .i64 n) := (sysS hx).1
        have yl := (sysS hx).2.2.2.2
        clear hx HBE
        by_cases hqn : q < n
        · have hqI : (q : Int) < (n : Int) := by omega
          have hcs := HCS.out.below hbe (Nat.le_refl _)
          have hln : 0 < (canon (flN n inn)).length := by rw [HCLN.out]; omega
          obtain rfl := hcs.ad hln
          obtain ⟨cp, hcp⟩ := getElem?_of_lt (xs := canon (flN n inn)) (i := p) (by rw [HCLN.out]; exact hpn)
          obtain ⟨cq, hcq⟩ := getElem?_of_lt (xs := canon (flN n inn)) (i := q) (by rw [HCLN.out]; exact hqn)
          have d0 := hcs.ci hcp; have d1 := hcs.ci hcq
          have dl := hcs.lt hln
          simp only [Nat.zero_add] at d0 d1
          have hob := HTB4.out.1.of_block (hbe.block _ HTB4.out.1.lt)
          have o1 := hob.cell hpn
          have ol := hob.lt
          have hru := (HTB4.out.2 p hpn).of_block (hbe.block _ (HTB4.out.2 p hpn).lt)
          have r1 := hru.cell hqn
          have rl1 := hru.lt
          by_cases hc : cp = cq
          · have hR : R p q = true := big_sim HBIG.out HGT.out HR.out rfl hpn hqn (by
              have e1 : (flN n inn)[p]? = some (inn p : Int) := flN_get inn hpn
              have e2 : (flN n inn)[q]? = some (inn q : Int) := flN_get inn hqn
              exact (canon_eqv e1 e2 hcp hcq).1 hc)
            rw [hR] at r1
            subst hc
            clear hbe hcs hcp hcq hob hru hln hR
            go_upto_region 13 with fail
            go_quiet (fail)
            go_wp2_with fail
            go_roundw
            case rel => exact ⟨q + 1, by go_num, by omega, bdrew HBF.out⟩
            case measure => simp [intOf]; omega
          · have hcd : decide (cp = cq) = false := by simpa using hc
            clear hbe hcs hcp hcq hob hru hln o1 r1
            go_upto_region 13 with fail
            go_quiet (fail)
            go_wp2_with fail
            go_roundw
            case rel => exact ⟨q + 1, by go_num, by omega, bdrew HBF.out⟩
            case measure => simp [intOf]; omega
        · obtain rfl : q = n := by omega
          clear hbe
          go_wp2_with fail
          go_roundw
          case rel => exact ⟨p + 1, by go_num, by omega, HBF.out⟩
          case measure => simp [intOf]; omega
    · have hpe : n = p := by omega
      subst hpe
      have HBE2 := HBE
      have hbz := HB3.out.trans (HBE.out.mono HB3.out.size)
      have hxr := (HBE.out.block w.heap.size (Array.getElem?_eq_some_iff.1 HX3.out).1).trans HX3.out
      have her := (HBE.out.block (w.heap.size + 1) (edgS HE3.out).2.2.2).trans HE3.out
      obtain ⟨wz, hwz⟩ : ∃ wz, wz = wr := ⟨_, rfl⟩
      rw [← hwz] at y0 y1 y2 y3 yl ⊢ hbz hxr her
      clear hwz HBE HBE2 HTB4 HCS HBIG HGT HCLN HX3 HE3 HB3
      have hr0 := ((Rws.nil (Below.refl wz.heap.size wz)).addLit #[.int .i64 ((n : Int) + 1), .int .i64 lb, .int .i64 s0, .slice a es.length c] 24 (k := 4) (n := 1) (by decide) rfl)
      have hr1 := hr0.addNil 35 3
      have hs1 : SlAt encE 3 (wz.alloc (.cells #[.int .i64 ((n : Int) + 1), .int .i64 lb, .int .i64 s0, .slice a es.length c] 24)) a b off es := (HS.out.below hbz (Nat.le_refl _)).below hr1.bel (Nat.le_refl _)
      have hsz := HS.out.below hbz (Nat.le_refl _)
      have HS1 := Lib.hid hs1; have HR1 := Lib.hid hr1; have HSZ := Lib.hid hsz; have HBZ := Lib.hid hbz; have HXR := Lib.hid hxr; have HER := Lib.hid her
      have hcst : wrap64 ((n : Int) + 1) = (n : Int) + 1 := by unfold wrap64; omega
      clear hr0 hr1 hs1 hsz hbz hxr her
      go_wp2_with (at_builtin; go_must (refine wpList_appS rfl _ _ _ rfl rowE (Nat.le_refl _) rfl (World.ownsRow_nil _ _ _ _) lenE oneES HS1.out rfl (by omega) (by unfold maxLen; omega) ?_); intro v' w4 hown4 hg4; go_must (obtain ⟨ta, tc, rfl, hr4, hx4, hf4⟩ := appForm HR1.out hown4 hg4); have HR4 := Lib.hid hr4; have hx5 := sysS ((hr4.bel.block w.heap.size yl).trans HXR.out); obtain ⟨z0, z1, z2, z3, z4⟩ := hx5; clear hown4 hg4 hr4)
      have hr5 := rlSet HR4.out
      have HR5 := Lib.hid hr5
      clear hr5 HR4 HR1 HS1
      have hne : w.heap.size ≠ wz.heap.size := by omega
      obtain ⟨ws, hws⟩ : ∃ ws, ws = w4.setCell ⟨wz.heap.size, 3, none⟩ (.slice ta es.length tc) := ⟨_, rfl⟩
      rw [← hws] at HR5 ⊢
      clear hws hx4 hf4 z0 z1 z2 z3 z4
      go_loopw [13, 86] (fun _ v86 wx => ∃ (k : Nat) (ua : Option Addr) (m uc : Nat), v86 = .int .i64 k ∧ k ≤ es.length ∧ m = es.length + (moreE (es.take k) x n).length ∧ Rws wz wx (RL wz.heap.size n lb s0 ua m uc (es ++ moreE (es.take k) x n))) (fun _ v86 _ => es.length - (intOf v86).toNat)
      case atStart => exact ⟨0, ta, es.length, tc, rfl, Nat.zero_le _, by simp [moreE], by simpa [moreE] using HR5.out⟩
      case round =>
        obtain ⟨k, ua, m, uc, rfl, hk, hm, hrw⟩ := hrel
        have HRW := Lib.hid hrw; have HM := Lib.hid hm
        have hx := sysS ((hrw.bel.block w.heap.size yl).trans HXR.out)
        obtain ⟨z0, z1, z2, z3, z4⟩ := hx
        have hy := edgS ((hrw.bel.block (w.heap.size + 1) (edgS HER.out).2.2.2).trans HER.out)
        obtain ⟨q0, q1, q2, q4⟩ := hy
        obtain ⟨t0, t1, t2, t3, t4, tf⟩ := rlCells hrw
        have hml : m ≤ 300 := by have := moreE_len (es.take k) x n; rw [List.length_take] at this; omega
        have hwl := hrw.bel.size
        clear hm
        by_cases hkl : k < es.length
        · obtain ⟨ed, hed⟩ := getElem?_of_lt hkl
          have hss := HSZ.out.below hrw.bel (Nat.le_refl _)
          obtain rfl := hss.ad (by omega)
          have d0 := hss.e0 hed; have d1 := hss.e1 hed; have d2 := hss.e2 hed
          have dl := hss.lt (by omega)
          have hkI : (k : Int) < (es.length : Int) := by omega
          have HSN := Lib.hid (moreE_snoc hed x n)
          clear hrw hss hed
          by_cases hyx : ed.1 = x
          · have HYX := Lib.hid hyx
            have HOWN := Lib.hid (rlOwn ((HRW.out.alloc (.cells #[.int .i64 x, .int .i64 ed.2.1, .int .i64 ed.2.2] 35)).alloc (.cells #[.int .i64 (n : Int), .int .i64 ed.2.1, .int .i64 ed.2.2] 35)))
            have HBW := Lib.hid (((Below.refl wr.heap.size wr).alloc (Nat.le_refl _) (.cells #[.int .i64 x, .int .i64 ed.2.1, .int .i64 ed.2.2] 35)).alloc (by simp) (.cells #[.int .i64 (n : Int), .int .i64 ed.2.1, .int .i64 ed.2.2] 35))
            go_wp2_with (at_builtin; go_must (refine wpList_lie rfl _ _ _ rfl rowE (base := wz.heap.size) (by simp; omega) rfl HOWN.out ⟨wr.heap.size + 1, 0, none⟩ 1 1 [.int .i64 (n : Int), .int .i64 ed.2.1, .int .i64 ed.2.2] rfl rfl (cells3 (by simp [go_sem]) (by simp [go_sem]) (by simp [go_sem])) (by simp [Value.oneCell']) (by decide) (by omega) (by unfold maxLen; omega) wr.heap.size (by simp; omega) ?_); intro g cap w7 hown7 hg7 hl7 hlt7; have hgr := rlGrow (x := ((n : Int), ed.2.1, ed.2.2)) HRW.out HBW.out hown7 hg7 hl7; have g3 := hgr.cell (i := 1) rfl (j := 3) rfl; have gf := hgr.fz (i := 1) rfl 3; have HGR := Lib.hid hgr; clear hown7 hg7 hl7 hgr)
            go_roundw
            case rel => exact ⟨k + 1, some ⟨g, 0, none⟩, m + 1, cap, by go_num, by omega, by rw [HSN.out, if_pos HYX.out, List.length_append, HM.out]; rfl, by rw [HSN.out, if_pos HYX.out, ← List.append_assoc]; exact rlSet HGR.out⟩
            case measure => simp [intOf]; omega
          · have HYX := Lib.hid hyx
            go_wp2_with fail
            go_roundw
            case rel => exact ⟨k + 1, ua, m, uc, by go_num, by omega, by rw [HSN.out, if_neg HYX.out, List.append_nil, HM.out], by rw [HSN.out, if_neg HYX.out, List.append_nil]; exact HRW.out.alloc _⟩
            case measure => simp [intOf]; omega
        · have hke : k = es.length := by omega
          have HOWN := Lib.hid (rlOwn (HRW.out.alloc (.cells #[.int .i64 (n : Int), .int .i64 y, .int .i64 z] 35)))
          have HBW := Lib.hid ((Below.refl wr.heap.size wr).alloc (Nat.le_refl _) (.cells #[.int .i64 (n : Int), .int .i64 y, .int .i64 z] 35))
          have HKE : RowKit.Hid (es.take k = es) := Lib.hid (by rw [hke, List.take_length])
          have hkI : ¬ (k : Int) < (es.length : Int) := by omega
          clear hke hrw
          go_upto_region 25 with (at_builtin; go_must (refine wpList_lie rfl _ _ _ rfl rowE (base := wz.heap.size) (by simp; omega) rfl HOWN.out ⟨wr.heap.size, 0, none⟩ 1 1 [.int .i64 (n : Int), .int .i64 y, .int .i64 z] rfl rfl (cells3 (by simp [go_sem]) (by simp [go_sem]) (by simp [go_sem])) (by simp [Value.oneCell']) (by decide) (by omega) (by unfold maxLen; omega) wr.heap.size (by simp) ?_); intro g cap w7 hown7 hg7 hl7 hlt7; have hgr := rlGrow (x := ((n : Int), y, z)) HRW.out HBW.out hown7 hg7 hl7; have g3 := hgr.cell (i := 1) rfl (j := 3) rfl; have gf := hgr.fz (i := 1) rfl 3; have HGR := Lib.hid (rlSet hgr); have gc := rlCells (rlSet hgr); obtain ⟨v0, v1, v2, v3, v4, vf⟩ := gc; clear hown7 hg7 hl7 hgr)
          clear g3 gf
          obtain ⟨W5, hW5⟩ : ∃ W5, W5 = w7.setCell ⟨wz.heap.size, 3, none⟩ (.slice (some ⟨g, 0, none⟩) (m + 1) cap) := ⟨_, rfl⟩
          rw [← hW5] at HGR v0 v1 v2 v3 v4 vf ⊢
          clear hW5 vf HOWN HBW HRW
          have hlen5 : m + 1 = (es ++ moreE (es.take k) x n ++ [((n : Int), y, z)]).length := by rw [List.length_append, List.length_append, HM.out]; rfl
          have hs5 : SlAt encE 3 W5 (some ⟨g, 0, none⟩) g 0 (es ++ moreE (es.take k) x n ++ [((n : Int), y, z)]) := HGR.out.slO (i := 0) rfl lenE hlen5
          have hb5 := HBZ.out.trans (HGR.out.bel.mono HBZ.out.size)
          have hu := sysS ((HGR.out.bel.block w.heap.size yl).trans HXR.out)
          have hv := edgS ((HGR.out.bel.block (w.heap.size + 1) (edgS HER.out).2.2.2).trans HER.out)
          have HX5 := Lib.hid ((HGR.out.bel.block w.heap.size yl).trans HXR.out)
          have HE5 := Lib.hid ((HGR.out.bel.block (w.heap.size + 1) (edgS HER.out).2.2.2).trans HER.out)
          have HT5 := Lib.hid (HGR.out.lt (i := 1) rfl)
          obtain ⟨u0, u1, u2, u3, u4⟩ := hu
          obtain ⟨r0, r1, r2, r3⟩ := hv
          rw [HKE.out] at hlen5 hs5
          obtain ⟨T, hT⟩ : ∃ T, T = moreS ⟨n, lb, s0, es⟩ n (x, y, z) := ⟨_, rfl⟩
          have e1 : T.st = (n : Int) + 1 := by rw [hT]; unfold moreS; simp
          have e2 : T.lb = lb := by rw [hT]; rfl
          have e3 : T.s0 = s0 := by rw [hT]; rfl
          have e4 : T.es = es ++ moreE es x n ++ [((n : Int), y, z)] := by rw [hT]; rfl
          rw [← e4] at hlen5 hs5
          have HTT := Lib.hid hT; have HS5 := Lib.hid hs5; have HB5 := Lib.hid hb5; have HRL := Lib.hid (HGR.out)
          have HL5 := Lib.hid hlen5
          by_cases ht : T.Right
          · have hchk := check_ok ht (some ⟨g, 0, none⟩) g 0 cap W5 (HG.out.below hb5) hs5
            rw [e1, e2, e3, ← hlen5] at hchk
            have HCHK := Lib.hid hchk; have HTR := Lib.hid ht
            clear hs5 hb5 hT e1 e2 e3 e4 hlen5 ht hchk HGR HSZ HXR HER hml hwl hk
            go_wp2_with fail
            refine HCHK.out.mono ?_
            rintro e w8 ⟨rfl, hB8⟩
            have hz5 := HT5.out.2
            have HB8 := Lib.hid (HB5.out.trans (hB8.mono HB5.out.size))
            have hu := sysS ((hB8.block w.heap.size u4).trans HX5.out)
            have hv := edgS ((hB8.block (w.heap.size + 1) r3).trans HE5.out)
            obtain ⟨t0, t1, t2, t3, t4, _⟩ := rlCells (HRL.out.call hB8)
            have HS8 := Lib.hid (HS5.out.below hB8 (Nat.le_refl _))
            clear u0 u1 u2 u3 u4 r0 r1 r2 r3 v0 v1 v2 v3 v4 hB8 HCHK
            obtain ⟨u0, u1, u2, u3, u4⟩ := hu
            obtain ⟨r0, r1, r2, r3⟩ := hv
            by_cases hx1 : x < 0
            · go_wp2_with fail
              refine (ALV.out _ HB8.out).mono ?_
              rintro e w9 ⟨rfl, hB⟩
              go_wp2
              go_ret
              exact ⟨rfl, hB⟩
            · by_cases hx2 : (n : Int) ≤ x
              · go_wp2_with fail
                refine (ALV.out _ HB8.out).mono ?_
                rintro e w9 ⟨rfl, hB⟩
                go_wp2
                go_ret
                exact ⟨rfl, hB⟩
              · obtain ⟨f, hf⟩ := Int.eq_ofNat_of_zero_le (show 0 ≤ x by omega)
                subst hf
                have hbl := below_any (p0 := p0) (n := n + 1) (lb := lb) (s0 := s0) (es := T.es) (c := cap) (by have h := HTR.out; rw [HTT.out] at h ⊢; exact h) (by omega) (HG.out.below HB8.out) (HT.out.below HB8.out) HS8.out (p := f) (q := n) (by omega) (by omega)
                rw [← HL5.out, show ((n + 1 : Nat) : Int) = (n : Int) + 1 by omega] at hbl
                have hms : ∀ R', Great ⟨(n : Int) + 1, lb, s0, nf ltE T.es⟩ (n + 1) R' → R' f n = true := fun R' h => more_sim HR.out rfl (e := ((f : Int), y, z)) rfl (by omega) (by have h := HTR.out; rw [HTT.out] at h; exact h) (by rw [HTT.out] at h; exact h)
                have HBL := Lib.hid hbl; have HMS := Lib.hid hms
                clear hbl hms
                go_wp2_with fail
                refine HBL.out.mono ?_
                rintro e w9 ⟨R', rfl, hg', hB9⟩
                have hre := HMS.out R' hg'
                rw [hre]
                have HB9 := Lib.hid (HB8.out.trans (hB9.mono HB8.out.size))
                clear hB9 hg' HBL hre
                go_wp2_with fail
                refine (ALV.out _ HB9.out).mono ?_
                rintro e w10 ⟨rfl, hB⟩
                go_wp2
                go_ret
                exact ⟨rfl, hB⟩
          · have hchk := check_no ht (some ⟨g, 0, none⟩) g 0 cap W5 (HG.out.below hb5) hs5
            rw [e1, e2, e3, ← hlen5] at hchk
            have HCHK := Lib.hid hchk
            clear hs5 hb5 hT e1 e2 e3 e4 hlen5 ht hchk HGR HSZ HXR HER hml hwl hk
            go_wp2_with fail
            refine HCHK.out.mono ?_
            rintro e w8 ⟨vf, rfl, hfl, hB8⟩
            obtain ⟨fb, rfl, _⟩ := hfl.ex
            have HB8 := Lib.hid (HB5.out.trans (hB8.mono HB5.out.size))
            clear hB8 hfl HCHK
            go_wp2_with fail
            refine (ALV.out _ HB8.out).mono ?_
            rintro e w9 ⟨rfl, hB⟩
            go_wp2
            go_ret
            exact ⟨rfl, hB⟩
end Go.Proofs.YtfakdgljilmpkaaGreatDoor

/-
  semblanceref9.Next: the next round's classes.
  semblanceref13.Silent: of each state whom silent steps lead to, as rows of bools.
  Plain: the weak steps of a state, as chapter 13's reference lists them.
  Plain: chapter 13's reference rounds are the rounds of weak bisimilarity.
  Rows of bools by labels, some of them not there yet (semblanceref13.Steps).
-/
import Derived.Test.YtdhloijdefnkpaaGreatDoorGRefReach
import Derived.Test.YtdhloijdefnkpaaGreatDoorGRefRight
import Derived.Test.YtdhloijdefnkpaaGreatDoorGWkC
import Derived.Test.YtdhloijdefnkpaaGreatDoorGCanon
import Derived.Deep.RegionHeldLaw
import Derived.Test.YtdhloijdefnkpaaGreatDoorRefOut
import Derived.Test.YtdhloijdefnkpaaGreatDoorGBrQ
import Derived.Test.YtdhloijdefnkpaaGreatDoorGWkA
namespace Go.Proofs.YtdhloijdefnkpaaGreatDoor
open Go.RowKit Pl

/-- What tells the states of the next round apart. -/
def nkey (C : List Int) (f : Nat → List S) (p : Nat) : Int × List Int := (C.getD p 0, nf ltI ((f p).map (sgv C)))
def RAs (ab n : Nat) (g : Nat → Value) : Rw := ⟨3, 1, .slice (some ⟨ab, 0, none⟩) n n, n, (List.range n).map g⟩
theorem FR.rest {ob m j : Nat} {vs : Nat → Value} {f : Nat → List Int} {rest : List Rw} : (FR ob m vs f ++ rest)[m + 1 + j]? = rest[j]? := by
  have hl : (FR ob m vs f).length = m + 1 := by unfold FR; simp
  rw [List.getElem?_append_right (by omega), hl, show m + 1 + j - (m + 1) = j by omega]
theorem FR.setRest {ob m j : Nat} {vs : Nat → Value} {f : Nat → List Int} {rest : List Rw} {r : Rw} : (FR ob m vs f ++ rest).set (m + 1 + j) r = FR ob m vs f ++ rest.set j r := by
  have hl : (FR ob m vs f).length = m + 1 := by unfold FR; simp
  rw [List.set_append_right _ _ (by omega), hl, show m + 1 + j - (m + 1) = j by omega]
theorem rasMade {w0 w : World} {L : List Rw} (h : Rws w0 w L) {n : Nat} (hn : n ≤ 1000) : Rws w0 (w.alloc (.cells (madeCells #[.int .i64 0] n) 3)) (RAs w.heap.size n (fun _ => .int .i64 0) :: L) := by
  have h2 := h.addLit (madeCells #[.int .i64 0] n) 3 (k := 1) (n := n) (by unfold maxLen; omega) (by simp [size_madeCells])
  have e : (madeCells #[.int .i64 0] n).toList = (List.range n).map (fun _ => (.int .i64 0 : Value)) := by
    rw [toList_madeCells_one]
    apply List.ext_getElem?
    intro i
    by_cases hi : i < n <;> simp [hi]
  rw [e] at h2
  exact h2
theorem grown_none {w w' : World} (hB : Below w.heap.size w w') : w.grownBy w' none := ⟨hB.os, hB.tape, hB.output, hB.size, fun i hi _ => hB.block i hi⟩
/-- The rows of Next. -/
def NXR (sb n : Nat) (vs : Nat → Value) (fq : Nat → List Int) (v : Value) (m : Nat) (D : List Int) (ab : Nat) (g : Nat → Value) : List Rw := FR sb n vs fq ++ [RIg v m D, RAs ab n g]

set_option maxRecDepth 100000 in
set_option maxHeartbeats 8000000 in
theorem refNext_any {w : World} {f : Nat → List S} {C : List Int} {n : Nat} (hcl : C.length = n) (hn1 : n ≤ 1000) {ob c : Nat} (hF : StepsIn w ob n f) (hfo : ∀ p, p < n → (f p).length ≤ 20000 ∧ ∀ x ∈ f p, 0 ≤ x.1 ∧ x.1 ≤ 201 ∧ 0 ≤ x.2 ∧ x.2 < (n : Int))
    {ca : Option Addr} {cb co cc : Nat} (hC : SlAt encI 1 w ca cb co C) (hcr : ∀ x ∈ C, 0 ≤ x ∧ x ≤ 1000) :
    Calls Tryz.prog 40 #[.slice (some ⟨ob, 0, none⟩) n c, .slice ca n cc] w fun e w' => ∃ nb, e = .returned (.slice (some ⟨nb, 0, none⟩) n n) ∧ SlAt encI 1 w' (some ⟨nb, 0, none⟩) nb 0 (fl n (clf n (fun i => (rep (nkey C f) i : Int)))) ∧ w.heap.size ≤ nb ∧ Below w.heap.size w w' := by
  have hmk := run_make_row' (P := Tryz.prog) 33 3 (.int .i64 0) 8 Tryz.underlying33 (by kernel_rfl) rfl .i64 .i64 n (by omega) (by omega)
  have hmk2 := run_make_row' (P := Tryz.prog) 26 33 (.slice none 0 0) 24 Tryz.underlying26 (by kernel_rfl) rfl .i64 .i64 n (by omega) (by omega)
  have HCL := Lib.hid hcl; have HF := Lib.hid hF; have HFO := Lib.hid hfo; have HC := Lib.hid hC; have HCR := Lib.hid hcr
  clear hcl hF hfo hC hcr
  go_enter Tryz.func40, Tryz.ntmps40
  go_wp2_with fail
  obtain ⟨w2, hw2⟩ : ∃ w2, w2 = (w.alloc (.cells (madeCells #[.int .i64 0] n) 3)).alloc (.cells (madeCells #[.slice none 0 0] n) 33) := ⟨_, rfl⟩
  have hr2 : Rws w w2 (NXR (w.heap.size + 1) n (fun _ => .slice none 0 0) (fun _ => []) (.slice none 0 0) 0 [] w.heap.size (rowAtK (repL (nkey C f) n) 0)) := by
    have h1 := (((rasMade (Rws.nil (Below.refl w.heap.size w)) hn1).addNil 3 1).frMade (m := n) (by unfold maxLen; omega))
    rw [show (w.alloc (.cells (madeCells #[.int .i64 0] n) 3)).heap.size = w.heap.size + 1 by simp, ← hw2] at h1
    have e : RAs w.heap.size n (rowAtK (repL (nkey C f) n) 0) = RAs w.heap.size n (fun _ => .int .i64 0) := by
      unfold RAs
      congr 1
    unfold NXR
    rw [e]
    exact h1
  rw [← hw2]
  obtain ⟨ab, hab⟩ : ∃ ab, ab = w.heap.size := ⟨_, rfl⟩
  rw [← hab] at hr2 ⊢
  obtain ⟨sb, hsb⟩ : ∃ sb, sb = ab + 1 := ⟨_, rfl⟩
  rw [← hsb] at hr2 ⊢
  have HR2 := Lib.hid hr2; have HAB := Lib.hid hab; have HSBB := Lib.hid hsb
  clear hw2 hr2 hab hmk hmk2 hsb
  go_loopw [5, 8, 9] (fun v5 v8 _ wr => ∃ (i m : Nat) (oa : Option Addr) (oc : Nat) (vs : Nat → Value), v8 = .int .i64 i ∧ i ≤ n ∧ v5 = .slice oa m oc ∧ m = (dist (repL (nkey C f) i)).length ∧ (∀ p, i ≤ p → vs p = .slice none 0 0) ∧ Rws w wr (NXR sb n vs (fun p => if p < i then (nkey C f p).2 else []) (.slice oa m oc) m (dist (repL (nkey C f) i)) ab (rowAtK (repL (nkey C f) n) i))) (fun _ v8 _ _ => n - (intOf v8).toNat)
  case atStart => exact ⟨0, 0, none, 0, _, rfl, Nat.zero_le _, rfl, rfl, fun p _ => rfl, by simpa [repL, fl, dist] using HR2.out⟩
  case round =>
    obtain ⟨i, m, oa, oc, vs, rfl, hi, rfl, hm, hvn, hR⟩ := hrel
    have HM := Lib.hid hm; have HVN := Lib.hid hvn; have HR := Lib.hid hR
    clear hm hvn hR HR2
    by_cases hin : i < n
    · have hiI : (i : Int) < (n : Int) := by omega
      obtain ⟨ra, rc, rb, ro, hr0, hrs⟩ := (HF.out.below HR.out.bel).at_ i hin
      have hol := (HF.out.below HR.out.bel).lt
      have hcs := HC.out.below HR.out.bel (Nat.le_refl _)
      have hsg := refSig_any (c := rc) (cc := cc) hrs hcs (HFO.out i hin).1 (by have := HCL.out; omega) (by have := HCL.out; rw [this]; exact (HFO.out i hin).2) HCR.out
      rw [HCL.out] at hsg
      obtain ⟨fl1, hfl1⟩ : ∃ fl1, fl1 = (f i).length := ⟨_, rfl⟩
      rw [← hfl1] at hr0 hsg
      have HSG := Lib.hid hsg
      clear hrs hcs hsg hfl1
      go_wp2_with fail
      refine HSG.out.mono ?_
      rintro e w5 ⟨v, rfl, hown, hB5⟩
      obtain ⟨va, vc, vb, rfl, _, _, _, _⟩ := slAt_own lenI hown
      obtain ⟨sl, hsl⟩ : ∃ sl, sl = (nf ltI ((f i).map (sgv C))).length := ⟨_, rfl⟩
      have HSL := Lib.hid hsl
      rw [← hsl] at hown ⊢
      obtain ⟨v, hv⟩ : ∃ v : Value, v = .slice va sl vc := ⟨_, rfl⟩
      rw [← hv] at hown
      have HV := Lib.hid hv
      clear hsl hv
      have hgr := HR.out.frGrow (Below.refl _ _) hin (v' := v) (ys := (nkey C f i).2) (own_mono (by have h := hown; rw [HSL.out] at h; exact h) HR.out.bel.size) (by rw [HVN.out i (Nat.le_refl _)]; exact grown_none hB5) (fun g hg => .inr (hown.lt g hg).1)
      obtain ⟨s0, s1, s2, hr5⟩ := hgr
      have hvn2 : ∀ p, i + 1 ≤ p → upd vs i v p = .slice none 0 0 := fun p hp => by unfold upd; rw [if_neg (by omega)]; exact HVN.out p (by omega)
      have hfe : upd (fun p => if p < i then (nkey C f p).2 else []) i (nkey C f i).2 = fun p => if p < i + 1 then (nkey C f p).2 else [] := by
        funext p
        unfold upd
        by_cases e : p = i
        · subst e; rw [if_pos rfl, if_pos (by omega)]
        · rw [if_neg e]
          dsimp only
          by_cases e2 : p < i
          · rw [if_pos e2, if_pos (by omega)]
          · rw [if_neg e2, if_neg (by omega)]
      rw [hfe] at hr5
      rw [HV.out] at hr5
      rw [HV.out] at hvn2
      obtain ⟨vs2, hvs2⟩ : ∃ vs2, vs2 = upd vs i (.slice va sl vc) := ⟨_, rfl⟩
      rw [← hvs2] at hr5 hvn2
      have HR5 := Lib.hid hr5; have HVN2 := Lib.hid hvn2
      clear hr5 hvn2 hfe hvs2 hown hB5 HR HVN HSG hr0 hol
      go_wp2_with fail
      clear s0 s1 s2
      go_loopw [9] (fun v9 wk => ∃ k : Nat, v9 = .int .i64 k ∧ k ≤ m ∧ (∀ j q : Nat, j < k → (dist (repL (nkey C f) i))[j]? = some (q : Int) → nkey C f q ≠ nkey C f i) ∧ Rws w wk (NXR sb n vs2 (fun p => if p < i + 1 then (nkey C f p).2 else []) (.slice oa m oc) m (dist (repL (nkey C f) i)) ab (rowAtK (repL (nkey C f) n) i))) (fun v9 _ => m - (intOf v9).toNat)
      case atStart => exact ⟨0, rfl, Nat.zero_le _, fun j q h => by omega, HR5.out⟩
      case round =>
        obtain ⟨k, rfl, hk, hno, hR⟩ := hrel
        have HNO := Lib.hid hno; have HR := Lib.hid hR
        clear hno hR HR5
        have hml := HM.out
        have hmi : m ≤ i := by rw [hml]; have := dist_len (repL (nkey C f) i); unfold repL at this ⊢; rw [fl_len] at this; exact this
        by_cases hkm : k < m
        · have hkI : (k : Int) < (m : Int) := by omega
          obtain ⟨x, hx⟩ := getElem?_of_lt (xs := dist (repL (nkey C f) i)) (i := k) (by omega)
          obtain ⟨q, hqi, rfl, hqr⟩ := mem_rep.1 (List.mem_of_getElem? hx)
          have hqn : q < n := by omega
          obtain ⟨fg, fc, hv, _, _, _, hfl⟩ := HR.out.form (i := n + 1 + 0) (by unfold NXR; rw [FR.rest]; rfl) (by omega)
          simp only [Value.slice.injEq] at hv
          obtain ⟨rfl, _, rfl⟩ := hv
          have f0 := HR.out.cell (i := n + 1 + 0) (by unfold NXR; rw [FR.rest]; rfl) (flatI_get hx)
          have hcs := HC.out.below HR.out.bel (Nat.le_refl _)
          have hcl2 := HCL.out
          obtain ⟨y1, hy1⟩ := getElem?_of_lt (xs := C) (i := q) (by omega)
          obtain ⟨y2, hy2⟩ := getElem?_of_lt (xs := C) (i := i) (by omega)
          obtain rfl := hcs.ad (by omega)
          have c1 := hcs.ci hy1; have c2 := hcs.ci hy2; have cl := hcs.lt (by omega)
          have hk1 : (nkey C f q).1 = y1 := by unfold nkey; rw [List.getD_eq_getElem?_getD, hy1]; rfl
          have hk2 : (nkey C f i).1 = y2 := by unfold nkey; rw [List.getD_eq_getElem?_getD, hy2]; rfl
          obtain ⟨s1, _, s3, _⟩ := HR.out.frCell hqn
          obtain ⟨s2, _, _, _⟩ := HR.out.frCell hin
          have o1 := HR.out.frOwn hqn; have o2 := HR.out.frOwn hin
          rw [if_pos (by omega)] at o1 o2
          obtain ⟨qa, qc, qb, hvq, _, _, hsq, _⟩ := slAt_own lenI o1
          obtain ⟨ia, ic, ib, hvi, _, _, hsi, _⟩ := slAt_own lenI o2
          rw [hvq] at s1; rw [hvi] at s2
          have hsl1 : (nkey C f q).2.length ≤ 20000 := by unfold nkey; refine Nat.le_trans (length_nf (lt := ltI) _) ?_; rw [List.length_map]; exact (HFO.out q hqn).1
          have hsl2 : (nkey C f i).2.length ≤ 20000 := by unfold nkey; refine Nat.le_trans (length_nf (lt := ltI) _) ?_; rw [List.length_map]; exact (HFO.out i hin).1
          have hsame : ∀ u, Calls Tryz.prog 76 #[.slice qa (nkey C f q).2.length qc, .slice ia (nkey C f i).2.length ic] (wr.drewN u) fun e w' => e = .returned (.bool (decide ((nkey C f q).2 = (nkey C f i).2))) ∧ ∃ m, w' = (wr.drewN u).drewN m := fun u =>
            refSame7_any (hsq.below (bdrew (Below.refl _ _)) (Nat.le_refl _)) (hsi.below (bdrew (Below.refl _ _)) (Nat.le_refl _)) (by omega) (by omega)
          have HSM := Lib.hid hsame
          obtain ⟨q1, hq1⟩ : ∃ q1, q1 = (nkey C f q).2.length := ⟨_, rfl⟩
          obtain ⟨q2, hq2⟩ : ∃ q2, q2 = (nkey C f i).2.length := ⟨_, rfl⟩
          rw [← hq1, ← hq2] at HSM
          rw [← hq1] at s1; rw [← hq2] at s2
          have hqI : (q : Int) < (n : Int) := by omega
          have HX := Lib.hid hx; have HK1 := Lib.hid hk1; have HK2 := Lib.hid hk2
          clear hx hqr hcs hcl2 hy1 hy2 hk1 hk2 o1 o2 hvq hvi hsq hsi hsl1 hsl2 hsame hq1 hq2 hml
          by_cases hyy : y1 = y2
          · have hb : (y1 != y2) = false := by simp [hyy]
            have HYY := Lib.hid hyy
            clear hyy
            by_cases hse : (nkey C f q).2 = (nkey C f i).2
            · have hkey : nkey C f q = nkey C f i := Prod.ext (by rw [HK1.out, HK2.out, HYY.out]) hse
              obtain ⟨hfm, hfi⟩ := rep_found HX.out hkey
              have HFM := Lib.hid hfm; have HFI := Lib.hid hfi
              have HSE := Lib.hid (decide_eq_true hse)
              have a0 := HR.out.cell (i := n + 1 + 1) (by unfold NXR; rw [FR.rest]; rfl) (j := i) (u := rowAtK (repL (nkey C f) n) i i) (by rw [List.getElem?_map, List.getElem?_range hin]; rfl)
              have a1 := HR.out.fz (i := n + 1 + 1) (by unfold NXR; rw [FR.rest]; rfl) i
              have al := (HR.out.lt (i := n + 1 + 1) (by unfold NXR; rw [FR.rest]; rfl)).2
              have hd : dist (repL (nkey C f) (i + 1)) = dist (repL (nkey C f) i) := by
                rw [← repL_take (show i + 1 ≤ n by omega), take_snoc (repL_get hin), repL_take (by omega), dist_snoc]; unfold addN; rw [if_pos hfm]
              have HST : RowKit.Hid (∀ u, Rws w ((wr.drewN u).setCell ⟨ab, i, none⟩ (.int .i64 (k : Int))) (NXR sb n vs2 (fun p => if p < i + 1 then (nkey C f p).2 else []) (.slice (some ⟨fg, 0, none⟩) m oc) m (dist (repL (nkey C f) (i + 1))) ab (rowAtK (repL (nkey C f) n) (i + 1)))) := Lib.hid (fun u => by
                have hst := (HR.out.drewN u).set (n + 1 + 1) (by unfold NXR; rw [FR.rest]; rfl) i (.int .i64 (k : Int))
                unfold NXR at hst
                rw [FR.setRest] at hst
                have e : ((List.range n).map (rowAtK (repL (nkey C f) n) i)).set i (.int .i64 (k : Int)) = (List.range n).map (rowAtK (repL (nkey C f) n) (i + 1)) := by
                  rw [range_map_set]
                  apply List.map_congr_left
                  intro p _
                  have h := rowAtK_step (repL_get (key := nkey C f) hin) p
                  rw [repL_take (by omega), hd, hfi] at h
                  exact h
                rw [hd]
                unfold NXR RAs
                rw [← e]
                exact hst)
              have HMD : RowKit.Hid (m = (dist (repL (nkey C f) (i + 1))).length) := Lib.hid (by rw [hd]; exact HM.out)
              have hkm2 : ¬ k = m := by omega
              clear hse hkey hfm hfi hd
              go_wp2_with fail
              go_region_held3 (fun w' => w'.cell? ⟨fg, k, none⟩ = some (.int .i64 (q : Int)) ∧ w'.cell? ⟨cb, co + q, none⟩ = some (.int .i64 y1) ∧ w'.cell? ⟨cb, co + i, none⟩ = some (.int .i64 y2) ∧ w'.cell? ⟨sb, q, none⟩ = some (.slice qa q1 qc) ∧ w'.cell? ⟨sb, i, none⟩ = some (.slice ia q2 ic))
                (first | exact ⟨f0, c1, c2, s1, s2⟩ | assumption)
                ((go_at_call 76; refine (HSM.out _).mono ?_; rintro e w7 ⟨rfl, mm, rfl⟩; rw [HSE.out]))
              go_wp2_with fail
              go_roundw
              case rel => exact ⟨i + 1, m, _, _, vs2, by go_num, by omega, rfl, HMD.out, HVN2.out, HST.out _⟩
              case measure => simp [intOf]; omega
            · have HSE := Lib.hid (decide_eq_false hse)
              have HNK : RowKit.Hid (nkey C f q ≠ nkey C f i) := Lib.hid (fun e => hse (by rw [e]))
              clear hse
              go_wp2_with fail
              go_region_held3 (fun w' => w'.cell? ⟨fg, k, none⟩ = some (.int .i64 (q : Int)) ∧ w'.cell? ⟨cb, co + q, none⟩ = some (.int .i64 y1) ∧ w'.cell? ⟨cb, co + i, none⟩ = some (.int .i64 y2) ∧ w'.cell? ⟨sb, q, none⟩ = some (.slice qa q1 qc) ∧ w'.cell? ⟨sb, i, none⟩ = some (.slice ia q2 ic))
                (first | exact ⟨f0, c1, c2, s1, s2⟩ | assumption)
                ((go_at_call 76; refine (HSM.out _).mono ?_; rintro e w7 ⟨rfl, mm, rfl⟩; rw [HSE.out]))
              go_wp2_with fail
              go_roundw
              case rel => exact ⟨k + 1, by go_num, by omega, fun j q' hj hq' => by
                rcases Nat.eq_or_lt_of_le (show j ≤ k by omega) with e | e
                · subst e; rw [HX.out] at hq'; have := Option.some.inj hq'; obtain rfl : q = q' := by omega
                  exact HNK.out
                · exact HNO.out j q' e hq', HR.out.drewN _⟩
              case measure => simp [intOf]; omega
          · have hb : (y1 != y2) = true := by simp [hyy]
            have HNK : RowKit.Hid (nkey C f q ≠ nkey C f i) := Lib.hid (fun e => hyy (by rw [← HK1.out, ← HK2.out, e]))
            clear hyy
            go_wp2_with fail
            go_quiet (fail)
            go_wp2_with fail
            go_roundw
            case rel => exact ⟨k + 1, by go_num, by omega, fun j q' hj hq' => by
              rcases Nat.eq_or_lt_of_le (show j ≤ k by omega) with e | e
              · subst e; rw [HX.out] at hq'; have := Option.some.inj hq'; obtain rfl : q = q' := by omega
                exact HNK.out
              · exact HNO.out j q' e hq', HR.out.drewN _⟩
            case measure => simp [intOf]; omega
        · obtain rfl : m = k := by omega
          obtain ⟨hri, hrn⟩ := rep_new (key := nkey C f) (i := i) (fun j q hq => HNO.out j q (by have := (List.getElem?_eq_some_iff.1 hq).1; omega) hq)
          have hd : dist (repL (nkey C f) (i + 1)) = dist (repL (nkey C f) i) ++ [(i : Int)] := by
            rw [← repL_take (show i + 1 ≤ n by omega), take_snoc (repL_get hin), repL_take (by omega), dist_snoc]; unfold addN; rw [if_neg hrn, hri]
          have hix : (dist (repL (nkey C f) (i + 1))).idxOf (i : Int) = m := by
            rw [hd, List.idxOf_append]
            rw [hri] at hrn
            simp [hrn, HM.out]
          have HD := Lib.hid hd; have HIX := Lib.hid hix; have HRI := Lib.hid hri
          have HMD : RowKit.Hid (m + 1 = (dist (repL (nkey C f) (i + 1))).length) := Lib.hid (by rw [hd, List.length_append, HM.out]; rfl)
          have hws := HR.out.bel.size
          have hmi2 : m ≤ 1000 := by omega
          clear hri hrn hd hix hml
          go_wp2_with fail
          go_quiet (fail)
          have HRN := Lib.hid (HR.out.drewN nq)
          obtain ⟨lw, hlw⟩ : ∃ lw, lw = wr.drewN nq := ⟨_, rfl⟩
          have hws2 : w.heap.size ≤ lw.heap.size := by rw [hlw]; exact hws
          rw [← hlw] at HRN ⊢
          have HOWN : RowKit.Hid (∀ o : Obj, (lw.alloc o).ownsRow w.heap.size 3 1 (.slice oa m oc) m ((dist (repL (nkey C f) i)).flatMap encI)) := Lib.hid (fun o => (HRN.out.alloc o).get (i := n + 1 + 0) (by unfold NXR; rw [FR.rest]; rfl))
          have KP : RowKit.Hid (∀ (w7 : World) (g2 cap2 : Nat), w7.ownsRow w.heap.size 3 1 (.slice (some ⟨g2, 0, none⟩) (m + 1) cap2) (m + 1) ((dist (repL (nkey C f) i)).flatMap encI ++ [.int .i64 (i : Int)]) → (lw.alloc (.cells #[.int .i64 (i : Int)] 3)).grownBy w7 (Value.slice oa m oc).ownBlock → ((Value.slice oa m oc).ownBlock = some g2 ∨ lw.heap.size ≤ g2) →
              Rws w w7 (NXR sb n vs2 (fun p => if p < i + 1 then (nkey C f p).2 else []) (.slice (some ⟨g2, 0, none⟩) (m + 1) cap2) (m + 1) (dist (repL (nkey C f) (i + 1))) ab (rowAtK (repL (nkey C f) n) i))) := Lib.hid (fun w7 g2 cap2 ho hg hl => by
            have h := HRN.out.grown (w2 := lw.alloc (.cells #[.int .i64 (i : Int)] 3)) ((Below.refl _ _).alloc (Nat.le_refl _) _) (n + 1 + 0) (by unfold NXR; rw [FR.rest]; rfl) ho hg (fun g hg => by simp only [Value.ownBlock, Option.some.injEq] at hg; subst hg; exact hl)
            unfold NXR at h
            rw [FR.setRest] at h
            unfold NXR
            have e : RIg (.slice (some ⟨g2, 0, none⟩) (m + 1) cap2) (m + 1) (dist (repL (nkey C f) (i + 1))) = ⟨3, 1, .slice (some ⟨g2, 0, none⟩) (m + 1) cap2, m + 1, (dist (repL (nkey C f) i)).flatMap encI ++ [.int .i64 (i : Int)]⟩ := by
              unfold RIg; rw [HD.out, List.flatMap_append]; rfl
            rw [e]
            exact h)
          have HST : RowKit.Hid (∀ (w7 : World) (v : Value), Rws w w7 (NXR sb n vs2 (fun p => if p < i + 1 then (nkey C f p).2 else []) v (m + 1) (dist (repL (nkey C f) (i + 1))) ab (rowAtK (repL (nkey C f) n) i)) → Rws w (w7.setCell ⟨ab, i, none⟩ (.int .i64 (m : Int))) (NXR sb n vs2 (fun p => if p < i + 1 then (nkey C f p).2 else []) v (m + 1) (dist (repL (nkey C f) (i + 1))) ab (rowAtK (repL (nkey C f) n) (i + 1)))) := Lib.hid (fun w7 v h => by
            have hst := h.set (n + 1 + 1) (by unfold NXR; rw [FR.rest]; rfl) i (.int .i64 (m : Int))
            unfold NXR at hst
            rw [FR.setRest] at hst
            have e : ((List.range n).map (rowAtK (repL (nkey C f) n) i)).set i (.int .i64 (m : Int)) = (List.range n).map (rowAtK (repL (nkey C f) n) (i + 1)) := by
              rw [range_map_set]
              apply List.map_congr_left
              intro p _
              have h := rowAtK_step (repL_get (key := nkey C f) hin) p
              rw [repL_take (by omega), HRI.out, HIX.out] at h
              exact h
            unfold NXR RAs
            rw [← e]
            exact hst)
          clear hlw hws
          go_wp2_with (at_builtin; refine wpList_lie rfl _ _ _ rfl rowI (base := w.heap.size) (by simp; omega) rfl (HOWN.out _) ⟨lw.heap.size, 0, none⟩ 1 1 [.int .i64 (i : Int)] rfl rfl (cells1 (by simp [go_sem])) (by simp [Value.oneCell']) (by decide) (by omega) (by unfold maxLen; omega) lw.heap.size (by simp) ?_; intro g2 cap2 w7 hown7 hg7 hl7 hlt7; have hr7 := KP.out w7 g2 cap2 hown7 hg7 hl7; have a0 := hr7.cell (i := n + 1 + 1) (by unfold NXR; rw [FR.rest]; rfl) (j := i) (u := rowAtK (repL (nkey C f) n) i i) (by rw [List.getElem?_map, List.getElem?_range hin]; rfl); have a1 := hr7.fz (i := n + 1 + 1) (by unfold NXR; rw [FR.rest]; rfl) i; have al := (hr7.lt (i := n + 1 + 1) (by unfold NXR; rw [FR.rest]; rfl)).2; have HR7 := Lib.hid hr7; clear hr7 hown7 hg7 hl7)
          go_roundw
          case rel => exact ⟨i + 1, m + 1, _, _, vs2, by go_num, by omega, rfl, HMD.out, HVN2.out, HST.out _ _ HR7.out⟩
          case measure => simp [intOf]; omega
    · obtain rfl : n = i := by omega
      have hfin : SlAt encI 1 wr (some ⟨ab, 0, none⟩) ab 0 (fl n (clf n (fun i => (rep (nkey C f) i : Int)))) := by
        have e : (List.range n).map (rowAtK (repL (nkey C f) n) n) = (fl n (clf n (fun i => (rep (nkey C f) i : Int)))).flatMap encI := by
          rw [flatI]; unfold fl; rw [List.map_map]
          apply List.map_congr_left
          intro j hj
          exact rowAtK_all (List.mem_range.1 hj)
        obtain ⟨a1, c1, b1, hv, _, _, hs, _⟩ := HR.out.sl (i := n + 1 + 1) (α := Int) (enc := encI) (T := 3) (k := 1) (v := .slice (some ⟨ab, 0, none⟩) n n) (n := n) (ys := fl n (clf n (fun i => (rep (nkey C f) i : Int)))) (by unfold NXR; rw [FR.rest]; show some (RAs _ _ _) = _; unfold RAs; rw [e]) lenI (by rw [fl_len])
        simp only [Value.slice.injEq] at hv
        obtain ⟨rfl, _, _⟩ := hv
        by_cases hn0 : n = 0
        · subst hn0
          exact ⟨fun _ => rfl, fun h => by simp [fl] at h, fun i x hx => by simp [fl] at hx⟩
        · have := hs.ad (by rw [fl_len]; omega)
          simp only [Option.some.injEq, Addr.mk.injEq, and_true] at this
          obtain rfl := this
          exact hs
      have HFN := Lib.hid hfin
      clear hfin
      go_wp2_with fail
      go_ret
      exact ⟨ab, rfl, HFN.out, by have := HAB.out; omega, HR.out.bel⟩
end Go.Proofs.YtdhloijdefnkpaaGreatDoor

namespace Go.Proofs.YtdhloijdefnkpaaGreatDoor
open Go.RowKit Pl

theorem rowBBS : IsRow Tryz.prog 31 32 1 24 (.slice none 0 0) := isRow_of Tryz.underlying31 (by kernel_rfl) rfl (by decide)

/-- Rows of bools in memory, of the first states. -/
structure LsB (B : Nat) (w0 wr : World) (n : Nat) (G : Nat → Nat → Bool) (v : Value) (vs : List Value) : Prop where
  bel : Below B w0 wr
  own : wr.ownsRow B 32 1 v vs.length (vs.flatMap encV)
  rows : ∀ (j : Nat) (x : Value), vs[j]? = some x → ∃ b, x = .slice (some ⟨b, 0, none⟩) n n ∧ B ≤ b ∧ wr.rowIs b 4 n (fun q => .bool (G j q))
section
variable {B : Nat} {w0 wr w' wb : World} {n : Nat} {G : Nat → Nat → Bool} {v v' x : Value} {vs : List Value}
theorem LsB.call (h : LsB B w0 wr n G v vs) (hB0 : B ≤ wr.heap.size) (hB : Below wr.heap.size wr w') : LsB B w0 w' n G v vs :=
  ⟨h.bel.trans (hB.mono hB0), own_below h.own hB, fun j x hx => by
    obtain ⟨b, h1, h2, h3⟩ := h.rows j x hx
    exact ⟨b, h1, h2, h3.of_block (hB.block _ h3.lt)⟩⟩
theorem LsB.push {b : Nat} (h : LsB B w0 wr n G v vs) (hB0 : B ≤ wr.heap.size) (hbb : B ≤ b) (hx : wr.rowIs b 4 n (fun q => .bool (G vs.length q)))
    (hown : w'.ownsRow B 32 1 v' (vs.length + 1) (vs.flatMap encV ++ [.slice (some ⟨b, 0, none⟩) n n])) (hg : wr.grownBy w' v.ownBlock) : LsB B w0 w' n G v' (vs ++ [.slice (some ⟨b, 0, none⟩) n n]) := by
  have hrow : ∀ {c : Nat} {f : Nat → Value}, wr.rowIs c 4 n f → w'.rowIs c 4 n f := fun {c f} hc => by
    refine hc.of_block (hg.block c hc.lt (fun e => ?_))
    obtain ⟨cs, h1, _⟩ := hc
    rcases h.own.2 with ⟨h2, _⟩ | ⟨gg, cap, cur, hv, _, hgg, _⟩
    · rw [h2] at e; cases e
    · rw [hv] at e; simp only [Value.ownBlock, Option.some.injEq] at e; subst e; rw [hgg] at h1; simp at h1
  refine ⟨h.bel.grown hg hB0 (fun k e => (h.own.lt k e).1), ?_, fun j y hy => ?_⟩
  · rw [List.flatMap_append, List.length_append]; exact hown
  · rcases Nat.lt_or_ge j vs.length with hj | hj
    · rw [List.getElem?_append_left hj] at hy
      obtain ⟨c, h1, h2, h3⟩ := h.rows j y hy
      exact ⟨c, h1, h2, hrow h3⟩
    · have hq2 : j = vs.length := by have := (List.getElem?_eq_some_iff.1 hy).1; simp at this; omega
      subst hq2
      simp at hy
      subst hy
      exact ⟨b, rfl, hbb, hrow hx⟩
end
/-- Rows of bools, as they read. -/
structure BoolsIn (w : World) (lb n : Nat) (G : Nat → Nat → Bool) : Prop where
  at_ : ∀ p, p < n → ∃ b, w.cell? ⟨lb, p, none⟩ = some (.slice (some ⟨b, 0, none⟩) n n) ∧ w.rowIs b 4 n (fun q => .bool (G p q))
  lt : 0 < n → lb < w.heap.size
theorem BoolsIn.below {w w' : World} {lb n : Nat} {G : Nat → Nat → Bool} (h : BoolsIn w lb n G) (hB : Below w.heap.size w w') : BoolsIn w' lb n G :=
  ⟨fun p hp => by
    obtain ⟨b, h1, h2⟩ := h.at_ p hp
    exact ⟨b, by rw [hB.cell (p := ⟨lb, p, none⟩) (h.lt (by omega))]; exact h1, h2.of_block (hB.block _ h2.lt)⟩, fun hn => Nat.lt_of_lt_of_le (h.lt hn) hB.size⟩
theorem tauOf_st {s : Lts} {q : Int} : (tauOf s q).st = s.st := rfl

/-- What Silent tells of a right system. -/
noncomputable def silG (s : Lts) (p q : Nat) : Bool := decide ((q : Int) ∈ reachL (tauOf s.norm (p : Int)))

set_option maxRecDepth 100000 in
set_option maxHeartbeats 4000000 in
theorem refSilent_any {s : Lts} {n : Nat} (hr : s.Right) (hn : s.st = (n : Int)) {a : Option Addr} {b off c : Nat} {w : World} (hS : SlAt encE 3 w a b off s.es) (hc : s.es.length ≤ c) (hcm : c ≤ maxLen) :
    Calls Tryz.prog 73 #[.agg #[.int .i64 s.st, .int .i64 s.lb, .int .i64 s.s0, .slice a s.es.length c]] w fun e w' => ∃ la lb lc, e = .returned (.slice la n lc) ∧ (0 < n → la = some ⟨lb, 0, none⟩) ∧ BoolsIn w' lb n (silG s) ∧ Below w.heap.size w w' := by
  have hst := hr.st0
  have hn1 : n ≤ 1000 := by omega
  have hB0 := (Below.refl w.heap.size w).alloc (Nat.le_refl _) (Obj.cells #[.int .i64 s.st, .int .i64 s.lb, .int .i64 s.s0, .slice a s.es.length c] 24)
  have hbx := heap_alloc_new w (Obj.cells #[.int .i64 s.st, .int .i64 s.lb, .int .i64 s.s0, .slice a s.es.length c] 24)
  have HO := Lib.hid (refOut_any hr (hS.below hB0 (Nat.le_refl _)) hc hcm)
  obtain ⟨el, hel⟩ : ∃ el, el = s.es.length := ⟨_, rfl⟩
  rw [hn, ← hel] at HO hB0 hbx
  rw [hn, ← hel]
  have HB0 := Lib.hid hB0; have HBX := Lib.hid hbx; have HR := Lib.hid hr; have HN := Lib.hid hn
  clear hB0 hbx hr hn hS hc hcm hst hel
  go_enter Tryz.func73, Tryz.ntmps73
  go_wp2_with fail
  refine HO.out.mono ?_
  rintro e w2 ⟨ob, n', base, hn', rfl, hrows, hob, hB2⟩
  obtain rfl : n = n' := by have := HN.out; omega
  have hx2 := (hB2.block w.heap.size (by simp)).trans HBX.out
  have HX2 := Lib.hid hx2; have HB2 := Lib.hid (HB0.out.trans (hB2.mono (by simp))); have HRW := Lib.hid (StepsIn.of hrows)
  have hup : LsB w2.heap.size w2 w2 n (silG s) (.slice none 0 0) [] := ⟨Below.refl _ _, ⟨by simp, .inl ⟨rfl, rfl⟩⟩, by simp⟩
  have HUP := Lib.hid hup
  clear hrows hob hB2 hx2 hn' hup HO HB0 HBX
  go_wp2_with fail
  go_loopw [4, 5] (fun v4 v5 wr => ∃ (k : Nat) (vs : List Value), v5 = .int .i64 k ∧ k ≤ n ∧ vs.length = k ∧ LsB w2.heap.size w2 wr n (silG s) v4 vs) (fun _ v5 _ => n - (intOf v5).toNat)
  case atStart => exact ⟨0, [], rfl, Nat.zero_le _, rfl, HUP.out⟩
  case round =>
    obtain ⟨k, vs, rfl, hk, hvl, hup⟩ := hrel
    have HU := Lib.hid hup; have HVL := Lib.hid hvl
    have hsz := hup.bel.size
    have hxr := (hup.bel.block w.heap.size (Array.getElem?_eq_some_iff.1 HX2.out).1).trans HX2.out
    have x0 : wr.cell? ⟨w.heap.size, 0, none⟩ = some (.int .i64 n) := by simp [World.cell?, hxr]
    have xl := (Array.getElem?_eq_some_iff.1 hxr).1
    clear hup hvl HUP hxr
    by_cases hlt : k < n
    · have hkI : (k : Int) < (n : Int) := by omega
      have hfr := refFrom_any (s := s.norm) (c := n) HR.out.norm (srt_nf stoE _) (n := n) (q := k) HN.out hlt (HRW.out.below HU.out.bel)
      have HFR := Lib.hid hfr
      clear hfr
      go_wp2_with fail
      refine HFR.out.mono ?_
      rintro e w5 ⟨rb, rfl, hrow, hrb, hB5⟩
      have hu5 := HU.out.call hsz hB5
      have hs5 := hB5.size
      have HU5 := Lib.hid hu5; have HRO := Lib.hid hrow
      have hrbl := hrow.lt
      clear hu5 hrow hB5 HU HFR x0 xl
      go_wp2_with (at_builtin; refine wpList_lies rfl _ _ 31 rfl rowBBS (base := w2.heap.size) (by simp; omega) rfl (own_below HU5.out.own ((Below.refl w5.heap.size w5).alloc (Nat.le_refl _) _)) ⟨w5.heap.size, 0, none⟩ 1 1 [.slice (some ⟨rb, 0, none⟩) n n] rfl rfl (cells1 (by simp [go_sem])) (by simp [Value.oneCell']) (by omega) (by rw [HVL.out]; omega) (by unfold maxLen; rw [HVL.out]; omega) _ rfl ?_; intro g cap w6 hown6 hg6 _ _)
      have hba := (Below.refl w5.heap.size w5).alloc (Nat.le_refl _) (.cells #[.slice (some ⟨rb, 0, none⟩) n n] 32)
      have hnx := (HU5.out.call (by omega) hba).push (v' := .slice (some ⟨g, 0, none⟩) (vs.length + 1) cap) (b := rb) (by simp; omega) (by omega) (by rw [HVL.out]; exact HRO.out.of_block (hba.block _ hrbl)) hown6 hg6
      have HNX := Lib.hid hnx
      clear hnx hown6 hg6 HU5 hba
      go_roundw
      case rel => exact ⟨k + 1, vs ++ [.slice (some ⟨rb, 0, none⟩) n n], by go_num, by omega, by simp [HVL.out], HNX.out⟩
      case measure => simp [intOf]; omega
    · obtain rfl : n = k := by omega
      obtain ⟨va, vc, vb, rfl, _, _, hvs, _⟩ := slAt_own lenV HU.out.own
      have hfin : (0 < n → va = some ⟨vb, 0, none⟩) ∧ BoolsIn wr vb n (silG s) := by
        have hl := HVL.out
        refine ⟨fun h => hvs.ad (by omega), fun p hp => ?_, fun h => hvs.lt (by omega)⟩
        obtain ⟨x, hx⟩ := getElem?_of_lt (xs := vs) (i := p) (by omega)
        obtain ⟨b2, rfl, _, h3⟩ := HU.out.rows p x hx
        have := hvs.cv hx
        simp only [Nat.zero_add] at this
        exact ⟨b2, this, h3⟩
      have HFN := Lib.hid hfin
      rw [HVL.out]
      clear hvs hfin
      go_wp2_with fail
      go_ret
      exact ⟨va, vb, vc, rfl, HFN.out.1, HFN.out.2, HB2.out.trans (HU.out.bel.mono HB2.out.size)⟩
end Go.Proofs.YtdhloijdefnkpaaGreatDoor

namespace Go.Proofs.YtdhloijdefnkpaaGreatDoor
namespace Pl
section
variable {G : Nat → Nat → Bool}
/-- Of the visible steps of a list: by label what they lead to. -/
def hZ (G : Nat → Nat → Bool) (Z : List S) (l : Nat) : Option (Nat → Bool) := if Z.any (fun x => decide (x.1 = (l : Int))) then some (fun r => Z.any (fun x => decide (x.1 = (l : Int)) && G x.2.toNat r)) else none
theorem hZ_nil (l : Nat) : hZ G [] l = none := by unfold hZ; simp
theorem any_none {Z : List S} {l : Nat} {g : S → Bool} (e : ¬ Z.any (fun x => decide (x.1 = (l : Int))) = true) : Z.any (fun x => decide (x.1 = (l : Int)) && g x) = false := by
  cases h : Z.any (fun x => decide (x.1 = (l : Int)) && g x)
  · rfl
  · obtain ⟨x, hx, h2⟩ := List.any_eq_true.1 h
    simp only [Bool.and_eq_true] at h2
    exact absurd (List.any_eq_true.2 ⟨x, hx, h2.1⟩) e
theorem hZ_other {Z : List S} {x : S} {l : Nat} (h : x.1 ≠ (l : Int)) : hZ G (Z ++ [x]) l = hZ G Z l := by
  have h1 : ∀ g : S → Bool, (Z ++ [x]).any (fun x => decide (x.1 = (l : Int)) && g x) = Z.any (fun x => decide (x.1 = (l : Int)) && g x) := fun g => by
    rw [List.any_append]; simp [h]
  have h2 : (Z ++ [x]).any (fun x => decide (x.1 = (l : Int))) = Z.any (fun x => decide (x.1 = (l : Int))) := by
    rw [List.any_append]; simp [h]
  unfold hZ
  rw [h2]
  simp only [h1]
theorem hZ_new {Z : List S} {m t : Nat} (h : hZ G Z m = none) : hZ G (Z ++ [((m : Int), (t : Int))]) m = some (fun r => G t r) := by
  unfold hZ at h ⊢
  by_cases e : Z.any (fun x => decide (x.1 = (m : Int))) = true
  · rw [if_pos e] at h; cases h
  · rw [if_pos (by simp)]
    congr 1
    funext r
    rw [List.any_append, any_none e]; simp
theorem hZ_old {Z : List S} {m t : Nat} {g : Nat → Bool} (h : hZ G Z m = some g) : hZ G (Z ++ [((m : Int), (t : Int))]) m = some (fun r => g r || G t r) := by
  unfold hZ at h ⊢
  by_cases e : Z.any (fun x => decide (x.1 = (m : Int))) = true
  · rw [if_pos e] at h
    obtain rfl := Option.some.inj h
    rw [if_pos (by simp)]
    congr 1
    funext r
    rw [List.any_append]; simp
  · rw [if_neg e] at h; cases h
/-- What a label's row tells. -/
def kZ (G : Nat → Nat → Bool) (p : Nat) (Z : List S) (l : Nat) (r : Nat) : Bool := if l = 0 then G p r else ((hZ G Z l).map (fun g => g r)).getD false
/-- The steps of a state, by rows. -/
def rowsL (lb n : Nat) (K : Nat → Nat → Bool) : List S := (List.range lb).flatMap fun l => (idsN (K l) n).map fun r : Nat => ((l : Int), (r : Int))
theorem rowsL_len (lb n : Nat) (K : Nat → Nat → Bool) : (rowsL lb n K).length ≤ lb * n := by
  induction lb with
  | zero => simp [rowsL]
  | succ l ih =>
    have h : rowsL (l + 1) n K = rowsL l n K ++ (idsN (K l) n).map fun r : Nat => ((l : Int), (r : Int)) := by
      unfold rowsL; rw [List.range_succ, List.flatMap_append]; simp
    rw [h, List.length_append, List.length_map, Nat.succ_mul]
    have := idsN_le (K l) n
    omega
/-- All visible steps behind silent ones. -/
def visZ (s : Lts) (G : Nat → Nat → Bool) (p n : Nat) : List S := (List.range n).flatMap fun q => if G p q then (s.outs (q : Int)).filter (fun x => !decide (x.1 = 0)) else []
theorem kZ_wst {s : Lts} {n : Nat} (hr : s.Right) (hn : s.st = (n : Int)) (hG : ∀ p q, p < n → (G p q = true ↔ TR s p q)) {p q l : Nat} (hp : p < n) (hq : q < n) : kZ G p (visZ s G p n) l q = true ↔ wst s p (l : Int) q := by
  unfold kZ
  by_cases h0 : l = 0
  · subst h0; rw [if_pos rfl, hG p q hp]; exact wst_zero.symm
  · rw [if_neg h0, wst_ne (by omega)]
    have hmem : ∀ x : S, x ∈ visZ s G p n ↔ ∃ m, m < n ∧ TR s p m ∧ x ∈ s.outs (m : Int) ∧ x.1 ≠ 0 := fun x => by
      unfold visZ
      rw [List.mem_flatMap]
      constructor
      · rintro ⟨m, hm, hx⟩
        have hm := List.mem_range.1 hm
        by_cases hg : G p m = true
        · rw [if_pos hg] at hx
          have := List.mem_filter.1 hx
          exact ⟨m, hm, (hG p m hp).1 hg, this.1, by simpa using this.2⟩
        · rw [if_neg hg] at hx; simp at hx
      · rintro ⟨m, hm, h1, h2, h3⟩
        exact ⟨m, List.mem_range.2 hm, by rw [if_pos ((hG p m hp).2 h1)]; exact List.mem_filter.2 ⟨h2, by simpa using h3⟩⟩
    have hany : ((hZ G (visZ s G p n) l).map (fun g => g q)).getD false = (visZ s G p n).any (fun x => decide (x.1 = (l : Int)) && G x.2.toNat q) := by
      unfold hZ
      by_cases e : (visZ s G p n).any (fun x => decide (x.1 = (l : Int))) = true
      · rw [if_pos e]; rfl
      · rw [if_neg e]
        rw [any_none e]; rfl
    rw [hany, List.any_eq_true]
    constructor
    · rintro ⟨⟨a, b⟩, hx, h2⟩
      obtain ⟨m, hm, h3, h4, _⟩ := (hmem _).1 hx
      simp only [Bool.and_eq_true, decide_eq_true_eq] at h2
      obtain ⟨rfl, h5⟩ := h2
      have h6 := mem_outs.1 h4
      have h7 := offB_false.1 (hr.edges _ h6)
      simp only at h7
      obtain ⟨t, rfl⟩ := Int.eq_ofNat_of_zero_le h7.2.2.2.2.1
      exact ⟨m, t, h3, h6, (hG t q (by omega)).1 (by simpa using h5)⟩
    · rintro ⟨m, t, h1, h2, h3⟩
      have hm := (stp_lt hr hn h2)
      exact ⟨((l : Int), (t : Int)), (hmem _).2 ⟨m, hm.1, h1, mem_outs.2 h2, by simp; omega⟩, by simp [(hG t q hm.2.1).2 h3]⟩
end
end Pl
end Go.Proofs.YtdhloijdefnkpaaGreatDoor

namespace Go.Proofs.YtdhloijdefnkpaaGreatDoor
open Go.RowKit Pl
namespace Pl
section
variable {s : Lts} {n lb : Nat}
theorem tr_normK {p q : Nat} : TR s.norm p q ↔ TR s p q := by
  constructor
  · intro h
    induction h with
    | refl => exact .refl
    | tail _ h2 ih => exact ih.tail (stp_normO.1 h2)
  · intro h
    induction h with
    | refl => exact .refl
    | tail _ h2 ih => exact ih.tail (stp_normO.2 h2)
theorem wst_normK {p q : Nat} {l : Int} : wst s.norm p l q ↔ wst s p l q := by
  unfold wst one
  simp only [tr_normK, stp_normO]
theorem rch_tauK (hr : s.Right) {q m : Nat} : Rch (tauOf s (q : Int)) (m : Int) ↔ TR s q m := by
  constructor
  · intro h
    have h1 := h (fun x => ∃ m : Nat, x = (m : Int) ∧ TR s q m) ⟨q, rfl, .refl⟩ (by
      rintro a l b ⟨m, rfl, h2⟩ h3
      unfold tauOf at h3
      simp only [List.mem_filter, beq_iff_eq] at h3
      obtain ⟨h3, rfl⟩ := h3
      have h4 := offB_false.1 (hr.edges _ h3)
      simp only at h4
      obtain ⟨b, rfl⟩ := Int.eq_ofNat_of_zero_le h4.2.2.2.2.1
      exact ⟨b, rfl, h2.tail h3⟩)
    obtain ⟨m', h2, h3⟩ := h1
    obtain rfl : m = m' := by omega
    exact h3
  · intro h
    induction h with
    | refl => exact Rch.start _
    | @tail a b _ h2 ih => exact ih.step (l := 0) (by unfold tauOf; simp only [List.mem_filter]; exact ⟨h2, by simp⟩)
theorem silG_tr (hr : s.Right) (hn : s.st = (n : Int)) {p q : Nat} (hp : p < n) : silG s p q = true ↔ TR s p q := by
  have hrn := hr.norm
  unfold silG
  rw [decide_eq_true_eq, mem_reachL (tauOf_right hrn (by omega) (by show (p : Int) < s.st; omega)) (by show s.st ≠ 0; omega), rch_tauK hrn, tr_normK]
/-- What chapter 13's reference lists of a state. -/
noncomputable def wkL (s : Lts) (n lb p : Nat) : List S := rowsL lb n (kZ (silG s) p (visZ s.norm (silG s) p n))
theorem mem_wkL (hr : s.Right) (hn : s.st = (n : Int)) {p : Nat} (hp : p < n) {x : S} : x ∈ wkL s n lb p ↔ ∃ l q : Nat, x = ((l : Int), (q : Int)) ∧ l < lb ∧ q < n ∧ wst s p (l : Int) q := by
  have hk : ∀ {q l : Nat}, q < n → (kZ (silG s) p (visZ s.norm (silG s) p n) l q = true ↔ wst s p (l : Int) q) := fun {q l} hq => by
    rw [kZ_wst hr.norm (show s.norm.st = (n : Int) from hn) (fun p q hp => by rw [silG_tr hr hn hp, tr_normK]) hp hq, wst_normK]
  unfold wkL rowsL
  simp only [List.mem_flatMap, List.mem_map, List.mem_range, mem_idsN]
  constructor
  · rintro ⟨l, hl, q, ⟨hq, h⟩, rfl⟩
    exact ⟨l, q, rfl, hl, hq, (hk hq).1 h⟩
  · rintro ⟨l, q, rfl, hl, hq, h⟩
    exact ⟨l, hl, q, ⟨hq, (hk hq).2 h⟩, rfl⟩
theorem wkL_ok (hr : s.Right) (hn : s.st = (n : Int)) (hlb : s.lb = (lb : Int)) (h40 : n ≤ 40) {p : Nat} (hp : p < n) : (wkL s n lb p).length ≤ 20000 ∧ ∀ x ∈ wkL s n lb p, 0 ≤ x.1 ∧ x.1 ≤ 201 ∧ 0 ≤ x.2 ∧ x.2 < (n : Int) := by
  have hst := hr.st0
  have hl : lb ≤ 201 := by omega
  refine ⟨?_, ?_⟩
  · unfold wkL
    have h1 := rowsL_len lb n (kZ (silG s) p (visZ s.norm (silG s) p n))
    have h2 : lb * n ≤ 201 * 40 := Nat.mul_le_mul hl h40
    omega
  · intro x hx
    obtain ⟨l, q, rfl, h1, h2, _⟩ := (mem_wkL hr hn hp).1 hx
    refine ⟨?_, ?_, ?_, ?_⟩ <;> simp <;> omega
theorem atL_flK {f : Nat → Int} {t : Nat} (h : t < n) : atL (fl n f) (t : Int) = f t := by
  unfold atL
  rw [Int.toNat_natCast, List.getD_eq_getElem?_getD, fl_get f h]; rfl
theorem next_wk (hr : s.Right) (hn : s.st = (n : Int)) (hlb : s.lb = (lb : Int)) {C : Nat → Int} (hC : ∀ p, p < n → 0 ≤ C p ∧ C p ≤ 1000) : NextS (wst s) n C (clf n (fun i => (rep (nkey (fl n C) (wkL s n lb)) i : Int))) := by
  intro p q hp hq
  have hgd : ∀ {p : Nat}, p < n → (fl n C).getD p 0 = C p := fun {p} h => by rw [List.getD_eq_getElem?_getD, fl_get C h]; rfl
  have hm : ∀ {p : Nat}, p < n → ∀ v : Int, v ∈ (wkL s n lb p).map (sgv (fl n C)) ↔ ∃ l t : Nat, l < lb ∧ t < n ∧ wst s p (l : Int) t ∧ v = (l : Int) * 1001 + C t := fun {p} hp v => by
    rw [List.mem_map]
    constructor
    · rintro ⟨x, hx, rfl⟩
      obtain ⟨l, t, rfl, h1, h2, h3⟩ := (mem_wkL hr hn hp).1 hx
      exact ⟨l, t, h1, h2, h3, by unfold sgv; rw [atL_flK h2]⟩
    · rintro ⟨l, t, h1, h2, h3, rfl⟩
      exact ⟨((l : Int), (t : Int)), (mem_wkL hr hn hp).2 ⟨l, t, rfl, h1, h2, h3⟩, by unfold sgv; rw [atL_flK h2]⟩
  have hdir : ∀ {p q : Nat}, p < n → q < n → (∀ v : Int, v ∈ (wkL s n lb p).map (sgv (fl n C)) → v ∈ (wkL s n lb q).map (sgv (fl n C))) → ∀ l e, (∃ t, t < n ∧ wst s p l t ∧ C t = e) → ∃ t, t < n ∧ wst s q l t ∧ C t = e := by
    rintro p q hp hq h l e ⟨t, ht, h1, rfl⟩
    obtain ⟨_, h0, h2⟩ := wst_lt hr hn h1 hp
    obtain ⟨l, rfl⟩ := Int.eq_ofNat_of_zero_le h0
    obtain ⟨l', t', h3, h4, h5, h6⟩ := (hm hq _).1 (h _ ((hm hp _).2 ⟨l, t, by omega, ht, h1, rfl⟩))
    have c1 := hC t ht
    have c2 := hC t' h4
    obtain rfl : l = l' := by omega
    exact ⟨t', h4, h5, by omega⟩
  rw [clf_eq (f := fun i => (rep (nkey (fl n C) (wkL s n lb)) i : Int)) hp hq]
  simp only [Int.ofNat_inj, rep_iff]
  unfold nkey
  rw [Prod.mk.injEq, hgd hp, hgd hq]
  refine and_congr_right (fun _ => ?_)
  have hnf : nf ltI ((wkL s n lb p).map (sgv (fl n C))) = nf ltI ((wkL s n lb q).map (sgv (fl n C))) ↔ ∀ v : Int, v ∈ (wkL s n lb p).map (sgv (fl n C)) ↔ v ∈ (wkL s n lb q).map (sgv (fl n C)) := by
    constructor
    · intro h v
      rw [← mem_nf stoI v ((wkL s n lb p).map (sgv (fl n C))), h, mem_nf stoI]
    · intro h
      exact nf_congr stoI h
  rw [hnf]
  constructor
  · intro h l e
    exact ⟨hdir hp hq (fun v hv => (h v).1 hv) l e, hdir hq hp (fun v hv => (h v).2 hv) l e⟩
  · intro h v
    rw [hm hp, hm hq]
    constructor
    · rintro ⟨l, t, h1, h2, h3, rfl⟩
      obtain ⟨t', h4, h5, h6⟩ := (h l (C t)).1 ⟨t, h2, h3, rfl⟩
      exact ⟨l, t', h1, h4, h5, by rw [h6]⟩
    · rintro ⟨l, t, h1, h2, h3, rfl⟩
      obtain ⟨t', h4, h5, h6⟩ := (h l (C t)).2 ⟨t, h2, h3, rfl⟩
      exact ⟨l, t', h1, h4, h5, by rw [h6]⟩
/-- Two such answers are one. -/
theorem wkRes_eq {C D : Nat → Int} {K : Nat → Nat → Nat → Bool} (h1 : Big (satS s n lb K) n C) (c1 : canon (fl n C) = fl n C) (h2 : Big (satS s n lb K) n D) (c2 : canon (fl n D) = fl n D) : fl n C = fl n D :=
  canon_same_list c1 c2 (fun p q hp hq => ⟨fun e => h2.all _ h1.bis p q hp hq e, fun e => h1.all _ h2.bis p q hp hq e⟩)
end
end Pl
end Go.Proofs.YtdhloijdefnkpaaGreatDoor

namespace Go.Proofs.YtdhloijdefnkpaaGreatDoor
open Go.RowKit Pl

def toV (s0 n : Nat) (H : Nat → Option (Nat → Bool)) (bk : Nat → Nat) (l : Nat) : Value := if l = 0 then .slice (some ⟨s0, 0, none⟩) n n else match H l with | none => .slice none 0 0 | some _ => .slice (some ⟨bk l, 0, none⟩) n n
/-- The row tb of lb slices; the first one is a row that lies elsewhere. -/
structure ToM (w : World) (tb lb n s0 : Nat) (H : Nat → Option (Nat → Bool)) : Prop where
  ex : ∃ bk : Nat → Nat, w.rowIs tb 32 lb (toV s0 n H bk) ∧ (∀ l h, 0 < l → l < lb → H l = some h → tb < bk l ∧ w.rowIs (bk l) 4 n (fun q => .bool (h q))) ∧ ∀ l l', 0 < l → l < lb → 0 < l' → l' < lb → l ≠ l' → H l ≠ none → H l' ≠ none → bk l ≠ bk l'
section
variable {w w' : World} {tb lb n s0 m : Nat} {H H' : Nat → Option (Nat → Bool)}
theorem ToM.lt (h : ToM w tb lb n s0 H) : tb < w.heap.size := by obtain ⟨_, h1, _⟩ := h.ex; exact h1.lt
theorem ToM.congr (h : ToM w tb lb n s0 H) (e : ∀ l, H l = H' l) : ToM w tb lb n s0 H' := by
  have : H = H' := funext e
  rw [← this]; exact h
theorem ToM.congrN (h : ToM w tb lb n s0 H) (e : ∀ l, H l = none ↔ H' l = none) (e2 : ∀ l g g', H l = some g → H' l = some g' → ∀ q, q < n → g q = g' q) : ToM w tb lb n s0 H' := by
  obtain ⟨bk, h1, h2, h3⟩ := h.ex
  refine ⟨bk, h1.congr (fun l _ => ?_), fun l g' hl hlb hg' => ?_, fun l l' a b c d ne h6 h7 => h3 l l' a b c d ne (fun h => h6 ((e l).1 h)) (fun h => h7 ((e l').1 h))⟩
  · unfold toV
    cases hh : H l with
    | none => rw [(e l).1 hh]
    | some g =>
      cases hh' : H' l with
      | none => rw [(e l).2 hh'] at hh; cases hh
      | some g' => rfl
  · cases hh : H l with
    | none => rw [(e l).1 hh] at hg'; cases hg'
    | some g =>
      obtain ⟨h4, h5⟩ := h2 l g hl hlb hh
      exact ⟨h4, h5.congr (fun q hq => by rw [e2 l g g' hh hg' q hq])⟩
theorem ToM.kept (h : ToM w tb lb n s0 H) (hs : ∀ b, tb ≤ b → (∃ cs, w.heap[b]? = some (.cells cs 32 (0, 0)) ∨ w.heap[b]? = some (.cells cs 4 (0, 0))) → w'.heap[b]? = w.heap[b]?) : ToM w' tb lb n s0 H := by
  obtain ⟨bk, h1, h2, h3⟩ := h.ex
  refine ⟨bk, h1.of_block (hs tb (Nat.le_refl _) ?_), fun l g hl hlb hg => ?_, h3⟩
  · obtain ⟨cs, hc, _⟩ := h1; exact ⟨cs, .inl hc⟩
  · obtain ⟨h4, h5⟩ := h2 l g hl hlb hg
    refine ⟨h4, h5.of_block (hs _ (by omega) ?_)⟩
    obtain ⟨cs, hc, _⟩ := h5; exact ⟨cs, .inr hc⟩
theorem ToM.call (h : ToM w tb lb n s0 H) (hB : Below w.heap.size w w') : ToM w' tb lb n s0 H :=
  h.kept (fun b _ hc => hB.block b (by obtain ⟨cs, hc | hc⟩ := hc <;> exact (Array.getElem?_eq_some_iff.1 hc).1))
theorem ToM.zero (h : ToM w tb lb n s0 H) (h0 : 0 < lb) : w.cell? ⟨tb, 0, none⟩ = some (.slice (some ⟨s0, 0, none⟩) n n) := by
  obtain ⟨bk, h1, _⟩ := h.ex
  exact h1.cell h0
theorem ToM.fz (h : ToM w tb lb n s0 H) (l : Nat) : w.frozen? ⟨tb, l, none⟩ = false := by obtain ⟨_, h1, _⟩ := h.ex; exact h1.frozen l
theorem ToM.gone (h : ToM w tb lb n s0 H) {l : Nat} (hl : 0 < l) (hlb : l < lb) (hH : H l = none) : w.cell? ⟨tb, l, none⟩ = some (.slice none 0 0) := by
  obtain ⟨bk, h1, _⟩ := h.ex
  have := h1.cell hlb
  unfold toV at this
  rw [if_neg (by omega), hH] at this
  exact this
theorem ToM.at (h : ToM w tb lb n s0 H) {l : Nat} {g : Nat → Bool} (hl : 0 < l) (hlb : l < lb) (hH : H l = some g) : ∃ b, w.cell? ⟨tb, l, none⟩ = some (.slice (some ⟨b, 0, none⟩) n n) ∧ tb < b ∧ w.rowIs b 4 n (fun q => .bool (g q)) ∧
    ∀ (r : Nat) (x : Bool), ToM (w.setCell ⟨b, r, none⟩ (.bool x)) tb lb n s0 (fun l' => if l' = l then some (fun r' => if r' = r then x else g r') else H l') := by
  obtain ⟨bk, h1, h2, h3⟩ := h.ex
  have hc := h1.cell hlb
  unfold toV at hc
  rw [if_neg (by omega), hH] at hc
  obtain ⟨h4, h5⟩ := h2 l g hl hlb hH
  refine ⟨bk l, hc, h4, h5, fun r x => ⟨bk, (h1.of_block (Below.heap_setCell _ _ _ _ (by show tb ≠ bk l; omega))).congr (fun l' _ => ?_), fun l' g' hl' hlb' hg' => ?_, fun a b ha hab hb hbb hne h6 h7 => h3 a b ha hab hb hbb hne ?_ ?_⟩⟩
  · unfold toV
    by_cases e : l' = 0
    · rw [if_pos e, if_pos e]
    · rw [if_neg e, if_neg e]
      by_cases e2 : l' = l
      · subst e2; simp [hH]
      · simp [e2]
  · by_cases e : l' = l
    · subst e
      rw [if_pos rfl] at hg'
      obtain rfl := Option.some.inj hg'
      refine ⟨h4, ((h5.set r (.bool x)).congr (fun q _ => ?_))⟩
      by_cases e2 : q = r
      · simp [e2]
      · simp [e2]
    · rw [if_neg e] at hg'
      obtain ⟨h6, h7⟩ := h2 l' g' hl' hlb' hg'
      exact ⟨h6, h7.of_block (Below.heap_setCell _ _ _ _ (by show bk l' ≠ bk l; exact h3 l' l hl' hlb' hl hlb e (by rw [hg']; simp) (by rw [hH]; simp)))⟩
  · intro e
    by_cases e2 : a = l
    · subst e2; rw [hH] at e; cases e
    · rw [if_neg e2] at h6; exact h6 e
  · intro e
    by_cases e2 : b = l
    · subst e2; rw [hH] at e; cases e
    · rw [if_neg e2] at h7; exact h7 e
/-- A row that was not there is made. -/
theorem ToM.new (h : ToM w tb lb n s0 H) {l : Nat} (hl : 0 < l) (hlb : l < lb) (hH : H l = none) : ToM ((w.setCell ⟨tb, l, none⟩ (.slice (some ⟨w.heap.size, 0, none⟩) n n)).alloc (.cells (madeCells #[.bool false] n) 4)) tb lb n s0 (fun l' => if l' = l then some (fun _ => false) else H l') := by
  obtain ⟨bk, h1, h2, h3⟩ := h.ex
  have hz : (w.setCell ⟨tb, l, none⟩ (.slice (some ⟨w.heap.size, 0, none⟩) n n)).heap.size = w.heap.size := size_setCell _ _ _
  have hr := World.rowIs_made (w.setCell ⟨tb, l, none⟩ (.slice (some ⟨w.heap.size, 0, none⟩) n n)) (.bool false) n 4
  rw [hz] at hr
  have hlt := h1.lt
  have hold : ∀ l' g', 0 < l' → l' < lb → H l' = some g' → bk l' < w.heap.size := fun l' g' a b c => (h2 l' g' a b c).2.lt
  refine ⟨fun l' => if l' = l then w.heap.size else bk l', ((h1.set l (.slice (some ⟨w.heap.size, 0, none⟩) n n)).alloc _).congr (fun l' _ => ?_), fun l' g' hl' hlb' hg' => ?_, fun a b ha hab hb hbb hne h6 h7 => ?_⟩
  · unfold toV
    by_cases e : l' = l
    · subst e; rw [if_pos rfl, if_neg (by omega)]; simp
    · rw [if_neg e]
      by_cases e0 : l' = 0
      · rw [if_pos e0, if_pos e0]
      · rw [if_neg e0, if_neg e0]
        simp [e]
  · dsimp only at hg' ⊢
    by_cases e : l' = l
    · subst e
      rw [if_pos rfl] at hg' ⊢
      obtain rfl := Option.some.inj hg'
      exact ⟨hlt, hr⟩
    · rw [if_neg e] at hg' ⊢
      obtain ⟨h6, h7⟩ := h2 l' g' hl' hlb' hg'
      exact ⟨h6, (h7.of_block (Below.heap_setCell _ _ _ _ (by show bk l' ≠ tb; omega))).alloc _⟩
  · dsimp only at h6 h7 ⊢
    by_cases e : a = l
    · subst e
      rw [if_neg (Ne.symm hne)] at h7
      rw [if_pos rfl, if_neg (Ne.symm hne)]
      cases hb2 : H b with
      | none => exact absurd hb2 h7
      | some g' => have := hold b g' hb hbb hb2; omega
    · rw [if_neg e] at h6
      rw [if_neg e]
      by_cases e2 : b = l
      · subst e2
        rw [if_pos rfl]
        cases ha2 : H a with
        | none => exact absurd ha2 h6
        | some g' => have := hold a g' ha hab ha2; omega
      · rw [if_neg e2] at h7 ⊢
        exact h3 a b ha hab hb hbb hne h6 h7
theorem ToM.made (w : World) {lb : Nat} (h0 : 0 < lb) (n s0 : Nat) : ToM ((w.alloc (.cells (madeCells #[.slice none 0 0] lb) 32)).setCell ⟨w.heap.size, 0, none⟩ (.slice (some ⟨s0, 0, none⟩) n n)) w.heap.size lb n s0 (fun _ => none) :=
  ⟨fun _ => 0, ((World.rowIs_made w (.slice none 0 0) lb 32).set 0 _).congr (fun l _ => by unfold toV; by_cases e : l = 0 <;> simp [e]), (fun l h _ _ hh => by cases hh), fun _ _ _ _ _ _ _ h6 => absurd rfl h6⟩
end
end Go.Proofs.YtdhloijdefnkpaaGreatDoor

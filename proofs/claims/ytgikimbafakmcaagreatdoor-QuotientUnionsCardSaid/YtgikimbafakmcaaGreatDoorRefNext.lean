/-
  Lemmas.
-/
import Derived.Test.YtgikimbafakmcaaGreatDoorGRefReach
import Derived.Test.YtgikimbafakmcaaGreatDoorGUniZ
import Derived.Test.YtgikimbafakmcaaGreatDoorGBrL
import Derived.Test.YtgikimbafakmcaaGreatDoorGLaidQun
import Derived.Test.YtgikimbafakmcaaGreatDoorGRws
import Derived.Deep.RegionHeldLaw
namespace Go.Proofs.YtgikimbafakmcaaGreatDoor
open Go.RowKit Pl
open Lib (hid)
def nkey (C : List Int) (f : Nat -> List S) (p : Nat) : Int × List Int := (C.getD p 0, nf ltI ((f p).map (sgv C)))
def RAs (ab n : Nat) (g : Nat -> Value) : Rw := ⟨3, 1, .slice (some ⟨ab, 0, none⟩) n n, n, (List.range n).map g⟩
theorem FR.rest {ob m j : Nat} {vs : Nat -> Value} {f : Nat -> List Int} {rest : List Rw} : (FR ob m vs f ++ rest)[m + 1 + j]? = rest[j]? := by
 have hl : (FR ob m vs f).length = m + 1 := by unfold FR; simp
 rw [List.getElem?_append_right (by omega), hl, show m + 1 + j - (m + 1) = j by omega]
theorem FR.setRest {ob m j : Nat} {vs : Nat -> Value} {f : Nat -> List Int} {rest : List Rw} {r : Rw} : (FR ob m vs f ++ rest).set (m + 1 + j) r = FR ob m vs f ++ rest.set j r := by
 have hl : (FR ob m vs f).length = m + 1 := by unfold FR; simp
 rw [List.set_append_right _ _ (by omega), hl, show m + 1 + j - (m + 1) = j by omega]
theorem rasMade {w0 w : World} {L : List Rw} (h : Rws w0 w L) {n : Nat} (hn : n <= 1000) : Rws w0 (w.alloc (.cells (madeCells #[.int .i64 0] n) 3)) (RAs w.heap.size n (fun _ => .int .i64 0) :: L) := by
 have h2 := h.addLit (madeCells #[.int .i64 0] n) 3 (k := 1) (n := n) (by unfold maxLen; omega) (by simp [size_madeCells])
 have e : (madeCells #[.int .i64 0] n).toList = (List.range n).map (fun _ => (.int .i64 0 : Value)) := by (
 rw [toList_madeCells_one]
 apply List.ext_getElem?
 intro i
 by_cases hi : i < n <;> simp [hi])
 rw [e] at h2
 exact h2
theorem grown_none {w w' : World} (hB : Below w.heap.size w w') : w.grownBy w' none := ⟨hB.os, hB.tape, hB.output, hB.size, fun i hi _ => hB.block i hi⟩
def NXR (sb n : Nat) (vs : Nat -> Value) (fq : Nat -> List Int) (v : Value) (m : Nat) (D : List Int) (ab : Nat) (g : Nat -> Value) : List Rw := FR sb n vs fq ++ [RIg v m D, RAs ab n g]
set_option maxRecDepth 100000 in
set_option maxHeartbeats 8000000 in
theorem refNext_any {w : World} {f : Nat -> List S} {C : List Int} {n : Nat} (hcl : C.length = n) (hn1 : n <= 1000) {ob c : Nat} (hF : StepsIn w ob n f) (hfo : ∀ p, p < n -> (f p).length <= 20000 /\ ∀ x ∈ f p, 0 <= x.1 /\ x.1 <= 201 /\ 0 <= x.2 /\ x.2 < (n : Int))
    {ca : Option Addr} {cb co cc : Nat} (hC : SlAt encI 1 w ca cb co C) (hcr : ∀ x ∈ C, 0 <= x /\ x <= 1000) :
    Calls Tryz.prog 114 #[.slice (some ⟨ob, 0, none⟩) n c, .slice ca n cc] w fun e w' => ∃ nb, e = .returned (.slice (some ⟨nb, 0, none⟩) n n) /\ SlAt encI 1 w' (some ⟨nb, 0, none⟩) nb 0 (fl n (clf n (fun i => (rep (nkey C f) i : Int)))) /\ w.heap.size <= nb /\ Below w.heap.size w w' := by
 have hmk := run_make_row' (P := Tryz.prog) 58 3 (.int .i64 0) 8 Tryz.underlying58 (by kernel_rfl) rfl .i64 .i64 n (by omega) (by omega)
 have hmk2 := run_make_row' (P := Tryz.prog) 32 58 (.slice none 0 0) 24 Tryz.underlying32 (by kernel_rfl) rfl .i64 .i64 n (by omega) (by omega)
 have HCL := hid hcl; have HF := hid hF; have HFO := hid hfo; have HC := hid hC; have HCR := hid hcr
 clear hcl hF hfo hC hcr
 go_enter Tryz.func114, Tryz.ntmps114
 go_wp2_with fail
 obtain ⟨w2, hw2⟩ : ∃ w2, w2 = (w.alloc (.cells (madeCells #[.int .i64 0] n) 3)).alloc (.cells (madeCells #[.slice none 0 0] n) 58) := ⟨_, rfl⟩
 have hr2 : Rws w w2 (NXR (w.heap.size + 1) n (fun _ => .slice none 0 0) (fun _ => []) (.slice none 0 0) 0 [] w.heap.size (rowAtK (repL (nkey C f) n) 0)) := by (
 have h1 := (((rasMade (Rws.nil (Below.refl w.heap.size w)) hn1).addNil 3 1).frMade (m := n) (by unfold maxLen; omega))
 rw [show (w.alloc (.cells (madeCells #[.int .i64 0] n) 3)).heap.size = w.heap.size + 1 by simp, <- hw2] at h1
 have e : RAs w.heap.size n (rowAtK (repL (nkey C f) n) 0) = RAs w.heap.size n (fun _ => .int .i64 0) := by
   unfold RAs
   congr 1
 unfold NXR
 rw [e]
 exact h1)
 rw [<- hw2]
 obtain ⟨ab, hab⟩ : ∃ ab, ab = w.heap.size := ⟨_, rfl⟩
 rw [<- hab] at hr2 ⊢
 obtain ⟨sb, hsb⟩ : ∃ sb, sb = ab + 1 := ⟨_, rfl⟩
 rw [<- hsb] at hr2 ⊢
 have HR2 := hid hr2; have HAB := hid hab; have HSBB := hid hsb
 clear hw2 hr2 hab hmk hmk2 hsb
 go_loopw [5, 8, 9] (fun v5 v8 _ wr => ∃ (i m : Nat) (oa : Option Addr) (oc : Nat) (vs : Nat -> Value), v8 = .int .i64 i /\ i <= n /\ v5 = .slice oa m oc /\ m = (dist (repL (nkey C f) i)).length /\ (∀ p, i <= p -> vs p = .slice none 0 0) /\ Rws w wr (NXR sb n vs (fun p => if p < i then (nkey C f p).2 else []) (.slice oa m oc) m (dist (repL (nkey C f) i)) ab (rowAtK (repL (nkey C f) n) i))) (fun _ v8 _ _ => n - (intOf v8).toNat)
 case atStart => exact ⟨0, 0, none, 0, _, rfl, Nat.zero_le _, rfl, rfl, fun p _ => rfl, by simpa [repL, fl, dist] using HR2.out⟩
 case round => (
 obtain ⟨i, m, oa, oc, vs, rfl, hi, rfl, hm, hvn, hR⟩ := hrel
 have HM := hid hm; have HVN := hid hvn; have HR := hid hR
 clear hm hvn hR HR2
 by_cases hin : i < n
 · (
 have hiI : (i : Int) < (n : Int) := by omega
 obtain ⟨ra, rc, rb, ro, hr0, hrs⟩ := (HF.out.below HR.out.bel).at_ i hin
 have hol := (HF.out.below HR.out.bel).lt
 have hcs := HC.out.below HR.out.bel (Nat.le_refl _)
 have hsg := refSig_any (c := rc) (cc := cc) hrs hcs (HFO.out i hin).1 (by have := HCL.out; omega) (by have := HCL.out; rw [this]; exact (HFO.out i hin).2) HCR.out
 rw [HCL.out] at hsg
 obtain ⟨fl1, hfl1⟩ : ∃ fl1, fl1 = (f i).length := ⟨_, rfl⟩
 rw [<- hfl1] at hr0 hsg
 have HSG := hid hsg
 clear hrs hcs hsg hfl1
 go_wp2_with fail
 refine HSG.out.mono ?_
 rintro e w5 ⟨v, rfl, hown, hB5⟩
 obtain ⟨va, vc, vb, rfl, _, _, _, _⟩ := slAt_own lenI hown
 obtain ⟨sl, hsl⟩ : ∃ sl, sl = (nf ltI ((f i).map (sgv C))).length := ⟨_, rfl⟩
 have HSL := hid hsl
 rw [<- hsl] at hown ⊢
 obtain ⟨v, hv⟩ : ∃ v : Value, v = .slice va sl vc := ⟨_, rfl⟩
 rw [<- hv] at hown
 have HV := hid hv
 clear hsl hv
 have hgr := HR.out.frGrow (Below.refl _ _) hin (v' := v) (ys := (nkey C f i).2) (own_mono (by have h := hown; rw [HSL.out] at h; exact h) HR.out.bel.size) (by rw [HVN.out i (Nat.le_refl _)]; exact grown_none hB5) (fun g hg => .inr (hown.lt g hg).1)
 obtain ⟨s0, s1, s2, hr5⟩ := hgr
 have hvn2 : ∀ p, i + 1 <= p -> upd vs i v p = .slice none 0 0 := fun p hp => by unfold upd; rw [if_neg (by omega)]; exact HVN.out p (by omega)
 have hfe : upd (fun p => if p < i then (nkey C f p).2 else []) i (nkey C f i).2 = fun p => if p < i + 1 then (nkey C f p).2 else [] := by (
 funext p
 unfold upd
 by_cases e : p = i
 · subst e; rw [if_pos rfl, if_pos (by omega)]
 · rw [if_neg e]
   dsimp only
   by_cases e2 : p < i
   · rw [if_pos e2, if_pos (by omega)]
   · rw [if_neg e2, if_neg (by omega)])
 rw [hfe] at hr5
 rw [HV.out] at hr5
 rw [HV.out] at hvn2
 obtain ⟨vs2, hvs2⟩ : ∃ vs2, vs2 = upd vs i (.slice va sl vc) := ⟨_, rfl⟩
 rw [<- hvs2] at hr5 hvn2
 have HR5 := hid hr5; have HVN2 := hid hvn2
 clear hr5 hvn2 hfe hvs2 hown hB5 HR HVN HSG hr0 hol
 go_wp2_with fail
 clear s0 s1 s2
 go_loopw [9] (fun v9 wk => ∃ k : Nat, v9 = .int .i64 k /\ k <= m /\ (∀ j q : Nat, j < k -> (dist (repL (nkey C f) i))[j]? = some (q : Int) -> nkey C f q ≠ nkey C f i) /\ Rws w wk (NXR sb n vs2 (fun p => if p < i + 1 then (nkey C f p).2 else []) (.slice oa m oc) m (dist (repL (nkey C f) i)) ab (rowAtK (repL (nkey C f) n) i))) (fun v9 _ => m - (intOf v9).toNat)
 case atStart => exact ⟨0, rfl, Nat.zero_le _, fun j q h => by omega, HR5.out⟩
 case round => (
 obtain ⟨k, rfl, hk, hno, hR⟩ := hrel
 have HNO := hid hno; have HR := hid hR
 clear hno hR HR5
 have hml := HM.out
 have hmi : m <= i := by rw [hml]; have := dist_len (repL (nkey C f) i); unfold repL at this ⊢; rw [fl_len] at this; exact this
 by_cases hkm : k < m
 · (
 have hkI : (k : Int) < (m : Int) := by omega
 obtain ⟨x, hx⟩ := getElem?_of_lt (xs := dist (repL (nkey C f) i)) (i := k) (by omega)
 obtain ⟨q, hqi, rfl, hqr⟩ := mem_rep.1 (List.mem_of_getElem? hx)
 have hqn : q < n := by omega
 obtain ⟨fg, fc, hv, _, _, _, hfl⟩ := HR.out.form (i := n + 1 + 0) (by unfold NXR; rw [FR.rest]; rfl) (by omega)
 simp only [Value.slice.injEq] at hv
 obtain ⟨rfl, _, rfl⟩ := hv
 have f0 := HR.out.cell (i := n + 1 + 0) (by unfold NXR; rw [FR.rest]; rfl) (flatI_get hx)
 have hcs := HC.out.below HR.out.bel (Nat.le_refl _)
 have hcl2 := HCL.out
 obtain ⟨y1, hy1⟩ := getElem?_of_lt (xs := C) (i := q) (by omega)
 obtain ⟨y2, hy2⟩ := getElem?_of_lt (xs := C) (i := i) (by omega)
 obtain rfl := hcs.ad (by omega)
 have c1 := hcs.ci hy1; have c2 := hcs.ci hy2; have cl := hcs.lt (by omega)
 have hk1 : (nkey C f q).1 = y1 := by unfold nkey; rw [List.getD_eq_getElem?_getD, hy1]; rfl
 have hk2 : (nkey C f i).1 = y2 := by unfold nkey; rw [List.getD_eq_getElem?_getD, hy2]; rfl
 obtain ⟨s1, _, s3, _⟩ := HR.out.frCell hqn
 obtain ⟨s2, _, _, _⟩ := HR.out.frCell hin
 have o1 := HR.out.frOwn hqn; have o2 := HR.out.frOwn hin
 rw [if_pos (by omega)] at o1 o2
 obtain ⟨qa, qc, qb, hvq, _, _, hsq, _⟩ := slAt_own lenI o1
 obtain ⟨ia, ic, ib, hvi, _, _, hsi, _⟩ := slAt_own lenI o2
 rw [hvq] at s1; rw [hvi] at s2
 have hsl1 : (nkey C f q).2.length <= 20000 := by unfold nkey; refine Nat.le_trans (length_nf (lt := ltI) _) ?_; rw [List.length_map]; exact (HFO.out q hqn).1
 have hsl2 : (nkey C f i).2.length <= 20000 := by unfold nkey; refine Nat.le_trans (length_nf (lt := ltI) _) ?_; rw [List.length_map]; exact (HFO.out i hin).1
 have hsame : ∀ u, Calls Tryz.prog 136 #[.slice qa (nkey C f q).2.length qc, .slice ia (nkey C f i).2.length ic] (wr.drewN u) fun e w' => e = .returned (.bool (decide ((nkey C f q).2 = (nkey C f i).2))) /\ ∃ m, w' = (wr.drewN u).drewN m := fun u =>
   refSame7_any (hsq.below (bdrew (Below.refl _ _)) (Nat.le_refl _)) (hsi.below (bdrew (Below.refl _ _)) (Nat.le_refl _)) (by omega) (by omega)
 have HSM := hid hsame
 obtain ⟨q1, hq1⟩ : ∃ q1, q1 = (nkey C f q).2.length := ⟨_, rfl⟩
 obtain ⟨q2, hq2⟩ : ∃ q2, q2 = (nkey C f i).2.length := ⟨_, rfl⟩
 rw [<- hq1, <- hq2] at HSM
 rw [<- hq1] at s1; rw [<- hq2] at s2
 have hqI : (q : Int) < (n : Int) := by omega
 have HX := hid hx; have HK1 := hid hk1; have HK2 := hid hk2
 clear hx hqr hcs hcl2 hy1 hy2 hk1 hk2 o1 o2 hvq hvi hsq hsi hsl1 hsl2 hsame hq1 hq2 hml
 by_cases hyy : y1 = y2
 · (
 have hb : (y1 != y2) = false := by simp [hyy]
 have HYY := hid hyy
 clear hyy
 by_cases hse : (nkey C f q).2 = (nkey C f i).2
 · (
 have hkey : nkey C f q = nkey C f i := Prod.ext (by rw [HK1.out, HK2.out, HYY.out]) hse
 obtain ⟨hfm, hfi⟩ := rep_found HX.out hkey
 have HFM := hid hfm; have HFI := hid hfi
 have HSE := hid (decide_eq_true hse)
 have a0 := HR.out.cell (i := n + 1 + 1) (by unfold NXR; rw [FR.rest]; rfl) (j := i) (u := rowAtK (repL (nkey C f) n) i i) (by rw [List.getElem?_map, List.getElem?_range hin]; rfl)
 have a1 := HR.out.fz (i := n + 1 + 1) (by unfold NXR; rw [FR.rest]; rfl) i
 have al := (HR.out.lt (i := n + 1 + 1) (by unfold NXR; rw [FR.rest]; rfl)).2
 have hd : dist (repL (nkey C f) (i + 1)) = dist (repL (nkey C f) i) := by
   rw [<- repL_take (show i + 1 <= n by omega), take_snoc (repL_get hin), repL_take (by omega), dist_snoc]; unfold addN; rw [if_pos hfm]
 have HST : Hid (∀ u, Rws w ((wr.drewN u).setCell ⟨ab, i, none⟩ (.int .i64 (k : Int))) (NXR sb n vs2 (fun p => if p < i + 1 then (nkey C f p).2 else []) (.slice (some ⟨fg, 0, none⟩) m oc) m (dist (repL (nkey C f) (i + 1))) ab (rowAtK (repL (nkey C f) n) (i + 1)))) := hid (fun u => by (
 have hst := (HR.out.drewN u).set (n + 1 + 1) (by unfold NXR; rw [FR.rest]; rfl) i (.int .i64 (k : Int))
 unfold NXR at hst
 rw [FR.setRest] at hst
 have e : ((List.range n).map (rowAtK (repL (nkey C f) n) i)).set i (.int .i64 (k : Int)) = (List.range n).map (rowAtK (repL (nkey C f) n) (i + 1)) := by (
 rw [range_map_set]
 apply List.map_congr_left
 intro p _
 have h := rowAtK_step (repL_get (key := nkey C f) hin) p
 rw [repL_take (by omega), hd, hfi] at h
 exact h)
 rw [hd]
 unfold NXR RAs
 rw [<- e]
 exact hst))
 have HMD : Hid (m = (dist (repL (nkey C f) (i + 1))).length) := hid (by rw [hd]; exact HM.out)
 have hkm2 : ¬ k = m := by omega
 clear hse hkey hfm hfi hd
 go_wp2_with fail
 go_region_held3 (fun w' => w'.cell? ⟨fg, k, none⟩ = some (.int .i64 (q : Int)) /\ w'.cell? ⟨cb, co + q, none⟩ = some (.int .i64 y1) /\ w'.cell? ⟨cb, co + i, none⟩ = some (.int .i64 y2) /\ w'.cell? ⟨sb, q, none⟩ = some (.slice qa q1 qc) /\ w'.cell? ⟨sb, i, none⟩ = some (.slice ia q2 ic))
   (first | exact ⟨f0, c1, c2, s1, s2⟩ | assumption)
   ((go_at_call 136; refine (HSM.out _).mono ?_; rintro e w7 ⟨rfl, mm, rfl⟩; rw [HSE.out]))
 go_wp2_with fail
 go_roundw
 case rel => exact ⟨i + 1, m, _, _, vs2, by go_num, by omega, rfl, HMD.out, HVN2.out, HST.out _⟩
 case measure => simp [intOf]; omega)
 · (
 have HSE := hid (decide_eq_false hse)
 have HNK : Hid (nkey C f q ≠ nkey C f i) := hid (fun e => hse (by rw [e]))
 clear hse
 go_wp2_with fail
 go_region_held3 (fun w' => w'.cell? ⟨fg, k, none⟩ = some (.int .i64 (q : Int)) /\ w'.cell? ⟨cb, co + q, none⟩ = some (.int .i64 y1) /\ w'.cell? ⟨cb, co + i, none⟩ = some (.int .i64 y2) /\ w'.cell? ⟨sb, q, none⟩ = some (.slice qa q1 qc) /\ w'.cell? ⟨sb, i, none⟩ = some (.slice ia q2 ic))
   (first | exact ⟨f0, c1, c2, s1, s2⟩ | assumption)
   ((go_at_call 136; refine (HSM.out _).mono ?_; rintro e w7 ⟨rfl, mm, rfl⟩; rw [HSE.out]))
 go_wp2_with fail
 go_roundw
 case rel => exact ⟨k + 1, by go_num, by omega, fun j q' hj hq' => by (
 rcases Nat.eq_or_lt_of_le (show j <= k by omega) with e | e
 · subst e; rw [HX.out] at hq'; have := Option.some.inj hq'; obtain rfl : q = q' := by omega
   exact HNK.out
 · exact HNO.out j q' e hq'), HR.out.drewN _⟩
 case measure => simp [intOf]; omega))
 · (
 have hb : (y1 != y2) = true := by simp [hyy]
 have HNK : Hid (nkey C f q ≠ nkey C f i) := hid (fun e => hyy (by rw [<- HK1.out, <- HK2.out, e]))
 clear hyy
 go_wp2_with fail
 go_quiet (fail)
 go_wp2_with fail
 go_roundw
 case rel => exact ⟨k + 1, by go_num, by omega, fun j q' hj hq' => by (
 rcases Nat.eq_or_lt_of_le (show j <= k by omega) with e | e
 · subst e; rw [HX.out] at hq'; have := Option.some.inj hq'; obtain rfl : q = q' := by omega
   exact HNK.out
 · exact HNO.out j q' e hq'), HR.out.drewN _⟩
 case measure => simp [intOf]; omega))
 · (
 obtain rfl : m = k := by omega
 obtain ⟨hri, hrn⟩ := rep_new (key := nkey C f) (i := i) (fun j q hq => HNO.out j q (by have := (List.getElem?_eq_some_iff.1 hq).1; omega) hq)
 have hd : dist (repL (nkey C f) (i + 1)) = dist (repL (nkey C f) i) ++ [(i : Int)] := by
   rw [<- repL_take (show i + 1 <= n by omega), take_snoc (repL_get hin), repL_take (by omega), dist_snoc]; unfold addN; rw [if_neg hrn, hri]
 have hix : (dist (repL (nkey C f) (i + 1))).idxOf (i : Int) = m := by (
 rw [hd, List.idxOf_append]
 rw [hri] at hrn
 simp [hrn, HM.out])
 have HD := hid hd; have HIX := hid hix; have HRI := hid hri
 have HMD : Hid (m + 1 = (dist (repL (nkey C f) (i + 1))).length) := hid (by rw [hd, List.length_append, HM.out]; rfl)
 have hws := HR.out.bel.size
 have hmi2 : m <= 1000 := by omega
 clear hri hrn hd hix hml
 go_wp2_with fail
 go_quiet (fail)
 have HRN := hid (HR.out.drewN nq)
 obtain ⟨lw, hlw⟩ : ∃ lw, lw = wr.drewN nq := ⟨_, rfl⟩
 have hws2 : w.heap.size <= lw.heap.size := by rw [hlw]; exact hws
 rw [<- hlw] at HRN ⊢
 have HOWN : Hid (∀ o : Obj, (lw.alloc o).ownsRow w.heap.size 3 1 (.slice oa m oc) m ((dist (repL (nkey C f) i)).flatMap encI)) := hid (fun o => (HRN.out.alloc o).get (i := n + 1 + 0) (by unfold NXR; rw [FR.rest]; rfl))
 have KP : Hid (∀ (w7 : World) (g2 cap2 : Nat), w7.ownsRow w.heap.size 3 1 (.slice (some ⟨g2, 0, none⟩) (m + 1) cap2) (m + 1) ((dist (repL (nkey C f) i)).flatMap encI ++ [.int .i64 (i : Int)]) -> (lw.alloc (.cells #[.int .i64 (i : Int)] 3)).grownBy w7 (Value.slice oa m oc).ownBlock -> ((Value.slice oa m oc).ownBlock = some g2 ∨ lw.heap.size <= g2) ->
     Rws w w7 (NXR sb n vs2 (fun p => if p < i + 1 then (nkey C f p).2 else []) (.slice (some ⟨g2, 0, none⟩) (m + 1) cap2) (m + 1) (dist (repL (nkey C f) (i + 1))) ab (rowAtK (repL (nkey C f) n) i))) := hid (fun w7 g2 cap2 ho hg hl => by
   have h := HRN.out.grown (w2 := lw.alloc (.cells #[.int .i64 (i : Int)] 3)) ((Below.refl _ _).alloc (Nat.le_refl _) _) (n + 1 + 0) (by unfold NXR; rw [FR.rest]; rfl) ho hg (fun g hg => by simp only [Value.ownBlock, Option.some.injEq] at hg; subst hg; exact hl)
   unfold NXR at h
   rw [FR.setRest] at h
   unfold NXR
   have e : RIg (.slice (some ⟨g2, 0, none⟩) (m + 1) cap2) (m + 1) (dist (repL (nkey C f) (i + 1))) = ⟨3, 1, .slice (some ⟨g2, 0, none⟩) (m + 1) cap2, m + 1, (dist (repL (nkey C f) i)).flatMap encI ++ [.int .i64 (i : Int)]⟩ := by
     unfold RIg; rw [HD.out, List.flatMap_append]; rfl
   rw [e]
   exact h)
 have HST : Hid (∀ (w7 : World) (v : Value), Rws w w7 (NXR sb n vs2 (fun p => if p < i + 1 then (nkey C f p).2 else []) v (m + 1) (dist (repL (nkey C f) (i + 1))) ab (rowAtK (repL (nkey C f) n) i)) -> Rws w (w7.setCell ⟨ab, i, none⟩ (.int .i64 (m : Int))) (NXR sb n vs2 (fun p => if p < i + 1 then (nkey C f p).2 else []) v (m + 1) (dist (repL (nkey C f) (i + 1))) ab (rowAtK (repL (nkey C f) n) (i + 1)))) := hid (fun w7 v h => by (
 have hst := h.set (n + 1 + 1) (by unfold NXR; rw [FR.rest]; rfl) i (.int .i64 (m : Int))
 unfold NXR at hst
 rw [FR.setRest] at hst
 have e : ((List.range n).map (rowAtK (repL (nkey C f) n) i)).set i (.int .i64 (m : Int)) = (List.range n).map (rowAtK (repL (nkey C f) n) (i + 1)) := by (
 rw [range_map_set]
 apply List.map_congr_left
 intro p _
 have h := rowAtK_step (repL_get (key := nkey C f) hin) p
 rw [repL_take (by omega), HRI.out, HIX.out] at h
 exact h)
 unfold NXR RAs
 rw [<- e]
 exact hst))
 clear hlw hws
 go_wp2_with (at_builtin; refine wpList_lie rfl _ _ _ rfl rowI (base := w.heap.size) (by simp; omega) rfl (HOWN.out _) ⟨lw.heap.size, 0, none⟩ 1 1 [.int .i64 (i : Int)] rfl rfl (cells1 (by simp [go_sem])) (by simp [Value.oneCell']) (by decide) (by omega) (by unfold maxLen; omega) lw.heap.size (by simp) ?_; intro g2 cap2 w7 hown7 hg7 hl7 hlt7; have hr7 := KP.out w7 g2 cap2 hown7 hg7 hl7; have a0 := hr7.cell (i := n + 1 + 1) (by unfold NXR; rw [FR.rest]; rfl) (j := i) (u := rowAtK (repL (nkey C f) n) i i) (by rw [List.getElem?_map, List.getElem?_range hin]; rfl); have a1 := hr7.fz (i := n + 1 + 1) (by unfold NXR; rw [FR.rest]; rfl) i; have al := (hr7.lt (i := n + 1 + 1) (by unfold NXR; rw [FR.rest]; rfl)).2; have HR7 := hid hr7; clear hr7 hown7 hg7 hl7)
 go_roundw
 case rel => exact ⟨i + 1, m + 1, _, _, vs2, by go_num, by omega, rfl, HMD.out, HVN2.out, HST.out _ _ HR7.out⟩
 case measure => simp [intOf]; omega)))
 · (
 obtain rfl : n = i := by omega
 have hfin : SlAt encI 1 wr (some ⟨ab, 0, none⟩) ab 0 (fl n (clf n (fun i => (rep (nkey C f) i : Int)))) := by (
 have e : (List.range n).map (rowAtK (repL (nkey C f) n) n) = (fl n (clf n (fun i => (rep (nkey C f) i : Int)))).flatMap encI := by (
 rw [flatIk]; unfold fl; rw [List.map_map]
 apply List.map_congr_left
 intro j hj
 exact rowAtK_all (List.mem_range.1 hj))
 obtain ⟨a1, c1, b1, hv, _, _, hs, _⟩ := HR.out.sl (i := n + 1 + 1) (α := Int) (enc := encI) (T := 3) (k := 1) (v := .slice (some ⟨ab, 0, none⟩) n n) (n := n) (ys := fl n (clf n (fun i => (rep (nkey C f) i : Int)))) (by unfold NXR; rw [FR.rest]; show some (RAs _ _ _) = _; unfold RAs; rw [e]) lenI (by rw [fl_len])
 simp only [Value.slice.injEq] at hv
 obtain ⟨rfl, _, _⟩ := hv
 by_cases hn0 : n = 0
 · subst hn0
   exact ⟨fun _ => rfl, fun h => by simp [fl] at h, fun i x hx => by simp [fl] at hx⟩
 · have := hs.ad (by rw [fl_len]; omega)
   simp only [Option.some.injEq, Addr.mk.injEq, and_true] at this
   obtain rfl := this
   exact hs)
 have HFN := hid hfin
 clear hfin
 go_wp2_with fail
 go_ret
 exact ⟨ab, rfl, HFN.out, by have := HAB.out; omega, HR.out.bel⟩))
end Go.Proofs.YtgikimbafakmcaaGreatDoor

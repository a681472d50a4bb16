/-
  Lemmas.
-/
import Derived.Test.YtjchdegapadepaaGreatDoorGTauK
import Derived.Test.YtjchdegapadepaaGreatDoorRf12S
import Derived.Test.YtjchdegapadepaaGreatDoorGForms
import Derived.Test.YtjchdegapadepaaGreatDoorGRefSig
namespace Go.Proofs.YtjchdegapadepaaGreatDoor
open Go.RowKit Pl
open Lib (hid)
noncomputable def key12 (s : Lts) (C : Nat -> Int) (n p : Nat) : Int × List S := (C p, stp12 s C n p)
theorem p1c {s : Lts} (hr : s.Right) (C : Nat -> Int) (n p : Nat) : (stp12 s C n p).length <= 10000 := by
 unfold stp12 sigR
 rw [List.length_map]
 have h1 := j0s (lt := ltE) (sigE s.norm C (G12 s C p) p n)
 have h2 := x1o s.norm C (G12 s C p) p n
 have h3 := hr.norm.st0
 omega
set_option maxRecDepth 100000 in
set_option maxHeartbeats 16000000 in
theorem y0u {s : Lts} {n : Nat} (hr : s.Right) (hn : s.st = (n : Int)) {a : Option Addr} {b off c : Nat} {w : World} (hS : SlAt encE 3 w a b off s.es) (hc : s.es.length <= c) (hcm : c <= maxLen) :
    Calls Tryz.prog 12 #[.agg #[.int .i64 s.st, .int .i64 s.lb, .int .i64 s.s0, .slice a s.es.length c]] w fun e w' => ∃ (cb : Nat) (C : Nat -> Int), e = .returned (.slice (some ⟨cb, 0, none⟩) n n) /\ SlAt encI 1 w' (some ⟨cb, 0, none⟩) cb 0 (fl n C) /\ BrBig s n C /\ canon (fl n C) = fl n C /\ w.heap.size <= cb /\ Below w.heap.size w w' := by
 have hst := hr.st0
 have hn1 : n <= 1000 := by omega
 have hmk := run_make_row' (P := Tryz.prog) 27 3 (.int .i64 0) 8 Tryz.underlying27 (by kernel_rfl) rfl .i64 .i64 n (by omega) (by omega)
 obtain ⟨W, hW⟩ : ∃ W, W = w.alloc (Obj.cells #[.int .i64 s.st, .int .i64 s.lb, .int .i64 s.s0, .slice a s.es.length c] 24) := ⟨_, rfl⟩
 have hB0 : Below w.heap.size w W := by rw [hW]; exact (Below.refl w.heap.size w).alloc (Nat.le_refl _) _
 have hbx := heap_alloc_new w (Obj.cells #[.int .i64 s.st, .int .i64 s.lb, .int .i64 s.s0, .slice a s.es.length c] 24)
 rw [<- hW] at hbx
 have hsw : w.heap.size + 1 = W.heap.size := by rw [hW]; simp
 have HSTP : Hid (∀ V, Below W.heap.size W V -> ∀ (C : Nat -> Int) (cb : Nat), SlAt encI 1 V (some ⟨cb, 0, none⟩) cb 0 (fl n C) -> Calls Tryz.prog 25 #[.agg #[.int .i64 s.st, .int .i64 s.lb, .int .i64 s.s0, .slice a s.es.length c], .slice (some ⟨cb, 0, none⟩) n n] V fun e w' => ∃ (tb base : Nat), e = .returned (.slice (some ⟨tb, 0, none⟩) n n) /\ OwnRows encS 2 80 60 w' base tb n (stp12 s C n) /\ V.heap.size <= tb /\ Below V.heap.size V w') := hid (fun V hV C cb hC => v0w hr hn hC ((hS.below hB0 (Nat.le_refl _)).below hV (Nat.le_refl _)) hc hcm)
 obtain ⟨el, hel⟩ : ∃ el, el = s.es.length := ⟨_, rfl⟩
 rw [hn, <- hel] at HSTP hbx hW
 rw [hn, <- hel]
 have HWE := hid hW; have HB0 := hid hB0; have HBX := hid hbx; have HR0 := hid hr; have HN := hid hn; have HSW := hid hsw
 have HK : Hid (∀ V, Below W.heap.size W V -> (V.cell? ⟨w.heap.size, 0, none⟩ = some (.int .i64 (n : Int)) /\ V.cell? ⟨w.heap.size, 1, none⟩ = some (.int .i64 s.lb) /\ V.cell? ⟨w.heap.size, 2, none⟩ = some (.int .i64 s.s0) /\ V.cell? ⟨w.heap.size, 3, none⟩ = some (.slice a el c)) /\ w.heap.size < V.heap.size) := hid (fun V hV => by (
 have hx := (hV.block w.heap.size (by omega)).trans hbx
 obtain ⟨z0, z1, z2, z3, z4⟩ := x0v hx
 exact ⟨⟨z0, z1, z2, z3⟩, z4⟩))
 obtain ⟨x0, x1, x2, x3, x4⟩ := x0v hbx
 clear hW hB0 hbx hr hn hS hc hcm hst hel hsw
 go_enter Tryz.func12, Tryz.ntmps12
 go_wp2_with fail
 rw [<- HWE.out]
 obtain ⟨w1, hw1⟩ : ∃ w1, w1 = W.alloc (.cells (madeCells #[.int .i64 0] n) 3) := ⟨_, rfl⟩
 have hrow : w1.rowIs W.heap.size 3 n (fun _ => .int .i64 0) := by rw [hw1]; exact World.rowIs_made W (.int .i64 0) n 3
 have hb1 : Below W.heap.size W w1 := by rw [hw1]; exact (Below.refl _ _).alloc (Nat.le_refl _) _
 rw [<- hw1]
 rw [<- HSW.out] at hrow
 have HROW := hid (q0u (n := n) (f := fun _ => 0) hrow); have HB1 := hid hb1
 clear hw1 hrow hb1 x0 x1 x2 x3 x4
 go_loopg [3, 4, 5, 6, 7, 8] (n + 1) (fun g v3 _ _ _ _ _ wr => ∃ (cb : Nat) (C : Nat -> Int), n + 1 <= g + (dist (fl n C)).length /\ v3 = .slice (some ⟨cb, 0, none⟩) n n /\ SlAt encI 1 wr (some ⟨cb, 0, none⟩) cb 0 (fl n C) /\ Holds s n C /\ canon (fl n C) = fl n C /\ W.heap.size <= cb /\ Below W.heap.size W wr)
 case atStart => exact ⟨w.heap.size + 1, fun _ => 0, by omega, rfl, HROW.out, fun _ _ _ _ _ _ _ => rfl, x0f n, by have := HSW.out; omega, HB1.out⟩
 case round => (
 obtain ⟨cb, C, hgk, rfl, hrow, hro, hca, hcl, hB⟩ := hrel
 obtain ⟨wA, hwA⟩ : ∃ wA, wA = wr := ⟨_, rfl⟩
 subst hwA
 have hsr := HSTP.out _ hB C cb hrow
 obtain ⟨⟨x0, x1, x2, x3⟩, x4⟩ := HK.out _ hB
 have HROWC := hid hrow; have HRO := hid hro; have HCA := hid hca; have HB := hid hB; have HSR := hid hsr
 have hws := hB.size
 clear hrow hro hca hB HROW HB1 hsr
 go_wp2_with fail
 refine HSR.out.mono ?_
 rintro e w2 ⟨tb, base, rfl, hrows, htb, hB2⟩
 have HF := hid (StepsIn.of hrows)
 have HB2 := hid (HB.out.trans (hB2.mono hws))
 have HC2 := hid (HROWC.out.below hB2 (Nat.le_refl _))
 clear hrows hB2 HSR x0 x1 x2 x3 x4 htb HROWC
 obtain ⟨⟨x0, x1, x2, x3⟩, x4⟩ := HK.out _ HB2.out
 clear x1 x2 x3
 go_wp2_with fail
 obtain ⟨w3, hw3⟩ : ∃ w3, w3 = w2.alloc (.cells (madeCells #[.int .i64 0] n) 3) := ⟨_, rfl⟩
 have hr3 : Rws w2 w3 [RIg (.slice none 0 0) 0 [], RAs w2.heap.size n (rowAtK (repL (key12 s C n) n) 0)] := by (
 have h1 := (k2w (Rws.nil (Below.refl w2.heap.size w2)) hn1).addNil 3 1
 rw [<- hw3] at h1
 have e : RAs w2.heap.size n (rowAtK (repL (key12 s C n) n) 0) = RAs w2.heap.size n (fun _ => .int .i64 0) := by
   unfold RAs
   congr 1
 rw [e]
 exact h1)
 rw [<- hw3]
 obtain ⟨ab, hab⟩ : ∃ ab, ab = w2.heap.size := ⟨_, rfl⟩
 rw [<- hab] at hr3 ⊢
 have HR3 := hid hr3; have HAB := hid hab
 clear hw3 hr3 hab x0 x4
 go_loopw [5, 7, 8] (fun v5 v7 _ wr => ∃ (i m : Nat) (oa : Option Addr) (oc : Nat), v7 = .int .i64 i /\ i <= n /\ v5 = .slice oa m oc /\ m = (dist (repL (key12 s C n) i)).length /\ Rws w2 wr [RIg (.slice oa m oc) m (dist (repL (key12 s C n) i)), RAs ab n (rowAtK (repL (key12 s C n) n) i)]) (fun _ v7 _ _ => n - (intOf v7).toNat)
 case atStart => exact ⟨0, 0, none, 0, rfl, Nat.zero_le _, rfl, rfl, by simpa [repL, fl, dist] using HR3.out⟩
 case round => (
 obtain ⟨i, m, oa, oc, rfl, hi, rfl, hm, hR⟩ := hrel
 have HM := hid hm; have HR' := hid hR
 obtain ⟨⟨x0, x1, x2, x3⟩, x4⟩ := HK.out _ (HB2.out.trans (hR.bel.mono HB2.out.size))
 clear hm hR HR3 x1 x2 x3
 by_cases hin : i < n
 · (
 have hiI : (i : Int) < (n : Int) := by omega
 go_wp2_with fail
 clear x0 x4
 go_loopw [8] (fun v8 wk => ∃ k : Nat, v8 = .int .i64 k /\ k <= m /\ (∀ j q : Nat, j < k -> (dist (repL (key12 s C n) i))[j]? = some (q : Int) -> key12 s C n q ≠ key12 s C n i) /\ Rws w2 wk [RIg (.slice oa m oc) m (dist (repL (key12 s C n) i)), RAs ab n (rowAtK (repL (key12 s C n) n) i)]) (fun v8 _ => m - (intOf v8).toNat)
 case atStart => exact ⟨0, rfl, Nat.zero_le _, fun j q h => by omega, HR'.out⟩
 case round => (
 obtain ⟨k, rfl, hk, hno, hR⟩ := hrel
 have HNO := hid hno; have HR := hid hR
 clear hno hR HR'
 have hml := HM.out
 have hmi : m <= i := by rw [hml]; have := k0h (repL (key12 s C n) i); unfold repL at this ⊢; rw [j0g] at this; exact this
 by_cases hkm : k < m
 · (
 have hkI : (k : Int) < (m : Int) := by omega
 obtain ⟨x, hx⟩ := j0a (xs := dist (repL (key12 s C n) i)) (i := k) (by omega)
 obtain ⟨q, hqi, rfl, hqr⟩ := j1y.1 (List.mem_of_getElem? hx)
 have hqn : q < n := by omega
 obtain ⟨fg, fc, hv, _, _, _, hfl⟩ := HR.out.form (i := 0) rfl (by omega)
 simp only [Value.slice.injEq] at hv
 obtain ⟨rfl, _, rfl⟩ := hv
 have f0 := HR.out.cell (i := 0) rfl (p0l hx)
 have hcs := HC2.out.below HR.out.bel (Nat.le_refl _)
 have c1 := hcs.ci (j0h C hqn); have c2 := hcs.ci (j0h C hin); have cl := hcs.lt (by rw [j0g]; omega)
 have hff := HF.out.below HR.out.bel
 obtain ⟨qa, qc, qb, qo, s1, hsq⟩ := hff.at_ q hqn
 obtain ⟨ia, ic, ib, io, s2, hsi⟩ := hff.at_ i hin
 have tl := hff.lt
 have hl1 := p1c HR0.out C n q; have hl2 := p1c HR0.out C n i
 have hsame : ∀ u, Calls Tryz.prog 26 #[.slice qa (stp12 s C n q).length qc, .slice ia (stp12 s C n i).length ic] (wr.drewN u) fun e w' => e = .returned (.bool (decide (stp12 s C n q = stp12 s C n i))) /\ ∃ m, w' = (wr.drewN u).drewN m := fun u =>
   v1q (hsq.below (k0c (Below.refl _ _)) (Nat.le_refl _)) (hsi.below (k0c (Below.refl _ _)) (Nat.le_refl _)) (by omega) (by omega)
 have HSM := hid hsame
 obtain ⟨q1, hq1⟩ : ∃ q1, q1 = (stp12 s C n q).length := ⟨_, rfl⟩
 obtain ⟨q2, hq2⟩ : ∃ q2, q2 = (stp12 s C n i).length := ⟨_, rfl⟩
 rw [<- hq1, <- hq2] at HSM
 rw [<- hq1] at s1; rw [<- hq2] at s2
 have hqI : (q : Int) < (n : Int) := by omega
 have HX := hid hx
 rw [Nat.zero_add] at c1 c2
 clear hx hqr hcs hsq hsi hff hsame hq1 hq2 hml hl1 hl2
 by_cases hyy : C q = C i
 · (
 have hb : (C q != C i) = false := by simp [hyy]
 have HYY := hid hyy
 clear hyy
 by_cases hse : stp12 s C n q = stp12 s C n i
 · (
 have hkey : key12 s C n q = key12 s C n i := Prod.ext HYY.out hse
 obtain ⟨hfm, hfi⟩ := p1l HX.out hkey
 have HFM := hid hfm; have HFI := hid hfi
 have HSE := hid (decide_eq_true hse)
 have a0 := HR.out.cell (i := 1) rfl (j := i) (u := rowAtK (repL (key12 s C n) n) i i) (by rw [List.getElem?_map, List.getElem?_range hin]; rfl)
 have a1 := HR.out.fz (i := 1) rfl i
 have al := (HR.out.lt (i := 1) rfl).2
 have hd : dist (repL (key12 s C n) (i + 1)) = dist (repL (key12 s C n) i) := by
   rw [<- k0f (show i + 1 <= n by omega), take_snoc (k0u hin), k0f (by omega), j0i]; unfold addN; rw [if_pos hfm]
 have HST : Hid (∀ u, Rws w2 ((wr.drewN u).setCell ⟨ab, i, none⟩ (.int .i64 (k : Int))) [RIg (.slice (some ⟨fg, 0, none⟩) m oc) m (dist (repL (key12 s C n) (i + 1))), RAs ab n (rowAtK (repL (key12 s C n) n) (i + 1))]) := hid (fun u => by (
 have hst := (HR.out.drewN u).set 1 rfl i (.int .i64 (k : Int))
 have e : ((List.range n).map (rowAtK (repL (key12 s C n) n) i)).set i (.int .i64 (k : Int)) = (List.range n).map (rowAtK (repL (key12 s C n) n) (i + 1)) := by (
 rw [k0e]
 apply List.map_congr_left
 intro p _
 have h := j0z (k0u (key := key12 s C n) hin) p
 rw [k0f (by omega), hd, hfi] at h
 exact h)
 rw [hd]
 unfold RAs
 rw [<- e]
 exact hst))
 have HMD : Hid (m = (dist (repL (key12 s C n) (i + 1))).length) := hid (by rw [hd]; exact HM.out)
 have hkm2 : ¬ k = m := by omega
 clear hse hkey hfm hfi hd
 go_wp2_with fail
 go_region_held3 (fun w' => w'.cell? ⟨fg, k, none⟩ = some (.int .i64 (q : Int)) /\ w'.cell? ⟨cb, q, none⟩ = some (.int .i64 (C q)) /\ w'.cell? ⟨cb, i, none⟩ = some (.int .i64 (C i)) /\ w'.cell? ⟨tb, q, none⟩ = some (.slice qa q1 qc) /\ w'.cell? ⟨tb, i, none⟩ = some (.slice ia q2 ic))
   (first | exact ⟨f0, c1, c2, s1, s2⟩ | assumption)
   ((go_at_call 26; refine (HSM.out _).mono ?_; rintro e w7 ⟨rfl, mm, rfl⟩; rw [HSE.out]))
 go_wp2_with fail
 go_roundw
 case rel => exact ⟨i + 1, m, _, _, by go_num, by omega, rfl, HMD.out, HST.out _⟩
 case measure => simp [intOf]; omega)
 · (
 have HSE := hid (decide_eq_false hse)
 have HNK : Hid (key12 s C n q ≠ key12 s C n i) := hid (fun e => hse (congrArg Prod.snd e))
 clear hse
 go_wp2_with fail
 go_region_held3 (fun w' => w'.cell? ⟨fg, k, none⟩ = some (.int .i64 (q : Int)) /\ w'.cell? ⟨cb, q, none⟩ = some (.int .i64 (C q)) /\ w'.cell? ⟨cb, i, none⟩ = some (.int .i64 (C i)) /\ w'.cell? ⟨tb, q, none⟩ = some (.slice qa q1 qc) /\ w'.cell? ⟨tb, i, none⟩ = some (.slice ia q2 ic))
   (first | exact ⟨f0, c1, c2, s1, s2⟩ | assumption)
   ((go_at_call 26; refine (HSM.out _).mono ?_; rintro e w7 ⟨rfl, mm, rfl⟩; rw [HSE.out]))
 go_wp2_with fail
 go_roundw
 case rel => exact ⟨k + 1, by go_num, by omega, fun j q' hj hq' => by (
 rcases Nat.eq_or_lt_of_le (show j <= k by omega) with e | e
 · subst e; rw [HX.out] at hq'; have := Option.some.inj hq'; obtain rfl : q = q' := by omega
   exact HNK.out
 · exact HNO.out j q' e hq'), HR.out.drewN _⟩
 case measure => simp [intOf]; omega))
 · (
 have hb : (C q != C i) = true := by simp [hyy]
 have HNK : Hid (key12 s C n q ≠ key12 s C n i) := hid (fun e => hyy (congrArg Prod.fst e))
 clear hyy
 go_wp2_with fail
 go_quiet (fail)
 go_wp2_with fail
 go_roundw
 case rel => exact ⟨k + 1, by go_num, by omega, fun j q' hj hq' => by (
 rcases Nat.eq_or_lt_of_le (show j <= k by omega) with e | e
 · subst e; rw [HX.out] at hq'; have := Option.some.inj hq'; obtain rfl : q = q' := by omega
   exact HNK.out
 · exact HNO.out j q' e hq'), HR.out.drewN _⟩
 case measure => simp [intOf]; omega))
 · (
 obtain rfl : m = k := by omega
 obtain ⟨hri, hrn⟩ := k2s (key := key12 s C n) (i := i) (fun j q hq => HNO.out j q (by have := (List.getElem?_eq_some_iff.1 hq).1; omega) hq)
 have hd : dist (repL (key12 s C n) (i + 1)) = dist (repL (key12 s C n) i) ++ [(i : Int)] := by
   rw [<- k0f (show i + 1 <= n by omega), take_snoc (k0u hin), k0f (by omega), j0i]; unfold addN; rw [if_neg hrn, hri]
 have hix : (dist (repL (key12 s C n) (i + 1))).idxOf (i : Int) = m := by (
 rw [hd, List.idxOf_append]
 rw [hri] at hrn
 simp [hrn, HM.out])
 have HD := hid hd; have HIX := hid hix; have HRI := hid hri
 have HMD : Hid (m + 1 = (dist (repL (key12 s C n) (i + 1))).length) := hid (by rw [hd, List.length_append, HM.out]; rfl)
 have hmi2 : m <= 1000 := by omega
 clear hri hrn hd hix hml
 go_wp2_with fail
 go_quiet (fail)
 have HRN := hid (HR.out.drewN nq)
 obtain ⟨lw, hlw⟩ : ∃ lw, lw = wr.drewN nq := ⟨_, rfl⟩
 have hws2 : w2.heap.size <= lw.heap.size := by rw [hlw]; exact HR.out.bel.size
 rw [<- hlw] at HRN ⊢
 have HOWN : Hid (∀ o : Obj, (lw.alloc o).ownsRow w2.heap.size 3 1 (.slice oa m oc) m ((dist (repL (key12 s C n) i)).flatMap encI)) := hid (fun o => (HRN.out.alloc o).get (i := 0) rfl)
 have KP : Hid (∀ (w7 : World) (g2 cap2 : Nat), w7.ownsRow w2.heap.size 3 1 (.slice (some ⟨g2, 0, none⟩) (m + 1) cap2) (m + 1) ((dist (repL (key12 s C n) i)).flatMap encI ++ [.int .i64 (i : Int)]) -> (lw.alloc (.cells #[.int .i64 (i : Int)] 3)).grownBy w7 (Value.slice oa m oc).ownBlock -> ((Value.slice oa m oc).ownBlock = some g2 ∨ lw.heap.size <= g2) ->
     Rws w2 w7 [RIg (.slice (some ⟨g2, 0, none⟩) (m + 1) cap2) (m + 1) (dist (repL (key12 s C n) (i + 1))), RAs ab n (rowAtK (repL (key12 s C n) n) i)]) := hid (fun w7 g2 cap2 ho hg hl => by
   have h := HRN.out.grown (w2 := lw.alloc (.cells #[.int .i64 (i : Int)] 3)) ((Below.refl _ _).alloc (Nat.le_refl _) _) 0 rfl ho hg (fun g hg => by simp only [Value.ownBlock, Option.some.injEq] at hg; subst hg; exact hl)
   have e : RIg (.slice (some ⟨g2, 0, none⟩) (m + 1) cap2) (m + 1) (dist (repL (key12 s C n) (i + 1))) = ⟨3, 1, .slice (some ⟨g2, 0, none⟩) (m + 1) cap2, m + 1, (dist (repL (key12 s C n) i)).flatMap encI ++ [.int .i64 (i : Int)]⟩ := by
     unfold RIg; rw [HD.out, List.flatMap_append]; rfl
   rw [e]
   exact h)
 have HST : Hid (∀ (w7 : World) (v : Value), Rws w2 w7 [RIg v (m + 1) (dist (repL (key12 s C n) (i + 1))), RAs ab n (rowAtK (repL (key12 s C n) n) i)] -> Rws w2 (w7.setCell ⟨ab, i, none⟩ (.int .i64 (m : Int))) [RIg v (m + 1) (dist (repL (key12 s C n) (i + 1))), RAs ab n (rowAtK (repL (key12 s C n) n) (i + 1))]) := hid (fun w7 v h => by (
 have hst := h.set 1 rfl i (.int .i64 (m : Int))
 have e : ((List.range n).map (rowAtK (repL (key12 s C n) n) i)).set i (.int .i64 (m : Int)) = (List.range n).map (rowAtK (repL (key12 s C n) n) (i + 1)) := by (
 rw [k0e]
 apply List.map_congr_left
 intro p _
 have h := j0z (k0u (key := key12 s C n) hin) p
 rw [k0f (by omega), HRI.out, HIX.out] at h
 exact h)
 unfold RAs
 rw [<- e]
 exact hst))
 clear hlw
 go_wp2_with (at_builtin; refine j0x rfl _ _ _ rfl v0u (base := w2.heap.size) (by simp; omega) rfl (HOWN.out _) ⟨lw.heap.size, 0, none⟩ 1 1 [.int .i64 (i : Int)] rfl rfl (k0i (by simp [go_sem])) (by simp [Value.oneCell']) (by decide) (by omega) (by unfold maxLen; omega) lw.heap.size (by simp) ?_; intro g2 cap2 w7 hown7 hg7 hl7 hlt7; have hr7 := KP.out w7 g2 cap2 hown7 hg7 hl7; have a0 := hr7.cell (i := 1) rfl (j := i) (u := rowAtK (repL (key12 s C n) n) i i) (by rw [List.getElem?_map, List.getElem?_range hin]; rfl); have a1 := hr7.fz (i := 1) rfl i; have al := (hr7.lt (i := 1) rfl).2; have HR7 := hid hr7; clear hr7 hown7 hg7 hl7)
 go_roundw
 case rel => exact ⟨i + 1, m + 1, _, _, by go_num, by omega, rfl, HMD.out, HST.out _ _ HR7.out⟩
 case measure => simp [intOf]; omega)))
 · (
 obtain rfl : n = i := by omega
 obtain ⟨D, hD⟩ : ∃ D : Nat -> Int, D = clf n (fun i => (rep (key12 s C n) i : Int)) := ⟨_, rfl⟩
 have hfin : SlAt encI 1 wr (some ⟨ab, 0, none⟩) ab 0 (fl n D) := by (
 have e : (List.range n).map (rowAtK (repL (key12 s C n) n) n) = (fl n D).flatMap encI := by (
 rw [q1r, hD]; unfold fl; rw [List.map_map]
 apply List.map_congr_left
 intro j hj
 exact x0x (List.mem_range.1 hj))
 obtain ⟨a1, c1, b1, hv, _, _, hs, _⟩ := HR'.out.sl (i := 1) (α := Int) (enc := encI) (T := 3) (k := 1) (v := .slice (some ⟨ab, 0, none⟩) n n) (n := n) (ys := fl n D) (by show some (RAs _ _ _) = _; unfold RAs; rw [e]) k0v (by rw [j0g])
 simp only [Value.slice.injEq] at hv
 obtain ⟨rfl, _, _⟩ := hv
 by_cases hn0 : n = 0
 · subst hn0
   exact ⟨fun _ => rfl, fun h => by simp [fl] at h, fun i x hx => by simp [fl] at hx⟩
 · have := hs.ad (by rw [j0g]; omega)
   simp only [Option.some.injEq, Addr.mk.injEq, and_true] at this
   obtain rfl := this
   exact hs)
 have hns : NextB s n C D := by
   rw [hD]
   exact next_rep (F := fun p => stp12 s C n p) (fun p hp => p1h (stp12_ok HR0.out HN.out hp))
 have hcd : canon (fl n D) = fl n D := by rw [hD, <- j0u, k0t]
 have hmd : m = (dist (fl n D)).length := by rw [HM.out, hD, j0y]; rfl
 have hmore : fl n D ≠ fl n C -> (dist (fl n C)).length < (dist (fl n D)).length := q1e hns HCA.out hcd
 have hle := y0g n D
 have hcs := HC2.out.below HR'.out.bel (Nat.le_refl _)
 have hT2 := p0k (c := n) hcs (by rw [j0g]; omega)
 rw [j0g] at hT2
 obtain ⟨dc, hdc⟩ : ∃ dc, dc = (dist (fl n C)).length := ⟨_, rfl⟩
 rw [<- hdc] at hT2 hgk hmore
 rw [<- hmd] at hmore hle
 have HT2 := hid hT2; have HMO := hid hmore; have HNS := hid hns; have HCD := hid hcd; have HFN := hid hfin; have HMD := hid hmd; have HDC := hid hdc
 have HCS := hid hcs
 have HBZ := hid (HB2.out.trans (HR'.out.bel.mono HB2.out.size))
 have hab2 : W.heap.size <= ab := by have := HAB.out; have := HB2.out.size; omega
 obtain ⟨wZ, hwZ⟩ : ∃ wZ, wZ = wr := ⟨_, rfl⟩
 subst hwZ
 clear hT2 hmore hns hcd hfin hmd hdc hcs hD HM
 by_cases he : m = dc
 · (
 have hflat : fl n D = fl n C := Classical.byContradiction fun h => by have := HMO.out h; omega
 have heI : (m : Int) = (dc : Int) := by omega
 have HFE := hid hflat
 clear hflat he
 go_wp2_with fail
 refine HT2.out.mono ?_
 rintro e w4 ⟨rfl, hB4⟩
 have HB4 := hid hB4
 clear hB4 x0 x4
 go_wp2_with fail
 go_ret
 exact ⟨cb, C, rfl, HCS.out.below HB4.out (Nat.le_refl _), HRO.out.done HNS.out (fun p hp => u0v HFE.out hp), HCA.out, by have := HSW.out; omega, HB0.out.trans ((HBZ.out.trans (HB4.out.mono HBZ.out.size)).mono HB0.out.size)⟩)
 · (
 have hlt : dc < m := HMO.out (fun h => he (by rw [HMD.out, HDC.out, h]))
 have heI : ¬ (m : Int) = (dc : Int) := by omega
 clear he
 go_wp2_with fail
 refine HT2.out.mono ?_
 rintro e w4 ⟨rfl, hB4⟩
 have HB4 := hid hB4
 clear hB4 x0 x4
 go_wp2_with fail
 go_roundg (gk - 1)
 case rel => exact ⟨ab, D, by have := HMD.out; omega, rfl, HFN.out.below HB4.out (Nat.le_refl _), HRO.out.next HR0.out HN.out HNS.out, HCD.out, hab2, HBZ.out.trans (HB4.out.mono HBZ.out.size)⟩
 case measure => omega))))
end Go.Proofs.YtjchdegapadepaaGreatDoor

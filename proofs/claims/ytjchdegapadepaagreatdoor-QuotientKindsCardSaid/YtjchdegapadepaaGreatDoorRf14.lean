/-
  Lemmas.
-/
import Derived.Test.YtjchdegapadepaaGreatDoorGCanon
import Derived.Test.YtjchdegapadepaaGreatDoorQuoM
import Derived.Test.YtjchdegapadepaaGreatDoorGRefReach
import Derived.Test.YtjchdegapadepaaGreatDoorRefSort2
import Derived.Deep.RegionHeldLaw
import Derived.Deep.QuietTactic
import Derived.BigQuiet
import Derived.Deep.Cut
open List renaming getElem_toArray -> qga, getElem_cons_zero -> qgz, getElem_cons_succ -> qgs, setIfInBounds_toArray -> qgt, set_cons_zero -> qgx, set_cons_succ -> qgy
namespace Go.Proofs.YtjchdegapadepaaGreatDoor
namespace Pl
noncomputable def pK (s : Lts) (k : Nat) : List Int := ((List.range k).map Int.ofNat).filter (fun x => decide (x ∈ reachL s))
theorem y1a (s : Lts) (k : Nat) : pK s (k + 1) = if (k : Int) ∈ reachL s then pK s k ++ [(k : Int)] else pK s k := by
 unfold pK
 rw [List.range_succ, List.map_append, List.filter_append]
 by_cases h : (k : Int) ∈ reachL s
 · rw [if_pos h]; congr 1; simp [h]
 · rw [if_neg h]; simp [h]
open Classical in
theorem pK_all {s : Lts} {n : Nat} (h : s.st = (n : Int)) : pK s n = reachL s := by
 have e : reachL s = ((List.range n).map Int.ofNat).filter (fun x => decide (Rch s x)) := by unfold reachL; rw [h]; rfl
 have hm : ∀ x, x ∈ (List.range n).map Int.ofNat -> (x ∈ reachL s ↔ Rch s x) := fun x hx => by
   rw [e, List.mem_filter, decide_eq_true_eq]; exact ⟨fun h => h.2, fun h => ⟨hx, h⟩⟩
 unfold pK
 rw [e]
 rw [e] at hm
 apply List.filter_congr
 intro x hx
 exact decide_eq_decide.2 (hm x hx)
theorem pK_len (s : Lts) (k : Nat) : (pK s k).length <= k := by
 unfold pK
 refine Nat.le_trans (List.length_filter_le _ _) ?_
 rw [List.length_map, List.length_range]; exact Nat.le_refl _
theorem v1g (L P : List Int) (p : Int) : clsL L (P ++ [p]) = if atL L p ∈ clsL L P then clsL L P else clsL L P ++ [atL L p] := by
 unfold clsL
 rw [List.map_append]
 show dist (_ ++ [atL L p]) = _
 rw [j0i]
 unfold addN
 rfl
noncomputable def dK (s : Lts) (L : List Int) (k : Nat) : List Int := clsL L (pK s k)
theorem dK_len (s : Lts) (L : List Int) (k : Nat) : (dK s L k).length <= k := by
 unfold dK clsL
 have h1 := k0h ((pK s k).map (atL L))
 have h2 := pK_len s k
 rw [List.length_map] at h1
 omega
theorem x2a (s : Lts) (L : List Int) : dK s L 0 = [] := by simp [dK, pK, clsL, dist]
theorem dK_no {s : Lts} {L : List Int} {k : Nat} (h : ¬ (k : Int) ∈ reachL s) : dK s L (k + 1) = dK s L k := by unfold dK; rw [y1a, if_neg h]
theorem dK_had {s : Lts} {L : List Int} {k : Nat} (h : (k : Int) ∈ reachL s) (h2 : atL L (k : Int) ∈ dK s L k) : dK s L (k + 1) = dK s L k := by
 unfold dK at *; rw [y1a, if_pos h, v1g, if_pos h2]
theorem dK_new {s : Lts} {L : List Int} {k : Nat} (h : (k : Int) ∈ reachL s) (h2 : ¬ atL L (k : Int) ∈ dK s L k) : dK s L (k + 1) = dK s L k ++ [atL L (k : Int)] := by
 unfold dK at *; rw [y1a, if_pos h, v1g, if_neg h2]
theorem dK_all {s : Lts} {n : Nat} (h : s.st = (n : Int)) (L : List Int) : dK s L n = quoD s L := by unfold dK quoD; rw [pK_all h]
def numC (D : List Int) (c : Int) : Int := if c ∈ D then (D.idxOf c : Int) + 1 else 0
theorem numC_toI (D : List Int) (c : Int) : numC D c - 1 = toI D c := by unfold numC toI; split <;> omega
theorem numC_no {D : List Int} {c : Int} (h : ¬ c ∈ D) : numC D c = 0 := by unfold numC; rw [if_neg h]
theorem numC_yes {D : List Int} {c : Int} (h : c ∈ D) : numC D c ≠ 0 := by unfold numC; rw [if_pos h]; omega
theorem numC_rng (D : List Int) (c : Int) : 0 <= numC D c /\ numC D c <= (D.length : Int) := by
 unfold numC
 split
 · next h => have := List.idxOf_lt_length_of_mem h; omega
 · omega
theorem p2t {D : List Int} {x : Int} (hx : ¬ x ∈ D) (z : Int) : numC (D ++ [x]) z = if z = x then (D.length : Int) + 1 else numC D z := by
 unfold numC
 by_cases e : z = x
 · subst e
   rw [if_pos rfl, if_pos (by simp), List.idxOf_append]
   simp [hx]
 · rw [if_neg e]
   by_cases h : z ∈ D
   · rw [if_pos h, if_pos (by simp [h]), List.idxOf_append]
     simp [h]
   · rw [if_neg h, if_neg (by simp [h, e])]
noncomputable def kE (inert : Bool) (s : Lts) (C : Nat -> Int) (x : E) : Bool := decide (x.1 ∈ reachL s) && !(inert && (decide (x.2.1 = 0) && decide (C x.1.toNat = C x.2.2.toNat)))
def mE14 (C : Nat -> Int) (D : List Int) (x : E) : E := (toI D (C x.1.toNat), x.2.1, toI D (C x.2.2.toNat))
noncomputable def eK (inert : Bool) (s : Lts) (C : Nat -> Int) (D : List Int) (xs : List E) : List E := (xs.filter (kE inert s C)).map (mE14 C D)
theorem eK_snoc (inert : Bool) (s : Lts) (C : Nat -> Int) (D : List Int) (xs : List E) (x : E) : eK inert s C D (xs ++ [x]) = eK inert s C D xs ++ (if kE inert s C x then [mE14 C D x] else []) := by
 unfold eK
 rw [List.filter_append, List.map_append]
 by_cases h : kE inert s C x = true <;> simp [h]
theorem eK_len (inert : Bool) (s : Lts) (C : Nat -> Int) (D : List Int) (xs : List E) : (eK inert s C D xs).length <= xs.length := by
 unfold eK
 rw [List.length_map]; exact List.length_filter_le _ _
theorem eK_all {inert : Bool} {s : Lts} {n : Nat} {C : Nat -> Int} (hr : s.Right) (hn : s.st = (n : Int)) : nf ltE (eK inert s.norm C (quoD s.norm (fl n C)) s.es) = nf ltE (quoEI inert s.norm (fl n C) (quoD s.norm (fl n C)) (reachL s.norm)) := by
 apply y0z p0p
 intro e
 have hrn := hr.norm
 have hnn : s.norm.st = (n : Int) := hn
 unfold quoEI eK
 rw [List.mem_filter, z1o, List.mem_map]
 have key : ∀ p l y, (p, l, y) ∈ s.norm.es -> ∃ i j : Nat, p = (i : Int) /\ y = (j : Int) /\ i < n /\ j < n := fun p l y h => by (
 have k := j0e.1 (hrn.edges _ h)
 simp only at k
 obtain ⟨i, rfl⟩ := Int.eq_ofNat_of_zero_le k.1
 obtain ⟨j, rfl⟩ := Int.eq_ofNat_of_zero_le k.2.2.2.2.1
 exact ⟨i, j, rfl, rfl, by omega, by omega⟩)
 have hke : ∀ (i j : Nat) (l : Int), i < n -> j < n -> ((i : Int), l, (j : Int)) ∈ s.norm.es -> (i : Int) ∈ reachL s.norm -> (keepE inert (toI (quoD s.norm (fl n C)) (C i), l, toI (quoD s.norm (fl n C)) (C j)) = true ↔ kE inert s.norm C ((i : Int), l, (j : Int)) = true) := fun i j l hi hj hx hm => by (
 have c1 := k2z (L := fl n C) hm
 have c2 := k2z (L := fl n C) (quo_step hrn hnn (by omega) hm hx)
 rw [y1t hi] at c1; rw [y1t hj] at c2
 have hiff : toI (quoD s.norm (fl n C)) (C i) = toI (quoD s.norm (fl n C)) (C j) ↔ C i = C j := ⟨fun e => toI_inj c1 c2 e, fun e => by rw [e]⟩
 unfold keepE kE
 simp only [hm, decide_true, Bool.true_and, Int.toNat_natCast, hiff])
 constructor
 · (
 rintro ⟨⟨p, l, y⟩, h, rfl⟩
 obtain ⟨h1, h2⟩ := List.mem_filter.1 h
 have h1' : (p, l, y) ∈ s.norm.es := (j0t p0p _ _).2 h1
 obtain ⟨i, j, rfl, rfl, hi, hj⟩ := key p l y h1'
 have hm : (i : Int) ∈ reachL s.norm := by (
 have := h2
 unfold kE at this
 rw [Bool.and_eq_true] at this
 simpa using this.1)
 unfold mE14
 simp only [Int.toNat_natCast]
 exact ⟨⟨_, hm, l, _, h1', by rw [y1t hi, y1t hj]⟩, (hke i j l hi hj h1' hm).2 h2⟩)
 · rintro ⟨⟨p, hm, l, y, h1', rfl⟩, hk⟩
   obtain ⟨i, j, rfl, rfl, hi, hj⟩ := key p l y h1'
   rw [y1t hi, y1t hj] at hk ⊢
   exact ⟨_, List.mem_filter.2 ⟨(j0t p0p _ _).1 h1', (hke i j l hi hj h1' hm).1 hk⟩, rfl⟩
noncomputable def of14 (inert : Bool) (s : Lts) (n : Nat) (C : Nat -> Int) : Lts := if n = 0 then ⟨0, s.lb, 0, []⟩ else quoSI inert s (fl n C)
end Pl
open Go.RowKit Pl
open Lib (hid)
def Of14Post (inert : Bool) (s : Lts) (n : Nat) (C : Nat -> Int) (w : World) (e : Ending) (w' : World) : Prop :=
  ∃ (ea : Option Addr) (eb ec tb : Nat), e = .returned (.tuple #[.agg #[.int .i64 (of14 inert s n C).st, .int .i64 (of14 inert s n C).lb, .int .i64 (of14 inert s n C).s0, .slice ea (of14 inert s n C).es.length ec], .slice (some ⟨tb, 0, none⟩) n n]) /\
    SlAt encE 3 w' ea eb 0 (of14 inert s n C).es /\ SlAt encI 1 w' (some ⟨tb, 0, none⟩) tb 0 (fl n (fun j => toI (quoD s (fl n C)) (C j))) /\ (0 < (of14 inert s n C).es.length -> w.heap.size <= eb) /\ w.heap.size <= tb /\ Below w.heap.size w w'
set_option maxRecDepth 100000 in
set_option maxHeartbeats 16000000 in
theorem x1q {s : Lts} {n : Nat} (hr : s.Right) (hn : s.st = (n : Int)) (inert : Bool) {C : Nat -> Int} (hcr : ∀ j, j < n -> 0 <= C j /\ C j < (n : Int)) {a : Option Addr} {b off c : Nat} {w : World} (hS : SlAt encE 3 w a b off s.es) (hc : s.es.length <= c) (hcm : c <= maxLen) {ca : Option Addr} {cb co cc : Nat} (hC : SlAt encI 1 w ca cb co (fl n C)) :
    Calls Tryz.prog 10 #[.agg #[.int .i64 s.st, .int .i64 s.lb, .int .i64 s.s0, .slice a s.es.length c], .slice ca n cc, .bool inert] w (Of14Post inert s.norm n C w) := by
 have hst := hr.st0
 obtain ⟨z, hz⟩ : ∃ z : Nat, s.s0 = (z : Int) := ⟨s.s0.toNat, by omega⟩
 have hn1 : n <= 1000 := by omega
 have hmk := run_make_row' (P := Tryz.prog) 27 3 (.int .i64 0) 8 Tryz.underlying27 (by kernel_rfl) rfl .i64 .i64 n (by omega) (by omega)
 have hB0 := (Below.refl w.heap.size w).alloc (Nat.le_refl _) (Obj.cells #[.int .i64 n, .int .i64 s.lb, .int .i64 z, .slice a s.es.length c] 24)
 have hB1 := hB0.alloc (by simp) (Obj.cells #[.int .i64 0, .int .i64 0, .int .i64 0, .slice none 0 0] 24)
 have hbx := heap_alloc_new w (Obj.cells #[.int .i64 n, .int .i64 s.lb, .int .i64 z, .slice a s.es.length c] 24)
 have hrx := heap_alloc_new (w.alloc (Obj.cells #[.int .i64 n, .int .i64 s.lb, .int .i64 z, .slice a s.es.length c] 24)) (Obj.cells #[.int .i64 0, .int .i64 0, .int .i64 0, .slice none 0 0] 24)
 have hre := p1o hr (hS.below hB1 (Nat.le_refl _)) hc hcm
 rw [hn, hz] at hre
 have HRE := hid hre; have HB1 := hid hB1; have HBX := hid hbx; have HRX := hid hrx; have HS := hid hS; have HC := hid hC; have HR := hid hr; have HN := hid hn; have HZ := hid hz; have HCR := hid hcr
 rw [hn, hz]
 have hzn : 0 < n -> z < n := fun h => by omega
 have hel1 : s.es.length <= 10000 := by omega
 have HLB : Hid (s.norm.lb = s.lb) := hid rfl
 obtain ⟨T, hT⟩ : ∃ T, T = s.norm := ⟨_, rfl⟩
 have HT := hid hT
 obtain ⟨el, hel⟩ : ∃ el, el = s.es.length := ⟨_, rfl⟩
 have HEL := hid hel
 rw [<- hel] at HRE HB1 HBX HRX hel1 ⊢
 rw [<- hT] at HLB ⊢
 clear hre hr hB0 hB1 hbx hrx hS hC hst hn hz hc hcm hcr hT hel
 go_enter Tryz.func10, Tryz.ntmps10
 go_wp2_with fail
 refine HRE.out.mono ?_
 rintro e w2 ⟨rb, n', hn', rfl, hin, hrb, hB2⟩
 obtain rfl : n = n' := by have := HN.out; omega
 have hs2 := hB2.size
 simp at hrb hs2
 have hbx2 : w2.heap[w.heap.size]? = some (.cells #[.int .i64 n, .int .i64 s.lb, .int .i64 z, .slice a el c] 24 (0, 0)) := by
   rw [hB2.block _ (by simp; omega), Below.heap_alloc _ _ _ (by simp)]; exact HBX.out
 have hrx2 : w2.heap[w.heap.size + 1]? = some (.cells #[.int .i64 0, .int .i64 0, .int .i64 0, .slice none 0 0] 24 (0, 0)) := by (
 have h := HRX.out
 rw [hB2.block _ (by simp)]
 simpa using h)
 have hBw : Below w.heap.size w w2 := HB1.out.trans (hB2.mono (by simp; omega))
 rw [<- HT.out] at hin
 have hrbl := hin.lt
 -- what stays where the call's rows change
 have HK : Hid (∀ wr, Below w2.heap.size w2 wr -> (wr.cell? ⟨w.heap.size, 0, none⟩ = some (.int .i64 n) /\ wr.cell? ⟨w.heap.size, 1, none⟩ = some (.int .i64 s.lb) /\ wr.cell? ⟨w.heap.size, 2, none⟩ = some (.int .i64 z) /\ wr.cell? ⟨w.heap.size, 3, none⟩ = some (.slice a el c) /\ w.heap.size < wr.heap.size) /\
     wr.heap[w.heap.size + 1]? = some (.cells #[.int .i64 0, .int .i64 0, .int .i64 0, .slice none 0 0] 24 (0, 0)) /\ wr.rowIs rb 4 n (fun j => .bool (decide ((j : Int) ∈ reachL T))) /\ SlAt encI 1 wr ca cb co (fl n C) /\ SlAt encE 3 wr a b off s.es /\ Below w.heap.size w wr) := hid (fun wr hwr => by
   have h2 := (hwr.block w.heap.size (by omega)).trans hbx2
   have hbw := hBw.trans (hwr.mono hBw.size)
   refine ⟨⟨by simp [World.cell?, h2], by simp [World.cell?, h2], by simp [World.cell?, h2], by simp [World.cell?, h2], (Array.getElem?_eq_some_iff.1 h2).1⟩, (hwr.block _ (by omega)).trans hrx2, hin.of_block (hwr.block rb hrbl), HC.out.below hbw (Nat.le_refl _), HS.out.below hbw (Nat.le_refl _), hbw⟩)
 have x0 : w2.cell? ⟨w.heap.size, 0, none⟩ = some (.int .i64 n) := by simp [World.cell?, hbx2]
 have x4 : w.heap.size < w2.heap.size := by omega
 have hr1 := k2n (k2n (Rws.nil (Below.refl w2.heap.size w2)) hn1) hn1
 obtain ⟨TB, hTB⟩ : ∃ TB, TB = w2.heap.size := ⟨_, rfl⟩
 have hNB : (w2.alloc (.cells (madeCells #[.int .i64 0] n) 3)).heap.size = TB + 1 := by rw [hTB]; simp
 rw [hNB, <- hTB] at hr1
 obtain ⟨w3, hw3⟩ : ∃ w3, w3 = (w2.alloc (.cells (madeCells #[.int .i64 0] n) 3)).alloc (.cells (madeCells #[.int .i64 0] n) 3) := ⟨_, rfl⟩
 rw [<- hw3] at hr1
 have hr2 : Rws w2 w3 [RV (TB + 1) n (fun i => numC (dK T (fl n C) 0) (i : Int)), RV TB n (fun _ => 0)] := by
   have e : (fun i : Nat => numC (dK T (fl n C) 0) (i : Int)) = (fun _ => 0) := by funext i; rw [x2a]; simp [numC]
   rw [e]; exact hr1
 have HW3 := hid hw3; have HTB := hid hTB; have HR2 := hid hr2
 clear hin hBw hbx2 hrx2 hB2 hn' HRE HB1 HBX HRX hr1 hr2 hw3 hTB hNB HS HC hrb hrbl
 go_wp2_with fail
 clear hmk x0 x4
 rw [<- HW3.out, <- HTB.out]
 have hTBs1 : TB < w2.heap.size + 1 := by have := HTB.out; omega
 have hTBs2 : w2.heap.size < TB + 1 := by have := HTB.out; omega
 go_loopw [11, 12] (fun v11 v12 wr => ∃ k : Nat, v11 = .int .i64 ((dK T (fl n C) k).length : Int) /\ v12 = .int .i64 k /\ k <= n /\ Rws w2 wr [RV (TB + 1) n (fun i => numC (dK T (fl n C) k) (i : Int)), RV TB n (fun _ => 0)])
   (fun _ v12 _ => n - (intOf v12).toNat)
 case atStart => exact ⟨0, by rw [x2a]; rfl, rfl, Nat.zero_le _, HR2.out⟩
 case round => (
 obtain ⟨k, rfl, rfl, hk, hrw⟩ := hrel
 obtain ⟨⟨y0, y1, y2, y3, y4⟩, yr, hin, hcl, hes, hbw⟩ := HK.out wr hrw.bel
 have HRW := hid hrw
 have hdl := dK_len T (fl n C) k
 obtain ⟨D, hD⟩ : ∃ D, D = dK T (fl n C) k := ⟨_, rfl⟩
 have HD := hid hD
 rw [<- hD] at hdl HRW ⊢
 clear hrw yr hes hbw HR2 hD
 by_cases hlt : k < n
 · (
 have hki : (k : Int) < (n : Int) := by omega
 have ci := hin.cell hlt
 have rl := hin.lt
 obtain ⟨d, hd⟩ := Int.eq_ofNat_of_zero_le (HCR.out k hlt).1
 have hdn : d < n := by have := (HCR.out k hlt).2; omega
 have hdI : (d : Int) < (n : Int) := by omega
 obtain rfl := hcl.ad (by rw [j0g]; omega)
 have cc0 := hcl.ci (j0h C hlt)
 have ccl := hcl.lt (by rw [j0g]; omega)
 rw [hd] at cc0
 have nn := HRW.out.cell (i := 0) rfl (q0z hdn)
 have nl := (HRW.out.lt (i := 0) rfl).2
 have nf := HRW.out.fz (i := 0) rfl d
 have hatd : atL (fl n C) (k : Int) = (d : Int) := by rw [y1t hlt, hd]
 clear hin hcl
 by_cases hm : (k : Int) ∈ reachL T
 · (
 have hdm : decide ((k : Int) ∈ reachL T) = true := by simp [hm]
 rw [hdm] at ci
 by_cases hdd : (d : Int) ∈ D
 · (
 have HDN : Hid (dK T (fl n C) (k + 1) = D) := hid (by rw [HD.out]; exact dK_had hm (by rw [hatd, <- HD.out]; exact hdd))
 have hq0 := numC_yes hdd
 obtain ⟨q, hq⟩ : ∃ q, q = numC D (d : Int) := ⟨_, rfl⟩
 rw [<- hq] at hq0 nn
 have hqb : (q == 0) = false := by simp [hq0]
 clear hq hdd hm hdm hd hatd
 go_wp2_with fail
 go_roundw
 case rel => exact ⟨k + 1, by rw [HDN.out], by go_num, by omega, by rw [HDN.out]; exact HRW.out⟩
 case measure => simp [intOf]; omega)
 · (
 have HDN : Hid (dK T (fl n C) (k + 1) = D ++ [(d : Int)]) := hid (by rw [HD.out, dK_new hm (by rw [hatd, <- HD.out]; exact hdd), hatd])
 rw [numC_no hdd] at nn
 have HDD := hid hdd
 have hw : IntKind.i64.wrap ((D.length : Int) + 1) = (D.length : Int) + 1 := IntWalk.i64_in _ (by omega)
 have HNX := hid (HRW.out.set 0 rfl d (.int .i64 ((D.length : Int) + 1)))
 clear hdd hm hdm hd hatd
 go_wp2_with fail
 go_roundw
 case rel => exact ⟨k + 1, by rw [HDN.out, List.length_append]; go_num, by go_num, by omega, by (
 have h := HNX.out
 rw [rvSet] at h
 have e : upd (fun i : Nat => numC D (i : Int)) d ((D.length : Int) + 1) = (fun i : Nat => numC (dK T (fl n C) (k + 1)) (i : Int)) := by (
 funext i
 rw [HDN.out, p2t HDD.out]
 unfold upd
 by_cases e : i = d
 · subst e; rw [if_pos rfl, if_pos rfl]
 · rw [if_neg e, if_neg (by omega)])
 rw [e] at h
 exact h)⟩
 case measure => simp [intOf]; omega))
 · (
 have hdm : decide ((k : Int) ∈ reachL T) = false := by simp [hm]
 rw [hdm] at ci
 have HDN : Hid (dK T (fl n C) (k + 1) = D) := hid (by rw [HD.out]; exact dK_no hm)
 clear hm hdm hd hatd
 go_wp2_with fail
 go_roundw
 case rel => exact ⟨k + 1, by rw [HDN.out], by go_num, by omega, by rw [HDN.out]; exact HRW.out⟩
 case measure => simp [intOf]; omega))
 · (
 obtain rfl : n = k := by omega
 have hDq : D = quoD T (fl n C) := by rw [HD.out]; exact dK_all (by rw [HT.out]; exact HN.out) _
 have HDQ := hid hDq
 have HR3 : Hid (Rws w2 wr [RV (TB + 1) n (fun i => numC D (i : Int)), RV TB n (toK D C 0)]) := hid (by
   have e : toK D C 0 = (fun _ => 0) := by funext i; simp [toK]
   rw [e]; exact HRW.out)
 clear hin hcl hDq HRW HD
 go_wp2_with fail
 clear y0 y1 y2 y3 y4
 go_loopw [13] (fun v13 wr => ∃ k : Nat, v13 = .int .i64 k /\ k <= n /\ Rws w2 wr [RV (TB + 1) n (fun i => numC D (i : Int)), RV TB n (toK D C k)])
   (fun v13 _ => n - (intOf v13).toNat)
 case atStart => exact ⟨0, rfl, Nat.zero_le _, HR3.out⟩
 case round => (
 obtain ⟨k, rfl, hk, hrw⟩ := hrel
 obtain ⟨⟨y0, y1, y2, y3, y4⟩, yr, hin, hcl, hes, hbw⟩ := HK.out wr hrw.bel
 have HRW := hid hrw; have HYR := hid yr
 clear hrw yr hin hes hbw HR3
 by_cases hlt : k < n
 · (
 have hki : (k : Int) < (n : Int) := by omega
 obtain ⟨d, hd⟩ := Int.eq_ofNat_of_zero_le (HCR.out k hlt).1
 have hdn : d < n := by have := (HCR.out k hlt).2; omega
 have hdI : (d : Int) < (n : Int) := by omega
 obtain rfl := hcl.ad (by rw [j0g]; omega)
 have cc0 := hcl.ci (j0h C hlt)
 have ccl := hcl.lt (by rw [j0g]; omega)
 rw [hd] at cc0
 have nn := HRW.out.cell (i := 0) rfl (q0z hdn)
 have nl := (HRW.out.lt (i := 0) rfl).2
 have tl := (HRW.out.lt (i := 1) rfl).2
 have tf := HRW.out.fz (i := 1) rfl k
 have tc := HRW.out.cell (i := 1) rfl (q0z hlt)
 have hq1 := numC_rng D (d : Int)
 have hqt := numC_toI D (d : Int)
 obtain ⟨q, hq⟩ : ∃ q, q = numC D (d : Int) := ⟨_, rfl⟩
 rw [<- hq] at hq1 hqt nn
 have hw : IntKind.i64.wrap (q - 1) = q - 1 := IntWalk.i64_in _ (by omega)
 have HNX := hid (HRW.out.set 1 rfl k (.int .i64 (q - 1)))
 have HQT : Hid (q - 1 = toI D (C k)) := hid (by rw [hqt, hd])
 clear hcl hd hq hqt
 go_wp2_with fail
 go_roundw
 case rel => exact ⟨k + 1, by go_num, by omega, by (
 have h := HNX.out
 rw [rvSet] at h
 have e : upd (toK D C k) k (q - 1) = toK D C (k + 1) := by rw [HQT.out, z1b]
 rw [e] at h
 exact h)⟩
 case measure => simp [intOf]; omega)
 · (
 obtain rfl : n = k := by omega
 obtain ⟨S0, hS0⟩ : ∃ S0, S0 = (of14 inert T n C).s0 := ⟨_, rfl⟩
 have HS0 := hid hS0
 obtain ⟨cn, hcn⟩ : ∃ cn, cn = D.length := ⟨_, rfl⟩
 have HCN := hid hcn
 rw [<- hcn] at hdl ⊢
 obtain ⟨wq, hwq⟩ : ∃ wq, wq = wr := ⟨_, rfl⟩
 subst hwq
 have HR5 : Hid (∀ v2 : Int, Rws w2 (wq.alloc (.cells #[.int .i64 cn, .int .i64 s.lb, .int .i64 v2, .slice none 0 0] 24)) [RQ wq.heap.size cn s.lb v2 (.slice none 0 0), RV (TB + 1) n (fun i => numC D (i : Int)), RV TB n (toK D C n)]) := hid (fun v2 =>
   HRW.out.addLit #[.int .i64 cn, .int .i64 s.lb, .int .i64 v2, .slice none 0 0] 24 (k := 4) (n := 1) (by unfold maxLen; omega) rfl)
 clear hcl hS0 hcn HYR
 go_upto_if 77 with fail
 go_cut [14] from 18 (fun s14 wx => s14 = .pointer (some ⟨wq.heap.size, 0, none⟩) /\ Rws w2 wx [RQ wq.heap.size cn s.lb S0 (.slice none 0 0), RV (TB + 1) n (fun i => numC D (i : Int)), RV TB n (toK D C n)])
 case first => (
 by_cases hcp : 0 < cn
 · (
 have hdc : decide (0 < (cn : Int)) = true := by simp; omega
 have hdc2 : decide (0 < cn) = true := by simp; omega
 have hn0 : 0 < n := by omega
 have hzn2 := hzn hn0
 have hzI : (z : Int) < (n : Int) := by omega
 have tc := HRW.out.cell (i := 1) rfl (q0z hzn2)
 have tl := (HRW.out.lt (i := 1) rfl).2
 have hs0 : Hid (toK D C n z = S0) := hid (by (
 rw [HS0.out]
 unfold of14
 rw [if_neg (by omega)]
 unfold quoSI toK
 rw [if_pos hzn2, HDQ.out]
 show _ = toI _ (atL (fl n C) T.s0)
 rw [show T.s0 = (z : Int) from by rw [HT.out]; exact HZ.out, y1t hzn2]))
 rw [hs0.out] at tc
 go_wp2_with fail
 go_meet
 exact ⟨rfl, HR5.out S0⟩)
 · (
 have hdc : decide (0 < (cn : Int)) = false := by simp; omega
 have hdc2 : decide (0 < cn) = false := by simp; omega
 have hs0 : S0 = 0 := by (
 rw [HS0.out]
 unfold of14
 by_cases h0 : n = 0
 · rw [if_pos h0]
 · (
 exfalso
 have h1 := z0n (s := T) (n := n) (by rw [HT.out]; exact HR.out.norm) (by rw [HT.out]; exact HN.out) (by omega)
 have h2 := k2z (L := fl n C) h1
 rw [<- HDQ.out] at h2
 have h3 := List.length_pos_of_mem h2
 have h4 := HCN.out
 omega))
 subst hs0
 go_wp2_with fail
 go_meet
 exact ⟨rfl, HR5.out 0⟩))
 case rest => (
 obtain ⟨rfl, hr6⟩ := hcut
 have HR6 := hid (hr6.addNil 42 3)
 clear hr6 y0 y1 y2 y3 y4 HR5 HRW
 obtain ⟨tq, htq⟩ : ∃ tq, tq = wq.heap.size := ⟨_, rfl⟩
 rw [<- htq] at HR6 ⊢
 clear htq
 go_wp2_with fail
 go_loopw [15, 16, 17] (fun v15 v16 _ wx => ∃ (k m : Nat) (ea : Option Addr) (ec : Nat), v15 = .slice ea m ec /\ v16 = .int .i64 k /\ k <= el /\ m = (eK inert T C D (s.es.take k)).length /\ Rws w2 wx [REq ea m ec (eK inert T C D (s.es.take k)), RQ tq cn s.lb S0 (.slice none 0 0), RV (TB + 1) n (fun i => numC D (i : Int)), RV TB n (toK D C n)])
   (fun _ v16 _ _ => el - (intOf v16).toNat)
 case atStart => exact ⟨0, 0, none, 0, rfl, rfl, Nat.zero_le _, rfl, HR6.out⟩
 case round => (
 obtain ⟨k, m, ea, ec, rfl, rfl, hk, hm, hrw⟩ := hrel
 obtain ⟨⟨y0, y1, y2, y3, y4⟩, yr, hin, hcl, hes, hbw⟩ := HK.out wr hrw.bel
 have HRW := hid hrw; have HYR := hid yr; have HM := hid hm; have HBW := hid hbw
 have hml : m <= k := by (
 have h1 := eK_len inert T C D (s.es.take k)
 rw [List.length_take] at h1
 omega)
 clear hrw yr hm hbw HR6
 by_cases hlt : k < el
 · (
 have hki : (k : Int) < (el : Int) := by omega
 obtain ⟨x, hx⟩ := j0a (xs := s.es) (i := k) (by rw [<- HEL.out]; exact hlt)
 have hxr := j0e.1 (HR.out.edges x (List.mem_of_getElem? hx))
 obtain rfl := hes.ad (by rw [<- HEL.out]; omega)
 have d0 := hes.e0 hx; have d1 := hes.e1 hx; have d2 := hes.e2 hx
 have dl := hes.lt (by rw [<- HEL.out]; omega)
 have hne := HN.out
 obtain ⟨x1, x2, x3⟩ := x
 simp only at hxr d0 d1 d2
 obtain ⟨i, rfl⟩ := Int.eq_ofNat_of_zero_le hxr.1
 obtain ⟨j, rfl⟩ := Int.eq_ofNat_of_zero_le hxr.2.2.2.2.1
 have hi : i < n := by omega
 have hj : j < n := by omega
 have hiI : (i : Int) < (n : Int) := by omega
 have hjI : (j : Int) < (n : Int) := by omega
 obtain rfl := hcl.ad (by rw [j0g]; omega)
 have c1 := hcl.ci (j0h C hi); have c2 := hcl.ci (j0h C hj)
 have cl := hcl.lt (by rw [j0g]; omega)
 have b0 := hin.cell hi
 have bl := hin.lt
 have hsn := eK_snoc inert T C D (s.es.take k) ((i : Int), x2, (j : Int))
 rw [<- take_snoc hx] at hsn
 have hkE : kE inert T C ((i : Int), x2, (j : Int)) = (decide ((i : Int) ∈ reachL T) && !(inert && (decide (x2 = 0) && decide (C i = C j)))) := by simp [kE]
 obtain ⟨kb, hkb⟩ : ∃ kb, kb = kE inert T C ((i : Int), x2, (j : Int)) := ⟨_, rfl⟩
 rw [<- hkb] at hsn hkE
 have HSN := hid hsn; have HKE := hid hkE
 clear hes hx hxr hne hcl hin hsn hkE hkb
 go_upto_region 23 with fail
 clear y0 y1 y2 y3 y4 d0 d1 d2 dl
 obtain ⟨W6, hW6⟩ : ∃ W6, W6 = wr.alloc (.cells #[.int .i64 i, .int .i64 x2, .int .i64 j] 42) := ⟨_, rfl⟩
 have hxb : W6.heap[wr.heap.size]? = some (.cells #[.int .i64 i, .int .i64 x2, .int .i64 j] 42 (0, 0)) := by rw [hW6]; exact heap_alloc_new wr _
 have hb6 : Below wr.heap.size wr W6 := by rw [hW6]; exact (Below.refl _ _).alloc (Nat.le_refl _) _
 obtain ⟨xb, hxbe⟩ : ∃ xb, xb = wr.heap.size := ⟨_, rfl⟩
 have hxle : ∀ g, xb <= g -> wr.heap.size <= g := fun g h => by omega
 have e1 := (hb6.cell (p := ⟨cb, co + i, none⟩) cl).trans c1
 have e2 := (hb6.cell (p := ⟨cb, co + j, none⟩) cl).trans c2
 have e3 := (hb6.cell (p := ⟨rb, i, none⟩) bl).trans b0
 have hsz6 := hb6.size
 have HXB := hid hxbe
 rw [<- hW6, <- hxbe]
 rw [<- hxbe] at hxb
 have f0 : W6.cell? ⟨xb, 0, none⟩ = some (.int .i64 i) := by simp [World.cell?, hxb]
 have f1 : W6.cell? ⟨xb, 1, none⟩ = some (.int .i64 x2) := by simp [World.cell?, hxb]
 have f2 : W6.cell? ⟨xb, 2, none⟩ = some (.int .i64 j) := by simp [World.cell?, hxb]
 have xl := (Array.getElem?_eq_some_iff.1 hxb).1
 have cl6 : cb < W6.heap.size := by omega
 have bl6 : rb < W6.heap.size := by omega
 have HR7 := hid (HRW.out.call hb6)
 have HXBK := hid hxb
 clear hW6 hxbe hb6 c1 c2 b0 cl bl hxb hxle hsz6
 go_cut [122] from 96 to 121 (fun s122 wx => s122 = .bool kb /\ Below W6.heap.size W6 wx)
 case first => (
 by_cases hm : (i : Int) ∈ reachL T
 · (
 have hdm : decide ((i : Int) ∈ reachL T) = true := by simp [hm]
 rw [hdm] at e3
 obtain rfl | rfl : inert = false ∨ inert = true := by cases inert <;> simp
 ·
   have hkb : kb = true := by rw [HKE.out, hdm]; rfl
   subst hkb
   clear hm hdm
   go_quiet (fail)
   go_wp2_with fail
   go_meet
   exact ⟨rfl, k0c (Below.refl _ _)⟩
 ·
   by_cases hx2 : x2 = 0
   · by_cases hcc : C i = C j
     · have hkb : kb = false := by rw [HKE.out, hdm, hx2, hcc]; simp
       subst hkb
       have hb1 : (x2 == 0) = true := by simp [hx2]
       have hb2 : (C i == C j) = true := by simp [hcc]
       clear hm hdm hx2 hcc
       go_quiet (fail)
       go_wp2_with fail
       go_meet
       exact ⟨rfl, k0c (Below.refl _ _)⟩
     · have hkb : kb = true := by rw [HKE.out, hdm]; simp [hcc]
       subst hkb
       have hb1 : (x2 == 0) = true := by simp [hx2]
       have hb2 : (C i == C j) = false := by simp [hcc]
       clear hm hdm hx2 hcc
       go_quiet (fail)
       go_wp2_with fail
       go_meet
       exact ⟨rfl, k0c (Below.refl _ _)⟩
   · have hkb : kb = true := by rw [HKE.out, hdm]; simp [hx2]
     subst hkb
     have hb1 : (x2 == 0) = false := by simp [hx2]
     clear hm hdm hx2
     go_quiet (fail)
     go_wp2_with fail
     go_meet
     exact ⟨rfl, k0c (Below.refl _ _)⟩)
 · (
 have hdm : decide ((i : Int) ∈ reachL T) = false := by simp [hm]
 rw [hdm] at e3
 have hkb : kb = false := by rw [HKE.out, hdm]; rfl
 subst hkb
 clear hm hdm
 go_quiet (fail)
 go_wp2_with fail
 go_meet
 exact ⟨rfl, k0c (Below.refl _ _)⟩))
 case rest => (
 obtain ⟨rfl, hB7⟩ := hcut
 cases kb with
 | false => (
 have HR8 := hid (HR7.out.call hB7)
 clear hB7 e1 e2 e3 f0 f1 f2 xl cl6 bl6
 go_wp2_with fail
 go_roundw
 case rel => exact ⟨k + 1, m, ea, ec, rfl, by go_num, by omega, by rw [HSN.out]; simpa using HM.out, by rw [HSN.out]; simpa using HR8.out⟩
 case measure => simp [intOf]; omega)
 | true => (
 obtain ⟨W7, hW7⟩ : ∃ W7, W7 = wc := ⟨_, rfl⟩
 rw [<- hW7] at hB7 ⊢
 have hr7 := HR7.out.call hB7
 have f7 := (hB7.cell (p := ⟨xb, 0, none⟩) xl).trans f0
 have g7 := (hB7.cell (p := ⟨xb, 1, none⟩) xl).trans f1
 have h7 := (hB7.cell (p := ⟨xb, 2, none⟩) xl).trans f2
 have i7 := hr7.cell (i := 3) rfl (q0z (f := toK D C n) hi)
 have j7 := hr7.cell (i := 3) rfl (q0z (f := toK D C n) hj)
 have t7 := (hr7.lt (i := 3) rfl).2
 have t8 := (hr7.lt (i := 3) rfl).1
 have hsz7 := hB7.size
 rw [show toK D C n i = toI D (C i) by unfold toK; rw [if_pos hi]] at i7
 rw [show toK D C n j = toI D (C j) by unfold toK; rw [if_pos hj]] at j7
 obtain ⟨q1, hq1⟩ : ∃ q1, q1 = toI D (C i) := ⟨_, rfl⟩
 obtain ⟨q3, hq3⟩ : ∃ q3, q3 = toI D (C j) := ⟨_, rfl⟩
 rw [<- hq1] at i7; rw [<- hq3] at j7
 have HQ : Hid (eK inert T C D (s.es.take (k + 1)) = eK inert T C D (s.es.take k) ++ [(q1, x2, q3)]) := hid (by rw [HSN.out, hq1, hq3]; simp [mE14])
 have xl7 : xb < W7.heap.size := by omega
 have HKP : Hid (∀ V, Below W7.heap.size W7 V -> (V.cell? ⟨xb, 0, none⟩ = some (.int .i64 (i : Int)) /\ V.cell? ⟨xb, 1, none⟩ = some (.int .i64 x2) /\ V.cell? ⟨xb, 2, none⟩ = some (.int .i64 (j : Int)) /\ xb < V.heap.size /\ V.cell? ⟨TB, i, none⟩ = some (.int .i64 q1) /\ V.cell? ⟨TB, j, none⟩ = some (.int .i64 q3) /\ TB < V.heap.size)) := hid (fun V hV =>
   ⟨(hV.cell (p := ⟨xb, 0, none⟩) xl7).trans f7, (hV.cell (p := ⟨xb, 1, none⟩) xl7).trans g7, (hV.cell (p := ⟨xb, 2, none⟩) xl7).trans h7, by have := hV.size; omega, (hV.cell (p := ⟨TB, i, none⟩) t7).trans i7, (hV.cell (p := ⟨TB, j, none⟩) t7).trans j7, by have := hV.size; omega⟩)
 have hown7 : W7.ownsRow w2.heap.size 42 3 (.slice ea m ec) m ((eK inert T C D (s.es.take k)).flatMap encE) := hr7.get (i := 0) rfl
 have hown6 : wr.ownsRow w2.heap.size 42 3 (.slice ea m ec) m ((eK inert T C D (s.es.take k)).flatMap encE) := HRW.out.get (i := 0) rfl
 have hw2l : w2.heap.size <= W7.heap.size := hr7.bel.size
 have HNX : Hid (∀ (w8 : World) (g cap : Nat), w8.ownsRow w2.heap.size 42 3 (.slice (some ⟨g, 0, none⟩) (m + 1) cap) (m + 1) ((eK inert T C D (s.es.take k)).flatMap encE ++ [.int .i64 q1, .int .i64 x2, .int .i64 q3]) -> ((W7.alloc (.cells #[.int .i64 q1, .int .i64 x2, .int .i64 q3] 42)).drew).grownBy w8 (Value.slice ea m ec).ownBlock -> ((Value.slice ea m ec).ownBlock = some g ∨ g = W7.heap.size + 1) ->
     (w8.cell? ⟨xb, 0, none⟩ = some (.int .i64 (i : Int)) /\ w8.cell? ⟨xb, 1, none⟩ = some (.int .i64 x2) /\ w8.cell? ⟨xb, 2, none⟩ = some (.int .i64 (j : Int)) /\ xb < w8.heap.size /\ w8.cell? ⟨TB, i, none⟩ = some (.int .i64 q1) /\ w8.cell? ⟨TB, j, none⟩ = some (.int .i64 q3) /\ TB < w8.heap.size) /\
     Rws w2 w8 [REq (some ⟨g, 0, none⟩) (m + 1) cap (eK inert T C D (s.es.take (k + 1))), RQ tq cn s.lb S0 (.slice none 0 0), RV (TB + 1) n (fun i => numC D (i : Int)), RV TB n (toK D C n)]) := hid (fun w8 g cap ho hg hgg => by
   have hba := ((Below.refl W7.heap.size W7).alloc (Nat.le_refl _) (.cells #[.int .i64 q1, .int .i64 x2, .int .i64 q3] 42)).drew
   obtain ⟨a1, a2, a3, a4, a5, a6, a7⟩ := HKP.out _ hba
   have n1 : some xb ≠ (Value.slice ea m ec).ownBlock := fun e => by have := (hown6.lt xb e.symm).2; have := HXB.out; omega
   have n2 : some TB ≠ (Value.slice ea m ec).ownBlock := fun e => hr7.ne (i := 0) (j := 3) rfl rfl (by omega) e.symm rfl
   have hgs := hg.size
   have hgr := edGrow (x := (q1, x2, q3)) hr7 hba (i := 0) rfl ho hg (hgg.imp_right (fun e => by omega))
   rw [<- HQ.out] at hgr
   refine ⟨⟨?_, ?_, ?_, by omega, ?_, ?_, by omega⟩, hgr⟩
   · rw [World.cell?_of_block (a := ⟨xb, 0, none⟩) (hg.block xb a4 n1)]; exact a1
   · rw [World.cell?_of_block (a := ⟨xb, 1, none⟩) (hg.block xb a4 n1)]; exact a2
   · rw [World.cell?_of_block (a := ⟨xb, 2, none⟩) (hg.block xb a4 n1)]; exact a3
   · rw [World.cell?_of_block (a := ⟨TB, i, none⟩) (hg.block TB a7 n2)]; exact a5
   · rw [World.cell?_of_block (a := ⟨TB, j, none⟩) (hg.block TB a7 n2)]; exact a6)
 have HOWN := hid hown7
 have HBD : Hid (Below W7.heap.size W7 W7.drew) := hid (Below.refl _ _).drew
 have HBA : Hid (Below W7.heap.size W7 (W7.drew.alloc (.cells #[.int .i64 q1, .int .i64 x2, .int .i64 q3] 42))) := hid ((Below.refl _ _).drew.alloc (Nat.le_refl _) _)
 clear hown7 hown6 hB7 hr7 e1 e2 e3 f0 f1 f2 f7 g7 h7 i7 j7 t7 t8 xl xl7 cl6 bl6 hq1 hq3 hsz7 hW7
 go_upto_region 24 with fail
 refine wp_region_held_drew (S := (fun V => (V.cell? ⟨xb, 0, none⟩ = some (.int .i64 (i : Int)) /\ V.cell? ⟨xb, 1, none⟩ = some (.int .i64 x2) /\ V.cell? ⟨xb, 2, none⟩ = some (.int .i64 (j : Int)) /\ xb < V.heap.size /\ V.cell? ⟨TB, i, none⟩ = some (.int .i64 q1) /\ V.cell? ⟨TB, j, none⟩ = some (.int .i64 q3) /\ TB < V.heap.size))) (by kernel_rfl) (by (try dsimp only); exact HKP.out _ HBD.out) (fun hHeld => ?_)
 refine qT 0 (v := ?_) ?_ ?_
 rotate_left
 · intro w hSw; (try dsimp only at hSw); go_simp; try with_reducible rfl
 try simp only [qga, qgz, Act.put, qgt, qgx, qgy]
 refine qT 1 (v := ?_) ?_ ?_
 rotate_left
 · intro w hSw; (try dsimp only at hSw); go_simp; try with_reducible rfl
 try simp only [qga, qgz, qgs, Act.put, qgt, qgx, qgy]
 refine qT 2 (v := ?_) ?_ ?_
 rotate_left
 · intro w hSw; (try dsimp only at hSw); go_simp; try with_reducible rfl
 try simp only [qga, qgz, qgs, Act.put, qgt, qgx, qgy]
 refine qT 3 (v := ?_) ?_ ?_
 rotate_left
 · intro w hSw; (try dsimp only at hSw); go_simp; try with_reducible rfl
 try simp only [qga, qgz, qgs, Act.put, qgt, qgx, qgy]
 refine qT 4 (v := ?_) ?_ ?_
 rotate_left
 · intro w hSw; (try dsimp only at hSw); go_simp; try with_reducible rfl
 try simp only [qga, qgz, qgs, Act.put, qgt, qgx, qgy]
 refine qT 5 (v := ?_) ?_ ?_
 rotate_left
 · intro w hSw; (try dsimp only at hSw); go_simp; try with_reducible rfl
 try simp only [qga, qgz, qgs, Act.put, qgt, qgx, qgy]
 refine qT 6 (v := ?_) ?_ ?_
 rotate_left
 · intro w hSw; (try dsimp only at hSw); go_simp; try with_reducible rfl
 try simp only [qga, qgz, qgs, Act.put, qgt, qgx, qgy]
 refine qT 7 (v := ?_) ?_ ?_
 rotate_left
 · intro w hSw; (try dsimp only at hSw); go_simp; try with_reducible rfl
 try simp only [qga, qgz, qgs, Act.put, qgt, qgx, qgy]
 refine qT 8 (v := ?_) ?_ ?_
 rotate_left
 · intro w hSw; (try dsimp only at hSw); go_simp; try with_reducible rfl
 try simp only [qga, qgz, qgs, Act.put, qgt, qgx, qgy]
 refine qT 9 (v := ?_) ?_ ?_
 rotate_left
 · intro w hSw; (try dsimp only at hSw); go_simp; try with_reducible rfl
 try simp only [qga, qgz, qgs, Act.put, qgt, qgx, qgy]
 refine qT 10 (v := ?_) ?_ ?_
 rotate_left
 · intro w hSw; (try dsimp only at hSw); go_simp; try with_reducible rfl
 try simp only [qga, qgz, qgs, Act.put, qgt, qgx, qgy]
 refine qT 11 (v := ?_) ?_ ?_
 rotate_left
 · intro w hSw; (try dsimp only at hSw); go_simp; try with_reducible rfl
 try simp only [qga, qgz, qgs, Act.put, qgt, qgx, qgy]
 refine qT 12 (v := ?_) ?_ ?_
 rotate_left
 · intro w hSw; (try dsimp only at hSw); go_simp; try with_reducible rfl
 try simp only [qga, qgz, qgs, Act.put, qgt, qgx, qgy]
 refine qT 13 (v := ?_) ?_ ?_
 rotate_left
 · intro w hSw; (try dsimp only at hSw); go_simp; try with_reducible rfl
 try simp only [qga, qgz, qgs, Act.put, qgt, qgx, qgy]
 refine wpAnyH_ready (rs := [14]) (by kernel_rfl) (by simp) ?_
 refine AllReadyH.cons rfl (fun K hK => ?_) AllReadyH.nil
 go_simp
 refine hK.out _ _ (by (try dsimp only); exact HKP.out _ HBA.out) (fun hHeld => ?_)
 clear hK K
 try simp only [qga, qgz, qgs, Act.put, qgt, qgx, qgy]
 refine wpAnyH_ready (rs := [15]) (by kernel_rfl) (by simp) ?_
 refine AllReadyH.cons rfl (fun K hK => ?_) AllReadyH.nil
 refine k0w rfl _ _ _ (by rfl) rowE (by simp; omega) (by rfl) (World.ownsRow.drew (HOWN.out.alloc _)) ⟨W7.heap.size, 0, none⟩ 1 1 [.int .i64 q1, .int .i64 x2, .int .i64 q3] (by rfl) (by rfl) (cells3 (by simp [go_sem]) (by simp [go_sem]) (by simp [go_sem])) (by simp [Value.oneCell']) (by decide) (by omega) (by unfold maxLen; omega) W7.heap.size (by simp) ?_
 intro g cap w8 hown8 hg8 hat8 hlt8
 obtain ⟨hk8, hb8⟩ := HNX.out w8 g cap hown8 hg8 hat8
 have HK8 := hid hk8
 have HNO := hid hb8
 clear hk8 hb8 hown8 hg8 hat8
 refine hK.out _ _ (by (try dsimp only); exact HK8.out) (fun hHeld => ?_)
 clear hK K
 try simp only [qga, qgz, qgs, Act.put, qgt, qgx, qgy]
 refine qT 16 (v := ?_) ?_ ?_
 rotate_left
 · intro w hSw; (try dsimp only at hSw); go_simp; try with_reducible rfl
 try simp only [qga, qgz, qgs, Act.put, qgt, qgx, qgy]
 refine wpAnyH_done (by kernel_rfl) ?_ _
 all_goals (
 go_wp2_with fail
 go_roundw
 case rel => exact ⟨k + 1, m + 1, _, _, rfl, by go_num, by omega, by rw [HQ.out, List.length_append, <- HM.out]; rfl, HNO.out⟩
 case measure => simp [intOf]; omega))))
 · (
 obtain rfl : el = k := by omega
 have HMF : Hid (m = (eK inert T C D s.es).length) := hid (by have h := HM.out; rw [HEL.out, List.take_length] at h; exact h)
 have hrf : Rws w2 wr [REq ea m ec (eK inert T C D s.es), RQ tq cn s.lb S0 (.slice none 0 0), RV (TB + 1) n (fun i => numC D (i : Int)), RV TB n (toK D C n)] := by (
 have h := HRW.out
 rw [HEL.out, List.take_length] at h
 exact h)
 obtain ⟨xs, hxs⟩ : ∃ xs, xs = eK inert T C D s.es := ⟨_, rfl⟩
 rw [<- hxs] at hrf HMF
 have HXS := hid hxs
 obtain ⟨a', c', b', hv, h1, h2, hsl, h3⟩ := hrf.sl (i := 0) (ys := xs) rfl p0n HMF.out
 simp only [Value.slice.injEq] at hv
 obtain ⟨rfl, h4, rfl⟩ := hv
 clear h3 h4
 have hso := p0z xs.length (Nat.le_refl _) hsl h1 h2 (by rw [<- HMF.out]; omega)
 rw [<- HMF.out] at hso
 have HSO := hid hso; have HRF := hid hrf
 clear hin hcl hes HM HRW hxs hsl hso hrf h1 h2 y0 y1 y2
 go_wp2_with fail
 refine HSO.out.mono ?_
 rintro e w7 ⟨a1, c1, rfl, hown, hB7⟩
 clear y3 y4
 have hr7 := HRF.out.add hB7 hown
 have t3 := hr7.cell (i := 2) rfl (j := 3) rfl
 have tf := hr7.fz (i := 2) rfl 3
 have tl := (hr7.lt (i := 2) rfl).2
 have hr8 := hr7.set 2 rfl 3 (.slice a1 (nf ltE xs).length c1)
 have hr9 : Rws w2 (w7.setCell ⟨tq, 3, none⟩ (.slice a1 (nf ltE xs).length c1)) [⟨42, 3, .slice a1 (nf ltE xs).length c1, (nf ltE xs).length, (nf ltE xs).flatMap encE⟩, REq ea m ec xs, RQ tq cn s.lb S0 (.slice a1 (nf ltE xs).length c1), RV (TB + 1) n (fun i => numC D (i : Int)), RV TB n (toK D C n)] := hr8
 have HR9 := hid hr9
 clear hown hB7 hr7 hr8 hr9 HSO HYR HBW
 go_upto_region 26 with fail
 obtain ⟨w8, hw8⟩ : ∃ w8, w8 = w7.setCell ⟨tq, 3, none⟩ (.slice a1 (nf ltE xs).length c1) := ⟨_, rfl⟩
 rw [<- hw8] at HR9 ⊢
 obtain ⟨_, hy8, _, _, _, hbl⟩ := HK.out w8 HR9.out.bel
 clear t3 tf tl
 have t0 := HR9.out.cell (i := 2) rfl (j := 0) rfl
 have t1 := HR9.out.cell (i := 2) rfl (j := 1) rfl
 have t2 := HR9.out.cell (i := 2) rfl (j := 2) rfl
 have t3 := HR9.out.cell (i := 2) rfl (j := 3) rfl
 have tl8 := (HR9.out.lt (i := 2) rfl).2
 have yl := (Array.getElem?_eq_some_iff.1 hy8).1
 have y0 : w8.cell? ⟨w.heap.size + 1, 0, none⟩ = some (.int .i64 0) := by simp [World.cell?, hy8]
 have y1 : w8.cell? ⟨w.heap.size + 1, 1, none⟩ = some (.int .i64 0) := by simp [World.cell?, hy8]
 have y2 : w8.cell? ⟨w.heap.size + 1, 2, none⟩ = some (.int .i64 0) := by simp [World.cell?, hy8]
 have y3 : w8.cell? ⟨w.heap.size + 1, 3, none⟩ = some (.slice none 0 0) := by simp [World.cell?, hy8]
 have yf0 : w8.frozen? ⟨w.heap.size + 1, 0, none⟩ = false := by simp [World.frozen?, hy8]
 have yf1 : w8.frozen? ⟨w.heap.size + 1, 1, none⟩ = false := by simp [World.frozen?, hy8]
 have yf2 : w8.frozen? ⟨w.heap.size + 1, 2, none⟩ = false := by simp [World.frozen?, hy8]
 have yf3 : w8.frozen? ⟨w.heap.size + 1, 3, none⟩ = false := by simp [World.frozen?, hy8]
 have HBL := hid hbl
 clear hw8 hy8 hbl
 go_wp2_with fail
 obtain ⟨ae, ce, be, hve, _, _, hse, hbe⟩ := HR9.out.sl (i := 0) (ys := nf ltE xs) rfl p0n rfl
 obtain ⟨ta, tc, bt, hvt, _, _, hst, hbt⟩ := HR9.out.sl (i := 4) (ys := fl n (toK D C n)) (by rw [k2o]; rfl) k0v (j0g _ _).symm
 simp only [Value.slice.injEq] at hve hvt
 obtain ⟨rfl, _, rfl⟩ := hve
 obtain ⟨rfl, _, rfl⟩ := hvt
 have hlo : w.heap.size + 1 < w2.heap.size := by omega
 have hQ : of14 inert T n C = ⟨(cn : Int), s.lb, S0, nf ltE xs⟩ := by (
 have h0 := HS0.out
 have hxe : nf ltE xs = nf ltE (quoEI inert T (fl n C) (quoD T (fl n C)) (reachL T)) := by
   rw [HXS.out, HDQ.out, HT.out]
   exact eK_all HR.out HN.out
 rw [h0]
 unfold of14
 by_cases hn0 : n = 0
 · subst hn0
   have hrl : reachL T = [] := v1y (by rw [HT.out]; exact HN.out)
   have hcn0 : cn = 0 := by rw [HCN.out, HDQ.out]; simp [quoD, clsL, hrl, dist]
   rw [if_pos rfl, hxe, hrl, hcn0, HLB.out]
   simp [quoEI, quoE, nf]
 · rw [if_neg hn0, hxe, HCN.out, HDQ.out, <- HLB.out]
   rfl)
 have hTT : fl n (fun i => toI (quoD T (fl n C)) (C i)) = fl n (toK D C n) := by (
 rw [<- HDQ.out]
 unfold fl
 apply List.map_congr_left
 intro i hi
 simp only [toK, if_pos (List.mem_range.1 hi)])
 refine bodyPost_ret (v := .tuple #[.agg #[.int .i64 cn, .int .i64 s.lb, .int .i64 S0, .slice a1 (nf ltE xs).length c1], .slice (some ⟨TB, 0, none⟩) n n]) (by simp [results, Tryz.results10, go_sem, y0, y1, y2, y3]) rfl ⟨a1, be, c1, TB, by rw [hQ], ?_, ?_, fun h => by rw [hQ] at h; have := hbe h; omega, by omega, ?_⟩
 · rw [hQ]
   exact (((hse.setOther (fun h => by have := hbe h; show be ≠ w.heap.size + 1; omega) _).setOther (fun h => by have := hbe h; show be ≠ w.heap.size + 1; omega) _).setOther (fun h => by have := hbe h; show be ≠ w.heap.size + 1; omega) _).setOther (fun h => by have := hbe h; show be ≠ w.heap.size + 1; omega) _
 · rw [hTT]
   have hst2 : SlAt encI 1 w8 (some ⟨TB, 0, none⟩) TB 0 (fl n (toK D C n)) := HR9.out.slO (i := 4) (ys := fl n (toK D C n)) (by rw [k2o]; rfl) k0v (j0g _ _).symm
   exact (((hst2.setOther (fun _ => by show TB ≠ w.heap.size + 1; omega) _).setOther (fun _ => by show TB ≠ w.heap.size + 1; omega) _).setOther (fun _ => by show TB ≠ w.heap.size + 1; omega) _).setOther (fun _ => by show TB ≠ w.heap.size + 1; omega) _
 · exact (((HBL.out.setCell (by show w.heap.size <= w.heap.size + 1; omega) _).setCell (by show w.heap.size <= w.heap.size + 1; omega) _).setCell (by show w.heap.size <= w.heap.size + 1; omega) _).setCell (by show w.heap.size <= w.heap.size + 1; omega) _)))))))
end Go.Proofs.YtjchdegapadepaaGreatDoor

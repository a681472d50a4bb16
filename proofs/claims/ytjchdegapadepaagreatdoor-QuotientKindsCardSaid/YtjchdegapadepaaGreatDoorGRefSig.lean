/-
  Lemmas.
-/
import Derived.Test.YtjchdegapadepaaGreatDoorGCanon
import Derived.Test.YtjchdegapadepaaGreatDoorGStrG
import Derived.Test.YtjchdegapadepaaGreatDoorGPl3
import Derived.Test.YtjchdegapadepaaGreatDoorGPl6
import Derived.Deep.QuietTactic
import Derived.BigQuiet
import Derived.Test.YtjchdegapadepaaGreatDoorGRefReach
import Derived.Test.YtjchdegapadepaaGreatDoorGQuoB
import Derived.Test.YtjchdegapadepaaGreatDoorGBrG
import Derived.Test.YtjchdegapadepaaGreatDoorGFrs
import Derived.Deep.RegionHeldLaw
set_option maxHeartbeats 8000000
set_option maxRecDepth 100000
namespace Go.Proofs.YtjchdegapadepaaGreatDoor
open Go.RowKit Pl
open Lib (hid)
def RIg (v : Value) (n : Nat) (xs : List Int) : Rw := ⟨3, 1, v, n, xs.flatMap encI⟩
theorem q1r (l : List Int) : l.flatMap encI = l.map (fun x => Value.int .i64 x) := by
 induction l with
 | nil => rfl
 | cons x l ih => rw [List.flatMap_cons, List.map_cons, ih]; rfl
theorem x0n (l : List Int) (j : Nat) (x : Int) : (l.flatMap encI).set j (.int .i64 x) = (l.set j x).flatMap encI := by rw [q1r, q1r, List.map_set]
theorem p0l {l : List Int} {j : Nat} {x : Int} (h : l[j]? = some x) : (l.flatMap encI)[j]? = some (.int .i64 x) := by rw [q1r, List.getElem?_map, h]; rfl
namespace Pl
def sgv (C : List Int) (x : S) : Int := x.1 * 1001 + atL C x.2
theorem srt_put {O : List Int} {v : Int} {k : Nat} (h : Srt ltI O) (hl : ∀ j x, O[j]? = some x -> j < k -> x < v) (hr : ∀ j x, O[j]? = some x -> k <= j -> v < x) : Srt ltI (O.take k ++ v :: O.drop k) := by
 unfold Srt at h ⊢
 have hsp : (O.take k ++ O.drop k).Pairwise (fun a b => ltI a b = true) := by rw [List.take_append_drop]; exact h
 rw [List.pairwise_append] at hsp ⊢
 refine ⟨hsp.1, List.pairwise_cons.2 ⟨fun x hx => ?_, hsp.2.1⟩, fun a ha b hb => ?_⟩
 · obtain ⟨j, hj⟩ := List.getElem?_of_mem hx
   rw [List.getElem?_drop] at hj
   have := hr _ _ hj (by omega)
   simp [ltI, this]
 · (
 obtain ⟨j, hj⟩ := List.getElem?_of_mem ha
 have hjk : j < k := by
   have := (List.getElem?_eq_some_iff.1 hj).1
   simp at this; omega
 rw [List.getElem?_take, if_pos hjk] at hj
 have h1 := hl _ _ hj hjk
 rcases List.mem_cons.1 hb with rfl | hb
 · simp [ltI, h1]
 · exact hsp.2.2 a (List.mem_of_getElem? (show (O.take k)[j]? = some a by rw [List.getElem?_take, if_pos hjk]; exact hj)) b hb)
theorem nf_put {O L : List Int} {v : Int} {k : Nat} (h : O = nf ltI L) (hl : ∀ j x, O[j]? = some x -> j < k -> x < v) (hr : ∀ j x, O[j]? = some x -> k <= j -> v < x) : O.take k ++ v :: O.drop k = nf ltI (L ++ [v]) := by
 refine x0b x1k _ _ (srt_put (by rw [h]; exact k0r x1k L) hl hr) (k0r x1k _) (fun x => ?_)
 rw [j0t x1k, List.mem_append, List.mem_cons, List.mem_append, List.mem_singleton, <- j0t x1k x L, <- h]
 have : x ∈ O ↔ x ∈ O.take k ∨ x ∈ O.drop k := by rw [<- List.mem_append, List.take_append_drop]
 rw [this]
 constructor
 · rintro (h1 | h1 | h1)
   · exact .inl (.inl h1)
   · exact .inr h1
   · exact .inl (.inr h1)
 · rintro ((h1 | h1) | h1)
   · exact .inl h1
   · exact .inr (.inr h1)
   · exact .inr (.inl h1)
theorem nf_had {O L : List Int} {v : Int} (h : O = nf ltI L) (hv : v ∈ O) : O = nf ltI (L ++ [v]) := by
 refine x0b x1k _ _ (by rw [h]; exact k0r x1k L) (k0r x1k _) (fun x => ?_)
 rw [j0t x1k, List.mem_append, List.mem_singleton, <- j0t x1k x L, <- h]
 constructor
 · exact .inl
 · rintro (h1 | rfl)
   · exact h1
   · exact hv
theorem j1r {O : List Int} {k : Nat} {x y : Int} (R : List Int) (h : k <= O.length) : (O.take k ++ x :: R).set k y = O.take k ++ y :: R := by
 have hl : (O.take k).length = k := by rw [List.length_take]; omega
 rw [List.set_append_right _ _ (by omega), hl, Nat.sub_self, List.set_cons_zero]
theorem p2h {O : List Int} {k : Nat} (x : Int) (R : List Int) (h : k <= O.length) : (O.take k ++ x :: R)[k]? = some x := by
 have hl : (O.take k).length = k := by rw [List.length_take]; omega
 rw [List.getElem?_append_right (by omega), hl, Nat.sub_self, List.getElem?_cons_zero]
theorem p1v {O : List Int} {j : Nat} {y : Int} (h : O[j]? = some y) : O.take (j + 1) ++ y :: O.drop (j + 1) = O.take j ++ y :: O.drop j := by
 obtain ⟨h1, h2⟩ := List.getElem?_eq_some_iff.1 h
 rw [take_snoc h, List.append_assoc, <- h2, List.drop_eq_getElem_cons h1]
 rfl
theorem srt_lt {O : List Int} (h : Srt ltI O) {i j : Nat} {x y : Int} (hi : O[i]? = some x) (hj : O[j]? = some y) (hij : i < j) : x < y := by
 obtain ⟨h1, h2⟩ := List.getElem?_eq_some_iff.1 hi
 obtain ⟨h3, h4⟩ := List.getElem?_eq_some_iff.1 hj
 have := List.pairwise_iff_getElem.1 h i j h1 h3 hij
 rw [h2, h4] at this
 simpa [ltI] using this
end Pl
theorem v1v {w : World} {xs : List S} {C : List Int} {a ca : Option Addr} {b off c cb co cc : Nat} (hS : SlAt encS 2 w a b off xs) (hC : SlAt encI 1 w ca cb co C) (hxl : xs.length <= 20000) (hcl : C.length <= 1000) (hx : ∀ x ∈ xs, 0 <= x.1 /\ x.1 <= 201 /\ 0 <= x.2 /\ x.2 < (C.length : Int)) (hcr : ∀ x ∈ C, 0 <= x /\ x <= 1000) :
    Calls Tryz.prog 80 #[.slice a xs.length c, .slice ca C.length cc] w fun e w' => ∃ v, e = .returned v /\ w'.ownsRow w.heap.size 3 1 v (nf ltI (xs.map (sgv C))).length ((nf ltI (xs.map (sgv C))).flatMap encI) /\ Below w.heap.size w w' := by
 obtain ⟨xl, hxle⟩ : ∃ xl, xl = xs.length := ⟨_, rfl⟩
 obtain ⟨cl, hcle⟩ : ∃ cl, cl = C.length := ⟨_, rfl⟩
 rw [<- hxle, <- hcle]
 rw [<- hxle] at hxl; rw [<- hcle] at hcl
 have HXL := hid hxle; have HCL := hid hcle
 have HS := hid hS; have HC := hid hC; have HX := hid hx; have HCR := hid hcr
 have HR0 : Hid (Rws w w [RIg (.slice none 0 0) 0 []]) := hid ((Rws.nil (Below.refl w.heap.size w)).addNil 3 1)
 clear hS hC hx hcr hxle hcle
 go_enter Tryz.func80, Tryz.ntmps80
 go_wp2_with fail
 go_loopw [5, 6, 7, 8, 9] (fun v5 v6 _ _ _ wr => ∃ (i m : Nat) (oa : Option Addr) (oc : Nat) (O : List Int), v6 = .int .i64 i /\ i <= xl /\ v5 = .slice oa m oc /\ m = O.length /\ O = nf ltI ((xs.take i).map (sgv C)) /\ Rws w wr [RIg (.slice oa m oc) m O]) (fun _ v6 _ _ _ _ => xl - (intOf v6).toNat)
 case atStart => exact ⟨0, 0, none, 0, [], rfl, Nat.zero_le _, rfl, rfl, rfl, HR0.out⟩
 case round => (
 obtain ⟨i, m, oa, oc, O, rfl, hi, rfl, hml, hO, hR⟩ := hrel
 have HM := hid hml; have HO := hid hO; have HR := hid hR
 have hmi : m <= i := by (
 rw [hml, hO]
 refine Nat.le_trans (j0s (lt := ltI) _) ?_
 rw [List.length_map, List.length_take]; omega)
 clear HR0 hml hO hR
 by_cases hlt : i < xl
 · (
 have hiI : (i : Int) < (xl : Int) := by omega
 obtain ⟨x, hxi⟩ := j0a (xs := xs) (i := i) (by have := HXL.out; omega)
 have hxm := HX.out x (List.mem_of_getElem? hxi)
 have hS := HS.out.below HR.out.bel (Nat.le_refl _)
 obtain rfl := hS.ad (by have := HXL.out; omega)
 have d0 := hS.s0 hxi; have d1 := hS.s1 hxi
 have dl := hS.lt (by have := HXL.out; omega)
 obtain ⟨x1, x2⟩ := x
 simp only at hxm d0 d1
 obtain ⟨t, rfl⟩ := Int.eq_ofNat_of_zero_le hxm.2.2.1
 have htc : t < cl := by have := HCL.out; omega
 have htI : (t : Int) < (cl : Int) := by omega
 obtain ⟨y, hy⟩ := j0a (xs := C) (i := t) (by have := HCL.out; omega)
 have hyr := HCR.out y (List.mem_of_getElem? hy)
 have hC := HC.out.below HR.out.bel (Nat.le_refl _)
 obtain rfl := hC.ad (by have := HCL.out; omega)
 have g0 := hC.ci hy
 have gl := hC.lt (by have := HCL.out; omega)
 have hay : atL C (t : Int) = y := by unfold atL; rw [List.getD_eq_getElem?_getD]; simp [hy]
 obtain ⟨V, hV⟩ : ∃ V, x1 * 1001 + y = V := ⟨_, rfl⟩
 have hVr : 0 <= V /\ V <= 300000 := by omega
 have HNF : Hid ((xs.take (i + 1)).map (sgv C) = (xs.take i).map (sgv C) ++ [V]) := hid (by rw [take_snoc hxi, List.map_append, <- hV]; simp [sgv, hay])
 have hx1 : 0 <= x1 /\ x1 <= 201 := ⟨hxm.1, hxm.2.1⟩
 clear hxi hxm hS hy hC hay
 go_wp2_with fail
 go_quiet (fail)
 go_wp2_with fail
 clear d0 d1 dl g0 gl hV
 go_loopw [8] (fun v8 wk => ∃ k : Nat, v8 = .int .i64 k /\ k <= m /\ (∀ j x, O[j]? = some x -> k <= j -> V < x) /\ Rws w wk [RIg (.slice oa m oc) m O]) (fun v8 _ => (intOf v8).toNat)
 case atStart => exact ⟨m, rfl, Nat.le_refl _, fun j x hj hm => by have := (List.getElem?_eq_some_iff.1 hj).1; have := HM.out; omega, HR.out.drewN _⟩
 case round => (
 obtain ⟨k, rfl, hk, hgt, hR⟩ := hrel
 have HGT := hid hgt; have HRK := hid hR
 clear hgt hR HR
 rcases Nat.eq_zero_or_pos k with rfl | hk0
 · (
 have HIN : Hid (O.take 0 ++ V :: O.drop 0 = nf ltI ((xs.take (i + 1)).map (sgv C))) := hid (by rw [HNF.out]; exact nf_put HO.out (fun j x _ h => by omega) HGT.out)
 have hws := HRK.out.bel.size
 obtain ⟨lw, hlw⟩ : ∃ lw, lw = wr := ⟨_, rfl⟩
 subst hlw
 have HOWN : Hid (∀ o : Obj, (lw.alloc o).ownsRow w.heap.size 3 1 (.slice oa m oc) m (O.flatMap encI)) := hid (fun o => (HRK.out.alloc o).get (i := 0) rfl)
 go_upto_region 11 with (at_builtin; refine j0x rfl _ _ _ rfl v0u (base := w.heap.size) (by simp; omega) rfl (HOWN.out _) ⟨lw.heap.size, 0, none⟩ 1 1 [.int .i64 0] rfl rfl (k0i (by simp [go_sem])) (by simp [Value.oneCell']) (by decide) (by omega) (by unfold maxLen; omega) lw.heap.size (by simp) ?_; intro g2 cap2 w7 hown7 hg7 hl7 hlt7)
 have hr7 : Rws w w7 [RIg (.slice (some ⟨g2, 0, none⟩) (m + 1) cap2) (m + 1) (O.take m ++ (0 : Int) :: O.drop m)] := by (
 have h := HRK.out.grown (w2 := lw.alloc (.cells #[.int .i64 0] 3)) ((Below.refl _ _).alloc (Nat.le_refl _) _) 0 rfl hown7 hg7 (fun g hg => by simp only [Value.ownBlock, Option.some.injEq] at hg; subst hg; exact hl7)
 have e : O.take m ++ (0 : Int) :: O.drop m = O ++ [0] := by rw [HM.out, List.take_length, List.drop_length]
 rw [e]
 show Rws w w7 [⟨3, 1, _, _, (O ++ [0]).flatMap encI⟩]
 rw [List.flatMap_append]
 exact h)
 have HR7 := hid hr7
 clear hr7 hown7 hg7 hl7 hlt7 HOWN
 go_wp2_with fail
 go_loopw [9] (fun v9 wj => ∃ (j : Nat) (x : Int), v9 = .int .i64 j /\ 0 <= j /\ j <= m /\ Rws w wj [RIg (.slice (some ⟨g2, 0, none⟩) (m + 1) cap2) (m + 1) (O.take j ++ x :: O.drop j)]) (fun v9 _ => (intOf v9).toNat)
 case atStart => exact ⟨m, 0, by go_num, by omega, Nat.le_refl _, HR7.out⟩
 case round => (
 obtain ⟨j, x, rfl, hjk, hjm, hR⟩ := hrel
 have HRJ := hid hR
 clear hR HR7
 have hml := HM.out
 have hgl := HRJ.out.lt (i := 0) rfl
 have hgl2 := hgl.2
 have hfz := HRJ.out.fz (i := 0) rfl j
 have hcj := HRJ.out.cell (i := 0) rfl (p0l (p2h x (O.drop j) (show j <= O.length by omega)))
 clear hgl
 by_cases hj : 0 < j
 · (
 obtain ⟨j, rfl⟩ : ∃ j', j = j' + 1 := ⟨j - 1, by omega⟩
 obtain ⟨y, hy⟩ := j0a (xs := O) (i := j) (by omega)
 have y0 := HRJ.out.cell (i := 0) rfl (p0l (show (O.take (j + 1) ++ x :: O.drop (j + 1))[j]? = some y by rw [List.getElem?_append_left (by rw [List.length_take]; omega), List.getElem?_take, if_pos (by omega)]; exact hy))
 have hst := HRJ.out.set 0 rfl (j + 1) (.int .i64 y)
 rw [x0n, j1r _ (by omega), p1v hy] at hst
 have HST : Hid (Rws w (wr.setCell ⟨g2, j + 1, none⟩ (.int .i64 y)) [RIg (.slice (some ⟨g2, 0, none⟩) (m + 1) cap2) (m + 1) (O.take j ++ y :: O.drop j)]) := hid hst
 have hjI : (j : Int) < (m : Int) := by omega
 clear hst hy hml
 go_wp2_with fail
 go_roundw
 case rel => exact ⟨j, y, by go_num, by omega, by omega, HST.out⟩
 case measure => simp [intOf] <;> omega)
 · (
 obtain rfl : 0 = j := by omega
 have hst := HRJ.out.set 0 rfl (0) (.int .i64 V)
 rw [x0n, j1r _ (by omega), HIN.out] at hst
 have HST : Hid (Rws w (wr.setCell ⟨g2, 0, none⟩ (.int .i64 V)) [RIg (.slice (some ⟨g2, 0, none⟩) (m + 1) cap2) (m + 1) (nf ltI ((xs.take (i + 1)).map (sgv C)))]) := hid hst
 have HML : Hid (m + 1 = (nf ltI ((xs.take (i + 1)).map (sgv C))).length) := hid (by rw [<- HIN.out, List.length_append, List.length_cons, List.length_take, List.length_drop]; omega)
 clear hst hml
 go_wp2_with fail
 go_roundw
 case rel => exact ⟨i + 1, m + 1, _, _, _, by go_num, by omega, rfl, HML.out, rfl, HST.out⟩
 case measure => simp [intOf] <;> omega)))
 · (
 obtain ⟨k, rfl⟩ : ∃ k', k = k' + 1 := ⟨k - 1, by omega⟩
 obtain ⟨z, hz⟩ := j0a (xs := O) (i := k) (by have := HM.out; omega)
 obtain ⟨g, cap, hv, hc1, hc2, hg1, hg2⟩ := HRK.out.form (i := 0) rfl (by omega)
 simp only [Value.slice.injEq] at hv
 obtain ⟨rfl, _, rfl⟩ := hv
 have z0 := HRK.out.cell (i := 0) rfl (p0l hz)
 have hkm : (k : Int) < (m : Int) := by omega
 have HZ := hid hz
 clear hz hc1 hg1
 by_cases hzv : V < z
 · (
 have HGT2 : Hid (∀ j x, O[j]? = some x -> k <= j -> V < x) := hid (fun j x hj h => by (
 rcases Nat.eq_or_lt_of_le h with e | e
 · subst e; rw [HZ.out] at hj; cases hj; exact hzv
 · exact HGT.out j x hj (by omega)))
 go_wp2_with fail
 go_roundw
 case rel => exact ⟨k, by go_num, by omega, HGT2.out, HRK.out⟩
 case measure => simp [intOf] <;> omega)
 · (
 by_cases hze : z = V
 · (
 subst hze
 have HIN : Hid (O = nf ltI ((xs.take (i + 1)).map (sgv C))) := hid (by rw [HNF.out]; exact nf_had HO.out (List.mem_of_getElem? HZ.out))
 clear hzv
 go_wp2_with fail
 go_roundw
 case rel => exact ⟨i + 1, m, _, _, O, by go_num, by omega, rfl, HM.out, HIN.out, HRK.out⟩
 case measure => simp [intOf] <;> omega)
 · (
 have hzl : z < V := by omega
 have HIN : Hid (O.take (k + 1) ++ V :: O.drop (k + 1) = nf ltI ((xs.take (i + 1)).map (sgv C))) := hid (by (
 rw [HNF.out]
 refine nf_put HO.out (fun j x hj h => ?_) HGT.out
 rcases Nat.eq_or_lt_of_le (show j <= k by omega) with e | e
 · subst e; rw [HZ.out] at hj; cases hj; exact hzl
 · have := srt_lt (by rw [HO.out]; exact k0r x1k _) hj HZ.out e; omega))
 have hzb : (z == V) = false := by simp [hze]
 clear hzv hze
 have hws := HRK.out.bel.size
 obtain ⟨lw, hlw⟩ : ∃ lw, lw = wr := ⟨_, rfl⟩
 subst hlw
 have HOWN : Hid (∀ o : Obj, (lw.alloc o).ownsRow w.heap.size 3 1 (.slice (some ⟨g, 0, none⟩) m oc) m (O.flatMap encI)) := hid (fun o => (HRK.out.alloc o).get (i := 0) rfl)
 go_upto_region 11 with (at_builtin; refine j0x rfl _ _ _ rfl v0u (base := w.heap.size) (by simp; omega) rfl (HOWN.out _) ⟨lw.heap.size, 0, none⟩ 1 1 [.int .i64 0] rfl rfl (k0i (by simp [go_sem])) (by simp [Value.oneCell']) (by decide) (by omega) (by unfold maxLen; omega) lw.heap.size (by simp) ?_; intro g2 cap2 w7 hown7 hg7 hl7 hlt7)
 have hr7 : Rws w w7 [RIg (.slice (some ⟨g2, 0, none⟩) (m + 1) cap2) (m + 1) (O.take m ++ (0 : Int) :: O.drop m)] := by (
 have h := HRK.out.grown (w2 := lw.alloc (.cells #[.int .i64 0] 3)) ((Below.refl _ _).alloc (Nat.le_refl _) _) 0 rfl hown7 hg7 (fun g hg => by simp only [Value.ownBlock, Option.some.injEq] at hg; subst hg; exact hl7)
 have e : O.take m ++ (0 : Int) :: O.drop m = O ++ [0] := by rw [HM.out, List.take_length, List.drop_length]
 rw [e]
 show Rws w w7 [⟨3, 1, _, _, (O ++ [0]).flatMap encI⟩]
 rw [List.flatMap_append]
 exact h)
 have HR7 := hid hr7
 clear hr7 hown7 hg7 hl7 hlt7 HOWN
 go_wp2_with fail
 go_loopw [9] (fun v9 wj => ∃ (j : Nat) (x : Int), v9 = .int .i64 j /\ (k + 1) <= j /\ j <= m /\ Rws w wj [RIg (.slice (some ⟨g2, 0, none⟩) (m + 1) cap2) (m + 1) (O.take j ++ x :: O.drop j)]) (fun v9 _ => (intOf v9).toNat)
 case atStart => exact ⟨m, 0, by go_num, by omega, Nat.le_refl _, HR7.out⟩
 case round => (
 obtain ⟨j, x, rfl, hjk, hjm, hR⟩ := hrel
 have HRJ := hid hR
 clear hR HR7
 have hml := HM.out
 have hgl := HRJ.out.lt (i := 0) rfl
 have hgl2 := hgl.2
 have hfz := HRJ.out.fz (i := 0) rfl j
 have hcj := HRJ.out.cell (i := 0) rfl (p0l (p2h x (O.drop j) (show j <= O.length by omega)))
 clear hgl
 by_cases hj : (k + 1) < j
 · (
 obtain ⟨j, rfl⟩ : ∃ j', j = j' + 1 := ⟨j - 1, by omega⟩
 obtain ⟨y, hy⟩ := j0a (xs := O) (i := j) (by omega)
 have y0 := HRJ.out.cell (i := 0) rfl (p0l (show (O.take (j + 1) ++ x :: O.drop (j + 1))[j]? = some y by rw [List.getElem?_append_left (by rw [List.length_take]; omega), List.getElem?_take, if_pos (by omega)]; exact hy))
 have hst := HRJ.out.set 0 rfl (j + 1) (.int .i64 y)
 rw [x0n, j1r _ (by omega), p1v hy] at hst
 have HST : Hid (Rws w (wr.setCell ⟨g2, j + 1, none⟩ (.int .i64 y)) [RIg (.slice (some ⟨g2, 0, none⟩) (m + 1) cap2) (m + 1) (O.take j ++ y :: O.drop j)]) := hid hst
 have hjI : (j : Int) < (m : Int) := by omega
 clear hst hy hml
 go_wp2_with fail
 go_roundw
 case rel => exact ⟨j, y, by go_num, by omega, by omega, HST.out⟩
 case measure => simp [intOf] <;> omega)
 · (
 obtain rfl : (k + 1) = j := by omega
 have hst := HRJ.out.set 0 rfl ((k + 1)) (.int .i64 V)
 rw [x0n, j1r _ (by omega), HIN.out] at hst
 have HST : Hid (Rws w (wr.setCell ⟨g2, (k + 1), none⟩ (.int .i64 V)) [RIg (.slice (some ⟨g2, 0, none⟩) (m + 1) cap2) (m + 1) (nf ltI ((xs.take (i + 1)).map (sgv C)))]) := hid hst
 have HML : Hid (m + 1 = (nf ltI ((xs.take (i + 1)).map (sgv C))).length) := hid (by rw [<- HIN.out, List.length_append, List.length_cons, List.length_take, List.length_drop]; omega)
 clear hst hml
 go_wp2_with fail
 go_roundw
 case rel => exact ⟨i + 1, m + 1, _, _, _, by go_num, by omega, rfl, HML.out, rfl, HST.out⟩
 case measure => simp [intOf] <;> omega)))))))
 · (
 obtain rfl : xl = i := by omega
 have HFN : Hid (O = nf ltI (xs.map (sgv C))) := hid (by have := HO.out; rw [List.take_of_length_le (by rw [HXL.out]; exact Nat.le_refl _)] at this; exact this)
 go_wp2_with fail
 go_ret
 refine ⟨_, rfl, ?_, HR.out.bel⟩
 rw [<- HFN.out, <- HM.out]
 exact HR.out.get (i := 0) rfl))
end Go.Proofs.YtjchdegapadepaaGreatDoor
namespace Go.Proofs.YtjchdegapadepaaGreatDoor
open Go.RowKit Pl
open Lib (hid)
def nkey (C : List Int) (f : Nat -> List S) (p : Nat) : Int × List Int := (C.getD p 0, nf ltI ((f p).map (sgv C)))
def RAs (ab n : Nat) (g : Nat -> Value) : Rw := ⟨3, 1, .slice (some ⟨ab, 0, none⟩) n n, n, (List.range n).map g⟩
theorem FR.rest {ob m j : Nat} {vs : Nat -> Value} {f : Nat -> List Int} {rest : List Rw} : (FR ob m vs f ++ rest)[m + 1 + j]? = rest[j]? := by
 have hl : (FR ob m vs f).length = m + 1 := by unfold FR; simp
 rw [List.getElem?_append_right (by omega), hl, show m + 1 + j - (m + 1) = j by omega]
theorem FR.setRest {ob m j : Nat} {vs : Nat -> Value} {f : Nat -> List Int} {rest : List Rw} {r : Rw} : (FR ob m vs f ++ rest).set (m + 1 + j) r = FR ob m vs f ++ rest.set j r := by
 have hl : (FR ob m vs f).length = m + 1 := by unfold FR; simp
 rw [List.set_append_right _ _ (by omega), hl, show m + 1 + j - (m + 1) = j by omega]
theorem k2w {w0 w : World} {L : List Rw} (h : Rws w0 w L) {n : Nat} (hn : n <= 1000) : Rws w0 (w.alloc (.cells (madeCells #[.int .i64 0] n) 3)) (RAs w.heap.size n (fun _ => .int .i64 0) :: L) := by
 have h2 := h.addLit (madeCells #[.int .i64 0] n) 3 (k := 1) (n := n) (by unfold maxLen; omega) (by simp [size_madeCells])
 have e : (madeCells #[.int .i64 0] n).toList = (List.range n).map (fun _ => (.int .i64 0 : Value)) := by (
 rw [toList_madeCells_one]
 apply List.ext_getElem?
 intro i
 by_cases hi : i < n <;> simp [hi])
 rw [e] at h2
 exact h2
theorem u1p {w w' : World} (hB : Below w.heap.size w w') : w.grownBy w' none := ⟨hB.os, hB.tape, hB.output, hB.size, fun i hi _ => hB.block i hi⟩
def NXR (sb n : Nat) (vs : Nat -> Value) (fq : Nat -> List Int) (v : Value) (m : Nat) (D : List Int) (ab : Nat) (g : Nat -> Value) : List Rw := FR sb n vs fq ++ [RIg v m D, RAs ab n g]
theorem x1r {w : World} {f : Nat -> List S} {C : List Int} {n : Nat} (hcl : C.length = n) (hn1 : n <= 1000) {ob c : Nat} (hF : StepsIn w ob n f) (hfo : ∀ p, p < n -> (f p).length <= 20000 /\ ∀ x ∈ f p, 0 <= x.1 /\ x.1 <= 201 /\ 0 <= x.2 /\ x.2 < (n : Int))
    {ca : Option Addr} {cb co cc : Nat} (hC : SlAt encI 1 w ca cb co C) (hcr : ∀ x ∈ C, 0 <= x /\ x <= 1000) :
    Calls Tryz.prog 43 #[.slice (some ⟨ob, 0, none⟩) n c, .slice ca n cc] w fun e w' => ∃ nb, e = .returned (.slice (some ⟨nb, 0, none⟩) n n) /\ SlAt encI 1 w' (some ⟨nb, 0, none⟩) nb 0 (fl n (clf n (fun i => (rep (nkey C f) i : Int)))) /\ w.heap.size <= nb /\ Below w.heap.size w w' := by
 have hmk := run_make_row' (P := Tryz.prog) 27 3 (.int .i64 0) 8 Tryz.underlying27 (by kernel_rfl) rfl .i64 .i64 n (by omega) (by omega)
 have hmk2 := run_make_row' (P := Tryz.prog) 55 27 (.slice none 0 0) 24 Tryz.underlying55 (by kernel_rfl) rfl .i64 .i64 n (by omega) (by omega)
 have HCL := hid hcl; have HF := hid hF; have HFO := hid hfo; have HC := hid hC; have HCR := hid hcr
 clear hcl hF hfo hC hcr
 go_enter Tryz.func43, Tryz.ntmps43
 go_wp2_with fail
 obtain ⟨w2, hw2⟩ : ∃ w2, w2 = (w.alloc (.cells (madeCells #[.int .i64 0] n) 3)).alloc (.cells (madeCells #[.slice none 0 0] n) 27) := ⟨_, rfl⟩
 have hr2 : Rws w w2 (NXR (w.heap.size + 1) n (fun _ => .slice none 0 0) (fun _ => []) (.slice none 0 0) 0 [] w.heap.size (rowAtK (repL (nkey C f) n) 0)) := by (
 have h1 := (((k2w (Rws.nil (Below.refl w.heap.size w)) hn1).addNil 3 1).frMade (m := n) (by unfold maxLen; omega))
 rw [show (w.alloc (.cells (madeCells #[.int .i64 0] n) 3)).heap.size = w.heap.size + 1 by simp, <- hw2] at h1
 have e : RAs w.heap.size n (rowAtK (repL (nkey C f) n) 0) = RAs w.heap.size n (fun _ => .int .i64 0) := by
   unfold RAs
   congr 1
 unfold NXR
 rw [e]
 exact h1)
 rw [<- hw2]
 obtain ⟨ab, hab⟩ : ∃ ab, ab = w.heap.size := ⟨_, rfl⟩
 rw [<- hab] at hr2 ⊢
 obtain ⟨sb, hsb⟩ : ∃ sb, sb = ab + 1 := ⟨_, rfl⟩
 rw [<- hsb] at hr2 ⊢
 have HR2 := hid hr2; have HAB := hid hab; have HSBB := hid hsb
 clear hw2 hr2 hab hmk hmk2 hsb
 go_loopw [5, 8, 9] (fun v5 v8 _ wr => ∃ (i m : Nat) (oa : Option Addr) (oc : Nat) (vs : Nat -> Value), v8 = .int .i64 i /\ i <= n /\ v5 = .slice oa m oc /\ m = (dist (repL (nkey C f) i)).length /\ (∀ p, i <= p -> vs p = .slice none 0 0) /\ Rws w wr (NXR sb n vs (fun p => if p < i then (nkey C f p).2 else []) (.slice oa m oc) m (dist (repL (nkey C f) i)) ab (rowAtK (repL (nkey C f) n) i))) (fun _ v8 _ _ => n - (intOf v8).toNat)
 case atStart => exact ⟨0, 0, none, 0, _, rfl, Nat.zero_le _, rfl, rfl, fun p _ => rfl, by simpa [repL, fl, dist] using HR2.out⟩
 case round => (
 obtain ⟨i, m, oa, oc, vs, rfl, hi, rfl, hm, hvn, hR⟩ := hrel
 have HM := hid hm; have HVN := hid hvn; have HR := hid hR
 clear hm hvn hR HR2
 by_cases hin : i < n
 · (
 have hiI : (i : Int) < (n : Int) := by omega
 obtain ⟨ra, rc, rb, ro, hr0, hrs⟩ := (HF.out.below HR.out.bel).at_ i hin
 have hol := (HF.out.below HR.out.bel).lt
 have hcs := HC.out.below HR.out.bel (Nat.le_refl _)
 have hsg := v1v (c := rc) (cc := cc) hrs hcs (HFO.out i hin).1 (by have := HCL.out; omega) (by have := HCL.out; rw [this]; exact (HFO.out i hin).2) HCR.out
 rw [HCL.out] at hsg
 obtain ⟨fl1, hfl1⟩ : ∃ fl1, fl1 = (f i).length := ⟨_, rfl⟩
 rw [<- hfl1] at hr0 hsg
 have HSG := hid hsg
 clear hrs hcs hsg hfl1
 go_wp2_with fail
 refine HSG.out.mono ?_
 rintro e w5 ⟨v, rfl, hown, hB5⟩
 obtain ⟨va, vc, vb, rfl, _, _, _, _⟩ := j0f k0v hown
 obtain ⟨sl, hsl⟩ : ∃ sl, sl = (nf ltI ((f i).map (sgv C))).length := ⟨_, rfl⟩
 have HSL := hid hsl
 rw [<- hsl] at hown ⊢
 obtain ⟨v, hv⟩ : ∃ v : Value, v = .slice va sl vc := ⟨_, rfl⟩
 rw [<- hv] at hown
 have HV := hid hv
 clear hsl hv
 have hgr := HR.out.frGrow (Below.refl _ _) hin (v' := v) (ys := (nkey C f i).2) (j0o (by have h := hown; rw [HSL.out] at h; exact h) HR.out.bel.size) (by rw [HVN.out i (Nat.le_refl _)]; exact u1p hB5) (fun g hg => .inr (hown.lt g hg).1)
 obtain ⟨s0, s1, s2, hr5⟩ := hgr
 have hvn2 : ∀ p, i + 1 <= p -> upd vs i v p = .slice none 0 0 := fun p hp => by unfold upd; rw [if_neg (by omega)]; exact HVN.out p (by omega)
 have hfe : upd (fun p => if p < i then (nkey C f p).2 else []) i (nkey C f i).2 = fun p => if p < i + 1 then (nkey C f p).2 else [] := by (
 funext p
 unfold upd
 by_cases e : p = i
 · subst e; rw [if_pos rfl, if_pos (by omega)]
 · rw [if_neg e]
   dsimp only
   by_cases e2 : p < i
   · rw [if_pos e2, if_pos (by omega)]
   · rw [if_neg e2, if_neg (by omega)])
 rw [hfe] at hr5
 rw [HV.out] at hr5
 rw [HV.out] at hvn2
 obtain ⟨vs2, hvs2⟩ : ∃ vs2, vs2 = upd vs i (.slice va sl vc) := ⟨_, rfl⟩
 rw [<- hvs2] at hr5 hvn2
 have HR5 := hid hr5; have HVN2 := hid hvn2
 clear hr5 hvn2 hfe hvs2 hown hB5 HR HVN HSG hr0 hol
 go_wp2_with fail
 clear s0 s1 s2
 go_loopw [9] (fun v9 wk => ∃ k : Nat, v9 = .int .i64 k /\ k <= m /\ (∀ j q : Nat, j < k -> (dist (repL (nkey C f) i))[j]? = some (q : Int) -> nkey C f q ≠ nkey C f i) /\ Rws w wk (NXR sb n vs2 (fun p => if p < i + 1 then (nkey C f p).2 else []) (.slice oa m oc) m (dist (repL (nkey C f) i)) ab (rowAtK (repL (nkey C f) n) i))) (fun v9 _ => m - (intOf v9).toNat)
 case atStart => exact ⟨0, rfl, Nat.zero_le _, fun j q h => by omega, HR5.out⟩
 case round => (
 obtain ⟨k, rfl, hk, hno, hR⟩ := hrel
 have HNO := hid hno; have HR := hid hR
 clear hno hR HR5
 have hml := HM.out
 have hmi : m <= i := by rw [hml]; have := k0h (repL (nkey C f) i); unfold repL at this ⊢; rw [j0g] at this; exact this
 by_cases hkm : k < m
 · (
 have hkI : (k : Int) < (m : Int) := by omega
 obtain ⟨x, hx⟩ := j0a (xs := dist (repL (nkey C f) i)) (i := k) (by omega)
 obtain ⟨q, hqi, rfl, hqr⟩ := j1y.1 (List.mem_of_getElem? hx)
 have hqn : q < n := by omega
 obtain ⟨fg, fc, hv, _, _, _, hfl⟩ := HR.out.form (i := n + 1 + 0) (by unfold NXR; rw [FR.rest]; rfl) (by omega)
 simp only [Value.slice.injEq] at hv
 obtain ⟨rfl, _, rfl⟩ := hv
 have f0 := HR.out.cell (i := n + 1 + 0) (by unfold NXR; rw [FR.rest]; rfl) (p0l hx)
 have hcs := HC.out.below HR.out.bel (Nat.le_refl _)
 have hcl2 := HCL.out
 obtain ⟨y1, hy1⟩ := j0a (xs := C) (i := q) (by omega)
 obtain ⟨y2, hy2⟩ := j0a (xs := C) (i := i) (by omega)
 obtain rfl := hcs.ad (by omega)
 have c1 := hcs.ci hy1; have c2 := hcs.ci hy2; have cl := hcs.lt (by omega)
 have hk1 : (nkey C f q).1 = y1 := by unfold nkey; rw [List.getD_eq_getElem?_getD, hy1]; rfl
 have hk2 : (nkey C f i).1 = y2 := by unfold nkey; rw [List.getD_eq_getElem?_getD, hy2]; rfl
 obtain ⟨s1, _, s3, _⟩ := HR.out.frCell hqn
 obtain ⟨s2, _, _, _⟩ := HR.out.frCell hin
 have o1 := HR.out.frOwn hqn; have o2 := HR.out.frOwn hin
 rw [if_pos (by omega)] at o1 o2
 obtain ⟨qa, qc, qb, hvq, _, _, hsq, _⟩ := j0f k0v o1
 obtain ⟨ia, ic, ib, hvi, _, _, hsi, _⟩ := j0f k0v o2
 rw [hvq] at s1; rw [hvi] at s2
 have hsl1 : (nkey C f q).2.length <= 20000 := by unfold nkey; refine Nat.le_trans (j0s (lt := ltI) _) ?_; rw [List.length_map]; exact (HFO.out q hqn).1
 have hsl2 : (nkey C f i).2.length <= 20000 := by unfold nkey; refine Nat.le_trans (j0s (lt := ltI) _) ?_; rw [List.length_map]; exact (HFO.out i hin).1
 have hsame : ∀ u, Calls Tryz.prog 81 #[.slice qa (nkey C f q).2.length qc, .slice ia (nkey C f i).2.length ic] (wr.drewN u) fun e w' => e = .returned (.bool (decide ((nkey C f q).2 = (nkey C f i).2))) /\ ∃ m, w' = (wr.drewN u).drewN m := fun u =>
   p1m (hsq.below (k0c (Below.refl _ _)) (Nat.le_refl _)) (hsi.below (k0c (Below.refl _ _)) (Nat.le_refl _)) (by omega) (by omega)
 have HSM := hid hsame
 obtain ⟨q1, hq1⟩ : ∃ q1, q1 = (nkey C f q).2.length := ⟨_, rfl⟩
 obtain ⟨q2, hq2⟩ : ∃ q2, q2 = (nkey C f i).2.length := ⟨_, rfl⟩
 rw [<- hq1, <- hq2] at HSM
 rw [<- hq1] at s1; rw [<- hq2] at s2
 have hqI : (q : Int) < (n : Int) := by omega
 have HX := hid hx; have HK1 := hid hk1; have HK2 := hid hk2
 clear hx hqr hcs hcl2 hy1 hy2 hk1 hk2 o1 o2 hvq hvi hsq hsi hsl1 hsl2 hsame hq1 hq2 hml
 by_cases hyy : y1 = y2
 · (
 have hb : (y1 != y2) = false := by simp [hyy]
 have HYY := hid hyy
 clear hyy
 by_cases hse : (nkey C f q).2 = (nkey C f i).2
 · (
 have hkey : nkey C f q = nkey C f i := Prod.ext (by rw [HK1.out, HK2.out, HYY.out]) hse
 obtain ⟨hfm, hfi⟩ := p1l HX.out hkey
 have HFM := hid hfm; have HFI := hid hfi
 have HSE := hid (decide_eq_true hse)
 have a0 := HR.out.cell (i := n + 1 + 1) (by unfold NXR; rw [FR.rest]; rfl) (j := i) (u := rowAtK (repL (nkey C f) n) i i) (by rw [List.getElem?_map, List.getElem?_range hin]; rfl)
 have a1 := HR.out.fz (i := n + 1 + 1) (by unfold NXR; rw [FR.rest]; rfl) i
 have al := (HR.out.lt (i := n + 1 + 1) (by unfold NXR; rw [FR.rest]; rfl)).2
 have hd : dist (repL (nkey C f) (i + 1)) = dist (repL (nkey C f) i) := by
   rw [<- k0f (show i + 1 <= n by omega), take_snoc (k0u hin), k0f (by omega), j0i]; unfold addN; rw [if_pos hfm]
 have HST : Hid (∀ u, Rws w ((wr.drewN u).setCell ⟨ab, i, none⟩ (.int .i64 (k : Int))) (NXR sb n vs2 (fun p => if p < i + 1 then (nkey C f p).2 else []) (.slice (some ⟨fg, 0, none⟩) m oc) m (dist (repL (nkey C f) (i + 1))) ab (rowAtK (repL (nkey C f) n) (i + 1)))) := hid (fun u => by (
 have hst := (HR.out.drewN u).set (n + 1 + 1) (by unfold NXR; rw [FR.rest]; rfl) i (.int .i64 (k : Int))
 unfold NXR at hst
 rw [FR.setRest] at hst
 have e : ((List.range n).map (rowAtK (repL (nkey C f) n) i)).set i (.int .i64 (k : Int)) = (List.range n).map (rowAtK (repL (nkey C f) n) (i + 1)) := by (
 rw [k0e]
 apply List.map_congr_left
 intro p _
 have h := j0z (k0u (key := nkey C f) hin) p
 rw [k0f (by omega), hd, hfi] at h
 exact h)
 rw [hd]
 unfold NXR RAs
 rw [<- e]
 exact hst))
 have HMD : Hid (m = (dist (repL (nkey C f) (i + 1))).length) := hid (by rw [hd]; exact HM.out)
 have hkm2 : ¬ k = m := by omega
 clear hse hkey hfm hfi hd
 go_wp2_with fail
 go_region_held3 (fun w' => w'.cell? ⟨fg, k, none⟩ = some (.int .i64 (q : Int)) /\ w'.cell? ⟨cb, co + q, none⟩ = some (.int .i64 y1) /\ w'.cell? ⟨cb, co + i, none⟩ = some (.int .i64 y2) /\ w'.cell? ⟨sb, q, none⟩ = some (.slice qa q1 qc) /\ w'.cell? ⟨sb, i, none⟩ = some (.slice ia q2 ic))
   (first | exact ⟨f0, c1, c2, s1, s2⟩ | assumption)
   ((go_at_call 81; refine (HSM.out _).mono ?_; rintro e w7 ⟨rfl, mm, rfl⟩; rw [HSE.out]))
 go_wp2_with fail
 go_roundw
 case rel => exact ⟨i + 1, m, _, _, vs2, by go_num, by omega, rfl, HMD.out, HVN2.out, HST.out _⟩
 case measure => simp [intOf]; omega)
 · (
 have HSE := hid (decide_eq_false hse)
 have HNK : Hid (nkey C f q ≠ nkey C f i) := hid (fun e => hse (by rw [e]))
 clear hse
 go_wp2_with fail
 go_region_held3 (fun w' => w'.cell? ⟨fg, k, none⟩ = some (.int .i64 (q : Int)) /\ w'.cell? ⟨cb, co + q, none⟩ = some (.int .i64 y1) /\ w'.cell? ⟨cb, co + i, none⟩ = some (.int .i64 y2) /\ w'.cell? ⟨sb, q, none⟩ = some (.slice qa q1 qc) /\ w'.cell? ⟨sb, i, none⟩ = some (.slice ia q2 ic))
   (first | exact ⟨f0, c1, c2, s1, s2⟩ | assumption)
   ((go_at_call 81; refine (HSM.out _).mono ?_; rintro e w7 ⟨rfl, mm, rfl⟩; rw [HSE.out]))
 go_wp2_with fail
 go_roundw
 case rel => exact ⟨k + 1, by go_num, by omega, fun j q' hj hq' => by (
 rcases Nat.eq_or_lt_of_le (show j <= k by omega) with e | e
 · subst e; rw [HX.out] at hq'; have := Option.some.inj hq'; obtain rfl : q = q' := by omega
   exact HNK.out
 · exact HNO.out j q' e hq'), HR.out.drewN _⟩
 case measure => simp [intOf]; omega))
 · (
 have hb : (y1 != y2) = true := by simp [hyy]
 have HNK : Hid (nkey C f q ≠ nkey C f i) := hid (fun e => hyy (by rw [<- HK1.out, <- HK2.out, e]))
 clear hyy
 go_wp2_with fail
 go_quiet (fail)
 go_wp2_with fail
 go_roundw
 case rel => exact ⟨k + 1, by go_num, by omega, fun j q' hj hq' => by (
 rcases Nat.eq_or_lt_of_le (show j <= k by omega) with e | e
 · subst e; rw [HX.out] at hq'; have := Option.some.inj hq'; obtain rfl : q = q' := by omega
   exact HNK.out
 · exact HNO.out j q' e hq'), HR.out.drewN _⟩
 case measure => simp [intOf]; omega))
 · (
 obtain rfl : m = k := by omega
 obtain ⟨hri, hrn⟩ := k2s (key := nkey C f) (i := i) (fun j q hq => HNO.out j q (by have := (List.getElem?_eq_some_iff.1 hq).1; omega) hq)
 have hd : dist (repL (nkey C f) (i + 1)) = dist (repL (nkey C f) i) ++ [(i : Int)] := by
   rw [<- k0f (show i + 1 <= n by omega), take_snoc (k0u hin), k0f (by omega), j0i]; unfold addN; rw [if_neg hrn, hri]
 have hix : (dist (repL (nkey C f) (i + 1))).idxOf (i : Int) = m := by (
 rw [hd, List.idxOf_append]
 rw [hri] at hrn
 simp [hrn, HM.out])
 have HD := hid hd; have HIX := hid hix; have HRI := hid hri
 have HMD : Hid (m + 1 = (dist (repL (nkey C f) (i + 1))).length) := hid (by rw [hd, List.length_append, HM.out]; rfl)
 have hws := HR.out.bel.size
 have hmi2 : m <= 1000 := by omega
 clear hri hrn hd hix hml
 go_wp2_with fail
 go_quiet (fail)
 have HRN := hid (HR.out.drewN nq)
 obtain ⟨lw, hlw⟩ : ∃ lw, lw = wr.drewN nq := ⟨_, rfl⟩
 have hws2 : w.heap.size <= lw.heap.size := by rw [hlw]; exact hws
 rw [<- hlw] at HRN ⊢
 have HOWN : Hid (∀ o : Obj, (lw.alloc o).ownsRow w.heap.size 3 1 (.slice oa m oc) m ((dist (repL (nkey C f) i)).flatMap encI)) := hid (fun o => (HRN.out.alloc o).get (i := n + 1 + 0) (by unfold NXR; rw [FR.rest]; rfl))
 have KP : Hid (∀ (w7 : World) (g2 cap2 : Nat), w7.ownsRow w.heap.size 3 1 (.slice (some ⟨g2, 0, none⟩) (m + 1) cap2) (m + 1) ((dist (repL (nkey C f) i)).flatMap encI ++ [.int .i64 (i : Int)]) -> (lw.alloc (.cells #[.int .i64 (i : Int)] 3)).grownBy w7 (Value.slice oa m oc).ownBlock -> ((Value.slice oa m oc).ownBlock = some g2 ∨ lw.heap.size <= g2) ->
     Rws w w7 (NXR sb n vs2 (fun p => if p < i + 1 then (nkey C f p).2 else []) (.slice (some ⟨g2, 0, none⟩) (m + 1) cap2) (m + 1) (dist (repL (nkey C f) (i + 1))) ab (rowAtK (repL (nkey C f) n) i))) := hid (fun w7 g2 cap2 ho hg hl => by
   have h := HRN.out.grown (w2 := lw.alloc (.cells #[.int .i64 (i : Int)] 3)) ((Below.refl _ _).alloc (Nat.le_refl _) _) (n + 1 + 0) (by unfold NXR; rw [FR.rest]; rfl) ho hg (fun g hg => by simp only [Value.ownBlock, Option.some.injEq] at hg; subst hg; exact hl)
   unfold NXR at h
   rw [FR.setRest] at h
   unfold NXR
   have e : RIg (.slice (some ⟨g2, 0, none⟩) (m + 1) cap2) (m + 1) (dist (repL (nkey C f) (i + 1))) = ⟨3, 1, .slice (some ⟨g2, 0, none⟩) (m + 1) cap2, m + 1, (dist (repL (nkey C f) i)).flatMap encI ++ [.int .i64 (i : Int)]⟩ := by
     unfold RIg; rw [HD.out, List.flatMap_append]; rfl
   rw [e]
   exact h)
 have HST : Hid (∀ (w7 : World) (v : Value), Rws w w7 (NXR sb n vs2 (fun p => if p < i + 1 then (nkey C f p).2 else []) v (m + 1) (dist (repL (nkey C f) (i + 1))) ab (rowAtK (repL (nkey C f) n) i)) -> Rws w (w7.setCell ⟨ab, i, none⟩ (.int .i64 (m : Int))) (NXR sb n vs2 (fun p => if p < i + 1 then (nkey C f p).2 else []) v (m + 1) (dist (repL (nkey C f) (i + 1))) ab (rowAtK (repL (nkey C f) n) (i + 1)))) := hid (fun w7 v h => by (
 have hst := h.set (n + 1 + 1) (by unfold NXR; rw [FR.rest]; rfl) i (.int .i64 (m : Int))
 unfold NXR at hst
 rw [FR.setRest] at hst
 have e : ((List.range n).map (rowAtK (repL (nkey C f) n) i)).set i (.int .i64 (m : Int)) = (List.range n).map (rowAtK (repL (nkey C f) n) (i + 1)) := by (
 rw [k0e]
 apply List.map_congr_left
 intro p _
 have h := j0z (k0u (key := nkey C f) hin) p
 rw [k0f (by omega), HRI.out, HIX.out] at h
 exact h)
 unfold NXR RAs
 rw [<- e]
 exact hst))
 clear hlw hws
 go_wp2_with (at_builtin; refine j0x rfl _ _ _ rfl v0u (base := w.heap.size) (by simp; omega) rfl (HOWN.out _) ⟨lw.heap.size, 0, none⟩ 1 1 [.int .i64 (i : Int)] rfl rfl (k0i (by simp [go_sem])) (by simp [Value.oneCell']) (by decide) (by omega) (by unfold maxLen; omega) lw.heap.size (by simp) ?_; intro g2 cap2 w7 hown7 hg7 hl7 hlt7; have hr7 := KP.out w7 g2 cap2 hown7 hg7 hl7; have a0 := hr7.cell (i := n + 1 + 1) (by unfold NXR; rw [FR.rest]; rfl) (j := i) (u := rowAtK (repL (nkey C f) n) i i) (by rw [List.getElem?_map, List.getElem?_range hin]; rfl); have a1 := hr7.fz (i := n + 1 + 1) (by unfold NXR; rw [FR.rest]; rfl) i; have al := (hr7.lt (i := n + 1 + 1) (by unfold NXR; rw [FR.rest]; rfl)).2; have HR7 := hid hr7; clear hr7 hown7 hg7 hl7)
 go_roundw
 case rel => exact ⟨i + 1, m + 1, _, _, vs2, by go_num, by omega, rfl, HMD.out, HVN2.out, HST.out _ _ HR7.out⟩
 case measure => simp [intOf]; omega)))
 · (
 obtain rfl : n = i := by omega
 have hfin : SlAt encI 1 wr (some ⟨ab, 0, none⟩) ab 0 (fl n (clf n (fun i => (rep (nkey C f) i : Int)))) := by (
 have e : (List.range n).map (rowAtK (repL (nkey C f) n) n) = (fl n (clf n (fun i => (rep (nkey C f) i : Int)))).flatMap encI := by (
 rw [q1r]; unfold fl; rw [List.map_map]
 apply List.map_congr_left
 intro j hj
 exact x0x (List.mem_range.1 hj))
 obtain ⟨a1, c1, b1, hv, _, _, hs, _⟩ := HR.out.sl (i := n + 1 + 1) (α := Int) (enc := encI) (T := 3) (k := 1) (v := .slice (some ⟨ab, 0, none⟩) n n) (n := n) (ys := fl n (clf n (fun i => (rep (nkey C f) i : Int)))) (by unfold NXR; rw [FR.rest]; show some (RAs _ _ _) = _; unfold RAs; rw [e]) k0v (by rw [j0g])
 simp only [Value.slice.injEq] at hv
 obtain ⟨rfl, _, _⟩ := hv
 by_cases hn0 : n = 0
 · subst hn0
   exact ⟨fun _ => rfl, fun h => by simp [fl] at h, fun i x hx => by simp [fl] at hx⟩
 · have := hs.ad (by rw [j0g]; omega)
   simp only [Option.some.injEq, Addr.mk.injEq, and_true] at this
   obtain rfl := this
   exact hs)
 have HFN := hid hfin
 clear hfin
 go_wp2_with fail
 go_ret
 exact ⟨ab, rfl, HFN.out, by have := HAB.out; omega, HR.out.bel⟩))
end Go.Proofs.YtjchdegapadepaaGreatDoor

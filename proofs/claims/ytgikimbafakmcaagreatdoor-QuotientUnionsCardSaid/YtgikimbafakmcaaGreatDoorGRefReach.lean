/-
  Lemmas.
-/
import Derived.Test.YtgikimbafakmcaaGreatDoorRefOut
import Derived.Test.YtgikimbafakmcaaGreatDoorGPl1
import Derived.Test.YtgikimbafakmcaaGreatDoorGRws
import Derived.Test.YtgikimbafakmcaaGreatDoorGPl6
import Derived.Test.YtgikimbafakmcaaGreatDoorGLaidQun
import Derived.Test.YtgikimbafakmcaaGreatDoorGStrG
import Derived.Deep.QuietTactic
import Derived.BigQuiet
set_option maxRecDepth 100000
namespace Go.Proofs.YtgikimbafakmcaaGreatDoor
open Go.RowKit Pl
end Go.Proofs.YtgikimbafakmcaaGreatDoor
namespace Go.Proofs.YtgikimbafakmcaaGreatDoor
open Go.RowKit Pl
structure StepsIn (w : World) (ob n : Nat) (f : Nat -> List S) : Prop where
  at_ : ∀ p, p < n -> ∃ a c b off, w.cell? ⟨ob, p, none⟩ = some (.slice a (f p).length c) /\ SlAt encS 2 w a b off (f p)
  lt : ob < w.heap.size
theorem StepsIn.below {w w' : World} {ob n : Nat} {f : Nat -> List S} (h : StepsIn w ob n f) (hB : Below w.heap.size w w') : StepsIn w' ob n f :=
  ⟨fun p hp => by
    obtain ⟨a, c, b, off, h1, h2⟩ := h.at_ p hp
    exact ⟨a, c, b, off, by rw [hB.cell (p := ⟨ob, p, none⟩) h.lt]; exact h1, h2.below hB (Nat.le_refl _)⟩, Nat.lt_of_lt_of_le h.lt hB.size⟩
theorem StepsIn.of {w : World} {base ob n : Nat} {f : Nat -> List S} (h : OwnRows encS 2 129 113 w base ob n f) : StepsIn w ob n f := by
 refine ⟨fun p hp => ?_, h.size⟩
 obtain ⟨v, h1, _, h3⟩ := h.at hp
 obtain ⟨a, c, b, rfl, _, _, h5, _⟩ := slAt_own lenS h3
 exact ⟨a, c, b, 0, h1, h5⟩
end Go.Proofs.YtgikimbafakmcaaGreatDoor
namespace Go.Proofs.YtgikimbafakmcaaGreatDoor
open Go.RowKit Pl
theorem refSame7_any {a1 a2 : Option Addr} {b1 o1 c1 b2 o2 c2 : Nat} {xs ys : List Int} {w : World} (h1 : SlAt encI 1 w a1 b1 o1 xs) (h2 : SlAt encI 1 w a2 b2 o2 ys) (hx : xs.length <= 4611686018427387904) (hy : ys.length <= 4611686018427387904) :
    Calls Tryz.prog 136 #[.slice a1 xs.length c1, .slice a2 ys.length c2] w fun e w' => e = .returned (.bool (decide (xs = ys))) /\ ∃ n, w' = w.drewN n := by
 by_cases hl : xs.length = ys.length
 · have hlB : ((xs.length : Int) != (ys.length : Int)) = false := by simp [hl]
   have HL := Lib.hid hl; clear hl
   go_enter Tryz.func136, Tryz.ntmps136
   go_wp2
   go_loopw [5] (fun i wr => ∃ k m : Nat, k <= xs.length /\ i = .int .i64 k /\ (∀ j, j < k -> xs[j]? = ys[j]?) /\ wr = w.drewN m)
     (fun i _ => xs.length - (intOf i).toNat)
   case atStart => exact ⟨0, 0, Nat.zero_le _, rfl, by intro j hj; omega, rfl⟩
   case round =>
     obtain ⟨k, m, hk, rfl, heq, rfl⟩ := hrel
     have HE := Lib.hid heq; clear heq
     by_cases hlt : k < xs.length
     · have hlt2 : k < ys.length := by rw [<- HL.out]; exact hlt
       obtain ⟨x, hxk⟩ := getElem?_of_lt hlt
       obtain ⟨y, hyk⟩ := getElem?_of_lt hlt2
       obtain rfl := h1.ad (by omega)
       obtain rfl := h2.ad (by omega)
       have hc0 := h1.ci hxk
       have hc1 := h2.ci hyk
       have hi1 : (k : Int) < (xs.length : Int) := by omega
       have hi2 : (k : Int) < (ys.length : Int) := by omega
       have HX := Lib.hid hxk; have HY := Lib.hid hyk
       clear h1 h2 hxk hyk
       by_cases hxy : x = y
       · have hb : (x != y) = false := by simp [hxy]
         have HXY := Lib.hid hxy; clear hxy
         go_wp2_with fail
         go_quiet (fail)
         go_wp2
         go_roundw
         case rel => exact ⟨k + 1, _, by omega, by go_num, by
           intro j hj
           by_cases hjk : j = k
           · subst hjk; rw [HX.out, HY.out, HXY.out]
           · exact HE.out j (by omega), rfl⟩
         case measure => simp [intOf]; omega
       · have hb : (x != y) = true := by simp [hxy]
         have HXY := Lib.hid hxy; clear hxy
         go_wp2_with fail
         go_quiet (fail)
         go_wp2
         go_ret
         refine ⟨?_, _, World.drewN_drewN _ _ _⟩
         have : xs ≠ ys := fun e => HXY.out (by have h1 := HX.out; have h2 := HY.out; rw [e, h2] at h1; simpa using h1.symm)
         simp [this]
     · clear h1 h2
       have hkk : k = xs.length := by omega
       go_wp2
       go_ret
       refine ⟨?_, _, rfl⟩
       have : xs = ys := eq_upto HL.out (by rw [<- hkk]; exact HE.out)
       simp [this]
 · have hlB : ((xs.length : Int) != (ys.length : Int)) = true := by simp; omega
   go_enter Tryz.func136, Tryz.ntmps136
   go_wp2
   go_ret
   have : xs ≠ ys := fun e => hl (by rw [e])
   exact ⟨by simp [this], 0, rfl⟩
end Go.Proofs.YtgikimbafakmcaaGreatDoor
namespace Go.Proofs.YtgikimbafakmcaaGreatDoor
open Go.RowKit Pl
open Lib (hid)
def RIg (v : Value) (n : Nat) (xs : List Int) : Rw := ⟨3, 1, v, n, xs.flatMap encI⟩
theorem flatIk (l : List Int) : l.flatMap encI = l.map (fun x => Value.int .i64 x) := by
 induction l with
 | nil => rfl
 | cons x l ih => rw [List.flatMap_cons, List.map_cons, ih]; rfl
theorem flatI_set (l : List Int) (j : Nat) (x : Int) : (l.flatMap encI).set j (.int .i64 x) = (l.set j x).flatMap encI := by rw [flatIk, flatIk, List.map_set]
theorem flatI_get {l : List Int} {j : Nat} {x : Int} (h : l[j]? = some x) : (l.flatMap encI)[j]? = some (.int .i64 x) := by rw [flatIk, List.getElem?_map, h]; rfl
namespace Pl
def sgv (C : List Int) (x : S) : Int := x.1 * 1001 + atL C x.2
theorem srt_put {O : List Int} {v : Int} {k : Nat} (h : Srt ltI O) (hl : ∀ j x, O[j]? = some x -> j < k -> x < v) (hr : ∀ j x, O[j]? = some x -> k <= j -> v < x) : Srt ltI (O.take k ++ v :: O.drop k) := by
 unfold Srt at h ⊢
 have hsp : (O.take k ++ O.drop k).Pairwise (fun a b => ltI a b = true) := by rw [List.take_append_drop]; exact h
 rw [List.pairwise_append] at hsp ⊢
 refine ⟨hsp.1, List.pairwise_cons.2 ⟨fun x hx => ?_, hsp.2.1⟩, fun a ha b hb => ?_⟩
 · obtain ⟨j, hj⟩ := List.getElem?_of_mem hx
   rw [List.getElem?_drop] at hj
   have := hr _ _ hj (by omega)
   simp [ltI, this]
 · (
 obtain ⟨j, hj⟩ := List.getElem?_of_mem ha
 have hjk : j < k := by
   have := (List.getElem?_eq_some_iff.1 hj).1
   simp at this; omega
 rw [List.getElem?_take, if_pos hjk] at hj
 have h1 := hl _ _ hj hjk
 rcases List.mem_cons.1 hb with rfl | hb
 · simp [ltI, h1]
 · exact hsp.2.2 a (List.mem_of_getElem? (show (O.take k)[j]? = some a by rw [List.getElem?_take, if_pos hjk]; exact hj)) b hb)
theorem nf_put {O L : List Int} {v : Int} {k : Nat} (h : O = nf ltI L) (hl : ∀ j x, O[j]? = some x -> j < k -> x < v) (hr : ∀ j x, O[j]? = some x -> k <= j -> v < x) : O.take k ++ v :: O.drop k = nf ltI (L ++ [v]) := by
 refine srt_ext stoI _ _ (srt_put (by rw [h]; exact srt_nf stoI L) hl hr) (srt_nf stoI _) (fun x => ?_)
 rw [mem_nf stoI, List.mem_append, List.mem_cons, List.mem_append, List.mem_singleton, <- mem_nf stoI x L, <- h]
 have : x ∈ O ↔ x ∈ O.take k ∨ x ∈ O.drop k := by rw [<- List.mem_append, List.take_append_drop]
 rw [this]
 constructor
 · rintro (h1 | h1 | h1)
   · exact .inl (.inl h1)
   · exact .inr h1
   · exact .inl (.inr h1)
 · rintro ((h1 | h1) | h1)
   · exact .inl h1
   · exact .inr (.inr h1)
   · exact .inr (.inl h1)
theorem nf_had {O L : List Int} {v : Int} (h : O = nf ltI L) (hv : v ∈ O) : O = nf ltI (L ++ [v]) := by
 refine srt_ext stoI _ _ (by rw [h]; exact srt_nf stoI L) (srt_nf stoI _) (fun x => ?_)
 rw [mem_nf stoI, List.mem_append, List.mem_singleton, <- mem_nf stoI x L, <- h]
 constructor
 · exact .inl
 · rintro (h1 | rfl)
   · exact h1
   · exact hv
theorem put_set {O : List Int} {k : Nat} {x y : Int} (R : List Int) (h : k <= O.length) : (O.take k ++ x :: R).set k y = O.take k ++ y :: R := by
 have hl : (O.take k).length = k := by rw [List.length_take]; omega
 rw [List.set_append_right _ _ (by omega), hl, Nat.sub_self, List.set_cons_zero]
theorem put_get {O : List Int} {k : Nat} (x : Int) (R : List Int) (h : k <= O.length) : (O.take k ++ x :: R)[k]? = some x := by
 have hl : (O.take k).length = k := by rw [List.length_take]; omega
 rw [List.getElem?_append_right (by omega), hl, Nat.sub_self, List.getElem?_cons_zero]
theorem put_shift {O : List Int} {j : Nat} {y : Int} (h : O[j]? = some y) : O.take (j + 1) ++ y :: O.drop (j + 1) = O.take j ++ y :: O.drop j := by
 obtain ⟨h1, h2⟩ := List.getElem?_eq_some_iff.1 h
 rw [take_snoc h, List.append_assoc, <- h2, List.drop_eq_getElem_cons h1]
 rfl
theorem srt_lt {O : List Int} (h : Srt ltI O) {i j : Nat} {x y : Int} (hi : O[i]? = some x) (hj : O[j]? = some y) (hij : i < j) : x < y := by
 obtain ⟨h1, h2⟩ := List.getElem?_eq_some_iff.1 hi
 obtain ⟨h3, h4⟩ := List.getElem?_eq_some_iff.1 hj
 have := List.pairwise_iff_getElem.1 h i j h1 h3 hij
 rw [h2, h4] at this
 simpa [ltI] using this
end Pl
set_option maxHeartbeats 4000000 in
theorem refSig_any {w : World} {xs : List S} {C : List Int} {a ca : Option Addr} {b off c cb co cc : Nat} (hS : SlAt encS 2 w a b off xs) (hC : SlAt encI 1 w ca cb co C) (hxl : xs.length <= 20000) (hcl : C.length <= 1000) (hx : ∀ x ∈ xs, 0 <= x.1 /\ x.1 <= 201 /\ 0 <= x.2 /\ x.2 < (C.length : Int)) (hcr : ∀ x ∈ C, 0 <= x /\ x <= 1000) :
    Calls Tryz.prog 135 #[.slice a xs.length c, .slice ca C.length cc] w fun e w' => ∃ v, e = .returned v /\ w'.ownsRow w.heap.size 3 1 v (nf ltI (xs.map (sgv C))).length ((nf ltI (xs.map (sgv C))).flatMap encI) /\ Below w.heap.size w w' := by
 obtain ⟨xl, hxle⟩ : ∃ xl, xl = xs.length := ⟨_, rfl⟩
 obtain ⟨cl, hcle⟩ : ∃ cl, cl = C.length := ⟨_, rfl⟩
 rw [<- hxle, <- hcle]
 rw [<- hxle] at hxl; rw [<- hcle] at hcl
 have HXL := hid hxle; have HCL := hid hcle
 have HS := hid hS; have HC := hid hC; have HX := hid hx; have HCR := hid hcr
 have HR0 : Hid (Rws w w [RIg (.slice none 0 0) 0 []]) := hid ((Rws.nil (Below.refl w.heap.size w)).addNil 3 1)
 clear hS hC hx hcr hxle hcle
 go_enter Tryz.func135, Tryz.ntmps135
 go_wp2_with fail
 go_loopw [5, 6, 7, 8, 9] (fun v5 v6 _ _ _ wr => ∃ (i m : Nat) (oa : Option Addr) (oc : Nat) (O : List Int), v6 = .int .i64 i /\ i <= xl /\ v5 = .slice oa m oc /\ m = O.length /\ O = nf ltI ((xs.take i).map (sgv C)) /\ Rws w wr [RIg (.slice oa m oc) m O]) (fun _ v6 _ _ _ _ => xl - (intOf v6).toNat)
 case atStart => exact ⟨0, 0, none, 0, [], rfl, Nat.zero_le _, rfl, rfl, rfl, HR0.out⟩
 case round => (
 obtain ⟨i, m, oa, oc, O, rfl, hi, rfl, hml, hO, hR⟩ := hrel
 have HM := hid hml; have HO := hid hO; have HR := hid hR
 have hmi : m <= i := by (
 rw [hml, hO]
 refine Nat.le_trans (length_nf (lt := ltI) _) ?_
 rw [List.length_map, List.length_take]; omega)
 clear HR0 hml hO hR
 by_cases hlt : i < xl
 · (
 have hiI : (i : Int) < (xl : Int) := by omega
 obtain ⟨x, hxi⟩ := getElem?_of_lt (xs := xs) (i := i) (by have := HXL.out; omega)
 have hxm := HX.out x (List.mem_of_getElem? hxi)
 have hS := HS.out.below HR.out.bel (Nat.le_refl _)
 obtain rfl := hS.ad (by have := HXL.out; omega)
 have d0 := hS.s0 hxi; have d1 := hS.s1 hxi
 have dl := hS.lt (by have := HXL.out; omega)
 obtain ⟨x1, x2⟩ := x
 simp only at hxm d0 d1
 obtain ⟨t, rfl⟩ := Int.eq_ofNat_of_zero_le hxm.2.2.1
 have htc : t < cl := by have := HCL.out; omega
 have htI : (t : Int) < (cl : Int) := by omega
 obtain ⟨y, hy⟩ := getElem?_of_lt (xs := C) (i := t) (by have := HCL.out; omega)
 have hyr := HCR.out y (List.mem_of_getElem? hy)
 have hC := HC.out.below HR.out.bel (Nat.le_refl _)
 obtain rfl := hC.ad (by have := HCL.out; omega)
 have g0 := hC.ci hy
 have gl := hC.lt (by have := HCL.out; omega)
 have hay : atL C (t : Int) = y := by unfold atL; rw [List.getD_eq_getElem?_getD]; simp [hy]
 obtain ⟨V, hV⟩ : ∃ V, x1 * 1001 + y = V := ⟨_, rfl⟩
 have hVr : 0 <= V /\ V <= 300000 := by omega
 have HNF : Hid ((xs.take (i + 1)).map (sgv C) = (xs.take i).map (sgv C) ++ [V]) := hid (by rw [take_snoc hxi, List.map_append, <- hV]; simp [sgv, hay])
 have hx1 : 0 <= x1 /\ x1 <= 201 := ⟨hxm.1, hxm.2.1⟩
 clear hxi hxm hS hy hC hay
 go_wp2_with fail
 go_quiet (fail)
 go_wp2_with fail
 clear d0 d1 dl g0 gl hV
 go_loopw [8] (fun v8 wk => ∃ k : Nat, v8 = .int .i64 k /\ k <= m /\ (∀ j x, O[j]? = some x -> k <= j -> V < x) /\ Rws w wk [RIg (.slice oa m oc) m O]) (fun v8 _ => (intOf v8).toNat)
 case atStart => exact ⟨m, rfl, Nat.le_refl _, fun j x hj hm => by have := (List.getElem?_eq_some_iff.1 hj).1; have := HM.out; omega, HR.out.drewN _⟩
 case round => (
 obtain ⟨k, rfl, hk, hgt, hR⟩ := hrel
 have HGT := hid hgt; have HRK := hid hR
 clear hgt hR HR
 rcases Nat.eq_zero_or_pos k with rfl | hk0
 · (
 have HIN : Hid (O.take 0 ++ V :: O.drop 0 = nf ltI ((xs.take (i + 1)).map (sgv C))) := hid (by rw [HNF.out]; exact nf_put HO.out (fun j x _ h => by omega) HGT.out)
 have hws := HRK.out.bel.size
 obtain ⟨lw, hlw⟩ : ∃ lw, lw = wr := ⟨_, rfl⟩
 subst hlw
 have HOWN : Hid (∀ o : Obj, (lw.alloc o).ownsRow w.heap.size 3 1 (.slice oa m oc) m (O.flatMap encI)) := hid (fun o => (HRK.out.alloc o).get (i := 0) rfl)
 go_upto_region 11 with (at_builtin; refine wpList_lie rfl _ _ _ rfl rowI (base := w.heap.size) (by simp; omega) rfl (HOWN.out _) ⟨lw.heap.size, 0, none⟩ 1 1 [.int .i64 0] rfl rfl (cells1 (by simp [go_sem])) (by simp [Value.oneCell']) (by decide) (by omega) (by unfold maxLen; omega) lw.heap.size (by simp) ?_; intro g2 cap2 w7 hown7 hg7 hl7 hlt7)
 have hr7 : Rws w w7 [RIg (.slice (some ⟨g2, 0, none⟩) (m + 1) cap2) (m + 1) (O.take m ++ (0 : Int) :: O.drop m)] := by (
 have h := HRK.out.grown (w2 := lw.alloc (.cells #[.int .i64 0] 3)) ((Below.refl _ _).alloc (Nat.le_refl _) _) 0 rfl hown7 hg7 (fun g hg => by simp only [Value.ownBlock, Option.some.injEq] at hg; subst hg; exact hl7)
 have e : O.take m ++ (0 : Int) :: O.drop m = O ++ [0] := by rw [HM.out, List.take_length, List.drop_length]
 rw [e]
 show Rws w w7 [⟨3, 1, _, _, (O ++ [0]).flatMap encI⟩]
 rw [List.flatMap_append]
 exact h)
 have HR7 := hid hr7
 clear hr7 hown7 hg7 hl7 hlt7 HOWN
 go_wp2_with fail
 go_loopw [9] (fun v9 wj => ∃ (j : Nat) (x : Int), v9 = .int .i64 j /\ 0 <= j /\ j <= m /\ Rws w wj [RIg (.slice (some ⟨g2, 0, none⟩) (m + 1) cap2) (m + 1) (O.take j ++ x :: O.drop j)]) (fun v9 _ => (intOf v9).toNat)
 case atStart => exact ⟨m, 0, by go_num, by omega, Nat.le_refl _, HR7.out⟩
 case round => (
 obtain ⟨j, x, rfl, hjk, hjm, hR⟩ := hrel
 have HRJ := hid hR
 clear hR HR7
 have hml := HM.out
 have hgl := HRJ.out.lt (i := 0) rfl
 have hgl2 := hgl.2
 have hfz := HRJ.out.fz (i := 0) rfl j
 have hcj := HRJ.out.cell (i := 0) rfl (flatI_get (put_get x (O.drop j) (show j <= O.length by omega)))
 clear hgl
 by_cases hj : 0 < j
 · (
 obtain ⟨j, rfl⟩ : ∃ j', j = j' + 1 := ⟨j - 1, by omega⟩
 obtain ⟨y, hy⟩ := getElem?_of_lt (xs := O) (i := j) (by omega)
 have y0 := HRJ.out.cell (i := 0) rfl (flatI_get (show (O.take (j + 1) ++ x :: O.drop (j + 1))[j]? = some y by rw [List.getElem?_append_left (by rw [List.length_take]; omega), List.getElem?_take, if_pos (by omega)]; exact hy))
 have hst := HRJ.out.set 0 rfl (j + 1) (.int .i64 y)
 rw [flatI_set, put_set _ (by omega), put_shift hy] at hst
 have HST : Hid (Rws w (wr.setCell ⟨g2, j + 1, none⟩ (.int .i64 y)) [RIg (.slice (some ⟨g2, 0, none⟩) (m + 1) cap2) (m + 1) (O.take j ++ y :: O.drop j)]) := hid hst
 have hjI : (j : Int) < (m : Int) := by omega
 clear hst hy hml
 go_wp2_with fail
 go_roundw
 case rel => exact ⟨j, y, by go_num, by omega, by omega, HST.out⟩
 case measure => simp [intOf] <;> omega)
 · (
 obtain rfl : 0 = j := by omega
 have hst := HRJ.out.set 0 rfl (0) (.int .i64 V)
 rw [flatI_set, put_set _ (by omega), HIN.out] at hst
 have HST : Hid (Rws w (wr.setCell ⟨g2, 0, none⟩ (.int .i64 V)) [RIg (.slice (some ⟨g2, 0, none⟩) (m + 1) cap2) (m + 1) (nf ltI ((xs.take (i + 1)).map (sgv C)))]) := hid hst
 have HML : Hid (m + 1 = (nf ltI ((xs.take (i + 1)).map (sgv C))).length) := hid (by rw [<- HIN.out, List.length_append, List.length_cons, List.length_take, List.length_drop]; omega)
 clear hst hml
 go_wp2_with fail
 go_roundw
 case rel => exact ⟨i + 1, m + 1, _, _, _, by go_num, by omega, rfl, HML.out, rfl, HST.out⟩
 case measure => simp [intOf] <;> omega)))
 · (
 obtain ⟨k, rfl⟩ : ∃ k', k = k' + 1 := ⟨k - 1, by omega⟩
 obtain ⟨z, hz⟩ := getElem?_of_lt (xs := O) (i := k) (by have := HM.out; omega)
 obtain ⟨g, cap, hv, hc1, hc2, hg1, hg2⟩ := HRK.out.form (i := 0) rfl (by omega)
 simp only [Value.slice.injEq] at hv
 obtain ⟨rfl, _, rfl⟩ := hv
 have z0 := HRK.out.cell (i := 0) rfl (flatI_get hz)
 have hkm : (k : Int) < (m : Int) := by omega
 have HZ := hid hz
 clear hz hc1 hg1
 by_cases hzv : V < z
 · (
 have HGT2 : Hid (∀ j x, O[j]? = some x -> k <= j -> V < x) := hid (fun j x hj h => by (
 rcases Nat.eq_or_lt_of_le h with e | e
 · subst e; rw [HZ.out] at hj; cases hj; exact hzv
 · exact HGT.out j x hj (by omega)))
 go_wp2_with fail
 go_roundw
 case rel => exact ⟨k, by go_num, by omega, HGT2.out, HRK.out⟩
 case measure => simp [intOf] <;> omega)
 · (
 by_cases hze : z = V
 · (
 subst hze
 have HIN : Hid (O = nf ltI ((xs.take (i + 1)).map (sgv C))) := hid (by rw [HNF.out]; exact nf_had HO.out (List.mem_of_getElem? HZ.out))
 clear hzv
 go_wp2_with fail
 go_roundw
 case rel => exact ⟨i + 1, m, _, _, O, by go_num, by omega, rfl, HM.out, HIN.out, HRK.out⟩
 case measure => simp [intOf] <;> omega)
 · (
 have hzl : z < V := by omega
 have HIN : Hid (O.take (k + 1) ++ V :: O.drop (k + 1) = nf ltI ((xs.take (i + 1)).map (sgv C))) := hid (by (
 rw [HNF.out]
 refine nf_put HO.out (fun j x hj h => ?_) HGT.out
 rcases Nat.eq_or_lt_of_le (show j <= k by omega) with e | e
 · subst e; rw [HZ.out] at hj; cases hj; exact hzl
 · have := srt_lt (by rw [HO.out]; exact srt_nf stoI _) hj HZ.out e; omega))
 have hzb : (z == V) = false := by simp [hze]
 clear hzv hze
 have hws := HRK.out.bel.size
 obtain ⟨lw, hlw⟩ : ∃ lw, lw = wr := ⟨_, rfl⟩
 subst hlw
 have HOWN : Hid (∀ o : Obj, (lw.alloc o).ownsRow w.heap.size 3 1 (.slice (some ⟨g, 0, none⟩) m oc) m (O.flatMap encI)) := hid (fun o => (HRK.out.alloc o).get (i := 0) rfl)
 go_upto_region 11 with (at_builtin; refine wpList_lie rfl _ _ _ rfl rowI (base := w.heap.size) (by simp; omega) rfl (HOWN.out _) ⟨lw.heap.size, 0, none⟩ 1 1 [.int .i64 0] rfl rfl (cells1 (by simp [go_sem])) (by simp [Value.oneCell']) (by decide) (by omega) (by unfold maxLen; omega) lw.heap.size (by simp) ?_; intro g2 cap2 w7 hown7 hg7 hl7 hlt7)
 have hr7 : Rws w w7 [RIg (.slice (some ⟨g2, 0, none⟩) (m + 1) cap2) (m + 1) (O.take m ++ (0 : Int) :: O.drop m)] := by (
 have h := HRK.out.grown (w2 := lw.alloc (.cells #[.int .i64 0] 3)) ((Below.refl _ _).alloc (Nat.le_refl _) _) 0 rfl hown7 hg7 (fun g hg => by simp only [Value.ownBlock, Option.some.injEq] at hg; subst hg; exact hl7)
 have e : O.take m ++ (0 : Int) :: O.drop m = O ++ [0] := by rw [HM.out, List.take_length, List.drop_length]
 rw [e]
 show Rws w w7 [⟨3, 1, _, _, (O ++ [0]).flatMap encI⟩]
 rw [List.flatMap_append]
 exact h)
 have HR7 := hid hr7
 clear hr7 hown7 hg7 hl7 hlt7 HOWN
 go_wp2_with fail
 go_loopw [9] (fun v9 wj => ∃ (j : Nat) (x : Int), v9 = .int .i64 j /\ (k + 1) <= j /\ j <= m /\ Rws w wj [RIg (.slice (some ⟨g2, 0, none⟩) (m + 1) cap2) (m + 1) (O.take j ++ x :: O.drop j)]) (fun v9 _ => (intOf v9).toNat)
 case atStart => exact ⟨m, 0, by go_num, by omega, Nat.le_refl _, HR7.out⟩
 case round => (
 obtain ⟨j, x, rfl, hjk, hjm, hR⟩ := hrel
 have HRJ := hid hR
 clear hR HR7
 have hml := HM.out
 have hgl := HRJ.out.lt (i := 0) rfl
 have hgl2 := hgl.2
 have hfz := HRJ.out.fz (i := 0) rfl j
 have hcj := HRJ.out.cell (i := 0) rfl (flatI_get (put_get x (O.drop j) (show j <= O.length by omega)))
 clear hgl
 by_cases hj : (k + 1) < j
 · (
 obtain ⟨j, rfl⟩ : ∃ j', j = j' + 1 := ⟨j - 1, by omega⟩
 obtain ⟨y, hy⟩ := getElem?_of_lt (xs := O) (i := j) (by omega)
 have y0 := HRJ.out.cell (i := 0) rfl (flatI_get (show (O.take (j + 1) ++ x :: O.drop (j + 1))[j]? = some y by rw [List.getElem?_append_left (by rw [List.length_take]; omega), List.getElem?_take, if_pos (by omega)]; exact hy))
 have hst := HRJ.out.set 0 rfl (j + 1) (.int .i64 y)
 rw [flatI_set, put_set _ (by omega), put_shift hy] at hst
 have HST : Hid (Rws w (wr.setCell ⟨g2, j + 1, none⟩ (.int .i64 y)) [RIg (.slice (some ⟨g2, 0, none⟩) (m + 1) cap2) (m + 1) (O.take j ++ y :: O.drop j)]) := hid hst
 have hjI : (j : Int) < (m : Int) := by omega
 clear hst hy hml
 go_wp2_with fail
 go_roundw
 case rel => exact ⟨j, y, by go_num, by omega, by omega, HST.out⟩
 case measure => simp [intOf] <;> omega)
 · (
 obtain rfl : (k + 1) = j := by omega
 have hst := HRJ.out.set 0 rfl ((k + 1)) (.int .i64 V)
 rw [flatI_set, put_set _ (by omega), HIN.out] at hst
 have HST : Hid (Rws w (wr.setCell ⟨g2, (k + 1), none⟩ (.int .i64 V)) [RIg (.slice (some ⟨g2, 0, none⟩) (m + 1) cap2) (m + 1) (nf ltI ((xs.take (i + 1)).map (sgv C)))]) := hid hst
 have HML : Hid (m + 1 = (nf ltI ((xs.take (i + 1)).map (sgv C))).length) := hid (by rw [<- HIN.out, List.length_append, List.length_cons, List.length_take, List.length_drop]; omega)
 clear hst hml
 go_wp2_with fail
 go_roundw
 case rel => exact ⟨i + 1, m + 1, _, _, _, by go_num, by omega, rfl, HML.out, rfl, HST.out⟩
 case measure => simp [intOf] <;> omega)))))))
 · (
 obtain rfl : xl = i := by omega
 have HFN : Hid (O = nf ltI (xs.map (sgv C))) := hid (by have := HO.out; rw [List.take_of_length_le (by rw [HXL.out]; exact Nat.le_refl _)] at this; exact this)
 go_wp2_with fail
 go_ret
 refine ⟨_, rfl, ?_, HR.out.bel⟩
 rw [<- HFN.out, <- HM.out]
 exact HR.out.get (i := 0) rfl))
end Go.Proofs.YtgikimbafakmcaaGreatDoor

/-
  Lemmas.
-/
import Derived.Test.YtffjcehopoaboaaGreatDoorGKeyS
import Derived.Test.YtffjcehopoaboaaGreatDoorGRefSame7
import Derived.Test.YtffjcehopoaboaaGreatDoorGOrdB
import Derived.Test.YtffjcehopoaboaaGreatDoorCompact2
import Derived.Test.YtffjcehopoaboaaGreatDoorGSameInts
import Derived.Test.YtffjcehopoaboaaGreatDoorGLent
import Derived.Test.YtffjcehopoaboaaGreatDoorGPl4
import Derived.Deep.RegionHeld3
import Derived.Deep.QuietTactic
import Derived.BigQuiet
import Derived.Test.YtffjcehopoaboaaGreatDoorGPlT
import Derived.BigRegion
import Derived.IntWalk
import Derived.Outline
import Derived.Deep.Cut
import Derived.Deep.CutRange
import Derived.Test.YtffjcehopoaboaaGreatDoorGClone
import Derived.Test.YtffjcehopoaboaaGreatDoorGSortI
import Derived.Test.YtffjcehopoaboaaGreatDoorGCanon
import Derived.Deep.RegionWith
namespace Go.Proofs.YtffjcehopoaboaaGreatDoor
namespace Pl
section
variable {G : Nat → Nat → Bool}
def hZ (G : Nat → Nat → Bool) (Z : List S) (l : Nat) : Option (Nat → Bool) := if Z.any (fun x => decide (x.1 = (l : Int))) then some (fun r => Z.any (fun x => decide (x.1 = (l : Int)) && G x.2.toNat r)) else none
theorem hZ_nil (l : Nat) : hZ G [] l = none := by unfold hZ; simp
theorem any_none {Z : List S} {l : Nat} {g : S → Bool} (e : ¬ Z.any (fun x => decide (x.1 = (l : Int))) = true) : Z.any (fun x => decide (x.1 = (l : Int)) && g x) = false := by
  cases h : Z.any (fun x => decide (x.1 = (l : Int)) && g x)
  · rfl
  · obtain ⟨x, hx, h2⟩ := List.any_eq_true.1 h
    simp only [Bool.and_eq_true] at h2
    exact absurd (List.any_eq_true.2 ⟨x, hx, h2.1⟩) e
theorem hZ_other {Z : List S} {x : S} {l : Nat} (h : x.1 ≠ (l : Int)) : hZ G (Z ++ [x]) l = hZ G Z l := by
  have h1 : ∀ g : S → Bool, (Z ++ [x]).any (fun x => decide (x.1 = (l : Int)) && g x) = Z.any (fun x => decide (x.1 = (l : Int)) && g x) := fun g => by
    rw [List.any_append]; simp [h]
  have h2 : (Z ++ [x]).any (fun x => decide (x.1 = (l : Int))) = Z.any (fun x => decide (x.1 = (l : Int))) := by
    rw [List.any_append]; simp [h]
  unfold hZ
  rw [h2]
  simp only [h1]
theorem hZ_new {Z : List S} {m t : Nat} (h : hZ G Z m = none) : hZ G (Z ++ [((m : Int), (t : Int))]) m = some (fun r => G t r) := by
  unfold hZ at h ⊢
  by_cases e : Z.any (fun x => decide (x.1 = (m : Int))) = true
  · rw [if_pos e] at h; cases h
  · rw [if_pos (by simp)]
    congr 1
    funext r
    rw [List.any_append, any_none e]; simp
theorem hZ_old {Z : List S} {m t : Nat} {g : Nat → Bool} (h : hZ G Z m = some g) : hZ G (Z ++ [((m : Int), (t : Int))]) m = some (fun r => g r || G t r) := by
  unfold hZ at h ⊢
  by_cases e : Z.any (fun x => decide (x.1 = (m : Int))) = true
  · rw [if_pos e] at h
    obtain rfl := Option.some.inj h
    rw [if_pos (by simp)]
    congr 1
    funext r
    rw [List.any_append]; simp
  · rw [if_neg e] at h; cases h
def kZ (G : Nat → Nat → Bool) (p : Nat) (Z : List S) (l : Nat) (r : Nat) : Bool := if l = 0 then G p r else ((hZ G Z l).map (fun g => g r)).getD false
def rowsL (lb n : Nat) (K : Nat → Nat → Bool) : List S := (List.range lb).flatMap fun l => (idsN (K l) n).map fun r : Nat => ((l : Int), (r : Int))
theorem rowsL_len (lb n : Nat) (K : Nat → Nat → Bool) : (rowsL lb n K).length ≤ lb * n := by
  induction lb with
  | zero => simp [rowsL]
  | succ l ih =>
    have h : rowsL (l + 1) n K = rowsL l n K ++ (idsN (K l) n).map fun r : Nat => ((l : Int), (r : Int)) := by
      unfold rowsL; rw [List.range_succ, List.flatMap_append]; simp
    rw [h, List.length_append, List.length_map, Nat.succ_mul]
    have := idsN_le (K l) n
    omega
def visZ (s : Lts) (G : Nat → Nat → Bool) (p n : Nat) : List S := (List.range n).flatMap fun q => if G p q then (s.outs (q : Int)).filter (fun x => !decide (x.1 = 0)) else []
theorem kZ_wst {s : Lts} {n : Nat} (hr : s.Right) (hn : s.st = (n : Int)) (hG : ∀ p q, p < n → (G p q = true ↔ TR s p q)) {p q l : Nat} (hp : p < n) (_hq : q < n) : kZ G p (visZ s G p n) l q = true ↔ wst s p (l : Int) q := by
  unfold kZ
  by_cases h0 : l = 0
  · subst h0; rw [if_pos rfl, hG p q hp]; exact wst_zero.symm
  · rw [if_neg h0, wst_ne (by omega)]
    have hmem : ∀ x : S, x ∈ visZ s G p n ↔ ∃ m, m < n ∧ TR s p m ∧ x ∈ s.outs (m : Int) ∧ x.1 ≠ 0 := fun x => by
      unfold visZ
      rw [List.mem_flatMap]
      constructor
      · rintro ⟨m, hm, hx⟩
        have hm := List.mem_range.1 hm
        by_cases hg : G p m = true
        · rw [if_pos hg] at hx
          have := List.mem_filter.1 hx
          exact ⟨m, hm, (hG p m hp).1 hg, this.1, by simpa using this.2⟩
        · rw [if_neg hg] at hx; simp at hx
      · rintro ⟨m, hm, h1, h2, h3⟩
        exact ⟨m, List.mem_range.2 hm, by rw [if_pos ((hG p m hp).2 h1)]; exact List.mem_filter.2 ⟨h2, by simpa using h3⟩⟩
    have hany : ((hZ G (visZ s G p n) l).map (fun g => g q)).getD false = (visZ s G p n).any (fun x => decide (x.1 = (l : Int)) && G x.2.toNat q) := by
      unfold hZ
      by_cases e : (visZ s G p n).any (fun x => decide (x.1 = (l : Int))) = true
      · rw [if_pos e]; rfl
      · rw [if_neg e]
        rw [any_none e]; rfl
    rw [hany, List.any_eq_true]
    constructor
    · rintro ⟨⟨a, b⟩, hx, h2⟩
      obtain ⟨m, hm, h3, h4, _⟩ := (hmem _).1 hx
      simp only [Bool.and_eq_true, decide_eq_true_eq] at h2
      obtain ⟨rfl, h5⟩ := h2
      have h6 := mem_outs.1 h4
      have h7 := offB_false.1 (hr.edges _ h6)
      simp only at h7
      obtain ⟨t, rfl⟩ := Int.eq_ofNat_of_zero_le h7.2.2.2.2.1
      exact ⟨m, t, h3, h6, (hG t q (by omega)).1 (by simpa using h5)⟩
    · rintro ⟨m, t, h1, h2, h3⟩
      have hm := (stp_lt hr hn h2)
      exact ⟨((l : Int), (t : Int)), (hmem _).2 ⟨m, hm.1, h1, mem_outs.2 h2, by simp; omega⟩, by simp [(hG t q hm.2.1).2 h3]⟩
end
end Pl
end Go.Proofs.YtffjcehopoaboaaGreatDoor
namespace Go.Proofs.YtffjcehopoaboaaGreatDoor
open Go.RowKit Pl
namespace Pl
section
variable {s : Lts} {n lb : Nat}
theorem tr_normK {p q : Nat} : TR s.norm p q ↔ TR s p q := by
  constructor
  · intro h
    induction h with
    | refl => exact .refl
    | tail _ h2 ih => exact ih.tail (stp_normO.1 h2)
  · intro h
    induction h with
    | refl => exact .refl
    | tail _ h2 ih => exact ih.tail (stp_normO.2 h2)
theorem wst_normK {p q : Nat} {l : Int} : wst s.norm p l q ↔ wst s p l q := by
  unfold wst one
  simp only [tr_normK, stp_normO]
theorem rch_tauK (hr : s.Right) {q m : Nat} : Rch (tauOf s (q : Int)) (m : Int) ↔ TR s q m := by
  constructor
  · intro h
    have h1 := h (fun x => ∃ m : Nat, x = (m : Int) ∧ TR s q m) ⟨q, rfl, .refl⟩ (by
      rintro a l b ⟨m, rfl, h2⟩ h3
      unfold tauOf at h3
      simp only [List.mem_filter, beq_iff_eq] at h3
      obtain ⟨h3, rfl⟩ := h3
      have h4 := offB_false.1 (hr.edges _ h3)
      simp only at h4
      obtain ⟨b, rfl⟩ := Int.eq_ofNat_of_zero_le h4.2.2.2.2.1
      exact ⟨b, rfl, h2.tail h3⟩)
    obtain ⟨m', h2, h3⟩ := h1
    obtain rfl : m = m' := by omega
    exact h3
  · intro h
    induction h with
    | refl => exact Rch.start _
    | @tail a b _ h2 ih => exact ih.step (l := 0) (by unfold tauOf; simp only [List.mem_filter]; exact ⟨h2, by simp⟩)
theorem silG_tr (hr : s.Right) (hn : s.st = (n : Int)) {p q : Nat} (hp : p < n) : silG s p q = true ↔ TR s p q := by
  have hrn := hr.norm
  unfold silG
  rw [decide_eq_true_eq, mem_reachL (tauOf_right hrn (by omega) (by show (p : Int) < s.st; omega)) (by show s.st ≠ 0; omega), rch_tauK hrn, tr_normK]
noncomputable def wkL (s : Lts) (n lb p : Nat) : List S := rowsL lb n (kZ (silG s) p (visZ s.norm (silG s) p n))
theorem mem_wkL (hr : s.Right) (hn : s.st = (n : Int)) {p : Nat} (hp : p < n) {x : S} : x ∈ wkL s n lb p ↔ ∃ l q : Nat, x = ((l : Int), (q : Int)) ∧ l < lb ∧ q < n ∧ wst s p (l : Int) q := by
  have hk : ∀ {q l : Nat}, q < n → (kZ (silG s) p (visZ s.norm (silG s) p n) l q = true ↔ wst s p (l : Int) q) := fun {q l} hq => by
    rw [kZ_wst hr.norm (show s.norm.st = (n : Int) from hn) (fun p q hp => by rw [silG_tr hr hn hp, tr_normK]) hp hq, wst_normK]
  unfold wkL rowsL
  simp only [List.mem_flatMap, List.mem_map, List.mem_range, mem_idsN]
  constructor
  · rintro ⟨l, hl, q, ⟨hq, h⟩, rfl⟩
    exact ⟨l, q, rfl, hl, hq, (hk hq).1 h⟩
  · rintro ⟨l, q, rfl, hl, hq, h⟩
    exact ⟨l, hl, q, ⟨hq, (hk hq).2 h⟩, rfl⟩
theorem atL_flK {f : Nat → Int} {t : Nat} (h : t < n) : atL (fl n f) (t : Int) = f t := by
  unfold atL
  rw [Int.toNat_natCast, List.getD_eq_getElem?_getD, fl_get f h]; rfl
end
end Pl
end Go.Proofs.YtffjcehopoaboaaGreatDoor
namespace Go.Proofs.YtffjcehopoaboaaGreatDoor
open Go.RowKit Pl
end Go.Proofs.YtffjcehopoaboaaGreatDoor
namespace Go.Proofs.YtffjcehopoaboaaGreatDoor
open Go.RowKit Pl
open Lib (hid)
def intoB (C : List Int) (ls : List S) (x : S) : Bool := ls.any (fun y => decide (y.1 = x.1) && decide (atL C y.2 = atL C x.2))
set_option maxRecDepth 100000 in
set_option maxHeartbeats 4000000 in
theorem into_any {w : World} {ls : List S} {la : Option Addr} {lb lo lc : Nat} (hL : SlAt encS 2 w la lb lo ls) (hl : ls.length ≤ 1000000) {C : List Int} {n : Nat} (hn : C.length = n) {ca : Option Addr} {cb co cc : Nat} (hC : SlAt encI 1 w ca cb co C) (hn1 : n ≤ 1000000)
    (hr : ∀ y ∈ ls, 0 ≤ y.2 ∧ y.2 < (n : Int)) {x1 : Int} {t : Nat} (ht : t < n) :
    Calls Tryz.prog 107 #[.slice la ls.length lc, .agg #[.int .i64 x1, .int .i64 (t : Int)], .slice ca n cc] w fun e w' => e = .returned (.bool (intoB C ls (x1, (t : Int)))) ∧ Below w.heap.size w w' := by
  have hcx : ∀ i, i < n → C[i]? = some (atL C (i : Int)) := fun i hi => by
    unfold atL
    rw [Int.toNat_natCast, List.getD_eq_getElem?_getD]
    have := List.getElem?_eq_getElem (l := C) (i := i) (by omega)
    rw [this]; rfl
  obtain rfl := hC.ad (by omega)
  obtain ⟨W, hW⟩ : ∃ W, W = w.alloc (.cells #[.int .i64 x1, .int .i64 (t : Int)] 131) := ⟨_, rfl⟩
  have hB0 : Below w.heap.size w W := by rw [hW]; exact (Below.refl _ _).alloc (Nat.le_refl _) _
  have hx := heap_alloc_new w (.cells #[.int .i64 x1, .int .i64 (t : Int)] 131)
  rw [← hW] at hx
  have a0 : W.cell? ⟨w.heap.size, 0, none⟩ = some (.int .i64 x1) := by simp [World.cell?, hx]
  have a1 : W.cell? ⟨w.heap.size, 1, none⟩ = some (.int .i64 (t : Int)) := by simp [World.cell?, hx]
  have al := (Array.getElem?_eq_some_iff.1 hx).1
  have hCW := hC.below hB0 (Nat.le_refl _)
  have c0 := hCW.ci (hcx t ht)
  have cl := World.block_lt_of_cell? _ _ c0
  have HCI : Hid (∀ i, i < n → W.cell? ⟨cb, co + i, none⟩ = some (.int .i64 (atL C (i : Int)))) := hid (fun i hi => hCW.ci (hcx i hi))
  have htI : (t : Int) < (n : Int) := by omega
  have HLW := hid (hL.below hB0 (Nat.le_refl _)); have HB0 := hid hB0; have HW := hid hW; have HR := hid hr
  obtain ⟨ct, hct⟩ : ∃ ct, ct = atL C (t : Int) := ⟨_, rfl⟩
  rw [← hct] at c0
  have HCT := hid hct
  clear hL hC hW hB0 hx hCW hcx hn hr hct
  go_enter Tryz.func107, Tryz.ntmps107
  go_wp2_with fail
  rw [← HW.out]
  go_loopw [7] (fun v7 wr => ∃ i nq : Nat, v7 = .int .i64 i ∧ i ≤ ls.length ∧ wr = W.drewN nq ∧ (ls.take i).any (fun y => decide (y.1 = x1) && decide (atL C y.2 = ct)) = false) (fun v7 _ => ls.length - (intOf v7).toNat)
  case atStart => exact ⟨0, 0, rfl, Nat.zero_le _, rfl, by simp⟩
  case round =>
    obtain ⟨i, nq, rfl, hi, rfl, hno⟩ := hrel
    have HNO := hid hno
    clear hno
    by_cases hlt : i < ls.length
    · have hiI : (i : Int) < (ls.length : Int) := by omega
      obtain ⟨y, hy⟩ := getElem?_of_lt hlt
      have hls := HLW.out
      obtain rfl := hls.ad (by omega)
      have d0 := hls.s0 hy; have d1 := hls.s1 hy
      have dl := hls.lt (by omega)
      obtain ⟨u1, u2⟩ := HR.out y (List.mem_of_getElem? hy)
      have HY := hid hy
      obtain ⟨y1, y2⟩ := y
      simp only at d0 d1 u1 u2
      obtain ⟨u, rfl⟩ := Int.eq_ofNat_of_zero_le u1
      have hun : u < n := by omega
      have huI : (u : Int) < (n : Int) := by omega
      have cu := HCI.out u hun
      obtain ⟨cv, hcv⟩ : ∃ cv, cv = atL C (u : Int) := ⟨_, rfl⟩
      rw [← hcv] at cu
      have HCV := hid hcv
      have HNX : Hid ((ls.take (i + 1)).any (fun y => decide (y.1 = x1) && decide (atL C y.2 = ct)) = (decide (y1 = x1) && decide (cv = ct))) := hid (by
        rw [take_snoc HY.out, List.any_append, HNO.out, HCV.out]; simp)
      clear hls hy u1 u2 hcv
      by_cases hxy : y1 = x1
      · subst hxy
        by_cases hcc : cv = ct
        · subst hcc
          have hfin : intoB C ls (y1, (t : Int)) = true := by
            unfold intoB
            rw [List.any_eq_true]
            exact ⟨_, List.mem_of_getElem? HY.out, by simp [← HCV.out, ← HCT.out]⟩
          have HFIN := hid hfin
          go_wp2_with fail
          go_quiet (fail)
          go_wp2_with fail
          go_ret
          exact ⟨by rw [HFIN.out]; rfl, bdrew (bdrew HB0.out)⟩
        · have hne : (cv == ct) = false := by simp [hcc]
          go_wp2_with fail
          go_quiet (fail)
          go_wp2_with fail
          go_roundw
          case rel => exact ⟨i + 1, _, by go_num, by omega, rfl, by rw [HNX.out]; simp [hcc]⟩
          case measure => simp [intOf]; omega
      · have hne : (y1 == x1) = false := by simp [hxy]
        go_wp2_with fail
        go_quiet (fail)
        go_wp2_with fail
        go_roundw
        case rel => exact ⟨i + 1, _, by go_num, by omega, rfl, by rw [HNX.out]; simp [hxy]⟩
        case measure => simp [intOf]; omega
    · obtain rfl : i = ls.length := by omega
      have hno := HNO.out
      rw [List.take_length, HCT.out] at hno
      have HFIN : Hid (intoB C ls (x1, (t : Int)) = false) := hid hno
      clear hno
      go_wp2_with fail
      go_ret
      exact ⟨by rw [HFIN.out]; rfl, bdrew HB0.out⟩
end Go.Proofs.YtffjcehopoaboaaGreatDoor
namespace Go.Proofs.YtffjcehopoaboaaGreatDoor
open Go.RowKit Pl
def encT (x : B3) : List Value := [.int .i64 x.1, .int .i64 x.2.1, .int .i64 x.2.2]
def flN (n : Nat) (f : Nat → Nat) : List Int := fl n (fun i => (f i : Int))
structure PK where
  pb : Nat
  eb : Nat
  qb : Nat
  ib : Nat
  bb : Nat
  ce : Nat
  cq : Nat
  ci : Nat
  cb : Nat
section
variable {w0 w w' w1 : World} {K : PK} {n : Nat} {el pl inn : Nat → Nat} {bl : List B3} {rest : List Rw}
end
end Go.Proofs.YtffjcehopoaboaaGreatDoor
namespace Go.Proofs.YtffjcehopoaboaaGreatDoor
open Go.RowKit Pl
section
variable {w0 w : World} {K : PK} {n : Nat} {el pl inn : Nat → Nat} {bl : List B3} {rest : List Rw}
end
end Go.Proofs.YtffjcehopoaboaaGreatDoor
namespace Go.Proofs.YtffjcehopoaboaaGreatDoor
open Go.RowKit Pl
section
variable {w0 w : World} {K : PK} {n : Nat} {el pl inn : Nat → Nat} {bl : List B3} {rest : List Rw}
end
end Go.Proofs.YtffjcehopoaboaaGreatDoor
namespace Go.Proofs.YtffjcehopoaboaaGreatDoor
open Go.RowKit Pl
section
variable {w0 w : World} {K : PK} {n : Nat} {el pl inn : Nat → Nat} {bl : List B3} {rest : List Rw}
end
end Go.Proofs.YtffjcehopoaboaaGreatDoor
namespace Go.Proofs.YtffjcehopoaboaaGreatDoor
open Go.RowKit Pl
section
variable {w0 w : World} {K : PK} {n : Nat} {el pl inn : Nat → Nat} {bl : List B3} {rest : List Rw}
def MembersPost (w : World) (M : List Int) (e : Ending) (w' : World) : Prop :=
  ∃ v, e = .returned (.tuple #[v, .nilIface]) ∧ w'.ownsRow w.heap.size 3 1 v M.length (M.flatMap encI) ∧ Below w.heap.size w w'
end
end Go.Proofs.YtffjcehopoaboaaGreatDoor
namespace Go.Proofs.YtffjcehopoaboaaGreatDoor
open Go.RowKit Pl
namespace Pl
end Pl
section
variable {w0 w : World} {K : PK} {n : Nat} {el pl inn : Nat → Nat} {bl : List B3} {rest : List Rw}
def OwnI (w : World) (M : List Int) (e : Ending) (w' : World) : Prop :=
  ∃ v, e = .returned v ∧ w'.ownsRow w.heap.size 3 1 v M.length (M.flatMap encI) ∧ Below w.heap.size w w'
end
end Go.Proofs.YtffjcehopoaboaaGreatDoor
namespace Go.Proofs.YtffjcehopoaboaaGreatDoor
open Go.RowKit Pl
section
variable {w0 w w1 w2 : World} {K : PK} {n : Nat} {el pl inn : Nat → Nat} {bl : List B3} {rest : List Rw}
end
def innK (n : Nat) (pl inn : Nat → Nat) (m lo k : Nat) : Nat → Nat := fun e => if e < n ∧ lo ≤ pl e ∧ pl e < lo + k then m else inn e
section
variable {w0 w : World} {K : PK} {n : Nat} {el pl inn : Nat → Nat} {bl : List B3} {rest : List Rw}
end
end Go.Proofs.YtffjcehopoaboaaGreatDoor
namespace Go.Proofs.YtffjcehopoaboaaGreatDoor
open Go.RowKit Pl
namespace Pl
def z0 : Nat → Nat := fun _ => 0
theorem PI.one (n : Nat) (h : 0 < n) : PI n id id z0 [(0, n, 0)] where
  hel i hi := ⟨hi, rfl⟩
  hpl e he := ⟨he, rfl⟩
  blk b x hx := by
    rcases b with _ | b
    · simp at hx; subst hx; simp; exact h
    · simp at hx
  hin e he := ⟨(0, n, 0), rfl, Nat.zero_le _, he⟩
  cov b x i hx _ _ := by
    rcases b with _ | b
    · rfl
    · simp at hx
end Pl
def plK (j : Nat) : Nat → Nat := fun e => if e < j then e else 0
section
variable {w0 w w1 w2 : World} {pb : Nat} {ea : Option Addr} {ec qb ib ci bb n j : Nat} {pl : Nat → Nat} {x : B3} {rest : List Rw}
end
end Go.Proofs.YtffjcehopoaboaaGreatDoor
namespace Go.Proofs.YtffjcehopoaboaaGreatDoor
open Go.RowKit Pl
end Go.Proofs.YtffjcehopoaboaaGreatDoor

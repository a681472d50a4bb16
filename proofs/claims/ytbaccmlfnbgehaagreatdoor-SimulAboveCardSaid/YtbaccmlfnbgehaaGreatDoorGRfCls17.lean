/-
  Lemmas.
-/
import Derived.Test.YtbaccmlfnbgehaaGreatDoorRfAb17
import Derived.Test.YtbaccmlfnbgehaaGreatDoorGForms
import Derived.Test.YtbaccmlfnbgehaaGreatDoorGSimG
import Derived.Test.YtbaccmlfnbgehaaGreatDoorGBkRow
namespace Go.Proofs.YtbaccmlfnbgehaaGreatDoor
open Go.RowKit Pl
open Lib (hid)
namespace Pl
def midR (R : Nat → Nat → Bool) (p q : Nat) : Bool := (List.range p).any (fun i => decide (q ≤ i) && (R p i && R i p))
theorem midR_true {R : Nat → Nat → Bool} {p q : Nat} : midR R p q = true ↔ ∃ i, q ≤ i ∧ i < p ∧ R p i = true ∧ R i p = true := by
  unfold midR
  rw [List.any_eq_true]
  constructor
  · rintro ⟨i, hi, h⟩
    simp only [Bool.and_eq_true, decide_eq_true_eq] at h
    exact ⟨i, h.1, List.mem_range.1 hi, h.2.1, h.2.2⟩
  · rintro ⟨i, h1, h2, h3, h4⟩
    exact ⟨i, List.mem_range.2 h2, by simp [h1, h3, h4]⟩
theorem midR_self (R : Nat → Nat → Bool) (p : Nat) : midR R p p = false := by
  cases h : midR R p p with
  | false => rfl
  | true => obtain ⟨i, h1, h2, _⟩ := midR_true.1 h; omega
theorem midR_hit {R : Nat → Nat → Bool} {p q : Nat} (hq : q < p) (h1 : R p q = true) (h2 : R q p = true) : midR R p q = true := midR_true.2 ⟨q, Nat.le_refl _, hq, h1, h2⟩
theorem midR_no {R : Nat → Nat → Bool} {p q : Nat} (h : ¬ (R p q = true ∧ R q p = true)) : midR R p q = midR R p (q + 1) := by
  rw [Bool.eq_iff_iff, midR_true, midR_true]
  constructor
  · rintro ⟨i, h1, h2, h3, h4⟩
    by_cases e : i = q
    · subst e; exact absurd ⟨h3, h4⟩ h
    · exact ⟨i, by omega, h2, h3, h4⟩
  · rintro ⟨i, h1, h2, h3, h4⟩
    exact ⟨i, by omega, h2, h3, h4⟩
def midV (R : Nat → Nat → Bool) (p q : Nat) : Int := if midR R p q = true then (clsN R p : Int) else (p : Int)
theorem clsN_le {R : Nat → Nat → Bool} {p : Nat} (hp : p < 320) (hpp : R p p = true) : clsN R p ≤ p := by
  unfold clsN
  rcases hf : (idsN (R p) 320).find? (fun q => R q p) with _ | i
  · simp
  · simp only [Option.getD_some]
    obtain ⟨hi, k, hk, hki, hall⟩ := List.find?_eq_some_iff_getElem.1 hf
    have hpm : p ∈ idsN (R p) 320 := by unfold idsN; rw [List.mem_filter, List.mem_range]; exact ⟨hp, hpp⟩
    obtain ⟨j, hj, hjp⟩ := List.getElem_of_mem hpm
    have hs : (idsN (R p) 320).Pairwise (· < ·) := by unfold idsN; exact List.pairwise_lt_range.sublist List.filter_sublist
    rcases Nat.lt_trichotomy j k with h | h | h
    · have := hall j h
      rw [hjp, hpp] at this
      simp at this
    · subst h; rw [hjp] at hki; omega
    · have := List.pairwise_iff_getElem.1 hs k j hk hj h
      rw [hki, hjp] at this; omega
theorem midV_end {s : Lts} {n : Nat} {R : Nat → Nat → Bool} (h : Great s n R) (hr : s.Right) (hn : s.st = (n : Int)) (hn3 : n ≤ 300) {p : Nat} (hp : p < n) : midV R p 0 = (clsN R p : Int) := by
  unfold midV
  split
  · rfl
  · next hno =>
    have h1 := clsN_le (p := p) (by omega) (h.refl hr hn hp)
    obtain ⟨h2, h3⟩ := clsN_mut h hr hn hn3 hp
    by_cases e : clsN R p = p
    · rw [e]
    · exact absurd (midR_true.2 ⟨clsN R p, Nat.zero_le _, by omega, h2, h3⟩) hno
theorem midV_hit {s : Lts} {n : Nat} {R : Nat → Nat → Bool} (h : Great s n R) (hr : s.Right) (hn : s.st = (n : Int)) {p q : Nat} (hp : p < n) (hq : q < p) (h1 : R p q = true) (h2 : R q p = true) : (clsN R q : Int) = midV R p q := by
  unfold midV
  rw [if_pos (midR_hit hq h1 h2), clsN_congr h hr hn hp (by omega) h1 h2]
theorem midV_no {R : Nat → Nat → Bool} {p q : Nat} (h : ¬ (R p q = true ∧ R q p = true)) : midV R p (q + 1) = midV R p q := by unfold midV; rw [midR_no h]
theorem midV_self (R : Nat → Nat → Bool) (p : Nat) : midV R p p = (p : Int) := by unfold midV; rw [midR_self]; rfl
end Pl
def Cl17 (s : Lts) (n : Nat) (w : World) (e : Ending) (w' : World) : Prop :=
  ∃ (R : Nat → Nat → Bool) (v : Value), e = .returned v ∧ Great s.norm n R ∧ w'.ownsRow w.heap.size 3 1 v n ((canon (fl n (fun p => (clsN R p : Int)))).flatMap encI) ∧ Below w.heap.size w w'
set_option maxRecDepth 100000 in
set_option maxHeartbeats 8000000 in
theorem classes17r_any {s : Lts} {n : Nat} (hr : s.Right) (hn : s.st = (n : Int)) (hn3 : n ≤ 300) {a : Option Addr} {b off c : Nat} {w : World} (hS : SlAt encE 3 w a b off s.es) (hc : s.es.length ≤ c) (hcm : c ≤ maxLen) :
    Calls Tryz.prog 16 #[.agg #[.int .i64 s.st, .int .i64 s.lb, .int .i64 s.s0, .slice a s.es.length c]] w (Cl17 s n w) := by
  have hmk := run_make_row' (P := Tryz.prog) 50 3 (.int .i64 0) 8 Tryz.underlying50 (by kernel_rfl) rfl .i64 .i64 n (by omega) (by omega)
  have hB0 := (Below.refl w.heap.size w).alloc (Nat.le_refl _) (Obj.cells #[.int .i64 s.st, .int .i64 s.lb, .int .i64 s.s0, .slice a s.es.length c] 24)
  have hbx := heap_alloc_new w (Obj.cells #[.int .i64 s.st, .int .i64 s.lb, .int .i64 s.s0, .slice a s.es.length c] 24)
  have HA := hid (above17r_any hr hn hn3 (hS.below hB0 (Nat.le_refl _)) hc hcm)
  obtain ⟨el, hel⟩ : ∃ el, el = s.es.length := ⟨_, rfl⟩
  rw [hn, ← hel] at HA hB0 hbx
  rw [hn, ← hel]
  have HB0 := hid hB0; have HBX := hid hbx; have HR := hid hr.norm; have HN : Hid (s.norm.st = (n : Int)) := hid hn
  clear hB0 hbx hr hn hS hc hcm hel
  unfold Cl17
  go_enter Tryz.func16, Tryz.ntmps16
  go_wp2_with fail
  refine HA.out.mono ?_
  rintro e w1 ⟨R, la, lb, lc, rfl, hgt, hla, hbi, hB1⟩
  have hb1 := HB0.out.trans (hB1.mono (by simp))
  have hx1 := (hB1.block w.heap.size (by simp)).trans HBX.out
  have x0 : w1.cell? ⟨w.heap.size, 0, none⟩ = some (.int .i64 n) := by simp [World.cell?, hx1]
  have xl := (Array.getElem?_eq_some_iff.1 hx1).1
  have hq0 : SQ w1 (w1.alloc (.cells (madeCells #[.int .i64 0] n) 3)) n (fun j => if j < 0 then (clsN R j : Int) else 0) := by
    refine ⟨?_, (Below.refl _ _).alloc (Nat.le_refl _) _⟩
    exact (rowS_of_heap (heap_alloc_new w1 _)).congr (fun j _ => by simp)
  have HX : Hid (∀ V, Below w1.heap.size w1 V → V.cell? ⟨w.heap.size, 0, none⟩ = some (.int .i64 n) ∧ w.heap.size < V.heap.size) := hid (fun V hV => by
    have h := (hV.block w.heap.size xl).trans hx1
    exact ⟨by simp [World.cell?, h], (Array.getElem?_eq_some_iff.1 h).1⟩)
  have HQ0 := hid hq0; have HGT := hid hgt; have HBI := hid hbi; have HLA := hid hla; have HB1 := hid hb1
  clear hB1 hb1 hx1 hgt hbi hla hq0 HA HB0 HBX
  go_wp2_with fail
  clear x0 xl
  go_loopw [5, 6] (fun v5 _ wr => ∃ k : Nat, v5 = .int .i64 k ∧ k ≤ n ∧ SQ w1 wr n (fun j => if j < k then (clsN R j : Int) else 0)) (fun v5 _ _ => n - (intOf v5).toNat)
  case atStart => exact ⟨0, rfl, Nat.zero_le _, HQ0.out⟩
  case round => as_aux_lemma =>
    obtain ⟨k, rfl, hk, hq⟩ := hrel
    obtain ⟨x0, xl⟩ := HX.out _ hq.bel
    by_cases hlt : k < n
    · have hkI : (k : Int) < (n : Int) := by omega
      have c0 := hq.rows.cell hlt
      have f0 := hq.rows.frozen k
      have ql := hq.rows.lt
      rw [if_neg (by omega)] at c0
      have hqs : SQ w1 (wr.setCell ⟨w1.heap.size, k, none⟩ (.int .i64 k)) n (fun j => if j < k then (clsN R j : Int) else if j = k then midV R k k else 0) := (hq.set k k).congr (fun j _ => by
        by_cases e : j = k
        · subst e; simp [midV_self]
        · rw [if_neg e, if_neg e])
      have HQS := hid hqs
      obtain ⟨b, hb0, hbr⟩ := HBI.out.at_ k hlt
      have HLB := hid (HLA.out (by omega))
      clear hqs hq hbr hb0 HQ0
      go_wp2_with fail
      clear c0 f0 ql x0 xl
      go_loopw [6] (fun v6 wr => ∃ j : Nat, v6 = .int .i64 ((j : Int) - 1) ∧ j ≤ k ∧ SQ w1 wr n (fun i => if i < k then (clsN R i : Int) else if i = k then midV R k j else 0)) (fun v6 _ => (intOf v6 + 1).toNat)
      case atStart => exact ⟨k, by go_num, Nat.le_refl _, HQS.out⟩
      case round =>
        obtain ⟨j, rfl, hj, hq⟩ := hrel
        have HQ := hid hq
        by_cases hj0 : 0 < j
        · obtain ⟨q, rfl⟩ : ∃ q, j = q + 1 := ⟨j - 1, by omega⟩
          have eq : (((q + 1 : Nat) : Int) - 1) = (q : Int) := by omega
          rw [eq]
          have hqn : q < n := by omega
          have hqI : (q : Int) < (n : Int) := by omega
          have hqz : (0 : Int) ≤ (q : Int) := by omega
          obtain ⟨bk, hk0, hkr⟩ := (HBI.out.below hq.bel).at_ k hlt
          obtain ⟨bq, hq0, hqr⟩ := (HBI.out.below hq.bel).at_ q hqn
          obtain rfl := HLB.out
          have l1 := World.block_lt_of_cell? _ _ hk0
          have c1 := hkr.cell hqn; have d1 := hkr.lt
          have c2 := hqr.cell hlt; have d2 := hqr.lt
          have a1 := hq.rows.cell hqn; have a2 := hq.rows.cell hlt; have al := hq.rows.lt; have af := hq.rows.frozen k
          rw [if_pos (by omega)] at a1
          rw [if_neg (by omega), if_pos rfl] at a2
          obtain ⟨r1, hr1⟩ : ∃ r1, r1 = R k q := ⟨_, rfl⟩
          obtain ⟨r2, hr2⟩ : ∃ r2, r2 = R q k := ⟨_, rfl⟩
          rw [← hr1] at c1
          rw [← hr2] at c2
          obtain ⟨cq, hcq⟩ : ∃ cq : Int, cq = (clsN R q : Int) := ⟨_, rfl⟩
          rw [← hcq] at a1
          have HR1 := hid hr1; have HR2 := hid hr2
          have HNO : Hid (¬ (r1 = true ∧ r2 = true) → SQ w1 wr n (fun i => if i < k then (clsN R i : Int) else if i = k then midV R k q else 0)) := hid (fun h => by
            rw [hr1, hr2] at h
            have h3 := midV_no h
            rw [h3] at hq
            exact hq)
          have HYES : Hid (r1 = true → r2 = true → SQ w1 (wr.setCell ⟨w1.heap.size, k, none⟩ (.int .i64 cq)) n (fun i => if i < k then (clsN R i : Int) else if i = k then midV R k q else 0)) := hid (fun h1 h2 => by
            rw [hr1] at h1; rw [hr2] at h2
            have h3 := midV_hit HGT.out HR.out HN.out hlt (by omega) h1 h2
            refine (hq.set k cq).congr (fun i _ => ?_)
            by_cases e : i = k
            · subst e; rw [if_pos rfl, if_neg (by omega), if_pos rfl, ← h3, hcq]
            · simp only [if_neg e])
          clear hq hkr hqr hr1 hr2 hcq HQ HQS eq
          cases r1
          · have HQN := hid (HNO.out (by simp))
            go_wp2_with fail
            go_roundw
            case rel => exact ⟨q, by go_num, by omega, HQN.out⟩
            case measure => simp [intOf]
          · cases r2
            · have HQN := hid (HNO.out (by simp))
              go_wp2_with fail
              go_roundw
              case rel => exact ⟨q, by go_num, by omega, HQN.out⟩
              case measure => simp [intOf]
            · have HQN := hid (HYES.out rfl rfl)
              go_wp2_with fail
              go_roundw
              case rel => exact ⟨q, by go_num, by omega, HQN.out⟩
              case measure => simp [intOf]
        · obtain rfl : j = 0 := by omega
          have hqs : SQ w1 wr n (fun i => if i < k + 1 then (clsN R i : Int) else 0) := hq.congr (fun i _ => by
            by_cases e : i = k
            · subst e; simp [midV_end HGT.out HR.out HN.out hn3 hlt]
            · by_cases e2 : i < k
              · rw [if_pos e2, if_pos (by omega)]
              · rw [if_neg e2, if_neg e, if_neg (by omega)])
          have HQN := hid hqs
          clear hq hqs HQ
          go_wp2_with fail
          go_roundw
          case rel => exact ⟨k + 1, by go_num, by omega, HQN.out⟩
          case measure => simp [intOf]; omega
    · obtain rfl : n = k := by omega
      have hq2 : SQ w1 wr n (fun j => (clsN R j : Int)) := hq.congr (fun j hj => by rw [if_pos hj])
      have hsl : SlAt encI 1 wr (some ⟨w1.heap.size, 0, none⟩) w1.heap.size 0 (fl n (fun j => (clsN R j : Int))) := slAt_rowS hq2.rows
      have hca := refCanon_any (c := n) hsl (by rw [fl_len]; omega)
      rw [fl_len] at hca
      have HCA := hid hca
      have HBW := hid (HB1.out.trans (hq2.bel.mono HB1.out.size))
      clear hq hq2 hsl hca HQ0 hmk
      go_wp2_with fail
      refine HCA.out.mono ?_
      rintro e w6 ⟨v, rfl, hown, hB6⟩
      have HO := hid (own_mono hown HBW.out.size)
      have HBF := hid (HBW.out.trans (hB6.mono HBW.out.size))
      obtain ⟨va, vc, vb, rfl, _⟩ := slAt_own (xs := canon (fl n (fun j => (clsN R j : Int)))) lenI (by rw [canon_len, fl_len]; exact hown)
      rw [canon_len, fl_len] at HO ⊢
      clear hown hB6
      go_wp2_with fail
      go_ret
      exact ⟨R, _, rfl, HGT.out, HO.out, HBF.out⟩
end Go.Proofs.YtbaccmlfnbgehaaGreatDoor
namespace Go.Proofs.YtbaccmlfnbgehaaGreatDoor
open Go.RowKit Pl
open Lib (hid)
structure LsS (B : Nat) (w0 wr : World) (Lf : Nat → List Int) (v : Value) (vs : List Value) : Prop where
  bel : Below B w0 wr
  own : wr.ownsRow B 50 1 v vs.length (vs.flatMap encV)
  rows : ∀ (j : Nat) (x : Value), vs[j]? = some x → wr.ownsRow B 3 1 x (Lf j).length ((Lf j).flatMap encI)
  apart : ∀ (i j : Nat) (x y : Value) (g : Nat), i < j → vs[i]? = some x → vs[j]? = some y → x.ownBlock = some g → y.ownBlock ≠ some g
theorem LsS.call {B : Nat} {w0 wr w' : World} {Lf : Nat → List Int} {v : Value} {vs : List Value} (h : LsS B w0 wr Lf v vs) (hB0 : B ≤ wr.heap.size) (hB : Below wr.heap.size wr w') : LsS B w0 w' Lf v vs :=
  ⟨h.bel.trans (hB.mono hB0), own_below h.own hB, fun j x hx => own_below (h.rows j x hx) hB, h.apart⟩
theorem LsS.push {B : Nat} {w0 wr w' : World} {Lf : Nat → List Int} {v v' x : Value} {vs : List Value} (h : LsS B w0 wr Lf v vs) (hB0 : B ≤ wr.heap.size) (hx : wr.ownsRow B 3 1 x (Lf vs.length).length ((Lf vs.length).flatMap encI))
    (hown : w'.ownsRow B 50 1 v' (vs.length + 1) (vs.flatMap encV ++ [x])) (hg : wr.grownBy w' v.ownBlock) (hnew : ∀ (j : Nat) (y : Value) (g : Nat), vs[j]? = some y → y.ownBlock = some g → x.ownBlock ≠ some g) : LsS B w0 w' Lf v' (vs ++ [x]) := by
  have hrow : ∀ {y : Value} {L : List Int}, wr.ownsRow B 3 1 y L.length (L.flatMap encI) → w'.ownsRow B 3 1 y L.length (L.flatMap encI) := fun {y L} hy =>
    own_blockS hy (fun g hg2 => hg.block g (hy.lt g hg2).2 (fun e => own_ne hy h.own (by decide) hg2 e.symm))
  refine ⟨h.bel.grown hg hB0 (fun k e => (h.own.lt k e).1), ?_, fun j y hy => ?_, fun i j x' y' g' hij hi hj => ?_⟩
  · rw [List.flatMap_append, List.length_append]; exact hown
  · rcases Nat.lt_or_ge j vs.length with hj | hj
    · rw [List.getElem?_append_left hj] at hy
      exact hrow (h.rows j y hy)
    · have hq2 : j = vs.length := by have := (List.getElem?_eq_some_iff.1 hy).1; simp at this; omega
      subst hq2
      simp at hy
      subst hy
      exact hrow hx
  · have hil : i < vs.length := by have := (List.getElem?_eq_some_iff.1 hj).1; simp at this; omega
    rw [List.getElem?_append_left hil] at hi
    rcases Nat.lt_or_ge j vs.length with hj2 | hj2
    · rw [List.getElem?_append_left hj2] at hj
      exact h.apart i j x' y' g' hij hi hj
    · have hq2 : j = vs.length := by have := (List.getElem?_eq_some_iff.1 hj).1; simp at this; omega
      subst hq2
      simp at hj
      subst hj
      exact fun hg' => hnew i x' g' hi hg'
theorem own_apartS {w : World} {b1 b2 k1 k2 n1 n2 : Nat} {e1 e2 : TypeId} {v1 v2 : Value} {l1 l2 : List Value} (h1 : w.ownsRow b1 e1 k1 v1 n1 l1) (h2 : w.ownsRow b2 e2 k2 v2 n2 l2) (he : e1 ≠ e2) {g : Nat} (hg : v1.ownBlock = some g) : some g ≠ v2.ownBlock := fun e => own_ne h1 h2 he hg e.symm
theorem idsN_rng {F : Nat → Bool} {n m : Nat} (h : ∀ i, F i = true → i < n) (hm : n ≤ m) : idsN F m = idsN F n := by
  induction m with
  | zero => have : n = 0 := by omega
            rw [this]
  | succ m ih =>
    by_cases e : n = m + 1
    · rw [e]
    · rw [← ih (by omega)]
      unfold idsN
      rw [List.range_succ, List.filter_append]
      have : F m = false := by
        cases hf : F m with
        | false => rfl
        | true => have := h m hf; omega
      simp [this]
def UpA (s : Lts) (n : Nat) (w : World) (e : Ending) (w' : World) : Prop :=
  ∃ (R : Nat → Nat → Bool) (v : Value) (vs : List Value), e = .returned (.tuple #[v, .nilIface]) ∧ Great s n R ∧ vs.length = n ∧ w'.ownsRow w.heap.size 50 1 v vs.length (vs.flatMap encV) ∧
    (∀ (j : Nat) (x : Value), vs[j]? = some x → w'.ownsRow w.heap.size 3 1 x (upL R j).length ((upL R j).flatMap encI)) ∧ Below w.heap.size w w' ∧
    (∀ (i j : Nat) (x y : Value) (g : Nat), i < j → vs[i]? = some x → vs[j]? = some y → x.ownBlock = some g → y.ownBlock ≠ some g)
set_option maxRecDepth 100000 in
set_option maxHeartbeats 4000000 in
theorem aboveLA_any {p0 : Addr} {n : Nat} {lb s0 : Int} {es : List E} (h : Lts.Right ⟨n, lb, s0, es⟩) (hn3 : n ≤ 300) {a : Option Addr} {b off c : Nat} {w : World} (hG : GErr 15 p0 w) (hT : Tab w) (hS : SlAt encE 3 w a b off es) :
    Calls Tryz.prog 10 #[.agg #[.int .i64 n, .int .i64 lb, .int .i64 s0, .slice a es.length c]] w (UpA ⟨n, lb, s0, nf ltE es⟩ n w) := by
  unfold UpA
  have hB0 := (Below.refl w.heap.size w).alloc (Nat.le_refl _) (Obj.cells #[.int .i64 n, .int .i64 lb, .int .i64 s0, .slice a es.length c] 24)
  have HA := hid (above_any (c := c) h hn3 (hG.below hB0) (hT.below hB0) (hS.below hB0 (Nat.le_refl _)))
  have HB0 := hid hB0; have HT0 := hid hT
  clear hB0 hS hG hT h
  go_enter Tryz.func10, Tryz.ntmps10
  go_wp2_with fail
  refine HA.out.mono ?_
  rintro e w1 ⟨ob, R, rfl, hR, hblk, hob, hgt, hB1⟩
  have HGT := hid hgt
  have hb1 := HB0.out.trans (hB1.mono (by simp))
  have hup : LsS w1.heap.size w1 w1 (upL R) (.slice none 0 0) [] := ⟨Below.refl _ _, ⟨by simp, .inl ⟨rfl, rfl⟩⟩, by simp, by simp⟩
  have HRR := hid hR; have HBK := hid hblk; have HB1 := hid hb1
  have HUP := hid hup
  have hs1 := hb1.size
  clear hB1 hR hgt hblk HA HB0 hup hb1
  go_wp2_with fail
  go_loopw [6, 8, 19] (fun v6 _ v19 wr => ∃ (k : Nat) (vs : List Value), v19 = .int .i64 k ∧ k ≤ n ∧ vs.length = k ∧ LsS w1.heap.size w1 wr (upL R) v6 vs) (fun _ _ v19 _ => n - (intOf v19).toNat)
  case atStart => exact ⟨0, [], rfl, Nat.zero_le _, rfl, HUP.out⟩
  case round =>
    obtain ⟨k, vs, rfl, hk, hvl, hup⟩ := hrel
    have hbw := hup.bel
    have HU := hid hup; have HVL := hid hvl
    have hsz := hup.bel.size
    have hwz := hbw.size
    have obl : ob < wr.heap.size := Nat.lt_of_lt_of_le HBK.out.lt hbw.size
    have hrr := HRR.out.below hbw
    clear hup hvl hbw HUP
    by_cases hlt : k < n
    · have hkI : (k : Int) < (n : Int) := by omega
      have r0 := hrr.row k hlt 0 (by omega)
      have r1 := hrr.row k hlt 1 (by omega)
      have r2 := hrr.row k hlt 2 (by omega)
      have r3 := hrr.row k hlt 3 (by omega)
      have r4 := hrr.row k hlt 4 (by omega)
      simp only [Nat.add_zero] at r0
      go_wp2_with fail
      refine (ids_any copyRow ((HT0.out.below (HB1.out.trans (HU.out.bel.mono HB1.out.size))).below ((Below.refl wr.heap.size wr).alloc (Nat.le_refl _) _))).mono ?_
      unfold IdsPost
      rintro e w5 ⟨v, rfl, hown, hB5⟩
      have hB5' : Below wr.heap.size wr w5 := ((Below.refl wr.heap.size wr).alloc (Nat.le_refl _) _).trans (hB5.mono (by simp))
      have hu5 := HU.out.call hsz hB5'
      have hs5 := hB5'.size
      have hl : (intsOf (idsN (R k) 320)) = upL R k := rfl
      rw [hl] at hown
      have hown2 := own_mono hown (show w1.heap.size ≤ _ by simp; omega)
      have hnw : ∀ (j : Nat) (y : Value) (g : Nat), vs[j]? = some y → y.ownBlock = some g → v.ownBlock ≠ some g := fun j y g hy hg hv => by
        have h1 := ((HU.out.rows j y hy).lt g hg).2
        have h2 := (hown.lt g hv).1
        simp at h2
        omega
      have HNW := hid hnw
      clear hnw
      obtain ⟨ia, ic, ib, rfl, _, _, _, _⟩ := slAt_own lenI hown
      have HO5 := hid hown2; have HU5 := hid hu5
      have hul : (upL R k).length ≤ 320 := by unfold upL; rw [intsOf_len]; exact idsN_le _ _
      obtain ⟨ul, hul2⟩ : ∃ ul, ul = (upL R k).length := ⟨_, rfl⟩
      rw [← hul2] at hul ⊢
      have HUL := hid hul2
      clear hown hown2 hB5 hB5' hu5 hl hrr r0 r1 r2 r3 r4 HU hul2
      go_wp2_with (at_builtin; refine wpList_lies rfl _ _ 34 rfl rowIIh (base := w1.heap.size) (by simp; omega) rfl (own_below HU5.out.own ((Below.refl w5.heap.size w5).alloc (Nat.le_refl _) _)) ⟨w5.heap.size, 0, none⟩ 1 1 [.slice ia ul ic] rfl rfl (cells1 (by simp [go_sem])) (by simp [Value.oneCell']) (by omega) (by rw [HVL.out]; omega) (by unfold maxLen; rw [HVL.out]; omega) _ rfl ?_; intro g cap w6 hown6 hg6 _ _)
      have hba := (Below.refl w5.heap.size w5).alloc (Nat.le_refl _) (.cells #[.slice ia ul ic] 50)
      have hnx := (HU5.out.call (by omega) hba).push (x := .slice ia ul ic) (v' := .slice (some ⟨g, 0, none⟩) (vs.length + 1) cap) (by simp; omega) (by rw [HVL.out]; exact own_below (by have := HO5.out; rw [← HUL.out] at this ⊢; exact this) hba) hown6 hg6 (by have h := HNW.out; rw [← HUL.out] at h; exact h)
      have HNX := hid hnx
      clear hnx hown6 hg6 HU5 HO5 hba
      go_roundw
      case rel => exact ⟨k + 1, vs ++ [.slice ia ul ic], by go_num, by omega, by simp [HVL.out], HNX.out⟩
      case measure => simp [intOf]; omega
    · obtain rfl : n = k := by omega
      have hown := HU.out.own
      obtain ⟨va, vc, vb, rfl, _, _, _, _⟩ := slAt_own lenV hown
      clear hown
      go_wp2_with fail
      go_ret2
      exact ⟨R, _, vs, rfl, HGT.out, HVL.out, own_mono HU.out.own HB1.out.size, fun j x hx => own_mono (HU.out.rows j x hx) HB1.out.size, HB1.out.trans (HU.out.bel.mono HB1.out.size), HU.out.apart⟩
theorem outS_cell {w : World} {base n : Nat} {oa : Option Addr} {oc : Nat} {vs : Nat → Value} (h : w.ownsRow base 50 1 (.slice oa n oc) n ((List.range n).map vs)) {i : Nat} (hi : i < n) :
    ∃ g, oa = some ⟨g, 0, none⟩ ∧ w.cell? ⟨g, i, none⟩ = some (vs i) ∧ g < w.heap.size := by
  rcases h.2 with ⟨e, _⟩ | ⟨g, cap, cur, e, _, hh, _, _, _, ht⟩
  · simp only [Value.slice.injEq] at e
    omega
  · simp only [Value.slice.injEq] at e
    refine ⟨g, e.1, ?_, (Array.getElem?_eq_some_iff.1 hh).1⟩
    have h2 : cur[i]? = some (vs i) := by
      have h3 : (cur.toList.take (n * 1))[i]? = some (vs i) := by rw [ht]; simp [hi]
      rw [List.getElem?_take, if_pos (by omega)] at h3
      simpa using h3
    simp [World.cell?, hh, h2]
theorem upA_rws {s : Lts} {n : Nat} (hn3 : n ≤ 300) {w w' : World} {e : Ending} (h : UpA s n w e w') : ∃ (F : Nat → Nat → Bool) (oa : Option Addr) (oc : Nat) (vf : Nat → Value), e = .returned (.tuple #[.slice oa n oc, .nilIface]) ∧ Great s n F ∧
    Rws w w' (wRowsI n vf (fun j => intsOf (idsN (F j) n)) ++ [wOuterV oa oc n vf]) := by
  obtain ⟨F, v, vs, rfl, hF, hl, hown, hrows, hB, hap⟩ := h
  have hup : ∀ j, j < n → upL F j = intsOf (idsN (F j) n) := fun j hj => by unfold upL; rw [idsN_rng (n := n) (m := 320) (fun i hi => hF.left.rng j i hj hi) (by omega)]
  have hfl : vs.flatMap encV = vs := by
    clear hl hown hrows hap
    induction vs with
    | nil => rfl
    | cons x l ih => rw [List.flatMap_cons, ih]; rfl
  have hown2 := hown
  rw [hfl] at hown2
  obtain ⟨oa, oc, ob, rfl, _, _, _, _⟩ := slAt_own lenV hown
  have hvf : ∀ j, j < n → vs[j]? = some (vs.getD j (.slice none 0 0)) := fun j hj => by
    rw [List.getD_eq_getElem?_getD, List.getElem?_eq_getElem (by omega)]
    rfl
  have hmap : (List.range n).map (fun j => vs.getD j (.slice none 0 0)) = vs := by
    refine List.ext_getElem? (fun j => ?_)
    rw [List.getElem?_map]
    rcases Nat.lt_or_ge j n with hj | hj
    · rw [List.getElem?_range hj, hvf j hj]; rfl
    · rw [List.getElem?_eq_none (by simpa using hj), List.getElem?_eq_none (by omega)]; rfl
  refine ⟨F, oa, oc, fun j => vs.getD j (.slice none 0 0), by rw [hl], hF, ⟨hB, fun r hr => ?_, ?_⟩⟩
  · rcases List.mem_append.1 hr with hr | hr
    · obtain ⟨p, hp, rfl⟩ := List.mem_map.1 hr
      have h := hrows p _ (hvf p (List.mem_range.1 hp))
      rw [hup p (List.mem_range.1 hp)] at h
      exact h
    · simp only [List.mem_singleton] at hr
      subst hr
      unfold wOuterV
      simp only [hmap]
      rw [hl] at hown2
      exact hown2
  · rw [List.pairwise_append]
    refine ⟨?_, List.pairwise_singleton _ _, fun a ha b hb g hg => ?_⟩
    · unfold wRowsI
      rw [List.pairwise_map]
      refine List.Pairwise.imp_of_mem ?_ List.pairwise_lt_range
      intro p q hp hq hpq g hg
      exact hap p q _ _ g hpq (hvf p (List.mem_range.1 hp)) (hvf q (List.mem_range.1 hq)) hg
    · obtain ⟨p, hp, rfl⟩ := List.mem_map.1 ha
      simp only [List.mem_singleton] at hb
      subst hb
      have h3 := hown2
      rw [hl] at h3
      exact fun hg2 => own_apartS (hrows p _ (hvf p (List.mem_range.1 hp))) h3 (by decide) hg hg2.symm
end Go.Proofs.YtbaccmlfnbgehaaGreatDoor

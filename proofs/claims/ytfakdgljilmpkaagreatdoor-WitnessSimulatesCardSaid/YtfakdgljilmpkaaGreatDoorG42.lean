/-
  law19.small.
  Maps keyed by pairs of numbers: how the keys read.
  simul.Classes: states above each other.
-/
import Derived.Test.YtfakdgljilmpkaaGreatDoorWitI
import Derived.Test.YtfakdgljilmpkaaGreatDoorG35
import Derived.Test.YtfakdgljilmpkaaGreatDoorG25
import Derived.Test.YtfakdgljilmpkaaGreatDoorG28
import Derived.Test.YtfakdgljilmpkaaGreatDoorG3
namespace Go.Proofs.YtfakdgljilmpkaaGreatDoor
open Go.RowKit Pl

theorem smallW_any (s0 st lb : Int) (a : Option Addr) (m c : Nat) (w : World) :
    Calls Tryz.prog 29 #[.agg #[.int .i64 st, .int .i64 lb, .int .i64 s0, .slice a m c]] w fun e w' => e = .returned (.bool (decide (st ≤ 25) && decide (m ≤ 150))) ∧ Below w.heap.size w w' := by
  have hb := (Below.refl w.heap.size w).alloc (Nat.le_refl _) (.cells #[.int .i64 st, .int .i64 lb, .int .i64 s0, .slice a m c] 24)
  by_cases h1 : st ≤ 25
  · have e1 : decide (st ≤ 25) = true := by simp [h1]
    have HE1 := Lib.hid e1
    by_cases h2 : m ≤ 150
    · have e2 : decide (m ≤ 150) = true := by simp [h2]
      have HE2 := Lib.hid e2
      have h2' : (m : Int) ≤ 150 := by omega
      clear e1 e2
      rw [HE1.out, HE2.out]
      go_enter Tryz.func29, Tryz.ntmps29
      go_wp2
      go_ret
      exact ⟨rfl, hb⟩
    · have e2 : decide (m ≤ 150) = false := by simp [h2]
      have HE2 := Lib.hid e2
      have h2' : ¬ (m : Int) ≤ 150 := by omega
      clear e1 e2
      rw [HE1.out, HE2.out]
      go_enter Tryz.func29, Tryz.ntmps29
      go_wp2
      go_ret
      exact ⟨rfl, hb⟩
  · have e1 : decide (st ≤ 25) = false := by simp [h1]
    rw [e1, Bool.false_and]
    clear e1
    go_enter Tryz.func29, Tryz.ntmps29
    go_wp2
    go_ret
    exact ⟨rfl, hb⟩
end Go.Proofs.YtfakdgljilmpkaaGreatDoor

namespace Go.Proofs.YtfakdgljilmpkaaGreatDoor
open Go.RowKit Go.ChangeShapes Pl

def encP2 (x : Int × Int) : Value := .agg #[.int .i64 x.1, .int .i64 x.2]
def encPr (x : Int × Int) : List Value := [.int .i64 x.1, .int .i64 x.2]
theorem lenP2 (x : Int × Int) : (encPr x).length = 2 := rfl
def okPr (x : Int × Int) : Prop := (Lit.int .i64 x.1).wf = true ∧ (Lit.int .i64 x.2).wf = true

theorem rowPair : (72 : TypeId) < Tryz.prog.types.size := of_decide_eq_true (by kernel_rfl)
theorem widePair : (match Tryz.prog.underlying 72 with | some (.array _ _) | some (.struct _) => true | _ => false) = true := by rw [Tryz.underlying72]
set_option maxRecDepth 100000 in
theorem lawPair : Go.WideMaps.KeyLaw Tryz.prog 72 := deep_law_laid laidOutK (m := 2) (by omega) rowPair (by kernel_rfl) widePair
theorem deepPair : Tryz.prog.keyTypeAt (Tryz.prog.types.size + 1) 72 = true := by kernel_rfl
theorem cellsPair : Tryz.prog.cellsOf 72 = 2 := by kernel_rfl
theorem cellsInt1 : Tryz.prog.cellsOf 3 = 1 := by kernel_rfl
theorem formedPair (c0 c1 : Value) : (Value.agg #[c0, c1]).formed Tryz.prog 72 = true := by simp [Value.formed, Tryz.underlying72, cellsPair]

section
variable {H : Type} {enc : TypeId × Value → H} {P : Program} {w : World} {base : Nat} {spare : Nat → Bool} {held : Bool}
/-- An array of two one-cell elements, shut. -/
theorem shut_arr2 {t e : TypeId} {c0 c1 : Value} {y0 y1 : DataW H × List MemPlace} (ht : P.underlying t = some (.array 2 e)) (hce : P.cellsOf e = 1) (hct : P.cellsOf t = 2)
    (t0 : ∃ n, DataW.trod enc P w base spare held n e [c0] = some y0) (t1 : ∃ n, DataW.trod enc P w base spare held n e [c1] = some y1) :
    DataW.Trod enc P w base spare held t (.agg #[c0, c1]) (.agg [y0.1, y1.1]) (y0.2 ++ y1.2) := by
  obtain ⟨n0, t0⟩ := t0
  obtain ⟨n1, t1⟩ := t1
  have h0 := DataW.trod_le (Nat.le_max_left n0 n1) t0
  have h1 := DataW.trod_le (Nat.le_max_right n0 n1) t1
  refine ⟨max n0 n1 + 1, ?_⟩
  have r2 : List.range 2 = [0, 1] := rfl
  unfold DataW.trod
  rw [ht]
  simp [Value.cells, r2, hce, h0, h1, hct]
end

set_option maxRecDepth 100000 in
theorem keyPair (x : Int × Int) (h : okPr x) : ∃ l, keyOf Tryz.prog 72 (encP2 x) = some l := by
  have t0 := shut_int (H := Unit) (enc := fun _ => ()) (P := Tryz.prog) (w := default) (base := 0) (spare := fun _ => true) (held := true) Tryz.underlying3 h.1
  have t1 := shut_int (H := Unit) (enc := fun _ => ()) (P := Tryz.prog) (w := default) (base := 0) (spare := fun _ => true) (held := true) Tryz.underlying3 h.2
  have h2 := shut_arr2 (y0 := (.lit (.int .i64 x.1), [])) (y1 := (.lit (.int .i64 x.2), [])) Tryz.underlying72 cellsInt1 cellsPair t0 t1
  exact ⟨_, (keyOf_asKey deepPair widePair (formedPair _ _) h2).1⟩

theorem encPair : KeyEnc Tryz.prog 72 encP2 okPr where
  K := Go.Maps.Keyed.of_law lawPair
  key := keyPair
  inj x y h := by
    obtain ⟨x1, x2⟩ := x; obtain ⟨y1, y2⟩ := y
    unfold encP2 at h
    simp only [Value.agg.injEq, Array.mk.injEq, List.cons.injEq, Value.int.injEq, true_and, and_true] at h
    rw [h.1, h.2]

/-- More pairs are noted. -/
def addP (L : List (Int × Int)) (z : Int × Int) : Option Unit := if z ∈ L then some () else none
theorem addP_snoc (L : List (Int × Int)) (x z : Int × Int) : (if z = x then some () else addP L z) = addP (L ++ [x]) z := by
  unfold addP
  by_cases h : z = x
  · simp [h]
  · simp [h]
theorem addP_isSome (L : List (Int × Int)) (x : Int × Int) : (addP L x).isSome = decide (x ∈ L) := by
  unfold addP
  by_cases h : x ∈ L <;> simp [h]
end Go.Proofs.YtfakdgljilmpkaaGreatDoor

namespace Go.Proofs.YtfakdgljilmpkaaGreatDoor
open Go.RowKit Pl

/-- A row of numbers in a block of its own. -/
structure SQ (W wr : World) (M : Nat) (f : Nat → Int) : Prop where
  rows : wr.rowIs W.heap.size 3 M (fun j => .int .i64 (f j))
  bel : Below W.heap.size W wr
theorem SQ.call {W wr w' : World} {M : Nat} {f : Nat → Int} (h : SQ W wr M f) (hB : Below wr.heap.size wr w') : SQ W w' M f :=
  ⟨h.rows.of_block (hB.block _ h.rows.lt), h.bel.trans (hB.mono h.bel.size)⟩
theorem SQ.set {W wr : World} {M : Nat} {f : Nat → Int} (h : SQ W wr M f) (i : Nat) (x : Int) : SQ W (wr.setCell ⟨W.heap.size, i, none⟩ (.int .i64 x)) M (fun j => if j = i then x else f j) :=
  ⟨(h.rows.set i (.int .i64 x)).congr (fun j _ => by by_cases e : j = i <;> simp [e]), h.bel.setCell (Nat.le_refl _) _⟩
theorem SQ.congr {W wr : World} {M : Nat} {f g : Nat → Int} (h : SQ W wr M f) (e : ∀ j, j < M → f j = g j) : SQ W wr M g :=
  ⟨h.rows.congr (fun j hj => by rw [e j hj]), h.bel⟩
theorem rowS_of_heap {w2 : World} {z : Value} {n b : Nat} {T : TypeId} (h : w2.heap[b]? = some (.cells (madeCells #[z] n) T (0, 0))) : w2.rowIs b T n (fun _ => z) :=
  ⟨_, h, size_madeCells _ _, fun i hi => by simp [madeCells, hi, Nat.mod_one]⟩
theorem slAt_rowS {w : World} {tb n : Nat} {f : Nat → Int} (h : w.rowIs tb 3 n (fun j => .int .i64 (f j))) : SlAt encI 1 w (some ⟨tb, 0, none⟩) tb 0 (fl n f) :=
  ⟨fun _ => rfl, fun _ => h.lt, fun i x hx j u hu => by
    have hi := (List.getElem?_eq_some_iff.1 hx).1
    rw [fl_len] at hi
    have hxe : x = f i := by
      rw [fl_get f hi] at hx
      simpa using hx.symm
    have hj := (List.getElem?_eq_some_iff.1 hu).1
    rw [lenI] at hj
    obtain rfl : j = 0 := by omega
    have h2 := h.cell hi
    simp only [encI, List.getElem?_cons_zero, Option.some.injEq] at hu
    rw [← hu, hxe, Nat.zero_add, Nat.mul_one, Nat.add_zero]
    exact h2⟩

/-- The first state above p that p is above. -/
def clsN (R : Nat → Nat → Bool) (p : Nat) : Nat := ((idsN (R p) 320).find? (fun q => R q p)).getD 0

def ClPost (s : Lts) (n : Nat) (w : World) (e : Ending) (w' : World) : Prop :=
  ∃ (R : Nat → Nat → Bool) (v : Value), e = .returned (.tuple #[v, .nilIface]) ∧ Great s n R ∧ w'.ownsRow w.heap.size 3 1 v n ((canon (fl n (fun p => (clsN R p : Int)))).flatMap encI) ∧ Below w.heap.size w w'

theorem clsN_none {R : Nat → Nat → Bool} {p : Nat} (h : ∀ j i : Nat, (idsN (R p) 320)[j]? = some i → R i p = false) : clsN R p = 0 := by
  unfold clsN
  have : (idsN (R p) 320).find? (fun q => R q p) = none := by
    rw [List.find?_eq_none]
    intro x hx
    obtain ⟨j, hj⟩ := List.getElem?_of_mem hx
    rw [h j x hj]; simp
  rw [this]; rfl
theorem clsN_at {R : Nat → Nat → Bool} {p m i : Nat} (h : ∀ j i : Nat, j < m → (idsN (R p) 320)[j]? = some i → R i p = false) (hi : (idsN (R p) 320)[m]? = some i) (hr : R i p = true) : clsN R p = i := by
  unfold clsN
  have : (idsN (R p) 320).find? (fun q => R q p) = some i := by
    obtain ⟨hm, hmi⟩ := List.getElem?_eq_some_iff.1 hi
    rw [List.find?_eq_some_iff_getElem]
    refine ⟨hr, m, hm, hmi, fun j hj => ?_⟩
    have := h j _ hj (List.getElem?_eq_getElem (by omega))
    simp [this]
  rw [this]; rfl
theorem clsN_lt {s : Lts} {n : Nat} {R : Nat → Nat → Bool} (h : Left s n R) {p : Nat} (hp : p < n) : clsN R p < n := by
  unfold clsN
  rcases hf : (idsN (R p) 320).find? (fun q => R q p) with _ | i
  · simp; omega
  · have := List.mem_of_find?_eq_some hf
    unfold idsN at this
    exact h.rng p i hp (List.mem_filter.1 this).2

set_option maxRecDepth 100000 in
set_option maxHeartbeats 4000000 in
theorem simClasses_any {p0 : Addr} {n : Nat} {lb s0 : Int} {es : List E} (h : Lts.Right ⟨n, lb, s0, es⟩) (hn3 : n ≤ 300) {a : Option Addr} {b off c : Nat} {w : World} (hG : GErr 0 p0 w) (hT : Tab w) (hS : SlAt encE 3 w a b off es) :
    Calls Tryz.prog 76 #[.agg #[.int .i64 n, .int .i64 lb, .int .i64 s0, .slice a es.length c]] w (ClPost ⟨n, lb, s0, nf ltE es⟩ n w) := by
  unfold ClPost
  have hB0 := (Below.refl w.heap.size w).alloc (Nat.le_refl _) (Obj.cells #[.int .i64 n, .int .i64 lb, .int .i64 s0, .slice a es.length c] 24)
  have hbx := heap_alloc_new w (Obj.cells #[.int .i64 n, .int .i64 lb, .int .i64 s0, .slice a es.length c] 24)
  have HA := Lib.hid (above_any (c := c) h hn3 (hG.below hB0) (hT.below hB0) (hS.below hB0 (Nat.le_refl _)))
  have HB0 := Lib.hid hB0; have HT0 := Lib.hid hT; have HBX := Lib.hid hbx
  have hmk := run_make_row' (P := Tryz.prog) 33 3 (.int .i64 0) 8 Tryz.underlying33 (by kernel_rfl) rfl .i64 .i64 n (by omega) (by omega)
  clear hB0 hbx hS hG hT h
  go_enter Tryz.func76, Tryz.ntmps76
  go_wp2_with fail
  refine HA.out.mono ?_
  rintro e w1 ⟨ob, R, rfl, hR, hblk, hob, hgt, hB1⟩
  have hx1 := (hB1.block w.heap.size (by simp)).trans HBX.out
  have x0 : w1.cell? ⟨w.heap.size, 0, none⟩ = some (.int .i64 n) := by simp [World.cell?, hx1]
  have xl := (Array.getElem?_eq_some_iff.1 hx1).1
  have HB1 := Lib.hid (HB0.out.trans (hB1.mono (by simp)))
  have hq0 : SQ w1 (w1.alloc (.cells (madeCells #[.int .i64 0] n) 3)) n (fun j => if j < 0 then (clsN R j : Int) else 0) := by
    refine ⟨?_, (Below.refl _ _).alloc (Nat.le_refl _) _⟩
    exact (rowS_of_heap (heap_alloc_new w1 _)).congr (fun j _ => by simp)
  have HQ0 := Lib.hid hq0; have HGT := Lib.hid hgt; have HR := Lib.hid hR
  have obl := hblk.lt
  clear hB1 hx1 hR hgt hblk HA HBX HB0 hq0
  go_wp2_with fail
  go_loopw [7, 9, 23] (fun _ _ v23 wr => ∃ k : Nat, v23 = .int .i64 k ∧ k ≤ n ∧ SQ w1 wr n (fun j => if j < k then (clsN R j : Int) else 0)) (fun _ _ v23 _ => n - (intOf v23).toNat)
  case atStart => exact ⟨0, rfl, Nat.zero_le _, HQ0.out⟩
  case round =>
    obtain ⟨k, rfl, hk, hq⟩ := hrel
    have HQ := Lib.hid hq
    have hsz := hq.bel.size
    clear hq HQ0
    by_cases hlt : k < n
    · have hkI : (k : Int) < (n : Int) := by omega
      have hrr := HR.out.below HQ.out.bel
      have HID := Lib.hid (ids_any (hrr.row k hlt) (HT0.out.below (HB1.out.trans (HQ.out.bel.mono HB1.out.size))))
      obtain ⟨L, hL⟩ : ∃ L, L = idsN (R k) 320 := ⟨_, rfl⟩
      have hLl : L.length ≤ 320 := by rw [hL]; exact idsN_le _ _
      clear hrr
      go_wp2_with fail
      refine HID.out.mono ?_
      unfold IdsPost
      rw [← hL]
      rintro e wa ⟨v, rfl, hown, hBa⟩
      obtain ⟨ia, ic, ib, rfl, _, _, hsl, hib⟩ := slAt_own lenI hown
      rw [intsOf_len] at hib ⊢
      have HSL := Lib.hid hsl; have HQA := Lib.hid (HQ.out.call hBa); have HL := Lib.hid hL
      have hza := HQA.out.bel.size
      have hqb := HQA.out.rows.lt
      have hqf := HQA.out.rows.frozen k
      have hqc := HQA.out.rows.cell hlt
      clear hown hBa hsl hib hL HID HQ
      go_wp2_with fail
      obtain ⟨wz, hwz⟩ : ∃ wz, wz = wa := ⟨_, rfl⟩
      subst hwz
      go_loopw [9, 31] (fun _ v31 wr => ∃ m : Nat, v31 = .int .i64 m ∧ m ≤ L.length ∧ (∀ j i, j < m → L[j]? = some i → R i k = false) ∧ wr = wz) (fun _ v31 _ => L.length - (intOf v31).toNat)
      case atStart => exact ⟨0, rfl, Nat.zero_le _, fun j i hj => by omega, rfl⟩
      case round =>
        obtain ⟨m, rfl, hm, hno, rfl⟩ := hrel
        have HNO := Lib.hid hno
        clear hno
        by_cases hmL : m < L.length
        · obtain ⟨i, hi⟩ := getElem?_of_lt hmL
          have hsl := HSL.out
          have hil : 0 < (intsOf L).length := by rw [intsOf_len]; omega
          obtain rfl := hsl.ad hil
          have c0 := hsl.ci (intsOf_at hi)
          have cl := hsl.lt hil
          simp only [Nat.zero_add] at c0
          have hin : i < n := HGT.out.left.rng k i hlt (by have := List.mem_of_getElem? hi; rw [HL.out] at this; unfold idsN at this; exact (List.mem_filter.1 this).2)
          have hmI : (m : Int) < (L.length : Int) := by omega
          have hiI : (i : Int) < (n : Int) := by omega
          have HI := Lib.hid hi
          have HH := Lib.hid (has_any ((HR.out.below HQA.out.bel).row i hin) (show k < 320 by omega))
          clear hsl hil hi
          go_wp2_with fail
          refine HH.out.mono ?_
          rintro e w5 ⟨rfl, rfl⟩
          obtain ⟨d, hd⟩ : ∃ d, d = R i k := ⟨_, rfl⟩
          rw [← hd]
          have HDD := Lib.hid hd
          clear hd HH
          cases d
          · have hno : ∀ j i' : Nat, j < m + 1 → L[j]? = some i' → R i' k = false := fun j i' hj hi' => by
              by_cases e : j = m
              · subst e; have := HI.out; rw [hi'] at this; cases this; exact HDD.out.symm
              · exact HNO.out j i' (by omega) hi'
            have HNO2 := Lib.hid hno
            clear hno HNO HDD
            go_wp2_with fail
            go_roundw
            case rel => exact ⟨m + 1, by go_num, by omega, HNO2.out, by trivial⟩
            case measure => simp [intOf]; omega
          · have hcl : clsN R k = i := clsN_at (m := m) (fun j i' hj hi' => HNO.out j i' hj (by rw [HL.out]; exact hi')) (by rw [← HL.out]; exact HI.out) HDD.out.symm
            have hqs : SQ w1 (wr.setCell ⟨w1.heap.size, k, none⟩ (.int .i64 i)) n (fun j => if j < k + 1 then (clsN R j : Int) else 0) := (HQA.out.set k i).congr (fun j _ => by
              by_cases e : j = k
              · subst e; simp [hcl]
              · by_cases e2 : j < k
                · rw [if_neg e, if_pos e2, if_pos (by omega)]
                · rw [if_neg e, if_neg e2, if_neg (by omega)])
            have HQS := Lib.hid hqs
            clear hqs hcl HNO HDD
            go_wp2_with fail
            go_roundw
            case rel => exact ⟨k + 1, by go_num, by omega, HQS.out⟩
            case measure => simp [intOf]; omega
        · obtain rfl : m = L.length := by omega
          have hcl : clsN R k = 0 := clsN_none (fun j i' hj => by
            rw [← HL.out] at hj
            exact HNO.out j i' (List.getElem?_eq_some_iff.1 hj).1 hj)
          have hqs : SQ w1 wr n (fun j => if j < k + 1 then (clsN R j : Int) else 0) := HQA.out.congr (fun j _ => by
            by_cases e : j = k
            · subst e; simp [hcl]
            · by_cases e2 : j < k
              · rw [if_pos e2, if_pos (by omega)]
              · rw [if_neg e2, if_neg (by omega)])
          have HQS := Lib.hid hqs
          clear hqs hcl HNO
          go_wp2_with fail
          go_roundw
          case rel => exact ⟨k + 1, by go_num, by omega, HQS.out⟩
          case measure => simp [intOf]; omega
    · obtain rfl : n = k := by omega
      have hq : SQ w1 wr n (fun j => (clsN R j : Int)) := HQ.out.congr (fun j hj => by rw [if_pos hj])
      have hsl : SlAt encI 1 wr (some ⟨w1.heap.size, 0, none⟩) w1.heap.size 0 (fl n (fun j => (clsN R j : Int))) := slAt_rowS hq.rows
      have hca := canon_any (c := n) hsl (by rw [fl_len]; omega) (fun x hx => by
        obtain ⟨i, hi, rfl⟩ := List.mem_map.1 (show x ∈ (List.range n).map _ from hx)
        rw [List.mem_range] at hi
        have := clsN_lt HGT.out.left hi
        exact WalkArith.wf_i64 (by omega))
      rw [fl_len] at hca
      have HCA := Lib.hid hca
      have hbw := HB1.out.trans (hq.bel.mono HB1.out.size)
      have HBW := Lib.hid hbw
      clear hq hsl hca hbw
      go_wp2_with fail
      refine HCA.out.mono ?_
      rintro e w6 ⟨v, rfl, hown, hB6⟩
      have hown2 := own_mono hown HBW.out.size
      obtain ⟨va, vc, vb, rfl, _⟩ := slAt_own (xs := canon (fl n (fun j => (clsN R j : Int)))) lenI (by rw [canon_len, fl_len]; exact hown)
      rw [canon_len, fl_len] at hown2 ⊢
      have HO := Lib.hid hown2
      have HBF := Lib.hid (HBW.out.trans (hB6.mono HBW.out.size))
      clear hown hown2 hB6
      go_wp2_with fail
      go_ret2
      exact ⟨R, _, rfl, HGT.out, HO.out, HBF.out⟩
end Go.Proofs.YtfakdgljilmpkaaGreatDoor

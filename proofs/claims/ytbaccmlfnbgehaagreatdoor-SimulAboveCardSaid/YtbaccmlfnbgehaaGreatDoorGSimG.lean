/-
  Lemmas.
-/
import Derived.Test.YtbaccmlfnbgehaaGreatDoorGSimE
import Derived.Test.YtbaccmlfnbgehaaGreatDoorGCanon
import Derived.Test.YtbaccmlfnbgehaaGreatDoorGPl4
namespace Go.Proofs.YtbaccmlfnbgehaaGreatDoor
open Go.RowKit Pl
set_option maxRecDepth 100000 in
set_option maxHeartbeats 4000000 in
theorem below_any {p0 : Addr} {n : Nat} {lb s0 : Int} {es : List E} (h : Lts.Right ⟨n, lb, s0, es⟩) (hn3 : n ≤ 300) {a : Option Addr} {b off c : Nat} {w : World} (hG : GErr 15 p0 w) (hT : Tab w) (hS : SlAt encE 3 w a b off es) {p q : Nat} (hp : p < n) (hq : q < n) :
    Calls Tryz.prog 19 #[.agg #[.int .i64 n, .int .i64 lb, .int .i64 s0, .slice a es.length c], .int .i64 p, .int .i64 q] w fun e w' =>
      ∃ R, e = .returned (.tuple #[.bool (R p q), .nilIface]) ∧ Great ⟨n, lb, s0, nf ltE es⟩ n R ∧ Below w.heap.size w w' := by
  have hB0 := (Below.refl w.heap.size w).alloc (Nat.le_refl _) (Obj.cells #[.int .i64 n, .int .i64 lb, .int .i64 s0, .slice a es.length c] 24)
  have hbx := heap_alloc_new w (Obj.cells #[.int .i64 n, .int .i64 lb, .int .i64 s0, .slice a es.length c] 24)
  have HA := Lib.hid (above_any (c := c) h hn3 (hG.below hB0) (hT.below hB0) (hS.below hB0 (Nat.le_refl _)))
  have HB0 := Lib.hid hB0; have HBX := Lib.hid hbx
  clear hB0 hbx hS hG hT h
  have d1 : decide ((p : Int) < 0) = false := by simp
  have d2 : decide ((q : Int) < 0) = false := by simp
  have d3 : decide ((n : Int) ≤ (p : Int)) = false := by simp; omega
  have d4 : decide ((n : Int) ≤ (q : Int)) = false := by simp; omega
  have hpI : (p : Int) < (n : Int) := by omega
  go_enter Tryz.func19, Tryz.ntmps19
  go_wp2_with fail
  refine HA.out.mono ?_
  rintro e w1 ⟨ob, R, rfl, hR, hblk, hob, hgt, hB1⟩
  have hx1 := (hB1.block w.heap.size (by simp)).trans HBX.out
  have x0 : w1.cell? ⟨w.heap.size, 0, none⟩ = some (.int .i64 n) := by simp [World.cell?, hx1]
  have xl := (Array.getElem?_eq_some_iff.1 hx1).1
  have HB1 := Lib.hid (HB0.out.trans (hB1.mono (by simp)))
  have HH := Lib.hid (has_any (hR.row p hp) (show q < 320 by omega))
  have HGT := Lib.hid hgt
  have obl := hblk.lt
  clear hB1 hx1 hR hgt hblk HA HBX HB0
  go_wp2_with fail
  refine HH.out.mono ?_
  rintro e w2 ⟨rfl, rfl⟩
  go_wp2_with fail
  go_ret2
  exact ⟨R, rfl, HGT.out, HB1.out⟩
end Go.Proofs.YtbaccmlfnbgehaaGreatDoor
namespace Go.Proofs.YtbaccmlfnbgehaaGreatDoor
open Go.RowKit Pl
theorem own_blockS {w w' : World} {base : Nat} {e : TypeId} {k n : Nat} {v : Value} {xs : List Value} (h : w.ownsRow base e k v n xs) (hb : ∀ g, v.ownBlock = some g → w'.heap[g]? = w.heap[g]?) : w'.ownsRow base e k v n xs := by
  refine ⟨h.1, ?_⟩
  rcases h.2 with h2 | ⟨g, cap, cur, hv, hbg, hg, r⟩
  · exact .inl h2
  · exact .inr ⟨g, cap, cur, hv, hbg, by rw [hb g (by rw [hv]; rfl)]; exact hg, r⟩
theorem rowIIh : IsRow Tryz.prog 34 50 1 24 (.slice none 0 0) := isRow_of Tryz.underlying34 (by kernel_rfl) rfl (by decide)
def upL (R : Nat → Nat → Bool) (p : Nat) : List Int := intsOf (idsN (R p) 320)
structure UpK (B : Nat) (w0 wr : World) (ob n : Nat) (R : Nat → Nat → Bool) (v : Value) (vs : List Value) : Prop where
  bel : Below B w0 wr
  rel : RelR wr ob n R
  blk : RowBlk wr ob
  own : wr.ownsRow B 50 1 v vs.length (vs.flatMap encV)
  rows : ∀ (j : Nat) (x : Value), vs[j]? = some x → wr.ownsRow B 3 1 x (upL R j).length ((upL R j).flatMap encI)
theorem UpK.call {B : Nat} {w0 wr w' : World} {ob n : Nat} {R : Nat → Nat → Bool} {v : Value} {vs : List Value} (h : UpK B w0 wr ob n R v vs) (hB0 : B ≤ wr.heap.size) (hB : Below wr.heap.size wr w') : UpK B w0 w' ob n R v vs :=
  ⟨h.bel.trans (hB.mono hB0), h.rel.below hB, h.blk.of_block (hB.block _ h.blk.lt), own_below h.own hB, fun j x hx => own_below (h.rows j x hx) hB⟩
theorem own_type {w : World} {base : Nat} {e : TypeId} {k n : Nat} {v : Value} {xs : List Value} (h : w.ownsRow base e k v n xs) {g : Nat} (hg : v.ownBlock = some g) : ∃ cur, w.heap[g]? = some (.cells cur e (0, 0)) := by
  rcases h.2 with ⟨rfl, _⟩ | ⟨g2, cap, cur, rfl, _, hgg, _⟩
  · cases hg
  · simp only [Value.ownBlock, Option.some.injEq] at hg; subst hg; exact ⟨cur, hgg⟩
theorem own_ne {w : World} {base base2 : Nat} {e e2 : TypeId} {k k2 n n2 : Nat} {v v2 : Value} {xs xs2 : List Value} (h : w.ownsRow base e k v n xs) (h2 : w.ownsRow base2 e2 k2 v2 n2 xs2) (hne : e ≠ e2) {g : Nat} (hg : v.ownBlock = some g) : v2.ownBlock ≠ some g := fun hg2 => by
  obtain ⟨c1, e1⟩ := own_type h hg
  obtain ⟨c2, e3⟩ := own_type h2 hg2
  rw [e1] at e3
  injection e3 with e3; injection e3 with _ e3; exact hne e3
theorem UpK.push {B : Nat} {w0 wr w' : World} {ob n : Nat} {R : Nat → Nat → Bool} {v v' x : Value} {vs : List Value} (h : UpK B w0 wr ob n R v vs) (hB0 : B ≤ wr.heap.size) (hx : wr.ownsRow B 3 1 x (upL R vs.length).length ((upL R vs.length).flatMap encI))
    (hown : w'.ownsRow B 50 1 v' (vs.length + 1) (vs.flatMap encV ++ [x])) (hg : wr.grownBy w' v.ownBlock) : UpK B w0 w' ob n R v' (vs ++ [x]) := by
  have hblk : ∀ b, b < wr.heap.size → v.ownBlock ≠ some b → w'.heap[b]? = wr.heap[b]? := fun b h1 h2 => hg.block b h1 (fun e => h2 e.symm)
  have hrow : ∀ {y : Value} {L : List Int}, wr.ownsRow B 3 1 y L.length (L.flatMap encI) → w'.ownsRow B 3 1 y L.length (L.flatMap encI) := fun {y L} hy =>
    own_blockS hy (fun g hg2 => hblk g (Array.getElem?_eq_some_iff.1 (own_type hy hg2).choose_spec).1 (own_ne hy h.own (by decide) hg2))
  have hob : v.ownBlock ≠ some ob := fun e => by
    obtain ⟨c1, e1⟩ := own_type h.own e
    obtain ⟨c2, e2⟩ := h.blk
    rw [e1] at e2; injection e2 with e2; injection e2 with _ e2; exact absurd e2 (by decide)
  have hb := hblk ob h.blk.lt hob
  refine ⟨h.bel.grown hg hB0 (fun k e => (h.own.lt k e).1), ⟨fun p hp => (h.rel.row p hp).of_block hb⟩, h.blk.of_block hb, ?_, fun j y hy => ?_⟩
  · rw [List.flatMap_append, List.length_append]; exact hown
  · rcases Nat.lt_or_ge j vs.length with hj | hj
    · rw [List.getElem?_append_left hj] at hy
      exact hrow (h.rows j y hy)
    · have hq2 : j = vs.length := by have := (List.getElem?_eq_some_iff.1 hy).1; simp at this; omega
      subst hq2
      simp at hy
      subst hy
      exact hrow hx
theorem copyRow {w : World} {F : Nat → Bool} {T : TypeId} : RowAt (w.alloc (.cells #[.int .u64 (wj F 0 : Nat), .int .u64 (wj F 1 : Nat), .int .u64 (wj F 2 : Nat), .int .u64 (wj F 3 : Nat), .int .u64 (wj F 4 : Nat)] T)) w.heap.size 0 F := fun j hj => by
  have hj' : j = 0 ∨ j = 1 ∨ j = 2 ∨ j = 3 ∨ j = 4 := by omega
  rcases hj' with rfl | rfl | rfl | rfl | rfl <;> simp [go_sem]
def UpPost (s : Lts) (n : Nat) (w : World) (e : Ending) (w' : World) : Prop :=
  ∃ (R : Nat → Nat → Bool) (v : Value) (vs : List Value), e = .returned (.tuple #[v, .nilIface]) ∧ Great s n R ∧ vs.length = n ∧ w'.ownsRow w.heap.size 50 1 v vs.length (vs.flatMap encV) ∧
    (∀ (j : Nat) (x : Value), vs[j]? = some x → w'.ownsRow w.heap.size 3 1 x (upL R j).length ((upL R j).flatMap encI)) ∧ Below w.heap.size w w'
end Go.Proofs.YtbaccmlfnbgehaaGreatDoor
namespace Go.Proofs.YtbaccmlfnbgehaaGreatDoor
open Go.RowKit Pl
open Lib (hid)
structure SQ (W wr : World) (M : Nat) (f : Nat → Int) : Prop where
  rows : wr.rowIs W.heap.size 3 M (fun j => .int .i64 (f j))
  bel : Below W.heap.size W wr
theorem SQ.call {W wr w' : World} {M : Nat} {f : Nat → Int} (h : SQ W wr M f) (hB : Below wr.heap.size wr w') : SQ W w' M f :=
  ⟨h.rows.of_block (hB.block _ h.rows.lt), h.bel.trans (hB.mono h.bel.size)⟩
theorem SQ.set {W wr : World} {M : Nat} {f : Nat → Int} (h : SQ W wr M f) (i : Nat) (x : Int) : SQ W (wr.setCell ⟨W.heap.size, i, none⟩ (.int .i64 x)) M (fun j => if j = i then x else f j) :=
  ⟨(h.rows.set i (.int .i64 x)).congr (fun j _ => by by_cases e : j = i <;> simp [e]), h.bel.setCell (Nat.le_refl _) _⟩
theorem SQ.congr {W wr : World} {M : Nat} {f g : Nat → Int} (h : SQ W wr M f) (e : ∀ j, j < M → f j = g j) : SQ W wr M g :=
  ⟨h.rows.congr (fun j hj => by rw [e j hj]), h.bel⟩
theorem rowS_of_heap {w2 : World} {z : Value} {n b : Nat} {T : TypeId} (h : w2.heap[b]? = some (.cells (madeCells #[z] n) T (0, 0))) : w2.rowIs b T n (fun _ => z) :=
  ⟨_, h, size_madeCells _ _, fun i hi => by simp [madeCells, hi, Nat.mod_one]⟩
theorem slAt_rowS {w : World} {tb n : Nat} {f : Nat → Int} (h : w.rowIs tb 3 n (fun j => .int .i64 (f j))) : SlAt encI 1 w (some ⟨tb, 0, none⟩) tb 0 (fl n f) :=
  ⟨fun _ => rfl, fun _ => h.lt, fun i x hx j u hu => by
    have hi := (List.getElem?_eq_some_iff.1 hx).1
    rw [fl_len] at hi
    have hxe : x = f i := by
      rw [fl_get f hi] at hx
      simpa using hx.symm
    have hj := (List.getElem?_eq_some_iff.1 hu).1
    rw [lenI] at hj
    obtain rfl : j = 0 := by omega
    have h2 := h.cell hi
    simp only [encI, List.getElem?_cons_zero, Option.some.injEq] at hu
    rw [← hu, hxe, Nat.zero_add, Nat.mul_one, Nat.add_zero]
    exact h2⟩
def clsN (R : Nat → Nat → Bool) (p : Nat) : Nat := ((idsN (R p) 320).find? (fun q => R q p)).getD 0
def ClPost (s : Lts) (n : Nat) (w : World) (e : Ending) (w' : World) : Prop :=
  ∃ (R : Nat → Nat → Bool) (v : Value), e = .returned (.tuple #[v, .nilIface]) ∧ Great s n R ∧ w'.ownsRow w.heap.size 3 1 v n ((canon (fl n (fun p => (clsN R p : Int)))).flatMap encI) ∧ Below w.heap.size w w'
theorem clsN_none {R : Nat → Nat → Bool} {p : Nat} (h : ∀ j i : Nat, (idsN (R p) 320)[j]? = some i → R i p = false) : clsN R p = 0 := by
  unfold clsN
  have : (idsN (R p) 320).find? (fun q => R q p) = none := by
    rw [List.find?_eq_none]
    intro x hx
    obtain ⟨j, hj⟩ := List.getElem?_of_mem hx
    rw [h j x hj]; simp
  rw [this]; rfl
theorem clsN_at {R : Nat → Nat → Bool} {p m i : Nat} (h : ∀ j i : Nat, j < m → (idsN (R p) 320)[j]? = some i → R i p = false) (hi : (idsN (R p) 320)[m]? = some i) (hr : R i p = true) : clsN R p = i := by
  unfold clsN
  have : (idsN (R p) 320).find? (fun q => R q p) = some i := by
    obtain ⟨hm, hmi⟩ := List.getElem?_eq_some_iff.1 hi
    rw [List.find?_eq_some_iff_getElem]
    refine ⟨hr, m, hm, hmi, fun j hj => ?_⟩
    have := h j _ hj (List.getElem?_eq_getElem (by omega))
    simp [this]
  rw [this]; rfl
theorem clsN_lt {s : Lts} {n : Nat} {R : Nat → Nat → Bool} (h : Left s n R) {p : Nat} (hp : p < n) : clsN R p < n := by
  unfold clsN
  rcases hf : (idsN (R p) 320).find? (fun q => R q p) with _ | i
  · simp; omega
  · have := List.mem_of_find?_eq_some hf
    unfold idsN at this
    exact h.rng p i hp (List.mem_filter.1 this).2
set_option maxRecDepth 100000 in
set_option maxHeartbeats 4000000 in
theorem simClasses_any {p0 : Addr} {n : Nat} {lb s0 : Int} {es : List E} (h : Lts.Right ⟨n, lb, s0, es⟩) (hn3 : n ≤ 300) {a : Option Addr} {b off c : Nat} {w : World} (hG : GErr 15 p0 w) (hT : Tab w) (hS : SlAt encE 3 w a b off es) :
    Calls Tryz.prog 11 #[.agg #[.int .i64 n, .int .i64 lb, .int .i64 s0, .slice a es.length c]] w (ClPost ⟨n, lb, s0, nf ltE es⟩ n w) := by
  unfold ClPost
  have hB0 := (Below.refl w.heap.size w).alloc (Nat.le_refl _) (Obj.cells #[.int .i64 n, .int .i64 lb, .int .i64 s0, .slice a es.length c] 24)
  have hbx := heap_alloc_new w (Obj.cells #[.int .i64 n, .int .i64 lb, .int .i64 s0, .slice a es.length c] 24)
  have HA := hid (above_any (c := c) h hn3 (hG.below hB0) (hT.below hB0) (hS.below hB0 (Nat.le_refl _)))
  have HB0 := hid hB0; have HT0 := hid hT; have HBX := hid hbx
  have hmk := run_make_row' (P := Tryz.prog) 50 3 (.int .i64 0) 8 Tryz.underlying50 (by kernel_rfl) rfl .i64 .i64 n (by omega) (by omega)
  clear hB0 hbx hS hG hT h
  go_enter Tryz.func11, Tryz.ntmps11
  go_wp2_with fail
  refine HA.out.mono ?_
  rintro e w1 ⟨ob, R, rfl, hR, hblk, hob, hgt, hB1⟩
  have hx1 := (hB1.block w.heap.size (by simp)).trans HBX.out
  have x0 : w1.cell? ⟨w.heap.size, 0, none⟩ = some (.int .i64 n) := by simp [World.cell?, hx1]
  have xl := (Array.getElem?_eq_some_iff.1 hx1).1
  have HB1 := hid (HB0.out.trans (hB1.mono (by simp)))
  have hq0 : SQ w1 (w1.alloc (.cells (madeCells #[.int .i64 0] n) 3)) n (fun j => if j < 0 then (clsN R j : Int) else 0) := by
    refine ⟨?_, (Below.refl _ _).alloc (Nat.le_refl _) _⟩
    exact (rowS_of_heap (heap_alloc_new w1 _)).congr (fun j _ => by simp)
  have HQ0 := hid hq0; have HGT := hid hgt; have HR := hid hR
  have obl := hblk.lt
  clear hB1 hx1 hR hgt hblk HA HBX HB0 hq0
  go_wp2_with fail
  go_loopw [7, 9, 23] (fun _ _ v23 wr => ∃ k : Nat, v23 = .int .i64 k ∧ k ≤ n ∧ SQ w1 wr n (fun j => if j < k then (clsN R j : Int) else 0)) (fun _ _ v23 _ => n - (intOf v23).toNat)
  case atStart => exact ⟨0, rfl, Nat.zero_le _, HQ0.out⟩
  case round =>
    obtain ⟨k, rfl, hk, hq⟩ := hrel
    have HQ := hid hq
    have hsz := hq.bel.size
    clear hq HQ0
    by_cases hlt : k < n
    · have hkI : (k : Int) < (n : Int) := by omega
      have hrr := HR.out.below HQ.out.bel
      have HID := hid (ids_any (hrr.row k hlt) (HT0.out.below (HB1.out.trans (HQ.out.bel.mono HB1.out.size))))
      obtain ⟨L, hL⟩ : ∃ L, L = idsN (R k) 320 := ⟨_, rfl⟩
      have hLl : L.length ≤ 320 := by rw [hL]; exact idsN_le _ _
      clear hrr
      go_wp2_with fail
      refine HID.out.mono ?_
      unfold IdsPost
      rw [← hL]
      rintro e wa ⟨v, rfl, hown, hBa⟩
      obtain ⟨ia, ic, ib, rfl, _, _, hsl, hib⟩ := slAt_own lenI hown
      rw [intsOf_len] at hib ⊢
      have HSL := hid hsl; have HQA := hid (HQ.out.call hBa); have HL := hid hL
      have hza := HQA.out.bel.size
      have hqb := HQA.out.rows.lt
      have hqf := HQA.out.rows.frozen k
      have hqc := HQA.out.rows.cell hlt
      clear hown hBa hsl hib hL HID HQ
      go_wp2_with fail
      obtain ⟨wz, hwz⟩ : ∃ wz, wz = wa := ⟨_, rfl⟩
      subst hwz
      go_loopw [9, 31] (fun _ v31 wr => ∃ m : Nat, v31 = .int .i64 m ∧ m ≤ L.length ∧ (∀ j i, j < m → L[j]? = some i → R i k = false) ∧ wr = wz) (fun _ v31 _ => L.length - (intOf v31).toNat)
      case atStart => exact ⟨0, rfl, Nat.zero_le _, fun j i hj => by omega, rfl⟩
      case round =>
        obtain ⟨m, rfl, hm, hno, rfl⟩ := hrel
        have HNO := hid hno
        clear hno
        by_cases hmL : m < L.length
        · obtain ⟨i, hi⟩ := getElem?_of_lt hmL
          have hsl := HSL.out
          have hil : 0 < (intsOf L).length := by rw [intsOf_len]; omega
          obtain rfl := hsl.ad hil
          have c0 := hsl.ci (intsOf_at hi)
          have cl := hsl.lt hil
          simp only [Nat.zero_add] at c0
          have hin : i < n := HGT.out.left.rng k i hlt (by have := List.mem_of_getElem? hi; rw [HL.out] at this; unfold idsN at this; exact (List.mem_filter.1 this).2)
          have hmI : (m : Int) < (L.length : Int) := by omega
          have hiI : (i : Int) < (n : Int) := by omega
          have HI := hid hi
          have HH := hid (has_any ((HR.out.below HQA.out.bel).row i hin) (show k < 320 by omega))
          clear hsl hil hi
          go_wp2_with fail
          refine HH.out.mono ?_
          rintro e w5 ⟨rfl, rfl⟩
          obtain ⟨d, hd⟩ : ∃ d, d = R i k := ⟨_, rfl⟩
          rw [← hd]
          have HDD := hid hd
          clear hd HH
          cases d
          · have hno : ∀ j i' : Nat, j < m + 1 → L[j]? = some i' → R i' k = false := fun j i' hj hi' => by
              by_cases e : j = m
              · subst e; have := HI.out; rw [hi'] at this; cases this; exact HDD.out.symm
              · exact HNO.out j i' (by omega) hi'
            have HNO2 := hid hno
            clear hno HNO HDD
            go_wp2_with fail
            go_roundw
            case rel => exact ⟨m + 1, by go_num, by omega, HNO2.out, by trivial⟩
            case measure => simp [intOf]; omega
          · have hcl : clsN R k = i := clsN_at (m := m) (fun j i' hj hi' => HNO.out j i' hj (by rw [HL.out]; exact hi')) (by rw [← HL.out]; exact HI.out) HDD.out.symm
            have hqs : SQ w1 (wr.setCell ⟨w1.heap.size, k, none⟩ (.int .i64 i)) n (fun j => if j < k + 1 then (clsN R j : Int) else 0) := (HQA.out.set k i).congr (fun j _ => by
              by_cases e : j = k
              · subst e; simp [hcl]
              · by_cases e2 : j < k
                · rw [if_neg e, if_pos e2, if_pos (by omega)]
                · rw [if_neg e, if_neg e2, if_neg (by omega)])
            have HQS := hid hqs
            clear hqs hcl HNO HDD
            go_wp2_with fail
            go_roundw
            case rel => exact ⟨k + 1, by go_num, by omega, HQS.out⟩
            case measure => simp [intOf]; omega
        · obtain rfl : m = L.length := by omega
          have hcl : clsN R k = 0 := clsN_none (fun j i' hj => by
            rw [← HL.out] at hj
            exact HNO.out j i' (List.getElem?_eq_some_iff.1 hj).1 hj)
          have hqs : SQ w1 wr n (fun j => if j < k + 1 then (clsN R j : Int) else 0) := HQA.out.congr (fun j _ => by
            by_cases e : j = k
            · subst e; simp [hcl]
            · by_cases e2 : j < k
              · rw [if_pos e2, if_pos (by omega)]
              · rw [if_neg e2, if_neg (by omega)])
          have HQS := hid hqs
          clear hqs hcl HNO
          go_wp2_with fail
          go_roundw
          case rel => exact ⟨k + 1, by go_num, by omega, HQS.out⟩
          case measure => simp [intOf]; omega
    · obtain rfl : n = k := by omega
      have hq : SQ w1 wr n (fun j => (clsN R j : Int)) := HQ.out.congr (fun j hj => by rw [if_pos hj])
      have hsl : SlAt encI 1 wr (some ⟨w1.heap.size, 0, none⟩) w1.heap.size 0 (fl n (fun j => (clsN R j : Int))) := slAt_rowS hq.rows
      have hca := canon_any (c := n) hsl (by rw [fl_len]; omega) (fun x hx => by
        obtain ⟨i, hi, rfl⟩ := List.mem_map.1 (show x ∈ (List.range n).map _ from hx)
        rw [List.mem_range] at hi
        have := clsN_lt HGT.out.left hi
        exact WalkArith.wf_i64 (by omega))
      rw [fl_len] at hca
      have HCA := hid hca
      have hbw := HB1.out.trans (hq.bel.mono HB1.out.size)
      have HBW := hid hbw
      clear hq hsl hca hbw
      go_wp2_with fail
      refine HCA.out.mono ?_
      rintro e w6 ⟨v, rfl, hown, hB6⟩
      have hown2 := own_mono hown HBW.out.size
      obtain ⟨va, vc, vb, rfl, _⟩ := slAt_own (xs := canon (fl n (fun j => (clsN R j : Int)))) lenI (by rw [canon_len, fl_len]; exact hown)
      rw [canon_len, fl_len] at hown2 ⊢
      have HO := hid hown2
      have HBF := hid (HBW.out.trans (hB6.mono HBW.out.size))
      clear hown hown2 hB6
      go_wp2_with fail
      go_ret2
      exact ⟨R, _, rfl, HGT.out, HO.out, HBF.out⟩
end Go.Proofs.YtbaccmlfnbgehaaGreatDoor

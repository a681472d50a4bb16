/-
  simul: Below, Above, Classes.
  simul.Above: of every state the states above it, listed.
-/
import Derived.Test.YtfakdgljilmpkaaGreatDoorSimF
namespace Go.Proofs.YtfakdgljilmpkaaGreatDoor
open Go.RowKit Pl

set_option maxRecDepth 100000 in
set_option maxHeartbeats 4000000 in
theorem below_any {p0 : Addr} {n : Nat} {lb s0 : Int} {es : List E} (h : Lts.Right ⟨n, lb, s0, es⟩) (hn3 : n ≤ 300) {a : Option Addr} {b off c : Nat} {w : World} (hG : GErr 0 p0 w) (hT : Tab w) (hS : SlAt encE 3 w a b off es) {p q : Nat} (hp : p < n) (hq : q < n) :
    Calls Tryz.prog 38 #[.agg #[.int .i64 n, .int .i64 lb, .int .i64 s0, .slice a es.length c], .int .i64 p, .int .i64 q] w fun e w' =>
      ∃ R, e = .returned (.tuple #[.bool (R p q), .nilIface]) ∧ Great ⟨n, lb, s0, nf ltE es⟩ n R ∧ Below w.heap.size w w' := by
  have hB0 := (Below.refl w.heap.size w).alloc (Nat.le_refl _) (Obj.cells #[.int .i64 n, .int .i64 lb, .int .i64 s0, .slice a es.length c] 24)
  have hbx := heap_alloc_new w (Obj.cells #[.int .i64 n, .int .i64 lb, .int .i64 s0, .slice a es.length c] 24)
  have HA := Lib.hid (above_any (c := c) h hn3 (hG.below hB0) (hT.below hB0) (hS.below hB0 (Nat.le_refl _)))
  have HB0 := Lib.hid hB0; have HBX := Lib.hid hbx
  clear hB0 hbx hS hG hT h
  have d1 : decide ((p : Int) < 0) = false := by simp
  have d2 : decide ((q : Int) < 0) = false := by simp
  have d3 : decide ((n : Int) ≤ (p : Int)) = false := by simp; omega
  have d4 : decide ((n : Int) ≤ (q : Int)) = false := by simp; omega
  have hpI : (p : Int) < (n : Int) := by omega
  go_enter Tryz.func38, Tryz.ntmps38
  go_wp2_with fail
  refine HA.out.mono ?_
  rintro e w1 ⟨ob, R, rfl, hR, hblk, hob, hgt, hB1⟩
  have hx1 := (hB1.block w.heap.size (by simp)).trans HBX.out
  have x0 : w1.cell? ⟨w.heap.size, 0, none⟩ = some (.int .i64 n) := by simp [World.cell?, hx1]
  have xl := (Array.getElem?_eq_some_iff.1 hx1).1
  have HB1 := Lib.hid (HB0.out.trans (hB1.mono (by simp)))
  have HH := Lib.hid (has_any (hR.row p hp) (show q < 320 by omega))
  have HGT := Lib.hid hgt
  have obl := hblk.lt
  clear hB1 hx1 hR hgt hblk HA HBX HB0
  go_wp2_with fail
  refine HH.out.mono ?_
  rintro e w2 ⟨rfl, rfl⟩
  go_wp2_with fail
  go_ret2
  exact ⟨R, rfl, HGT.out, HB1.out⟩
end Go.Proofs.YtfakdgljilmpkaaGreatDoor

namespace Go.Proofs.YtfakdgljilmpkaaGreatDoor
open Go.RowKit Pl

theorem own_blockS {w w' : World} {base : Nat} {e : TypeId} {k n : Nat} {v : Value} {xs : List Value} (h : w.ownsRow base e k v n xs) (hb : ∀ g, v.ownBlock = some g → w'.heap[g]? = w.heap[g]?) : w'.ownsRow base e k v n xs := by
  refine ⟨h.1, ?_⟩
  rcases h.2 with h2 | ⟨g, cap, cur, hv, hbg, hg, r⟩
  · exact .inl h2
  · exact .inr ⟨g, cap, cur, hv, hbg, by rw [hb g (by rw [hv]; rfl)]; exact hg, r⟩

theorem rowII : IsRow Tryz.prog 26 33 1 24 (.slice none 0 0) := isRow_of Tryz.underlying26 (by kernel_rfl) rfl (by decide)

/-- The states above p, listed. -/
def upL (R : Nat → Nat → Bool) (p : Nat) : List Int := intsOf (idsN (R p) 320)

/-- Lists in memory, one of each of the first states; the rows of bits stand. -/
structure UpK (B : Nat) (w0 wr : World) (ob n : Nat) (R : Nat → Nat → Bool) (v : Value) (vs : List Value) : Prop where
  bel : Below B w0 wr
  rel : RelR wr ob n R
  blk : RowBlk wr ob
  own : wr.ownsRow B 33 1 v vs.length (vs.flatMap encV)
  rows : ∀ (j : Nat) (x : Value), vs[j]? = some x → wr.ownsRow B 3 1 x (upL R j).length ((upL R j).flatMap encI)
theorem UpK.call {B : Nat} {w0 wr w' : World} {ob n : Nat} {R : Nat → Nat → Bool} {v : Value} {vs : List Value} (h : UpK B w0 wr ob n R v vs) (hB0 : B ≤ wr.heap.size) (hB : Below wr.heap.size wr w') : UpK B w0 w' ob n R v vs :=
  ⟨h.bel.trans (hB.mono hB0), h.rel.below hB, h.blk.of_block (hB.block _ h.blk.lt), own_below h.own hB, fun j x hx => own_below (h.rows j x hx) hB⟩
theorem own_type {w : World} {base : Nat} {e : TypeId} {k n : Nat} {v : Value} {xs : List Value} (h : w.ownsRow base e k v n xs) {g : Nat} (hg : v.ownBlock = some g) : ∃ cur, w.heap[g]? = some (.cells cur e (0, 0)) := by
  rcases h.2 with ⟨rfl, _⟩ | ⟨g2, cap, cur, rfl, _, hgg, _⟩
  · cases hg
  · simp only [Value.ownBlock, Option.some.injEq] at hg; subst hg; exact ⟨cur, hgg⟩
theorem own_ne {w : World} {base base2 : Nat} {e e2 : TypeId} {k k2 n n2 : Nat} {v v2 : Value} {xs xs2 : List Value} (h : w.ownsRow base e k v n xs) (h2 : w.ownsRow base2 e2 k2 v2 n2 xs2) (hne : e ≠ e2) {g : Nat} (hg : v.ownBlock = some g) : v2.ownBlock ≠ some g := fun hg2 => by
  obtain ⟨c1, e1⟩ := own_type h hg
  obtain ⟨c2, e3⟩ := own_type h2 hg2
  rw [e1] at e3
  injection e3 with e3; injection e3 with _ e3; exact hne e3
theorem UpK.push {B : Nat} {w0 wr w' : World} {ob n : Nat} {R : Nat → Nat → Bool} {v v' x : Value} {vs : List Value} (h : UpK B w0 wr ob n R v vs) (hB0 : B ≤ wr.heap.size) (hx : wr.ownsRow B 3 1 x (upL R vs.length).length ((upL R vs.length).flatMap encI))
    (hown : w'.ownsRow B 33 1 v' (vs.length + 1) (vs.flatMap encV ++ [x])) (hg : wr.grownBy w' v.ownBlock) : UpK B w0 w' ob n R v' (vs ++ [x]) := by
  have hblk : ∀ b, b < wr.heap.size → v.ownBlock ≠ some b → w'.heap[b]? = wr.heap[b]? := fun b h1 h2 => hg.block b h1 (fun e => h2 e.symm)
  have hrow : ∀ {y : Value} {L : List Int}, wr.ownsRow B 3 1 y L.length (L.flatMap encI) → w'.ownsRow B 3 1 y L.length (L.flatMap encI) := fun {y L} hy =>
    own_blockS hy (fun g hg2 => hblk g (Array.getElem?_eq_some_iff.1 (own_type hy hg2).choose_spec).1 (own_ne hy h.own (by decide) hg2))
  have hob : v.ownBlock ≠ some ob := fun e => by
    obtain ⟨c1, e1⟩ := own_type h.own e
    obtain ⟨c2, e2⟩ := h.blk
    rw [e1] at e2; injection e2 with e2; injection e2 with _ e2; exact absurd e2 (by decide)
  have hb := hblk ob h.blk.lt hob
  refine ⟨h.bel.grown hg hB0 (fun k e => (h.own.lt k e).1), ⟨fun p hp => (h.rel.row p hp).of_block hb⟩, h.blk.of_block hb, ?_, fun j y hy => ?_⟩
  · rw [List.flatMap_append, List.length_append]; exact hown
  · rcases Nat.lt_or_ge j vs.length with hj | hj
    · rw [List.getElem?_append_left hj] at hy
      exact hrow (h.rows j y hy)
    · have hq2 : j = vs.length := by have := (List.getElem?_eq_some_iff.1 hy).1; simp at this; omega
      subst hq2
      simp at hy
      subst hy
      exact hrow hx

theorem copyRow {w : World} {F : Nat → Bool} {T : TypeId} : RowAt (w.alloc (.cells #[.int .u64 (wj F 0 : Nat), .int .u64 (wj F 1 : Nat), .int .u64 (wj F 2 : Nat), .int .u64 (wj F 3 : Nat), .int .u64 (wj F 4 : Nat)] T)) w.heap.size 0 F := fun j hj => by
  have hj' : j = 0 ∨ j = 1 ∨ j = 2 ∨ j = 3 ∨ j = 4 := by omega
  rcases hj' with rfl | rfl | rfl | rfl | rfl <;> simp [go_sem]

/-- What Above answers. -/
def UpPost (s : Lts) (n : Nat) (w : World) (e : Ending) (w' : World) : Prop :=
  ∃ (R : Nat → Nat → Bool) (v : Value) (vs : List Value), e = .returned (.tuple #[v, .nilIface]) ∧ Great s n R ∧ vs.length = n ∧ w'.ownsRow w.heap.size 33 1 v vs.length (vs.flatMap encV) ∧
    (∀ (j : Nat) (x : Value), vs[j]? = some x → w'.ownsRow w.heap.size 3 1 x (upL R j).length ((upL R j).flatMap encI)) ∧ Below w.heap.size w w'

set_option maxRecDepth 100000 in
set_option maxHeartbeats 4000000 in
theorem aboveL_any {p0 : Addr} {n : Nat} {lb s0 : Int} {es : List E} (h : Lts.Right ⟨n, lb, s0, es⟩) (hn3 : n ≤ 300) {a : Option Addr} {b off c : Nat} {w : World} (hG : GErr 0 p0 w) (hT : Tab w) (hS : SlAt encE 3 w a b off es) :
    Calls Tryz.prog 41 #[.agg #[.int .i64 n, .int .i64 lb, .int .i64 s0, .slice a es.length c]] w (UpPost ⟨n, lb, s0, nf ltE es⟩ n w) := by
  unfold UpPost
  have hB0 := (Below.refl w.heap.size w).alloc (Nat.le_refl _) (Obj.cells #[.int .i64 n, .int .i64 lb, .int .i64 s0, .slice a es.length c] 24)
  have HA := Lib.hid (above_any (c := c) h hn3 (hG.below hB0) (hT.below hB0) (hS.below hB0 (Nat.le_refl _)))
  have HB0 := Lib.hid hB0; have HT0 := Lib.hid hT
  clear hB0 hS hG hT h
  go_enter Tryz.func41, Tryz.ntmps41
  go_wp2_with fail
  refine HA.out.mono ?_
  rintro e w1 ⟨ob, R, rfl, hR, hblk, hob, hgt, hB1⟩
  have HGT := Lib.hid hgt
  have hup : UpK w.heap.size w w1 ob n R (.slice none 0 0) [] := ⟨HB0.out.trans (hB1.mono (by simp)), hR, hblk, ⟨by simp, .inl ⟨rfl, rfl⟩⟩, by simp⟩
  have HUP := Lib.hid hup
  have hs1 := hup.bel.size
  clear hB1 hR hgt hblk HA HB0 hup
  go_wp2_with fail
  go_loopw [6, 8, 19] (fun v6 _ v19 wr => ∃ (k : Nat) (vs : List Value), v19 = .int .i64 k ∧ k ≤ n ∧ vs.length = k ∧ UpK w.heap.size w wr ob n R v6 vs ) (fun _ _ v19 _ => n - (intOf v19).toNat)
  case atStart => exact ⟨0, [], rfl, Nat.zero_le _, rfl, HUP.out⟩
  case round =>
    obtain ⟨k, vs, rfl, hk, hvl, hup⟩ := hrel
    have HU := Lib.hid hup; have HVL := Lib.hid hvl
    have hsz := hup.bel.size
    have obl := hup.blk.lt
    clear hup hvl HUP
    by_cases hlt : k < n
    · have hkI : (k : Int) < (n : Int) := by omega
      have r0 := HU.out.rel.row k hlt 0 (by omega)
      have r1 := HU.out.rel.row k hlt 1 (by omega)
      have r2 := HU.out.rel.row k hlt 2 (by omega)
      have r3 := HU.out.rel.row k hlt 3 (by omega)
      have r4 := HU.out.rel.row k hlt 4 (by omega)
      simp only [Nat.add_zero] at r0
      go_wp2_with fail
      refine (ids_any copyRow ((HT0.out.below HU.out.bel).below ((Below.refl wr.heap.size wr).alloc (Nat.le_refl _) _))).mono ?_
      unfold IdsPost
      rintro e w5 ⟨v, rfl, hown, hB5⟩
      have hB5' : Below wr.heap.size wr w5 := ((Below.refl wr.heap.size wr).alloc (Nat.le_refl _) _).trans (hB5.mono (by simp))
      have hu5 := HU.out.call hsz hB5'
      have hs5 := hB5'.size
      have hl : (intsOf (idsN (R k) 320)) = upL R k := rfl
      rw [hl] at hown
      have hown2 := own_mono hown (show w.heap.size ≤ _ by simp; omega)
      obtain ⟨ia, ic, ib, rfl, _, _, _, _⟩ := slAt_own lenI hown
      have HO5 := Lib.hid hown2; have HU5 := Lib.hid hu5
      have hul : (upL R k).length ≤ 320 := by unfold upL; rw [intsOf_len]; exact idsN_le _ _
      obtain ⟨ul, hul2⟩ : ∃ ul, ul = (upL R k).length := ⟨_, rfl⟩
      rw [← hul2] at hul ⊢
      have HUL := Lib.hid hul2
      clear hown hown2 hB5 hB5' hu5 hl r0 r1 r2 r3 r4 HU hul2
      go_wp2_with (at_builtin; refine wpList_lies rfl _ _ 26 rfl rowII (base := w.heap.size) (by simp; omega) rfl (own_below HU5.out.own ((Below.refl w5.heap.size w5).alloc (Nat.le_refl _) _)) ⟨w5.heap.size, 0, none⟩ 1 1 [.slice ia ul ic] rfl rfl (cells1 (by simp [go_sem])) (by simp [Value.oneCell']) (by omega) (by rw [HVL.out]; omega) (by unfold maxLen; rw [HVL.out]; omega) _ rfl ?_; intro g cap w6 hown6 hg6 _ _)
      have hba := (Below.refl w5.heap.size w5).alloc (Nat.le_refl _) (.cells #[.slice ia ul ic] 33)
      have hnx := (HU5.out.call (by omega) hba).push (x := .slice ia ul ic) (v' := .slice (some ⟨g, 0, none⟩) (vs.length + 1) cap) (by simp; omega) (by rw [HVL.out]; exact own_below (by have := HO5.out; rw [← HUL.out] at this ⊢; exact this) hba) hown6 hg6
      have HNX := Lib.hid hnx
      clear hnx hown6 hg6 HU5 HO5 hba
      go_roundw
      case rel => exact ⟨k + 1, vs ++ [.slice ia ul ic], by go_num, by omega, by simp [HVL.out], HNX.out⟩
      case measure => simp [intOf]; omega
    · obtain rfl : n = k := by omega
      have hown := HU.out.own
      obtain ⟨va, vc, vb, rfl, _, _, _, _⟩ := slAt_own lenV hown
      clear hown
      go_wp2_with fail
      go_ret2
      exact ⟨R, _, vs, rfl, HGT.out, HVL.out, HU.out.own, HU.out.rows, HU.out.bel⟩
end Go.Proofs.YtfakdgljilmpkaaGreatDoor

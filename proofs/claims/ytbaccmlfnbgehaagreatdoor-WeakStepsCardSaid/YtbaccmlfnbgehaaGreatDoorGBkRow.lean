/-
  Lemmas.
-/
import Derived.Test.YtbaccmlfnbgehaaGreatDoorGBkEa
import Derived.Test.YtbaccmlfnbgehaaGreatDoorGWkQ
import Derived.Test.YtbaccmlfnbgehaaGreatDoorGTold
import Derived.Deep.RegionHeldLaw
import Derived.Deep.QuietTactic
import Derived.BigQuiet
import Derived.Test.YtbaccmlfnbgehaaGreatDoorRfSat
set_option maxHeartbeats 4000000
set_option maxRecDepth 100000
open Nat renaming le_refl → l1, zero_le → l8, eq_or_lt_of_le → m3, lt_or_ge → m7
open List renaming mem_cons_of_mem → l3, mem_range → l4, getElem?_append_left → l6, getElem?_eq_some_iff → l7, getElem?_take → l9, range → m0, drop_eq_nil_of_le → m1, getElem?_eq_none → m2, mem_map → m4, mem_cons_self → m5, mem_singleton → m6, nil_append → m8
open Array renaming getElem?_eq_some_iff → l5
open Go.Proofs.Tryz
namespace Go.Proofs.YtbaccmlfnbgehaaGreatDoor
open Go.RowKit Pl
open Lib (hid)
def wRowsI (n : Nat) (vs : Nat -> Value) (f : Nat -> List Int) : List Rw := (m0 n).map (fun p => ⟨3, 1, vs p, (f p).length, (f p).flatMap encI⟩)
def wOuterI (tb n : Nat) (vs : Nat -> Value) : Rw := ⟨50, 1, .slice (some ⟨tb, 0, none⟩) n n, n, (m0 n).map vs⟩
theorem z0p {n : Nat} {vs : Nat -> Value} {f : Nat -> List Int} {i : Nat} (hi : i < n) : (wRowsI n vs f).drop i = ⟨3, 1, vs i, (f i).length, (f i).flatMap encI⟩ :: (wRowsI n vs f).drop (i + 1) := by
 unfold wRowsI
 rw [List.drop_eq_getElem_cons (by simpa using hi)]
 simp
theorem Bk.row {w0 w : World} {bb tb n : Nat} {Z R : List Rw} {vs : Nat -> Value} {f : Nat -> List Int} (h : Bk w0 w bb Z (wRowsI n vs f ++ wOuterI tb n vs :: R)) (hn : n <= 100000) (hf : ∀ p, p < n -> (f p).length <= 500000) :
    Calls prog 17 #[.pointer (some ⟨bb, 0, none⟩), .slice (some ⟨tb, 0, none⟩) n n] w fun e w' => e = .returned (.tuple #[]) /\ ∃ Z', Bk w0 w' bb Z' R /\ ∀ z ∈ Z, z ∈ Z' := by
 have HBK := hid h; have HF := hid hf
 clear h hf
 go_enter func17, ntmps17
 go_wp2_with fail
 go_loopw [4] (fun v4 wr => ∃ (i : Nat) (Zi : List Rw), v4 = .int .i64 i /\ i <= n /\ Bk w0 wr bb Zi ((wRowsI n vs f).drop i ++ wOuterI tb n vs :: R) /\ (∀ z ∈ Z, z ∈ Zi) /\ (∀ j, j < i -> (⟨3, 1, vs j, (f j).length, (f j).flatMap encI⟩ : Rw) ∈ Zi)) (fun v4 _ => n - (intOf v4).toNat)
 case atStart => exact ⟨0, Z, rfl, l8 _, by simpa using HBK.out, fun z hz => hz, fun j hj => by omega⟩
 case round => (
 obtain ⟨i, Zi, rfl, hi, hbk, hz, hj⟩ := hrel
 replace HBK := hid hbk; have HZ := hid hz; have HJ := hid hj
 clear hz hj
 by_cases hin : i < n
 · (
 have hiI : (i : Int) < (n : Int) := by omega
 have ho := hbk.own (r := wOuterI tb n vs) (.inr (by simp))
 obtain ⟨a1, c1, hv1, hc1⟩ : ∃ g cur, (some (⟨tb, 0, none⟩ : Addr) = some ⟨g, 0, none⟩ /\ wr.heap[g]? = some (.cells cur 50 (0, 0))) /\ (cur.toList.take (n * 1)) = (m0 n).map vs := by (
 rcases ho.2 with ⟨e, _⟩ | ⟨g, cap, cur, e, _, hh, _, _, _, ht⟩
 · simp [wOuterI] at e
 · simp only [wOuterI, Value.slice.injEq] at e
   exact ⟨g, cur, ⟨e.1, hh⟩, by simpa [wOuterI] using ht⟩)
 have hg : a1 = tb := by have := hv1.1; simp at this; exact this.symm
 subst hg
 have c0 : wr.cell? ⟨a1, i, none⟩ = some (vs i) := by (
 have h2 : c1[i]? = some (vs i) := by (
 have h3 : (c1.toList.take (n * 1))[i]? = some (vs i) := by rw [hc1]; simp [hin]
 rw [l9, if_pos (by omega)] at h3
 simpa using h3)
 simp [World.cell?, hv1.2, h2])
 have cl := (l5.1 hv1.2).1
 rw [z0p hin] at hbk
 replace HBK := hid hbk
 clear ho hv1 hc1 hbk
 go_wp2_with fail
 refine (Bk.giveI (R := (wRowsI n vs f).drop (i + 1) ++ wOuterI a1 n vs :: R) HBK.out rfl rfl (HF.out i hin)).mono ?_
 rintro e w2 ⟨rfl, hbk⟩
 replace HBK := hid hbk
 clear hbk c0 cl
 go_wp2_with fail
 go_roundw
 case rel => exact ⟨i + 1, _, by go_num, by omega, HBK.out, fun z hz => l3 _ (HZ.out z hz), fun j hj => by (
 rcases m3 (show j <= i by omega) with e | e
 · subst e; exact m5 ..
 · exact l3 _ (HJ.out j e))⟩
 case measure => simp [intOf]; omega)
 · (
 obtain rfl : n = i := by omega
 have hdr : (wRowsI n vs f).drop n = [] := m1 (by unfold wRowsI; simp)
 rw [hdr, m8] at hbk
 have hgv := Bk.giveN (R := R) hbk (by omega) (fun x hx => by (
 obtain ⟨j, hj, rfl⟩ := m4.1 hx
 have hjn := l4.1 hj
 exact ⟨_, HJ.out j hjn, rfl, rfl, rfl, f j, HF.out j hjn, rfl, rfl⟩))
 have HGV := hid hgv
 clear hdr hgv hbk
 go_wp2_with fail
 refine HGV.out.mono ?_
 rintro e w2 ⟨rfl, hbk⟩
 have HB2 := hid hbk
 clear hbk
 go_wp2_with fail
 first
   | (go_end0; exact ⟨rfl, _, HB2.out, fun z hz => l3 _ (HZ.out z hz)⟩)
   | (refine bodyPost_end0 ?_; exact ⟨rfl, _, HB2.out, fun z hz => l3 _ (HZ.out z hz)⟩)))
end Go.Proofs.YtbaccmlfnbgehaaGreatDoor
namespace Go.Proofs.YtbaccmlfnbgehaaGreatDoor
open Go.RowKit Pl
open Lib (hid)
def wOuterV (oa : Option Addr) (oc n : Nat) (vs : Nat -> Value) : Rw := ⟨50, 1, .slice oa n oc, n, (m0 n).map vs⟩
theorem Bk.rowV {w0 w : World} {bb n : Nat} {oa : Option Addr} {oc : Nat} {Z R : List Rw} {vs : Nat -> Value} {f : Nat -> List Int} (h : Bk w0 w bb Z (wRowsI n vs f ++ wOuterV oa oc n vs :: R)) (hn : n <= 100000) (hf : ∀ p, p < n -> (f p).length <= 500000) :
    Calls prog 17 #[.pointer (some ⟨bb, 0, none⟩), .slice oa n oc] w fun e w' => e = .returned (.tuple #[]) /\ ∃ Z', Bk w0 w' bb Z' R /\ ∀ z ∈ Z, z ∈ Z' := by
 have HBK := hid h; have HF := hid hf
 clear h hf
 go_enter func17, ntmps17
 go_wp2_with fail
 go_loopw [4] (fun v4 wr => ∃ (i : Nat) (Zi : List Rw), v4 = .int .i64 i /\ i <= n /\ Bk w0 wr bb Zi ((wRowsI n vs f).drop i ++ wOuterV oa oc n vs :: R) /\ (∀ z ∈ Z, z ∈ Zi) /\ (∀ j, j < i -> (⟨3, 1, vs j, (f j).length, (f j).flatMap encI⟩ : Rw) ∈ Zi)) (fun v4 _ => n - (intOf v4).toNat)
 case atStart => exact ⟨0, Z, rfl, l8 _, by simpa using HBK.out, fun z hz => hz, fun j hj => by omega⟩
 case round => (
 obtain ⟨i, Zi, rfl, hi, hbk, hz, hj⟩ := hrel
 replace HBK := hid hbk; have HZ := hid hz; have HJ := hid hj
 clear hz hj
 by_cases hin : i < n
 · (
 have hiI : (i : Int) < (n : Int) := by omega
 have ho := hbk.own (r := wOuterV oa oc n vs) (.inr (by simp))
 obtain ⟨a1, c1, hv1, hc1⟩ : ∃ g cur, (oa = some ⟨g, 0, none⟩ /\ wr.heap[g]? = some (.cells cur 50 (0, 0))) /\ (cur.toList.take (n * 1)) = (m0 n).map vs := by (
 rcases ho.2 with ⟨e, _⟩ | ⟨g, cap, cur, e, _, hh, _, _, _, ht⟩
 · simp only [wOuterV, Value.slice.injEq] at e
   omega
 · simp only [wOuterV, Value.slice.injEq] at e
   exact ⟨g, cur, ⟨e.1, hh⟩, by simpa [wOuterV] using ht⟩)
 obtain rfl := hv1.1
 have c0 : wr.cell? ⟨a1, i, none⟩ = some (vs i) := by (
 have h2 : c1[i]? = some (vs i) := by (
 have h3 : (c1.toList.take (n * 1))[i]? = some (vs i) := by rw [hc1]; simp [hin]
 rw [l9, if_pos (by omega)] at h3
 simpa using h3)
 simp [World.cell?, hv1.2, h2])
 have cl := (l5.1 hv1.2).1
 rw [z0p hin] at hbk
 replace HBK := hid hbk
 clear ho hv1 hc1 hbk
 go_wp2_with fail
 refine (Bk.giveI (R := (wRowsI n vs f).drop (i + 1) ++ wOuterV (some ⟨a1, 0, none⟩) oc n vs :: R) HBK.out rfl rfl (HF.out i hin)).mono ?_
 rintro e w2 ⟨rfl, hbk⟩
 replace HBK := hid hbk
 clear hbk c0 cl
 go_wp2_with fail
 go_roundw
 case rel => exact ⟨i + 1, _, by go_num, by omega, HBK.out, fun z hz => l3 _ (HZ.out z hz), fun j hj => by (
 rcases m3 (show j <= i by omega) with e | e
 · subst e; exact m5 ..
 · exact l3 _ (HJ.out j e))⟩
 case measure => simp [intOf]; omega)
 · (
 obtain rfl : n = i := by omega
 have hdr : (wRowsI n vs f).drop n = [] := m1 (by unfold wRowsI; simp)
 rw [hdr, m8] at hbk
 have hgv := Bk.giveN (R := R) hbk (by omega) (fun x hx => by (
 obtain ⟨j, hj, rfl⟩ := m4.1 hx
 have hjn := l4.1 hj
 exact ⟨_, HJ.out j hjn, rfl, rfl, rfl, f j, HF.out j hjn, rfl, rfl⟩))
 have HGV := hid hgv
 clear hdr hgv hbk
 go_wp2_with fail
 refine HGV.out.mono ?_
 rintro e w2 ⟨rfl, hbk⟩
 have HB2 := hid hbk
 clear hbk
 go_wp2_with fail
 first
   | (go_end0; exact ⟨rfl, _, HB2.out, fun z hz => l3 _ (HZ.out z hz)⟩)
   | (refine bodyPost_end0 ?_; exact ⟨rfl, _, HB2.out, fun z hz => l3 _ (HZ.out z hz)⟩)))
end Go.Proofs.YtbaccmlfnbgehaaGreatDoor
namespace Go.Proofs.YtbaccmlfnbgehaaGreatDoor
open Go.RowKit Pl
open Lib (hid)
theorem k3k : IsRow prog 34 50 1 24 (.slice none 0 0) := k0h underlying34 (by kernel_rfl) rfl (by decide)
structure LsK (B : Nat) (w0 wr : World) (Lf : Nat -> List Int) (v : Value) (vs : List Value) : Prop where
  bel : Below B w0 wr
  own : wr.ownsRow B 50 1 v vs.length (vs.flatMap encV)
  rows : ∀ (j : Nat) (x : Value), vs[j]? = some x -> wr.ownsRow B 3 1 x (Lf j).length ((Lf j).flatMap encI)
  apart : ∀ (i j : Nat) (x y : Value) (g : Nat), i < j -> vs[i]? = some x -> vs[j]? = some y -> x.ownBlock = some g -> y.ownBlock ≠ some g
theorem LsK.call {B : Nat} {w0 wr w' : World} {Lf : Nat -> List Int} {v : Value} {vs : List Value} (h : LsK B w0 wr Lf v vs) (hB0 : B <= wr.heap.size) (hB : Below wr.heap.size wr w') : LsK B w0 w' Lf v vs :=
  ⟨h.bel.trans (hB.mono hB0), own_below h.own hB, fun j x hx => own_below (h.rows j x hx) hB, h.apart⟩
theorem LsK.push {B : Nat} {w0 wr w' : World} {Lf : Nat -> List Int} {v v' x : Value} {vs : List Value} (h : LsK B w0 wr Lf v vs) (hB0 : B <= wr.heap.size) (hx : wr.ownsRow B 3 1 x (Lf vs.length).length ((Lf vs.length).flatMap encI))
    (hown : w'.ownsRow B 50 1 v' (vs.length + 1) (vs.flatMap encV ++ [x])) (hg : wr.grownBy w' v.ownBlock) (hnew : ∀ (j : Nat) (y : Value) (g : Nat), vs[j]? = some y -> y.ownBlock = some g -> x.ownBlock ≠ some g) : LsK B w0 w' Lf v' (vs ++ [x]) := by
 have hrow : ∀ {y : Value} {L : List Int}, wr.ownsRow B 3 1 y L.length (L.flatMap encI) -> w'.ownsRow B 3 1 y L.length (L.flatMap encI) := fun {y L} hy =>
   k0v hy (fun g hg2 => hg.block g (hy.lt g hg2).2 (v0b hy h.own (by decide) hg2))
 refine ⟨h.bel.grown hg hB0 (fun k e => (h.own.lt k e).1), ?_, fun j y hy => ?_, fun i j x' y' g' hij hi hj => ?_⟩
 · rw [List.flatMap_append, List.length_append]; exact hown
 · (
 rcases m7 j vs.length with hj | hj
 · rw [l6 hj] at hy
   exact hrow (h.rows j y hy)
 · have hq2 : j = vs.length := by have := (l7.1 hy).1; simp at this; omega
   subst hq2
   simp at hy
   subst hy
   exact hrow hx)
 · (
 have hil : i < vs.length := by have := (l7.1 hj).1; simp at this; omega
 rw [l6 hil] at hi
 rcases m7 j vs.length with hj2 | hj2
 · rw [l6 hj2] at hj
   exact h.apart i j x' y' g' hij hi hj
 · have hq2 : j = vs.length := by have := (l7.1 hj).1; simp at this; omega
   subst hq2
   simp at hj
   subst hj
   exact fun hg' => hnew i x' g' hi hg')
def SilPostA (s : Lts) (n : Nat) (w : World) (e : Ending) (w' : World) : Prop :=
  ∃ (F : Nat -> Nat -> Bool) (v : Value) (vs : List Value), e = .returned (.tuple #[v, .nilIface]) /\ (∀ p, p < n -> ∀ x, F p x = true ↔ TR s p x) /\ vs.length = n /\ w'.ownsRow w.heap.size 50 1 v vs.length (vs.flatMap encV) /\
    (∀ (j : Nat) (x : Value), vs[j]? = some x -> w'.ownsRow w.heap.size 3 1 x (intsOf (idsN (F j) n)).length ((intsOf (idsN (F j) n)).flatMap encI)) /\ Below w.heap.size w w' /\
    (∀ (i j : Nat) (x y : Value) (g : Nat), i < j -> vs[i]? = some x -> vs[j]? = some y -> x.ownBlock = some g -> y.ownBlock ≠ some g)
theorem z0n {p : Addr} {s : Lts} {n : Nat} (hr : s.Right) (hn : s.st = (n : Int)) (h300 : n <= 300) {a : Option Addr} {b off c : Nat} {w : World} (hG : WkErr p w) (hT : Tab w) (hS : SlAt encE 3 w a b off s.es) :
    Calls prog 26 #[.agg #[.int .i64 s.st, .int .i64 s.lb, .int .i64 s.s0, .slice a s.es.length c]] w (SilPostA s n w) := by
 unfold SilPostA
 have hB0 := (Below.refl w.heap.size w).alloc (l1 _) (Obj.cells #[.int .i64 s.st, .int .i64 s.lb, .int .i64 s.s0, .slice a s.es.length c] 24)
 have HA := hid (v0p (c := c) hr hn h300 (hG.below hB0) (hS.below hB0 (l1 _)))
 have HB0 := hid hB0; have HT0 := hid hT; have HR := hid hr; have HN := hid hn
 clear hB0 hS hG hT hr hn
 go_enter func26, ntmps26
 go_wp2_with fail
 refine HA.out.mono ?_
 rintro e w1 ⟨xb, gb, sb, F, rfl, hX, hxb, hB1⟩
 have hb1 := HB0.out.trans (hB1.mono (by simp))
 obtain ⟨x0, x1, x2⟩ := hX.cells
 have HF : Hid (∀ p, p < n -> ∀ x, F p x = true -> x < n) := hid (fun p hp x hx => ((hX.tr p hp x).1 hx).ltW HR.out HN.out hp)
 have hup : LsK w1.heap.size w1 w1 (fun j => intsOf (idsN (F j) n)) (.slice none 0 0) [] := ⟨Below.refl _ _, ⟨by simp, .inl ⟨rfl, rfl⟩⟩, by simp, by simp⟩
 have HUP := hid hup; have HX := hid hX; have HB1 := hid hb1
 have hs1 := hb1.size
 have hwd := p0g (show n <= 1000 by omega)
 obtain ⟨WD, hWD⟩ : ∃ WD, WD = wds n := ⟨_, rfl⟩
 rw [<- hWD] at hwd
 have HWD := hid hWD
 clear hB1 hX hxb hb1 HA HB0 hup hWD
 go_wp2_with fail
 clear x0 x1 x2
 go_loopw [6, 8, 22] (fun v6 _ v22 wr => ∃ (k : Nat) (vs : List Value), v22 = .int .i64 k /\ k <= n /\ vs.length = k /\ LsK w1.heap.size w1 wr (fun j => intsOf (idsN (F j) n)) v6 vs) (fun _ _ v22 _ => n - (intOf v22).toNat)
 case atStart => exact ⟨0, [], rfl, l8 _, rfl, HUP.out⟩
 case round => (
 obtain ⟨k, vs, rfl, hk, hvl, hup⟩ := hrel
 have hB := hup.bel
 have HU := hid hup; have HVL := hid hvl; have HB := hid hB
 have hsz := hup.bel.size
 have hsz1 := hB.size
 clear hup hvl HUP hB
 by_cases hlt : k < n
 · (
 have hkI : (k : Int) < (n : Int) := by omega
 obtain ⟨lk, hlk, hlkl, hbit⟩ := (HX.out.call HB.out).sil.at hlt (l4.2 hlt)
 have hsbl := (HX.out.call HB.out).sil.sblt
 have hids := z0i hbit (by have := HWD.out; omega) (HT0.out.below (HB1.out.trans (HU.out.bel.mono HB1.out.size)))
 unfold IdsW at hids
 rw [z0j (HF.out k hlt), <- HWD.out] at hids
 rw [<- HWD.out] at hlk
 have HID := hid hids
 clear hbit hids
 go_wp2_with fail
 refine HID.out.mono ?_
 rintro e w5 ⟨v, rfl, hown, hB5⟩
 have hu5 := HU.out.call hsz hB5
 have hs5 := hB5.size
 have hown2 := j0r hown hsz
 have hnw : ∀ (j : Nat) (y : Value) (g : Nat), vs[j]? = some y -> y.ownBlock = some g -> v.ownBlock ≠ some g := fun j y g hy hg hv => by (
 have h1 := ((HU.out.rows j y hy).lt g hg).2
 have h2 := (hown.lt g hv).1
 omega)
 have HNW := hid hnw
 clear hnw
 obtain ⟨ia, ic, ib, rfl, _, _, _, _⟩ := j0d p0v hown
 have HO5 := hid hown2; have HU5 := hid hu5
 have hul : (intsOf (idsN (F k) n)).length <= 320 := by rw [j0p]; have := p0q (F k) n; omega
 obtain ⟨ul, hul2⟩ : ∃ ul, ul = (intsOf (idsN (F k) n)).length := ⟨_, rfl⟩
 rw [<- hul2] at hul ⊢
 have HUL := hid hul2
 clear hown hown2 hB5 hu5 hlk hlkl hsbl HU hul2 HID HB
 go_wp2_with (at_builtin; refine j0u rfl _ _ 34 rfl k3k (base := w1.heap.size) (by simp; omega) rfl (own_below HU5.out.own ((Below.refl w5.heap.size w5).alloc (l1 _) _)) ⟨w5.heap.size, 0, none⟩ 1 1 [.slice ia ul ic] rfl rfl (k0c (by simp [go_sem])) (by simp [Value.oneCell']) (by omega) (by rw [HVL.out]; omega) (by unfold maxLen; rw [HVL.out]; omega) _ rfl ?_; intro g cap w6 hown6 hg6 _ _)
 have hba := (Below.refl w5.heap.size w5).alloc (l1 _) (.cells #[.slice ia ul ic] 50)
 have hnx := (HU5.out.call (by omega) hba).push (x := .slice ia ul ic) (v' := .slice (some ⟨g, 0, none⟩) (vs.length + 1) cap) (by simp; omega) (by rw [HVL.out]; exact own_below (by have := HO5.out; rw [<- HUL.out] at this; show World.ownsRow _ _ _ _ _ (intsOf (idsN (F k) n)).length _; rw [<- HUL.out]; exact this) hba) hown6 hg6 (by have h := HNW.out; rw [<- HUL.out] at h; exact h)
 have HNX := hid hnx
 clear hnx hown6 hg6 HU5 HO5 hba
 go_roundw
 case rel => exact ⟨k + 1, vs ++ [.slice ia ul ic], by go_num, by omega, by simp [HVL.out], HNX.out⟩
 case measure => simp [intOf]; omega)
 · (
 obtain rfl : n = k := by omega
 have hown := HU.out.own
 obtain ⟨va, vc, vb, rfl, _, _, _, _⟩ := j0d lenV hown
 clear hown
 go_wp2_with fail
 go_ret2
 exact ⟨F, _, vs, rfl, HX.out.tr, HVL.out, j0r HU.out.own HB1.out.size, fun j x hx => j0r (HU.out.rows j x hx) HB1.out.size, HB1.out.trans (HU.out.bel.mono HB1.out.size), HU.out.apart⟩))
end Go.Proofs.YtbaccmlfnbgehaaGreatDoor
namespace Go.Proofs.YtbaccmlfnbgehaaGreatDoor
open Go.RowKit Pl
theorem p2y {w : World} {base n : Nat} {oa : Option Addr} {oc : Nat} {vs : Nat -> Value} (h : w.ownsRow base 50 1 (.slice oa n oc) n ((m0 n).map vs)) {i : Nat} (hi : i < n) :
    ∃ g, oa = some ⟨g, 0, none⟩ /\ w.cell? ⟨g, i, none⟩ = some (vs i) /\ g < w.heap.size := by
 rcases h.2 with ⟨e, _⟩ | ⟨g, cap, cur, e, _, hh, _, _, _, ht⟩
 · simp only [Value.slice.injEq] at e
   omega
 · (
 simp only [Value.slice.injEq] at e
 refine ⟨g, e.1, ?_, (l5.1 hh).1⟩
 have h2 : cur[i]? = some (vs i) := by (
 have h3 : (cur.toList.take (n * 1))[i]? = some (vs i) := by rw [ht]; simp [hi]
 rw [l9, if_pos (by omega)] at h3
 simpa using h3)
 simp [World.cell?, hh, h2])
theorem y2o {s : Lts} {n : Nat} {w w' : World} {e : Ending} (h : SilPostA s n w e w') : ∃ (F : Nat -> Nat -> Bool) (oa : Option Addr) (oc : Nat) (vf : Nat -> Value), e = .returned (.tuple #[.slice oa n oc, .nilIface]) /\ (∀ p, p < n -> ∀ x, F p x = true ↔ TR s p x) /\
    Rws w w' (wRowsI n vf (fun j => intsOf (idsN (F j) n)) ++ [wOuterV oa oc n vf]) := by
 obtain ⟨F, v, vs, rfl, hF, hl, hown, hrows, hB, hap⟩ := h
 have hfl : vs.flatMap encV = vs := by (
 clear hl hown hrows hap
 induction vs with
 | nil => rfl
 | cons x l ih => rw [List.flatMap_cons, ih]; rfl)
 have hown2 := hown
 rw [hfl] at hown2
 obtain ⟨oa, oc, ob, rfl, _, _, _, _⟩ := j0d lenV hown
 have hvf : ∀ j, j < n -> vs[j]? = some (vs.getD j (.slice none 0 0)) := fun j hj => by
   rw [List.getD_eq_getElem?_getD, List.getElem?_eq_getElem (by omega)]
   rfl
 have hmap : (m0 n).map (fun j => vs.getD j (.slice none 0 0)) = vs := by (
 refine List.ext_getElem? (fun j => ?_)
 rw [List.getElem?_map]
 rcases m7 j n with hj | hj
 · rw [List.getElem?_range hj, hvf j hj]; rfl
 · rw [m2 (by simpa using hj), m2 (by omega)]; rfl)
 refine ⟨F, oa, oc, fun j => vs.getD j (.slice none 0 0), by rw [hl], hF, ⟨hB, fun r hr => ?_, ?_⟩⟩
 · (
 rcases List.mem_append.1 hr with hr | hr
 · obtain ⟨p, hp, rfl⟩ := m4.1 hr
   exact hrows p _ (hvf p (l4.1 hp))
 · (
 simp only [m6] at hr
 subst hr
 unfold wOuterV
 simp only [hmap]
 rw [hl] at hown2
 exact hown2))
 · (
 rw [List.pairwise_append]
 refine ⟨?_, List.pairwise_singleton _ _, fun a ha b hb g hg => ?_⟩
 · unfold wRowsI
   rw [List.pairwise_map]
   refine List.Pairwise.imp_of_mem ?_ List.pairwise_lt_range
   intro p q hp hq hpq g hg
   exact hap p q _ _ g hpq (hvf p (l4.1 hp)) (hvf q (l4.1 hq)) hg
 · (
 obtain ⟨p, hp, rfl⟩ := m4.1 ha
 simp only [m6] at hb
 subst hb
 have h3 := hown2
 rw [hl] at h3
 exact fun hg2 => v0b (hrows p _ (hvf p (l4.1 hp))) h3 (by decide) hg hg2.symm))
end Go.Proofs.YtbaccmlfnbgehaaGreatDoor
namespace Go.Proofs.YtbaccmlfnbgehaaGreatDoor
open Go.RowKit Pl
open Lib (hid)
def FaultV (w : World) (p : Addr) (v : Value) : Prop := FaultAt w v weakName (.iface 278 (.pointer (some p)))
theorem FaultAt.below' {w w' : World} {v i : Value} {l : ByteArray} (h : FaultAt w v l i) (hB : Below w.heap.size w w') : FaultAt w' v l i := h.below hB
theorem j2i {p : Addr} {s : Lts} (hr : s.Right) (h300 : 300 < s.st) {a : Option Addr} {b off c : Nat} {w : World} (hG : WkErr p w) (hS : SlAt encE 3 w a b off s.es) :
    Calls prog 129 #[.agg #[.int .i64 s.st, .int .i64 s.lb, .int .i64 s.s0, .slice a s.es.length c]] w fun e w' => ∃ q, GErr 11 q w' /\ e = .returned (.tuple #[.pointer none, .iface 278 (.pointer (some q))]) /\ Below w.heap.size w w' := by
 have hB0 := (Below.refl w.heap.size w).alloc (l1 _) (Obj.cells #[.int .i64 s.st, .int .i64 s.lb, .int .i64 s.s0, .slice a s.es.length c] 24)
 have hbx := heap_alloc_new w (Obj.cells #[.int .i64 s.st, .int .i64 s.lb, .int .i64 s.s0, .slice a s.es.length c] 24)
 have HNW := hid (v1k (c := c) hr (hG.sys.below hB0) (hS.below hB0 (l1 _)))
 obtain ⟨el, hel⟩ : ∃ el, el = s.es.length := ⟨_, rfl⟩
 rw [<- hel] at HNW hB0 hbx ⊢
 have HG := hid hG; have HB0 := hid hB0; have HBX := hid hbx
 have hg1 : decide (300 < s.st) = true := by simp [h300]
 clear hG hS hB0 hbx hr hel
 go_enter func129, ntmps129
 go_wp2_with fail
 refine HNW.out.mono ?_
 rintro e w1 ⟨gb, rfl, hgr, hB1, _⟩
 have hb1 := HB0.out.trans (hB1.mono (by simp))
 obtain ⟨x0, x1, x2, x3, x4⟩ := q0j ((hB1.block w.heap.size (by simp)).trans HBX.out)
 obtain ⟨q, cq, tq, hgq, _, _⟩ := (HG.out.below hb1).great
 have g0 := hgq.cell; have gl := hgq.lt
 have HB1 := hid hb1; have HGQ := hid hgq
 clear hgr hB1 hb1 hgq HNW HB0 HBX
 go_wp2_with fail
 go_quiet (fail)
 go_wp2_with fail
 go_ret2
 exact ⟨q, HGQ.out.below (j0q (Below.refl _ _)), rfl, j0q HB1.out⟩
theorem q1r {p p2 : Addr} {s : Lts} (hr : s.Right) (h300 : 300 < s.st) {a : Option Addr} {b off c : Nat} {w : World} (hG : WkErr p w) (hL : GErr 2 p2 w) (hS : SlAt encE 3 w a b off s.es) :
    Calls prog 90 #[.agg #[.int .i64 s.st, .int .i64 s.lb, .int .i64 s.s0, .slice a s.es.length c]] w fun e w' => ∃ v, e = .returned (.tuple #[.pointer none, v]) /\ FaultV w' p2 v /\ Below w.heap.size w w' := by
 have hB0 := (Below.refl w.heap.size w).alloc (l1 _) (Obj.cells #[.int .i64 s.st, .int .i64 s.lb, .int .i64 s.s0, .slice a s.es.length c] 24)
 have HOF := hid (j2i (c := c) hr h300 (hG.below hB0) (hS.below hB0 (l1 _)))
 have HL := hid hL; have HB0 := hid hB0
 clear hG hS hB0 hr h300 hL
 go_enter func90, ntmps90
 go_wp2_with fail
 refine HOF.out.mono ?_
 rintro e w1 ⟨q, hgq, rfl, hB1⟩
 have hb1 := HB0.out.trans (hB1.mono (by simp))
 have hl1 := HL.out.below hb1
 have g0 := hgq.cell; have gl := hgq.lt
 have l0 := hl1.cell; have ll := hl1.lt
 have HIS := hid (v0t q w1)
 have hfn := p0n weakName 278 (.pointer (some p2))
 unfold weakName at hfn
 have HB1 := hid hb1
 clear hB1 hb1 hgq HOF HB0 hl1 HL
 go_wp2_with fail
 refine HIS.out.mono ?_
 rintro e w2 ⟨rfl, rfl⟩
 clear HIS
 go_wp2_with fail
 refine (hfn _).mono ?_
 rintro e w3 ⟨rfl, rfl⟩
 have hF : FaultV (w1.alloc (.cells #[.string weakName, .int .i64 0, .int .i64 0, .iface 278 (.pointer (some p2))] 88)) p2 (.iface 85 (.pointer (some ⟨w1.heap.size, 0, none⟩))) := ⟨_, rfl, heap_alloc_new w1 _⟩
 unfold weakName at hF
 have hB := HB1.out.alloc HB1.out.size (.cells #[.string weakName, .int .i64 0, .int .i64 0, .iface 278 (.pointer (some p2))] 88)
 unfold weakName at hB
 have HF := hid hF; have HB := hid hB
 clear hF hB hfn
 go_wp2_with fail
 go_ret2
 exact ⟨_, rfl, HF.out, HB.out⟩
/-! weak.Same -/
end Go.Proofs.YtbaccmlfnbgehaaGreatDoor
namespace Go.Proofs.YtbaccmlfnbgehaaGreatDoor
open Go.RowKit Pl
open Lib (hid)
theorem FaultV.setR {w : World} {p : Addr} {v : Value} {R : Nat} {c : Array Value} (h : FaultV w p v) (hR : w.heap[R]? = some (.cells c 24 (0, 0))) (x0 x1 x2 x3 : Value) :
    FaultV ((((w.setCell ⟨R, 0, none⟩ x0).setCell ⟨R, 1, none⟩ x1).setCell ⟨R, 2, none⟩ x2).setCell ⟨R, 3, none⟩ x3) p v := by
 obtain ⟨b, hv, hb⟩ := h
 have n1 : b ≠ R := fun e => by subst e; rw [hb] at hR; simp at hR
 exact ⟨b, hv, by rw [Below.heap_setCell _ _ _ _ n1, Below.heap_setCell _ _ _ _ n1, Below.heap_setCell _ _ _ _ n1, Below.heap_setCell _ _ _ _ n1]; exact hb⟩
structure ErrKeep (Q : World -> Value -> Prop) : Prop where
  shape : ∀ w v, Q w v -> ∃ fb, v = .iface 85 (.pointer (some ⟨fb, 0, none⟩))
  below : ∀ w w' v, Q w v -> Below w.heap.size w w' -> Q w' v
  setR : ∀ (w : World) (v : Value) (R : Nat) (c : Array Value) (x0 x1 x2 x3 : Value), Q w v -> w.heap[R]? = some (.cells c 24 (0, 0)) -> Q ((((w.setCell ⟨R, 0, none⟩ x0).setCell ⟨R, 1, none⟩ x1).setCell ⟨R, 2, none⟩ x2).setCell ⟨R, 3, none⟩ x3) v
theorem p1b (p : Addr) : ErrKeep (fun w v => FaultW w p v) := ⟨fun w v h => by
  obtain ⟨vi, h1, _⟩ := h
  obtain ⟨fb, rfl, _⟩ := h1.ex
  exact ⟨fb, rfl⟩, fun w w' v h hB => h.below hB, fun w v R c x0 x1 x2 x3 h hR => h.setR hR x0 x1 x2 x3⟩
theorem p1c (p : Addr) : ErrKeep (fun w v => FaultV w p v) := ⟨fun w v h => by
  obtain ⟨fb, rfl, _⟩ := h.ex
  exact ⟨fb, rfl⟩, fun w w' v h hB => h.below' hB, fun w v R c x0 x1 x2 x3 h hR => h.setR hR x0 x1 x2 x3⟩
theorem p1s {Q : World -> Value -> Prop} (hQ : ErrKeep Q) {w : World} {st lb s0 : Int} {a : Option Addr} {n c : Nat}
    (hM : ∀ V, Below w.heap.size w V -> Calls prog 90 #[.agg #[.int .i64 st, .int .i64 lb, .int .i64 s0, .slice a n c]] V fun e w' => ∃ v, e = .returned (.tuple #[.pointer none, v]) /\ Q w' v /\ Below V.heap.size V w') :
    Calls prog 26 #[.agg #[.int .i64 st, .int .i64 lb, .int .i64 s0, .slice a n c]] w fun e w' => ∃ v, e = .returned (.tuple #[.slice none 0 0, v]) /\ Q w' v /\ Below w.heap.size w w' := by
 have hB0 := (Below.refl w.heap.size w).alloc (l1 _) (Obj.cells #[.int .i64 st, .int .i64 lb, .int .i64 s0, .slice a n c] 24)
 have HM := hid (hM _ hB0); have HB0 := hid hB0; have HQ := hid hQ
 clear hM hB0 hQ
 go_enter func26, ntmps26
 go_wp2_with fail
 refine HM.out.mono ?_
 rintro e w1 ⟨v, rfl, hF, hB1⟩
 obtain ⟨fb, rfl⟩ := HQ.out.shape _ _ hF
 have HF := hid hF; have HB1 := hid (HB0.out.trans (hB1.mono (by simp)))
 clear hF hB1 HM HB0 HQ
 go_wp2_with fail
 go_ret2
 exact ⟨_, rfl, HF.out, HB1.out⟩
theorem p1v {Q : World -> Value -> Prop} (hQ : ErrKeep Q) {w : World} {st lb s0 : Int} {a : Option Addr} {n c : Nat}
    (hM : ∀ V, Below w.heap.size w V -> Calls prog 90 #[.agg #[.int .i64 st, .int .i64 lb, .int .i64 s0, .slice a n c]] V fun e w' => ∃ v, e = .returned (.tuple #[.pointer none, v]) /\ Q w' v /\ Below V.heap.size V w') :
    Calls prog 27 #[.agg #[.int .i64 st, .int .i64 lb, .int .i64 s0, .slice a n c]] w fun e w' => ∃ v, e = .returned (.tuple #[.agg #[.int .i64 0, .int .i64 0, .int .i64 0, .slice none 0 0], v]) /\ Q w' v /\ Below w.heap.size w w' := by
 have hB0 := ((Below.refl w.heap.size w).alloc (l1 _) (Obj.cells #[.int .i64 st, .int .i64 lb, .int .i64 s0, .slice a n c] 24)).alloc (by simp) (Obj.cells #[.int .i64 0, .int .i64 0, .int .i64 0, .slice none 0 0] 24)
 have hR0 := heap_alloc_new (w.alloc (Obj.cells #[.int .i64 st, .int .i64 lb, .int .i64 s0, .slice a n c] 24)) (Obj.cells #[.int .i64 0, .int .i64 0, .int .i64 0, .slice none 0 0] 24)
 rw [show (w.alloc (Obj.cells #[.int .i64 st, .int .i64 lb, .int .i64 s0, .slice a n c] 24)).heap.size = w.heap.size + 1 by simp] at hR0
 have HN := hid (hM _ hB0)
 have HB0 := hid hB0; have HR0 := hid hR0; have HQ := hid hQ
 clear hB0 hM hR0 hQ
 go_enter func27, ntmps27
 go_wp2_with fail
 refine HN.out.mono ?_
 rintro e w1 ⟨v, rfl, hF, hB1⟩
 obtain ⟨fb, rfl⟩ := HQ.out.shape _ _ hF
 have hr1 := (hB1.block (w.heap.size + 1) (by simp)).trans HR0.out
 have hB := HB0.out.trans (hB1.mono (by simp; omega))
 obtain ⟨⟨z0, z1, z2, z3, z4⟩, f0, f1, f2, f3⟩ := u2u hr1
 have HF := hid hF; have HB := hid hB; have HR1 := hid hr1
 clear hr1 hF hB1 hB HR0
 go_wp2_with fail
 have hfin : (((((w1.setCell ⟨w.heap.size + 1, 0, none⟩ (.int .i64 0)).setCell ⟨w.heap.size + 1, 1, none⟩ (.int .i64 0)).setCell ⟨w.heap.size + 1, 2, none⟩ (.int .i64 0)).setCell ⟨w.heap.size + 1, 3, none⟩ (.slice none 0 0)).alloc (Obj.cells #[.pointer none] 116)).heap[w.heap.size + 1]? = some (.cells #[.int .i64 0, .int .i64 0, .int .i64 0, .slice none 0 0] 24 (0, 0)) := (Below.heap_alloc _ _ _ (by simp only [size_setCell]; exact z4)).trans (heap_setCell_same _ _ 3 _ _ _ (heap_setCell_same _ _ 2 _ _ _ (heap_setCell_same _ _ 1 _ _ _ (heap_setCell_same _ _ 0 _ _ _ HR1.out))))
 have hFf : Q (((((w1.setCell ⟨w.heap.size + 1, 0, none⟩ (.int .i64 0)).setCell ⟨w.heap.size + 1, 1, none⟩ (.int .i64 0)).setCell ⟨w.heap.size + 1, 2, none⟩ (.int .i64 0)).setCell ⟨w.heap.size + 1, 3, none⟩ (.slice none 0 0)).alloc (Obj.cells #[.pointer none] 116)) (.iface 85 (.pointer (some ⟨fb, 0, none⟩))) := HQ.out.below _ _ _ (HQ.out.setR _ _ _ _ _ _ _ _ HF.out HR1.out) ((Below.refl _ _).alloc (l1 _) _)
 have hBf : Below w.heap.size w (((((w1.setCell ⟨w.heap.size + 1, 0, none⟩ (.int .i64 0)).setCell ⟨w.heap.size + 1, 1, none⟩ (.int .i64 0)).setCell ⟨w.heap.size + 1, 2, none⟩ (.int .i64 0)).setCell ⟨w.heap.size + 1, 3, none⟩ (.slice none 0 0)).alloc (Obj.cells #[.pointer none] 116)) := ((((HB.out.setCell (by show w.heap.size <= w.heap.size + 1; omega) _).setCell (by show w.heap.size <= w.heap.size + 1; omega) _).setCell (by show w.heap.size <= w.heap.size + 1; omega) _).setCell (by show w.heap.size <= w.heap.size + 1; omega) _).alloc (by simp only [size_setCell]; exact HB.out.size) _
 obtain ⟨W9, hW9⟩ : ∃ W9, W9 = (((((w1.setCell ⟨w.heap.size + 1, 0, none⟩ (.int .i64 0)).setCell ⟨w.heap.size + 1, 1, none⟩ (.int .i64 0)).setCell ⟨w.heap.size + 1, 2, none⟩ (.int .i64 0)).setCell ⟨w.heap.size + 1, 3, none⟩ (.slice none 0 0)).alloc (Obj.cells #[.pointer none] 116)) := ⟨_, rfl⟩
 rw [<- hW9] at hfin hFf hBf
 rw [<- hW9]
 obtain ⟨y0, y1, y2, y3, _⟩ := q0j hfin
 refine bodyPost_ret (v := .tuple #[.agg #[.int .i64 0, .int .i64 0, .int .i64 0, .slice none 0 0], .iface 85 (.pointer (some ⟨fb, 0, none⟩))]) (by simp [results, results27, go_sem, y0, y1, y2, y3]) rfl ⟨_, rfl, hFf, hBf⟩
end Go.Proofs.YtbaccmlfnbgehaaGreatDoor
namespace Go.Proofs.YtbaccmlfnbgehaaGreatDoor
open Go.RowKit Pl
def SilR (Q : World -> Value -> Prop) (I : Value -> List Rw -> Prop) (w : World) (e : Ending) (w' : World) : Prop :=
  ∃ (v9 v : Value) (N : List Rw), e = .returned (.tuple #[v9, v]) /\ Q w' v /\ Rws w w' N /\ I v9 N
def SatR (QF : World -> Value -> Prop) (T : Lts) (w : World) (e : Ending) (w' : World) : Prop :=
  ∃ ve v : Value, e = .returned (.tuple #[.agg #[.int .i64 T.st, .int .i64 T.lb, .int .i64 T.s0, ve], v]) /\ QF w' v /\ w'.ownsRow w.heap.size 71 3 ve T.es.length (T.es.flatMap encE) /\ Below w.heap.size w w'
def RefR (T : Lts) (k : Int) (x : ByteArray) (w : World) (e : Ending) (w' : World) : Prop :=
  ∃ (ea : Option Addr) (eb ec : Nat), e = .returned (.tuple #[.agg #[.int .i64 T.st, .int .i64 T.lb, .int .i64 T.s0, .slice ea T.es.length ec], .agg #[.int .i64 k, .int .i64 0, .int .i64 0, .string x]]) /\ SlAt encE 3 w' ea eb 0 T.es /\ Below w.heap.size w w'
def SilI (s : Lts) (n : Nat) (v9 : Value) (N : List Rw) : Prop :=
  ∃ (F : Nat -> Nat -> Bool) (oa : Option Addr) (oc : Nat) (vf : Nat -> Value), v9 = .slice oa n oc /\ (∀ p, p < n -> ∀ x, F p x = true ↔ TR s p x) /\ N = wRowsI n vf (fun j => intsOf (idsN (F j) n)) ++ [wOuterV oa oc n vf]
def zeroT : Lts := ⟨0, 0, 0, []⟩
theorem z1r {w : World} {s : Lts} {a : Option Addr} {c : Nat} {k : Int} {x : ByteArray} (hk : k ≠ 0) {Q : World -> Value -> Prop} (hQ : ErrKeep Q)
    (hM : ∀ V la lb lc, Below w.heap.size w V -> SlAt encE 3 V la lb 0 s.es -> ∀ U, Below V.heap.size V U -> Calls prog 90 #[.agg #[.int .i64 s.st, .int .i64 s.lb, .int .i64 s.s0, .slice la s.es.length lc]] U fun e w' => ∃ v, e = .returned (.tuple #[.pointer none, v]) /\ Q w' v /\ Below U.heap.size U w')
    (hGd : ∀ V, Below w.heap.size w V -> Calls prog 24 #[.agg #[.int .i64 s.st, .int .i64 s.lb, .int .i64 s.s0, .slice a s.es.length c]] V fun e w' => e = .returned (.agg #[.int .i64 k, .int .i64 0, .int .i64 0, .string x]) /\ Below V.heap.size V w') :
    (∀ V la lb lc, Below w.heap.size w V -> SlAt encE 3 V la lb 0 s.es -> Calls prog 26 #[.agg #[.int .i64 s.st, .int .i64 s.lb, .int .i64 s.s0, .slice la s.es.length lc]] V (SilR Q (fun _ N => N = []) V)) /\
    (∀ V la lb lc, Below w.heap.size w V -> SlAt encE 3 V la lb 0 s.es -> Calls prog 27 #[.agg #[.int .i64 s.st, .int .i64 s.lb, .int .i64 s.s0, .slice la s.es.length lc]] V (SatR Q zeroT V)) /\
    (∀ V, Below w.heap.size w V -> Calls prog 25 #[.agg #[.int .i64 s.st, .int .i64 s.lb, .int .i64 s.s0, .slice a s.es.length c]] V (RefR zeroT k x V)) := by
 refine ⟨fun V la lb lc hV hS => ?_, fun V la lb lc hV hS => ?_, fun V hV => ?_⟩
 · refine (p1s hQ (fun U hU => hM V la lb lc hV hS U hU)).mono ?_
   rintro e w' ⟨v, rfl, hq, hB⟩
   exact ⟨_, v, [], rfl, hq, Rws.nil hB, rfl⟩
 · refine (p1v hQ (fun U hU => hM V la lb lc hV hS U hU)).mono ?_
   rintro e w' ⟨v, rfl, hq, hB⟩
   exact ⟨_, v, rfl, hq, World.ownsRow_nil _ _ _ _, hB⟩
 · refine (q1c hk (fun U hU => hGd U (hV.trans (hU.mono hV.size)))).mono ?_
   rintro e w' ⟨rfl, hB⟩
   exact ⟨none, 0, 0, rfl, p0l _ _ _ _, hB⟩
theorem u2q {w : World} {p p2 pe : Addr} (hG : WkErr p w) (hE : ErrsK 14 p w) (hE2 : ErrsK 2 p2 w) (hE3 : ErrsK 13 pe w) (hT : ErrType w) (hTab : Tab w) {s : Lts} (hlt : s.Right -> s.st <= 40 ∨ 300 < s.st) {a : Option Addr} {b off c : Nat} (hS : SlAt encE 3 w a b off s.es) (hc : s.es.length <= c) (hcm : c <= maxLen) :
    ∃ (k kf : Int) (x xf : ByteArray) (T : Lts) (Q QF : World -> Value -> Prop) (I : Value -> List Rw -> Prop), (∀ w w' v, Q w v -> Below w.heap.size w w' -> Q w' v) /\ (∀ w w' v, QF w v -> Below w.heap.size w w' -> QF w' v) /\ T.es.length <= 10000 /\
      (∀ V la lb lc, Below w.heap.size w V -> SlAt encE 3 V la lb 0 s.es -> Calls prog 26 #[.agg #[.int .i64 s.st, .int .i64 s.lb, .int .i64 s.s0, .slice la s.es.length lc]] V (SilR Q I V)) /\
      (∀ V la lb lc, Below w.heap.size w V -> SlAt encE 3 V la lb 0 s.es -> Calls prog 27 #[.agg #[.int .i64 s.st, .int .i64 s.lb, .int .i64 s.s0, .slice la s.es.length lc]] V (SatR QF T V)) /\
      (∀ V, Below w.heap.size w V -> Calls prog 25 #[.agg #[.int .i64 s.st, .int .i64 s.lb, .int .i64 s.s0, .slice a s.es.length c]] V (RefR T kf xf V)) /\
      (∀ V, Below w.heap.size w V -> Calls prog 24 #[.agg #[.int .i64 s.st, .int .i64 s.lb, .int .i64 s.s0, .slice a s.es.length c]] V fun e w' => e = .returned (.agg #[.int .i64 k, .int .i64 0, .int .i64 0, .string x]) /\ Below V.heap.size V w') /\
      (∀ V v, Below w.heap.size w V -> Q V v -> Calls prog 12 #[v, .agg #[.int .i64 k, .int .i64 0, .int .i64 0, .string x]] V fun e w' => e = .returned (.bool true) /\ Below V.heap.size V w') /\
      (∀ V v, Below w.heap.size w V -> QF V v -> Calls prog 12 #[v, .agg #[.int .i64 kf, .int .i64 0, .int .i64 0, .string xf]] V fun e w' => e = .returned (.bool true) /\ Below V.heap.size V w') /\
      (k ≠ 0 ∨ (k = 0 /\ s.Right /\ ∃ n : Nat, s.st = (n : Int) /\ n <= 40 /\ ∀ v9 N, I v9 N -> SilI s n v9 N)) := by
 by_cases hr : s.Right
 case neg => (
 have hg : ∀ V, Below w.heap.size w V -> _ := fun V (hV : Below w.heap.size w V) => x1t (c := c) hr (hS.below hV (l1 _))
 obtain ⟨h1, h2, h3⟩ := z1r (w := w) (s := s) (a := a) (c := c) (k := 14) (by decide) (p1b p) (fun V la lb lc hV hSV U hU => y1l hr ((hG.below hV).below hU) ((hT.below hV).below hU) (hSV.below hU (l1 _))) hg
 refine ⟨14, 14, _, _, zeroT, _, _, _, (p1b p).below, (p1b p).below, l8 _, h1, h2, h3, hg, fun V v hV h => ?_, fun V v hV h => ?_, .inl (by decide)⟩
 · obtain ⟨vi, h1, h2⟩ := h
   exact z1t (k := 14) (by unfold CodeIn; omega) (hE.below hV) h1 h2 (by decide) (by decide)
 · obtain ⟨vi, h1, h2⟩ := h
   exact z1t (k := 14) (by unfold CodeIn; omega) (hE.below hV) h1 h2 (by decide) (by decide))
 case pos =>
 by_cases h3 : 300 < s.st
 · (
 have hg : ∀ V, Below w.heap.size w V -> Calls prog 24 #[.agg #[.int .i64 s.st, .int .i64 s.lb, .int .i64 s.s0, .slice a s.es.length c]] V fun e w' => e = .returned (.agg #[.int .i64 2, .int .i64 0, .int .i64 0, .string (weakName ++ ⟨#[32]⟩)]) /\ Below V.heap.size V w' := fun V hV => by (
 have h := q0o (c := c) hr (hS.below hV (l1 _))
 rw [if_pos h3] at h
 exact h)
 obtain ⟨h1, h2, h4⟩ := z1r (w := w) (s := s) (a := a) (c := c) (k := 2) (by decide) (p1c p2) (fun V la lb lc hV hSV U hU => q1r hr h3 ((hG.below hV).below hU) ((hE2.sys.below hV).below hU) (hSV.below hU (l1 _))) hg
 exact ⟨2, 2, _, _, zeroT, _, _, _, (p1c p2).below, (p1c p2).below, l8 _, h1, h2, h4, hg, fun V v hV h => j1s (k := 2) (by unfold CodeIn; omega) (hE2.below hV) h (by decide), fun V v hV h => j1s (k := 2) (by unfold CodeIn; omega) (hE2.below hV) h (by decide), .inl (by decide)⟩)
 have hst := hr.st0
 have h40 : s.st <= 40 := (hlt hr).resolve_right h3
 obtain ⟨n, hn⟩ : ∃ n : Nat, s.st = (n : Int) := ⟨s.st.toNat, by omega⟩
 obtain ⟨lb, hlb⟩ : ∃ lb : Nat, s.lb = (lb : Int) := ⟨s.lb.toNat, by omega⟩
 have hK : KOk s n lb (kRef s n) := j3r hr hn
 have hg : ∀ V, Below w.heap.size w V -> Calls prog 24 #[.agg #[.int .i64 s.st, .int .i64 s.lb, .int .i64 s.s0, .slice a s.es.length c]] V fun e w' => e = .returned (.agg #[.int .i64 0, .int .i64 0, .int .i64 0, .string ⟨#[]⟩]) /\ Below V.heap.size V w' := fun V hV => by (
 have h := q0o (c := c) hr (hS.below hV (l1 _))
 rw [if_neg h3] at h
 exact h)
 have hsi : ∀ V la l2 lc, Below w.heap.size w V -> SlAt encE 3 V la l2 0 s.es -> Calls prog 26 #[.agg #[.int .i64 s.st, .int .i64 s.lb, .int .i64 s.s0, .slice la s.es.length lc]] V (SilR (fun _ v => v = .nilIface) (SilI s n) V) := fun V la l2 lc hV hSV => by (
 refine (z0n hr hn (by omega) (hG.below hV) (hTab.below hV) hSV).mono ?_
 intro e w' h
 obtain ⟨F, oa, oc, vf, he, hF, hN⟩ := y2o h
 exact ⟨_, _, _, he, rfl, hN, F, oa, oc, vf, rfl, hF, rfl⟩)
 by_cases hle : (satE n lb (kRef s n)).length <= 10000
 · (
 refine ⟨0, 0, ⟨#[]⟩, ⟨#[]⟩, ⟨n, s.lb, s.s0, satE n lb (kRef s n)⟩, fun _ v => v = .nilIface, fun _ v => v = .nilIface, SilI s n, fun _ _ _ h _ => h, fun _ _ _ h _ => h, hle, hsi, fun V la l2 lc hV hSV => ?_, fun V hV => ?_, hg, fun V v hV h => ?_, fun V v hV h => ?_, .inr ⟨rfl, hr, n, hn, by omega, fun _ _ h => h⟩⟩
 · refine (y0l hr hn hlb (by omega) (hG.below hV) (hE3.sys.below hV) (hTab.below hV) hSV).mono ?_
   rintro e w' ⟨K, hK', hB, ⟨h1, ve, he, ho⟩ | ⟨h1, _⟩⟩
   · rw [hK'.eq hK] at ho
     exact ⟨ve, _, he, rfl, ho, hB⟩
   · rw [hK'.eq hK] at h1; omega
 · refine (u0x hr hn hlb (by omega) (hS.below hV (l1 _)) hc hcm).mono ?_
   rintro e w' ⟨hB, ⟨_, ea, eb, ec, he, h⟩ | ⟨h1, _⟩⟩
   · exact ⟨ea, eb, ec, he, h, hB⟩
   · omega
 · subst h; exact j1t 0 0 ⟨#[]⟩ V
 · subst h; exact j1t 0 0 ⟨#[]⟩ V)
 · (
 refine ⟨0, 13, ⟨#[]⟩, weakName ++ ⟨#[32]⟩, zeroT, fun _ v => v = .nilIface, fun w v => FaultAt w v weakName (.iface 278 (.pointer (some pe))), SilI s n, fun _ _ _ h _ => h, fun _ _ _ h hB => h.below hB, l8 _, hsi, fun V la l2 lc hV hSV => ?_, fun V hV => ?_, hg, fun V v hV h => ?_, fun V v hV h => ?_, .inr ⟨rfl, hr, n, hn, by omega, fun _ _ h => h⟩⟩
 · refine (y0l hr hn hlb (by omega) (hG.below hV) (hE3.sys.below hV) (hTab.below hV) hSV).mono ?_
   rintro e w' ⟨K, hK', hB, ⟨h1, _⟩ | ⟨_, v, he, hf⟩⟩
   · rw [hK'.eq hK] at h1; omega
   · exact ⟨_, v, he, hf, World.ownsRow_nil _ _ _ _, hB⟩
 · refine (u0x hr hn hlb (by omega) (hS.below hV (l1 _)) hc hcm).mono ?_
   rintro e w' ⟨hB, ⟨h1, _⟩ | ⟨_, he⟩⟩
   · omega
   · exact ⟨none, 0, 0, he, p0l _ _ _ _, hB⟩
 · subst h; exact j1t 0 0 ⟨#[]⟩ V
 · exact j1s (k := 13) (by unfold CodeIn; omega) (hE3.below hV) h (by decide))
end Go.Proofs.YtbaccmlfnbgehaaGreatDoor

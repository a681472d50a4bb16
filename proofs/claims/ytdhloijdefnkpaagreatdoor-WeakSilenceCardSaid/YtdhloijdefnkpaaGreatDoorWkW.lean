/-
  weak.Silent: of a right system, and of none.
-/
import Derived.Test.YtdhloijdefnkpaaGreatDoorGWkQ
namespace Go.Proofs.YtdhloijdefnkpaaGreatDoor
open Go.RowKit Pl

theorem rowIIW : IsRow Tryz.prog 26 33 1 24 (.slice none 0 0) := isRow_of Tryz.underlying26 (by kernel_rfl) rfl (by decide)

/-- Lists in memory, one of each of the first states. -/
structure LsK (B : Nat) (w0 wr : World) (Lf : Nat → List Int) (v : Value) (vs : List Value) : Prop where
  bel : Below B w0 wr
  own : wr.ownsRow B 33 1 v vs.length (vs.flatMap encV)
  rows : ∀ (j : Nat) (x : Value), vs[j]? = some x → wr.ownsRow B 3 1 x (Lf j).length ((Lf j).flatMap encI)
theorem LsK.call {B : Nat} {w0 wr w' : World} {Lf : Nat → List Int} {v : Value} {vs : List Value} (h : LsK B w0 wr Lf v vs) (hB0 : B ≤ wr.heap.size) (hB : Below wr.heap.size wr w') : LsK B w0 w' Lf v vs :=
  ⟨h.bel.trans (hB.mono hB0), own_below h.own hB, fun j x hx => own_below (h.rows j x hx) hB⟩
theorem LsK.push {B : Nat} {w0 wr w' : World} {Lf : Nat → List Int} {v v' x : Value} {vs : List Value} (h : LsK B w0 wr Lf v vs) (hB0 : B ≤ wr.heap.size) (hx : wr.ownsRow B 3 1 x (Lf vs.length).length ((Lf vs.length).flatMap encI))
    (hown : w'.ownsRow B 33 1 v' (vs.length + 1) (vs.flatMap encV ++ [x])) (hg : wr.grownBy w' v.ownBlock) : LsK B w0 w' Lf v' (vs ++ [x]) := by
  have hrow : ∀ {y : Value} {L : List Int}, wr.ownsRow B 3 1 y L.length (L.flatMap encI) → w'.ownsRow B 3 1 y L.length (L.flatMap encI) := fun {y L} hy =>
    own_block hy (fun g hg2 => hg.block g (hy.lt g hg2).2 (own_apart hy h.own (by decide) hg2))
  refine ⟨h.bel.grown hg hB0 (fun k e => (h.own.lt k e).1), ?_, fun j y hy => ?_⟩
  · rw [List.flatMap_append, List.length_append]; exact hown
  · rcases Nat.lt_or_ge j vs.length with hj | hj
    · rw [List.getElem?_append_left hj] at hy
      exact hrow (h.rows j y hy)
    · have hq2 : j = vs.length := by have := (List.getElem?_eq_some_iff.1 hy).1; simp at this; omega
      subst hq2
      simp at hy
      subst hy
      exact hrow hx

/-- What Silent answers of a right system. -/
def SilPost (s : Lts) (n : Nat) (w : World) (e : Ending) (w' : World) : Prop :=
  ∃ (F : Nat → Nat → Bool) (v : Value) (vs : List Value), e = .returned (.tuple #[v, .nilIface]) ∧ (∀ p, p < n → ∀ x, F p x = true ↔ TR s p x) ∧ vs.length = n ∧ w'.ownsRow w.heap.size 33 1 v vs.length (vs.flatMap encV) ∧
    (∀ (j : Nat) (x : Value), vs[j]? = some x → w'.ownsRow w.heap.size 3 1 x (intsOf (idsN (F j) n)).length ((intsOf (idsN (F j) n)).flatMap encI)) ∧ Below w.heap.size w w'

set_option maxRecDepth 100000 in
set_option maxHeartbeats 4000000 in
theorem weakSilent_any {p : Addr} {s : Lts} {n : Nat} (hr : s.Right) (hn : s.st = (n : Int)) (h300 : n ≤ 300) {a : Option Addr} {b off c : Nat} {w : World} (hG : WkErr p w) (hT : Tab w) (hS : SlAt encE 3 w a b off s.es) :
    Calls Tryz.prog 11 #[.agg #[.int .i64 s.st, .int .i64 s.lb, .int .i64 s.s0, .slice a s.es.length c]] w (SilPost s n w) := by
  unfold SilPost
  have hB0 := (Below.refl w.heap.size w).alloc (Nat.le_refl _) (Obj.cells #[.int .i64 s.st, .int .i64 s.lb, .int .i64 s.s0, .slice a s.es.length c] 24)
  have HA := Lib.hid (madeW_any (c := c) hr hn h300 (hG.below hB0) (hS.below hB0 (Nat.le_refl _)))
  have HB0 := Lib.hid hB0; have HT0 := Lib.hid hT; have HR := Lib.hid hr; have HN := Lib.hid hn
  clear hB0 hS hG hT hr hn
  go_enter Tryz.func11, Tryz.ntmps11
  go_wp2_with fail
  refine HA.out.mono ?_
  rintro e w1 ⟨xb, gb, sb, F, rfl, hX, hxb, hB1⟩
  have hb1 := HB0.out.trans (hB1.mono (by simp))
  obtain ⟨x0, x1, x2⟩ := hX.cells
  have HF : RowKit.Hid (∀ p, p < n → ∀ x, F p x = true → x < n) := Lib.hid (fun p hp x hx => ((hX.tr p hp x).1 hx).ltW HR.out HN.out hp)
  have hup : LsK w1.heap.size w1 w1 (fun j => intsOf (idsN (F j) n)) (.slice none 0 0) [] := ⟨Below.refl _ _, ⟨by simp, .inl ⟨rfl, rfl⟩⟩, by simp⟩
  have HUP := Lib.hid hup; have HX := Lib.hid hX; have HB1 := Lib.hid hb1
  have hs1 := hb1.size
  have hwd := wds_small (show n ≤ 1000 by omega)
  obtain ⟨WD, hWD⟩ : ∃ WD, WD = wds n := ⟨_, rfl⟩
  rw [← hWD] at hwd
  have HWD := Lib.hid hWD
  clear hB1 hX hxb hb1 HA HB0 hup hWD
  go_wp2_with fail
  clear x0 x1 x2
  go_loopw [6, 8, 22] (fun v6 _ v22 wr => ∃ (k : Nat) (vs : List Value), v22 = .int .i64 k ∧ k ≤ n ∧ vs.length = k ∧ LsK w1.heap.size w1 wr (fun j => intsOf (idsN (F j) n)) v6 vs) (fun _ _ v22 _ => n - (intOf v22).toNat)
  case atStart => exact ⟨0, [], rfl, Nat.zero_le _, rfl, HUP.out⟩
  case round =>
    obtain ⟨k, vs, rfl, hk, hvl, hup⟩ := hrel
    have hB := hup.bel
    have HU := Lib.hid hup; have HVL := Lib.hid hvl; have HB := Lib.hid hB
    have hsz := hup.bel.size
    have hsz1 := hB.size
    clear hup hvl HUP hB
    by_cases hlt : k < n
    · have hkI : (k : Int) < (n : Int) := by omega
      obtain ⟨lk, hlk, hlkl, hbit⟩ := (HX.out.call HB.out).sil.at hlt (List.mem_range.2 hlt)
      have hsbl := (HX.out.call HB.out).sil.sblt
      have hids := idsW_any hbit (by have := HWD.out; omega) (HT0.out.below (HB1.out.trans (HU.out.bel.mono HB1.out.size)))
      unfold IdsW at hids
      rw [idsN_wds (HF.out k hlt), ← HWD.out] at hids
      rw [← HWD.out] at hlk
      have HID := Lib.hid hids
      clear hbit hids
      go_wp2_with fail
      refine HID.out.mono ?_
      rintro e w5 ⟨v, rfl, hown, hB5⟩
      have hu5 := HU.out.call hsz hB5
      have hs5 := hB5.size
      have hown2 := own_mono hown hsz
      obtain ⟨ia, ic, ib, rfl, _, _, _, _⟩ := slAt_own lenI hown
      have HO5 := Lib.hid hown2; have HU5 := Lib.hid hu5
      have hul : (intsOf (idsN (F k) n)).length ≤ 320 := by rw [intsOf_len]; have := idsN_le (F k) n; omega
      obtain ⟨ul, hul2⟩ : ∃ ul, ul = (intsOf (idsN (F k) n)).length := ⟨_, rfl⟩
      rw [← hul2] at hul ⊢
      have HUL := Lib.hid hul2
      clear hown hown2 hB5 hu5 hlk hlkl hsbl HU hul2 HID HB
      go_wp2_with (at_builtin; refine wpList_lies rfl _ _ 26 rfl rowIIW (base := w1.heap.size) (by simp; omega) rfl (own_below HU5.out.own ((Below.refl w5.heap.size w5).alloc (Nat.le_refl _) _)) ⟨w5.heap.size, 0, none⟩ 1 1 [.slice ia ul ic] rfl rfl (cells1 (by simp [go_sem])) (by simp [Value.oneCell']) (by omega) (by rw [HVL.out]; omega) (by unfold maxLen; rw [HVL.out]; omega) _ rfl ?_; intro g cap w6 hown6 hg6 _ _)
      have hba := (Below.refl w5.heap.size w5).alloc (Nat.le_refl _) (.cells #[.slice ia ul ic] 33)
      have hnx := (HU5.out.call (by omega) hba).push (x := .slice ia ul ic) (v' := .slice (some ⟨g, 0, none⟩) (vs.length + 1) cap) (by simp; omega) (by rw [HVL.out]; exact own_below (by have := HO5.out; rw [← HUL.out] at this; show World.ownsRow _ _ _ _ _ (intsOf (idsN (F k) n)).length _; rw [← HUL.out]; exact this) hba) hown6 hg6
      have HNX := Lib.hid hnx
      clear hnx hown6 hg6 HU5 HO5 hba
      go_roundw
      case rel => exact ⟨k + 1, vs ++ [.slice ia ul ic], by go_num, by omega, by simp [HVL.out], HNX.out⟩
      case measure => simp [intOf]; omega
    · obtain rfl : n = k := by omega
      have hown := HU.out.own
      obtain ⟨va, vc, vb, rfl, _, _, _, _⟩ := slAt_own lenV hown
      clear hown
      go_wp2_with fail
      go_ret2
      exact ⟨F, _, vs, rfl, HX.out.tr, HVL.out, own_mono HU.out.own HB1.out.size, fun j x hx => own_mono (HU.out.rows j x hx) HB1.out.size, HB1.out.trans (HU.out.bel.mono HB1.out.size)⟩
end Go.Proofs.YtdhloijdefnkpaaGreatDoor

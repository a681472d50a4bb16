/-
  law7.SystemForms.
-/
import Derived.Test.YtfjgedninbpjpaaDoorLent
import Derived.Test.YtfjgedninbpjpaaDoorFault
import Derived.Deep.RegionWith
namespace Go.Proofs.YtfjgedninbpjpaaDoor
open Go.RowKit Pl

/-- What stays all through the law's last statement. -/
structure FI (w0 w : World) (B : Nat) (st lb s0 : Int) (ev vl : Value) (xs : List Int) (a3 : Option Addr) (b3 : Nat) (a : Option Addr) (b off : Nat) (p : Addr) : Prop where
  lent : LentI w vl xs
  can : SlAt encI 1 w a3 b3 0 (canon xs)
  arg : SlAt encI 1 w a b off xs
  ger : GErr 0 p w
  box : w.heap[B]? = some (.cells #[.int .i64 st, .int .i64 lb, .int .i64 s0, ev] 24 (0, 0))
  bel : Below w0.heap.size w0 w

section
variable {w0 w w' : World} {B : Nat} {st lb s0 : Int} {ev vl : Value} {xs : List Int} {a3 : Option Addr} {b3 : Nat} {a : Option Addr} {b off : Nat} {p : Addr}
theorem FI.below (hB : Below w.heap.size w w') (h : FI w0 w B st lb s0 ev vl xs a3 b3 a b off p) : FI w0 w' B st lb s0 ev vl xs a3 b3 a b off p :=
  ⟨h.lent.below hB, h.can.below hB (Nat.le_refl _), h.arg.below hB (Nat.le_refl _), h.ger.below hB, by rw [hB.block _ (Array.getElem?_eq_some_iff.1 h.box).1]; exact h.box, h.bel.trans (hB.mono h.bel.size)⟩
theorem FI.cells (h : FI w0 w B st lb s0 ev vl xs a3 b3 a b off p) : w.cell? ⟨B, 0, none⟩ = some (.int .i64 st) ∧ w.cell? ⟨B, 1, none⟩ = some (.int .i64 lb) ∧ w.cell? ⟨B, 2, none⟩ = some (.int .i64 s0) ∧ w.cell? ⟨B, 3, none⟩ = some ev := by
  have := h.box
  refine ⟨?_, ?_, ?_, ?_⟩ <;> simp [World.cell?, this]
theorem FI.keep (hB : Below w.heap.size w w') (h : FI w0 w B st lb s0 ev vl xs a3 b3 a b off p) :
    w'.cell? ⟨B, 0, none⟩ = some (.int .i64 st) ∧ w'.cell? ⟨B, 1, none⟩ = some (.int .i64 lb) ∧ w'.cell? ⟨B, 2, none⟩ = some (.int .i64 s0) ∧ w'.cell? ⟨B, 3, none⟩ = some ev ∧ FI w0 w' B st lb s0 ev vl xs a3 b3 a b off p := by
  have h2 := FI.below hB h
  obtain ⟨c0, c1, c2, c3⟩ := h2.cells
  exact ⟨c0, c1, c2, c3, h2⟩

def SlOut (xs : List Int) (W : World) (e : Ending) (w' : World) : Prop := ∃ a1 c1 b1, e = .returned (.slice a1 xs.length c1) ∧ SlAt encI 1 w' a1 b1 0 xs ∧ Below W.heap.size W w'

theorem f_refCanon {c : Nat} (h : FI w0 w B st lb s0 ev vl xs a3 b3 a b off p) (hn : xs.length ≤ 1000000) : Calls Tryd.prog 42 #[.slice a xs.length c] w (SlOut (canon xs) w) := by
  refine (refCanon_any h.arg hn).mono ?_
  rintro e w1 ⟨v, rfl, hown, hB⟩
  rw [← canon_len xs] at hown
  obtain ⟨a1, c1, b1, rfl, _, _, h1, _⟩ := slAt_own lenI hown
  exact ⟨a1, c1, b1, rfl, h1, hB⟩
theorem f_same {c3 c1 b1 : Nat} {a1 : Option Addr} (h : FI w0 w B st lb s0 ev vl xs a3 b3 a b off p) (h1 : SlAt encI 1 w a1 b1 0 (canon xs)) (hn : xs.length ≤ 1000000) :
    Calls Tryd.prog 36 #[.slice a3 (canon xs).length c3, .slice a1 (canon xs).length c1] w fun e w' => e = .returned (.bool true) ∧ Below w.heap.size w w' := by
  refine (sameInts_any h.can h1 (by rw [canon_len]; omega) (by rw [canon_len]; omega)).mono ?_
  rintro e w1 ⟨rfl, m, rfl⟩
  exact ⟨by simp, bdrew (Below.refl _ _)⟩
theorem f_classes {n c : Nat} {ad : Option Addr} (h : FI w0 w B st lb s0 ev vl xs a3 b3 a b off p) (hv : vl = .slice ad n c) (hn : xs.length ≤ 1000000) (hwf : ∀ x ∈ xs, (Lit.int .i64 x).wf = true) :
    Calls Tryd.prog 40 #[.agg #[.int .i64 st, .int .i64 lb, .int .i64 s0, ev], .slice ad n c] w fun e w' => e = .returned (.bool (clB st xs)) ∧ Below w.heap.size w w' := by
  obtain ⟨g, cap, h1, _, _, h2⟩ := h.lent.ex
  rw [hv] at h1
  simp only [Value.slice.injEq] at h1
  obtain ⟨rfl, rfl, rfl⟩ := h1
  exact classes_any st lb s0 ev h2.pre hn hwf
theorem f_refClasses {c : Nat} (h : FI w0 w B st lb s0 ev vl xs a3 b3 a b off p) (hn : xs.length ≤ 1000000) :
    Calls Tryd.prog 43 #[.agg #[.int .i64 st, .int .i64 lb, .int .i64 s0, ev], .slice a xs.length c] w fun e w' => e = .returned (.bool (clB st xs)) ∧ Below w.heap.size w w' :=
  refClasses_any st lb s0 ev h.arg hn
theorem f_together {n c : Nat} {ad : Option Addr} (h : FI w0 w B st lb s0 ev vl xs a3 b3 a b off p) (hv : vl = .slice ad n c) (hn : xs.length ≤ 1000000) (hwf : ∀ x ∈ xs, (Lit.int .i64 x).wf = true) :
    Calls Tryd.prog 44 #[.slice ad n c] w fun e w' => e = .returned (.int .i64 ((dist xs).length : Int)) ∧ Below w.heap.size w w' := by
  obtain ⟨g, cap, h1, _, _, h2⟩ := h.lent.ex
  rw [hv] at h1
  simp only [Value.slice.injEq] at h1
  obtain ⟨rfl, rfl, rfl⟩ := h1
  exact together_any h2.pre hn hwf
theorem f_refTogether {c : Nat} (h : FI w0 w B st lb s0 ev vl xs a3 b3 a b off p) (hn : xs.length ≤ 1000000) :
    Calls Tryd.prog 45 #[.slice a xs.length c] w fun e w' => e = .returned (.int .i64 ((dist xs).length : Int)) ∧ Below w.heap.size w w' :=
  refTogether_any h.arg hn
theorem f_stays {n c c2 : Nat} {ad : Option Addr} (h : FI w0 w B st lb s0 ev vl xs a3 b3 a b off p) (hv : vl = .slice ad n c) (hn : xs.length ≤ 1000000) :
    Calls Tryd.prog 46 #[.slice ad n c, .slice a xs.length c2] w fun e w' => e = .returned (.bool true) ∧ Below w.heap.size w w' := by
  subst hv
  refine (staysInts_any h.lent h.arg hn).mono ?_
  rintro e w1 ⟨rfl, m, rfl⟩
  exact ⟨rfl, bdrew (Below.refl _ _)⟩
end

/-- A law's alive, as its callers want it. -/
def Alive7 (p : Addr) : Prop := ∀ w : World, GErr 0 p w → Calls Tryd.prog 26 #[] w fun e w' => e = .returned (.bool true) ∧ Below w.heap.size w w'

set_option maxRecDepth 100000 in
set_option maxHeartbeats 4000000 in
theorem forms_gen {w : World} {p : Addr} (hal : Alive7 p) (hG : GErr 0 p w) (st lb s0 : Int) (ev : Value) {a : Option Addr} {b off c : Nat} {xs : List Int}
    (hS : SlAt encI 1 w a b off xs) (hwf : ∀ x ∈ xs, (Lit.int .i64 x).wf = true) :
    Calls Tryd.prog 11 #[.agg #[.int .i64 st, .int .i64 lb, .int .i64 s0, ev], .slice a xs.length c] w fun e w' => e = .returned (.bool true) ∧ Below w.heap.size w w' := by
  have HAL := Lib.hid hal; have HG := Lib.hid hG; have HS := Lib.hid hS; have HWF := Lib.hid hwf
  clear hal hG hS hwf
  by_cases h12 : 1200 < xs.length
  · have hi : (1200 : Int) < (xs.length : Int) := by omega
    go_enter Tryd.func11, Tryd.ntmps11
    go_wp2_with fail
    have hB0 := (Below.refl w.heap.size w).alloc (Nat.le_refl _) (Obj.cells #[.int .i64 st, .int .i64 lb, .int .i64 s0, ev] 24)
    have HB0 := Lib.hid hB0
    clear hB0
    refine (HAL.out _ (HG.out.below HB0.out)).mono ?_
    rintro e w1 ⟨rfl, hB⟩
    have HB := Lib.hid (HB0.out.trans (hB.mono HB0.out.size))
    clear hB
    go_wp2
    go_ret
    exact ⟨rfl, HB.out⟩
  · have hi : ¬ (1200 : Int) < (xs.length : Int) := by omega
    obtain ⟨n, hnn⟩ : ∃ n, n = xs.length := ⟨_, rfl⟩
    have hnl : n ≤ 1000000 := by omega
    have HNN := Lib.hid hnn
    rw [← hnn] at hi ⊢
    clear hnn h12
    go_enter Tryd.func11, Tryd.ntmps11
    go_wp2_with fail
    have hB0 := (Below.refl w.heap.size w).alloc (Nat.le_refl _) (Obj.cells #[.int .i64 st, .int .i64 lb, .int .i64 s0, ev] 24)
    have hbx := heap_alloc_new w (Obj.cells #[.int .i64 st, .int .i64 lb, .int .i64 s0, ev] 24)
    have hq := lentInts_any (c := c) (HS.out.below hB0 (Nat.le_refl _)) (by rw [← HNN.out]; exact hnl)
    rw [← HNN.out] at hq
    refine hq.mono ?_
    rintro e w1 ⟨vl, rfl, hl, hB1⟩
    have hbx1 := (hB1.block w.heap.size (by simp)).trans hbx
    have hB1' := hB0.trans (hB1.mono (by simp))
    obtain ⟨g, cap, rfl, hcap1, hcap2, hsg⟩ := hl.ex
    have hq2 := canon_any (c := cap) hsg.pre (by rw [← HNN.out]; exact hnl) HWF.out
    rw [← HNN.out] at hq2
    have HL := Lib.hid hl; have HB1 := Lib.hid hB1'; have HBX := Lib.hid hbx1; have HQ2 := Lib.hid hq2
    rw [← HNN.out]
    clear hB0 hbx hq hB1 hB1' hbx1 hl hsg hq2 hcap1 hcap2
    go_wp2_with fail
    refine HQ2.out.mono ?_
    rintro e w2 ⟨v, rfl, hown, hB2⟩
    rw [HNN.out, ← canon_len xs] at hown
    obtain ⟨a3, c3, b3, rfl, _, _, h3, _⟩ := slAt_own lenI hown
    have hfi : FI w w2 w.heap.size st lb s0 ev (.slice (some ⟨g, 0, none⟩) n cap) xs a3 b3 a b off p :=
      ⟨by have := HL.out.below hB2; rw [← HNN.out] at this; exact this, h3, HS.out.below (HB1.out.trans (hB2.mono HB1.out.size)) (Nat.le_refl _), HG.out.below (HB1.out.trans (hB2.mono HB1.out.size)), by rw [hB2.block _ (Array.getElem?_eq_some_iff.1 HBX.out).1]; exact HBX.out, HB1.out.trans (hB2.mono HB1.out.size)⟩
    have HB2 := Lib.hid (HB1.out.trans (hB2.mono HB1.out.size))
    obtain ⟨m, hm⟩ : ∃ m, m = (canon xs).length := ⟨_, rfl⟩
    have HM := Lib.hid hm
    rw [← hm]
    have hmn : m = n := by rw [hm, canon_len]; exact HNN.out.symm
    subst hmn
    obtain ⟨k0, k1, k2, k3⟩ := hfi.cells
    have hbx : w.heap.size < w2.heap.size := (Array.getElem?_eq_some_iff.1 hfi.box).1
    clear hown h3 hB2 hm HQ2 HBX HL HB1
    go_wp2_with fail
    have hdr : Below w2.heap.size w2 w2.drew := (Below.refl _ _).drew
    have CA : RowKit.Hid (∀ W, FI w W w.heap.size st lb s0 ev (.slice (some ⟨g, 0, none⟩) m cap) xs a3 b3 a b off p → Calls Tryd.prog 26 #[] W fun e w' => e = .returned (.bool true) ∧ Below W.heap.size W w') := Lib.hid fun W h => HAL.out W h.ger
    have C1 : RowKit.Hid (∀ W, FI w W w.heap.size st lb s0 ev (.slice (some ⟨g, 0, none⟩) m cap) xs a3 b3 a b off p → Calls Tryd.prog 42 #[.slice a m c] W fun e w' => ∃ a1 c1 b1, e = .returned (.slice a1 m c1) ∧ SlAt encI 1 w' a1 b1 0 (canon xs) ∧ Below W.heap.size W w') := Lib.hid fun W h => by
      have q := f_refCanon (c := c) h (by rw [← HNN.out]; exact hnl)
      unfold SlOut at q
      rw [← HNN.out, ← HM.out] at q
      exact q
    have C2 : RowKit.Hid (∀ W a1 b1 c1, FI w W w.heap.size st lb s0 ev (.slice (some ⟨g, 0, none⟩) m cap) xs a3 b3 a b off p → SlAt encI 1 W a1 b1 0 (canon xs) → Calls Tryd.prog 36 #[.slice a3 m c3, .slice a1 m c1] W fun e w' => e = .returned (.bool true) ∧ Below W.heap.size W w') := Lib.hid fun W a1 b1 c1 h h1 => by
      have q := f_same (c3 := c3) (c1 := c1) h h1 (by rw [← HNN.out]; exact hnl)
      rw [← HM.out] at q
      exact q
    have C3 : RowKit.Hid (∀ W, FI w W w.heap.size st lb s0 ev (.slice (some ⟨g, 0, none⟩) m cap) xs a3 b3 a b off p → Calls Tryd.prog 40 #[.agg #[.int .i64 st, .int .i64 lb, .int .i64 s0, ev], .slice (some ⟨g, 0, none⟩) m cap] W fun e w' => e = .returned (.bool (clB st xs)) ∧ Below W.heap.size W w') :=
      Lib.hid fun W h => f_classes h rfl (by rw [← HNN.out]; exact hnl) HWF.out
    have C4 : RowKit.Hid (∀ W, FI w W w.heap.size st lb s0 ev (.slice (some ⟨g, 0, none⟩) m cap) xs a3 b3 a b off p → Calls Tryd.prog 43 #[.agg #[.int .i64 st, .int .i64 lb, .int .i64 s0, ev], .slice a m c] W fun e w' => e = .returned (.bool (clB st xs)) ∧ Below W.heap.size W w') := Lib.hid fun W h => by
      have q := f_refClasses (c := c) h (by rw [← HNN.out]; exact hnl)
      rw [← HNN.out] at q
      exact q
    have C5 : RowKit.Hid (∀ W, FI w W w.heap.size st lb s0 ev (.slice (some ⟨g, 0, none⟩) m cap) xs a3 b3 a b off p → Calls Tryd.prog 44 #[.slice (some ⟨g, 0, none⟩) m cap] W fun e w' => e = .returned (.int .i64 ((dist xs).length : Int)) ∧ Below W.heap.size W w') :=
      Lib.hid fun W h => f_together h rfl (by rw [← HNN.out]; exact hnl) HWF.out
    have C6 : RowKit.Hid (∀ W, FI w W w.heap.size st lb s0 ev (.slice (some ⟨g, 0, none⟩) m cap) xs a3 b3 a b off p → Calls Tryd.prog 45 #[.slice a m c] W fun e w' => e = .returned (.int .i64 ((dist xs).length : Int)) ∧ Below W.heap.size W w') := Lib.hid fun W h => by
      have q := f_refTogether (c := c) h (by rw [← HNN.out]; exact hnl)
      rw [← HNN.out] at q
      exact q
    have C7 : RowKit.Hid (∀ W, FI w W w.heap.size st lb s0 ev (.slice (some ⟨g, 0, none⟩) m cap) xs a3 b3 a b off p → Calls Tryd.prog 46 #[.slice (some ⟨g, 0, none⟩) m cap, .slice a m c] W fun e w' => e = .returned (.bool true) ∧ Below W.heap.size W w') := Lib.hid fun W h => by
      have q := f_stays (c2 := c) h rfl (by rw [← HNN.out]; exact hnl)
      rw [← HNN.out] at q
      exact q
    have hcb : (clB st xs == clB st xs) = true := by simp
    have htb : (((dist xs).length : Int) == ((dist xs).length : Int)) = true := by simp
    clear HAL HG HS HWF
    go_region_held3 (fun w' => w'.cell? ⟨w.heap.size, 0, none⟩ = some (.int .i64 st) ∧ w'.cell? ⟨w.heap.size, 1, none⟩ = some (.int .i64 lb) ∧ w'.cell? ⟨w.heap.size, 2, none⟩ = some (.int .i64 s0) ∧ w'.cell? ⟨w.heap.size, 3, none⟩ = some ev ∧
        FI w w' w.heap.size st lb s0 ev (.slice (some ⟨g, 0, none⟩) m cap) xs a3 b3 a b off p)
      (first | (exact FI.keep (by assumption) (by assumption)) | (go_split_ands; exact FI.keep (by assumption) (by assumption)))
      (first
        | (go_at_call 26; go_split_ands; refine (CA.out _ (by assumption)).mono ?_; rintro e w' ⟨rfl, hB⟩)
        | (go_at_call 42; go_split_ands; refine (C1.out _ (by assumption)).mono ?_; rintro e w' ⟨a1, c1, b1, rfl, hs1, hB⟩)
        | (go_at_call 36; go_split_ands; refine (C2.out _ _ _ _ (by assumption) (by assumption)).mono ?_; rintro e w' ⟨rfl, hB⟩)
        | (go_at_call 40; go_split_ands; refine (C3.out _ (by assumption)).mono ?_; rintro e w' ⟨rfl, hB⟩)
        | (go_at_call 43; go_split_ands; refine (C4.out _ (by assumption)).mono ?_; rintro e w' ⟨rfl, hB⟩)
        | (go_at_call 44; go_split_ands; refine (C5.out _ (by assumption)).mono ?_; rintro e w' ⟨rfl, hB⟩)
        | (go_at_call 45; go_split_ands; refine (C6.out _ (by assumption)).mono ?_; rintro e w' ⟨rfl, hB⟩)
        | (go_at_call 46; go_split_ands; refine (C7.out _ (by assumption)).mono ?_; rintro e w' ⟨rfl, hB⟩))
    go_split_ands
    go_wp2
    go_ret
    exact ⟨rfl, FI.bel (by assumption)⟩
end Go.Proofs.YtfjgedninbpjpaaDoor

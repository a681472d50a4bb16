/-
  Lemmas.
-/
import Derived.Test.YtffjcehopoaboaaGreatDoorGCanon
import Derived.Test.YtffjcehopoaboaaGreatDoorGLent
import Derived.Test.YtffjcehopoaboaaGreatDoorGCheck
import Derived.Test.YtffjcehopoaboaaGreatDoorGPl8
import Derived.Test.YtffjcehopoaboaaGreatDoorGPl4
import Derived.Deep.QuietTactic
import Derived.BigQuiet
import Derived.Test.YtffjcehopoaboaaGreatDoorGRows2
import Derived.Test.YtffjcehopoaboaaGreatDoorGRefReach
import Derived.Test.YtffjcehopoaboaaGreatDoorGRefGd19
import Derived.Deep.RegionHeldLaw
import Derived.Test.YtffjcehopoaboaaGreatDoorRefOut
import Derived.Test.YtffjcehopoaboaaGreatDoorGKeyS
namespace Go.Proofs.YtffjcehopoaboaaGreatDoor
open Go.RowKit Pl
end Go.Proofs.YtffjcehopoaboaaGreatDoor
namespace Go.Proofs.YtffjcehopoaboaaGreatDoor
open Go.RowKit Pl
def RIg (v : Value) (n : Nat) (xs : List Int) : Rw := ⟨3, 1, v, n, xs.flatMap encI⟩
namespace Pl
def sgv (C : List Int) (x : S) : Int := x.1 * 1001 + atL C x.2
end Pl
end Go.Proofs.YtffjcehopoaboaaGreatDoor
namespace Go.Proofs.YtffjcehopoaboaaGreatDoor
open Go.RowKit Pl
end Go.Proofs.YtffjcehopoaboaaGreatDoor
namespace Go.Proofs.YtffjcehopoaboaaGreatDoor
open Go.RowKit Pl
def nkey (C : List Int) (f : Nat → List S) (p : Nat) : Int × List Int := (C.getD p 0, nf ltI ((f p).map (sgv C)))
def RAs (ab n : Nat) (g : Nat → Value) : Rw := ⟨3, 1, .slice (some ⟨ab, 0, none⟩) n n, n, (List.range n).map g⟩
theorem FR.rest {ob m j : Nat} {vs : Nat → Value} {f : Nat → List Int} {rest : List Rw} : (FR ob m vs f ++ rest)[m + 1 + j]? = rest[j]? := by
  have hl : (FR ob m vs f).length = m + 1 := by unfold FR; simp
  rw [List.getElem?_append_right (by omega), hl, show m + 1 + j - (m + 1) = j by omega]
def NXR (sb n : Nat) (vs : Nat → Value) (fq : Nat → List Int) (v : Value) (m : Nat) (D : List Int) (ab : Nat) (g : Nat → Value) : List Rw := FR sb n vs fq ++ [RIg v m D, RAs ab n g]
end Go.Proofs.YtffjcehopoaboaaGreatDoor
namespace Go.Proofs.YtffjcehopoaboaaGreatDoor
open Go.RowKit Pl
open Lib (hid)
theorem rowBBS : IsRow Tryz.prog 31 57 1 24 (.slice none 0 0) := isRow_of Tryz.underlying31 (by kernel_rfl) rfl (by decide)
structure LsB (B : Nat) (w0 wr : World) (n : Nat) (G : Nat → Nat → Bool) (v : Value) (vs : List Value) : Prop where
  bel : Below B w0 wr
  own : wr.ownsRow B 57 1 v vs.length (vs.flatMap encV)
  rows : ∀ (j : Nat) (x : Value), vs[j]? = some x → ∃ b, x = .slice (some ⟨b, 0, none⟩) n n ∧ B ≤ b ∧ wr.rowIs b 4 n (fun q => .bool (G j q))
section
variable {B : Nat} {w0 wr w' wb : World} {n : Nat} {G : Nat → Nat → Bool} {v v' x : Value} {vs : List Value}
theorem LsB.call (h : LsB B w0 wr n G v vs) (hB0 : B ≤ wr.heap.size) (hB : Below wr.heap.size wr w') : LsB B w0 w' n G v vs :=
  ⟨h.bel.trans (hB.mono hB0), own_below h.own hB, fun j x hx => by
    obtain ⟨b, h1, h2, h3⟩ := h.rows j x hx
    exact ⟨b, h1, h2, h3.of_block (hB.block _ h3.lt)⟩⟩
theorem LsB.push {b : Nat} (h : LsB B w0 wr n G v vs) (hB0 : B ≤ wr.heap.size) (hbb : B ≤ b) (hx : wr.rowIs b 4 n (fun q => .bool (G vs.length q)))
    (hown : w'.ownsRow B 57 1 v' (vs.length + 1) (vs.flatMap encV ++ [.slice (some ⟨b, 0, none⟩) n n])) (hg : wr.grownBy w' v.ownBlock) : LsB B w0 w' n G v' (vs ++ [.slice (some ⟨b, 0, none⟩) n n]) := by
  have hrow : ∀ {c : Nat} {f : Nat → Value}, wr.rowIs c 4 n f → w'.rowIs c 4 n f := fun {c f} hc => by
    refine hc.of_block (hg.block c hc.lt (fun e => ?_))
    obtain ⟨cs, h1, _⟩ := hc
    rcases h.own.2 with ⟨h2, _⟩ | ⟨gg, cap, cur, hv, _, hgg, _⟩
    · rw [h2] at e; cases e
    · rw [hv] at e; simp only [Value.ownBlock, Option.some.injEq] at e; subst e; rw [hgg] at h1; simp at h1
  refine ⟨h.bel.grown hg hB0 (fun k e => (h.own.lt k e).1), ?_, fun j y hy => ?_⟩
  · rw [List.flatMap_append, List.length_append]; exact hown
  · rcases Nat.lt_or_ge j vs.length with hj | hj
    · rw [List.getElem?_append_left hj] at hy
      obtain ⟨c, h1, h2, h3⟩ := h.rows j y hy
      exact ⟨c, h1, h2, hrow h3⟩
    · have hq2 : j = vs.length := by have := (List.getElem?_eq_some_iff.1 hy).1; simp at this; omega
      subst hq2
      simp at hy
      subst hy
      exact ⟨b, rfl, hbb, hrow hx⟩
end
structure BoolsIn (w : World) (lb n : Nat) (G : Nat → Nat → Bool) : Prop where
  at_ : ∀ p, p < n → ∃ b, w.cell? ⟨lb, p, none⟩ = some (.slice (some ⟨b, 0, none⟩) n n) ∧ w.rowIs b 4 n (fun q => .bool (G p q))
  lt : 0 < n → lb < w.heap.size
theorem BoolsIn.below {w w' : World} {lb n : Nat} {G : Nat → Nat → Bool} (h : BoolsIn w lb n G) (hB : Below w.heap.size w w') : BoolsIn w' lb n G :=
  ⟨fun p hp => by
    obtain ⟨b, h1, h2⟩ := h.at_ p hp
    exact ⟨b, by rw [hB.cell (p := ⟨lb, p, none⟩) (h.lt (by omega))]; exact h1, h2.of_block (hB.block _ h2.lt)⟩, fun hn => Nat.lt_of_lt_of_le (h.lt hn) hB.size⟩
noncomputable def silG (s : Lts) (p q : Nat) : Bool := decide ((q : Int) ∈ reachL (tauOf s.norm (p : Int)))
set_option maxRecDepth 100000 in
set_option maxHeartbeats 4000000 in
theorem refSilent_any {s : Lts} {n : Nat} (hr : s.Right) (hn : s.st = (n : Int)) {a : Option Addr} {b off c : Nat} {w : World} (hS : SlAt encE 3 w a b off s.es) (hc : s.es.length ≤ c) (hcm : c ≤ maxLen) :
    Calls Tryz.prog 40 #[.agg #[.int .i64 s.st, .int .i64 s.lb, .int .i64 s.s0, .slice a s.es.length c]] w fun e w' => ∃ la lb lc, e = .returned (.slice la n lc) ∧ (0 < n → la = some ⟨lb, 0, none⟩) ∧ BoolsIn w' lb n (silG s) ∧ Below w.heap.size w w' := by
  have hst := hr.st0
  have hn1 : n ≤ 1000 := by omega
  have hB0 := (Below.refl w.heap.size w).alloc (Nat.le_refl _) (Obj.cells #[.int .i64 s.st, .int .i64 s.lb, .int .i64 s.s0, .slice a s.es.length c] 24)
  have hbx := heap_alloc_new w (Obj.cells #[.int .i64 s.st, .int .i64 s.lb, .int .i64 s.s0, .slice a s.es.length c] 24)
  have HO := hid (refOut_any hr (hS.below hB0 (Nat.le_refl _)) hc hcm)
  obtain ⟨el, hel⟩ : ∃ el, el = s.es.length := ⟨_, rfl⟩
  rw [hn, ← hel] at HO hB0 hbx
  rw [hn, ← hel]
  have HB0 := hid hB0; have HBX := hid hbx; have HR := hid hr; have HN := hid hn
  clear hB0 hbx hr hn hS hc hcm hst hel
  go_enter Tryz.func40, Tryz.ntmps40
  go_wp2_with fail
  refine HO.out.mono ?_
  rintro e w2 ⟨ob, n', base, hn', rfl, hrows, hob, hB2⟩
  obtain rfl : n = n' := by have := HN.out; omega
  have hx2 := (hB2.block w.heap.size (by simp)).trans HBX.out
  have HX2 := hid hx2; have HB2 := hid (HB0.out.trans (hB2.mono (by simp))); have HRW := hid (StepsIn.of hrows)
  have hup : LsB w2.heap.size w2 w2 n (silG s) (.slice none 0 0) [] := ⟨Below.refl _ _, ⟨by simp, .inl ⟨rfl, rfl⟩⟩, by simp⟩
  have HUP := hid hup
  clear hrows hob hB2 hx2 hn' hup HO HB0 HBX
  go_wp2_with fail
  go_loopw [4, 5] (fun v4 v5 wr => ∃ (k : Nat) (vs : List Value), v5 = .int .i64 k ∧ k ≤ n ∧ vs.length = k ∧ LsB w2.heap.size w2 wr n (silG s) v4 vs) (fun _ v5 _ => n - (intOf v5).toNat)
  case atStart => exact ⟨0, [], rfl, Nat.zero_le _, rfl, HUP.out⟩
  case round =>
    obtain ⟨k, vs, rfl, hk, hvl, hup⟩ := hrel
    have HU := hid hup; have HVL := hid hvl
    have hsz := hup.bel.size
    have hxr := (hup.bel.block w.heap.size (Array.getElem?_eq_some_iff.1 HX2.out).1).trans HX2.out
    have x0 : wr.cell? ⟨w.heap.size, 0, none⟩ = some (.int .i64 n) := by simp [World.cell?, hxr]
    have xl := (Array.getElem?_eq_some_iff.1 hxr).1
    clear hup hvl HUP hxr
    by_cases hlt : k < n
    · have hkI : (k : Int) < (n : Int) := by omega
      have hfr := refFrom_any (s := s.norm) (c := n) HR.out.norm (srt_nf stoE _) (n := n) (q := k) HN.out hlt (HRW.out.below HU.out.bel)
      have HFR := hid hfr
      clear hfr
      go_wp2_with fail
      refine HFR.out.mono ?_
      rintro e w5 ⟨rb, rfl, hrow, hrb, hB5⟩
      have hu5 := HU.out.call hsz hB5
      have hs5 := hB5.size
      have HU5 := hid hu5; have HRO := hid hrow
      have hrbl := hrow.lt
      clear hu5 hrow hB5 HU HFR x0 xl
      go_wp2_with (at_builtin; refine wpList_lies rfl _ _ 31 rfl rowBBS (base := w2.heap.size) (by simp; omega) rfl (own_below HU5.out.own ((Below.refl w5.heap.size w5).alloc (Nat.le_refl _) _)) ⟨w5.heap.size, 0, none⟩ 1 1 [.slice (some ⟨rb, 0, none⟩) n n] rfl rfl (cells1 (by simp [go_sem])) (by simp [Value.oneCell']) (by omega) (by rw [HVL.out]; omega) (by unfold maxLen; rw [HVL.out]; omega) _ rfl ?_; intro g cap w6 hown6 hg6 _ _)
      have hba := (Below.refl w5.heap.size w5).alloc (Nat.le_refl _) (.cells #[.slice (some ⟨rb, 0, none⟩) n n] 57)
      have hnx := (HU5.out.call (by omega) hba).push (v' := .slice (some ⟨g, 0, none⟩) (vs.length + 1) cap) (b := rb) (by simp; omega) (by omega) (by rw [HVL.out]; exact HRO.out.of_block (hba.block _ hrbl)) hown6 hg6
      have HNX := hid hnx
      clear hnx hown6 hg6 HU5 hba
      go_roundw
      case rel => exact ⟨k + 1, vs ++ [.slice (some ⟨rb, 0, none⟩) n n], by go_num, by omega, by simp [HVL.out], HNX.out⟩
      case measure => simp [intOf]; omega
    · obtain rfl : n = k := by omega
      obtain ⟨va, vc, vb, rfl, _, _, hvs, _⟩ := slAt_own lenV HU.out.own
      have hfin : (0 < n → va = some ⟨vb, 0, none⟩) ∧ BoolsIn wr vb n (silG s) := by
        have hl := HVL.out
        refine ⟨fun h => hvs.ad (by omega), fun p hp => ?_, fun h => hvs.lt (by omega)⟩
        obtain ⟨x, hx⟩ := getElem?_of_lt (xs := vs) (i := p) (by omega)
        obtain ⟨b2, rfl, _, h3⟩ := HU.out.rows p x hx
        have := hvs.cv hx
        simp only [Nat.zero_add] at this
        exact ⟨b2, this, h3⟩
      have HFN := hid hfin
      rw [HVL.out]
      clear hvs hfin
      go_wp2_with fail
      go_ret
      exact ⟨va, vb, vc, rfl, HFN.out.1, HFN.out.2, HB2.out.trans (HU.out.bel.mono HB2.out.size)⟩
end Go.Proofs.YtffjcehopoaboaaGreatDoor

/-
  law11.alive: the small system that every law of chapter 11 asks first.
-/
import Derived.Test.YtbbjmompbmgnmaaDoorTauK
namespace Go.Proofs.YtbbjmompbmgnmaaDoor
open Go.RowKit Pl

namespace Pl
def aliveT : Lts := ⟨4, 2, 0, [(0, 0, 1), (1, 0, 0), (1, 1, 2), (2, 0, 3)]⟩
theorem aliveT_right : aliveT.Right := ⟨by unfold HeadBad aliveT; simp, by decide⟩
def aliveG (x : Nat) : Int := if x ≤ 1 then 2 else if x = 2 then 1 else 0
theorem aliveT_tau {x y : Nat} : tau aliveT x y ↔ (x = 0 ∧ y = 1) ∨ (x = 1 ∧ y = 0) ∨ (x = 2 ∧ y = 3) := by
  unfold tau aliveT
  simp
  omega
theorem aliveT_cyc : Cyc aliveT 4 aliveG where
  down x y h := by
    rcases aliveT_tau.1 h with ⟨rfl, rfl⟩ | ⟨rfl, rfl⟩ | ⟨rfl, rfl⟩ <;> decide
  same x y hx hy := by
    have hd : ∀ x y, TR aliveT x y → aliveG y ≤ aliveG x := by
      intro x y h
      induction h with
      | refl => omega
      | tail _ ht ih =>
        refine Int.le_trans ?_ ih
        rcases aliveT_tau.1 ht with ⟨rfl, rfl⟩ | ⟨rfl, rfl⟩ | ⟨rfl, rfl⟩ <;> decide
    constructor
    · intro h
      by_cases e : x = y
      · subst e; exact ⟨.refl, .refl⟩
      · have h01 : TR aliveT 0 1 := TR.refl.tail (aliveT_tau.2 (.inl ⟨rfl, rfl⟩))
        have h10 : TR aliveT 1 0 := TR.refl.tail (aliveT_tau.2 (.inr (.inl ⟨rfl, rfl⟩)))
        have : (x = 0 ∧ y = 1) ∨ (x = 1 ∧ y = 0) := by
          unfold aliveG at h
          by_cases a1 : x ≤ 1 <;> by_cases a2 : y ≤ 1 <;> by_cases a3 : x = 2 <;> by_cases a4 : y = 2 <;> simp [a1, a2, a3, a4] at h <;> omega
        rcases this with ⟨rfl, rfl⟩ | ⟨rfl, rfl⟩
        · exact ⟨h01, h10⟩
        · exact ⟨h10, h01⟩
    · rintro ⟨h1, h2⟩
      have := hd _ _ h1; have := hd _ _ h2
      omega
theorem aliveT_cls {f : Nat → Int} (h : Cyc aliveT 4 f) : fl 4 (clf 4 f) = [0, 0, 1, 2] := by
  rw [← canon_fl, h.unique aliveT_cyc]
  decide
def aliveC : Lts := ⟨3, 2, 0, [(0, 1, 1), (1, 0, 2)]⟩
theorem aliveT_col : col aliveT [0, 0, 1, 2] = aliveC := by
  unfold aliveC
  have h1 : (dist [0, 0, 1, 2]).length = 3 := by decide
  have h2 : nf ltE (colE [0, 0, 1, 2] aliveT.es) = [(0, 1, 1), (1, 0, 2)] := by decide
  unfold col
  rw [h1, h2]
  rfl
theorem aliveC_ord : OrdL aliveC 3 [0, 2, 1] :=
  .step (D := [0, 2]) (.step (D := [0]) (.step (D := []) .nil ⟨by decide, by decide, by decide, by decide⟩) ⟨by decide, by decide, by decide, by decide⟩) ⟨by decide, by decide, by decide, by decide⟩
theorem aliveC_D {D : List Nat} (h : OrdL aliveC 3 D) (ha : ∀ k, k < 3 → k ∈ D) : D = [0, 2, 1] := by
  refine h.unique aliveC_ord ?_
  have h1 := nodup_sub D (List.range 3) h.nodup (fun x hx => List.mem_range.2 (h.rng x hx))
  have h2 := nodup_sub (List.range 3) D List.nodup_range (fun x hx => ha x (List.mem_range.1 hx))
  simp at h1 h2 ⊢
  omega
end Pl
theorem aliveT_list : ([0, 2, 1].flatMap fun k : Nat => memK [0, 0, 1, 2] 4 (k : Int)) = [0, 1, 3, 2] := by decide

set_option maxRecDepth 100000 in
theorem alive11_any {w : World} {p : Addr} (hG : GErr 0 p w) :
    Calls Tryd.prog 19 #[] w fun e w' => e = .returned (.bool true) ∧ Below w.heap.size w w' := by
  have HG := Lib.hid hG
  clear hG
  go_enter Tryd.func19, Tryd.ntmps19
  go_wp2_with fail
  have hS : SlAt encE 3 (w.alloc (.cells #[.int .i64 0, .int .i64 0, .int .i64 1, .int .i64 1, .int .i64 0, .int .i64 0, .int .i64 1, .int .i64 1, .int .i64 2, .int .i64 2, .int .i64 0, .int .i64 3] 35)) (some ⟨w.heap.size, 0, none⟩) w.heap.size 0 aliveT.es := by
    have h := World.ownsRow_lit (e := 35) (size := 3) (base := w.heap.size) w #[.int .i64 0, .int .i64 0, .int .i64 1, .int .i64 1, .int .i64 0, .int .i64 0, .int .i64 1, .int .i64 1, .int .i64 2, .int .i64 2, .int .i64 0, .int .i64 3] 4 (Nat.le_refl _) (by unfold maxLen; omega) rfl
    obtain ⟨a, c, b, hv, _, _, hs, _⟩ := slAt_own (xs := aliveT.es) lenE h
    simp only [Value.slice.injEq] at hv
    obtain ⟨rfl, _, _⟩ := hv
    have := hs.ad (by decide)
    simp at this
    subst this
    exact hs
  have hB0 := ((Below.refl w.heap.size w).alloc (Nat.le_refl _) (.cells #[.int .i64 0, .int .i64 0, .int .i64 1, .int .i64 1, .int .i64 0, .int .i64 0, .int .i64 1, .int .i64 1, .int .i64 2, .int .i64 2, .int .i64 0, .int .i64 3] 35)).alloc (by simp) (.cells #[.int .i64 4, .int .i64 2, .int .i64 0, .slice (some ⟨w.heap.size, 0, none⟩) 4 4] 24)
  have hx0 := heap_alloc_new (w.alloc (.cells #[.int .i64 0, .int .i64 0, .int .i64 1, .int .i64 1, .int .i64 0, .int .i64 0, .int .i64 1, .int .i64 1, .int .i64 2, .int .i64 2, .int .i64 0, .int .i64 3] 35)) (.cells #[.int .i64 4, .int .i64 2, .int .i64 0, .slice (some ⟨w.heap.size, 0, none⟩) 4 4] 24)
  rw [show (w.alloc (.cells #[.int .i64 0, .int .i64 0, .int .i64 1, .int .i64 1, .int .i64 0, .int .i64 0, .int .i64 1, .int .i64 1, .int .i64 2, .int .i64 2, .int .i64 0, .int .i64 3] 35)).heap.size = w.heap.size + 1 by simp] at hx0
  have hS1 := hS.alloc (.cells #[.int .i64 4, .int .i64 2, .int .i64 0, .slice (some ⟨w.heap.size, 0, none⟩) 4 4] 24)
  refine (cyclesYes_any (s := aliveT) (n := 4) (c := 4) aliveT_right rfl (HG.out.below hB0) hS1).mono ?_
  rintro e w1 ⟨f, v, hcyc, rfl, hown, hB1⟩
  rw [aliveT_cls hcyc] at hown
  obtain ⟨la, lc, lb, rfl, _, _, hls, hlb⟩ := slAt_own (xs := [0, 0, 1, 2]) lenI hown
  obtain rfl := hls.ad (by decide)
  have l3 := hls.ci (i := 3) (x := 2) rfl
  have ll := hls.lt (by decide)
  simp only [Nat.zero_add] at l3
  have hx1 := (hB1.block (w.heap.size + 1) (by simp)).trans hx0
  have hB1' := hB0.trans (hB1.mono (by simp; omega))
  have hS2 := hS1.below hB1 (Nat.le_refl _)
  have HB1 := Lib.hid hB1'; have HS := Lib.hid hS2; have HG1 := Lib.hid (HG.out.below hB1'); have HLS := Lib.hid hls
  obtain ⟨x0, x1, x2, x3, x4⟩ := sysC hx1
  clear hB0 hx0 hS hS1 hcyc hown hlb hx1 hB1 hB1' hS2 HG hls
  go_wp2_with fail
  refine (orderYes_any (s := aliveT) (n := 4) (c := 4) aliveT_right rfl HG1.out HS.out).mono ?_
  rintro e w2 ⟨f, D, v, hcyc, hD, hall, rfl, hown, hB2⟩
  rw [aliveT_cls hcyc] at hown hD hall
  rw [aliveT_col, show (dist [0, 0, 1, 2]).length = 3 by decide] at hD
  rw [show (dist [0, 0, 1, 2]).length = 3 by decide] at hall
  rw [aliveC_D hD hall, aliveT_list] at hown
  obtain ⟨ma, mc, mb, rfl, _, _, hms, hmb⟩ := slAt_own (xs := [0, 1, 3, 2]) lenI hown
  obtain rfl := hms.ad (by decide)
  have m2 := hms.ci (i := 2) (x := 3) rfl
  have ml := hms.lt (by decide)
  have hls2 := HLS.out.below hB2 (Nat.le_refl _)
  have k3 := hls2.ci (i := 3) (x := 2) rfl
  have kl := hls2.lt (by decide)
  simp only [Nat.zero_add] at m2 k3
  have HB2 := Lib.hid (HB1.out.trans (hB2.mono HB1.out.size))
  clear hcyc hD hall hown hB2 hmb hms hls2 l3 ll x0 x1 x2 x3 x4 HLS HS HG1 HB1
  go_wp2_with fail
  go_ret
  exact ⟨rfl, HB2.out⟩
end Go.Proofs.YtbbjmompbmgnmaaDoor

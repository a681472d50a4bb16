/-
  law7.SystemOneForm.
-/
import Derived.Test.YtfjgedninbpjpaaDoorAlive
import Derived.Test.YtfjgedninbpjpaaDoorClasses
import Derived.Test.YtfjgedninbpjpaaDoorSameInts
namespace Go.Proofs.YtfjgedninbpjpaaDoor
open Go.RowKit Pl

namespace Pl
theorem canon_wf {l : List Int} (h : l.length ≤ 1000000) : ∀ x ∈ canon l, (Lit.int .i64 x).wf = true := by
  intro x hx
  unfold canon at hx
  obtain ⟨y, hy, rfl⟩ := List.mem_map.1 hx
  have h1 := dist_len l
  have h2 : (dist l).idxOf y ≤ (dist l).length := List.idxOf_le_length
  exact WalkArith.wf_i64 (by omega)

/-- The pairs ahead of (i, k). -/
def SameUp (xs ys : List Int) (i k : Nat) : Prop := ∀ i' k', (i' < i ∨ (i' = i ∧ k' < k)) → k' < i' → ∀ x y x' y', xs[i']? = some x → xs[k']? = some y → ys[i']? = some x' → ys[k']? = some y' → (x = y ↔ x' = y')

theorem SameUp.zero (xs ys : List Int) : SameUp xs ys 0 0 := by intro i' k' h; omega
theorem SameUp.next {xs ys : List Int} {i : Nat} : SameUp xs ys i i ↔ SameUp xs ys (i + 1) 0 := by
  constructor
  · intro h i' k' h1 h2; exact h i' k' (by omega) h2
  · intro h i' k' h1 h2; exact h i' k' (by omega) h2
theorem SameUp.step {xs ys : List Int} {i k : Nat} (hk : k < i) {x y x' y' : Int} (hx : xs[i]? = some x) (hy : xs[k]? = some y) (hx' : ys[i]? = some x') (hy' : ys[k]? = some y') :
    SameUp xs ys i (k + 1) ↔ SameUp xs ys i k ∧ (x = y ↔ x' = y') := by
  constructor
  · intro h; exact ⟨fun i' k' h1 h2 => h i' k' (by omega) h2, h i k (by omega) hk _ _ _ _ hx hy hx' hy'⟩
  · rintro ⟨h, he⟩ i' k' h1 h2
    by_cases e : i' = i ∧ k' = k
    · obtain ⟨rfl, rfl⟩ := e
      intro a b a' b' ha hb ha' hb'
      rw [hx] at ha; rw [hy] at hb; rw [hx'] at ha'; rw [hy'] at hb'
      cases ha; cases hb; cases ha'; cases hb'
      exact he
    · exact h i' k' (by omega) h2
theorem SameUp.all {xs ys : List Int} : SameUp xs ys xs.length 0 ↔ SameT xs ys := by
  constructor
  · intro h i k x y x' y' hk hx hy hx' hy'
    have := (List.getElem?_eq_some_iff.1 hx).1
    exact h i k (by omega) hk _ _ _ _ hx hy hx' hy'
  · intro h i k _ hk x y x' y' hx hy hx' hy'
    exact h i k x y x' y' hk hx hy hx' hy'
end Pl

set_option maxRecDepth 100000 in
set_option maxHeartbeats 4000000 in
theorem oneForm_any {w : World} {p : Addr} (hG : GErr 0 p w) {a1 a2 : Option Addr} {b1 o1 c1 b2 o2 c2 : Nat} {xs ys : List Int}
    (h1 : SlAt encI 1 w a1 b1 o1 xs) (h2 : SlAt encI 1 w a2 b2 o2 ys) (wx : ∀ x ∈ xs, (Lit.int .i64 x).wf = true) (wy : ∀ x ∈ ys, (Lit.int .i64 x).wf = true) :
    Calls Tryd.prog 10 #[.slice a1 xs.length c1, .slice a2 ys.length c2] w fun e w' => e = .returned (.bool true) ∧ Below w.heap.size w w' := by
  have HG := Lib.hid hG; have H1 := Lib.hid h1; have H2 := Lib.hid h2; have WX := Lib.hid wx; have WY := Lib.hid wy
  clear hG h1 h2 wx wy
  by_cases h60 : 60 < xs.length
  · have hi : (60 : Int) < (xs.length : Int) := by omega
    go_enter Tryd.func10, Tryd.ntmps10
    go_wp2_with fail
    refine (alive_any HG.out).mono ?_
    rintro e w1 ⟨rfl, hB⟩
    go_wp2
    go_ret
    exact ⟨rfl, hB⟩
  · have hi : ¬ (60 : Int) < (xs.length : Int) := by omega
    by_cases hl : xs.length = ys.length
    · have hlb : ((xs.length : Int) != (ys.length : Int)) = false := by simp [hl]
      have HL := Lib.hid hl
      clear hl
      obtain ⟨n, hn⟩ : ∃ n, n = xs.length := ⟨_, rfl⟩
      have hn' : n = ys.length := hn.trans HL.out
      have HN := Lib.hid hn; have HN' := Lib.hid hn'
      have hn60 : n ≤ 60 := by omega
      rw [← hn] at hi hlb ⊢; rw [← hn'] at hlb ⊢
      clear hn hn' h60
      go_enter Tryd.func10, Tryd.ntmps10
      go_wp2_with fail
      have hq := canon_any (c := c1) H1.out (by have := HN.out; omega) WX.out
      rw [← HN.out] at hq
      refine hq.mono ?_
      rintro e w1 ⟨v, rfl, hown, hB1⟩
      rw [HN.out, ← canon_len xs] at hown
      obtain ⟨a3, c3, b3, rfl, _, _, h3, _⟩ := slAt_own lenI hown
      rw [canon_len xs, ← HN.out]
      have H3 := Lib.hid h3; have HB1 := Lib.hid hB1
      clear hq hown h3 hB1
      go_wp2_with fail
      have hq := canon_any (c := c2) (H2.out.below HB1.out (Nat.le_refl _)) (by have := HN'.out; omega) WY.out
      rw [← HN'.out] at hq
      refine hq.mono ?_
      rintro e w2 ⟨v, rfl, hown, hB2⟩
      rw [HN'.out, ← canon_len ys] at hown
      obtain ⟨a4, c4, b4, rfl, _, _, h4, _⟩ := slAt_own lenI hown
      rw [canon_len ys, ← HN'.out]
      have h3 := H3.out.below hB2 (Nat.le_refl _)
      have H3 := Lib.hid h3; have H4 := Lib.hid h4; have HB2 := Lib.hid (HB1.out.trans (hB2.mono HB1.out.size))
      clear hq hown h4 hB2 h3
      go_wp2_with fail
      have hq := canon_any (c := c3) H3.out (by rw [canon_len]; have := HN.out; omega) (canon_wf (by have := HN.out; omega))
      rw [canon_canon, canon_len, ← HN.out] at hq
      refine hq.mono ?_
      rintro e w3 ⟨v, rfl, hown, hB3⟩
      rw [HN.out, ← canon_len xs] at hown
      obtain ⟨a5, c5, b5, rfl, _, _, h5, _⟩ := slAt_own lenI hown
      rw [canon_len xs, ← HN.out]
      have hq2 := sameInts_any (c1 := c5) (c2 := c3) h5 (H3.out.below hB3 (Nat.le_refl _)) (by rw [canon_len]; have := HN.out; omega) (by rw [canon_len]; have := HN.out; omega)
      rw [canon_len, ← HN.out] at hq2
      have H3 := Lib.hid (H3.out.below hB3 (Nat.le_refl _)); have H4 := Lib.hid (H4.out.below hB3 (Nat.le_refl _)); have HB3 := Lib.hid (HB2.out.trans (hB3.mono HB2.out.size))
      have HQ2 := Lib.hid hq2
      clear hq hown h5 hB3 hq2
      go_wp2_with fail
      refine HQ2.out.mono ?_
      rintro e w4 ⟨rfl, m, rfl⟩
      simp only [decide_true]
      go_wp2_with fail
      go_loopw [7, 8, 9] (fun v7 v8 _ wr => ∃ (i : Nat) (s : Bool), i ≤ n ∧ v8 = .int .i64 i ∧ v7 = .bool s ∧ (s = true ↔ SameUp xs ys i 0) ∧ Below w3.heap.size w3 wr)
        (fun _ v8 _ _ => n - (intOf v8).toNat)
      case atStart => exact ⟨0, true, Nat.zero_le _, rfl, rfl, ⟨fun _ => SameUp.zero _ _, fun _ => rfl⟩, below_drewN (Below.refl _ _)⟩
      case round =>
        obtain ⟨i, s, hi, rfl, rfl, hs, hB⟩ := hrel
        have HS := Lib.hid hs; have HB := Lib.hid hB
        clear hs hB
        by_cases hlt : i < n
        · have hii : (i : Int) < (n : Int) := by omega
          go_wp2_with fail
          go_loopw [7, 9] (fun v7 v9 wr => ∃ (k : Nat) (s : Bool), k ≤ i ∧ v9 = .int .i64 k ∧ v7 = .bool s ∧ (s = true ↔ SameUp xs ys i k) ∧ Below w3.heap.size w3 wr)
            (fun _ v9 _ => i - (intOf v9).toNat)
          case atStart => exact ⟨0, s, Nat.zero_le _, rfl, rfl, HS.out, HB.out⟩
          case round =>
            obtain ⟨k, s, hk, rfl, rfl, hs, hB⟩ := hrel
            have HS := Lib.hid hs; have HB := Lib.hid hB
            clear hs hB
            by_cases hkl : k < i
            · have hki : (k : Int) < (i : Int) := by omega
              have hkn : (k : Int) < (n : Int) := by omega
              obtain ⟨x, hx⟩ := getElem?_of_lt (xs := xs) (i := i) (by have := HN.out; omega)
              obtain ⟨y, hy⟩ := getElem?_of_lt (xs := xs) (i := k) (by have := HN.out; omega)
              obtain ⟨x', hx'⟩ := getElem?_of_lt (xs := ys) (i := i) (by have := HN'.out; omega)
              obtain ⟨y', hy'⟩ := getElem?_of_lt (xs := ys) (i := k) (by have := HN'.out; omega)
              have hBw := HB3.out.trans (HB.out.mono HB3.out.size)
              have s1 := H1.out.below hBw (Nat.le_refl _)
              have s2 := H2.out.below hBw (Nat.le_refl _)
              have s3 := H3.out.below HB.out (Nat.le_refl _)
              obtain rfl := s1.ad (by have := HN.out; omega)
              obtain rfl := s2.ad (by have := HN'.out; omega)
              obtain rfl := s3.ad (by rw [canon_len]; have := HN.out; omega)
              have d1 := s1.ci hx
              have d2 := s1.ci hy
              have d3 := s2.ci hx'
              have d4 := s2.ci hy'
              have d5 := s3.ci (i := i) (by rw [canon_get, hx]; rfl)
              have d6 := s3.ci (i := k) (by rw [canon_get, hy]; rfl)
              simp only [Nat.zero_add] at d5 d6
              have hce := canon_eq_iff hx hy
              obtain ⟨cx, hcx⟩ : ∃ cx : Int, cx = ((dist xs).idxOf x : Int) := ⟨_, rfl⟩
              obtain ⟨cy, hcy⟩ : ∃ cy : Int, cy = ((dist xs).idxOf y : Int) := ⟨_, rfl⟩
              rw [← hcx] at d5 hce; rw [← hcy] at d6 hce
              have hst := SameUp.step hkl hx hy hx' hy'
              have HST := Lib.hid hst
              clear hcx hcy hx hy hx' hy' s1 s2 s3 hst hBw
              by_cases hxy : x = y
              · have e1 : (x == y) = true := by simp [hxy]
                have e2 : (cx == cy) = true := by simp [hce, hxy]
                have HXY := Lib.hid hxy
                clear hxy hce
                obtain ⟨b3, e3⟩ : ∃ b3, (x' == y') = b3 := ⟨_, rfl⟩
                have e3p : (x' = y') ↔ b3 = true := by rw [← e3]; simp
                have E3 := Lib.hid e3p
                clear e3p
                cases s
                · go_wp2_with fail
                  go_quiet (fail)
                  go_wp2_with fail
                  go_quiet (fail)
                  go_wp2
                  go_roundw
                  case rel => exact ⟨k + 1, false, by omega, by go_num, rfl, by rw [HST.out, ← HS.out]; simp, below_drewN HB.out⟩
                  case measure => simp [intOf]; omega
                · go_wp2_with fail
                  go_quiet (fail)
                  go_wp2_with fail
                  go_quiet (fail)
                  go_wp2
                  go_roundw
                  case rel => exact ⟨k + 1, b3, by omega, by go_num, rfl, by rw [HST.out, ← HS.out, E3.out]; simp [HXY.out], below_drewN HB.out⟩
                  case measure => simp [intOf]; omega
              · have e1 : (x == y) = false := by simp [hxy]
                have e2 : (cx == cy) = false := by simp [hce, hxy]
                have HXY := Lib.hid hxy
                clear hxy hce
                obtain ⟨b3, e3⟩ : ∃ b3, (x' == y') = b3 := ⟨_, rfl⟩
                have e3p : (x' = y') ↔ b3 = true := by rw [← e3]; simp
                have E3 := Lib.hid e3p
                clear e3p
                cases s
                · go_wp2_with fail
                  go_quiet (fail)
                  go_wp2_with fail
                  go_quiet (fail)
                  go_wp2
                  go_roundw
                  case rel => exact ⟨k + 1, false, by omega, by go_num, rfl, by rw [HST.out, ← HS.out]; simp, below_drewN HB.out⟩
                  case measure => simp [intOf]; omega
                · go_wp2_with fail
                  go_quiet (fail)
                  go_wp2_with fail
                  go_quiet (fail)
                  go_wp2
                  go_roundw
                  case rel => exact ⟨k + 1, !b3, by omega, by go_num, rfl, by rw [HST.out, ← HS.out, E3.out]; simp [HXY.out], below_drewN HB.out⟩
                  case measure => simp [intOf]; omega
            · obtain rfl : k = i := by omega
              go_wp2
              go_roundw
              case rel => exact ⟨k + 1, s, by omega, by go_num, rfl, by rw [HS.out]; exact SameUp.next, HB.out⟩
              case measure => simp [intOf]; omega
        · obtain rfl : i = n := by omega
          go_wp2_with fail
          have hsame : decide (canon xs = canon ys) = s := by
            have := sameT_canon HL.out
            rw [← SameUp.all, ← HN.out, ← HS.out] at this
            cases s <;> simp [this]
          have HSM := Lib.hid hsame
          have HW := Lib.hid (HB3.out.trans (HB.out.mono HB3.out.size))
          clear hsame
          refine (alive_any (HG.out.below HW.out)).mono ?_
          rintro e w5 ⟨rfl, hB5⟩
          have h3 := H3.out.below (HB.out.trans (hB5.mono HB.out.size)) (Nat.le_refl _)
          have h4 := H4.out.below (HB.out.trans (hB5.mono HB.out.size)) (Nat.le_refl _)
          have hq := sameInts_any (c1 := c3) (c2 := c4) h3 h4 (by rw [canon_len]; have := HN.out; omega) (by rw [canon_len]; have := HN'.out; omega)
          rw [canon_len, canon_len, ← HN.out, ← HN'.out, HSM.out] at hq
          have H3' := Lib.hid h3; have HQ := Lib.hid hq; have HB5 := Lib.hid (HW.out.trans (hB5.mono HW.out.size))
          clear h3 h4 hq hB5
          go_wp2_with fail
          refine HQ.out.mono ?_
          rintro e w6 ⟨rfl, m6, rfl⟩
          have h3 := H3'.out.below (below_drewN (n := m6) (Below.refl w5.heap.size w5)) (Nat.le_refl _)
          have hcl := classes_any (c := c3) i 0 0 (.slice none 0 0) h3 (by rw [canon_len]; have := HN.out; omega) (canon_wf (by have := HN.out; omega))
          rw [canon_len, ← HN.out] at hcl
          have hclb : clB i (canon xs) = true := by unfold clB; rw [canon_canon, canon_len, ← HN.out]; simp
          rw [hclb] at hcl
          have HCL := Lib.hid hcl
          clear h3 hcl hclb
          have hss : (s == s) = true := by simp
          go_wp2_with fail
          refine HCL.out.mono ?_
          rintro e w7 ⟨rfl, hB7⟩
          have HB7 := Lib.hid ((below_drewN (n := m6) HB5.out).trans (hB7.mono HB5.out.size))
          clear hB7
          go_wp2
          go_ret
          exact ⟨rfl, HB7.out⟩
    · have hlb : ((xs.length : Int) != (ys.length : Int)) = true := by simp; omega
      go_enter Tryd.func10, Tryd.ntmps10
      go_wp2_with fail
      refine (alive_any HG.out).mono ?_
      rintro e w1 ⟨rfl, hB⟩
      go_wp2
      go_ret
      exact ⟨rfl, hB⟩
end Go.Proofs.YtfjgedninbpjpaaDoor

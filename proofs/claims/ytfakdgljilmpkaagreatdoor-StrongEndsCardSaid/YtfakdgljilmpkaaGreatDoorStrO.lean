/-
  strong.play: may.
-/
import Derived.Test.YtfakdgljilmpkaaGreatDoorGStrL
import Derived.Test.YtfakdgljilmpkaaGreatDoorGStrC
import Derived.Test.YtfakdgljilmpkaaGreatDoorGSortI
import Derived.Test.YtfakdgljilmpkaaGreatDoorGEqual
import Derived.Test.YtfakdgljilmpkaaGreatDoorPlU
import Derived.Test.YtfakdgljilmpkaaGreatDoorGPlT
namespace Go.Proofs.YtfakdgljilmpkaaGreatDoor
open Go.RowKit Pl

section
variable {w0 w : World} {s : Lts} {K : PK} {S : SK} {n : Nat} {el pl inn : Nat → Nat} {bl : List B3} {hp ga : Nat → Nat} {sz : List Int} {tl : List Value} {rest : List Rw}

theorem may_head {n : Nat} {inn hp : Nat → Nat} {z : Int} {l : List Int} (h : MayB n inn hp (z :: l)) : ∃ i : Nat, z = (i : Int) ∧ i < n ∧ (z :: l) = (memN n inn (inn i)).map Int.ofNat := by
  obtain ⟨p, hp1, h1, h2⟩ := h
  obtain ⟨i, m, hm⟩ : ∃ i m, memN n inn (inn p) = i :: m := by
    cases hm : memN n inn (inn p) with
    | nil => rw [hm] at h1; simp at h1
    | cons i m => exact ⟨i, m, rfl⟩
  have hi : i ∈ memN n inn (inn p) := by rw [hm]; simp
  obtain ⟨hi1, hi2⟩ := mem_memN.1 hi
  refine ⟨i, ?_, hi1, ?_⟩
  · rw [hm] at h1; simp at h1; exact h1.1
  · rw [hi2]; exact h1

theorem may_nil {n : Nat} {inn hp : Nat → Nat} : ¬ MayB n inn hp [] := fun ⟨p, hp1, h1, _⟩ => by
  have : p ∈ memN n inn (inn p) := mem_memN.2 ⟨hp1, rfl⟩
  have h2 : memN n inn (inn p) = [] := by simpa using h1.symm
  rw [h2] at this
  simp at this

theorem may_iff {s : Lts} {n : Nat} {inn hp ga : Nat → Nat} {sz : List Int} (hr : RunS s n inn hp ga sz) {i : Nat} (hi : i < n) {L : List Int} (hL : L = (memN n inn (inn i)).map Int.ofNat) : MayB n inn hp L ↔ smallB L.length (memN n hp (hp i)).length = true := by
  have hlen : L.length = (memN n inn (inn i)).length := by rw [hL, List.length_map]
  constructor
  · rintro ⟨p, hp1, h1, h2⟩
    have h3 : i ∈ memN n inn (inn i) := mem_memN.2 ⟨hi, rfl⟩
    have h4 : (i : Int) ∈ L := by rw [hL]; exact List.mem_map.2 ⟨i, h3, rfl⟩
    rw [h1] at h4
    obtain ⟨j, hj, hji⟩ := List.mem_map.1 h4
    have hji : j = i := by have h9 : (j : Int) = (i : Int) := hji; omega
    subst hji
    have h5 := (mem_memN.1 hj).2
    have h6 := hr.run.sub j p hi hp1 h5
    rw [hlen, h6, h5]
    exact h2
  · intro h
    exact ⟨i, hi, hL, by rw [← hlen]; exact h⟩

/-- A row reads as a list, wherever it lies. -/
def CanO (W : World) (a1 : Option Addr) (L : List Int) : Prop := ∃ b1, SlAt encI 1 W a1 b1 0 L
theorem CanO.below {W W' : World} {a1 : Option Addr} {L : List Int} (h : CanO W a1 L) (hB : Below W.heap.size W W') : CanO W' a1 L := by
  obtain ⟨b, h⟩ := h
  exact ⟨b, h.below hB (Nat.le_refl _)⟩

set_option maxRecDepth 100000 in
set_option maxHeartbeats 4000000 in
theorem may_any (h : SW w0 w s K S n el pl inn bl hp ga sz tl rest) (hr : RunS s n inn hp ga sz) {L : List Int} (hL : L.length ≤ 9223372036854775807) {ia : Option Addr} {ib io ic : Nat} (hS : SlAt encI 1 w ia ib io L) :
    Calls Tryz.prog 81 #[.pointer (some ⟨S.xb, 0, none⟩), .slice ia L.length ic] w fun e w' => (∃ r : Bool, e = .returned (.bool r) ∧ (r = true ↔ MayB n inn hp L)) ∧ Below w.heap.size w w' := by
  obtain ⟨c0, c1, c2, c3, c4, c5, c6, xl⟩ := h.run.sCells
  have HSW := Lib.hid h; have HRS := Lib.hid hr; have HS := Lib.hid hS
  have hn1 := h.par.n1
  cases L with
  | nil =>
    clear h hr hS hL c0 c1 c3 c4 c5 c6
    go_enter Tryz.func81, Tryz.ntmps81
    go_wp2_with fail
    go_quiet (fail)
    go_wp2_with fail
    go_ret
    exact ⟨⟨false, rfl, by simp [may_nil]⟩, bdrewP (Below.refl _ _) _⟩
  | cons z l =>
    obtain rfl := hS.ad (by simp)
    have d0 : w.cell? ⟨ib, io, none⟩ = some (.int .i64 z) := by have := hS.ci (i := 0) (x := z) rfl; simpa using this
    have dl := hS.lt (by simp)
    obtain ⟨m, hm⟩ : ∃ m, m = (z :: l).length := ⟨_, rfl⟩
    have hm0 : 0 < m := by rw [hm]; simp
    rw [← hm] at hL ⊢
    have HM := Lib.hid hm
    have k0 : ((m : Int) == 0) = false := by simp; omega
    have hml : (0 : Int) < (m : Int) := by omega
    by_cases hz1 : z < 0
    · clear h hr hS hm c0 c1 c3 c4 c5 c6
      have HNO : RowKit.Hid (¬ MayB n inn hp (z :: l)) := Lib.hid (fun h => by obtain ⟨i, hi, _⟩ := may_head h; omega)
      go_enter Tryz.func81, Tryz.ntmps81
      go_wp2_with fail
      go_quiet (fail)
      go_wp2_with fail
      go_ret
      exact ⟨⟨false, rfl, by simp [HNO.out]⟩, bdrewP (Below.refl _ _) _⟩
    by_cases hz2 : (n : Int) ≤ z
    · clear h hr hS hm c0 c1 c3 c4 c5 c6
      have k1 : decide (z < 0) = false := decide_eq_false hz1
      have HNO : RowKit.Hid (¬ MayB n inn hp (z :: l)) := Lib.hid (fun h => by obtain ⟨i, hi, _⟩ := may_head h; omega)
      go_enter Tryz.func81, Tryz.ntmps81
      go_wp2_with fail
      go_quiet (fail)
      go_wp2_with fail
      go_ret
      exact ⟨⟨false, rfl, by simp [HNO.out]⟩, bdrewP (Below.refl _ _) _⟩
    have k1 : decide (z < 0) = false := decide_eq_false hz1
    have k2 : decide ((n : Int) ≤ z) = false := decide_eq_false hz2
    clear h hr hS hm c0 c3 c4 c5 c6
    go_enter Tryz.func81, Tryz.ntmps81
    go_wp2_with fail
    go_quiet (fail)
    go_upto_region 3 with fail
    obtain ⟨i, rfl⟩ := Int.eq_ofNat_of_zero_le (show 0 ≤ z by omega)
    have hi : i < n := by omega
    clear k0 k1 k2 hz1 hz2
    have HB0 : RowKit.Hid (∀ W, Below w.heap.size w W → Calls Tryz.prog 115 #[.pointer (some ⟨K.pb, 0, none⟩), .int .i64 (i : Int)] W fun e w' => e = .returned (.tuple #[.int .i64 (inn i), .nilIface]) ∧ Below w.heap.size w w') := Lib.hid (fun W hW => (parBlock_any (HSW.out.call hW).par hi).mono (by
      rintro e w' ⟨rfl, hB⟩
      exact ⟨rfl, hW.trans (hB.mono hW.size)⟩))
    have HKEEP : RowKit.Hid (∀ W, Below w.heap.size w W → W.cell? ⟨S.xb, 1, none⟩ = some (.pointer (some ⟨K.pb, 0, none⟩)) ∧ W.cell? ⟨ib, io, none⟩ = some (.int .i64 (i : Int)) ∧ S.xb < W.heap.size ∧ ib < W.heap.size ∧ Below w.heap.size w W) := Lib.hid (fun W hW =>
      ⟨by rw [hW.cell (p := ⟨S.xb, 1, none⟩) xl]; exact c1, by rw [hW.cell (p := ⟨ib, io, none⟩) dl]; exact d0, Nat.lt_of_lt_of_le xl hW.size, Nat.lt_of_lt_of_le dl hW.size, hW⟩)
    have hd1 : Below w.heap.size w (w.drewN nq) := bdrewP (Below.refl _ _) nq
    have hd2 : Below w.heap.size w (w.drewN nq).drew := hd1.drew
    have hd3 : Below w.heap.size w (w.drewN (nq + 1)) := bdrewP (Below.refl _ _) (nq + 1)
    clear c2
    go_region_held3 (fun W => W.cell? ⟨S.xb, 1, none⟩ = some (.pointer (some ⟨K.pb, 0, none⟩)) ∧ W.cell? ⟨ib, io, none⟩ = some (.int .i64 (i : Int)) ∧ S.xb < W.heap.size ∧ ib < W.heap.size ∧ Below w.heap.size w W)
      (exact HKEEP.out _ (by assumption))
      ((go_at_call 115; go_split_ands; refine (HB0.out _ (by assumption)).mono ?_; rintro e w' ⟨rfl, hB⟩))
    go_split_ands
    have HM1 : RowKit.Hid (∀ W, Below w.heap.size w W → Calls Tryz.prog 99 #[.pointer (some ⟨K.pb, 0, none⟩), .int .i64 (inn i : Int)] W fun e w' => ∃ (a1 : Option Addr) (c1 : Nat), e = .returned (.tuple #[.slice a1 (memN n inn (inn i)).length c1, .nilIface]) ∧ CanO w' a1 ((memN n inn (inn i)).map Int.ofNat) ∧ Below w.heap.size w w') := Lib.hid (fun W hW => (members_any (HSW.out.call hW).par (HSW.out.par.pi.lt hi)).mono (by
      rintro e w' ⟨v, rfl, hown, hB⟩
      obtain ⟨a1, c1, b1, rfl, _, _, hs, _⟩ := slAt_own lenI hown
      rw [List.length_map]
      exact ⟨a1, c1, rfl, ⟨b1, hs⟩, hW.trans (hB.mono hW.size)⟩))
    clear HB0 hd1 hd2 hd3
    go_wp2_with fail
    refine (HM1.out _ (by assumption)).mono ?_
    rintro e w2 ⟨a1, c1, rfl, hcan, hB2⟩
    have hHi := HRS.out.run.rng i hi
    have hszv := HRS.out.szs (hp i) hHi
    obtain ⟨g, hsa, _⟩ := HSW.out.run.sSz hszv
    obtain ⟨hh, hhe⟩ : ∃ hh, hh = (memN n hp (hp i)).length := ⟨_, rfl⟩
    rw [← hhe] at hszv
    have hhn : hh ≤ 1000 := by
      rw [hhe]
      have h1 := nodup_le (l := memN n hp (hp i)) (m := List.range n) (memN_nodup _ _) (fun x hx => List.mem_range.2 (mem_memN.1 hx).1)
      rw [List.length_range] at h1
      omega
    have HK2 : RowKit.Hid (∀ W, Below w.heap.size w W → W.cell? ⟨S.xb, 2, none⟩ = some (.slice (some ⟨S.hb, 0, none⟩) n n) ∧ W.cell? ⟨S.xb, 3, none⟩ = some (.slice (some ⟨g, 0, none⟩) sz.length S.sc) ∧ W.cell? ⟨S.hb, i, none⟩ = some (.int .i64 (hp i : Int)) ∧ W.cell? ⟨g, hp i, none⟩ = some (.int .i64 (hh : Int)) ∧ W.cell? ⟨ib, io, none⟩ = some (.int .i64 (i : Int)) ∧ S.xb < W.heap.size ∧ S.hb < W.heap.size ∧ g < W.heap.size ∧ ib < W.heap.size ∧ Below w.heap.size w W) := Lib.hid (fun W hW => by
      have h1 := (HSW.out.call hW).run
      obtain ⟨_, _, k2, k3, _, _, _, kl⟩ := h1.sCells
      obtain ⟨g', hg', k4, _, kg⟩ := h1.sSz hszv
      rw [hsa] at hg' k3
      simp only [Option.some.injEq, Addr.mk.injEq, and_true] at hg'
      subst hg'
      exact ⟨k2, k3, h1.sHp hi, k4, (HKEEP.out W hW).2.1, kl, h1.sLts.1, kg, (HKEEP.out W hW).2.2.2.1, hW⟩)
    have hlen : (memN n inn (inn i)).length ≤ 1000000 := by
      have h1 := nodup_le (l := memN n inn (inn i)) (m := List.range n) (memN_nodup _ _) (fun x hx => List.mem_range.2 (mem_memN.1 hx).1)
      rw [List.length_range] at h1
      omega
    obtain ⟨ml, hml2⟩ : ∃ ml, ml = (memN n inn (inn i)).length := ⟨_, rfl⟩
    have HEQ : RowKit.Hid (∀ W, Below w.heap.size w W → CanO W a1 ((memN n inn (inn i)).map Int.ofNat) → Calls Tryz.prog 71 #[.slice (some ⟨ib, io, none⟩) m ic, .slice a1 ml c1] W fun e w' => e = .returned (.bool (decide (((i : Int) :: l) = (memN n inn (inn i)).map Int.ofNat))) ∧ Below w.heap.size w w' ∧ CanO w' a1 ((memN n inn (inn i)).map Int.ofNat)) := Lib.hid (fun W hW hC => by
      obtain ⟨b1, hC⟩ := hC
      have h1 := slicesEqual_any (c1 := ic) (c2 := c1) (HS.out.below hW (Nat.le_refl _)) hC (by have := HM.out; omega) (by rw [List.length_map]; omega)
      rw [List.length_map, ← hml2, ← HM.out] at h1
      refine h1.mono ?_
      rintro e w' ⟨rfl, q, rfl⟩
      have hq : Below W.heap.size W (W.drewN q) := bdrewP (Below.refl _ _) q
      exact ⟨rfl, bdrewP hW q, CanO.below ⟨b1, hC⟩ hq⟩)
    obtain ⟨r, hr⟩ : ∃ r, r = decide (0 < m ∧ m ≠ hh ∧ m + m ≤ hh) := ⟨_, rfl⟩
    have HR := Lib.hid hr
    have HSMR : RowKit.Hid (∀ W : World, Calls Tryz.prog 116 #[.int .i64 m, .int .i64 hh] W fun e w' => e = .returned (.bool r) ∧ w' = W) := Lib.hid (fun W => by rw [hr]; exact smaller_any m hh hL (by omega) W)
    clear hr
    rw [← hml2]
    have hhI : (hp i : Int) < (sz.length : Int) := by omega
    have hiI : (i : Int) < (n : Int) := by omega
    have HCAN := Lib.hid hcan; have HIFF := Lib.hid (fun h => may_iff HRS.out hi h (L := (i : Int) :: l))
    have HHE := Lib.hid hhe
    have HK3 : RowKit.Hid (∀ W, Below w.heap.size w W → CanO W a1 ((memN n inn (inn i)).map Int.ofNat) → W.cell? ⟨S.xb, 2, none⟩ = some (.slice (some ⟨S.hb, 0, none⟩) n n) ∧ W.cell? ⟨S.xb, 3, none⟩ = some (.slice (some ⟨g, 0, none⟩) sz.length S.sc) ∧ W.cell? ⟨S.hb, i, none⟩ = some (.int .i64 (hp i : Int)) ∧ W.cell? ⟨g, hp i, none⟩ = some (.int .i64 (hh : Int)) ∧ W.cell? ⟨ib, io, none⟩ = some (.int .i64 (i : Int)) ∧ S.xb < W.heap.size ∧ S.hb < W.heap.size ∧ g < W.heap.size ∧ ib < W.heap.size ∧ Below w.heap.size w W ∧ CanO W a1 ((memN n inn (inn i)).map Int.ofNat)) := Lib.hid (fun W hW hC => by
      obtain ⟨k1, k2, k3, k4, k5, k6, k7, k8, k9, k10⟩ := HK2.out W hW
      exact ⟨k1, k2, k3, k4, k5, k6, k7, k8, k9, k10, hC⟩)
    have hdr : Below w.heap.size w w2.drew := hB2.drew
    have hcr : CanO w2.drew a1 ((memN n inn (inn i)).map Int.ofNat) := hcan.below (Below.refl _ _).drew
    clear hszv hsa hhe hml2 hlen hHi hhn
    by_cases hLM : ((i : Int) :: l) = (memN n inn (inn i)).map Int.ofNat
    · have HE2 : RowKit.Hid (∀ W, Below w.heap.size w W → CanO W a1 ((memN n inn (inn i)).map Int.ofNat) → Calls Tryz.prog 71 #[.slice (some ⟨ib, io, none⟩) m ic, .slice a1 ml c1] W fun e w' => e = .returned (.bool true) ∧ Below w.heap.size w w' ∧ CanO w' a1 ((memN n inn (inn i)).map Int.ofNat)) := Lib.hid (fun W hW hC => by
        have h1 := HEQ.out W hW hC
        rw [show decide (((i : Int) :: l) = (memN n inn (inn i)).map Int.ofNat) = true by simpa using hLM] at h1
        exact h1)
      have hgo : RowKit.Hid (r = true ↔ MayB n inn hp ((i : Int) :: l)) := Lib.hid (by
        rw [HR.out, HIFF.out hLM, ← HM.out, ← HHE.out]
        unfold smallB
        simp
        omega)
      go_upto_region 5 with fail
      go_region_held3 (fun W => W.cell? ⟨S.xb, 2, none⟩ = some (.slice (some ⟨S.hb, 0, none⟩) n n) ∧ W.cell? ⟨S.xb, 3, none⟩ = some (.slice (some ⟨g, 0, none⟩) sz.length S.sc) ∧ W.cell? ⟨S.hb, i, none⟩ = some (.int .i64 (hp i : Int)) ∧ W.cell? ⟨g, hp i, none⟩ = some (.int .i64 (hh : Int)) ∧ W.cell? ⟨ib, io, none⟩ = some (.int .i64 (i : Int)) ∧ S.xb < W.heap.size ∧ S.hb < W.heap.size ∧ g < W.heap.size ∧ ib < W.heap.size ∧ Below w.heap.size w W ∧ CanO W a1 ((memN n inn (inn i)).map Int.ofNat))
        (exact HK3.out _ (by assumption) (by assumption))
        (first
          | (go_at_call 71; go_split_ands; refine (HE2.out _ (by assumption) (by assumption)).mono ?_; rintro e w' ⟨rfl, hB5, hC5⟩)
          | (go_at_call 116; refine (HSMR.out _).mono ?_; rintro e w' ⟨rfl, rfl⟩))
      all_goals go_split_ands
      all_goals go_wp2_with fail
      all_goals go_ret
      all_goals exact ⟨⟨_, rfl, hgo.out⟩, by assumption⟩
    · have HE2 : RowKit.Hid (∀ W, Below w.heap.size w W → CanO W a1 ((memN n inn (inn i)).map Int.ofNat) → Calls Tryz.prog 71 #[.slice (some ⟨ib, io, none⟩) m ic, .slice a1 ml c1] W fun e w' => e = .returned (.bool false) ∧ Below w.heap.size w w' ∧ CanO w' a1 ((memN n inn (inn i)).map Int.ofNat)) := Lib.hid (fun W hW hC => by
        have h1 := HEQ.out W hW hC
        rw [show decide (((i : Int) :: l) = (memN n inn (inn i)).map Int.ofNat) = false by simpa using hLM] at h1
        exact h1)
      have hno : RowKit.Hid (¬ MayB n inn hp ((i : Int) :: l)) := Lib.hid (fun h => by
        obtain ⟨j, hj, _, h2⟩ := may_head h
        have : j = i := by omega
        subst this
        exact hLM h2)
      go_upto_region 5 with fail
      refine wp_region_held_drew (S := (fun W => W.cell? ⟨S.xb, 2, none⟩ = some (.slice (some ⟨S.hb, 0, none⟩) n n) ∧ W.cell? ⟨S.xb, 3, none⟩ = some (.slice (some ⟨g, 0, none⟩) sz.length S.sc) ∧ W.cell? ⟨S.hb, i, none⟩ = some (.int .i64 (hp i : Int)) ∧ W.cell? ⟨g, hp i, none⟩ = some (.int .i64 (hh : Int)) ∧ W.cell? ⟨ib, io, none⟩ = some (.int .i64 (i : Int)) ∧ S.xb < W.heap.size ∧ S.hb < W.heap.size ∧ g < W.heap.size ∧ ib < W.heap.size ∧ Below w.heap.size w W ∧ CanO W a1 ((memN n inn (inn i)).map Int.ofNat))) (by kernel_rfl) (by (try dsimp only); exact HK3.out _ hdr hcr) (fun hHeld => ?_)
      refine wpAnyH_take (i := 0) (v := ?_) rfl (by kernel_rfl) (by kernel_rfl) (by kernel_rfl) (fun _ _ _ h => h) (Or.inl ⟨by rfl, ?_⟩) (by assumption) ?_
      rotate_left
      · intro w hSw
        try dsimp only at hSw
        go_simp
        try with_reducible rfl
      try simp only [List.getElem_toArray, List.getElem_cons_zero, Act.put, List.setIfInBounds_toArray, List.set_cons_zero, List.set_cons_succ]
      refine wpAnyH_take (i := 1) (v := ?_) rfl (by kernel_rfl) (by kernel_rfl) (by kernel_rfl) (fun _ _ _ h => h) (Or.inl ⟨by rfl, ?_⟩) (by assumption) ?_
      rotate_left
      · intro w hSw
        try dsimp only at hSw
        go_simp
        try with_reducible rfl
      try simp only [List.getElem_toArray, List.getElem_cons_zero, List.getElem_cons_succ, Act.put, List.setIfInBounds_toArray, List.set_cons_zero, List.set_cons_succ]
      refine wpAnyH_ready (rs := [2]) (by kernel_rfl) (by simp) ?_
      refine AllReadyH.cons rfl (fun K hK => ?_) AllReadyH.nil
      go_simp
      go_at_call 71
      refine (HE2.out _ hdr hcr).mono ?_
      rintro e w' ⟨rfl, hB5, hC5⟩
      refine hK.out _ _ (by (try dsimp only); exact HK3.out _ hB5 hC5) (fun hHeld => ?_)
      clear hK K
      try simp only [List.getElem_toArray, List.getElem_cons_zero, List.getElem_cons_succ, Act.put, List.setIfInBounds_toArray, List.set_cons_zero, List.set_cons_succ]
      refine wpAnyH_take (i := 3) (v := ?_) rfl (by kernel_rfl) (by kernel_rfl) (by kernel_rfl) (fun _ _ _ h => h) (Or.inl ⟨by rfl, ?_⟩) (by assumption) ?_
      rotate_left
      · intro w hSw
        try dsimp only at hSw
        go_simp
        try with_reducible rfl
      try simp only [List.getElem_toArray, List.getElem_cons_zero, List.getElem_cons_succ, Act.put, List.setIfInBounds_toArray, List.set_cons_zero, List.set_cons_succ]
      refine wpAnyH_take (i := 4) (v := undef) rfl (by kernel_rfl) (by kernel_rfl) (by kernel_rfl) (fun _ _ _ h => h) (Or.inr ⟨by rfl, rfl⟩) (by assumption) ?_
      try simp only [List.getElem_toArray, List.getElem_cons_zero, List.getElem_cons_succ, Act.put, List.setIfInBounds_toArray, List.set_cons_zero, List.set_cons_succ]
      refine wpAnyH_take (i := 5) (v := undef) rfl (by kernel_rfl) (by kernel_rfl) (by kernel_rfl) (fun _ _ _ h => h) (Or.inr ⟨by rfl, rfl⟩) (by assumption) ?_
      try simp only [List.getElem_toArray, List.getElem_cons_zero, List.getElem_cons_succ, Act.put, List.setIfInBounds_toArray, List.set_cons_zero, List.set_cons_succ]
      refine wpAnyH_take (i := 6) (v := undef) rfl (by kernel_rfl) (by kernel_rfl) (by kernel_rfl) (fun _ _ _ h => h) (Or.inr ⟨by rfl, rfl⟩) (by assumption) ?_
      try simp only [List.getElem_toArray, List.getElem_cons_zero, List.getElem_cons_succ, Act.put, List.setIfInBounds_toArray, List.set_cons_zero, List.set_cons_succ]
      refine wpAnyH_take (i := 7) (v := undef) rfl (by kernel_rfl) (by kernel_rfl) (by kernel_rfl) (fun _ _ _ h => h) (Or.inr ⟨by rfl, rfl⟩) (by assumption) ?_
      try simp only [List.getElem_toArray, List.getElem_cons_zero, List.getElem_cons_succ, Act.put, List.setIfInBounds_toArray, List.set_cons_zero, List.set_cons_succ]
      refine wpAnyH_take (i := 8) (v := undef) rfl (by kernel_rfl) (by kernel_rfl) (by kernel_rfl) (fun _ _ _ h => h) (Or.inr ⟨by rfl, rfl⟩) (by assumption) ?_
      try simp only [List.getElem_toArray, List.getElem_cons_zero, List.getElem_cons_succ, Act.put, List.setIfInBounds_toArray, List.set_cons_zero, List.set_cons_succ]
      refine wpAnyH_take (i := 9) (v := undef) rfl (by kernel_rfl) (by kernel_rfl) (by kernel_rfl) (fun _ _ _ h => h) (Or.inr ⟨by rfl, rfl⟩) (by assumption) ?_
      try simp only [List.getElem_toArray, List.getElem_cons_zero, List.getElem_cons_succ, Act.put, List.setIfInBounds_toArray, List.set_cons_zero, List.set_cons_succ]
      refine wpAnyH_take (i := 10) (v := undef) rfl (by kernel_rfl) (by kernel_rfl) (by kernel_rfl) (fun _ _ _ h => h) (Or.inr ⟨by rfl, rfl⟩) (by assumption) ?_
      try simp only [List.getElem_toArray, List.getElem_cons_zero, List.getElem_cons_succ, Act.put, List.setIfInBounds_toArray, List.set_cons_zero, List.set_cons_succ]
      refine wpAnyH_take (i := 11) (v := undef) rfl (by kernel_rfl) (by kernel_rfl) (by kernel_rfl) (fun _ _ _ h => h) (Or.inr ⟨by rfl, rfl⟩) (by assumption) ?_
      try simp only [List.getElem_toArray, List.getElem_cons_zero, List.getElem_cons_succ, Act.put, List.setIfInBounds_toArray, List.set_cons_zero, List.set_cons_succ]
      refine wpAnyH_take (i := 12) (v := undef) rfl (by kernel_rfl) (by kernel_rfl) (by kernel_rfl) (fun _ _ _ h => h) (Or.inr ⟨by rfl, rfl⟩) (by assumption) ?_
      try simp only [List.getElem_toArray, List.getElem_cons_zero, List.getElem_cons_succ, Act.put, List.setIfInBounds_toArray, List.set_cons_zero, List.set_cons_succ]
      refine wpAnyH_take (i := 13) (v := undef) rfl (by kernel_rfl) (by kernel_rfl) (by kernel_rfl) (fun _ _ _ h => h) (Or.inr ⟨by rfl, rfl⟩) (by assumption) ?_
      try simp only [List.getElem_toArray, List.getElem_cons_zero, List.getElem_cons_succ, Act.put, List.setIfInBounds_toArray, List.set_cons_zero, List.set_cons_succ]
      refine wpAnyH_take (i := 14) (v := undef) rfl (by kernel_rfl) (by kernel_rfl) (by kernel_rfl) (fun _ _ _ h => h) (Or.inr ⟨by rfl, rfl⟩) (by assumption) ?_
      try simp only [List.getElem_toArray, List.getElem_cons_zero, List.getElem_cons_succ, Act.put, List.setIfInBounds_toArray, List.set_cons_zero, List.set_cons_succ]
      refine wpAnyH_take (i := 15) (v := undef) rfl (by kernel_rfl) (by kernel_rfl) (by kernel_rfl) (fun _ _ _ h => h) (Or.inr ⟨by rfl, rfl⟩) (by assumption) ?_
      try simp only [List.getElem_toArray, List.getElem_cons_zero, List.getElem_cons_succ, Act.put, List.setIfInBounds_toArray, List.set_cons_zero, List.set_cons_succ]
      refine wpAnyH_take (i := 16) (v := undef) rfl (by kernel_rfl) (by kernel_rfl) (by kernel_rfl) (fun _ _ _ h => h) (Or.inr ⟨by rfl, rfl⟩) (by assumption) ?_
      try simp only [List.getElem_toArray, List.getElem_cons_zero, List.getElem_cons_succ, Act.put, List.setIfInBounds_toArray, List.set_cons_zero, List.set_cons_succ]
      refine wpAnyH_take (i := 17) (v := undef) rfl (by kernel_rfl) (by kernel_rfl) (by kernel_rfl) (fun _ _ _ h => h) (Or.inr ⟨by rfl, rfl⟩) (by assumption) ?_
      try simp only [List.getElem_toArray, List.getElem_cons_zero, List.getElem_cons_succ, Act.put, List.setIfInBounds_toArray, List.set_cons_zero, List.set_cons_succ]
      refine wpAnyH_take (i := 18) (v := undef) rfl (by kernel_rfl) (by kernel_rfl) (by kernel_rfl) (fun _ _ _ h => h) (Or.inr ⟨by rfl, rfl⟩) (by assumption) ?_
      try simp only [List.getElem_toArray, List.getElem_cons_zero, List.getElem_cons_succ, Act.put, List.setIfInBounds_toArray, List.set_cons_zero, List.set_cons_succ]
      refine wpAnyH_take (i := 19) (v := undef) rfl (by kernel_rfl) (by kernel_rfl) (by kernel_rfl) (fun _ _ _ h => h) (Or.inr ⟨by rfl, rfl⟩) (by assumption) ?_
      try simp only [List.getElem_toArray, List.getElem_cons_zero, List.getElem_cons_succ, Act.put, List.setIfInBounds_toArray, List.set_cons_zero, List.set_cons_succ]
      refine wpAnyH_take (i := 20) (v := undef) rfl (by kernel_rfl) (by kernel_rfl) (by kernel_rfl) (fun _ _ _ h => h) (Or.inr ⟨by rfl, rfl⟩) (by assumption) ?_
      try simp only [List.getElem_toArray, List.getElem_cons_zero, List.getElem_cons_succ, Act.put, List.setIfInBounds_toArray, List.set_cons_zero, List.set_cons_succ]
      refine wpAnyH_take (i := 21) (v := undef) rfl (by kernel_rfl) (by kernel_rfl) (by kernel_rfl) (fun _ _ _ h => h) (Or.inr ⟨by rfl, rfl⟩) (by assumption) ?_
      try simp only [List.getElem_toArray, List.getElem_cons_zero, List.getElem_cons_succ, Act.put, List.setIfInBounds_toArray, List.set_cons_zero, List.set_cons_succ]
      refine wpAnyH_take (i := 22) (v := ?_) rfl (by kernel_rfl) (by kernel_rfl) (by kernel_rfl) (fun _ _ _ h => h) (Or.inl ⟨by rfl, ?_⟩) (by assumption) ?_
      rotate_left
      · intro w hSw
        try dsimp only at hSw
        go_simp
        try with_reducible rfl
      try simp only [List.getElem_toArray, List.getElem_cons_zero, List.getElem_cons_succ, Act.put, List.setIfInBounds_toArray, List.set_cons_zero, List.set_cons_succ]
      refine wpAnyH_take (i := 23) (v := ?_) rfl (by kernel_rfl) (by kernel_rfl) (by kernel_rfl) (fun _ _ _ h => h) (Or.inl ⟨by rfl, ?_⟩) (by assumption) ?_
      rotate_left
      · intro w hSw
        try dsimp only at hSw
        go_simp
        try with_reducible rfl
      try simp only [List.getElem_toArray, List.getElem_cons_zero, List.getElem_cons_succ, Act.put, List.setIfInBounds_toArray, List.set_cons_zero, List.set_cons_succ]
      refine wpAnyH_done (by kernel_rfl) ?_ _
      go_wp2_with fail
      go_ret
      exact ⟨⟨false, rfl, by simp [hno.out]⟩, hB5⟩
end
end Go.Proofs.YtfakdgljilmpkaaGreatDoor

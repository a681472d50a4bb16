/-
  refine.Partition: Mark.
-/
import Derived.Test.YtopnedihknjjfaaGreatDoorGParA
import Derived.Deep.RegionHeld3
import Derived.Deep.Cut
import Derived.Deep.CutRange
namespace Go.Proofs.YtopnedihknjjfaaGreatDoor
open Go.RowKit Pl

/-- What Mark answers. -/
def MarkPost (w0 : World) (K : PK) (n : Nat) (inn pl : Nat → Nat) (bl : List B3) (rest : List Rw) (e : Nat) (r : Ending) (w' : World) : Prop :=
  ∃ (m : Bool) (el' pl' : Nat → Nat) (bl' : List B3), r = .returned (.tuple #[.bool m, .nilIface]) ∧ PW w0 w' K n el' pl' inn bl' rest ∧ bl'.length = bl.length ∧ ∀ z, z < n → (Mkd pl' inn bl' z ↔ Mkd pl inn bl z ∨ z = e)

section
variable {w0 w : World} {K : PK} {n : Nat} {el pl inn : Nat → Nat} {bl : List B3} {rest : List Rw}

set_option maxRecDepth 100000 in
set_option maxHeartbeats 2000000 in
theorem mark_any (h : PW w0 w K n el pl inn bl rest) {e : Nat} (he : e < n) :
    Calls Tryz.prog 151 #[.pointer (some ⟨K.pb, 0, none⟩), .int .i64 e] w (MarkPost w0 K n inn pl bl rest e) := by
  have H := Lib.hid h
  obtain ⟨c0, c1, c2, c3⟩ := h.rws.pCells
  obtain ⟨l0, l1, l2, l3, l4⟩ := h.rws.pLts
  obtain ⟨x, hx, hp1, hp2⟩ := h.pi.hin e he
  obtain ⟨b1, b2, b3⟩ := h.pi.blk _ x hx
  have d1 := h.rws.pPl he; have d2 := h.rws.pIn he
  obtain ⟨g0, g1, g2⟩ := h.rws.pBl hx
  have hin := h.pi.lt he
  have hpn := (h.pi.hpl e he).1
  have hpe := (h.pi.hpl e he).2
  have hn := h.n1
  have hmk := h.pi.mark he hx
  have hif := mkd_iff (pl := pl) hx
  have HX := Lib.hid hx; have HMK := Lib.hid hmk; have HIF := Lib.hid hif; have HPE := Lib.hid hpe
  obtain ⟨i, hi⟩ : ∃ i, i = inn e := ⟨_, rfl⟩
  obtain ⟨p, hp⟩ : ∃ p, p = pl e := ⟨_, rfl⟩
  obtain ⟨m, hm⟩ : ∃ m, m = bl.length := ⟨_, rfl⟩
  rw [← hi] at hin d2 g0 g1 g2; rw [← hp] at d1 hp1 hp2 hpn; rw [← hm] at c3 hin
  have HI := Lib.hid hi; have HP := Lib.hid hp
  have heI : (e : Int) < (n : Int) := by omega
  have hiI : (i : Int) < (m : Int) := by omega
  have hS := Lib.hid (parSize_any h.rws)
  have hA := Lib.hid (asked_ok w K.pb e n he)
  obtain ⟨x1, x2, x3⟩ := x
  simp only at g0 g1 g2 hp1 hp2 b1 b2 b3
  clear h hx hmk hif hpe hi hp hm
  by_cases hlt : p < x1 + x3
  · have hb : decide ((p : Int) < (x1 : Int) + (x3 : Int)) = true := by simp; omega
    go_enter Tryz.func151, Tryz.ntmps151
    go_wp2_with fail
    refine hS.out.mono ?_
    rintro e w1 ⟨rfl, rfl⟩
    go_wp2_with fail
    refine hA.out.mono ?_
    rintro e w1 ⟨rfl, rfl⟩
    go_wp2_with fail
    go_quiet (fail)
    go_wp2_with fail
    go_quiet (fail)
    go_wp2_with fail
    go_ret2
    refine ⟨false, el, pl, bl, rfl, ⟨(H.out.rws.drewN _).drewN _, H.out.pi, H.out.n1⟩, rfl, fun z hz => ⟨fun h => .inl h, ?_⟩⟩
    rintro (h | rfl)
    · exact h
    · exact HIF.out.2 (by rw [← HP.out]; exact hlt)
  · have hb : decide ((p : Int) < (x1 : Int) + (x3 : Int)) = false := by simp; omega
    obtain ⟨hpi, hmk⟩ := HMK.out (by rw [← HP.out]; simp only; omega)
    rw [← HP.out, ← HI.out] at hpi
    rw [← HP.out, ← HI.out] at hmk
    simp only at hpi hmk
    have HPI := Lib.hid hpi; have HMK2 := Lib.hid hmk
    clear hpi hmk HMK
    go_enter Tryz.func151, Tryz.ntmps151
    go_wp2_with fail
    refine hS.out.mono ?_
    rintro e w1 ⟨rfl, rfl⟩
    go_wp2_with fail
    refine hA.out.mono ?_
    rintro e w1 ⟨rfl, rfl⟩
    go_wp2_with fail
    go_quiet (fail)
    obtain ⟨v1, hv1⟩ : ∃ v1, v1 = w.drewN nq := ⟨_, rfl⟩
    have HV1 := Lib.hid (H.out.rws.drewN nq)
    rw [← hv1] at HV1 ⊢
    clear hv1 c0 c1 c2 c3 d1 d2 g0 g1 g2 l0 l1 l2 l3 l4 hS hA
    have hbi : bl[i]? = some (x1, x2, x3) := by rw [HI.out]; exact HX.out
    obtain ⟨c0, c1, c2, c3⟩ := HV1.out.pCells
    obtain ⟨l0, l1, l2, l3, l4⟩ := HV1.out.pLts
    have d1 := HV1.out.pPl he
    obtain ⟨g0, g1, g2⟩ := HV1.out.pBl hbi
    rw [← HP.out] at d1
    simp only at g0 g1 g2
    have HBI := Lib.hid hbi
    clear hbi
    go_wp2_with fail
    go_quiet (fail)
    obtain ⟨v2, hv2⟩ : ∃ v2, v2 = v1.drewN nq := ⟨_, rfl⟩
    have HV2 := Lib.hid (HV1.out.drewN nq)
    rw [← hv2] at HV2 ⊢
    clear hv2 c0 c1 c2 c3 d1 g0 g1 g2 l0 l1 l2 l3 l4
    have HV3 := Lib.hid HV2.out.drew
    obtain ⟨c0, c1, c2, c3⟩ := HV2.out.pCells
    obtain ⟨l0, l1, l2, l3, l4⟩ := HV2.out.pLts
    have d1 := HV2.out.pPl he
    obtain ⟨g0, g1, g2⟩ := HV2.out.pBl HBI.out
    rw [← HP.out] at d1
    simp only at g0 g1 g2
    go_upto_region 7 with fail
    clear hb
    go_cut [] from 45 to 62 (fun wx => Rws w0 wx (PR K n (swE el p (x1 + x3)) (swP el pl p (x1 + x3)) inn bl ++ rest))
    case first =>
      have hk1 : x1 + x3 < n := by omega
      have hep : el p < n := by have := HPE.out; rw [← HP.out] at this; omega
      have hek : el (x1 + x3) < n := (H.out.pi.hel _ hk1).1
      have HCAST : RowKit.Hid (IntKind.i64.wrap ((x1 : Int) + (x3 : Int)) = ((x1 + x3 : Nat) : Int)) := Lib.hid (by rw [IntWalk.i64_in _ (by omega)]; omega)
      have KEEP : RowKit.Hid (∀ W, Rws w0 W (PR K n (swE el p (x1 + x3)) (swP el pl p (x1 + x3)) inn bl ++ rest) →
          W.cell? ⟨K.pb, 1, none⟩ = some (.slice (some ⟨K.qb, 0, none⟩) n K.cq) ∧ W.cell? ⟨K.bb, i * 3, none⟩ = some (.int .i64 x1) ∧ W.cell? ⟨K.bb, i * 3 + 2, none⟩ = some (.int .i64 x3)) :=
        Lib.hid (fun W hW => ⟨hW.pCells.2.1, (hW.pBl HBI.out).1, (hW.pBl HBI.out).2.2⟩)
      refine wp_region_held_drew (S := (fun W => W.cell? ⟨K.pb, 1, none⟩ = some (.slice (some ⟨K.qb, 0, none⟩) n K.cq) ∧ W.cell? ⟨K.bb, i * 3, none⟩ = some (.int .i64 x1) ∧ W.cell? ⟨K.bb, i * 3 + 2, none⟩ = some (.int .i64 x3))) (by kernel_rfl) (by (try dsimp only); go_keep) (fun hHeld => ?_)
      refine wpAnyH_take (i := 0) (v := ?_) rfl (by kernel_rfl) (by kernel_rfl) (by kernel_rfl) (fun _ _ _ h => h) (Or.inl ⟨by rfl, ?_⟩) (by assumption) ?_
      rotate_left
      · intro w hSw
        try dsimp only at hSw
        go_simp
        try with_reducible rfl
      try simp only [List.getElem_toArray, List.getElem_cons_zero, Act.put, List.setIfInBounds_toArray, List.set_cons_zero, List.set_cons_succ]
      refine wpAnyH_take (i := 1) (v := ?_) rfl (by kernel_rfl) (by kernel_rfl) (by kernel_rfl) (fun _ _ _ h => h) (Or.inl ⟨by rfl, ?_⟩) (by assumption) ?_
      rotate_left
      · intro w hSw
        try dsimp only at hSw
        go_simp
        try with_reducible rfl
      try simp only [List.getElem_toArray, List.getElem_cons_zero, List.getElem_cons_succ, Act.put, List.setIfInBounds_toArray, List.set_cons_zero, List.set_cons_succ]
      refine wpAnyH_take (i := 2) (v := ?_) rfl (by kernel_rfl) (by kernel_rfl) (by kernel_rfl) (fun _ _ _ h => h) (Or.inl ⟨by rfl, ?_⟩) (by assumption) ?_
      rotate_left
      · intro w hSw
        try dsimp only at hSw
        go_simp
        try with_reducible rfl
      try simp only [List.getElem_toArray, List.getElem_cons_zero, List.getElem_cons_succ, Act.put, List.setIfInBounds_toArray, List.set_cons_zero, List.set_cons_succ]
      refine wpAnyH_take (i := 3) (v := ?_) rfl (by kernel_rfl) (by kernel_rfl) (by kernel_rfl) (fun _ _ _ h => h) (Or.inl ⟨by rfl, ?_⟩) (by assumption) ?_
      rotate_left
      · intro w hSw
        try dsimp only at hSw
        go_simp
        try with_reducible rfl
      try simp only [List.getElem_toArray, List.getElem_cons_zero, List.getElem_cons_succ, Act.put, List.setIfInBounds_toArray, List.set_cons_zero, List.set_cons_succ]
      refine wpAnyH_take (i := 4) (v := ?_) rfl (by kernel_rfl) (by kernel_rfl) (by kernel_rfl) (fun _ _ _ h => h) (Or.inl ⟨by rfl, ?_⟩) (by assumption) ?_
      rotate_left
      · intro w hSw
        try dsimp only at hSw
        go_simp
        try with_reducible rfl
      try simp only [List.getElem_toArray, List.getElem_cons_zero, List.getElem_cons_succ, Act.put, List.setIfInBounds_toArray, List.set_cons_zero, List.set_cons_succ]
      refine wpAnyH_take (i := 5) (v := ?_) rfl (by kernel_rfl) (by kernel_rfl) (by kernel_rfl) (fun _ _ _ h => h) (Or.inl ⟨by rfl, ?_⟩) (by assumption) ?_
      rotate_left
      · intro w hSw
        try dsimp only at hSw
        go_simp
        try with_reducible rfl
      try simp only [List.getElem_toArray, List.getElem_cons_zero, List.getElem_cons_succ, Act.put, List.setIfInBounds_toArray, List.set_cons_zero, List.set_cons_succ]
      refine wpAnyH_take (i := 6) (v := ?_) rfl (by kernel_rfl) (by kernel_rfl) (by kernel_rfl) (fun _ _ _ h => h) (Or.inl ⟨by rfl, ?_⟩) (by assumption) ?_
      rotate_left
      · intro w hSw
        try dsimp only at hSw
        go_simp
        try with_reducible rfl
      try simp only [List.getElem_toArray, List.getElem_cons_zero, List.getElem_cons_succ, Act.put, List.setIfInBounds_toArray, List.set_cons_zero, List.set_cons_succ]
      refine wpAnyH_take (i := 8) (v := ?_) rfl (by kernel_rfl) (by kernel_rfl) (by kernel_rfl) (fun _ _ _ h => h) (Or.inl ⟨by rfl, ?_⟩) (by assumption) ?_
      rotate_left
      · intro w hSw
        try dsimp only at hSw
        go_simp
        try with_reducible rfl
      try simp only [List.getElem_toArray, List.getElem_cons_zero, List.getElem_cons_succ, Act.put, List.setIfInBounds_toArray, List.set_cons_zero, List.set_cons_succ]
      refine wpAnyH_take (i := 9) (v := ?_) rfl (by kernel_rfl) (by kernel_rfl) (by kernel_rfl) (fun _ _ _ h => h) (Or.inl ⟨by rfl, ?_⟩) (by assumption) ?_
      rotate_left
      · intro w hSw
        try dsimp only at hSw
        go_simp
        try with_reducible rfl
      try simp only [List.getElem_toArray, List.getElem_cons_zero, List.getElem_cons_succ, Act.put, List.setIfInBounds_toArray, List.set_cons_zero, List.set_cons_succ]
      refine wpAnyH_take (i := 10) (v := ?_) rfl (by kernel_rfl) (by kernel_rfl) (by kernel_rfl) (fun _ _ _ h => h) (Or.inl ⟨by rfl, ?_⟩) (by assumption) ?_
      rotate_left
      · intro w hSw
        try dsimp only at hSw
        go_simp
        try with_reducible rfl
      try simp only [List.getElem_toArray, List.getElem_cons_zero, List.getElem_cons_succ, Act.put, List.setIfInBounds_toArray, List.set_cons_zero, List.set_cons_succ]
      refine wpAnyH_take (i := 11) (v := ?_) rfl (by kernel_rfl) (by kernel_rfl) (by kernel_rfl) (fun _ _ _ h => h) (Or.inl ⟨by rfl, ?_⟩) (by assumption) ?_
      rotate_left
      · intro w hSw
        try dsimp only at hSw
        go_simp
        try with_reducible rfl
      try simp only [List.getElem_toArray, List.getElem_cons_zero, List.getElem_cons_succ, Act.put, List.setIfInBounds_toArray, List.set_cons_zero, List.set_cons_succ]
      refine wpAnyH_take (i := 12) (v := ?_) rfl (by kernel_rfl) (by kernel_rfl) (by kernel_rfl) (fun _ _ _ h => h) (Or.inl ⟨by rfl, ?_⟩) (by assumption) ?_
      rotate_left
      · intro w hSw
        try dsimp only at hSw
        go_simp
        try with_reducible rfl
      try simp only [List.getElem_toArray, List.getElem_cons_zero, List.getElem_cons_succ, Act.put, List.setIfInBounds_toArray, List.set_cons_zero, List.set_cons_succ]
      refine wpAnyH_take (i := 13) (v := ?_) rfl (by kernel_rfl) (by kernel_rfl) (by kernel_rfl) (fun _ _ _ h => h) (Or.inl ⟨by rfl, ?_⟩) (by assumption) ?_
      rotate_left
      · intro w hSw
        try dsimp only at hSw
        go_simp
        try with_reducible rfl
      try simp only [List.getElem_toArray, List.getElem_cons_zero, List.getElem_cons_succ, Act.put, List.setIfInBounds_toArray, List.set_cons_zero, List.set_cons_succ]
      refine wpAnyH_take (i := 14) (v := ?_) rfl (by kernel_rfl) (by kernel_rfl) (by kernel_rfl) (fun _ _ _ h => h) (Or.inl ⟨by rfl, ?_⟩) (by assumption) ?_
      rotate_left
      · intro w hSw
        try dsimp only at hSw
        go_simp
        try with_reducible rfl
      try simp only [List.getElem_toArray, List.getElem_cons_zero, List.getElem_cons_succ, Act.put, List.setIfInBounds_toArray, List.set_cons_zero, List.set_cons_succ]
      refine wpAnyH_take (i := 15) (v := ?_) rfl (by kernel_rfl) (by kernel_rfl) (by kernel_rfl) (fun _ _ _ h => h) (Or.inl ⟨by rfl, ?_⟩) (by assumption) ?_
      rotate_left
      · intro w hSw
        try dsimp only at hSw
        go_simp
        try with_reducible rfl
      try simp only [List.getElem_toArray, List.getElem_cons_zero, List.getElem_cons_succ, Act.put, List.setIfInBounds_toArray, List.set_cons_zero, List.set_cons_succ]
      refine wpAnyH_take (i := 16) (v := ?_) rfl (by kernel_rfl) (by kernel_rfl) (by kernel_rfl) (fun _ _ _ h => h) (Or.inl ⟨by rfl, ?_⟩) (by assumption) ?_
      rotate_left
      · intro w hSw
        try dsimp only at hSw
        go_simp
        try with_reducible rfl
      try simp only [List.getElem_toArray, List.getElem_cons_zero, List.getElem_cons_succ, Act.put, List.setIfInBounds_toArray, List.set_cons_zero, List.set_cons_succ]
      refine wpAnyH_ready (rs := [7]) (by kernel_rfl) (by simp) ?_
      refine AllReadyH.cons rfl (fun K hK => ?_) AllReadyH.nil
      go_simp
      refine hK.out _ _ (by (try dsimp only); go_keep) (fun hHeld => ?_)
      clear hK K
      try simp only [List.getElem_toArray, List.getElem_cons_zero, List.getElem_cons_succ, Act.put, List.setIfInBounds_toArray, List.set_cons_zero, List.set_cons_succ]
      refine wpAnyH_ready (rs := [17]) (by kernel_rfl) (by simp) ?_
      refine AllReadyH.cons rfl (fun K hK => ?_) AllReadyH.nil
      go_simp
      go_at_call 173
      rw [HCAST.out]
      refine (swap_any HV3.out hpn hk1 hep hek).mono ?_
      rintro e w' ⟨rfl, hrw⟩
      refine hK.out _ _ (by (try dsimp only); exact KEEP.out _ hrw) (fun hHeld => ?_)
      clear hK K
      try simp only [List.getElem_toArray, List.getElem_cons_zero, List.getElem_cons_succ, Act.put, List.setIfInBounds_toArray, List.set_cons_zero, List.set_cons_succ]
      refine wpAnyH_done (by kernel_rfl) ?_ _
      go_wp2_with fail
      go_meet
      exact hrw
    case rest =>
      have HC := Lib.hid hcut
      obtain ⟨a0, a1, a2⟩ := hcut.pBl HBI.out
      simp only at a0 a1 a2
      have al := hcut.pLts.2.2.2.2
      have af := (hcut.pFz (i * 3 + 2)).2.2.2.2
      clear hcut c0 c1 c2 c3 d1 g0 g1 g2 l0 l1 l2 l3 l4
      go_wp2_with fail
      go_ret2
      have h2 := HC.out.pSetBl (y := (x1, x2, x3 + 1)) HBI.out 2 (.int .i64 ((x3 + 1 : Nat) : Int)) (by decide) rfl
      refine ⟨true, _, _, _, rfl, ⟨h2, HPI.out, H.out.n1⟩, by simp, HMK2.out⟩
end
end Go.Proofs.YtopnedihknjjfaaGreatDoor

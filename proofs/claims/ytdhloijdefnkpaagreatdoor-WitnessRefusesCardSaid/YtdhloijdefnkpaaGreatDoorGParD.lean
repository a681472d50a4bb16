/-
  Lemmas.
-/
import Derived.Test.YtdhloijdefnkpaaGreatDoorGBrV
import Derived.Deep.RegionHeld3
import Derived.Deep.Cut
import Derived.Deep.CutRange
import Derived.Test.YtdhloijdefnkpaaGreatDoorGCompact2
import Derived.Lib.OwnBridge
import Derived.Sort.OwnSortedInts
import Derived.Test.YtdhloijdefnkpaaGreatDoorGPl13
import Derived.Test.YtdhloijdefnkpaaGreatDoorGCanon
namespace Go.Proofs.YtdhloijdefnkpaaGreatDoor
open Go.RowKit Pl
open Lib (hid)
def MarkPost (w0 : World) (K : PK) (n : Nat) (inn pl : Nat → Nat) (bl : List B3) (rest : List Rw) (e : Nat) (r : Ending) (w' : World) : Prop :=
  ∃ (m : Bool) (el' pl' : Nat → Nat) (bl' : List B3), r = .returned (.tuple #[.bool m, .nilIface]) ∧ PW w0 w' K n el' pl' inn bl' rest ∧ bl'.length = bl.length ∧ ∀ z, z < n → (Mkd pl' inn bl' z ↔ Mkd pl inn bl z ∨ z = e)
section
variable {w0 w : World} {K : PK} {n : Nat} {el pl inn : Nat → Nat} {bl : List B3} {rest : List Rw}
set_option maxRecDepth 100000 in
set_option maxHeartbeats 2000000 in
theorem mark_any (h : PW w0 w K n el pl inn bl rest) {e : Nat} (he : e < n) :
    Calls Tryz.prog 163 #[.pointer (some ⟨K.pb, 0, none⟩), .int .i64 e] w (MarkPost w0 K n inn pl bl rest e) := by
  have H := hid h
  obtain ⟨c0, c1, c2, c3⟩ := h.rws.pCells
  obtain ⟨l0, l1, l2, l3, l4⟩ := h.rws.pLts
  obtain ⟨x, hx, hp1, hp2⟩ := h.pi.hin e he
  obtain ⟨b1, b2, b3⟩ := h.pi.blk _ x hx
  have d1 := h.rws.pPl he; have d2 := h.rws.pIn he
  obtain ⟨g0, g1, g2⟩ := h.rws.pBl hx
  have hin := h.pi.lt he
  have hpn := (h.pi.hpl e he).1
  have hpe := (h.pi.hpl e he).2
  have hn := h.n1
  have hmk := h.pi.mark he hx
  have hif := mkd_iff (pl := pl) hx
  have HX := hid hx; have HMK := hid hmk; have HIF := hid hif; have HPE := hid hpe
  obtain ⟨i, hi⟩ : ∃ i, i = inn e := ⟨_, rfl⟩
  obtain ⟨p, hp⟩ : ∃ p, p = pl e := ⟨_, rfl⟩
  obtain ⟨m, hm⟩ : ∃ m, m = bl.length := ⟨_, rfl⟩
  rw [← hi] at hin d2 g0 g1 g2; rw [← hp] at d1 hp1 hp2 hpn; rw [← hm] at c3 hin
  have HI := hid hi; have HP := hid hp
  have heI : (e : Int) < (n : Int) := by omega
  have hiI : (i : Int) < (m : Int) := by omega
  have hS := hid (parSize_any h.rws)
  have hA := hid (asked_ok w K.pb e n he)
  obtain ⟨x1, x2, x3⟩ := x
  simp only at g0 g1 g2 hp1 hp2 b1 b2 b3
  clear h hx hmk hif hpe hi hp hm
  by_cases hlt : p < x1 + x3
  · have hb : decide ((p : Int) < (x1 : Int) + (x3 : Int)) = true := by simp; omega
    go_enter Tryz.func163, Tryz.ntmps163
    go_wp2_with fail
    refine hS.out.mono ?_
    rintro e w1 ⟨rfl, rfl⟩
    go_wp2_with fail
    refine hA.out.mono ?_
    rintro e w1 ⟨rfl, rfl⟩
    go_wp2_with fail
    go_quiet (fail)
    go_wp2_with fail
    go_quiet (fail)
    go_wp2_with fail
    go_ret2
    refine ⟨false, el, pl, bl, rfl, ⟨(H.out.rws.drewN _).drewN _, H.out.pi, H.out.n1⟩, rfl, fun z hz => ⟨fun h => .inl h, ?_⟩⟩
    rintro (h | rfl)
    · exact h
    · exact HIF.out.2 (by rw [← HP.out]; exact hlt)
  · have hb : decide ((p : Int) < (x1 : Int) + (x3 : Int)) = false := by simp; omega
    obtain ⟨hpi, hmk⟩ := HMK.out (by rw [← HP.out]; simp only; omega)
    rw [← HP.out, ← HI.out] at hpi
    rw [← HP.out, ← HI.out] at hmk
    simp only at hpi hmk
    have HPI := hid hpi; have HMK2 := hid hmk
    clear hpi hmk HMK
    go_enter Tryz.func163, Tryz.ntmps163
    go_wp2_with fail
    refine hS.out.mono ?_
    rintro e w1 ⟨rfl, rfl⟩
    go_wp2_with fail
    refine hA.out.mono ?_
    rintro e w1 ⟨rfl, rfl⟩
    go_wp2_with fail
    go_quiet (fail)
    obtain ⟨v1, hv1⟩ : ∃ v1, v1 = w.drewN nq := ⟨_, rfl⟩
    have HV1 := hid (H.out.rws.drewN nq)
    rw [← hv1] at HV1 ⊢
    clear hv1 c0 c1 c2 c3 d1 d2 g0 g1 g2 l0 l1 l2 l3 l4 hS hA
    have hbi : bl[i]? = some (x1, x2, x3) := by rw [HI.out]; exact HX.out
    obtain ⟨c0, c1, c2, c3⟩ := HV1.out.pCells
    obtain ⟨l0, l1, l2, l3, l4⟩ := HV1.out.pLts
    have d1 := HV1.out.pPl he
    obtain ⟨g0, g1, g2⟩ := HV1.out.pBl hbi
    rw [← HP.out] at d1
    simp only at g0 g1 g2
    have HBI := hid hbi
    clear hbi
    go_wp2_with fail
    go_quiet (fail)
    obtain ⟨v2, hv2⟩ : ∃ v2, v2 = v1.drewN nq := ⟨_, rfl⟩
    have HV2 := hid (HV1.out.drewN nq)
    rw [← hv2] at HV2 ⊢
    clear hv2 c0 c1 c2 c3 d1 g0 g1 g2 l0 l1 l2 l3 l4
    have HV3 := hid HV2.out.drew
    obtain ⟨c0, c1, c2, c3⟩ := HV2.out.pCells
    obtain ⟨l0, l1, l2, l3, l4⟩ := HV2.out.pLts
    have d1 := HV2.out.pPl he
    obtain ⟨g0, g1, g2⟩ := HV2.out.pBl HBI.out
    rw [← HP.out] at d1
    simp only at g0 g1 g2
    go_upto_region 7 with fail
    clear hb
    go_cut [] from 45 to 62 (fun wx => Rws w0 wx (PR K n (swE el p (x1 + x3)) (swP el pl p (x1 + x3)) inn bl ++ rest))
    case first =>
      have hk1 : x1 + x3 < n := by omega
      have hep : el p < n := by have := HPE.out; rw [← HP.out] at this; omega
      have hek : el (x1 + x3) < n := (H.out.pi.hel _ hk1).1
      have HCAST : Hid (IntKind.i64.wrap ((x1 : Int) + (x3 : Int)) = ((x1 + x3 : Nat) : Int)) := hid (by rw [IntWalk.i64_in _ (by omega)]; omega)
      have KEEP : Hid (∀ W, Rws w0 W (PR K n (swE el p (x1 + x3)) (swP el pl p (x1 + x3)) inn bl ++ rest) →
          W.cell? ⟨K.pb, 1, none⟩ = some (.slice (some ⟨K.qb, 0, none⟩) n K.cq) ∧ W.cell? ⟨K.bb, i * 3, none⟩ = some (.int .i64 x1) ∧ W.cell? ⟨K.bb, i * 3 + 2, none⟩ = some (.int .i64 x3)) :=
        hid (fun W hW => ⟨hW.pCells.2.1, (hW.pBl HBI.out).1, (hW.pBl HBI.out).2.2⟩)
      refine wp_region_held_drew (S := (fun W => W.cell? ⟨K.pb, 1, none⟩ = some (.slice (some ⟨K.qb, 0, none⟩) n K.cq) ∧ W.cell? ⟨K.bb, i * 3, none⟩ = some (.int .i64 x1) ∧ W.cell? ⟨K.bb, i * 3 + 2, none⟩ = some (.int .i64 x3))) (by kernel_rfl) (by (try dsimp only); go_keep) (fun hHeld => ?_)
      refine wpAnyH_take (i := 0) (v := ?_) rfl (by kernel_rfl) (by kernel_rfl) (by kernel_rfl) (fun _ _ _ h => h) (Or.inl ⟨by rfl, ?_⟩) (by assumption) ?_
      rotate_left
      · intro w hSw
        try dsimp only at hSw
        go_simp
        try with_reducible rfl
      try simp only [List.getElem_toArray, List.getElem_cons_zero, Act.put, List.setIfInBounds_toArray, List.set_cons_zero, List.set_cons_succ]
      refine wpAnyH_take (i := 1) (v := ?_) rfl (by kernel_rfl) (by kernel_rfl) (by kernel_rfl) (fun _ _ _ h => h) (Or.inl ⟨by rfl, ?_⟩) (by assumption) ?_
      rotate_left
      · intro w hSw
        try dsimp only at hSw
        go_simp
        try with_reducible rfl
      try simp only [List.getElem_toArray, List.getElem_cons_zero, List.getElem_cons_succ, Act.put, List.setIfInBounds_toArray, List.set_cons_zero, List.set_cons_succ]
      refine wpAnyH_take (i := 2) (v := ?_) rfl (by kernel_rfl) (by kernel_rfl) (by kernel_rfl) (fun _ _ _ h => h) (Or.inl ⟨by rfl, ?_⟩) (by assumption) ?_
      rotate_left
      · intro w hSw
        try dsimp only at hSw
        go_simp
        try with_reducible rfl
      try simp only [List.getElem_toArray, List.getElem_cons_zero, List.getElem_cons_succ, Act.put, List.setIfInBounds_toArray, List.set_cons_zero, List.set_cons_succ]
      refine wpAnyH_take (i := 3) (v := ?_) rfl (by kernel_rfl) (by kernel_rfl) (by kernel_rfl) (fun _ _ _ h => h) (Or.inl ⟨by rfl, ?_⟩) (by assumption) ?_
      rotate_left
      · intro w hSw
        try dsimp only at hSw
        go_simp
        try with_reducible rfl
      try simp only [List.getElem_toArray, List.getElem_cons_zero, List.getElem_cons_succ, Act.put, List.setIfInBounds_toArray, List.set_cons_zero, List.set_cons_succ]
      refine wpAnyH_take (i := 4) (v := ?_) rfl (by kernel_rfl) (by kernel_rfl) (by kernel_rfl) (fun _ _ _ h => h) (Or.inl ⟨by rfl, ?_⟩) (by assumption) ?_
      rotate_left
      · intro w hSw
        try dsimp only at hSw
        go_simp
        try with_reducible rfl
      try simp only [List.getElem_toArray, List.getElem_cons_zero, List.getElem_cons_succ, Act.put, List.setIfInBounds_toArray, List.set_cons_zero, List.set_cons_succ]
      refine wpAnyH_take (i := 5) (v := ?_) rfl (by kernel_rfl) (by kernel_rfl) (by kernel_rfl) (fun _ _ _ h => h) (Or.inl ⟨by rfl, ?_⟩) (by assumption) ?_
      rotate_left
      · intro w hSw
        try dsimp only at hSw
        go_simp
        try with_reducible rfl
      try simp only [List.getElem_toArray, List.getElem_cons_zero, List.getElem_cons_succ, Act.put, List.setIfInBounds_toArray, List.set_cons_zero, List.set_cons_succ]
      refine wpAnyH_take (i := 6) (v := ?_) rfl (by kernel_rfl) (by kernel_rfl) (by kernel_rfl) (fun _ _ _ h => h) (Or.inl ⟨by rfl, ?_⟩) (by assumption) ?_
      rotate_left
      · intro w hSw
        try dsimp only at hSw
        go_simp
        try with_reducible rfl
      try simp only [List.getElem_toArray, List.getElem_cons_zero, List.getElem_cons_succ, Act.put, List.setIfInBounds_toArray, List.set_cons_zero, List.set_cons_succ]
      refine wpAnyH_take (i := 8) (v := ?_) rfl (by kernel_rfl) (by kernel_rfl) (by kernel_rfl) (fun _ _ _ h => h) (Or.inl ⟨by rfl, ?_⟩) (by assumption) ?_
      rotate_left
      · intro w hSw
        try dsimp only at hSw
        go_simp
        try with_reducible rfl
      try simp only [List.getElem_toArray, List.getElem_cons_zero, List.getElem_cons_succ, Act.put, List.setIfInBounds_toArray, List.set_cons_zero, List.set_cons_succ]
      refine wpAnyH_take (i := 9) (v := ?_) rfl (by kernel_rfl) (by kernel_rfl) (by kernel_rfl) (fun _ _ _ h => h) (Or.inl ⟨by rfl, ?_⟩) (by assumption) ?_
      rotate_left
      · intro w hSw
        try dsimp only at hSw
        go_simp
        try with_reducible rfl
      try simp only [List.getElem_toArray, List.getElem_cons_zero, List.getElem_cons_succ, Act.put, List.setIfInBounds_toArray, List.set_cons_zero, List.set_cons_succ]
      refine wpAnyH_take (i := 10) (v := ?_) rfl (by kernel_rfl) (by kernel_rfl) (by kernel_rfl) (fun _ _ _ h => h) (Or.inl ⟨by rfl, ?_⟩) (by assumption) ?_
      rotate_left
      · intro w hSw
        try dsimp only at hSw
        go_simp
        try with_reducible rfl
      try simp only [List.getElem_toArray, List.getElem_cons_zero, List.getElem_cons_succ, Act.put, List.setIfInBounds_toArray, List.set_cons_zero, List.set_cons_succ]
      refine wpAnyH_take (i := 11) (v := ?_) rfl (by kernel_rfl) (by kernel_rfl) (by kernel_rfl) (fun _ _ _ h => h) (Or.inl ⟨by rfl, ?_⟩) (by assumption) ?_
      rotate_left
      · intro w hSw
        try dsimp only at hSw
        go_simp
        try with_reducible rfl
      try simp only [List.getElem_toArray, List.getElem_cons_zero, List.getElem_cons_succ, Act.put, List.setIfInBounds_toArray, List.set_cons_zero, List.set_cons_succ]
      refine wpAnyH_take (i := 12) (v := ?_) rfl (by kernel_rfl) (by kernel_rfl) (by kernel_rfl) (fun _ _ _ h => h) (Or.inl ⟨by rfl, ?_⟩) (by assumption) ?_
      rotate_left
      · intro w hSw
        try dsimp only at hSw
        go_simp
        try with_reducible rfl
      try simp only [List.getElem_toArray, List.getElem_cons_zero, List.getElem_cons_succ, Act.put, List.setIfInBounds_toArray, List.set_cons_zero, List.set_cons_succ]
      refine wpAnyH_take (i := 13) (v := ?_) rfl (by kernel_rfl) (by kernel_rfl) (by kernel_rfl) (fun _ _ _ h => h) (Or.inl ⟨by rfl, ?_⟩) (by assumption) ?_
      rotate_left
      · intro w hSw
        try dsimp only at hSw
        go_simp
        try with_reducible rfl
      try simp only [List.getElem_toArray, List.getElem_cons_zero, List.getElem_cons_succ, Act.put, List.setIfInBounds_toArray, List.set_cons_zero, List.set_cons_succ]
      refine wpAnyH_take (i := 14) (v := ?_) rfl (by kernel_rfl) (by kernel_rfl) (by kernel_rfl) (fun _ _ _ h => h) (Or.inl ⟨by rfl, ?_⟩) (by assumption) ?_
      rotate_left
      · intro w hSw
        try dsimp only at hSw
        go_simp
        try with_reducible rfl
      try simp only [List.getElem_toArray, List.getElem_cons_zero, List.getElem_cons_succ, Act.put, List.setIfInBounds_toArray, List.set_cons_zero, List.set_cons_succ]
      refine wpAnyH_take (i := 15) (v := ?_) rfl (by kernel_rfl) (by kernel_rfl) (by kernel_rfl) (fun _ _ _ h => h) (Or.inl ⟨by rfl, ?_⟩) (by assumption) ?_
      rotate_left
      · intro w hSw
        try dsimp only at hSw
        go_simp
        try with_reducible rfl
      try simp only [List.getElem_toArray, List.getElem_cons_zero, List.getElem_cons_succ, Act.put, List.setIfInBounds_toArray, List.set_cons_zero, List.set_cons_succ]
      refine wpAnyH_take (i := 16) (v := ?_) rfl (by kernel_rfl) (by kernel_rfl) (by kernel_rfl) (fun _ _ _ h => h) (Or.inl ⟨by rfl, ?_⟩) (by assumption) ?_
      rotate_left
      · intro w hSw
        try dsimp only at hSw
        go_simp
        try with_reducible rfl
      try simp only [List.getElem_toArray, List.getElem_cons_zero, List.getElem_cons_succ, Act.put, List.setIfInBounds_toArray, List.set_cons_zero, List.set_cons_succ]
      refine wpAnyH_ready (rs := [7]) (by kernel_rfl) (by simp) ?_
      refine AllReadyH.cons rfl (fun K hK => ?_) AllReadyH.nil
      go_simp
      refine hK.out _ _ (by (try dsimp only); go_keep) (fun hHeld => ?_)
      clear hK K
      try simp only [List.getElem_toArray, List.getElem_cons_zero, List.getElem_cons_succ, Act.put, List.setIfInBounds_toArray, List.set_cons_zero, List.set_cons_succ]
      refine wpAnyH_ready (rs := [17]) (by kernel_rfl) (by simp) ?_
      refine AllReadyH.cons rfl (fun K hK => ?_) AllReadyH.nil
      go_simp
      go_at_call 183
      rw [HCAST.out]
      refine (swap_any HV3.out hpn hk1 hep hek).mono ?_
      rintro e w' ⟨rfl, hrw⟩
      refine hK.out _ _ (by (try dsimp only); exact KEEP.out _ hrw) (fun hHeld => ?_)
      clear hK K
      try simp only [List.getElem_toArray, List.getElem_cons_zero, List.getElem_cons_succ, Act.put, List.setIfInBounds_toArray, List.set_cons_zero, List.set_cons_succ]
      refine wpAnyH_done (by kernel_rfl) ?_ _
      go_wp2_with fail
      go_meet
      exact hrw
    case rest =>
      have HC := hid hcut
      obtain ⟨a0, a1, a2⟩ := hcut.pBl HBI.out
      simp only at a0 a1 a2
      have al := hcut.pLts.2.2.2.2
      have af := (hcut.pFz (i * 3 + 2)).2.2.2.2
      clear hcut c0 c1 c2 c3 d1 g0 g1 g2 l0 l1 l2 l3 l4
      go_wp2_with fail
      go_ret2
      have h2 := HC.out.pSetBl (y := (x1, x2, x3 + 1)) HBI.out 2 (.int .i64 ((x3 + 1 : Nat) : Int)) (by decide) rfl
      refine ⟨true, _, _, _, rfl, ⟨h2, HPI.out, H.out.n1⟩, by simp, HMK2.out⟩
end
end Go.Proofs.YtdhloijdefnkpaaGreatDoor
namespace Go.Proofs.YtdhloijdefnkpaaGreatDoor
open Go.RowKit Pl Go.Sort Go.Shelf Go.Lib
theorem flat_encI (L : List Int) : L.flatMap encI = L.map (Value.int .i64) := by
  induction L with
  | nil => rfl
  | cons x l ih => rw [List.flatMap_cons, ih]; rfl
theorem below_putRowI {w0 w : World} {B g m : Nat} {os : Array Obj} {d : Array Int} (h : RowKit.Below B w0 w) (hb : B ≤ g) (hg : g < w.heap.size) : RowKit.Below B w0 (grow (putRow (Value.int .i64) (Sort.ahead w m) g 0 d) os) :=
  h.trans ⟨rfl, rfl, rfl, by simp [grow, putRow, mapBlock, Sort.ahead], fun i hi => by
    unfold grow putRow mapBlock Sort.ahead
    simp only
    rw [Array.getElem?_append_left (by simp; omega), Array.getElem?_modify, if_neg (by omega)]⟩
theorem sortI_v {base : Nat} {v : Value} {L : List Int} {w : World} (h : w.ownsRow base 3 1 v L.length (L.flatMap encI)) (hl : L.length ≤ 1000000) :
    Calls Tryz.prog 171 #[v] w fun e w' => e = .returned (.tuple #[]) ∧
      w'.ownsRow base 3 1 v (L.mergeSort fun x y => decide (x ≤ y)).length ((L.mergeSort fun x y => decide (x ≤ y)).flatMap encI) ∧ (∀ {w0 : World}, RowKit.Below base w0 w → RowKit.Below base w0 w') := by
  have hlen : (L.mergeSort fun x y => decide (x ≤ y)).length = L.length := (List.mergeSort_perm L _).length_eq
  rw [flat_encI] at h
  rw [flat_encI, hlen]
  rcases h.2 with ⟨rfl, hn⟩ | ⟨g, cap, cur, rfl, hbg, hg, hnc, hcm, hcs, htake⟩
  · have hx : L = [] := List.eq_nil_of_length_eq_zero hn
    subst hx
    have hcon := Any.slices_Sort_int_none Tryz.sortI none 0 w
    change Calls Tryz.prog 171 _ _ _ at hcon
    refine hcon.mono ?_
    rintro e w' ⟨rfl, rfl⟩
    exact ⟨rfl, by simpa using h, fun hB => hB⟩
  · obtain ⟨g', cap', hv, _, hlt, _, _, _, hH⟩ := holds_of_ownsRow (enc := Value.int .i64) h (by simp)
    simp only [Value.slice.injEq, Option.some.injEq, Addr.mk.injEq, and_true, true_and] at hv
    obtain ⟨rfl, rfl⟩ := hv
    have hcon := Any.slices_Sort_int Tryz.sortI g 0 cap L w hH hlt (by omega)
    change Calls Tryz.prog 171 _ _ _ at hcon
    refine hcon.mono ?_
    rintro e w' ⟨rfl, m, os, rfl⟩
    exact ⟨rfl, ownsRow_sortedI hlen hbg hg hnc hcm hcs, fun hB => below_putRowI hB hbg hlt⟩
end Go.Proofs.YtdhloijdefnkpaaGreatDoor
namespace Go.Proofs.YtdhloijdefnkpaaGreatDoor
open Go.RowKit Pl
open Lib (hid)
set_option maxRecDepth 100000 in
theorem cloneI_any {a : Option Addr} {b off c : Nat} {xs : List Int} {w : World} (h : SlAt encI 1 w a b off xs) (hl : xs.length ≤ 1000000) :
    Calls Tryz.prog 170 #[.slice a xs.length c] w fun e w' => ∃ v, e = .returned v ∧ w'.ownsRow w.heap.size 3 1 v xs.length (xs.flatMap encI) ∧ Below w.heap.size w w' := by
  cases a with
  | none =>
    have hx : xs = [] := by
      cases xs with
      | nil => rfl
      | cons x l => have := h.ad (by simp); cases this
    subst hx
    have heq := fun (w : World) => Lib.run_eql_slice_nil (P := Tryz.prog) w 33 3 none 0 c 0 0 Tryz.underlying33
    clear h
    go_enter Tryz.func170, Tryz.ntmps170
    go_wp2
    go_ret
    exact ⟨_, rfl, World.ownsRow_nil _ _ _ _, Below.refl _ _⟩
  | some ad =>
    have heq := fun (w : World) => Lib.run_eql_slice_nil (P := Tryz.prog) w 33 3 (some ad) xs.length c 0 0 Tryz.underlying33
    have hnews : ∀ j u, (xs.flatMap encI)[j]? = some u → w.cell? (ad.add j) = some u := by
      intro j u hu
      have hj := (List.getElem?_eq_some_iff.1 hu).1
      rw [length_flatMap lenI] at hj
      have hp : 0 < xs.length := by cases xs <;> simp at *
      have := h.ad hp
      simp at this; subst this
      exact slAt_flat lenI h j u hu
    have hlen : (xs.flatMap encI).length = xs.length * 1 := length_flatMap lenI xs
    have h1 : ∀ u ∈ xs.flatMap encI, u.oneCell' = true := by
      intro u hu
      obtain ⟨x, _, hx⟩ := List.mem_flatMap.1 hu
      simp [encI] at hx
      subst hx; rfl
    have HN := hid hnews; have HL := hid hlen; have H1 := hid h1
    clear h hnews hlen h1
    generalize xs.flatMap encI = news at *
    go_enter Tryz.func170, Tryz.ntmps170
    go_wp2_with (at_builtin; refine wpList_app rfl _ _ _ rfl rowI ((Below.refl w.heap.size w).alloc (Nat.le_refl _) _) (by simp) rfl (World.ownsRow_made w #[] 0 (Nat.le_refl _) (by decide) (by simp)) ad xs.length c news rfl HL.out (fun j u hu => cell_alloc_of (HN.out j u hu)) H1.out (by omega) (by unfold maxLen; omega) ?_; intro v' w1 hown1 hb1 _)
    go_ret
    exact ⟨_, rfl, by simpa using hown1, hb1⟩
section
variable {w0 w : World} {K : PK} {n : Nat} {el pl inn : Nat → Nat} {bl : List B3} {rest : List Rw}
theorem elRow_len (el : Nat → Nat) (x : B3) : (elRow el x).length = x.2.1 - x.1 := by simp [elRow]
theorem Rws.pRow (h : Rws w0 w (PR K n el pl inn bl ++ rest)) {x : B3} (hx : x.1 < x.2.1) (hn : x.2.1 ≤ n) : SlAt encI 1 w (some ⟨K.eb, x.1, none⟩) K.eb x.1 ((elRow el x).map Int.ofNat) :=
  ⟨fun _ => rfl, fun _ => h.pLts.2.1, fun i y hy j u hu => by
    have hi := (List.getElem?_eq_some_iff.1 hy).1
    rw [List.length_map, elRow_len] at hi
    have hj := (List.getElem?_eq_some_iff.1 hu).1
    rw [lenI] at hj
    obtain rfl : j = 0 := by omega
    have hye : y = (el (x.1 + i) : Int) := by
      unfold elRow at hy
      rw [List.map_map, List.getElem?_map, List.getElem?_range' (by omega)] at hy
      simpa using hy.symm
    simp only [encI, List.getElem?_cons_zero, Option.some.injEq] at hu
    rw [← hu, hye, Nat.mul_one, Nat.add_zero]
    exact h.pEl (by omega)⟩
def MembersPost (w : World) (M : List Int) (e : Ending) (w' : World) : Prop :=
  ∃ v, e = .returned (.tuple #[v, .nilIface]) ∧ w'.ownsRow w.heap.size 3 1 v M.length (M.flatMap encI) ∧ Below w.heap.size w w'
set_option maxRecDepth 100000 in
set_option maxHeartbeats 1000000 in
theorem members_any (h : PW w0 w K n el pl inn bl rest) {b : Nat} (hb : b < bl.length) :
    Calls Tryz.prog 136 #[.pointer (some ⟨K.pb, 0, none⟩), .int .i64 b] w (MembersPost w ((memN n inn b).map Int.ofNat)) := by
  obtain ⟨x, hx⟩ : ∃ x, bl[b]? = some x := ⟨_, List.getElem?_eq_getElem hb⟩
  obtain ⟨b1, b2, b3⟩ := h.pi.blk b x hx
  have hn := h.n1
  have hB := hid (parBlocks_any h.rws)
  have hA := hid (asked_ok w K.pb b bl.length hb)
  have hR := hid (parRow_any h hx)
  have hM := sort_memN (n := n) (f := inn) (b := b) (L := (elRow el x).map Int.ofNat) (by
    have := h.pi.rowE_nodup hx
    unfold List.Nodup at this ⊢
    rw [List.pairwise_map]
    exact this.imp (fun {a b} hab e => hab (Int.ofNat.inj e))) (fun y => by
    simp only [List.mem_map]
    constructor
    · rintro ⟨e, he, rfl⟩; exact ⟨e, (h.pi.rowE_mem hx e).1 he, rfl⟩
    · rintro ⟨e, he, rfl⟩; exact ⟨e, (h.pi.rowE_mem hx e).2 he, rfl⟩)
  obtain ⟨L, hL⟩ : ∃ L, L = (elRow el x).map Int.ofNat := ⟨_, rfl⟩
  have hLl : L.length = x.2.1 - x.1 := by rw [hL, List.length_map, elRow_len]
  have HP : Hid (∀ W, Below w.heap.size w W → SlAt encI 1 W (some ⟨K.eb, x.1, none⟩) K.eb x.1 L) := hid (fun W hW => by rw [hL]; exact (h.rws.call hW).pRow b1 b2)
  rw [← hL] at hM
  have HM := hid hM; have HLL := hid hLl
  have hl1 : L.length ≤ 1000000 := by omega
  rw [← hLl] at hR
  clear h hx hM hL hLl
  go_enter Tryz.func136, Tryz.ntmps136
  go_wp2_with fail
  refine hB.out.mono ?_
  rintro e w1 ⟨rfl, rfl⟩
  go_wp2_with fail
  refine hA.out.mono ?_
  rintro e w1 ⟨rfl, rfl⟩
  go_wp2_with fail
  refine hR.out.mono ?_
  rintro e w1 ⟨rfl, hB1⟩
  have HB1 := hid hB1
  have HC := hid (cloneI_any (c := L.length) (HP.out _ hB1) hl1)
  clear hB1
  go_wp2_with fail
  refine HC.out.mono ?_
  rintro e w2 ⟨v, rfl, hown, hB2⟩
  have HS := hid (sortI_v hown hl1)
  have HB2 := hid hB2
  clear hown hB2 HC HP
  go_wp2_with fail
  refine HS.out.mono ?_
  rintro e w3 ⟨rfl, hown, hk⟩
  have hB3 := HB1.out.trans ((hk HB2.out).mono HB1.out.size)
  rw [HM.out] at hown
  have HO := hid (own_mono hown HB1.out.size); have HB3 := hid hB3
  clear hown hk hB3
  go_wp2_with fail
  go_ret2
  exact ⟨v, rfl, HO.out, HB3.out⟩
end
end Go.Proofs.YtdhloijdefnkpaaGreatDoor
namespace Go.Proofs.YtdhloijdefnkpaaGreatDoor
open Go.RowKit Pl
open Lib (hid)
namespace Pl
theorem mkB_succ {bl : List B3} {k : Nat} {x : B3} (h : bl[k]? = some x) : mkB bl (k + 1) = mkB bl k ++ (if 0 < x.2.2 then [k] else []) := by
  unfold mkB
  rw [List.range_succ, List.filter_append]
  congr 1
  by_cases h0 : 0 < x.2.2
  · rw [if_pos h0]
    simp [h, h0]
  · rw [if_neg h0]
    have h1 : x.2.2 = 0 := by omega
    simp [h, h1]
theorem mkB_len (bl : List B3) (k : Nat) : (mkB bl k).length ≤ k := by
  unfold mkB
  have := List.length_filter_le (fun b => decide (∃ x, bl[b]? = some x ∧ 0 < x.2.2)) (List.range k)
  simpa using this
end Pl
section
variable {w0 w : World} {K : PK} {n : Nat} {el pl inn : Nat → Nat} {bl : List B3} {rest : List Rw}
def OwnI (w : World) (M : List Int) (e : Ending) (w' : World) : Prop :=
  ∃ v, e = .returned v ∧ w'.ownsRow w.heap.size 3 1 v M.length (M.flatMap encI) ∧ Below w.heap.size w w'
set_option maxRecDepth 100000 in
set_option maxHeartbeats 1000000 in
theorem marked_any (h : PW w0 w K n el pl inn bl rest) :
    Calls Tryz.prog 164 #[.pointer (some ⟨K.pb, 0, none⟩)] w (OwnI w ((mkB bl bl.length).map Int.ofNat)) := by
  have H := hid h
  obtain ⟨c0, c1, c2, c3⟩ := h.rws.pCells
  have l0 := h.rws.pLts.1
  have hcb := h.rws.pCaps.2.2.2
  have hfew := h.pi.few
  have hn := h.n1
  obtain ⟨m, hm⟩ : ∃ m, m = bl.length := ⟨_, rfl⟩
  rw [← hm] at c3 hcb hfew ⊢
  have HMM := hid hm
  clear h hm c0 c1 c2
  go_enter Tryz.func164, Tryz.ntmps164
  go_wp2_with fail
  refine (parOwn_any w K.pb).mono ?_
  rintro e w1 ⟨rfl, rfl⟩
  go_wp2_with fail
  go_loopw [3, 4, 5, 12] (fun v3 _ _ v12 wr => ∃ k : Nat, v12 = .int .i64 k ∧ k ≤ m ∧ wr.ownsRow w.heap.size 3 1 v3 ((mkB bl k).map Int.ofNat).length (((mkB bl k).map Int.ofNat).flatMap encI) ∧ Below w.heap.size w wr) (fun _ _ _ v12 _ => m - (intOf v12).toNat)
  case atStart => exact ⟨0, rfl, Nat.zero_le _, ⟨by simp [mkB], .inl ⟨rfl, by simp [mkB]⟩⟩, Below.refl _ _⟩
  case round =>
    obtain ⟨k, rfl, hk, hown, hB⟩ := hrel
    have HOWN := hid hown; have HB := hid hB
    have hsz := hB.size
    clear hown hB
    by_cases hlt : k < m
    · obtain ⟨x, hx⟩ : ∃ x, bl[k]? = some x := ⟨_, List.getElem?_eq_getElem (by have := HMM.out; omega)⟩
      have h1 := H.out.rws.call HB.out
      obtain ⟨g0, g1, g2⟩ := h1.pBl hx
      have gl := h1.pLts.2.2.2.2
      obtain ⟨b1, b2, b3⟩ := H.out.pi.blk k x hx
      have hsucc := mkB_succ hx
      have hlen := mkB_len bl k
      obtain ⟨x1, x2, x3⟩ := x
      simp only at g0 g1 g2 b1 b2 b3 hsucc
      have hkI : (k : Int) < (m : Int) := by omega
      have hmx : ((mkB bl k).map Int.ofNat).length ≤ 1000 := by simp; omega
      have HSU := hid hsucc
      clear h1 hx hsucc hlen
      by_cases h0 : 0 < x3
      · have hb : decide ((0 : Int) < (x3 : Int)) = true := by simp; omega
        have h3I : (0 : Int) < (x3 : Int) := by omega
        have hs' : ((mkB bl (k + 1)).map Int.ofNat) = ((mkB bl k).map Int.ofNat) ++ [(k : Int)] := by rw [HSU.out, if_pos h0, List.map_append]; rfl
        have HS := hid hs'
        clear hs'
        go_wp2_with (at_builtin; refine wpList_app1 rfl _ _ _ rfl rowI (Below.refl _ _) (by simp; omega) rfl ((HOWN.out.alloc _).alloc _) ⟨wr.heap.size + 1, 0, none⟩ 1 1 [.int .i64 (k : Int)] rfl rfl (cells1 (by simp [go_sem])) (by simp [Value.oneCell']) (by decide) (by omega) (by unfold maxLen; omega) ?_; intro g cap w7 hown7 _ hg7)
        have hb7 : Below w.heap.size w w7 := ((HB.out.alloc hsz _).alloc (by simp; omega) _).grown hg7 (by simp; omega) (fun k hk => (HOWN.out.lt k hk).1)
        have hown8 : w7.ownsRow w.heap.size 3 1 (.slice (some ⟨g, 0, none⟩) (((mkB bl k).map Int.ofNat).length + 1) cap) ((mkB bl (k + 1)).map Int.ofNat).length (((mkB bl (k + 1)).map Int.ofNat).flatMap encI) := by
          rw [HS.out, List.length_append, List.flatMap_append]; exact hown7
        have hlm : ((mkB bl k).map Int.ofNat).length = (mkB bl k).length := List.length_map ..
        rw [hlm] at hown8
        have HO8 := hid hown8; have HB7 := hid hb7
        clear hown7 hown8 hg7 hb7 hlm
        go_roundw
        case rel => exact ⟨k + 1, by go_num, by omega, HO8.out, HB7.out⟩
        case measure => simp [intOf]; omega
      · have hb : decide ((0 : Int) < (x3 : Int)) = false := by simp; omega
        have h3I : ¬ (0 : Int) < (x3 : Int) := by omega
        have hs' : (mkB bl (k + 1)) = (mkB bl k) := by rw [HSU.out, if_neg h0, List.append_nil]
        have HS := hid hs'
        clear hs'
        go_wp2_with fail
        go_roundw
        case rel => exact ⟨k + 1, by go_num, by omega, by rw [HS.out]; exact HOWN.out.alloc _, HB.out.alloc hsz _⟩
        case measure => simp [intOf]; omega
    · obtain rfl : m = k := by omega
      go_wp2_with fail
      go_ret
      exact ⟨_, rfl, HOWN.out, HB.out⟩
theorem flN_slAt (h : Rws w0 w (PR K n el pl inn bl ++ rest)) : SlAt encI 1 w (some ⟨K.ib, 0, none⟩) K.ib 0 (flN n inn) :=
  ⟨fun _ => rfl, fun _ => h.pLts.2.2.2.1, fun i y hy j u hu => by
    have hi := (List.getElem?_eq_some_iff.1 hy).1
    rw [flN_len] at hi
    have hj := (List.getElem?_eq_some_iff.1 hu).1
    rw [lenI] at hj
    obtain rfl : j = 0 := by omega
    rw [flN_get _ hi] at hy
    obtain rfl := Option.some.inj hy
    simp only [encI, List.getElem?_cons_zero, Option.some.injEq] at hu
    rw [← hu, Nat.zero_add, Nat.mul_one, Nat.add_zero]
    exact h.pIn hi⟩
set_option maxRecDepth 100000 in
theorem parClasses_any (h : PW w0 w K n el pl inn bl rest) :
    Calls Tryz.prog 102 #[.pointer (some ⟨K.pb, 0, none⟩)] w (OwnI w (canon (flN n inn))) := by
  obtain ⟨c0, c1, c2, c3⟩ := h.rws.pCells
  have l0 := h.rws.pLts.1
  have hn := h.n1
  have hfew := h.pi.few
  have hC := canon_any (c := K.ci) (flN_slAt h.rws) (by rw [flN_len]; omega) (fun x hx => by
    obtain ⟨i, hi, rfl⟩ := List.mem_map.1 (show x ∈ (List.range n).map (fun i => (inn i : Int)) from hx)
    have := h.pi.lt (e := i) (by simpa using hi)
    exact WalkArith.wf_i64 (by omega))
  rw [flN_len] at hC
  have HC := hid hC
  have HL := hid (show (canon (flN n inn)).length = n by rw [canon_len, flN_len])
  clear h hC c0 c1 c3
  go_enter Tryz.func102, Tryz.ntmps102
  go_wp2_with fail
  refine (parOwn_any w K.pb).mono ?_
  rintro e w1 ⟨rfl, rfl⟩
  go_wp2_with fail
  refine HC.out.mono ?_
  rintro e w1 ⟨v, rfl, hown, hB⟩
  have hown2 : w1.ownsRow w.heap.size 3 1 v (canon (flN n inn)).length ((canon (flN n inn)).flatMap encI) := by rw [HL.out]; exact hown
  have HO := hid hown2; have HB := hid hB
  clear hown hown2 hB
  go_wp2_with fail
  go_ret
  exact ⟨v, rfl, HO.out, HB.out⟩
end
end Go.Proofs.YtdhloijdefnkpaaGreatDoor

/-
  law9.StrongApart.
-/
import Derived.Test.YtfakdgljilmpkaaGreatDoorGStrQ
import Derived.Test.YtfakdgljilmpkaaGreatDoorMet9
import Derived.Test.YtfakdgljilmpkaaGreatDoorLawRel
import Derived.Deep.RegionHeldLaw
namespace Go.Proofs.YtfakdgljilmpkaaGreatDoor
open Go.RowKit Pl

set_option maxRecDepth 100000 in
set_option maxHeartbeats 8000000 in
theorem strongApart_any {w : World} {p0 pc : Addr} (hG : GErr 0 p0 w) (hC : GErr 2 pc w) (hT : ErrType w) {s : Lts} {a : Option Addr} {b off c : Nat} (hS : SlAt encE 3 w a b off s.es) :
    Calls Tryz.prog 7 #[.agg #[.int .i64 s.st, .int .i64 s.lb, .int .i64 s.s0, .slice a s.es.length c]] w fun e w' => e = .returned (.bool true) ∧ Below w.heap.size w w' := by
  have hB0 := (Below.refl w.heap.size w).alloc (Nat.le_refl _) (Obj.cells #[.int .i64 s.st, .int .i64 s.lb, .int .i64 s.s0, .slice a s.es.length c] 24)
  have hbx := heap_alloc_new w (Obj.cells #[.int .i64 s.st, .int .i64 s.lb, .int .i64 s.s0, .slice a s.es.length c] 24)
  have HG := Lib.hid hG; have HC := Lib.hid hC; have HT := Lib.hid hT; have HS := Lib.hid hS; have HB0 := Lib.hid hB0; have HBX := Lib.hid hbx
  have HSM := Lib.hid (small9_any s.s0 s.st s.lb a s.es.length c (w.alloc (Obj.cells #[.int .i64 s.st, .int .i64 s.lb, .int .i64 s.s0, .slice a s.es.length c] 24)))
  clear hG hC hT hS hB0 hbx
  have ALV : RowKit.Hid (∀ w1 : World, Below w.heap.size w w1 → Calls Tryz.prog 16 #[] w1 fun e w' => e = .returned (.bool true) ∧ Below w.heap.size w w' ∧ Below w1.heap.size w1 w') := Lib.hid (by
    intro w1 h1
    refine (alive9_any (HG.out.below h1) (HC.out.below h1)).mono ?_
    rintro e w' ⟨rfl, hB⟩
    exact ⟨rfl, h1.trans (hB.mono h1.size), hB⟩)
  go_enter Tryz.func7, Tryz.ntmps7
  go_wp2_with fail
  refine HSM.out.mono ?_
  rintro e w1 ⟨rfl, hB⟩
  obtain ⟨m, hm⟩ : ∃ m, m = (decide (s.st ≤ 80) && decide (s.es.length ≤ 600)) := ⟨_, rfl⟩
  rw [← hm]
  have hb1 := HB0.out.trans (hB.mono (by simp))
  have hx1 := (hB.block w.heap.size (by simp)).trans HBX.out
  have HB1 := Lib.hid hb1; have HM := Lib.hid hm
  obtain ⟨x0, x1, x2, x3, x4⟩ := sys9 hx1
  have HX1 := Lib.hid hx1
  clear hb1 hm hB hx1 HBX HB0 HSM
  cases m
  · go_wp2_with fail
    refine (ALV.out _ HB1.out).mono ?_
    rintro e w2 ⟨rfl, hB, _⟩
    go_wp2
    go_ret
    exact ⟨rfl, hB⟩
  by_cases hr : ¬ s.Right
  · have HNO := Lib.hid (strClassesNo_any (c := c) hr (HG.out.below HB1.out) (HT.out.below HB1.out) (HS.out.below HB1.out (Nat.le_refl _)))
    clear hr
    go_wp2_with fail
    refine HNO.out.mono ?_
    rintro e w2 ⟨v, rfl, hf, hB⟩
    obtain ⟨v1, hf, _⟩ := hf
    obtain ⟨fb, rfl, _⟩ := hf.ex
    have HB2 := Lib.hid (HB1.out.trans (hB.mono HB1.out.size))
    clear hB hf HNO
    go_wp2_with fail
    refine (ALV.out _ HB2.out).mono ?_
    rintro e w3 ⟨rfl, hB, _⟩
    go_wp2
    go_ret
    exact ⟨rfl, hB⟩
  have hr := Classical.not_not.1 hr
  have h0 := hr.st0
  have hm := HM.out
  simp only [Bool.true_eq, Bool.and_eq_true, decide_eq_true_eq] at hm
  obtain ⟨h80, h600⟩ := hm
  obtain ⟨st, lb, s0, es⟩ := s
  simp only at h80 h600 h0 x0 x1 x2 x3 HX1 HS
  obtain ⟨n, rfl⟩ := Int.eq_ofNat_of_zero_le h0.1
  have hn3 : n ≤ 80 := by omega
  have HR := Lib.hid hr
  have HCL := Lib.hid (strClasses_any (c := c) (n := n) HR.out rfl (HG.out.below HB1.out) (HS.out.below HB1.out (Nat.le_refl _)))
  clear h80 h0 hr HM
  go_wp2_with fail
  refine HCL.out.mono ?_
  unfold StrClasses
  rintro e w3 ⟨inn, ca, cc, hbig, rfl, hown, hB⟩
  have hb3 := HB1.out.trans (hB.mono HB1.out.size)
  have hx3 := (hB.block w.heap.size x4).trans HX1.out
  clear x0 x1 x2 x3 x4
  have hcl : (canon (flN n inn)).length = n := by rw [canon_len, flN_len]
  have hos : SlAt encI 1 w3 ca (blkOf ca) 0 (canon (flN n inn)) := ((Rws.nil (Below.refl w1.heap.size w1)).add hB hown).slO (i := 0) rfl lenI hcl.symm
  obtain ⟨cb, hcb⟩ : ∃ cb, cb = blkOf ca := ⟨_, rfl⟩
  rw [← hcb] at hos
  obtain ⟨L, hL⟩ : ∃ L, L = canon (flN n inn) := ⟨_, rfl⟩
  rw [← hL] at hos hcl
  have HLE := Lib.hid hL
  have HNW := Lib.hid (new_ok (c := c) HR.out (HG.out.below hb3) (HS.out.below hb3 (Nat.le_refl _)))
  have HB3 := Lib.hid hb3; have HX3 := Lib.hid hx3; have HCS := Lib.hid hos; have HBIG := Lib.hid hbig
  have HCLN := Lib.hid hcl
  obtain ⟨x0, x1, x2, x3, x4⟩ := sys9 hx3
  clear hb3 hx3 hB hown hos hbig hcl hcb hL HCL HX1 HB1
  go_wp2_with fail
  refine HNW.out.mono ?_
  rintro e w5 ⟨gb, rfl, hgr, hB5, _⟩
  have hb5 := HB3.out.trans (hB5.mono HB3.out.size)
  have hx5 := (hB5.block w.heap.size x4).trans HX3.out
  have HGR5 := Lib.hid hgr; have HB5 := Lib.hid hb5; have HX5 := Lib.hid hx5; have HC5 := Lib.hid (HCS.out.below hB5 (Nat.le_refl _))
  clear x0 x1 x2 x3 x4
  obtain ⟨x0, x1, x2, x3, x4⟩ := sys9 hx5
  clear hgr hB5 hb5 hx5 HNW HX3 HB3 HCS
  have HMET : RowKit.Hid (∀ (W : World) (p q : Nat), Below w5.heap.size w5 W → p < n → q < n → Calls Tryz.prog 22 #[.pointer (some ⟨gb, 0, none⟩), .slice ca n cc, .int .i64 p, .int .i64 q] W fun e w' => (∃ r, e = .returned (.bool r) ∧ (r = true ↔ MetP (Lts.norm ⟨(n : Int), lb, s0, es⟩) n (cl9 n inn) p q)) ∧ Below W.heap.size W w') := Lib.hid (fun W p q hW hp hq => by
    refine (met9_any HGR5.out hW (show (Lts.norm ⟨(n : Int), lb, s0, es⟩).st = (n : Int) from rfl) HCLN.out (HC5.out.below hW (Nat.le_refl _)) (p : Int) (q : Int)).mono ?_
    rintro e w' ⟨rfl, hB⟩
    refine ⟨⟨_, rfl, ?_⟩, hB⟩
    rw [HLE.out, canon9]
    exact metB_iff HGR5.out.right rfl)
  have HBG : RowKit.Hid (Big (Lts.norm ⟨(n : Int), lb, s0, es⟩) n (cl9 n inn)) := Lib.hid (big_norm9 (cl9_big HBIG.out))
  have HAT : RowKit.Hid (∀ p, p < n → L[p]? = some (cl9 n inn p)) := Lib.hid (fun p hp => by rw [HLE.out, canon9]; exact fl_get _ hp)
  clear HLE HBIG
  go_wp2_with fail
  clear x0 x1 x2 x3 x4
  go_loopw [7, 8] (fun v7 _ wr => ∃ p : Nat, v7 = .int .i64 p ∧ p ≤ n ∧ Below w5.heap.size w5 wr) (fun v7 _ _ => n - (intOf v7).toNat)
  case atStart => exact ⟨0, rfl, Nat.zero_le _, Below.refl _ _⟩
  case round =>
    obtain ⟨p, rfl, hp, hbe⟩ := hrel
    have HBE := Lib.hid hbe
    have hx := (hbe.block w.heap.size (Array.getElem?_eq_some_iff.1 HX5.out).1).trans HX5.out
    obtain ⟨y0, y1, y2, y3, yl⟩ := sys9 hx
    clear hbe hx y1 y2 y3
    by_cases hpn : p < n
    · have hpI : (p : Int) < (n : Int) := by omega
      go_wp2_with fail
      go_loopw [8] (fun v8 wr => ∃ q : Nat, v8 = .int .i64 q ∧ q ≤ p ∧ Below w5.heap.size w5 wr) (fun v8 _ => p - (intOf v8).toNat)
      case atStart => exact ⟨0, rfl, Nat.zero_le _, HBE.out⟩
      case round =>
        obtain ⟨q, rfl, hq, hbe⟩ := hrel
        have HBF := Lib.hid hbe
        clear HBE
        by_cases hqp : q < p
        · have hqn : q < n := by omega
          have hqI : (q : Int) < (n : Int) := by omega
          have hqP : (q : Int) < (p : Int) := by omega
          have hcs := HC5.out.below hbe (Nat.le_refl _)
          have hln : 0 < L.length := by rw [HCLN.out]; omega
          obtain rfl := hcs.ad hln
          obtain ⟨cp, hcp⟩ : ∃ cp, cp = cl9 n inn p := ⟨_, rfl⟩
          obtain ⟨cq, hcq⟩ : ∃ cq, cq = cl9 n inn q := ⟨_, rfl⟩
          have d0 := hcs.ci (HAT.out p hpn); have d1 := hcs.ci (HAT.out q hqn)
          have dl := hcs.lt hln
          rw [← hcp] at d0; rw [← hcq] at d1
          simp only [Nat.zero_add] at d0 d1
          have HCP := Lib.hid hcp; have HCQ := Lib.hid hcq
          clear hcs hln hcp hcq
          have KEEP : RowKit.Hid (∀ W, Below w5.heap.size w5 W → W.cell? ⟨cb, p, none⟩ = some (.int .i64 cp) ∧ W.cell? ⟨cb, q, none⟩ = some (.int .i64 cq) ∧ cb < W.heap.size ∧ Below w5.heap.size w5 W) := Lib.hid (fun W h1 => by
            have hcs := HC5.out.below h1 (Nat.le_refl _)
            have e0 := hcs.ci (HAT.out p hpn); have e1 := hcs.ci (HAT.out q hqn)
            rw [← HCP.out] at e0; rw [← HCQ.out] at e1
            simp only [Nat.zero_add] at e0 e1
            exact ⟨e0, e1, hcs.lt (by rw [HCLN.out]; omega), h1⟩)
          have hdr : Below w5.heap.size w5 wr.drew := hbe.drew
          by_cases hc : cp = cq
          · have hcd : decide (cp = cq) = true := by simpa using hc
            have hcd2 : (cp != cq) = false := by simpa using hc
            have HBF2 := HBF
            clear hc hdr
            go_upto_region 15 with fail
            go_quiet (fail)
            go_wp2_with fail
            go_roundw
            case rel => exact ⟨q + 1, by go_num, by omega, bdrew HBF2.out⟩
            case measure => simp [intOf]; omega
          · have HNE : RowKit.Hid (¬ (MetP (Lts.norm ⟨(n : Int), lb, s0, es⟩) n (cl9 n inn) p q ∧ MetP (Lts.norm ⟨(n : Int), lb, s0, es⟩) n (cl9 n inn) q p)) := Lib.hid (fun h => hc (by rw [HCP.out, HCQ.out]; exact HBG.out.join hpn hqn h.1 h.2))
            have hcd2 : (cp != cq) = true := by simpa using hc
            have HDR := Lib.hid hdr
            by_cases hm1 : MetP (Lts.norm ⟨(n : Int), lb, s0, es⟩) n (cl9 n inn) p q
            · have HM1 : RowKit.Hid (∀ W, Below w5.heap.size w5 W → Calls Tryz.prog 22 #[.pointer (some ⟨gb, 0, none⟩), .slice (some ⟨cb, 0, none⟩) n cc, .int .i64 p, .int .i64 q] W fun e w' => e = .returned (.bool true) ∧ Below w5.heap.size w5 w') := Lib.hid (fun W hW => by
                refine (HMET.out W p q hW hpn hqn).mono ?_
                rintro e w' ⟨⟨r, rfl, hr⟩, hB⟩
                rw [hr.2 hm1]
                exact ⟨rfl, hW.trans (hB.mono hW.size)⟩)
              have HM2 : RowKit.Hid (∀ W, Below w5.heap.size w5 W → Calls Tryz.prog 22 #[.pointer (some ⟨gb, 0, none⟩), .slice (some ⟨cb, 0, none⟩) n cc, .int .i64 q, .int .i64 p] W fun e w' => e = .returned (.bool false) ∧ Below w5.heap.size w5 w') := Lib.hid (fun W hW => by
                refine (HMET.out W q p hW hqn hpn).mono ?_
                rintro e w' ⟨⟨r, rfl, hr⟩, hB⟩
                have : r = false := by
                  cases r
                  · rfl
                  · exact absurd ⟨hm1, hr.1 rfl⟩ HNE.out
                rw [this]
                exact ⟨rfl, hW.trans (hB.mono hW.size)⟩)
              clear hm1 hc
              go_upto_region 15 with fail
              refine wp_region_held_drew (S := (fun W => W.cell? ⟨cb, p, none⟩ = some (.int .i64 cp) ∧ W.cell? ⟨cb, q, none⟩ = some (.int .i64 cq) ∧ cb < W.heap.size ∧ Below w5.heap.size w5 W)) (by kernel_rfl) (by (try dsimp only); exact KEEP.out _ hdr) (fun hHeld => ?_)
              refine wpAnyH_take (i := 0) (v := ?_) rfl (by kernel_rfl) (by kernel_rfl) (by kernel_rfl) (fun _ _ _ h => h) (Or.inl ⟨by rfl, ?_⟩) (by assumption) ?_
              rotate_left
              · intro w hSw
                try dsimp only at hSw
                go_simp
                try with_reducible rfl
              try simp only [List.getElem_toArray, List.getElem_cons_zero, Act.put, List.setIfInBounds_toArray, List.set_cons_zero, List.set_cons_succ]
              refine wpAnyH_take (i := 1) (v := ?_) rfl (by kernel_rfl) (by kernel_rfl) (by kernel_rfl) (fun _ _ _ h => h) (Or.inl ⟨by rfl, ?_⟩) (by assumption) ?_
              rotate_left
              · intro w hSw
                try dsimp only at hSw
                go_simp
                try with_reducible rfl
              try simp only [List.getElem_toArray, List.getElem_cons_zero, List.getElem_cons_succ, Act.put, List.setIfInBounds_toArray, List.set_cons_zero, List.set_cons_succ]
              refine wpAnyH_take (i := 2) (v := ?_) rfl (by kernel_rfl) (by kernel_rfl) (by kernel_rfl) (fun _ _ _ h => h) (Or.inl ⟨by rfl, ?_⟩) (by assumption) ?_
              rotate_left
              · intro w hSw
                try dsimp only at hSw
                go_simp
                try with_reducible rfl
              try simp only [List.getElem_toArray, List.getElem_cons_zero, List.getElem_cons_succ, Act.put, List.setIfInBounds_toArray, List.set_cons_zero, List.set_cons_succ]
              refine wpAnyH_take (i := 3) (v := ?_) rfl (by kernel_rfl) (by kernel_rfl) (by kernel_rfl) (fun _ _ _ h => h) (Or.inl ⟨by rfl, ?_⟩) (by assumption) ?_
              rotate_left
              · intro w hSw
                try dsimp only at hSw
                go_simp
                try with_reducible rfl
              try simp only [List.getElem_toArray, List.getElem_cons_zero, List.getElem_cons_succ, Act.put, List.setIfInBounds_toArray, List.set_cons_zero, List.set_cons_succ]
              refine wpAnyH_take (i := 4) (v := ?_) rfl (by kernel_rfl) (by kernel_rfl) (by kernel_rfl) (fun _ _ _ h => h) (Or.inl ⟨by rfl, ?_⟩) (by assumption) ?_
              rotate_left
              · intro w hSw
                try dsimp only at hSw
                go_simp
                try with_reducible rfl
              try simp only [List.getElem_toArray, List.getElem_cons_zero, List.getElem_cons_succ, Act.put, List.setIfInBounds_toArray, List.set_cons_zero, List.set_cons_succ]
              refine wpAnyH_take (i := 5) (v := ?_) rfl (by kernel_rfl) (by kernel_rfl) (by kernel_rfl) (fun _ _ _ h => h) (Or.inl ⟨by rfl, ?_⟩) (by assumption) ?_
              rotate_left
              · intro w hSw
                try dsimp only at hSw
                go_simp
                try with_reducible rfl
              try simp only [List.getElem_toArray, List.getElem_cons_zero, List.getElem_cons_succ, Act.put, List.setIfInBounds_toArray, List.set_cons_zero, List.set_cons_succ]
              refine wpAnyH_take (i := 6) (v := ?_) rfl (by kernel_rfl) (by kernel_rfl) (by kernel_rfl) (fun _ _ _ h => h) (Or.inl ⟨by rfl, ?_⟩) (by assumption) ?_
              rotate_left
              · intro w hSw
                try dsimp only at hSw
                go_simp
                try with_reducible rfl
              try simp only [List.getElem_toArray, List.getElem_cons_zero, List.getElem_cons_succ, Act.put, List.setIfInBounds_toArray, List.set_cons_zero, List.set_cons_succ]
              refine wpAnyH_take (i := 7) (v := ?_) rfl (by kernel_rfl) (by kernel_rfl) (by kernel_rfl) (fun _ _ _ h => h) (Or.inl ⟨by rfl, ?_⟩) (by assumption) ?_
              rotate_left
              · intro w hSw
                try dsimp only at hSw
                go_simp
                try with_reducible rfl
              try simp only [List.getElem_toArray, List.getElem_cons_zero, List.getElem_cons_succ, Act.put, List.setIfInBounds_toArray, List.set_cons_zero, List.set_cons_succ]
              refine wpAnyH_take (i := 8) (v := ?_) rfl (by kernel_rfl) (by kernel_rfl) (by kernel_rfl) (fun _ _ _ h => h) (Or.inl ⟨by rfl, ?_⟩) (by assumption) ?_
              rotate_left
              · intro w hSw
                try dsimp only at hSw
                go_simp
                try with_reducible rfl
              try simp only [List.getElem_toArray, List.getElem_cons_zero, List.getElem_cons_succ, Act.put, List.setIfInBounds_toArray, List.set_cons_zero, List.set_cons_succ]
              refine wpAnyH_take (i := 9) (v := ?_) rfl (by kernel_rfl) (by kernel_rfl) (by kernel_rfl) (fun _ _ _ h => h) (Or.inl ⟨by rfl, ?_⟩) (by assumption) ?_
              rotate_left
              · intro w hSw
                try dsimp only at hSw
                go_simp
                try with_reducible rfl
              try simp only [List.getElem_toArray, List.getElem_cons_zero, List.getElem_cons_succ, Act.put, List.setIfInBounds_toArray, List.set_cons_zero, List.set_cons_succ]
              refine wpAnyH_take (i := 10) (v := ?_) rfl (by kernel_rfl) (by kernel_rfl) (by kernel_rfl) (fun _ _ _ h => h) (Or.inl ⟨by rfl, ?_⟩) (by assumption) ?_
              rotate_left
              · intro w hSw
                try dsimp only at hSw
                go_simp
                try with_reducible rfl
              try simp only [List.getElem_toArray, List.getElem_cons_zero, List.getElem_cons_succ, Act.put, List.setIfInBounds_toArray, List.set_cons_zero, List.set_cons_succ]
              refine wpAnyH_take (i := 11) (v := ?_) rfl (by kernel_rfl) (by kernel_rfl) (by kernel_rfl) (fun _ _ _ h => h) (Or.inl ⟨by rfl, ?_⟩) (by assumption) ?_
              rotate_left
              · intro w hSw
                try dsimp only at hSw
                go_simp
                try with_reducible rfl
              try simp only [List.getElem_toArray, List.getElem_cons_zero, List.getElem_cons_succ, Act.put, List.setIfInBounds_toArray, List.set_cons_zero, List.set_cons_succ]
              refine wpAnyH_take (i := 12) (v := ?_) rfl (by kernel_rfl) (by kernel_rfl) (by kernel_rfl) (fun _ _ _ h => h) (Or.inl ⟨by rfl, ?_⟩) (by assumption) ?_
              rotate_left
              · intro w hSw
                try dsimp only at hSw
                go_simp
                try with_reducible rfl
              try simp only [List.getElem_toArray, List.getElem_cons_zero, List.getElem_cons_succ, Act.put, List.setIfInBounds_toArray, List.set_cons_zero, List.set_cons_succ]
              refine wpAnyH_take (i := 13) (v := ?_) rfl (by kernel_rfl) (by kernel_rfl) (by kernel_rfl) (fun _ _ _ h => h) (Or.inl ⟨by rfl, ?_⟩) (by assumption) ?_
              rotate_left
              · intro w hSw
                try dsimp only at hSw
                go_simp
                try with_reducible rfl
              try simp only [List.getElem_toArray, List.getElem_cons_zero, List.getElem_cons_succ, Act.put, List.setIfInBounds_toArray, List.set_cons_zero, List.set_cons_succ]
              refine wpAnyH_ready (rs := [14]) (by kernel_rfl) (by simp) ?_
              refine AllReadyH.cons rfl (fun K hK => ?_) AllReadyH.nil
              go_simp
              go_at_call 22
              refine (HM1.out _ hdr).mono ?_
              rintro e w' ⟨rfl, hB⟩
              refine hK.out _ _ (by (try dsimp only); exact KEEP.out _ hB) (fun hHeld => ?_)
              clear hK K
              try simp only [List.getElem_toArray, List.getElem_cons_zero, List.getElem_cons_succ, Act.put, List.setIfInBounds_toArray, List.set_cons_zero, List.set_cons_succ]
              refine wpAnyH_take (i := 15) (v := ?_) rfl (by kernel_rfl) (by kernel_rfl) (by kernel_rfl) (fun _ _ _ h => h) (Or.inl ⟨by rfl, ?_⟩) (by assumption) ?_
              rotate_left
              · intro w hSw
                try dsimp only at hSw
                go_simp
                try with_reducible rfl
              try simp only [List.getElem_toArray, List.getElem_cons_zero, List.getElem_cons_succ, Act.put, List.setIfInBounds_toArray, List.set_cons_zero, List.set_cons_succ]
              refine wpAnyH_take (i := 16) (v := ?_) rfl (by kernel_rfl) (by kernel_rfl) (by kernel_rfl) (fun _ _ _ h => h) (Or.inl ⟨by rfl, ?_⟩) (by assumption) ?_
              rotate_left
              · intro w hSw
                try dsimp only at hSw
                go_simp
                try with_reducible rfl
              try simp only [List.getElem_toArray, List.getElem_cons_zero, List.getElem_cons_succ, Act.put, List.setIfInBounds_toArray, List.set_cons_zero, List.set_cons_succ]
              refine wpAnyH_take (i := 17) (v := ?_) rfl (by kernel_rfl) (by kernel_rfl) (by kernel_rfl) (fun _ _ _ h => h) (Or.inl ⟨by rfl, ?_⟩) (by assumption) ?_
              rotate_left
              · intro w hSw
                try dsimp only at hSw
                go_simp
                try with_reducible rfl
              try simp only [List.getElem_toArray, List.getElem_cons_zero, List.getElem_cons_succ, Act.put, List.setIfInBounds_toArray, List.set_cons_zero, List.set_cons_succ]
              refine wpAnyH_take (i := 18) (v := ?_) rfl (by kernel_rfl) (by kernel_rfl) (by kernel_rfl) (fun _ _ _ h => h) (Or.inl ⟨by rfl, ?_⟩) (by assumption) ?_
              rotate_left
              · intro w hSw
                try dsimp only at hSw
                go_simp
                try with_reducible rfl
              try simp only [List.getElem_toArray, List.getElem_cons_zero, List.getElem_cons_succ, Act.put, List.setIfInBounds_toArray, List.set_cons_zero, List.set_cons_succ]
              refine wpAnyH_take (i := 19) (v := ?_) rfl (by kernel_rfl) (by kernel_rfl) (by kernel_rfl) (fun _ _ _ h => h) (Or.inl ⟨by rfl, ?_⟩) (by assumption) ?_
              rotate_left
              · intro w hSw
                try dsimp only at hSw
                go_simp
                try with_reducible rfl
              try simp only [List.getElem_toArray, List.getElem_cons_zero, List.getElem_cons_succ, Act.put, List.setIfInBounds_toArray, List.set_cons_zero, List.set_cons_succ]
              refine wpAnyH_take (i := 20) (v := ?_) rfl (by kernel_rfl) (by kernel_rfl) (by kernel_rfl) (fun _ _ _ h => h) (Or.inl ⟨by rfl, ?_⟩) (by assumption) ?_
              rotate_left
              · intro w hSw
                try dsimp only at hSw
                go_simp
                try with_reducible rfl
              try simp only [List.getElem_toArray, List.getElem_cons_zero, List.getElem_cons_succ, Act.put, List.setIfInBounds_toArray, List.set_cons_zero, List.set_cons_succ]
              refine wpAnyH_ready (rs := [21]) (by kernel_rfl) (by simp) ?_
              refine AllReadyH.cons rfl (fun K hK => ?_) AllReadyH.nil
              go_simp
              go_at_call 22
              refine (HM2.out _ hB).mono ?_
              rintro e w'' ⟨rfl, hB2⟩
              refine hK.out _ _ (by (try dsimp only); exact KEEP.out _ hB2) (fun hHeld => ?_)
              clear hK K
              try simp only [List.getElem_toArray, List.getElem_cons_zero, List.getElem_cons_succ, Act.put, List.setIfInBounds_toArray, List.set_cons_zero, List.set_cons_succ]
              refine wpAnyH_take (i := 22) (v := ?_) rfl (by kernel_rfl) (by kernel_rfl) (by kernel_rfl) (fun _ _ _ h => h) (Or.inl ⟨by rfl, ?_⟩) (by assumption) ?_
              rotate_left
              · intro w hSw
                try dsimp only at hSw
                go_simp
                try with_reducible rfl
              try simp only [List.getElem_toArray, List.getElem_cons_zero, List.getElem_cons_succ, Act.put, List.setIfInBounds_toArray, List.set_cons_zero, List.set_cons_succ]
              refine wpAnyH_done (by kernel_rfl) ?_ _
              go_wp2_with fail
              go_roundw
              case rel => exact ⟨q + 1, by go_num, by omega, hB2⟩
              case measure => simp [intOf]; omega
            · have HM1 : RowKit.Hid (∀ W, Below w5.heap.size w5 W → Calls Tryz.prog 22 #[.pointer (some ⟨gb, 0, none⟩), .slice (some ⟨cb, 0, none⟩) n cc, .int .i64 p, .int .i64 q] W fun e w' => e = .returned (.bool false) ∧ Below w5.heap.size w5 w') := Lib.hid (fun W hW => by
                refine (HMET.out W p q hW hpn hqn).mono ?_
                rintro e w' ⟨⟨r, rfl, hr⟩, hB⟩
                have : r = false := by
                  cases r
                  · rfl
                  · exact absurd (hr.1 rfl) hm1
                rw [this]
                exact ⟨rfl, hW.trans (hB.mono hW.size)⟩)
              clear hm1 hc
              go_upto_region 15 with fail
              refine wp_region_held_drew (S := (fun W => W.cell? ⟨cb, p, none⟩ = some (.int .i64 cp) ∧ W.cell? ⟨cb, q, none⟩ = some (.int .i64 cq) ∧ cb < W.heap.size ∧ Below w5.heap.size w5 W)) (by kernel_rfl) (by (try dsimp only); exact KEEP.out _ hdr) (fun hHeld => ?_)
              refine wpAnyH_take (i := 0) (v := ?_) rfl (by kernel_rfl) (by kernel_rfl) (by kernel_rfl) (fun _ _ _ h => h) (Or.inl ⟨by rfl, ?_⟩) (by assumption) ?_
              rotate_left
              · intro w hSw
                try dsimp only at hSw
                go_simp
                try with_reducible rfl
              try simp only [List.getElem_toArray, List.getElem_cons_zero, Act.put, List.setIfInBounds_toArray, List.set_cons_zero, List.set_cons_succ]
              refine wpAnyH_take (i := 1) (v := ?_) rfl (by kernel_rfl) (by kernel_rfl) (by kernel_rfl) (fun _ _ _ h => h) (Or.inl ⟨by rfl, ?_⟩) (by assumption) ?_
              rotate_left
              · intro w hSw
                try dsimp only at hSw
                go_simp
                try with_reducible rfl
              try simp only [List.getElem_toArray, List.getElem_cons_zero, List.getElem_cons_succ, Act.put, List.setIfInBounds_toArray, List.set_cons_zero, List.set_cons_succ]
              refine wpAnyH_take (i := 2) (v := ?_) rfl (by kernel_rfl) (by kernel_rfl) (by kernel_rfl) (fun _ _ _ h => h) (Or.inl ⟨by rfl, ?_⟩) (by assumption) ?_
              rotate_left
              · intro w hSw
                try dsimp only at hSw
                go_simp
                try with_reducible rfl
              try simp only [List.getElem_toArray, List.getElem_cons_zero, List.getElem_cons_succ, Act.put, List.setIfInBounds_toArray, List.set_cons_zero, List.set_cons_succ]
              refine wpAnyH_take (i := 3) (v := ?_) rfl (by kernel_rfl) (by kernel_rfl) (by kernel_rfl) (fun _ _ _ h => h) (Or.inl ⟨by rfl, ?_⟩) (by assumption) ?_
              rotate_left
              · intro w hSw
                try dsimp only at hSw
                go_simp
                try with_reducible rfl
              try simp only [List.getElem_toArray, List.getElem_cons_zero, List.getElem_cons_succ, Act.put, List.setIfInBounds_toArray, List.set_cons_zero, List.set_cons_succ]
              refine wpAnyH_take (i := 4) (v := ?_) rfl (by kernel_rfl) (by kernel_rfl) (by kernel_rfl) (fun _ _ _ h => h) (Or.inl ⟨by rfl, ?_⟩) (by assumption) ?_
              rotate_left
              · intro w hSw
                try dsimp only at hSw
                go_simp
                try with_reducible rfl
              try simp only [List.getElem_toArray, List.getElem_cons_zero, List.getElem_cons_succ, Act.put, List.setIfInBounds_toArray, List.set_cons_zero, List.set_cons_succ]
              refine wpAnyH_take (i := 5) (v := ?_) rfl (by kernel_rfl) (by kernel_rfl) (by kernel_rfl) (fun _ _ _ h => h) (Or.inl ⟨by rfl, ?_⟩) (by assumption) ?_
              rotate_left
              · intro w hSw
                try dsimp only at hSw
                go_simp
                try with_reducible rfl
              try simp only [List.getElem_toArray, List.getElem_cons_zero, List.getElem_cons_succ, Act.put, List.setIfInBounds_toArray, List.set_cons_zero, List.set_cons_succ]
              refine wpAnyH_take (i := 6) (v := ?_) rfl (by kernel_rfl) (by kernel_rfl) (by kernel_rfl) (fun _ _ _ h => h) (Or.inl ⟨by rfl, ?_⟩) (by assumption) ?_
              rotate_left
              · intro w hSw
                try dsimp only at hSw
                go_simp
                try with_reducible rfl
              try simp only [List.getElem_toArray, List.getElem_cons_zero, List.getElem_cons_succ, Act.put, List.setIfInBounds_toArray, List.set_cons_zero, List.set_cons_succ]
              refine wpAnyH_take (i := 7) (v := ?_) rfl (by kernel_rfl) (by kernel_rfl) (by kernel_rfl) (fun _ _ _ h => h) (Or.inl ⟨by rfl, ?_⟩) (by assumption) ?_
              rotate_left
              · intro w hSw
                try dsimp only at hSw
                go_simp
                try with_reducible rfl
              try simp only [List.getElem_toArray, List.getElem_cons_zero, List.getElem_cons_succ, Act.put, List.setIfInBounds_toArray, List.set_cons_zero, List.set_cons_succ]
              refine wpAnyH_take (i := 8) (v := ?_) rfl (by kernel_rfl) (by kernel_rfl) (by kernel_rfl) (fun _ _ _ h => h) (Or.inl ⟨by rfl, ?_⟩) (by assumption) ?_
              rotate_left
              · intro w hSw
                try dsimp only at hSw
                go_simp
                try with_reducible rfl
              try simp only [List.getElem_toArray, List.getElem_cons_zero, List.getElem_cons_succ, Act.put, List.setIfInBounds_toArray, List.set_cons_zero, List.set_cons_succ]
              refine wpAnyH_take (i := 9) (v := ?_) rfl (by kernel_rfl) (by kernel_rfl) (by kernel_rfl) (fun _ _ _ h => h) (Or.inl ⟨by rfl, ?_⟩) (by assumption) ?_
              rotate_left
              · intro w hSw
                try dsimp only at hSw
                go_simp
                try with_reducible rfl
              try simp only [List.getElem_toArray, List.getElem_cons_zero, List.getElem_cons_succ, Act.put, List.setIfInBounds_toArray, List.set_cons_zero, List.set_cons_succ]
              refine wpAnyH_take (i := 10) (v := ?_) rfl (by kernel_rfl) (by kernel_rfl) (by kernel_rfl) (fun _ _ _ h => h) (Or.inl ⟨by rfl, ?_⟩) (by assumption) ?_
              rotate_left
              · intro w hSw
                try dsimp only at hSw
                go_simp
                try with_reducible rfl
              try simp only [List.getElem_toArray, List.getElem_cons_zero, List.getElem_cons_succ, Act.put, List.setIfInBounds_toArray, List.set_cons_zero, List.set_cons_succ]
              refine wpAnyH_take (i := 11) (v := ?_) rfl (by kernel_rfl) (by kernel_rfl) (by kernel_rfl) (fun _ _ _ h => h) (Or.inl ⟨by rfl, ?_⟩) (by assumption) ?_
              rotate_left
              · intro w hSw
                try dsimp only at hSw
                go_simp
                try with_reducible rfl
              try simp only [List.getElem_toArray, List.getElem_cons_zero, List.getElem_cons_succ, Act.put, List.setIfInBounds_toArray, List.set_cons_zero, List.set_cons_succ]
              refine wpAnyH_take (i := 12) (v := ?_) rfl (by kernel_rfl) (by kernel_rfl) (by kernel_rfl) (fun _ _ _ h => h) (Or.inl ⟨by rfl, ?_⟩) (by assumption) ?_
              rotate_left
              · intro w hSw
                try dsimp only at hSw
                go_simp
                try with_reducible rfl
              try simp only [List.getElem_toArray, List.getElem_cons_zero, List.getElem_cons_succ, Act.put, List.setIfInBounds_toArray, List.set_cons_zero, List.set_cons_succ]
              refine wpAnyH_take (i := 13) (v := ?_) rfl (by kernel_rfl) (by kernel_rfl) (by kernel_rfl) (fun _ _ _ h => h) (Or.inl ⟨by rfl, ?_⟩) (by assumption) ?_
              rotate_left
              · intro w hSw
                try dsimp only at hSw
                go_simp
                try with_reducible rfl
              try simp only [List.getElem_toArray, List.getElem_cons_zero, List.getElem_cons_succ, Act.put, List.setIfInBounds_toArray, List.set_cons_zero, List.set_cons_succ]
              refine wpAnyH_ready (rs := [14]) (by kernel_rfl) (by simp) ?_
              refine AllReadyH.cons rfl (fun K hK => ?_) AllReadyH.nil
              go_simp
              go_at_call 22
              refine (HM1.out _ hdr).mono ?_
              rintro e w' ⟨rfl, hB⟩
              refine hK.out _ _ (by (try dsimp only); exact KEEP.out _ hB) (fun hHeld => ?_)
              clear hK K
              try simp only [List.getElem_toArray, List.getElem_cons_zero, List.getElem_cons_succ, Act.put, List.setIfInBounds_toArray, List.set_cons_zero, List.set_cons_succ]
              refine wpAnyH_take (i := 15) (v := ?_) rfl (by kernel_rfl) (by kernel_rfl) (by kernel_rfl) (fun _ _ _ h => h) (Or.inl ⟨by rfl, ?_⟩) (by assumption) ?_
              rotate_left
              · intro w hSw
                try dsimp only at hSw
                go_simp
                try with_reducible rfl
              try simp only [List.getElem_toArray, List.getElem_cons_zero, List.getElem_cons_succ, Act.put, List.setIfInBounds_toArray, List.set_cons_zero, List.set_cons_succ]
              refine wpAnyH_take (i := 16) (v := ?_) rfl (by kernel_rfl) (by kernel_rfl) (by kernel_rfl) (fun _ _ _ h => h) (Or.inl ⟨by rfl, ?_⟩) (by assumption) ?_
              rotate_left
              · intro w hSw
                try dsimp only at hSw
                go_simp
                try with_reducible rfl
              try simp only [List.getElem_toArray, List.getElem_cons_zero, List.getElem_cons_succ, Act.put, List.setIfInBounds_toArray, List.set_cons_zero, List.set_cons_succ]
              refine wpAnyH_take (i := 17) (v := undef) rfl (by kernel_rfl) (by kernel_rfl) (by kernel_rfl) (fun _ _ _ h => h) (Or.inr ⟨by rfl, rfl⟩) (by assumption) ?_
              try simp only [List.getElem_toArray, List.getElem_cons_zero, List.getElem_cons_succ, Act.put, List.setIfInBounds_toArray, List.set_cons_zero, List.set_cons_succ]
              refine wpAnyH_take (i := 18) (v := undef) rfl (by kernel_rfl) (by kernel_rfl) (by kernel_rfl) (fun _ _ _ h => h) (Or.inr ⟨by rfl, rfl⟩) (by assumption) ?_
              try simp only [List.getElem_toArray, List.getElem_cons_zero, List.getElem_cons_succ, Act.put, List.setIfInBounds_toArray, List.set_cons_zero, List.set_cons_succ]
              refine wpAnyH_take (i := 19) (v := undef) rfl (by kernel_rfl) (by kernel_rfl) (by kernel_rfl) (fun _ _ _ h => h) (Or.inr ⟨by rfl, rfl⟩) (by assumption) ?_
              try simp only [List.getElem_toArray, List.getElem_cons_zero, List.getElem_cons_succ, Act.put, List.setIfInBounds_toArray, List.set_cons_zero, List.set_cons_succ]
              refine wpAnyH_take (i := 20) (v := undef) rfl (by kernel_rfl) (by kernel_rfl) (by kernel_rfl) (fun _ _ _ h => h) (Or.inr ⟨by rfl, rfl⟩) (by assumption) ?_
              try simp only [List.getElem_toArray, List.getElem_cons_zero, List.getElem_cons_succ, Act.put, List.setIfInBounds_toArray, List.set_cons_zero, List.set_cons_succ]
              refine wpAnyH_take (i := 21) (v := undef) rfl (by kernel_rfl) (by kernel_rfl) (by kernel_rfl) (fun _ _ _ h => h) (Or.inr ⟨by rfl, rfl⟩) (by assumption) ?_
              try simp only [List.getElem_toArray, List.getElem_cons_zero, List.getElem_cons_succ, Act.put, List.setIfInBounds_toArray, List.set_cons_zero, List.set_cons_succ]
              refine wpAnyH_take (i := 22) (v := ?_) rfl (by kernel_rfl) (by kernel_rfl) (by kernel_rfl) (fun _ _ _ h => h) (Or.inl ⟨by rfl, ?_⟩) (by assumption) ?_
              rotate_left
              · intro w hSw
                try dsimp only at hSw
                go_simp
                try with_reducible rfl
              try simp only [List.getElem_toArray, List.getElem_cons_zero, List.getElem_cons_succ, Act.put, List.setIfInBounds_toArray, List.set_cons_zero, List.set_cons_succ]
              refine wpAnyH_done (by kernel_rfl) ?_ _
              go_wp2_with fail
              go_roundw
              case rel => exact ⟨q + 1, by go_num, by omega, hB⟩
              case measure => simp [intOf]; omega
        · obtain rfl : q = p := by omega
          clear hbe y0 yl
          go_wp2_with fail
          go_roundw
          case rel => exact ⟨q + 1, by go_num, by omega, HBF.out⟩
          case measure => simp [intOf]; omega
    · have hpe : n = p := by omega
      subst hpe
      go_wp2_with fail
      refine (ALV.out _ (HB5.out.trans (HBE.out.mono HB5.out.size))).mono ?_
      rintro e w6 ⟨rfl, hB, _⟩
      go_wp2
      go_ret
      exact ⟨rfl, hB⟩
end Go.Proofs.YtfakdgljilmpkaaGreatDoor

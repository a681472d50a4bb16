/-
  law13.WeakMany.
-/
import Derived.Test.YtdhloijdefnkpaaGreatDoorAlive13
import Derived.Test.YtdhloijdefnkpaaGreatDoorManyP
import Derived.Test.YtdhloijdefnkpaaGreatDoorRefErr
import Derived.Test.YtdhloijdefnkpaaGreatDoorGGraphC
import Derived.Deep.RegionHeldLaw
import Derived.Deep.QuietTactic
import Derived.BigQuiet
namespace Go.Proofs.YtdhloijdefnkpaaGreatDoor
open Go.RowKit Pl

set_option maxRecDepth 100000 in
set_option maxHeartbeats 8000000 in
theorem wkMany_any {w : World} {p pe : Addr} (hG : WkErr p w) (hE : ErrsK 13 pe w) (hTab : Tab w) (nz lz : Int) :
    Calls Tryz.prog 4 #[.int .i64 nz, .int .i64 lz] w fun e w' => e = .returned (.bool true) ∧ Below w.heap.size w w' := by
  have HG := Lib.hid hG; have HE := Lib.hid hE; have HTB := Lib.hid hTab
  have ALV : RowKit.Hid (∀ w1 : World, Below w.heap.size w w1 → Calls Tryz.prog 10 #[] w1 fun e w' => e = .returned (.bool true) ∧ Below w.heap.size w w' ∧ Below w1.heap.size w1 w') := Lib.hid (by
    intro w1 h1
    refine (alive13_any (hG.below h1) (hE.below h1).sys (hTab.below h1)).mono ?_
    rintro e w' ⟨rfl, hB⟩
    exact ⟨rfl, h1.trans (hB.mono h1.size), hB⟩)
  clear hG hE hTab
  by_cases hr : nz < 2 ∨ 130 < nz ∨ lz < 1 ∨ 4 < lz
  · go_enter Tryz.func4, Tryz.ntmps4
    go_wp2_with fail
    all_goals
      refine (ALV.out _ (Below.refl _ _)).mono ?_
      rintro e w2 ⟨rfl, hB, _⟩
      go_wp2
      go_ret
      exact ⟨rfl, hB⟩
  obtain ⟨n, rfl⟩ := Int.eq_ofNat_of_zero_le (show 0 ≤ nz by omega)
  obtain ⟨lb, rfl⟩ := Int.eq_ofNat_of_zero_le (show 0 ≤ lz by omega)
  have h2 : 2 ≤ n := by omega
  have hn130 : n ≤ 130 := by omega
  have hl1 : 1 ≤ lb := by omega
  have hl4 : lb ≤ 4 := by omega
  have g1 : decide ((n : Int) < 2) = false := by simp; omega
  have g2 : decide ((130 : Int) < (n : Int)) = false := by simp; omega
  have g3 : decide ((lb : Int) < 1) = false := by simp; omega
  have g4 : decide ((4 : Int) < (lb : Int)) = false := by simp; omega
  clear hr
  go_enter Tryz.func4, Tryz.ntmps4
  go_wp2_with fail
  obtain ⟨w1, hw1⟩ : ∃ w1, w1 = w.alloc (.cells #[.int .i64 (n : Int), .int .i64 (lb : Int), .int .i64 0, .slice none 0 0] 24) := ⟨_, rfl⟩
  have hk0 : KW w1 w1 w.heap.size n lb 0 (.slice none 0 0) (manyE n lb 0) := by
    rw [hw1]
    exact ⟨fun _ _ _ => rfl, Below.refl _ _, heap_alloc_new w _, ⟨by unfold manyE; simp, .inl ⟨rfl, rfl⟩⟩, by simp⟩
  have hb1 : Below w.heap.size w w1 := by rw [hw1]; exact (Below.refl _ _).alloc (Nat.le_refl _) _
  have hs1 : w1.heap.size = w.heap.size + 1 := by rw [hw1]; simp
  rw [← hw1]
  obtain ⟨O, hO⟩ : ∃ O, O = w.heap.size := ⟨_, rfl⟩
  rw [← hO] at hk0 hs1 ⊢
  have HK0 := Lib.hid hk0; have HB1 := Lib.hid hb1; have HS1 := Lib.hid hs1; have HO := Lib.hid hO
  clear hw1 hk0 hb1 hs1 hO g1 g2 g3 g4
  go_loopw [6, 7] (fun v6 _ wr => ∃ (i : Nat) (v : Value), v6 = .int .i64 i ∧ i ≤ n ∧ KW w1 wr O n lb 0 v (manyE n lb i)) (fun v6 _ _ => n - (intOf v6).toNat)
  case atStart => exact ⟨0, _, rfl, Nat.zero_le _, HK0.out⟩
  case round =>
    obtain ⟨i, v, rfl, hi, hkw⟩ := hrel
    have HKW := Lib.hid hkw
    clear hkw HK0
    by_cases hin : i < n
    · have hiI : (i : Int) < (n : Int) := by omega
      obtain ⟨k0, k1, k2, k3, k4⟩ := HKW.out.cells
      have kl := World.block_lt_of_cell? _ _ k0
      clear k0 k1 k2
      obtain ⟨R, hR⟩ : ∃ R, R = (i + 1) % n := ⟨_, rfl⟩
      have hwr : IntKind.i64.wrap ((i : Int) + 1) = (i : Int) + 1 := IntWalk.i64_in _ (by omega)
      have htm : Int.tmod ((i : Int) + 1) (n : Int) = (R : Int) := by rw [hR]; exact (Int.ofNat_tmod (i + 1) n).symm
      have HRE := Lib.hid hR
      have hnz : ¬ n = 0 := by omega
      have hR130 : R < 130 := by rw [hR]; have := Nat.mod_lt (i + 1) (show n > 0 by omega); omega
      have hel : (manyE n lb i).length ≤ 520 := by rw [manyE_len hl1]; have := Nat.mul_le_mul (show i ≤ 130 by omega) hl4; omega
      obtain ⟨el, hele⟩ : ∃ el, el = (manyE n lb i).length := ⟨_, rfl⟩
      rw [← hele] at hel
      have HEL := Lib.hid hele
      obtain ⟨va, vc, vb, rfl, _, _, _, _⟩ := slAt_own lenE HKW.out.own
      rw [← hele] at k3
      have HOW : RowKit.Hid (∀ o : Obj, (wr.alloc o).drew.ownsRow w1.heap.size 35 3 (.slice va el vc) el ((manyE n lb i).flatMap encE)) := Lib.hid (fun o => by have h := HKW.out.own; rw [← hele] at h; exact h.alloc o)
      have hws := HKW.out.bel.size
      clear hR hele
      have KK : RowKit.Hid (∀ (o : Obj) (w5 : World), (wr.alloc o).drew.grownBy w5 (Value.slice va el vc).ownBlock → w5.cell? ⟨O, 3, none⟩ = some (.slice va el vc) ∧ w5.frozen? ⟨O, 3, none⟩ = false) := Lib.hid (fun o w5 hg => by have h := (HKW.out.call (((Below.refl _ _).alloc (Nat.le_refl _) o).drew)).keepc (w1 := w5); rw [← HEL.out] at h; exact h hg)
      have HMS : RowKit.Hid (manyE n lb i ++ (manyAt n lb i).take 1 = manyE n lb i ++ [((i : Int), (0 : Int), (R : Int))]) := Lib.hid (by rw [HRE.out]; rfl)
      go_wp2_with fail
      go_cut [] from 35 to 46 (fun wx => ∃ v : Value, KW w1 wx O n lb 0 v (manyE n lb i ++ (manyAt n lb i).take 1))
      case first =>
        go_region_law (first
          | (refine step_app1 rfl _ _ _ (by rfl) rowE (by rfl) (HOW.out _) ⟨wr.heap.size, 0, none⟩ 1 1 [.int .i64 (i : Int), .int .i64 0, .int .i64 (R : Int)] (by rfl) (by rfl) (cells3 (by simp [go_sem]) (by simp [go_sem]) (by simp [go_sem])) (by simp [Value.oneCell']) (by decide) (by omega) (by unfold maxLen; omega) (by simp; omega) ?_; intro g cap w5 hown5 hg5; obtain ⟨m3, m4⟩ := KK.out _ _ hg5; have ml := World.block_lt_of_cell? _ _ m3))
        all_goals
          have h8 := KW.setEs (v' := .slice (some ⟨g, 0, none⟩) (el + 1) cap) (es' := manyE n lb i ++ [((i : Int), (0 : Int), (R : Int))]) (HKW.out.call (((Below.refl _ _).alloc (Nat.le_refl _) _).drew)) (by rw [List.length_append, List.flatMap_append, ← HEL.out]; exact hown5) (by first | exact hg5 | (rw [← HEL.out]; exact hg5))
          rw [← HMS.out] at h8
          have H8 := Lib.hid h8
          clear h8 hown5 hg5 m3 m4 ml
          go_wp2_with fail
          go_meet
          exact ⟨_, H8.out⟩
      case rest =>
        obtain ⟨v, hkw⟩ := hcut
        have HK1 := Lib.hid hkw
        clear hkw KK HOW HKW k3 k4 kl htm hwr hnz hR130 hel hws HEL HMS
        go_wp2_with fail
        go_loopw [7] (fun v7 wx => ∃ (x : Nat) (v : Value), v7 = .int .i64 x ∧ 1 ≤ x ∧ x ≤ lb ∧ KW w1 wx O n lb 0 v (manyE n lb i ++ (manyAt n lb i).take x)) (fun v7 _ => lb - (intOf v7).toNat)
        case atStart => exact ⟨1, _, rfl, by omega, hl1, HK1.out⟩
        case round =>
          obtain ⟨x, v, rfl, hx1, hxl, hkw⟩ := hrel
          have HKW := Lib.hid hkw
          clear hkw HK1
          by_cases hxb : x < lb
          · have hxI : (x : Int) < (lb : Int) := by omega
            have HAS : RowKit.Hid (manyE n lb i ++ (manyAt n lb i).take (x + 1) = (manyE n lb i ++ (manyAt n lb i).take x) ++ [((i : Int), (x : Int), (i : Int))]) := Lib.hid (by
              rw [take_snoc (many_at hx1 hxb), List.append_assoc])
            obtain ⟨Q, hQ⟩ : ∃ Q, Q = manyE n lb i ++ (manyAt n lb i).take x := ⟨_, rfl⟩
            have hql0 : Q.length ≤ 600 := by
              rw [hQ, List.length_append, manyE_len hl1, List.length_take, manyAt_len hl1]
              have := Nat.mul_le_mul (show i ≤ 130 by omega) hl4
              omega
            rw [← hQ] at HKW HAS
            obtain ⟨ql, hql⟩ : ∃ ql, ql = Q.length := ⟨_, rfl⟩
            rw [← hql] at hql0
            obtain ⟨k0, k1, k2, k3, k4⟩ := HKW.out.cells
            have kl := World.block_lt_of_cell? _ _ k0
            obtain ⟨va, vc, vb, rfl, _, _, _, _⟩ := slAt_own lenE HKW.out.own
            have hown := HKW.out.own
            rw [← hql] at k3 hown
            have hown2 := hown.alloc (Obj.cells #[.int .i64 (i : Int), .int .i64 (x : Int), .int .i64 (i : Int)] 35)
            have hBz : w1.heap.size ≤ (wr.alloc (Obj.cells #[.int .i64 (i : Int), .int .i64 (x : Int), .int .i64 (i : Int)] 35)).heap.size := by have h1 := HKW.out.bel.size; simp; omega
            have HKE : RowKit.Hid (∀ w7, (wr.alloc (Obj.cells #[.int .i64 (i : Int), .int .i64 (x : Int), .int .i64 (i : Int)] 35)).grownBy w7 (Value.slice va ql vc).ownBlock → w7.cell? ⟨O, 3, none⟩ = some (.slice va ql vc) ∧ w7.frozen? ⟨O, 3, none⟩ = false) := Lib.hid (fun w7 hg => by have h := (HKW.out.call ((Below.refl _ _).alloc (Nat.le_refl _) (Obj.cells #[.int .i64 (i : Int), .int .i64 (x : Int), .int .i64 (i : Int)] 35))).keepc (w1 := w7); rw [← hql] at h; exact h hg)
            have HOWN2 := Lib.hid hown2; have HBZ := Lib.hid hBz; have HQL := Lib.hid hql
            clear hQ hown hown2 hBz k0 k1 k2 hql
            go_wp2_with (at_builtin; go_must (refine wpList_app1 rfl _ _ _ rfl rowE (Below.refl _ _) HBZ.out (by rfl) HOWN2.out ⟨wr.heap.size, 0, none⟩ 1 1 [.int .i64 (i : Int), .int .i64 (x : Int), .int .i64 (i : Int)] rfl rfl (newV (e := ((i : Int), (x : Int), (i : Int))) (heap_alloc_new wr _)) (by simp [Value.oneCell']) (by decide) (by omega) (by unfold maxLen; omega) ?_); intro g2 cap2 w7 hown7 _ hg7; obtain ⟨kp0, kp1⟩ := HKE.out w7 hg7; have kp2 := World.block_lt_of_cell? _ _ kp0)
            have h8 := KW.setEs (v' := .slice (some ⟨g2, 0, none⟩) (ql + 1) cap2) (es' := Q ++ [((i : Int), (x : Int), (i : Int))]) (HKW.out.call ((Below.refl _ _).alloc (Nat.le_refl _) (Obj.cells #[.int .i64 (i : Int), .int .i64 (x : Int), .int .i64 (i : Int)] 35))) (by rw [List.length_append, List.flatMap_append, ← HQL.out]; exact hown7) (by rw [← HQL.out]; exact hg7)
            rw [← HAS.out] at h8
            have H8 := Lib.hid h8
            clear h8 hown7 hg7 kp0 kp1 kp2
            go_roundw
            case rel => exact ⟨x + 1, _, by go_num, by omega, by omega, H8.out⟩
            case measure => simp [intOf]; omega
          · obtain rfl : lb = x := by omega
            have HNX : RowKit.Hid (manyE n lb i ++ (manyAt n lb i).take lb = manyE n lb (i + 1)) := Lib.hid (by
              rw [manyE_succ, List.take_of_length_le (by rw [manyAt_len hl1]; exact Nat.le_refl _)])
            go_wp2_with fail
            go_roundw
            case rel => exact ⟨i + 1, v, by go_num, by omega, by rw [← HNX.out]; exact HKW.out⟩
            case measure => simp [intOf]; omega
    · obtain rfl : n = i := by omega
      obtain ⟨k0, k1, k2, k3, k4⟩ := HKW.out.cells
      have kl := World.block_lt_of_cell? _ _ k0
      obtain ⟨va, vc, vb, rfl, _, _, hvs, _⟩ := slAt_own lenE HKW.out.own
      have hR := manyS_right h2 hn130 hl1 hl4
      have hbw : Below w.heap.size w wr := by have h := HKW.out.bel; rw [HO.out] at h; exact HB1.out.trans h
      have hsat : Calls Tryz.prog 12 #[.agg #[.int .i64 (n : Int), .int .i64 (lb : Int), .int .i64 0, .slice va (manyE n lb n).length vc]] wr (SatPost (manyS n lb) n lb pe wr) :=
        satYes_any (s := manyS n lb) (c := vc) hR rfl rfl (by omega) (HG.out.below hbw) (HE.out.below hbw).sys (HTB.out.below hbw) hvs
      have HSA := Lib.hid hsat; have HR := Lib.hid hR; have HVS := Lib.hid hvs; have HBW := Lib.hid hbw
      have hNN : n * n ≤ 130 * 130 := Nat.mul_le_mul hn130 hn130
      have hML : n * n * lb ≤ 130 * 130 * 4 := Nat.mul_le_mul hNN hl4
      obtain ⟨NN, hnn⟩ : ∃ NN, NN = n * n := ⟨_, rfl⟩
      obtain ⟨ML, hml⟩ : ∃ ML, ML = NN * lb := ⟨_, rfl⟩
      rw [← hnn, ← hml] at hML
      rw [← hnn] at hNN
      have HMM : RowKit.Hid (∀ K, KOk (manyS n lb) n lb K → (satE n lb K).length = ML) := Lib.hid (fun K hK => by rw [many_sat hK, ← hnn, ← hml])
      have HNN : RowKit.Hid ((n : Int) * (n : Int) = (NN : Int)) := Lib.hid (by rw [hnn]; exact (Int.natCast_mul n n).symm)
      have HML : RowKit.Hid ((NN : Int) * (lb : Int) = (ML : Int)) := Lib.hid (by rw [hml]; exact (Int.natCast_mul NN lb).symm)
      obtain ⟨m, hm⟩ : ∃ m, n = m + 1 := ⟨n - 1, by omega⟩
      have HM := Lib.hid hm
      obtain ⟨el, hel⟩ : ∃ el, el = (manyE n lb n).length := ⟨_, rfl⟩
      rw [← hel] at k3 HSA
      have HEL := Lib.hid hel
      have HX0 := Lib.hid HKW.out.oo
      rw [← hel] at HX0
      clear hR hbw hvs hsat hnn hml hm hel
      go_wp2_with fail
      refine HSA.out.mono ?_
      unfold SatPost
      rintro e w2 ⟨K, hK, hB2, hor⟩
      have hK2 := HMM.out K hK
      have HKK := Lib.hid hK
      have hb2 := HBW.out.trans (hB2.mono HBW.out.size)
      have hx2 := (hB2.block O kl).trans HX0.out
      have HB2 := Lib.hid hb2; have HX2 := Lib.hid hx2
      have HVS2 := Lib.hid (HVS.out.below hB2 (Nat.le_refl _))
      clear k0 k1 k2 k3 k4 kl
      rw [hK2] at hor
      obtain ⟨x0, x1, x2, x3, x4⟩ := sysC hx2
      clear hK hK2 hb2 hx2 HSA HX0 HBW HKW
      have HCL : RowKit.Hid (∀ W, Below w2.heap.size w2 W → Calls Tryz.prog 13 #[.agg #[.int .i64 (n : Int), .int .i64 (lb : Int), .int .i64 0, .slice va el vc]] W fun e w' => ∃ cb : Nat, e = .returned (.tuple #[.slice (some ⟨cb, 0, none⟩) n n, .nilIface]) ∧ w'.cell? ⟨cb, m, none⟩ = some (.int .i64 0) ∧ cb < w'.heap.size ∧ Below W.heap.size W w') := Lib.hid (by
        intro W hW
        have hc := weakClasses_any (s := manyS n lb) (n := n) (lb := lb) (c := vc) HR.out rfl rfl (by omega) (HG.out.below (HB2.out.trans (hW.mono HB2.out.size))) (HTB.out.below (HB2.out.trans (hW.mono HB2.out.size))) (HVS2.out.below hW (Nat.le_refl _))
        have he : (manyS n lb).es.length = el := HEL.out.symm
        rw [he] at hc
        refine hc.mono ?_
        rintro e w' ⟨cb, C, rfl, hcs, hres, _, hB⟩
        have hmn : m < n := by have := HM.out; omega
        have h1 := hcs.ci (fl_get C hmn)
        rw [many_cls h2 hn130 hl1 hl4 HKK.out (hres.big K HKK.out) hres.can hmn] at h1
        simp only [Nat.zero_add] at h1
        exact ⟨cb, rfl, h1, hcs.lt (by rw [fl_len]; omega), hB⟩)
      clear hB2
      rcases hor with ⟨hle, ve, rfl, hown⟩ | ⟨hgt, v, rfl, hF⟩
      · obtain ⟨ta, tc, tb2, rfl, _, _, _, _⟩ := slAt_own lenE (by rw [HMM.out K HKK.out]; exact hown)
        rw [HMM.out K HKK.out]
        clear hown
        have htb := heap_alloc_new w2 (.cells #[.int .i64 (n : Int), .int .i64 (lb : Int), .int .i64 0, .slice ta ML tc] 24)
        have hbt := (Below.refl w2.heap.size w2).alloc (Nat.le_refl _) (.cells #[.int .i64 (n : Int), .int .i64 (lb : Int), .int .i64 0, .slice ta ML tc] 24)
        have HTBK := Lib.hid htb; have HBT := Lib.hid hbt
        have HLE := Lib.hid hle
        clear htb hbt hle
        go_wp2_with fail
        refine (HCL.out _ HBT.out).mono ?_
        rintro e w4 ⟨cb, rfl, hc0, hcl, hB4⟩
        have ht4 := (hB4.block w2.heap.size (by simp)).trans HTBK.out
        have HT4 := Lib.hid ht4
        have HB4 := Lib.hid (HB2.out.trans ((HBT.out.trans (hB4.mono (by simp))).mono HB2.out.size))
        have e1 := HNN.out; have e2 := HML.out
        have hmI : (n : Int) - 1 = (m : Int) := by have := HM.out; omega
        have hmn : (m : Int) < (n : Int) := by have := HM.out; omega
        have hgd : decide ((10000 : Int) < (ML : Int)) = false := by have := HLE.out; simp; omega
        clear hB4 ht4 x0 x1 x2 x3 x4 HCL
        go_wp2_with fail
        refine (ALV.out _ HB4.out).mono ?_
        rintro e w5 ⟨rfl, hB5, hB45⟩
        have ht5 := (hB45.block w2.heap.size (Array.getElem?_eq_some_iff.1 HT4.out).1).trans HT4.out
        obtain ⟨y0, y1, y2, y3, y4⟩ := sysC ht5
        have HB5 := Lib.hid hB5
        clear hB5 hB45 ht5 y0 y1 y2 hc0 hcl hmI hmn hgd
        go_wp2_with fail
        go_ret
        exact ⟨rfl, HB5.out⟩
      · obtain ⟨fb, rfl, hf⟩ := hF.ex
        have htb := heap_alloc_new w2 (.cells #[.int .i64 0, .int .i64 0, .int .i64 0, .slice none 0 0] 24)
        have hbt := (Below.refl w2.heap.size w2).alloc (Nat.le_refl _) (.cells #[.int .i64 0, .int .i64 0, .int .i64 0, .slice none 0 0] 24)
        have HTBK := Lib.hid htb; have HBT := Lib.hid hbt; have HF := Lib.hid hF; have HGT := Lib.hid hgt
        clear htb hbt hgt hF hf
        go_wp2_with fail
        refine (HCL.out _ HBT.out).mono ?_
        rintro e w4 ⟨cb, rfl, hc0, hcl, hB4⟩
        have ht4 := (hB4.block w2.heap.size (by simp)).trans HTBK.out
        have hb24 := HBT.out.trans (hB4.mono (by simp))
        have HT4 := Lib.hid ht4
        have HF4 := Lib.hid (HF.out.below hb24)
        have HB4 := Lib.hid (HB2.out.trans (hb24.mono HB2.out.size))
        have e1 := HNN.out; have e2 := HML.out
        have hmI : (n : Int) - 1 = (m : Int) := by have := HM.out; omega
        have hmn : (m : Int) < (n : Int) := by have := HM.out; omega
        have hgd : decide ((10000 : Int) < (ML : Int)) = true := by have := HGT.out; simp; omega
        clear hB4 ht4 hb24 x0 x1 x2 x3 x4 HCL
        go_wp2_with fail
        refine (ALV.out _ HB4.out).mono ?_
        rintro e w5 ⟨rfl, hB5, hB45⟩
        have ht5 := (hB45.block w2.heap.size (Array.getElem?_eq_some_iff.1 HT4.out).1).trans HT4.out
        have HT5 := Lib.hid ht5
        have HF5 := Lib.hid (HF4.out.below hB45)
        have HB5 := Lib.hid hB5
        clear hB5 hB45 ht5 hc0 hcl hmI hmn hgd e1 e2
        go_wp2_with fail
        refine (bad_any weakName (by decide) 13 _).mono ?_
        rintro e w6 ⟨rfl, hB6⟩
        have ht6 := (hB6.block w2.heap.size (Array.getElem?_eq_some_iff.1 HT5.out).1).trans HT5.out
        have HT6 := Lib.hid ht6
        have hb6 := HB5.out.trans (hB6.mono HB5.out.size)
        have HTL := Lib.hid (told_one (k := 13) (by unfold CodeIn; omega) (HE.out.below hb6) (HF5.out.below hB6) (by decide))
        have HB6 := Lib.hid hb6
        clear hB6 hb6 ht6
        go_wp2_with fail
        refine HTL.out.mono ?_
        rintro e w7 ⟨rfl, hB7⟩
        have ht7 := (hB7.block w2.heap.size (Array.getElem?_eq_some_iff.1 HT6.out).1).trans HT6.out
        obtain ⟨y0, y1, y2, y3, y4⟩ := sysC ht7
        have HB7 := Lib.hid (HB6.out.trans (hB7.mono HB6.out.size))
        clear hB7 ht7 y0 y1 y2
        go_wp2_with fail
        go_ret
        exact ⟨rfl, HB7.out⟩
end Go.Proofs.YtdhloijdefnkpaaGreatDoor

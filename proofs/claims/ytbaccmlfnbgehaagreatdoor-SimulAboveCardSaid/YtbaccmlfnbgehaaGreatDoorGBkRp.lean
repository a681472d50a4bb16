/-
  Lemmas.
-/
import Derived.Test.YtbaccmlfnbgehaaGreatDoorGBkR
import Derived.Test.YtbaccmlfnbgehaaGreatDoorGRwsB
import Derived.BigRegion
import Derived.Test.YtbaccmlfnbgehaaGreatDoorGClone
import Derived.Outline
namespace Go.Proofs.YtbaccmlfnbgehaaGreatDoor
open Go.RowKit Pl
open Lib (hid)
set_option maxRecDepth 100000 in
set_option maxHeartbeats 8000000 in
theorem putR_any {w0 w : World} {bb : Nat} {cs : List Value} {o : Value} {ks rest : List Rw}
    (h : Rws w0 w (⟨45, 22, .slice (some ⟨bb, 0, none⟩) 1 1, 1, cs⟩ :: ⟨34, 1, o, ks.length, ks.map (·.v)⟩ :: (ks ++ rest))) (hc : cs[16]? = some o) (hK : ∀ r ∈ ks, r.T = 50 ∧ r.k = 1 ∧ r.n ≤ 500000) (hl : ks.length ≤ 400) :
    Calls Tryz.prog 63 #[.pointer (some ⟨bb, 0, none⟩)] w fun e w' => ∃ (F : Nat → List Value) (N : List Rw), e = .returned (.tuple #[]) ∧ Rws w0 w' (⟨45, 22, .slice (some ⟨bb, 0, none⟩) 1 1, 1, cs⟩ :: ⟨34, 1, o, ks.length, ks.map (·.v)⟩ :: (mkFin F ks ++ (N ++ rest))) ∧ ∀ (p : Nat) (r : Rw), ks[p]? = some r → (F p).length = r.n ∧ MkInR N p 0 (F p) := by
  obtain ⟨oa, oc, hov, hoa, _, _, _, _⟩ := h.shape (r := ⟨34, 1, o, ks.length, ks.map (·.v)⟩) (by simp)
  dsimp only at hov hoa
  subst hov
  obtain ⟨m, hm⟩ : ∃ m, m = ks.length := ⟨_, rfl⟩
  rw [← hm] at h hl hc hoa ⊢
  have H := hid h; have HK := hid hK; have HM := hid hm; have HC := hid hc; have HOA := hid hoa
  have b0 := h.cell (i := 0) rfl hc
  have hbl := (h.lt (i := 0) rfl).2
  clear h hK hm hc hoa
  go_enter Tryz.func63, Tryz.ntmps63
  go_wp2_with fail
  clear b0 hbl
  go_loopw [2, 3, 4] (fun v2 _ _ wr => ∃ (i : Nat) (F : Nat → List Value) (N : List Rw), v2 = .int .i64 i ∧ i ≤ m ∧ Rws w0 wr (⟨45, 22, .slice (some ⟨bb, 0, none⟩) 1 1, 1, cs⟩ :: ⟨34, 1, .slice oa m oc, m, ks.map (·.v)⟩ :: (mkF F ks i 0 ++ (N ++ rest))) ∧ ∀ (p : Nat) (r : Rw), p < i → ks[p]? = some r → (F p).length = r.n ∧ MkInR N p 0 (F p)) (fun v2 _ _ _ => m - (intOf v2).toNat)
  case atStart => exact ⟨0, fun _ => [], [], rfl, Nat.zero_le _, by rw [mkF_zero]; exact H.out, fun p _ hp => absurd hp (Nat.not_lt_zero _)⟩
  case round =>
    obtain ⟨i, F, N, rfl, hi, hRw, hF⟩ := hrel
    have HRW := hid hRw; have HF := hid hF
    have b0 := hRw.cell (i := 0) rfl HC.out
    have hbl := (hRw.lt (i := 0) rfl).2
    clear hF
    by_cases hlt : i < m
    · obtain ⟨r, hr⟩ := getElem?_of_lt (xs := ks) (i := i) (by rw [← HM.out]; exact hlt)
      obtain ⟨ob, rfl⟩ := HOA.out (by omega)
      have b1 := hRw.cell (i := 1) (j := i) (u := r.v) rfl (by simp [hr])
      have hrm := List.mem_of_getElem? hr
      obtain ⟨T, k, v, n, xs⟩ := r
      obtain ⟨rfl, rfl, hn⟩ := HK.out _ hrm
      obtain ⟨va, vc, hv, hva, _, _, _, hX⟩ := H.out.shape (r := ⟨50, 1, v, n, xs⟩) (by simp [hrm])
      dsimp only at b1 hn hv hva hX
      subst hv
      have hin : (i : Int) < (m : Int) := by omega
      have HMK := hid (markR_any (w := wr) (i := i) (k := 0) (n := n) (by omega) (by omega) (by omega))
      have HR := hid hr; have HVA := hid hva; have HX := hid hX
      clear hRw hrm hr hva hX
      go_wp2_with fail
      refine HMK.out.mono ?_
      rintro e w3 ⟨mv, ms, N2, rfl, hml, hmo, hmM⟩
      have hR3 := HRW.out.join hmo
      have hR3 : Rws w0 w3 (⟨50, 1, mv, n, ms⟩ :: ⟨45, 22, .slice (some ⟨bb, 0, none⟩) 1 1, 1, cs⟩ :: ⟨34, 1, .slice (some ⟨ob, 0, none⟩) m oc, m, ks.map (·.v)⟩ :: (mkF (upd F i ms) ks i 0 ++ ((N ++ N2) ++ rest))) := hR3.perm (by
        rw [mkF_upd]
        have hp := perm_rot N2 (⟨45, 22, .slice (some ⟨bb, 0, none⟩) 1 1, 1, cs⟩ :: ⟨34, 1, .slice (some ⟨ob, 0, none⟩) m oc, m, ks.map (·.v)⟩ :: mkF F ks i 0) N rest
        simp only [List.append_assoc, List.cons_append] at hp ⊢
        exact hp.cons _)
      obtain ⟨ma, mc, hmv, hma, _, _, _, _⟩ := hR3.shape (r := ⟨50, 1, mv, n, ms⟩) (by simp)
      dsimp only at hmv hma
      subst hmv
      have HF2 : Hid (∀ (p : Nat) (r : Rw), p < i + 1 → ks[p]? = some r → ((upd F i ms) p).length = r.n ∧ MkInR (N ++ N2) p 0 ((upd F i ms) p)) := hid (by
        intro p r hp hr
        by_cases e : p = i
        · subst e
          rw [HR.out] at hr
          cases hr
          rw [upd_same]
          exact ⟨hml, hmM.mono (fun x hx => List.mem_append_right _ hx)⟩
        · rw [upd_other _ _ e]
          obtain ⟨h1, h2⟩ := HF.out p r (by omega) hr
          exact ⟨h1, h2.mono (fun x hx => List.mem_append_left _ hx)⟩)
      have HR3 := hid hR3; have HMA := hid hma; have HML := hid hml
      obtain ⟨F2, hF2⟩ : ∃ F2, F2 = upd F i ms := ⟨_, rfl⟩
      rw [← hF2] at HR3 HF2
      have HFI : Hid (F2 i = ms) := hid (by rw [hF2, upd_same])
      clear hR3 hmo hmM hma HMK HRW b0 b1 hbl hml HF hF2
      go_wp2_with fail
      go_loopw [4] (fun v4 wr => ∃ q : Nat, v4 = .int .i64 q ∧ q ≤ n ∧ Rws w0 wr (⟨50, 1, .slice ma n mc, n, ms⟩ :: ⟨45, 22, .slice (some ⟨bb, 0, none⟩) 1 1, 1, cs⟩ :: ⟨34, 1, .slice (some ⟨ob, 0, none⟩) m oc, m, ks.map (·.v)⟩ :: (mkF F2 ks i q ++ ((N ++ N2) ++ rest)))) (fun v4 _ => n - (intOf v4).toNat)
      case atStart => exact ⟨0, rfl, Nat.zero_le _, HR3.out⟩
      case round =>
        obtain ⟨q, rfl, hq, hRx⟩ := hrel
        by_cases hlq : q < n
        · obtain ⟨mg, rfl⟩ := HMA.out (by omega)
          obtain ⟨vg, rfl⟩ := HVA.out (by omega)
          have b0 := hRx.cell (i := 1) rfl HC.out
          have b1 := hRx.cell (i := 2) (j := i) (u := .slice (some ⟨vg, 0, none⟩) n vc) rfl (by simp [HR.out])
          have hqn : (q : Int) < (n : Int) := by omega
          obtain ⟨x, hx⟩ := getElem?_of_lt (xs := ms) (i := q) (by rw [HML.out]; exact hlq)
          obtain ⟨r9, hr9, _, _, rfl, hn9, _⟩ := (HF2.out i _ (Nat.lt_succ_self i) HR.out).2 q x (by rw [HFI.out]; exact hx)
          obtain ⟨xa, xc, hxv, _⟩ := hRx.shape (r := r9) (by simp only [List.mem_cons, List.mem_append] at hr9 ⊢; exact .inr (.inr (.inr (.inr (.inl hr9)))))
          rw [hn9] at hxv
          rw [hxv] at hx
          have m0 := hRx.cell (i := 0) rfl hx
          obtain ⟨⟨u0, x0⟩, y0, z0⟩ := hRx.putOldF HR.out HX.out hlq (by rw [HFI.out, HML.out])
          have HRX := hid ((hRx.putF HR.out HX.out hlq (by rw [HFI.out]; exact hx)).drew)
          clear hRx HR3 hx hn9 hxv
          go_wp2_with fail
          go_region
          go_wp2_with fail
          go_roundw
          case rel => exact ⟨q + 1, by go_num, by omega, HRX.out⟩
          case measure => simp [intOf]; omega
        · obtain rfl : n = q := by omega
          have HR4 : Hid (Rws w0 wr (⟨45, 22, .slice (some ⟨bb, 0, none⟩) 1 1, 1, cs⟩ :: ⟨34, 1, .slice (some ⟨ob, 0, none⟩) m oc, m, ks.map (·.v)⟩ :: (mkF F2 ks (i + 1) 0 ++ ((N ++ N2) ++ rest)))) := hid (by
            have := hRx.sub (List.sublist_cons_self _ _)
            rw [mkF_next HR.out HX.out (by rw [HFI.out, HML.out])] at this
            exact this)
          clear hRx
          go_wp2_with fail
          go_roundw
          case rel => exact ⟨i + 1, F2, N ++ N2, by go_num, by omega, HR4.out, HF2.out⟩
          case measure => simp [intOf]; omega
    · obtain rfl : m = i := by omega
      clear hRw
      go_wp2_with fail
      go_end0
      refine ⟨F, N, rfl, ?_, fun p r hr => HF.out p r (by have := (List.getElem?_eq_some_iff.1 hr).1; rw [HM.out]; exact this) hr⟩
      have := HRW.out
      rw [mkF_end (by rw [← HM.out]; exact Nat.le_refl _)] at this
      exact this
end Go.Proofs.YtbaccmlfnbgehaaGreatDoor
namespace Go.Proofs.YtbaccmlfnbgehaaGreatDoor
open Go.RowKit Pl
open Lib (hid)
theorem cmpt_snoc {α : Type} [DecidableEq α] : ∀ (l : List α) (x y : α), cmpt (l ++ [x, y]) = cmpt (l ++ [x]) ++ (if x = y then [] else [y])
  | [], x, y => by
    by_cases h : x = y <;> simp [cmpt, h]
  | [a], x, y => by
    by_cases h : x = y <;> by_cases h' : a = x <;> simp [cmpt, h, h'] <;> (try subst h) <;> simp_all
  | a :: b :: l, x, y => by
    have ih := cmpt_snoc (b :: l) x y
    simp only [List.cons_append] at ih ⊢
    unfold cmpt
    split
    · exact ih
    · rw [ih]; simp
theorem cmpt_take {α : Type} [DecidableEq α] {xs : List α} {p : Nat} {x y : α} (hx : xs[p]? = some x) (hy : xs[p + 1]? = some y) : cmpt (xs.take (p + 2)) = cmpt (xs.take (p + 1)) ++ (if x = y then [] else [y]) := by
  rw [take_snoc hy, take_snoc hx, List.append_assoc]
  exact cmpt_snoc _ _ _
theorem zeroCells_one (z : Array Value) (n : Nat) (h : ∀ v ∈ z.toList, v.oneCell' = true) : ∀ v ∈ (Builtin.zeroCells z n).toList, v.oneCell' = true := by
  intro v hv
  unfold Builtin.zeroCells at hv
  rw [Array.toList_map] at hv
  obtain ⟨i, hi, rfl⟩ := List.mem_map.1 hv
  simp at hi
  have hz : 0 < z.size := by
    rcases Nat.eq_zero_or_pos z.size with h0 | h0
    · simp [h0] at hi
    · exact h0
  have hm : i % z.size < z.size := Nat.mod_lt _ hz
  simp only [getElem!_pos z (i % z.size) hm]
  exact h _ (by simp)
theorem clearE {w : World} {base g n cap : Nat} {ys : List E} (h : w.ownsRow base 71 3 (.slice (some ⟨g, 0, none⟩) n cap) ys.length (ys.flatMap encE)) (hn : n = ys.length) (kk c : Nat) (hk : kk < n) :
    ∃ w1, (∀ ty, (Builtin.clear_ #[22] ty #[.slice (some ⟨g, kk * 3, none⟩) (n - kk) c]).run Tryz.prog w = .ok (.tuple #[]) w1) ∧
      w1.ownsRow base 71 3 (.slice (some ⟨g, 0, none⟩) kk cap) kk ((ys.take kk).flatMap encE) ∧ ∀ {w0 : World}, Below base w0 w → Below base w0 w1 := by
  subst hn
  rcases h.2 with ⟨h', _⟩ | ⟨g', cap', cur, h', hb, hg, hnc, hcm, hcs, htake⟩
  · simp at h'
  · simp only [Value.slice.injEq, Option.some.injEq, Addr.mk.injEq, and_true, true_and] at h'
    obtain ⟨rfl, rfl⟩ := h'
    obtain ⟨m, hm⟩ : ∃ m, ys.length - kk = m + 1 := ⟨ys.length - kk - 1, by omega⟩
    rw [hm]
    obtain ⟨zs, hzs⟩ : ∃ zs, zs = (Builtin.zeroCells #[.int .i64 0, .int .i64 0, .int .i64 0] (m + 1)).toList := ⟨_, rfl⟩
    have hz : zs.length = (m + 1) * 3 := by rw [hzs, Array.length_toList, size_zeroCells]; rfl
    have hst := run_storeCells_at Tryz.prog g (kk * 3) 71 zs 0 cur w hg (by rw [hz]; omega) (by rw [hzs]; exact zeroCells_one _ _ (by simp [Value.oneCell']))
    simp only [Nat.add_zero] at hst
    obtain ⟨F, hF⟩ : ∃ F, F = (cur.toList.take (kk * 3) ++ zs ++ cur.toList.drop (kk * 3 + zs.length)).toArray := ⟨_, rfl⟩
    rw [← hF] at hst
    refine ⟨w.setRow g F, fun ty => ?_, ⟨?_, .inr ⟨g, cap, F, rfl, hb, setRow_heap w g cur _ _ _ hg, by omega, hcm, ?_, ?_⟩⟩, fun {w0} hB => ?_⟩
    · rw [hzs] at hst
      simp only [Builtin.clear_]
      simp [run_underlying Tryz.underlying22, Value.cells, hst]
    · rw [length_flatMap lenE, List.length_take, Nat.min_eq_left (by omega)]
    · rw [hF]
      simp only [List.size_toArray, List.length_append, List.length_take, List.length_drop, Array.length_toList, hz, hcs]
      omega
    · rw [hF, List.append_assoc, List.take_append_of_le_length (by simp; omega), List.take_take, Nat.min_self]
      have : (cur.toList.take (ys.length * 3)).take (kk * 3) = ((ys.flatMap encE)).take (kk * 3) := by rw [htake]
      rw [List.take_take, Nat.min_eq_left (by omega)] at this
      rw [this]
      have h2 := List.take_append_drop kk ys
      have h3 : ys.flatMap encE = (ys.take kk).flatMap encE ++ (ys.drop kk).flatMap encE := by rw [← List.flatMap_append, h2]
      rw [h3, List.take_append_of_le_length (by rw [length_flatMap lenE]; simp; omega), List.take_of_length_le (by rw [length_flatMap lenE]; simp; omega)]
    · exact hB.trans ⟨rfl, rfl, rfl, by simp [World.setRow], fun k hk => setRow_other w g k _ (by omega)⟩
set_option maxRecDepth 100000 in
set_option maxHeartbeats 1000000 in
theorem compactE_any {g n cap base : Nat} {xs : List E} {w : World} (hown : w.ownsRow base 71 3 (.slice (some ⟨g, 0, none⟩) n cap) xs.length (xs.flatMap encE)) (hn : n = xs.length) (hl : xs.length ≤ 1000000) (hbg : base ≤ g) (hcap : n ≤ cap) :
    Calls Tryz.prog 180 #[.slice (some ⟨g, 0, none⟩) n cap] w fun e w' => ∃ m, e = .returned (.slice (some ⟨g, 0, none⟩) m cap) ∧ w'.ownsRow base 71 3 (.slice (some ⟨g, 0, none⟩) m cap) (cmpt xs).length ((cmpt xs).flatMap encE) ∧ m = (cmpt xs).length ∧ Below base w w' := by
  subst hn
  by_cases h2 : xs.length < 2
  · have hc : cmpt xs = xs := by
      match xs, h2 with
      | [], _ => rfl
      | [x], _ => rfl
    have H := hid hc; have HO := hid hown; clear hc hown
    go_enter Tryz.func180, Tryz.ntmps180
    go_wp2
    go_ret
    exact ⟨_, rfl, by rw [H.out]; exact HO.out, by rw [H.out], Below.refl _ _⟩
  · have HO := hid hown; clear hown
    have hbase := HO.out.lt g rfl
    go_enter Tryz.func180, Tryz.ntmps180
    go_wp2
    go_loopw [3] (fun i wr => ∃ q m : Nat, q + 1 ≤ xs.length ∧ i = .int .i64 (q + 1) ∧ cmpt (xs.take (q + 1)) = xs.take (q + 1) ∧ wr = w.drewN m)
      (fun i _ => xs.length - (intOf i).toNat)
    case atStart => exact ⟨0, 0, by omega, rfl, by
      match xs, h2 with
      | x :: l, _ => rfl
      | [], h2 => simp at h2, rfl⟩
    case round =>
      obtain ⟨q, m, hq, rfl, hcm, rfl⟩ := hrel
      have HC := hid hcm; clear hcm
      by_cases hlt : q + 1 < xs.length
      · obtain ⟨x, hx⟩ := getElem?_of_lt (show q < xs.length by omega)
        obtain ⟨y, hy⟩ := getElem?_of_lt hlt
        have hS := slAt_row lenE HO.out
        have c0 := hS.e0 hx; have c1 := hS.e1 hx; have c2 := hS.e2 hx
        have d0 := hS.e0 hy; have d1 := hS.e1 hy; have d2 := hS.e2 hy
        simp only [Nat.zero_add] at c0 c1 c2 d0 d1 d2
        have heq := fun w => eqlE y x w
        have hgd := guardE
        have HX := hid hx; have HY := hid hy
        clear hS hx hy
        have hi1 : (q : Int) + 1 < (xs.length : Int) := by omega
        have hi2 : (q : Int) < (xs.length : Int) := by omega
        by_cases hxy : y = x
        · have hb : decide (y = x) = true := by simp [hxy]
          have HE := hid hxy; clear hxy
          go_wp2_with fail
          go_quiet (fail)
          go_wp2
          have hHk : cmpt (xs.take (q + 2)) = xs.take (q + 1) := by
            rw [cmpt_take HX.out HY.out, HC.out, if_pos HE.out.symm, List.append_nil]
          have HK := hid hHk; clear hHk
          clear c0 c1 c2 d0 d1 d2 heq hb
          go_loopw [3, 5] (fun i3 i5 wr => ∃ (kk r : Nat) (ys : List E), i3 = .int .i64 kk ∧ i5 = .int .i64 (r + 1) ∧ q + 1 + r + 1 ≤ xs.length ∧ ys.length = xs.length ∧
              wr.ownsRow base 71 3 (.slice (some ⟨g, 0, none⟩) xs.length cap) ys.length (ys.flatMap encE) ∧ ys.take kk = cmpt (xs.take (q + 1 + r + 1)) ∧ kk ≤ q + 1 + r ∧ (∀ j, q + 1 + r ≤ j → ys[j]? = xs[j]?) ∧ Below base w wr)
            (fun _ i5 _ => xs.length - (intOf i5).toNat)
          case atStart => exact ⟨q + 1, 0, xs, by go_num, rfl, by omega, rfl, HO.out, HK.out.symm, by omega, fun _ _ => rfl, below_drewN (Below.refl _ _) _⟩
          case round =>
            obtain ⟨kk, r, ys, rfl, rfl, hr, hyl, hown, htk, hkk, hsame, hB⟩ := hrel
            have hsz := hB.size
            have HT := hid htk; have HS := hid hsame; have HW := hid hown; have HYL := hid hyl
            clear htk hsame hown hyl
            by_cases hrt : q + 1 + r + 1 < xs.length
            · obtain ⟨u, hu⟩ := getElem?_of_lt (show q + 1 + r < xs.length by omega)
              obtain ⟨v, hv⟩ := getElem?_of_lt hrt
              have hS := slAt_row lenE (show wr.ownsRow base 71 3 (.slice (some ⟨g, 0, none⟩) xs.length cap) ys.length (ys.flatMap encE) from HW.out)
              have hu' : ys[q + 1 + r]? = some u := by rw [HS.out _ (Nat.le_refl _), hu]
              have hv' : ys[q + 1 + r + 1]? = some v := by rw [HS.out _ (by omega), hv]
              have c0 := hS.e0 hu'; have c1 := hS.e1 hu'; have c2 := hS.e2 hu'
              have d0 := hS.e0 hv'; have d1 := hS.e1 hv'; have d2 := hS.e2 hv'
              simp only [Nat.zero_add] at c0 c1 c2 d0 d1 d2
              rw [show (q + 1 + r) * 3 = (q + 1) * 3 + r * 3 by omega] at c0 c1 c2
              rw [show (q + 1 + r + 1) * 3 = (q + 1) * 3 + (r + 1) * 3 by omega] at d0 d1 d2
              have heq := fun w => neqE v u w
              have HU := hid hu; have HV := hid hv
              have hkl : kk < ys.length := by rw [HYL.out]; omega
              obtain ⟨z, hz⟩ := getElem?_of_lt hkl
              have k0 := hS.e0 hz; have k1 := hS.e1 hz; have k2 := hS.e2 hz
              simp only [Nat.zero_add] at k0 k1 k2
              have f0 : wr.frozen? ⟨g, kk * 3, none⟩ = false := row_frozen HW.out _
              have f1 : wr.frozen? ⟨g, kk * 3 + 1, none⟩ = false := row_frozen HW.out _
              have f2 : wr.frozen? ⟨g, kk * 3 + 2, none⟩ = false := row_frozen HW.out _
              clear hS hu hv hu' hv' hz
              have hi3 : (kk : Int) < (xs.length : Int) := by omega
              have hi4 : (r : Int) + 1 < (xs.length : Int) - (q + 1) := by omega
              have hi5 : (r : Int) < (xs.length : Int) - (q + 1) := by omega
              by_cases huv : v = u
              · have hb : decide (v = u) = true := by simp [huv]
                have HE := hid huv; clear huv
                go_wp2_with fail
                go_quiet (fail)
                go_wp2
                go_roundw
                case rel => exact ⟨kk, r + 1, ys, rfl, by go_num, by omega, HYL.out, HW.out, by
                  rw [HT.out, show q + 1 + (r + 1) + 1 = q + 1 + r + 2 by omega, cmpt_take HU.out HV.out, if_pos HE.out.symm, List.append_nil], by omega, fun j hj => HS.out j (by omega), below_drewN hB _⟩
                case measure => simp [intOf]; omega
              · have hb : decide (v = u) = false := by simp [huv]
                have HE := hid huv; clear huv
                go_wp2_with fail
                go_quiet (fail)
                go_wp2
                go_roundw
                case rel =>
                  refine ⟨kk + 1, r + 1, ys.set kk v, by go_num, by go_num, by omega, by rw [List.length_set]; exact HYL.out, ?_, by
                    rw [show q + 1 + (r + 1) + 1 = q + 1 + r + 2 by omega, cmpt_take HU.out HV.out, if_neg (fun e => HE.out e.symm), ← HT.out]
                    rw [take_snoc (i := kk) (x := v) (by rw [List.getElem?_set, if_pos rfl, if_pos hkl]), List.take_set_of_le (Nat.le_refl _)], by omega, fun j hj => by
                    rw [List.getElem?_set, if_neg (by omega)]; exact HS.out j (by omega), ?_⟩
                  · exact ownE_set (w := wr.drewN nq) (x := v) HW.out HYL.out.symm kk hkl
                  · exact below_set3 (below_drewN hB _) hbg
                case measure => simp [intOf]; omega
            · have hend : q + 1 + r + 1 = xs.length := by omega
              obtain ⟨w1, hcl, hown1, hB1⟩ := clearE (show wr.ownsRow base 71 3 (.slice (some ⟨g, 0, none⟩) xs.length cap) ys.length (ys.flatMap encE) from HW.out) HYL.out.symm kk (cap - kk) (by omega)
              have hlen : (ys.take kk).length = kk := by rw [List.length_take, HYL.out]; omega
              have HE2 := hid hend; have HO1 := hid hown1; have HLN := hid hlen; have HB1 := hB1 hB
              clear hend hown1 hlen hB1
              have hk1 : (kk : Int) < (cap : Int) := by omega
              go_wp2
              go_ret
              have ht := HT.out
              rw [HE2.out, List.take_of_length_le (Nat.le_refl _)] at ht
              exact ⟨kk, rfl, by rw [← ht, HLN.out]; exact HO1.out, by rw [← ht, HLN.out], HB1⟩
        · have hb : decide (y = x) = false := by simp [hxy]
          have HE := hid hxy; clear hxy
          go_wp2_with fail
          go_quiet (fail)
          go_wp2
          go_roundw
          case rel => exact ⟨q + 1, _, by omega, by go_num, by
            rw [show q + 1 + 1 = q + 2 by omega, cmpt_take HX.out HY.out, if_neg (fun e => HE.out e.symm), HC.out, take_snoc HY.out], rfl⟩
          case measure => simp [intOf]; omega
      · have hend : xs.take (q + 1) = xs := List.take_of_length_le (by omega)
        have H := hid hend; clear hend
        go_wp2
        go_ret
        have hc := HC.out
        rw [H.out] at hc
        exact ⟨_, rfl, by rw [hc]; exact HO.out, by rw [hc], below_drewN (Below.refl _ _) _⟩
end Go.Proofs.YtbaccmlfnbgehaaGreatDoor

/-
  '==' at steps; slices.Compact at steps, on a row of the call's own (XCompact, XCompact2 turned from edges to steps).
-/
import Derived.Test.YtdhloijdefnkpaaGreatDoorCompact2
namespace Go.Proofs.YtdhloijdefnkpaaGreatDoor
open Go.RowKit Pl

theorem eqlS (x y : S) (w : World) : (binOp .eql 107 (.agg #[.int .i64 x.1, .int .i64 x.2]) (.agg #[.int .i64 y.1, .int .i64 y.2])).run Tryz.prog w = .ok (.bool (decide (x = y))) w := by
  have u3 := Tryz.underlying3
  have a3 := Tryz.isAgg3
  have z3 := Tryz.sizeOf3
  have hS : Tryz.prog.underlying 107 = some (.struct (Tryz.prog.fieldsOf 107)) := by kernel_rfl
  have hp : Tryz.prog.stoodInHeld 107 = false := by kernel_rfl
  rw [run_eql_struct, show (10000 : Nat) = 9999 + 1 from rfl, run_equalIn_agg w 9999 107 _ _ hS hp]
  simp only [Program.fieldsOf, Tryz.underlying107]
  go_simp
  obtain ⟨x1, x2⟩ := x; obtain ⟨y1, y2⟩ := y
  by_cases h1 : x1 = y1 <;> by_cases h2 : x2 = y2 <;> simp [h1, h2]

theorem neqS (x y : S) (w : World) : (binOp .neq 107 (.agg #[.int .i64 x.1, .int .i64 x.2]) (.agg #[.int .i64 y.1, .int .i64 y.2])).run Tryz.prog w = .ok (.bool (!decide (x = y))) w := by
  have h := eqlS x y w
  rw [run_eql_struct] at h
  rw [run_neq_struct]
  cases hr : (Op.equalIn 10000 107 (.agg #[.int .i64 x.1, .int .i64 x.2]) (.agg #[.int .i64 y.1, .int .i64 y.2])).run Tryz.prog w with
  | ok b w' => rw [hr] at h; simp [Result.andThen] at h ⊢; exact ⟨h.1, h.2⟩
  | halt b w' => rw [hr] at h; simp [Result.andThen] at h

theorem guardS : Tryz.prog.eqGuardType Tryz.prog.depth 107 = false := by kernel_rfl

theorem set2 {l : List Value} {i : Nat} {a b : Value} (h : i * 2 + 2 ≤ l.length) : (l.set (i * 2) a).set (i * 2 + 1) b = l.take (i * 2) ++ [a, b] ++ l.drop (i * 2 + 2) := by
  apply List.ext_getElem?
  intro j
  simp only [List.getElem?_set, List.length_set, List.append_assoc]
  by_cases h1 : j < i * 2
  · rw [if_neg (by omega), if_neg (by omega), List.getElem?_append_left (by simp; omega), List.getElem?_take, if_pos h1]
  · rw [List.getElem?_append_right (by simp; omega)]
    simp only [List.length_take, Nat.min_eq_left (show i * 2 ≤ l.length by omega)]
    by_cases h2 : j = i * 2
    · subst h2; rw [if_neg (by omega), if_pos rfl, if_pos (by omega)]; simp
    · by_cases h3 : j = i * 2 + 1
      · subst h3; rw [if_pos rfl, if_pos (by omega)]; rw [show i * 2 + 1 - i * 2 = 1 by omega]; rfl
      · rw [if_neg (by omega), if_neg (by omega)]
        rw [show j - i * 2 = (j - (i * 2 + 2)) + 1 + 1 by omega]
        simp only [List.cons_append, List.nil_append, List.getElem?_cons_succ, List.getElem?_drop]
        congr 1; omega

/-- 's[i] = x', s a step row of the call's own. -/
theorem ownS_set {w : World} {base g n cap : Nat} {e : TypeId} {xs : List S} (h : w.ownsRow base e 2 (.slice (some ⟨g, 0, none⟩) n cap) xs.length (xs.flatMap encS)) (hn : n = xs.length) (i : Nat) (x : S) (hi : i < xs.length) :
    ((w.setCell ⟨g, i * 2, none⟩ (.int .i64 x.1)).setCell ⟨g, i * 2 + 1, none⟩ (.int .i64 x.2)).ownsRow base e 2 (.slice (some ⟨g, 0, none⟩) n cap) (xs.set i x).length ((xs.set i x).flatMap encS) := by
  subst hn
  have h1 := (h.stored (i * 2) (.int .i64 x.1)).1.stored (i * 2 + 1) (.int .i64 x.2)
  rw [set2 (by rw [length_flatMap lenS]; omega)] at h1
  replace h1 := h1.1
  rw [flat_set lenS xs i x hi, List.length_set]
  exact h1

theorem below_set2 {w0 w : World} {B g i : Nat} {a b : Value} (h : Below B w0 w) (hg : B ≤ g) : Below B w0 ((w.setCell ⟨g, i, none⟩ a).setCell ⟨g, i + 1, none⟩ b) :=
  (h.setCell hg _).setCell hg _

/-- 'clear(s[k:])', s a step row of the call's own. -/
theorem clearS {w : World} {base g n cap : Nat} {ys : List S} (h : w.ownsRow base 107 2 (.slice (some ⟨g, 0, none⟩) n cap) ys.length (ys.flatMap encS)) (hn : n = ys.length) (kk c : Nat) (hk : kk < n) :
    ∃ w1, (∀ ty, (Builtin.clear_ #[104] ty #[.slice (some ⟨g, kk * 2, none⟩) (n - kk) c]).run Tryz.prog w = .ok (.tuple #[]) w1) ∧
      w1.ownsRow base 107 2 (.slice (some ⟨g, 0, none⟩) kk cap) kk ((ys.take kk).flatMap encS) ∧ ∀ {w0 : World}, Below base w0 w → Below base w0 w1 := by
  subst hn
  rcases h.2 with ⟨h', _⟩ | ⟨g', cap', cur, h', hb, hg, hnc, hcm, hcs, htake⟩
  · simp at h'
  · simp only [Value.slice.injEq, Option.some.injEq, Addr.mk.injEq, and_true, true_and] at h'
    obtain ⟨rfl, rfl⟩ := h'
    obtain ⟨m, hm⟩ : ∃ m, ys.length - kk = m + 1 := ⟨ys.length - kk - 1, by omega⟩
    rw [hm]
    obtain ⟨zs, hzs⟩ : ∃ zs, zs = (Builtin.zeroCells #[.int .i64 0, .int .i64 0] (m + 1)).toList := ⟨_, rfl⟩
    have hz : zs.length = (m + 1) * 2 := by rw [hzs, Array.length_toList, size_zeroCells]; rfl
    have hst := run_storeCells_at Tryz.prog g (kk * 2) 107 zs 0 cur w hg (by rw [hz]; omega) (by rw [hzs]; exact zeroCells_one _ _ (by simp [Value.oneCell']))
    simp only [Nat.add_zero] at hst
    obtain ⟨F, hF⟩ : ∃ F, F = (cur.toList.take (kk * 2) ++ zs ++ cur.toList.drop (kk * 2 + zs.length)).toArray := ⟨_, rfl⟩
    rw [← hF] at hst
    refine ⟨w.setRow g F, fun ty => ?_, ⟨?_, .inr ⟨g, cap, F, rfl, hb, setRow_heap w g cur _ _ _ hg, by omega, hcm, ?_, ?_⟩⟩, fun {w0} hB => ?_⟩
    · rw [hzs] at hst
      simp only [Builtin.clear_]
      simp [run_underlying Tryz.underlying104, Value.cells, hst]
    · rw [length_flatMap lenS, List.length_take, Nat.min_eq_left (by omega)]
    · rw [hF]
      simp only [List.size_toArray, List.length_append, List.length_take, List.length_drop, Array.length_toList, hz, hcs]
      omega
    · rw [hF, List.append_assoc, List.take_append_of_le_length (by simp; omega), List.take_take, Nat.min_self]
      have : (cur.toList.take (ys.length * 2)).take (kk * 2) = ((ys.flatMap encS)).take (kk * 2) := by rw [htake]
      rw [List.take_take, Nat.min_eq_left (by omega)] at this
      rw [this]
      have h2 := List.take_append_drop kk ys
      have h3 : ys.flatMap encS = (ys.take kk).flatMap encS ++ (ys.drop kk).flatMap encS := by rw [← List.flatMap_append, h2]
      rw [h3, List.take_append_of_le_length (by rw [length_flatMap lenS]; simp; omega), List.take_of_length_le (by rw [length_flatMap lenS]; simp; omega)]
    · exact hB.trans ⟨rfl, rfl, rfl, by simp [World.setRow], fun k hk => setRow_other w g k _ (by omega)⟩

set_option maxRecDepth 100000 in
set_option maxHeartbeats 1000000 in
theorem compactS_any {g n cap base : Nat} {xs : List S} {w : World} (hown : w.ownsRow base 107 2 (.slice (some ⟨g, 0, none⟩) n cap) xs.length (xs.flatMap encS)) (hn : n = xs.length) (hl : xs.length ≤ 1000000) (hbg : base ≤ g) (hcap : n ≤ cap) :
    Calls Tryz.prog 160 #[.slice (some ⟨g, 0, none⟩) n cap] w fun e w' => ∃ m, e = .returned (.slice (some ⟨g, 0, none⟩) m cap) ∧ w'.ownsRow base 107 2 (.slice (some ⟨g, 0, none⟩) m cap) (cmpt xs).length ((cmpt xs).flatMap encS) ∧ m = (cmpt xs).length ∧ Below base w w' := by
  subst hn
  by_cases h2 : xs.length < 2
  · have hc : cmpt xs = xs := by
      match xs, h2 with
      | [], _ => rfl
      | [x], _ => rfl
    have H := Lib.hid hc; have HO := Lib.hid hown; clear hc hown
    go_enter Tryz.func160, Tryz.ntmps160
    go_wp2
    go_ret
    exact ⟨_, rfl, by rw [H.out]; exact HO.out, by rw [H.out], Below.refl _ _⟩
  · have HO := Lib.hid hown; clear hown
    have hbase := HO.out.lt g rfl
    go_enter Tryz.func160, Tryz.ntmps160
    go_wp2
    go_loopw [3] (fun i wr => ∃ q m : Nat, q + 1 ≤ xs.length ∧ i = .int .i64 (q + 1) ∧ cmpt (xs.take (q + 1)) = xs.take (q + 1) ∧ wr = w.drewN m)
      (fun i _ => xs.length - (intOf i).toNat)
    case atStart => exact ⟨0, 0, by omega, rfl, by
      match xs, h2 with
      | x :: l, _ => rfl
      | [], h2 => simp at h2, rfl⟩
    case round =>
      obtain ⟨q, m, hq, rfl, hcm, rfl⟩ := hrel
      have HC := Lib.hid hcm; clear hcm
      by_cases hlt : q + 1 < xs.length
      · obtain ⟨x, hx⟩ := getElem?_of_lt (show q < xs.length by omega)
        obtain ⟨y, hy⟩ := getElem?_of_lt hlt
        have hS := slAt_row lenS HO.out
        have c0 := hS.s0 hx; have c1 := hS.s1 hx
        have d0 := hS.s0 hy; have d1 := hS.s1 hy
        simp only [Nat.zero_add] at c0 c1 d0 d1
        have heq := fun w => eqlS y x w
        have hgd := guardS
        have HX := Lib.hid hx; have HY := Lib.hid hy
        clear hS hx hy
        have hi1 : (q : Int) + 1 < (xs.length : Int) := by omega
        have hi2 : (q : Int) < (xs.length : Int) := by omega
        by_cases hxy : y = x
        · have hb : decide (y = x) = true := by simp [hxy]
          have HE := Lib.hid hxy; clear hxy
          go_wp2_with fail
          go_quiet (fail)
          go_wp2
          have hHk : cmpt (xs.take (q + 2)) = xs.take (q + 1) := by
            rw [cmpt_take HX.out HY.out, HC.out, if_pos HE.out.symm, List.append_nil]
          have HK := Lib.hid hHk; clear hHk
          clear c0 c1 d0 d1 heq hb
          go_loopw [3, 5] (fun i3 i5 wr => ∃ (kk r : Nat) (ys : List S), i3 = .int .i64 kk ∧ i5 = .int .i64 (r + 1) ∧ q + 1 + r + 1 ≤ xs.length ∧ ys.length = xs.length ∧
              wr.ownsRow base 107 2 (.slice (some ⟨g, 0, none⟩) xs.length cap) ys.length (ys.flatMap encS) ∧ ys.take kk = cmpt (xs.take (q + 1 + r + 1)) ∧ kk ≤ q + 1 + r ∧ (∀ j, q + 1 + r ≤ j → ys[j]? = xs[j]?) ∧ Below base w wr)
            (fun _ i5 _ => xs.length - (intOf i5).toNat)
          case atStart => exact ⟨q + 1, 0, xs, by go_num, rfl, by omega, rfl, HO.out, HK.out.symm, by omega, fun _ _ => rfl, below_drewN (Below.refl _ _) _⟩
          case round =>
            obtain ⟨kk, r, ys, rfl, rfl, hr, hyl, hown, htk, hkk, hsame, hB⟩ := hrel
            have hsz := hB.size
            have HT := Lib.hid htk; have HS := Lib.hid hsame; have HW := Lib.hid hown; have HYL := Lib.hid hyl
            clear htk hsame hown hyl
            by_cases hrt : q + 1 + r + 1 < xs.length
            · obtain ⟨u, hu⟩ := getElem?_of_lt (show q + 1 + r < xs.length by omega)
              obtain ⟨v, hv⟩ := getElem?_of_lt hrt
              have hS := slAt_row lenS (show wr.ownsRow base 107 2 (.slice (some ⟨g, 0, none⟩) xs.length cap) ys.length (ys.flatMap encS) from HW.out)
              have hu' : ys[q + 1 + r]? = some u := by rw [HS.out _ (Nat.le_refl _), hu]
              have hv' : ys[q + 1 + r + 1]? = some v := by rw [HS.out _ (by omega), hv]
              have c0 := hS.s0 hu'; have c1 := hS.s1 hu'
              have d0 := hS.s0 hv'; have d1 := hS.s1 hv'
              simp only [Nat.zero_add] at c0 c1 d0 d1
              rw [show (q + 1 + r) * 2 = (q + 1) * 2 + r * 2 by omega] at c0 c1
              rw [show (q + 1 + r + 1) * 2 = (q + 1) * 2 + (r + 1) * 2 by omega] at d0 d1
              have heq := fun w => neqS v u w
              have HU := Lib.hid hu; have HV := Lib.hid hv
              have hkl : kk < ys.length := by rw [HYL.out]; omega
              obtain ⟨z, hz⟩ := getElem?_of_lt hkl
              have k0 := hS.s0 hz; have k1 := hS.s1 hz
              simp only [Nat.zero_add] at k0 k1
              have f0 : wr.frozen? ⟨g, kk * 2, none⟩ = false := row_frozen HW.out _
              have f1 : wr.frozen? ⟨g, kk * 2 + 1, none⟩ = false := row_frozen HW.out _
              clear hS hu hv hu' hv' hz
              have hi3 : (kk : Int) < (xs.length : Int) := by omega
              have hi4 : (r : Int) + 1 < (xs.length : Int) - (q + 1) := by omega
              have hi5 : (r : Int) < (xs.length : Int) - (q + 1) := by omega
              by_cases huv : v = u
              · have hb : decide (v = u) = true := by simp [huv]
                have HE := Lib.hid huv; clear huv
                go_wp2_with fail
                go_quiet (fail)
                go_wp2
                go_roundw
                case rel => exact ⟨kk, r + 1, ys, rfl, by go_num, by omega, HYL.out, HW.out, by
                  rw [HT.out, show q + 1 + (r + 1) + 1 = q + 1 + r + 2 by omega, cmpt_take HU.out HV.out, if_pos HE.out.symm, List.append_nil], by omega, fun j hj => HS.out j (by omega), below_drewN hB _⟩
                case measure => simp [intOf]; omega
              · have hb : decide (v = u) = false := by simp [huv]
                have HE := Lib.hid huv; clear huv
                go_wp2_with fail
                go_quiet (fail)
                go_wp2
                go_roundw
                case rel =>
                  refine ⟨kk + 1, r + 1, ys.set kk v, by go_num, by go_num, by omega, by rw [List.length_set]; exact HYL.out, ?_, by
                    rw [show q + 1 + (r + 1) + 1 = q + 1 + r + 2 by omega, cmpt_take HU.out HV.out, if_neg (fun e => HE.out e.symm), ← HT.out]
                    rw [take_snoc (i := kk) (x := v) (by rw [List.getElem?_set, if_pos rfl, if_pos hkl]), List.take_set_of_le (Nat.le_refl _)], by omega, fun j hj => by
                    rw [List.getElem?_set, if_neg (by omega)]; exact HS.out j (by omega), ?_⟩
                  · exact ownS_set (w := wr.drewN nq) (x := v) HW.out HYL.out.symm kk hkl
                  · exact below_set2 (below_drewN hB _) hbg
                case measure => simp [intOf]; omega
            · have hend : q + 1 + r + 1 = xs.length := by omega
              obtain ⟨w1, hcl, hown1, hB1⟩ := clearS (show wr.ownsRow base 107 2 (.slice (some ⟨g, 0, none⟩) xs.length cap) ys.length (ys.flatMap encS) from HW.out) HYL.out.symm kk (cap - kk) (by omega)
              have hlen : (ys.take kk).length = kk := by rw [List.length_take, HYL.out]; omega
              have HE2 := Lib.hid hend; have HO1 := Lib.hid hown1; have HLN := Lib.hid hlen; have HB1 := hB1 hB
              clear hend hown1 hlen hB1
              have hk1 : (kk : Int) < (cap : Int) := by omega
              go_wp2
              go_ret
              have ht := HT.out
              rw [HE2.out, List.take_of_length_le (Nat.le_refl _)] at ht
              exact ⟨kk, rfl, by rw [← ht, HLN.out]; exact HO1.out, by rw [← ht, HLN.out], HB1⟩
        · have hb : decide (y = x) = false := by simp [hxy]
          have HE := Lib.hid hxy; clear hxy
          go_wp2_with fail
          go_quiet (fail)
          go_wp2
          go_roundw
          case rel => exact ⟨q + 1, _, by omega, by go_num, by
            rw [show q + 1 + 1 = q + 2 by omega, cmpt_take HX.out HY.out, if_neg (fun e => HE.out e.symm), HC.out, take_snoc HY.out], rfl⟩
          case measure => simp [intOf]; omega
      · have hend : xs.take (q + 1) = xs := List.take_of_length_le (by omega)
        have H := Lib.hid hend; clear hend
        go_wp2
        go_ret
        have hc := HC.out
        rw [H.out] at hc
        exact ⟨_, rfl, by rw [hc]; exact HO.out, by rw [hc], below_drewN (Below.refl _ _) _⟩
end Go.Proofs.YtdhloijdefnkpaaGreatDoor

/-
  slices.Compact at edges, on a row of the call's own: each run of equal edges once.
  cmp.Compare, cmp.Or, system.order: the order of edges.
  slices.SortFunc at edges, by the shelf's contract; system.Sorted: the normal form of a list of edges.
  tauscc: the world of a walk over cycles of silent steps: its struct, four rows of numbers and marks, two stacks.
-/
import Derived.Test.YtclannenknhfpaaGreatDoorGRefErr
import Derived.Outline
import Derived.Test.YtclannenknhfpaaGreatDoorGKit
import Derived.Sort.Grow
import Derived.Deep.QuietTactic
import Derived.BigQuiet
import Derived.Deep.RegionHeld3
import Derived.Deep.RegionWith
import Derived.Test.YtclannenknhfpaaGreatDoorShelf
import Derived.Test.YtclannenknhfpaaGreatDoorGPl1
import Derived.Sort.OwnSortedInts
import Derived.Test.YtclannenknhfpaaGreatDoorGGraphB
import Derived.Test.YtclannenknhfpaaGreatDoorPl8
import Derived.Deep.Cut
import Derived.Deep.CutRange
import Derived.IntWalk
import Derived.Deep.DeepMust
namespace Go.Proofs.YtclannenknhfpaaGreatDoor
open Go.RowKit Pl

theorem cmpt_snoc {α : Type} [DecidableEq α] : ∀ (l : List α) (x y : α), cmpt (l ++ [x, y]) = cmpt (l ++ [x]) ++ (if x = y then [] else [y])
  | [], x, y => by
    by_cases h : x = y <;> simp [cmpt, h]
  | [a], x, y => by
    by_cases h : x = y <;> by_cases h' : a = x <;> simp [cmpt, h, h'] <;> (try subst h) <;> simp_all
  | a :: b :: l, x, y => by
    have ih := cmpt_snoc (b :: l) x y
    simp only [List.cons_append] at ih ⊢
    unfold cmpt
    split
    · exact ih
    · rw [ih]; simp

theorem cmpt_take {α : Type} [DecidableEq α] {xs : List α} {p : Nat} {x y : α} (hx : xs[p]? = some x) (hy : xs[p + 1]? = some y) : cmpt (xs.take (p + 2)) = cmpt (xs.take (p + 1)) ++ (if x = y then [] else [y]) := by
  rw [take_snoc hy, take_snoc hx, List.append_assoc]
  exact cmpt_snoc _ _ _

theorem length_cmpt {α : Type} [DecidableEq α] : ∀ l : List α, (cmpt l).length ≤ l.length
  | [] => by simp [cmpt]
  | [x] => by simp [cmpt]
  | x :: y :: l => by
    have := length_cmpt (y :: l)
    unfold cmpt; split <;> simp at * <;> omega

theorem zeroCells_one (z : Array Value) (n : Nat) (h : ∀ v ∈ z.toList, v.oneCell' = true) : ∀ v ∈ (Builtin.zeroCells z n).toList, v.oneCell' = true := by
  intro v hv
  unfold Builtin.zeroCells at hv
  rw [Array.toList_map] at hv
  obtain ⟨i, hi, rfl⟩ := List.mem_map.1 hv
  simp at hi
  have hz : 0 < z.size := by
    rcases Nat.eq_zero_or_pos z.size with h0 | h0
    · simp [h0] at hi
    · exact h0
  have hm : i % z.size < z.size := Nat.mod_lt _ hz
  simp only [getElem!_pos z (i % z.size) hm]
  exact h _ (by simp)

/-- 'clear(s[k:])', s an edge row of the call's own. -/
theorem clearE {w : World} {base g n cap : Nat} {ys : List E} (h : w.ownsRow base 58 3 (.slice (some ⟨g, 0, none⟩) n cap) ys.length (ys.flatMap encE)) (hn : n = ys.length) (kk c : Nat) (hk : kk < n) :
    ∃ w1, (∀ ty, (Builtin.clear_ #[22] ty #[.slice (some ⟨g, kk * 3, none⟩) (n - kk) c]).run Tryz.prog w = .ok (.tuple #[]) w1) ∧
      w1.ownsRow base 58 3 (.slice (some ⟨g, 0, none⟩) kk cap) kk ((ys.take kk).flatMap encE) ∧ ∀ {w0 : World}, Below base w0 w → Below base w0 w1 := by
  subst hn
  rcases h.2 with ⟨h', _⟩ | ⟨g', cap', cur, h', hb, hg, hnc, hcm, hcs, htake⟩
  · simp at h'
  · simp only [Value.slice.injEq, Option.some.injEq, Addr.mk.injEq, and_true, true_and] at h'
    obtain ⟨rfl, rfl⟩ := h'
    obtain ⟨m, hm⟩ : ∃ m, ys.length - kk = m + 1 := ⟨ys.length - kk - 1, by omega⟩
    rw [hm]
    obtain ⟨zs, hzs⟩ : ∃ zs, zs = (Builtin.zeroCells #[.int .i64 0, .int .i64 0, .int .i64 0] (m + 1)).toList := ⟨_, rfl⟩
    have hz : zs.length = (m + 1) * 3 := by rw [hzs, Array.length_toList, size_zeroCells]; rfl
    have hst := run_storeCells_at Tryz.prog g (kk * 3) 58 zs 0 cur w hg (by rw [hz]; omega) (by rw [hzs]; exact zeroCells_one _ _ (by simp [Value.oneCell']))
    simp only [Nat.add_zero] at hst
    obtain ⟨F, hF⟩ : ∃ F, F = (cur.toList.take (kk * 3) ++ zs ++ cur.toList.drop (kk * 3 + zs.length)).toArray := ⟨_, rfl⟩
    rw [← hF] at hst
    refine ⟨w.setRow g F, fun ty => ?_, ⟨?_, .inr ⟨g, cap, F, rfl, hb, setRow_heap w g cur _ _ _ hg, by omega, hcm, ?_, ?_⟩⟩, fun {w0} hB => ?_⟩
    · rw [hzs] at hst
      simp only [Builtin.clear_]
      simp [run_underlying Tryz.underlying22, Value.cells, hst]
    · rw [length_flatMap lenE, List.length_take, Nat.min_eq_left (by omega)]
    · rw [hF]
      simp only [List.size_toArray, List.length_append, List.length_take, List.length_drop, Array.length_toList, hz, hcs]
      omega
    · rw [hF, List.append_assoc, List.take_append_of_le_length (by simp; omega), List.take_take, Nat.min_self]
      have : (cur.toList.take (ys.length * 3)).take (kk * 3) = ((ys.flatMap encE)).take (kk * 3) := by rw [htake]
      rw [List.take_take, Nat.min_eq_left (by omega)] at this
      rw [this]
      have h2 := List.take_append_drop kk ys
      have h3 : ys.flatMap encE = (ys.take kk).flatMap encE ++ (ys.drop kk).flatMap encE := by rw [← List.flatMap_append, h2]
      rw [h3, List.take_append_of_le_length (by rw [length_flatMap lenE]; simp; omega), List.take_of_length_le (by rw [length_flatMap lenE]; simp; omega)]
    · exact hB.trans ⟨rfl, rfl, rfl, by simp [World.setRow], fun k hk => setRow_other w g k _ (by omega)⟩

set_option maxRecDepth 100000 in
set_option maxHeartbeats 1000000 in
theorem compactE_any {g n cap base : Nat} {xs : List E} {w : World} (hown : w.ownsRow base 58 3 (.slice (some ⟨g, 0, none⟩) n cap) xs.length (xs.flatMap encE)) (hn : n = xs.length) (hl : xs.length ≤ 1000000) (hbg : base ≤ g) (hcap : n ≤ cap) :
    Calls Tryz.prog 103 #[.slice (some ⟨g, 0, none⟩) n cap] w fun e w' => ∃ m, e = .returned (.slice (some ⟨g, 0, none⟩) m cap) ∧ w'.ownsRow base 58 3 (.slice (some ⟨g, 0, none⟩) m cap) (cmpt xs).length ((cmpt xs).flatMap encE) ∧ m = (cmpt xs).length ∧ Below base w w' := by
  subst hn
  by_cases h2 : xs.length < 2
  · have hc : cmpt xs = xs := by
      match xs, h2 with
      | [], _ => rfl
      | [x], _ => rfl
    have H := Lib.hid hc; have HO := Lib.hid hown; clear hc hown
    go_enter Tryz.func103, Tryz.ntmps103
    go_wp2
    go_ret
    exact ⟨_, rfl, by rw [H.out]; exact HO.out, by rw [H.out], Below.refl _ _⟩
  · have HO := Lib.hid hown; clear hown
    have hbase := HO.out.lt g rfl
    go_enter Tryz.func103, Tryz.ntmps103
    go_wp2
    go_loopw [3] (fun i wr => ∃ q m : Nat, q + 1 ≤ xs.length ∧ i = .int .i64 (q + 1) ∧ cmpt (xs.take (q + 1)) = xs.take (q + 1) ∧ wr = w.drewN m)
      (fun i _ => xs.length - (intOf i).toNat)
    case atStart => exact ⟨0, 0, by omega, rfl, by
      match xs, h2 with
      | x :: l, _ => rfl
      | [], h2 => simp at h2, rfl⟩
    case round =>
      obtain ⟨q, m, hq, rfl, hcm, rfl⟩ := hrel
      have HC := Lib.hid hcm; clear hcm
      by_cases hlt : q + 1 < xs.length
      · obtain ⟨x, hx⟩ := getElem?_of_lt (show q < xs.length by omega)
        obtain ⟨y, hy⟩ := getElem?_of_lt hlt
        have hS := slAt_row lenE HO.out
        have c0 := hS.e0 hx; have c1 := hS.e1 hx; have c2 := hS.e2 hx
        have d0 := hS.e0 hy; have d1 := hS.e1 hy; have d2 := hS.e2 hy
        simp only [Nat.zero_add] at c0 c1 c2 d0 d1 d2
        have heq := fun w => eqlE y x w
        have hgd := guardE
        have HX := Lib.hid hx; have HY := Lib.hid hy
        clear hS hx hy
        have hi1 : (q : Int) + 1 < (xs.length : Int) := by omega
        have hi2 : (q : Int) < (xs.length : Int) := by omega
        by_cases hxy : y = x
        · have hb : decide (y = x) = true := by simp [hxy]
          have HE := Lib.hid hxy; clear hxy
          go_wp2_with fail
          go_quiet (fail)
          go_wp2
          have hHk : cmpt (xs.take (q + 2)) = xs.take (q + 1) := by
            rw [cmpt_take HX.out HY.out, HC.out, if_pos HE.out.symm, List.append_nil]
          have HK := Lib.hid hHk; clear hHk
          clear c0 c1 c2 d0 d1 d2 heq hb
          go_loopw [3, 5] (fun i3 i5 wr => ∃ (kk r : Nat) (ys : List E), i3 = .int .i64 kk ∧ i5 = .int .i64 (r + 1) ∧ q + 1 + r + 1 ≤ xs.length ∧ ys.length = xs.length ∧
              wr.ownsRow base 58 3 (.slice (some ⟨g, 0, none⟩) xs.length cap) ys.length (ys.flatMap encE) ∧ ys.take kk = cmpt (xs.take (q + 1 + r + 1)) ∧ kk ≤ q + 1 + r ∧ (∀ j, q + 1 + r ≤ j → ys[j]? = xs[j]?) ∧ Below base w wr)
            (fun _ i5 _ => xs.length - (intOf i5).toNat)
          case atStart => exact ⟨q + 1, 0, xs, by go_num, rfl, by omega, rfl, HO.out, HK.out.symm, by omega, fun _ _ => rfl, below_drewN (Below.refl _ _) _⟩
          case round =>
            obtain ⟨kk, r, ys, rfl, rfl, hr, hyl, hown, htk, hkk, hsame, hB⟩ := hrel
            have hsz := hB.size
            have HT := Lib.hid htk; have HS := Lib.hid hsame; have HW := Lib.hid hown; have HYL := Lib.hid hyl
            clear htk hsame hown hyl
            by_cases hrt : q + 1 + r + 1 < xs.length
            · obtain ⟨u, hu⟩ := getElem?_of_lt (show q + 1 + r < xs.length by omega)
              obtain ⟨v, hv⟩ := getElem?_of_lt hrt
              have hS := slAt_row lenE (show wr.ownsRow base 58 3 (.slice (some ⟨g, 0, none⟩) xs.length cap) ys.length (ys.flatMap encE) from HW.out)
              have hu' : ys[q + 1 + r]? = some u := by rw [HS.out _ (Nat.le_refl _), hu]
              have hv' : ys[q + 1 + r + 1]? = some v := by rw [HS.out _ (by omega), hv]
              have c0 := hS.e0 hu'; have c1 := hS.e1 hu'; have c2 := hS.e2 hu'
              have d0 := hS.e0 hv'; have d1 := hS.e1 hv'; have d2 := hS.e2 hv'
              simp only [Nat.zero_add] at c0 c1 c2 d0 d1 d2
              rw [show (q + 1 + r) * 3 = (q + 1) * 3 + r * 3 by omega] at c0 c1 c2
              rw [show (q + 1 + r + 1) * 3 = (q + 1) * 3 + (r + 1) * 3 by omega] at d0 d1 d2
              have heq := fun w => neqE v u w
              have HU := Lib.hid hu; have HV := Lib.hid hv
              have hkl : kk < ys.length := by rw [HYL.out]; omega
              obtain ⟨z, hz⟩ := getElem?_of_lt hkl
              have k0 := hS.e0 hz; have k1 := hS.e1 hz; have k2 := hS.e2 hz
              simp only [Nat.zero_add] at k0 k1 k2
              have f0 : wr.frozen? ⟨g, kk * 3, none⟩ = false := row_frozen HW.out _
              have f1 : wr.frozen? ⟨g, kk * 3 + 1, none⟩ = false := row_frozen HW.out _
              have f2 : wr.frozen? ⟨g, kk * 3 + 2, none⟩ = false := row_frozen HW.out _
              clear hS hu hv hu' hv' hz
              have hi3 : (kk : Int) < (xs.length : Int) := by omega
              have hi4 : (r : Int) + 1 < (xs.length : Int) - (q + 1) := by omega
              have hi5 : (r : Int) < (xs.length : Int) - (q + 1) := by omega
              by_cases huv : v = u
              · have hb : decide (v = u) = true := by simp [huv]
                have HE := Lib.hid huv; clear huv
                go_wp2_with fail
                go_quiet (fail)
                go_wp2
                go_roundw
                case rel => exact ⟨kk, r + 1, ys, rfl, by go_num, by omega, HYL.out, HW.out, by
                  rw [HT.out, show q + 1 + (r + 1) + 1 = q + 1 + r + 2 by omega, cmpt_take HU.out HV.out, if_pos HE.out.symm, List.append_nil], by omega, fun j hj => HS.out j (by omega), below_drewN hB _⟩
                case measure => simp [intOf]; omega
              · have hb : decide (v = u) = false := by simp [huv]
                have HE := Lib.hid huv; clear huv
                go_wp2_with fail
                go_quiet (fail)
                go_wp2
                go_roundw
                case rel =>
                  refine ⟨kk + 1, r + 1, ys.set kk v, by go_num, by go_num, by omega, by rw [List.length_set]; exact HYL.out, ?_, by
                    rw [show q + 1 + (r + 1) + 1 = q + 1 + r + 2 by omega, cmpt_take HU.out HV.out, if_neg (fun e => HE.out e.symm), ← HT.out]
                    rw [take_snoc (i := kk) (x := v) (by rw [List.getElem?_set, if_pos rfl, if_pos hkl]), List.take_set_of_le (Nat.le_refl _)], by omega, fun j hj => by
                    rw [List.getElem?_set, if_neg (by omega)]; exact HS.out j (by omega), ?_⟩
                  · exact ownE_set (w := wr.drewN nq) (x := v) HW.out HYL.out.symm kk hkl
                  · exact below_set3 (below_drewN hB _) hbg
                case measure => simp [intOf]; omega
            · have hend : q + 1 + r + 1 = xs.length := by omega
              obtain ⟨w1, hcl, hown1, hB1⟩ := clearE (show wr.ownsRow base 58 3 (.slice (some ⟨g, 0, none⟩) xs.length cap) ys.length (ys.flatMap encE) from HW.out) HYL.out.symm kk (cap - kk) (by omega)
              have hlen : (ys.take kk).length = kk := by rw [List.length_take, HYL.out]; omega
              have HE2 := Lib.hid hend; have HO1 := Lib.hid hown1; have HLN := Lib.hid hlen; have HB1 := hB1 hB
              clear hend hown1 hlen hB1
              have hk1 : (kk : Int) < (cap : Int) := by omega
              go_wp2
              go_ret
              have ht := HT.out
              rw [HE2.out, List.take_of_length_le (Nat.le_refl _)] at ht
              exact ⟨kk, rfl, by rw [← ht, HLN.out]; exact HO1.out, by rw [← ht, HLN.out], HB1⟩
        · have hb : decide (y = x) = false := by simp [hxy]
          have HE := Lib.hid hxy; clear hxy
          go_wp2_with fail
          go_quiet (fail)
          go_wp2
          go_roundw
          case rel => exact ⟨q + 1, _, by omega, by go_num, by
            rw [show q + 1 + 1 = q + 2 by omega, cmpt_take HX.out HY.out, if_neg (fun e => HE.out e.symm), HC.out, take_snoc HY.out], rfl⟩
          case measure => simp [intOf]; omega
      · have hend : xs.take (q + 1) = xs := List.take_of_length_le (by omega)
        have H := Lib.hid hend; clear hend
        go_wp2
        go_ret
        have hc := HC.out
        rw [H.out] at hc
        exact ⟨_, rfl, by rw [hc]; exact HO.out, by rw [hc], below_drewN (Below.refl _ _) _⟩
end Go.Proofs.YtclannenknhfpaaGreatDoor

namespace Go.Proofs.YtclannenknhfpaaGreatDoor
open Go.RowKit Pl

def cmpI (x y : Int) : Int := if x < y then -1 else if y < x then 1 else 0

theorem compare_any (x y : Int) (w : World) : Calls Tryz.prog 66 #[.int .i64 x, .int .i64 y] w fun e w' => e = .returned (.int .i64 (cmpI x y)) ∧ w = w' := by
  unfold cmpI
  go_enter Tryz.func66, Tryz.ntmps66
  go_wp2
  all_goals (go_ret; exact ⟨by simp [*], rfl⟩)

def orL : List Int → Int
  | [] => 0
  | x :: l => if x = 0 then orL l else x

theorem orL_drop {xs : List Int} {k : Nat} (h : ∀ j, j < k → xs[j]? = some 0) : orL xs = orL (xs.drop k) := by
  induction k generalizing xs with
  | zero => simp
  | succ k ih =>
    match xs, h with
    | [], _ => simp [orL]
    | x :: xs, h =>
      have h0 : x = 0 := by simpa using h 0 (by omega)
      rw [orL, if_pos h0, List.drop_succ_cons]
      exact ih fun j hj => by simpa using h (j + 1) (by omega)
theorem orL_at {xs : List Int} {k : Nat} {x : Int} (h : ∀ j, j < k → xs[j]? = some 0) (hx : xs[k]? = some x) (h0 : x ≠ 0) : orL xs = x := by
  rw [orL_drop h, List.drop_eq_getElem?_toList_append, hx]
  simp [orL, h0]
theorem orL_none {xs : List Int} (h : ∀ j, j < xs.length → xs[j]? = some 0) : orL xs = 0 := by
  rw [orL_drop h]; simp [orL]

set_option maxRecDepth 100000 in
theorem or_any {a : Option Addr} {b off c : Nat} {xs : List Int} {w : World} (h : SlAt encI 1 w a b off xs) (hl : xs.length ≤ 4611686018427387904) :
   Calls Tryz.prog 65 #[.slice a xs.length c] w fun e w' => e = .returned (.int .i64 (orL xs)) ∧ w = w' := by
  go_enter Tryz.func65, Tryz.ntmps65
  go_wp2
  go_loop [5, 8] (fun _ i => ∃ k : Nat, k ≤ xs.length ∧ i = .int .i64 k ∧ (∀ j, j < k → xs[j]? = some 0)) (fun _ i => xs.length - (intOf i).toNat)
  case atStart => exact ⟨0, Nat.zero_le _, rfl, by intro j hj; omega⟩
  case round =>
    obtain ⟨k, hk, rfl, hz⟩ := hrel
    have HZ := Lib.hid hz; clear hz
    by_cases hlt : k < xs.length
    · obtain ⟨x, hx⟩ := getElem?_of_lt hlt
      obtain rfl := h.ad (by omega)
      have hc := h.ci hx
      have HX := Lib.hid hx; clear h hx
      by_cases h0 : x = 0
      · subst h0
        go_wp2
        go_round
        case rel => exact ⟨k + 1, by omega, by go_num, by
            intro j hj
            by_cases hjk : j = k
            · subst hjk; exact HX.out
            · exact HZ.out j (by omega)⟩
        case measure => simp [intOf]; omega
      · have hb : (x != 0) = true := by simp [h0]
        have H0 := Lib.hid h0; clear h0
        go_wp2
        go_ret
        exact ⟨ret_i (orL_at HZ.out HX.out H0.out).symm, rfl⟩
    · clear h
      go_wp2
      go_ret
      obtain rfl : k = xs.length := by omega
      exact ⟨ret_i (orL_none HZ.out).symm, rfl⟩

def cmpE (a b : E) : Int := orL [cmpI a.1 b.1, cmpI a.2.1 b.2.1, cmpI a.2.2 b.2.2]

theorem slAt_lit3 {w : World} {n : Nat} {x y z : Int} (h0 : w.cell? ⟨n, 0, none⟩ = some (.int .i64 x)) (h1 : w.cell? ⟨n, 1, none⟩ = some (.int .i64 y)) (h2 : w.cell? ⟨n, 2, none⟩ = some (.int .i64 z)) :
    SlAt encI 1 w (some ⟨n, 0, none⟩) n 0 [x, y, z] where
  ad _ := rfl
  lt _ := World.block_lt_of_cell? _ _ h0
  cell := by
    intro i v hv j u hu
    match j, hu with
    | 0, hu =>
      simp [encI] at hu; subst hu
      match i, hv with
      | 0, hv => simp at hv; subst hv; exact h0
      | 1, hv => simp at hv; subst hv; exact h1
      | 2, hv => simp at hv; subst hv; exact h2

set_option maxRecDepth 100000 in
theorem order_any (x y : E) (w : World) : Calls Tryz.prog 102 #[.agg #[.int .i64 x.1, .int .i64 x.2.1, .int .i64 x.2.2], .agg #[.int .i64 y.1, .int .i64 y.2.1, .int .i64 y.2.2]] w fun e w' => e = .returned (.int .i64 (cmpE x y)) ∧ ∃ q os', w' = Go.Sort.grow (w.drewN q) os' := by
  unfold cmpE
  go_enter Tryz.func102, Tryz.ntmps102
  go_wp2
  go_region_held3 (fun w' => w'.cell? ⟨w.heap.size, 0, none⟩ = some (.int .i64 x.1) ∧ w'.cell? ⟨w.heap.size, 1, none⟩ = some (.int .i64 x.2.1) ∧ w'.cell? ⟨w.heap.size, 2, none⟩ = some (.int .i64 x.2.2) ∧ w'.cell? ⟨w.heap.size + 1, 0, none⟩ = some (.int .i64 y.1) ∧ w'.cell? ⟨w.heap.size + 1, 1, none⟩ = some (.int .i64 y.2.1) ∧ w'.cell? ⟨w.heap.size + 1, 2, none⟩ = some (.int .i64 y.2.2)) (simp [go_sem, World.cell?_alloc_past])
    (first
      | (go_at_call 66; refine (compare_any _ _ _).mono ?_; rintro e w' ⟨rfl, rfl⟩)
      | (go_at_call 65; refine (or_any (slAt_lit3 (x := cmpI x.1 y.1) (y := cmpI x.2.1 y.2.1) (z := cmpI x.2.2 y.2.2) (by simp [go_sem]) (by simp [go_sem]) (by simp [go_sem])) (by simp)).mono ?_; rintro e w' ⟨rfl, rfl⟩))
  go_wp2
  go_ret
  exact ⟨rfl, 1, _, by rw [Go.Sort.alloc_eq_grow, Go.Sort.alloc_eq_grow, Go.Sort.alloc_eq_grow, Go.Sort.grow_grow, Go.Sort.grow_grow]; rfl⟩

end Go.Proofs.YtclannenknhfpaaGreatDoor

namespace Go.Proofs.YtclannenknhfpaaGreatDoor
open Go.RowKit Pl Go.Sort Go.Shelf Go.Lib

section
variable {α : Type} [Inhabited α] {enc : α → List Value} {k : Nat} {w : World} {base g n cap : Nat} {e : TypeId}

theorem flatK_toList (hk : ∀ x, (enc x).length = k) (hk0 : 0 < k) (d : Array α) : (flatK enc k d).toList = d.toList.flatMap enc := by
  apply List.ext_getElem?
  intro t
  by_cases ht : t < d.size * k
  · have hi : t / k < d.size := by rw [Nat.div_lt_iff_lt_mul hk0]; exact ht
    have hm : t % k < k := Nat.mod_lt _ hk0
    have hx : d.toList[t / k]? = some d[t / k]! := by
      rw [Array.getElem?_toList, Array.getElem?_eq_getElem hi, getElem!_pos d (t / k) hi]
    have h1 := getElem?_flatMap hk d.toList (t / k) _ hx (t % k) _ (List.getElem?_eq_getElem (by rw [hk]; exact hm))
    rw [show t / k * k + t % k = t from Nat.div_add_mod' t k] at h1
    rw [h1, Array.getElem?_toList]
    have h2 := get_flatK enc k d t ht
    rw [getElem!_pos _ _ (by simpa using ht)] at h2
    rw [Array.getElem?_eq_getElem (by simpa using ht), h2, getElem!_pos _ _ (by rw [hk]; exact hm)]
  · rw [List.getElem?_eq_none (by simp; omega), List.getElem?_eq_none (by rw [length_flatMap hk]; simp; omega)]

theorem holdsK_own (hk : ∀ x, (enc x).length = k) (hk0 : 0 < k) {xs : List α} (h : w.ownsRow base e k (.slice (some ⟨g, 0, none⟩) n cap) xs.length (xs.flatMap enc)) : HoldsK enc k w g 0 xs.toArray := by
  have hS := slAt_row hk h
  intro j hj
  rw [size_flatK] at hj
  refine ⟨?_, row_frozen h _⟩
  have hf := slAt_flat hk hS j
  have hj2 : j < (xs.flatMap enc).length := by rw [length_flatMap hk]; simpa using hj
  have := hf _ (List.getElem?_eq_getElem hj2)
  have hadd : (⟨g, 0, none⟩ : Addr).add j = ⟨g, 0 + j, none⟩ := by unfold Addr.add; split <;> simp_all
  rw [hadd] at this
  rw [this]
  have h2 := flatK_toList hk hk0 xs.toArray
  have h3 : (flatK enc k xs.toArray).toList[j]? = some (xs.flatMap enc)[j] := by rw [h2]; exact List.getElem?_eq_getElem hj2
  rw [Array.getElem?_toList] at h3
  rw [getElem!_pos _ _ (by simpa using hj)]
  rw [Array.getElem?_eq_getElem (by simpa using hj)] at h3
  exact h3.symm

theorem ownsRow_sortedK (hk : ∀ x, (enc x).length = k) (hk0 : 0 < k) {L : List Value} {m : Nat} {os : Array Obj} {d : Array α} (h : w.ownsRow base e k (.slice (some ⟨g, 0, none⟩) n cap) n L) (hd : d.size = n) :
    (sortWorldK enc k w g 0 m d os).ownsRow base e k (.slice (some ⟨g, 0, none⟩) n cap) n (d.toList.flatMap enc) := by
  subst hd
  rcases h.2 with ⟨h', _⟩ | ⟨g', cap', cur, h', hb, hg, hnc, hcm, hcs, htake⟩
  · simp at h'
  · simp only [Value.slice.injEq, Option.some.injEq, Addr.mk.injEq, and_true, true_and] at h'
    obtain ⟨rfl, rfl⟩ := h'
    have hlt : g < w.heap.size := (Array.getElem?_eq_some_iff.1 hg).1
    refine ⟨by rw [length_flatMap hk]; simp, .inr ⟨g, cap, putCells id 0 (flatK enc k d) cur, rfl, hb, ?_, hnc, hcm, by simp [putCells, hcs], ?_⟩⟩
    · show (grow (putRowK enc k (Sort.ahead w m) g 0 d) os).heap[g]? = _
      unfold grow putRowK putRow mapBlock Sort.ahead
      simp only
      rw [Array.getElem?_append_left (by simpa using hlt), Array.getElem?_modify, if_pos rfl, hg]
      rfl
    · rw [← flatK_toList hk hk0]
      have hc : d.size * k ≤ cur.size := by rw [hcs]; exact Nat.mul_le_mul_right _ hnc
      apply List.ext_getElem?
      intro t
      rw [List.getElem?_take]
      by_cases ht : t < d.size * k
      · rw [if_pos ht, Array.getElem?_toList, Array.getElem?_toList]
        unfold putCells
        rw [Array.getElem?_mapIdx, Array.getElem?_eq_getElem (show t < cur.size by omega), Array.getElem?_eq_getElem (show t < (flatK enc k d).size by simpa using ht)]
        simp only [Option.map_some, Nat.zero_le, Nat.zero_add, size_flatK, true_and, ht, if_true, Nat.sub_zero, id]
        rw [getElem!_pos _ _ (by simpa using ht)]
      · rw [if_neg ht, List.getElem?_eq_none (by simp; omega)]

theorem below_sortK {w0 : World} {B m : Nat} {os : Array Obj} {d : Array α} (h : Below B w0 w) (hb : B ≤ g) (hg : g < w.heap.size) : Below B w0 (sortWorldK enc k w g 0 m d os) :=
  h.trans ⟨rfl, rfl, rfl, by simp [sortWorldK, grow, putRowK, putRow, mapBlock, Sort.ahead], fun i hi => by
    show (grow (putRowK enc k (Sort.ahead w m) g 0 d) os).heap[i]? = _
    unfold grow putRowK putRow mapBlock Sort.ahead
    simp only
    rw [Array.getElem?_append_left (by simp; omega), Array.getElem?_modify, if_neg (by omega)]⟩

end

theorem ltOf_cmpE (x y : E) : ltOf cmpE x y = ltE x y := by
  rw [Bool.eq_iff_iff, ltE_iff]
  unfold ltOf cmpE orL orL orL orL cmpI
  simp only [decide_eq_true_eq]
  repeat' split
  all_goals omega

theorem swoE : SWO (ltOf cmpE) where
  irrefl x := by rw [ltOf_cmpE]; exact stoE.irrefl x
  trans x y z := by rw [ltOf_cmpE, ltOf_cmpE, ltOf_cmpE]; exact stoE.trans x y z
  ntrans x y z := by
    rw [ltOf_cmpE, ltOf_cmpE, ltOf_cmpE]
    simp only [Bool.eq_false_iff, ne_eq, ltE_iff]
    omega

/-- slices.SortFunc(s, f), s an edge row of the call's own, f a function that orders edges by 'cf'. -/
theorem sortFuncE (cf : E → E → Int) (hO : SWO (ltOf cf)) (f : Nat) (eg : ∀ args w, (callFunc f args).run Tryz.prog w = .ok (.enter f args) w)
    (hcmp : ∀ (x y : E) (W : World), Calls Tryz.prog f #[.agg #[.int .i64 x.1, .int .i64 x.2.1, .int .i64 x.2.2], .agg #[.int .i64 y.1, .int .i64 y.2.1, .int .i64 y.2.2]] W fun e w' => e = .returned (.int .i64 (cf x y)) ∧ ∃ q os', w' = Go.Sort.grow (W.drewN q) os')
    {base g n cap : Nat} {xs : List E} {w : World} (h : w.ownsRow base 58 3 (.slice (some ⟨g, 0, none⟩) n cap) xs.length (xs.flatMap encE)) (hn : n = xs.length) (hl : xs.length ≤ 1000000) :
    Calls Tryz.prog 63 #[.slice (some ⟨g, 0, none⟩) n cap, .func (.func f) #[] #[]] w fun e w' => e = .returned (.tuple #[]) ∧
      ∃ ys : List E, ys.Perm xs ∧ ys.Pairwise (fun a b => ltOf cf b a = false) ∧ w'.ownsRow base 58 3 (.slice (some ⟨g, 0, none⟩) n cap) n (ys.flatMap encE) ∧ (∀ {w0 : World}, Below base w0 w → Below base w0 w') := by
  subst hn
  have hlt := h.lt g rfl
  have hcon := AnyQ.slices_SortFunc Tryz.sortE 3 Tryz.isAgg58 Tryz.sizeOf58 encE lenE (fun x v hv => by simp [encE] at hv; rcases hv with rfl | rfl | rfl <;> rfl) cf hO f #[] g 0 cap xs.toArray w eg
    (fun m os dk _ x y => hcmp x y _) (holdsK_own lenE (by decide) h) hlt.2 (by simpa using by omega)
  change Calls Tryz.prog 63 _ _ _ at hcon
  refine hcon.mono ?_
  rintro e w' ⟨rfl, d', m, os, hp, hs, rfl⟩
  have hsz : d'.size = xs.length := by simpa using hp.1
  refine ⟨rfl, d'.toList, ?_, ?_, ?_, fun hB => below_sortK hB hlt.1 hlt.2⟩
  · have := hp.2.2
    simp only [Array.toList_extract, List.size_toArray, List.extract_eq_take_drop, Nat.sub_zero, List.drop_zero] at this
    rw [List.take_of_length_le (by simp [hsz]), List.take_of_length_le (Nat.le_refl _)] at this
    exact this
  · rw [List.pairwise_iff_getElem]
    intro i j hi hj hij
    have := hs i j (Nat.zero_le _) hij (by simpa [← hsz] using hj)
    rw [getElem!_pos _ _ (by simpa using hj), getElem!_pos _ _ (by simpa using hi)] at this
    simpa using this
  · have := ownsRow_sortedK (m := m) (os := os) (d := d') lenE (by decide) h hsz
    simpa using this

/-- .. of whatever row of the call's own, a nil one too. -/
theorem sortFuncE_v (cf : E → E → Int) (hO : SWO (ltOf cf)) (f : Nat) (eg : ∀ args w, (callFunc f args).run Tryz.prog w = .ok (.enter f args) w)
    (hcmp : ∀ (x y : E) (W : World), Calls Tryz.prog f #[.agg #[.int .i64 x.1, .int .i64 x.2.1, .int .i64 x.2.2], .agg #[.int .i64 y.1, .int .i64 y.2.1, .int .i64 y.2.2]] W fun e w' => e = .returned (.int .i64 (cf x y)) ∧ ∃ q os', w' = Go.Sort.grow (W.drewN q) os')
    {base : Nat} {v : Value} {xs : List E} {w : World} (h : w.ownsRow base 58 3 v xs.length (xs.flatMap encE)) (hl : xs.length ≤ 1000000) :
    Calls Tryz.prog 63 #[v, .func (.func f) #[] #[]] w fun e w' => e = .returned (.tuple #[]) ∧
      ∃ ys : List E, ys.Perm xs ∧ ys.Pairwise (fun a b => ltOf cf b a = false) ∧ w'.ownsRow base 58 3 v ys.length (ys.flatMap encE) ∧ (∀ {w0 : World}, Below base w0 w → Below base w0 w') := by
  rcases h.2 with ⟨rfl, hn⟩ | ⟨g, cap, cur, rfl, r⟩
  · have hx : xs = [] := List.eq_nil_of_length_eq_zero hn
    subst hx
    have hcon := AnyF.slices_SortFunc_none Tryz.sortE none 0 (.func (.func f) #[] #[]) w
    change Calls Tryz.prog 63 _ _ _ at hcon
    refine hcon.mono ?_
    rintro e w' ⟨rfl, rfl⟩
    exact ⟨rfl, [], List.Perm.refl _, List.Pairwise.nil, h, fun hB => hB⟩
  · refine (sortFuncE cf hO f eg hcmp h rfl hl).mono ?_
    rintro e w' ⟨rfl, ys, hp, hs, ho, hB⟩
    exact ⟨rfl, ys, hp, hs, by rw [hp.length_eq]; exact ho, hB⟩

set_option maxRecDepth 100000 in
theorem compactE_nil (w : World) : Calls Tryz.prog 103 #[.slice none 0 0] w fun e w' => e = .returned (.slice none 0 0) ∧ w = w' := by
  go_enter Tryz.func103, Tryz.ntmps103
  go_wp2
  go_ret
  exact ⟨rfl, rfl⟩

theorem compactE_v {base : Nat} {v : Value} {xs : List E} {w : World} (h : w.ownsRow base 58 3 v xs.length (xs.flatMap encE)) (hl : xs.length ≤ 1000000) :
    Calls Tryz.prog 103 #[v] w fun e w' => ∃ v', e = .returned v' ∧ w'.ownsRow base 58 3 v' (cmpt xs).length ((cmpt xs).flatMap encE) ∧ (∀ {w0 : World}, Below base w0 w → Below base w0 w') := by
  rcases h.2 with ⟨rfl, hn⟩ | ⟨g, cap, cur, rfl, hbg, hg, hnc, r⟩
  · have hx : xs = [] := List.eq_nil_of_length_eq_zero hn
    subst hx
    refine (compactE_nil w).mono ?_
    rintro e w' ⟨rfl, rfl⟩
    exact ⟨_, rfl, h, fun hB => hB⟩
  · refine (compactE_any h rfl hl hbg hnc).mono ?_
    rintro e w' ⟨m, rfl, ho, rfl, hB⟩
    exact ⟨_, rfl, ho, fun hB0 => hB0.trans hB⟩

set_option maxRecDepth 100000 in
/-- system.Sorted. -/
theorem sorted_any {a : Option Addr} {b off c : Nat} {xs : List E} {w : World} (h : SlAt encE 3 w a b off xs) (hl : xs.length ≤ 1000000) :
    Calls Tryz.prog 86 #[.slice a xs.length c] w fun e w' => ∃ v, e = .returned v ∧ w'.ownsRow w.heap.size 58 3 v (nf ltE xs).length ((nf ltE xs).flatMap encE) ∧ Below w.heap.size w w' := by
  have eg : ∀ args w, (callFunc 102 args).run Tryz.prog w = .ok (.enter 102 args) w := enters_of Tryz.func102 (by kernel_rfl) rfl
  have HE := Lib.hid eg; clear eg
  have hcl := cloneE_any (c := c) h hl
  have HC := Lib.hid hcl
  clear h hcl
  go_enter Tryz.func86, Tryz.ntmps86
  go_wp2_with (go_at_call 62; refine (HC.out).mono ?_; rintro e w1 ⟨v, rfl, hown, hB⟩; have HO := Lib.hid hown; clear hown)
  refine (sortFuncE_v cmpE swoE 102 HE.out (fun x y W => order_any x y W) HO.out hl).mono ?_
  rintro e w2 ⟨rfl, ys, hp, hs, hown, hB2⟩
  have hl2 : ys.length ≤ 1000000 := by rw [hp.length_eq]; exact hl
  have hfin : cmpt ys = nf ltE xs := by
    refine cmpt_eq_nf stoE ?_ (fun x => hp.mem_iff)
    exact hs.imp (fun {a b} h => by rw [ltOf_cmpE] at h; exact h)
  have HF := Lib.hid hfin
  have HO2 := Lib.hid hown
  have hB3 := hB2 hB
  clear hp hs hfin hown hB2 hB
  go_wp2_with (go_at_call 103; refine (compactE_v HO2.out hl2).mono ?_; rintro e w3 ⟨v3, rfl, hown3, hB4⟩)
  go_ret
  exact ⟨_, rfl, by rw [← HF.out]; exact hown3, hB4 hB3⟩

end Go.Proofs.YtclannenknhfpaaGreatDoor

namespace Go.Proofs.YtclannenknhfpaaGreatDoor
open Go.RowKit Pl

/-- The walk's own blocks: all apart, the stacks behind them. -/
structure Blk (b0 B WB LB NB IB CB : Nat) : Prop where
  lo : b0 ≤ WB ∧ b0 ≤ LB ∧ b0 ≤ NB ∧ b0 ≤ IB ∧ b0 ≤ CB ∧ b0 ≤ B
  hi : WB < B ∧ LB < B ∧ NB < B ∧ IB < B ∧ CB < B
  w : WB ≠ LB ∧ WB ≠ NB ∧ WB ≠ IB ∧ WB ≠ CB
  l : LB ≠ NB ∧ LB ≠ IB ∧ LB ≠ CB
  n : NB ≠ IB ∧ NB ≠ CB ∧ IB ≠ CB

theorem own_block {w w' : World} {base : Nat} {e : TypeId} {k n : Nat} {v : Value} {xs : List Value} (h : w.ownsRow base e k v n xs) (hb : ∀ g, v.ownBlock = some g → w'.heap[g]? = w.heap[g]?) : w'.ownsRow base e k v n xs := by
  refine ⟨h.1, ?_⟩
  rcases h.2 with h2 | ⟨g, cap, cur, hv, hbg, hg, r⟩
  · exact .inl h2
  · exact .inr ⟨g, cap, cur, hv, hbg, by rw [hb g (by rw [hv]; rfl)]; exact hg, r⟩

theorem own_set1 {w : World} {base : Nat} {e : TypeId} {k n : Nat} {v : Value} {xs : List Value} (h : w.ownsRow base e k v n xs) {p : Addr} (hp : ∀ g, v.ownBlock = some g → g ≠ p.block) (x : Value) : (w.setCell p x).ownsRow base e k v n xs :=
  own_block h (fun g hg => Below.heap_setCell _ _ _ _ (hp g hg))

/-- One element less, at the end. -/
theorem own_pop {w : World} {base : Nat} {e : TypeId} {k n m : Nat} {a : Option Addr} {c : Nat} {xs ys : List Value} (h : w.ownsRow base e k (.slice a n c) n xs) (hm : m ≤ n) (hx : ys = xs.take (m * k)) (hl : ys.length = m * k) (hp : 0 < n) :
    w.ownsRow base e k (.slice a m c) m ys := by
  refine ⟨hl, ?_⟩
  rcases h.2 with ⟨h2, h3⟩ | ⟨g, cap, cur, hv, hbg, hg, hnc, hcm, hcs, ht⟩
  · omega
  · simp only [Value.slice.injEq] at hv
    obtain ⟨rfl, _, rfl⟩ := hv
    refine .inr ⟨g, c, cur, rfl, hbg, hg, by omega, hcm, hcs, ?_⟩
    rw [hx, ← ht, List.take_take, Nat.min_eq_left (Nat.mul_le_mul_right k hm)]

section
variable {w0 wr w' : World} {B WB LB NB IB CB n : Nat} {gp : Value} {low num cls : Nat → Int} {iso : Nat → Bool} {met found : Int} {ol : List Int} {sl : List E} {vo vs : Value}

theorem flat_snoc_take {xs : List E} {x : E} : ((xs ++ [x]).flatMap encE).take (xs.length * 3) = xs.flatMap encE := by
  rw [List.flatMap_append, List.take_append_of_le_length (by rw [length_flatMap lenE]; omega), List.take_of_length_le (by rw [length_flatMap lenE]; omega)]
theorem flat_snoc_takeI {xs : List Int} {x : Int} : ((xs ++ [x]).flatMap encI).take (xs.length * 1) = xs.flatMap encI := by
  rw [List.flatMap_append, List.take_append_of_le_length (by rw [length_flatMap lenI]; omega), List.take_of_length_le (by rw [length_flatMap lenI]; omega)]

end
end Go.Proofs.YtclannenknhfpaaGreatDoor

/-
  cmp.Compare, cmp.Or, system.order: the order of edges.
-/
import Derived.Test.YtbbjmompbmgnmaaDoorBase
import Derived.Sort.Grow
import Derived.Deep.QuietTactic
import Derived.BigQuiet
import Derived.Deep.RegionHeld3
import Derived.Deep.RegionWith
namespace Go.Proofs.YtbbjmompbmgnmaaDoor
open Go.RowKit Pl

def cmpI (x y : Int) : Int := if x < y then -1 else if y < x then 1 else 0

theorem compare_any (x y : Int) (w : World) : Calls Tryd.prog 53 #[.int .i64 x, .int .i64 y] w fun e w' => e = .returned (.int .i64 (cmpI x y)) ∧ w = w' := by
  unfold cmpI
  go_enter Tryd.func53, Tryd.ntmps53
  go_wp2
  all_goals (go_ret; exact ⟨by simp [*], rfl⟩)

def orL : List Int → Int
  | [] => 0
  | x :: l => if x = 0 then orL l else x

theorem orL_drop {xs : List Int} {k : Nat} (h : ∀ j, j < k → xs[j]? = some 0) : orL xs = orL (xs.drop k) := by
  induction k generalizing xs with
  | zero => simp
  | succ k ih =>
    match xs, h with
    | [], _ => simp [orL]
    | x :: xs, h =>
      have h0 : x = 0 := by simpa using h 0 (by omega)
      rw [orL, if_pos h0, List.drop_succ_cons]
      exact ih fun j hj => by simpa using h (j + 1) (by omega)
theorem orL_at {xs : List Int} {k : Nat} {x : Int} (h : ∀ j, j < k → xs[j]? = some 0) (hx : xs[k]? = some x) (h0 : x ≠ 0) : orL xs = x := by
  rw [orL_drop h, List.drop_eq_getElem?_toList_append, hx]
  simp [orL, h0]
theorem orL_none {xs : List Int} (h : ∀ j, j < xs.length → xs[j]? = some 0) : orL xs = 0 := by
  rw [orL_drop h]; simp [orL]

set_option maxRecDepth 100000 in
theorem or_any {a : Option Addr} {b off c : Nat} {xs : List Int} {w : World} (h : SlAt encI 1 w a b off xs) (hl : xs.length ≤ 4611686018427387904) :
   Calls Tryd.prog 52 #[.slice a xs.length c] w fun e w' => e = .returned (.int .i64 (orL xs)) ∧ w = w' := by
  go_enter Tryd.func52, Tryd.ntmps52
  go_wp2
  go_loop [5, 8] (fun _ i => ∃ k : Nat, k ≤ xs.length ∧ i = .int .i64 k ∧ (∀ j, j < k → xs[j]? = some 0)) (fun _ i => xs.length - (intOf i).toNat)
  case atStart => exact ⟨0, Nat.zero_le _, rfl, by intro j hj; omega⟩
  case round =>
    obtain ⟨k, hk, rfl, hz⟩ := hrel
    have HZ := Lib.hid hz; clear hz
    by_cases hlt : k < xs.length
    · obtain ⟨x, hx⟩ := getElem?_of_lt hlt
      obtain rfl := h.ad (by omega)
      have hc := h.ci hx
      have HX := Lib.hid hx; clear h hx
      by_cases h0 : x = 0
      · subst h0
        go_wp2
        go_round
        case rel => exact ⟨k + 1, by omega, by go_num, by
            intro j hj
            by_cases hjk : j = k
            · subst hjk; exact HX.out
            · exact HZ.out j (by omega)⟩
        case measure => simp [intOf]; omega
      · have hb : (x != 0) = true := by simp [h0]
        have H0 := Lib.hid h0; clear h0
        go_wp2
        go_ret
        exact ⟨ret_i (orL_at HZ.out HX.out H0.out).symm, rfl⟩
    · clear h
      go_wp2
      go_ret
      obtain rfl : k = xs.length := by omega
      exact ⟨ret_i (orL_none HZ.out).symm, rfl⟩

def cmpE (a b : E) : Int := orL [cmpI a.1 b.1, cmpI a.2.1 b.2.1, cmpI a.2.2 b.2.2]

theorem slAt_lit3 {w : World} {n : Nat} {x y z : Int} (h0 : w.cell? ⟨n, 0, none⟩ = some (.int .i64 x)) (h1 : w.cell? ⟨n, 1, none⟩ = some (.int .i64 y)) (h2 : w.cell? ⟨n, 2, none⟩ = some (.int .i64 z)) :
    SlAt encI 1 w (some ⟨n, 0, none⟩) n 0 [x, y, z] where
  ad _ := rfl
  lt _ := World.block_lt_of_cell? _ _ h0
  cell := by
    intro i v hv j u hu
    match j, hu with
    | 0, hu =>
      simp [encI] at hu; subst hu
      match i, hv with
      | 0, hv => simp at hv; subst hv; exact h0
      | 1, hv => simp at hv; subst hv; exact h1
      | 2, hv => simp at hv; subst hv; exact h2

set_option maxRecDepth 100000 in
theorem order_any (x y : E) (w : World) : Calls Tryd.prog 89 #[.agg #[.int .i64 x.1, .int .i64 x.2.1, .int .i64 x.2.2], .agg #[.int .i64 y.1, .int .i64 y.2.1, .int .i64 y.2.2]] w fun e w' => e = .returned (.int .i64 (cmpE x y)) ∧ ∃ q os', w' = Go.Sort.grow (w.drewN q) os' := by
  unfold cmpE
  go_enter Tryd.func89, Tryd.ntmps89
  go_wp2
  go_region_held3 (fun w' => w'.cell? ⟨w.heap.size, 0, none⟩ = some (.int .i64 x.1) ∧ w'.cell? ⟨w.heap.size, 1, none⟩ = some (.int .i64 x.2.1) ∧ w'.cell? ⟨w.heap.size, 2, none⟩ = some (.int .i64 x.2.2) ∧ w'.cell? ⟨w.heap.size + 1, 0, none⟩ = some (.int .i64 y.1) ∧ w'.cell? ⟨w.heap.size + 1, 1, none⟩ = some (.int .i64 y.2.1) ∧ w'.cell? ⟨w.heap.size + 1, 2, none⟩ = some (.int .i64 y.2.2)) (simp [go_sem, World.cell?_alloc_past])
    (first
      | (go_at_call 53; refine (compare_any _ _ _).mono ?_; rintro e w' ⟨rfl, rfl⟩)
      | (go_at_call 52; refine (or_any (slAt_lit3 (x := cmpI x.1 y.1) (y := cmpI x.2.1 y.2.1) (z := cmpI x.2.2 y.2.2) (by simp [go_sem]) (by simp [go_sem]) (by simp [go_sem])) (by simp)).mono ?_; rintro e w' ⟨rfl, rfl⟩))
  go_wp2
  go_ret
  exact ⟨rfl, 1, _, by rw [Go.Sort.alloc_eq_grow, Go.Sort.alloc_eq_grow, Go.Sort.alloc_eq_grow, Go.Sort.grow_grow, Go.Sort.grow_grow]; rfl⟩

end Go.Proofs.YtbbjmompbmgnmaaDoor

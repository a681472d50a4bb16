/-
  system.Canon: the one form of a list.
-/
import Derived.Test.YtkmljelgogcobaaGreatDoorGBase
import Derived.Test.YtkmljelgogcobaaGreatDoorGPl3
import Derived.Maps.OwnSet
import Derived.Deep.DeepMust
namespace Go.Proofs.YtkmljelgogcobaaGreatDoor
open Go.RowKit Pl Go.Maps

theorem lawInt : Keyed Tryz.prog 3 := int_keyed Tryz.underlying3
theorem zeroInt (w : World) : (zeroValue 3).run Tryz.prog w = .ok (.int .i64 0) w := by kernel_rfl

/-- The map that Canon keeps: each number seen, at its place. -/
structure MapD (D : DataW Unit) (s : List Int) : Prop where
  has : ∀ x : Int, Maps.has D (.int .i64 x) = decide (x ∈ s)
  key : ∀ x ∈ s, D.atKey (.int .i64 x) (.lit (.int .i64 0)) = .lit (.int .i64 (s.idxOf x : Int))
  len : Maps.size D = s.length

theorem MapD.nil : MapD (.map []) [] := ⟨fun x => by simp [Maps.has], fun x h => by simp at h, rfl⟩
theorem MapD.push {D : DataW Unit} {s : List Int} {x : Int} (h : MapD D s) (ht : Tidy D) (hx : x ∉ s) : MapD (D.put (.int .i64 x) (.lit (.int .i64 (s.length : Int)))) (s ++ [x]) where
  has y := by
    by_cases e : y = x
    · subst e; rw [has_put_same (k := .int .i64 y) ht.isMap trivial]; simp
    · rw [has_put_other (by intro h; cases h; exact e rfl), h.has]; simp [e]
  key y hy := by
    by_cases e : y = x
    · subst e; rw [atKey_put_same (k := .int .i64 y) ht.isMap trivial, List.idxOf_append]; simp [hx]
    · have hys : y ∈ s := by simpa [e] using hy
      rw [atKey_put_other (by intro h; cases h; exact e rfl), h.key y hys, List.idxOf_append]; simp [hys]
  len := by rw [size_put ht, h.has]; simp [hx, h.len]

/-- A made row, filled, is owned. -/
theorem own_rowIs {w : World} {b n : Nat} {f : Nat → Value} {xs : List Int} (h : w.rowIs b 3 n f) (hl : xs.length = n) (hf : ∀ i x, xs[i]? = some x → f i = .int .i64 x) (hn : n ≤ maxLen) {base : Nat} (hb : base ≤ b) :
    w.ownsRow base 3 1 (.slice (some ⟨b, 0, none⟩) n n) n (xs.flatMap encI) := by
  obtain ⟨c, hh, hs, hc⟩ := h
  have hlen := length_flatMap lenI xs
  refine ⟨by omega, .inr ⟨b, n, c, rfl, hb, hh, Nat.le_refl _, hn, by omega, ?_⟩⟩
  rw [Nat.mul_one, List.take_of_length_le (by simp; omega)]
  apply List.ext_getElem?
  intro i
  by_cases hi : i < n
  · obtain ⟨x, hx⟩ := getElem?_of_lt (show i < xs.length by omega)
    have := getElem?_flatMap lenI xs i x hx 0 _ rfl
    rw [Array.getElem?_toList, hc i hi, hf i x hx]
    simpa using this.symm
  · rw [List.getElem?_eq_none (by simp; omega), List.getElem?_eq_none (by omega)]

/-- The row after k rounds. -/
def rowAtK (xs : List Int) (k : Nat) (j : Nat) : Value := .int .i64 (if j < k then ((dist xs).idxOf (xs.getD j 0) : Int) else 0)

theorem rowAtK_step {xs : List Int} {k : Nat} {x : Int} (hx : xs[k]? = some x) (i : Nat) : (if i = k then Value.int .i64 ((dist (xs.take (k + 1))).idxOf x : Int) else rowAtK xs k i) = rowAtK xs (k + 1) i := by
  unfold rowAtK
  by_cases e : i = k
  · subst e
    have hm : x ∈ xs.take (i + 1) := by rw [take_snoc hx]; simp
    rw [if_pos rfl, if_pos (by omega), List.getD_eq_getElem?_getD, hx, ← idx_append (xs.take (i + 1)) (xs.drop (i + 1)) hm, List.take_append_drop]; rfl
  · rw [if_neg e]
    by_cases h : i < k
    · rw [if_pos h, if_pos (by omega)]
    · rw [if_neg h, if_neg (by omega)]

set_option maxRecDepth 100000 in
set_option maxHeartbeats 2000000 in
theorem canon_any {w : World} {a : Option Addr} {b off c : Nat} {xs : List Int} (hS : SlAt encI 1 w a b off xs) (hn : xs.length ≤ 1000000) (hwf : ∀ x ∈ xs, (Lit.int .i64 x).wf = true) :
    Calls Tryz.prog 19 #[.slice a xs.length c] w fun e w' => ∃ v, e = .returned v ∧ w'.ownsRow w.heap.size 3 1 v xs.length ((canon xs).flatMap encI) ∧ Below w.heap.size w w' := by
  obtain ⟨n, hnn⟩ : ∃ n, n = xs.length := ⟨_, rfl⟩
  rw [← hnn] at hn ⊢
  have hmk := run_make_row' (P := Tryz.prog) 49 3 (.int .i64 0) 8 Tryz.underlying49 (by kernel_rfl) rfl .i64 .i64 n (by omega) (by omega)
  have hmm := @run_makeMap Tryz.prog
  have HS := Lib.hid hS; have HWF := Lib.hid hwf; have HNN := Lib.hid hnn
  clear hS hwf hnn
  go_enter Tryz.func19, Tryz.ntmps19
  go_wp2_with fail
  go_loopw [5, 6, 7, 8, 15] (fun _ _ _ _ i wr => ∃ (k : Nat) (D : DataW Unit), k ≤ n ∧ i = .int .i64 k ∧ MapD D (dist (xs.take k)) ∧ wr.ownsMap Tryz.prog 3 (plainElem Tryz.prog 3) w.heap.size k D ∧
      wr.rowIs (w.heap.size + 1) 3 n (rowAtK xs k) ∧ Below w.heap.size w wr)
    (fun _ _ _ _ i _ => n - (intOf i).toNat)
  case atStart =>
    refine ⟨0, .map [], Nat.zero_le _, rfl, by simpa [dist] using MapD.nil, (World.ownsMap_made _ _ _ _).alloc _, ?_, ((Below.refl _ _).alloc (Nat.le_refl _) _).alloc (by simp) _⟩
    have := World.rowIs_made (w.alloc (.map #[] 0)) (.int .i64 0) n 3
    exact (by simpa using this : World.rowIs _ (w.heap.size + 1) _ _ _).congr (fun i _ => by simp [rowAtK])
  case round =>
    obtain ⟨k, D, hk, rfl, hmd, hown, hrow, hB⟩ := hrel
    have hm := hown.size_le
    have hsz := hB.size
    have hrlt := hrow.lt
    have hmlt := hown.lt
    have HMD := Lib.hid hmd; have HOWN := Lib.hid hown; have HROW := Lib.hid hrow; have HB := Lib.hid hB
    clear hmd hown hrow hB
    by_cases hlt : k < n
    · obtain ⟨x, hx⟩ := getElem?_of_lt (xs := xs) (i := k) (by have := HNN.out; omega)
      obtain rfl := HS.out.ad (by have := HNN.out; omega)
      have hcx := (HS.out.below HB.out (Nat.le_refl _)).ci hx
      have hkey := keyOf_int_mk Tryz.underlying3 (HWF.out x (List.mem_of_getElem? hx))
      have hfr : wr.frozen? ⟨w.heap.size + 1, k, none⟩ = false := HROW.out.frozen k
      have hct := HROW.out.cell hlt
      have hkn : (k : Int) < (n : Int) := by omega
      have HX := Lib.hid hx
      clear hx
      by_cases hin : x ∈ dist (xs.take k)
      · have hh : Maps.has D (.int .i64 x) = true := by rw [HMD.out.has]; simp [hin]
        have HH := Lib.hid hh
        clear hh
        go_wp2_with (at_lookup; refine wpList_lookup_own_ok_int _ rfl _ _ 101 rfl 3 3 .i64 lawInt Tryz.underlying101 Tryz.underlying3 (zeroInt _) w.heap.size k D rfl HOWN.out _ _ rfl hkey ?_; intro cc hat hwc; rw [HH.out])
        have hcc : cc = (((dist (xs.take k)).idxOf x : Nat) : Int) := by
          have := HMD.out.key x hin
          rw [this] at hat
          simp only [DataW.lit.injEq, Lit.int.injEq] at hat
          exact hat.2.symm
        subst hcc
        have hd : dist (xs.take (k + 1)) = dist (xs.take k) := by rw [take_snoc HX.out, dist_snoc]; unfold addN; rw [if_pos hin]
        have hrw := (HROW.out.set k (.int .i64 ((dist (xs.take (k + 1))).idxOf x : Int))).congr (fun i _ => rowAtK_step HX.out i)
        rw [hd] at hrw
        have HD := Lib.hid hd; have HRW := Lib.hid hrw
        clear hd hrw
        go_roundw
        case rel => exact ⟨k + 1, D, by omega, by go_num, by rw [HD.out]; exact HMD.out, (HOWN.out.setCell (by simp) _).mono (Nat.le_succ _), HRW.out, HB.out.setCell (by simp) _⟩
        case measure => simp [intOf]; omega
      · have hh : Maps.has D (.int .i64 x) = false := by rw [HMD.out.has]; simp [hin]
        have HH := Lib.hid hh; have HIN := Lib.hid hin
        clear hh hin
        have hml := HMD.out.len
        have hdl : (dist (xs.take k)).length ≤ k := by omega
        have HML := Lib.hid hml
        clear hml
        go_wp2_with (first
          | (at_lookup; refine wpList_lookup_own_ok_int _ rfl _ _ 101 rfl 3 3 .i64 lawInt Tryz.underlying101 Tryz.underlying3 (zeroInt _) w.heap.size k D rfl HOWN.out _ _ rfl hkey ?_; intro cc hat hwc; rw [HH.out])
          | (at_len; refine wpList_len_own _ rfl _ 101 rfl 3 3 Tryz.underlying101 _ w.heap.size k D rfl HOWN.out ?_; rw [HML.out])
          | (at_mapUpdate; refine wpList_mapUpdate_own _ rfl _ _ _ 101 rfl 3 3 lawInt Tryz.underlying101 _ w.heap.size k D rfl HOWN.out (by unfold maxLen; omega) _ _ _ rfl rfl hkey _ [] (plainElem_int Tryz.underlying3 (WalkArith.wf_i64 (by omega))) ?_; intro w1 hown1 hgrow1; have hct1 := (HROW.out.of_block (hgrow1.block _ hrlt (by simp))).cell hlt; have hfr1 : w1.frozen? ⟨w.heap.size + 1, k, none⟩ = false := (HROW.out.of_block (hgrow1.block _ hrlt (by simp))).frozen k; have hrlt1 := (HROW.out.of_block (hgrow1.block _ hrlt (by simp))).lt))
        have hd : dist (xs.take (k + 1)) = dist (xs.take k) ++ [x] := by rw [take_snoc HX.out, dist_snoc]; unfold addN; rw [if_neg HIN.out]
        have hix : (dist (xs.take (k + 1))).idxOf x = (dist (xs.take k)).length := by rw [hd, List.idxOf_append]; simp [HIN.out]
        have hrow1 : w1.rowIs (w.heap.size + 1) 3 n (rowAtK xs k) := HROW.out.of_block (hgrow1.block _ hrlt (by simp))
        have hB1 := HB.out.grown hgrow1 hsz (fun j hj => by cases hj; exact Nat.le_refl _)
        have hmd1 := HMD.out.push (HOWN.out.tidy lawInt) HIN.out
        rw [← hd] at hmd1
        have hrw := (hrow1.set k (.int .i64 ((dist (xs.take (k + 1))).idxOf x : Int))).congr (fun i _ => rowAtK_step HX.out i)
        rw [hix] at hrw
        have HRW := Lib.hid hrw; have HB1 := Lib.hid hB1; have HMD1 := Lib.hid hmd1; have HOWN1 := Lib.hid hown1
        clear hd hix hrow1 hB1 hmd1 hrw hown1 hgrow1 hct hfr
        go_roundw
        case rel => exact ⟨k + 1, _, by omega, by go_num, HMD1.out, HOWN1.out.setCell (by simp) _, HRW.out, HB1.out.setCell (by simp) _⟩
        case measure => simp [intOf]; omega
    · obtain rfl : k = n := by omega
      go_wp2
      go_ret
      refine ⟨_, rfl, own_rowIs HROW.out (by rw [canon_len]; exact HNN.out.symm) ?_ (by unfold maxLen; omega) (by omega), HB.out⟩
      intro i x hx
      rw [canon_get] at hx
      obtain ⟨y, hy, rfl⟩ := Option.map_eq_some_iff.1 hx
      have hi := (List.getElem?_eq_some_iff.1 hy).1
      unfold rowAtK
      rw [if_pos (by have := HNN.out; omega), List.getD_eq_getElem?_getD, hy]; rfl
end Go.Proofs.YtkmljelgogcobaaGreatDoor

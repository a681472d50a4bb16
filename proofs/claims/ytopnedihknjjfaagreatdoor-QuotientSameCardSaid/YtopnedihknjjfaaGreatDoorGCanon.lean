/-
  system.Canon: the one form of a list.
  refine.Partition: Marked, Classes.
-/
import Derived.Test.YtopnedihknjjfaaGreatDoorGBase
import Derived.Test.YtopnedihknjjfaaGreatDoorGPl4
import Derived.Maps.OwnSet
import Derived.Deep.DeepMust
import Derived.Test.YtopnedihknjjfaaGreatDoorGParA
namespace Go.Proofs.YtopnedihknjjfaaGreatDoor
open Go.RowKit Pl Go.Maps

theorem lawInt : Keyed Tryz.prog 3 := int_keyed Tryz.underlying3
theorem zeroInt (w : World) : (zeroValue 3).run Tryz.prog w = .ok (.int .i64 0) w := by kernel_rfl

/-- The map that Canon keeps: each number seen, at its place. -/
structure MapD (D : DataW Unit) (s : List Int) : Prop where
  has : ∀ x : Int, Maps.has D (.int .i64 x) = decide (x ∈ s)
  key : ∀ x ∈ s, D.atKey (.int .i64 x) (.lit (.int .i64 0)) = .lit (.int .i64 (s.idxOf x : Int))
  len : Maps.size D = s.length

theorem MapD.nil : MapD (.map []) [] := ⟨fun x => by simp [Maps.has], fun x h => by simp at h, rfl⟩
theorem MapD.push {D : DataW Unit} {s : List Int} {x : Int} (h : MapD D s) (ht : Tidy D) (hx : x ∉ s) : MapD (D.put (.int .i64 x) (.lit (.int .i64 (s.length : Int)))) (s ++ [x]) where
  has y := by
    by_cases e : y = x
    · subst e; rw [has_put_same (k := .int .i64 y) ht.isMap trivial]; simp
    · rw [has_put_other (by intro h; cases h; exact e rfl), h.has]; simp [e]
  key y hy := by
    by_cases e : y = x
    · subst e; rw [atKey_put_same (k := .int .i64 y) ht.isMap trivial, List.idxOf_append]; simp [hx]
    · have hys : y ∈ s := by simpa [e] using hy
      rw [atKey_put_other (by intro h; cases h; exact e rfl), h.key y hys, List.idxOf_append]; simp [hys]
  len := by rw [size_put ht, h.has]; simp [hx, h.len]

/-- A made row, filled, is owned. -/
theorem own_rowIs {w : World} {b n : Nat} {f : Nat → Value} {xs : List Int} (h : w.rowIs b 3 n f) (hl : xs.length = n) (hf : ∀ i x, xs[i]? = some x → f i = .int .i64 x) (hn : n ≤ maxLen) {base : Nat} (hb : base ≤ b) :
    w.ownsRow base 3 1 (.slice (some ⟨b, 0, none⟩) n n) n (xs.flatMap encI) := by
  obtain ⟨c, hh, hs, hc⟩ := h
  have hlen := length_flatMap lenI xs
  refine ⟨by omega, .inr ⟨b, n, c, rfl, hb, hh, Nat.le_refl _, hn, by omega, ?_⟩⟩
  rw [Nat.mul_one, List.take_of_length_le (by simp; omega)]
  apply List.ext_getElem?
  intro i
  by_cases hi : i < n
  · obtain ⟨x, hx⟩ := getElem?_of_lt (show i < xs.length by omega)
    have := getElem?_flatMap lenI xs i x hx 0 _ rfl
    rw [Array.getElem?_toList, hc i hi, hf i x hx]
    simpa using this.symm
  · rw [List.getElem?_eq_none (by simp; omega), List.getElem?_eq_none (by omega)]

/-- The row after k rounds. -/
def rowAtK (xs : List Int) (k : Nat) (j : Nat) : Value := .int .i64 (if j < k then ((dist xs).idxOf (xs.getD j 0) : Int) else 0)

theorem rowAtK_step {xs : List Int} {k : Nat} {x : Int} (hx : xs[k]? = some x) (i : Nat) : (if i = k then Value.int .i64 ((dist (xs.take (k + 1))).idxOf x : Int) else rowAtK xs k i) = rowAtK xs (k + 1) i := by
  unfold rowAtK
  by_cases e : i = k
  · subst e
    have hm : x ∈ xs.take (i + 1) := by rw [take_snoc hx]; simp
    rw [if_pos rfl, if_pos (by omega), List.getD_eq_getElem?_getD, hx, ← idx_append (xs.take (i + 1)) (xs.drop (i + 1)) hm, List.take_append_drop]; rfl
  · rw [if_neg e]
    by_cases h : i < k
    · rw [if_pos h, if_pos (by omega)]
    · rw [if_neg h, if_neg (by omega)]

set_option maxRecDepth 100000 in
set_option maxHeartbeats 2000000 in
theorem canon_any {w : World} {a : Option Addr} {b off c : Nat} {xs : List Int} (hS : SlAt encI 1 w a b off xs) (hn : xs.length ≤ 1000000) (hwf : ∀ x ∈ xs, (Lit.int .i64 x).wf = true) :
    Calls Tryz.prog 42 #[.slice a xs.length c] w fun e w' => ∃ v, e = .returned v ∧ w'.ownsRow w.heap.size 3 1 v xs.length ((canon xs).flatMap encI) ∧ Below w.heap.size w w' := by
  obtain ⟨n, hnn⟩ : ∃ n, n = xs.length := ⟨_, rfl⟩
  rw [← hnn] at hn ⊢
  have hmk := run_make_row' (P := Tryz.prog) 27 3 (.int .i64 0) 8 Tryz.underlying27 (by kernel_rfl) rfl .i64 .i64 n (by omega) (by omega)
  have hmm := @run_makeMap Tryz.prog
  have HS := Lib.hid hS; have HWF := Lib.hid hwf; have HNN := Lib.hid hnn
  clear hS hwf hnn
  go_enter Tryz.func42, Tryz.ntmps42
  go_wp2_with fail
  go_loopw [5, 6, 7, 8, 15] (fun _ _ _ _ i wr => ∃ (k : Nat) (D : DataW Unit), k ≤ n ∧ i = .int .i64 k ∧ MapD D (dist (xs.take k)) ∧ wr.ownsMap Tryz.prog 3 (plainElem Tryz.prog 3) w.heap.size k D ∧
      wr.rowIs (w.heap.size + 1) 3 n (rowAtK xs k) ∧ Below w.heap.size w wr)
    (fun _ _ _ _ i _ => n - (intOf i).toNat)
  case atStart =>
    refine ⟨0, .map [], Nat.zero_le _, rfl, by simpa [dist] using MapD.nil, (World.ownsMap_made _ _ _ _).alloc _, ?_, ((Below.refl _ _).alloc (Nat.le_refl _) _).alloc (by simp) _⟩
    have := World.rowIs_made (w.alloc (.map #[] 0)) (.int .i64 0) n 3
    exact (by simpa using this : World.rowIs _ (w.heap.size + 1) _ _ _).congr (fun i _ => by simp [rowAtK])
  case round =>
    obtain ⟨k, D, hk, rfl, hmd, hown, hrow, hB⟩ := hrel
    have hm := hown.size_le
    have hsz := hB.size
    have hrlt := hrow.lt
    have hmlt := hown.lt
    have HMD := Lib.hid hmd; have HOWN := Lib.hid hown; have HROW := Lib.hid hrow; have HB := Lib.hid hB
    clear hmd hown hrow hB
    by_cases hlt : k < n
    · obtain ⟨x, hx⟩ := getElem?_of_lt (xs := xs) (i := k) (by have := HNN.out; omega)
      obtain rfl := HS.out.ad (by have := HNN.out; omega)
      have hcx := (HS.out.below HB.out (Nat.le_refl _)).ci hx
      have hkey := keyOf_int_mk Tryz.underlying3 (HWF.out x (List.mem_of_getElem? hx))
      have hfr : wr.frozen? ⟨w.heap.size + 1, k, none⟩ = false := HROW.out.frozen k
      have hct := HROW.out.cell hlt
      have hkn : (k : Int) < (n : Int) := by omega
      have HX := Lib.hid hx
      clear hx
      by_cases hin : x ∈ dist (xs.take k)
      · have hh : Maps.has D (.int .i64 x) = true := by rw [HMD.out.has]; simp [hin]
        have HH := Lib.hid hh
        clear hh
        go_wp2_with (at_lookup; refine wpList_lookup_own_ok_int _ rfl _ _ 116 rfl 3 3 .i64 lawInt Tryz.underlying116 Tryz.underlying3 (zeroInt _) w.heap.size k D rfl HOWN.out _ _ rfl hkey ?_; intro cc hat hwc; rw [HH.out])
        have hcc : cc = (((dist (xs.take k)).idxOf x : Nat) : Int) := by
          have := HMD.out.key x hin
          rw [this] at hat
          simp only [DataW.lit.injEq, Lit.int.injEq] at hat
          exact hat.2.symm
        subst hcc
        have hd : dist (xs.take (k + 1)) = dist (xs.take k) := by rw [take_snoc HX.out, dist_snoc]; unfold addN; rw [if_pos hin]
        have hrw := (HROW.out.set k (.int .i64 ((dist (xs.take (k + 1))).idxOf x : Int))).congr (fun i _ => rowAtK_step HX.out i)
        rw [hd] at hrw
        have HD := Lib.hid hd; have HRW := Lib.hid hrw
        clear hd hrw
        go_roundw
        case rel => exact ⟨k + 1, D, by omega, by go_num, by rw [HD.out]; exact HMD.out, (HOWN.out.setCell (by simp) _).mono (Nat.le_succ _), HRW.out, HB.out.setCell (by simp) _⟩
        case measure => simp [intOf]; omega
      · have hh : Maps.has D (.int .i64 x) = false := by rw [HMD.out.has]; simp [hin]
        have HH := Lib.hid hh; have HIN := Lib.hid hin
        clear hh hin
        have hml := HMD.out.len
        have hdl : (dist (xs.take k)).length ≤ k := by omega
        have HML := Lib.hid hml
        clear hml
        go_wp2_with (first
          | (at_lookup; refine wpList_lookup_own_ok_int _ rfl _ _ 116 rfl 3 3 .i64 lawInt Tryz.underlying116 Tryz.underlying3 (zeroInt _) w.heap.size k D rfl HOWN.out _ _ rfl hkey ?_; intro cc hat hwc; rw [HH.out])
          | (at_len; refine wpList_len_own _ rfl _ 116 rfl 3 3 Tryz.underlying116 _ w.heap.size k D rfl HOWN.out ?_; rw [HML.out])
          | (at_mapUpdate; refine wpList_mapUpdate_own _ rfl _ _ _ 116 rfl 3 3 lawInt Tryz.underlying116 _ w.heap.size k D rfl HOWN.out (by unfold maxLen; omega) _ _ _ rfl rfl hkey _ [] (plainElem_int Tryz.underlying3 (WalkArith.wf_i64 (by omega))) ?_; intro w1 hown1 hgrow1; have hct1 := (HROW.out.of_block (hgrow1.block _ hrlt (by simp))).cell hlt; have hfr1 : w1.frozen? ⟨w.heap.size + 1, k, none⟩ = false := (HROW.out.of_block (hgrow1.block _ hrlt (by simp))).frozen k; have hrlt1 := (HROW.out.of_block (hgrow1.block _ hrlt (by simp))).lt))
        have hd : dist (xs.take (k + 1)) = dist (xs.take k) ++ [x] := by rw [take_snoc HX.out, dist_snoc]; unfold addN; rw [if_neg HIN.out]
        have hix : (dist (xs.take (k + 1))).idxOf x = (dist (xs.take k)).length := by rw [hd, List.idxOf_append]; simp [HIN.out]
        have hrow1 : w1.rowIs (w.heap.size + 1) 3 n (rowAtK xs k) := HROW.out.of_block (hgrow1.block _ hrlt (by simp))
        have hB1 := HB.out.grown hgrow1 hsz (fun j hj => by cases hj; exact Nat.le_refl _)
        have hmd1 := HMD.out.push (HOWN.out.tidy lawInt) HIN.out
        rw [← hd] at hmd1
        have hrw := (hrow1.set k (.int .i64 ((dist (xs.take (k + 1))).idxOf x : Int))).congr (fun i _ => rowAtK_step HX.out i)
        rw [hix] at hrw
        have HRW := Lib.hid hrw; have HB1 := Lib.hid hB1; have HMD1 := Lib.hid hmd1; have HOWN1 := Lib.hid hown1
        clear hd hix hrow1 hB1 hmd1 hrw hown1 hgrow1 hct hfr
        go_roundw
        case rel => exact ⟨k + 1, _, by omega, by go_num, HMD1.out, HOWN1.out.setCell (by simp) _, HRW.out, HB1.out.setCell (by simp) _⟩
        case measure => simp [intOf]; omega
    · obtain rfl : k = n := by omega
      go_wp2
      go_ret
      refine ⟨_, rfl, own_rowIs HROW.out (by rw [canon_len]; exact HNN.out.symm) ?_ (by unfold maxLen; omega) (by omega), HB.out⟩
      intro i x hx
      rw [canon_get] at hx
      obtain ⟨y, hy, rfl⟩ := Option.map_eq_some_iff.1 hx
      have hi := (List.getElem?_eq_some_iff.1 hy).1
      unfold rowAtK
      rw [if_pos (by have := HNN.out; omega), List.getD_eq_getElem?_getD, hy]; rfl
end Go.Proofs.YtopnedihknjjfaaGreatDoor

namespace Go.Proofs.YtopnedihknjjfaaGreatDoor
open Go.RowKit Pl

namespace Pl
theorem mkB_succ {bl : List B3} {k : Nat} {x : B3} (h : bl[k]? = some x) : mkB bl (k + 1) = mkB bl k ++ (if 0 < x.2.2 then [k] else []) := by
  unfold mkB
  rw [List.range_succ, List.filter_append]
  congr 1
  by_cases h0 : 0 < x.2.2
  · rw [if_pos h0]
    simp [h, h0]
  · rw [if_neg h0]
    have h1 : x.2.2 = 0 := by omega
    simp [h, h1]
theorem mkB_len (bl : List B3) (k : Nat) : (mkB bl k).length ≤ k := by
  unfold mkB
  have := List.length_filter_le (fun b => decide (∃ x, bl[b]? = some x ∧ 0 < x.2.2)) (List.range k)
  simpa using this
end Pl

section
variable {w0 w : World} {K : PK} {n : Nat} {el pl inn : Nat → Nat} {bl : List B3} {rest : List Rw}

/-- A list of numbers of the call's own. -/
def OwnI (w : World) (M : List Int) (e : Ending) (w' : World) : Prop :=
  ∃ v, e = .returned v ∧ w'.ownsRow w.heap.size 3 1 v M.length (M.flatMap encI) ∧ Below w.heap.size w w'

set_option maxRecDepth 100000 in
set_option maxHeartbeats 1000000 in
theorem marked_any (h : PW w0 w K n el pl inn bl rest) :
    Calls Tryz.prog 152 #[.pointer (some ⟨K.pb, 0, none⟩)] w (OwnI w ((mkB bl bl.length).map Int.ofNat)) := by
  have H := Lib.hid h
  obtain ⟨c0, c1, c2, c3⟩ := h.rws.pCells
  have l0 := h.rws.pLts.1
  have hcb := h.rws.pCaps.2.2.2
  have hfew := h.pi.few
  have hn := h.n1
  obtain ⟨m, hm⟩ : ∃ m, m = bl.length := ⟨_, rfl⟩
  rw [← hm] at c3 hcb hfew ⊢
  have HMM := Lib.hid hm
  clear h hm c0 c1 c2
  go_enter Tryz.func152, Tryz.ntmps152
  go_wp2_with fail
  refine (parOwn_any w K.pb).mono ?_
  rintro e w1 ⟨rfl, rfl⟩
  go_wp2_with fail
  go_loopw [3, 4, 5, 12] (fun v3 _ _ v12 wr => ∃ k : Nat, v12 = .int .i64 k ∧ k ≤ m ∧ wr.ownsRow w.heap.size 3 1 v3 ((mkB bl k).map Int.ofNat).length (((mkB bl k).map Int.ofNat).flatMap encI) ∧ Below w.heap.size w wr) (fun _ _ _ v12 _ => m - (intOf v12).toNat)
  case atStart => exact ⟨0, rfl, Nat.zero_le _, ⟨by simp [mkB], .inl ⟨rfl, by simp [mkB]⟩⟩, Below.refl _ _⟩
  case round =>
    obtain ⟨k, rfl, hk, hown, hB⟩ := hrel
    have HOWN := Lib.hid hown; have HB := Lib.hid hB
    have hsz := hB.size
    clear hown hB
    by_cases hlt : k < m
    · obtain ⟨x, hx⟩ : ∃ x, bl[k]? = some x := ⟨_, List.getElem?_eq_getElem (by have := HMM.out; omega)⟩
      have h1 := H.out.rws.call HB.out
      obtain ⟨g0, g1, g2⟩ := h1.pBl hx
      have gl := h1.pLts.2.2.2.2
      obtain ⟨b1, b2, b3⟩ := H.out.pi.blk k x hx
      have hsucc := mkB_succ hx
      have hlen := mkB_len bl k
      obtain ⟨x1, x2, x3⟩ := x
      simp only at g0 g1 g2 b1 b2 b3 hsucc
      have hkI : (k : Int) < (m : Int) := by omega
      have hmx : ((mkB bl k).map Int.ofNat).length ≤ 1000 := by simp; omega
      have HSU := Lib.hid hsucc
      clear h1 hx hsucc hlen
      by_cases h0 : 0 < x3
      · have hb : decide ((0 : Int) < (x3 : Int)) = true := by simp; omega
        have h3I : (0 : Int) < (x3 : Int) := by omega
        have hs' : ((mkB bl (k + 1)).map Int.ofNat) = ((mkB bl k).map Int.ofNat) ++ [(k : Int)] := by rw [HSU.out, if_pos h0, List.map_append]; rfl
        have HS := Lib.hid hs'
        clear hs'
        go_wp2_with (at_builtin; refine wpList_app1 rfl _ _ _ rfl rowI (Below.refl _ _) (by simp; omega) rfl ((HOWN.out.alloc _).alloc _) ⟨wr.heap.size + 1, 0, none⟩ 1 1 [.int .i64 (k : Int)] rfl rfl (cells1 (by simp [go_sem])) (by simp [Value.oneCell']) (by decide) (by omega) (by unfold maxLen; omega) ?_; intro g cap w7 hown7 _ hg7)
        have hb7 : Below w.heap.size w w7 := ((HB.out.alloc hsz _).alloc (by simp; omega) _).grown hg7 (by simp; omega) (fun k hk => (HOWN.out.lt k hk).1)
        have hown8 : w7.ownsRow w.heap.size 3 1 (.slice (some ⟨g, 0, none⟩) (((mkB bl k).map Int.ofNat).length + 1) cap) ((mkB bl (k + 1)).map Int.ofNat).length (((mkB bl (k + 1)).map Int.ofNat).flatMap encI) := by
          rw [HS.out, List.length_append, List.flatMap_append]; exact hown7
        have hlm : ((mkB bl k).map Int.ofNat).length = (mkB bl k).length := List.length_map ..
        rw [hlm] at hown8
        have HO8 := Lib.hid hown8; have HB7 := Lib.hid hb7
        clear hown7 hown8 hg7 hb7 hlm
        go_roundw
        case rel => exact ⟨k + 1, by go_num, by omega, HO8.out, HB7.out⟩
        case measure => simp [intOf]; omega
      · have hb : decide ((0 : Int) < (x3 : Int)) = false := by simp; omega
        have h3I : ¬ (0 : Int) < (x3 : Int) := by omega
        have hs' : (mkB bl (k + 1)) = (mkB bl k) := by rw [HSU.out, if_neg h0, List.append_nil]
        have HS := Lib.hid hs'
        clear hs'
        go_wp2_with fail
        go_roundw
        case rel => exact ⟨k + 1, by go_num, by omega, by rw [HS.out]; exact HOWN.out.alloc _, HB.out.alloc hsz _⟩
        case measure => simp [intOf]; omega
    · obtain rfl : m = k := by omega
      go_wp2_with fail
      go_ret
      exact ⟨_, rfl, HOWN.out, HB.out⟩

theorem flN_slAt (h : Rws w0 w (PR K n el pl inn bl ++ rest)) : SlAt encI 1 w (some ⟨K.ib, 0, none⟩) K.ib 0 (flN n inn) :=
  ⟨fun _ => rfl, fun _ => h.pLts.2.2.2.1, fun i y hy j u hu => by
    have hi := (List.getElem?_eq_some_iff.1 hy).1
    rw [flN_len] at hi
    have hj := (List.getElem?_eq_some_iff.1 hu).1
    rw [lenI] at hj
    obtain rfl : j = 0 := by omega
    rw [flN_get _ hi] at hy
    obtain rfl := Option.some.inj hy
    simp only [encI, List.getElem?_cons_zero, Option.some.injEq] at hu
    rw [← hu, Nat.zero_add, Nat.mul_one, Nat.add_zero]
    exact h.pIn hi⟩

set_option maxRecDepth 100000 in
theorem parClasses_any (h : PW w0 w K n el pl inn bl rest) :
    Calls Tryz.prog 92 #[.pointer (some ⟨K.pb, 0, none⟩)] w (OwnI w (canon (flN n inn))) := by
  obtain ⟨c0, c1, c2, c3⟩ := h.rws.pCells
  have l0 := h.rws.pLts.1
  have hn := h.n1
  have hfew := h.pi.few
  have hC := canon_any (c := K.ci) (flN_slAt h.rws) (by rw [flN_len]; omega) (fun x hx => by
    obtain ⟨i, hi, rfl⟩ := List.mem_map.1 (show x ∈ (List.range n).map (fun i => (inn i : Int)) from hx)
    have := h.pi.lt (e := i) (by simpa using hi)
    exact WalkArith.wf_i64 (by omega))
  rw [flN_len] at hC
  have HC := Lib.hid hC
  have HL := Lib.hid (show (canon (flN n inn)).length = n by rw [canon_len, flN_len])
  clear h hC c0 c1 c3
  go_enter Tryz.func92, Tryz.ntmps92
  go_wp2_with fail
  refine (parOwn_any w K.pb).mono ?_
  rintro e w1 ⟨rfl, rfl⟩
  go_wp2_with fail
  refine HC.out.mono ?_
  rintro e w1 ⟨v, rfl, hown, hB⟩
  have hown2 : w1.ownsRow w.heap.size 3 1 v (canon (flN n inn)).length ((canon (flN n inn)).flatMap encI) := by rw [HL.out]; exact hown
  have HO := Lib.hid hown2; have HB := Lib.hid hB
  clear hown hown2 hB
  go_wp2_with fail
  go_ret
  exact ⟨v, rfl, HO.out, HB.out⟩
end
end Go.Proofs.YtopnedihknjjfaaGreatDoor

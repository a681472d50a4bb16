/-
  semblanceref7.Together, Classes; system.Together.
-/
import Derived.Test.YtfjgedninbpjpaaDoorForms
namespace Go.Proofs.YtfjgedninbpjpaaDoor
open Go.RowKit Pl Go.Maps

set_option maxRecDepth 100000 in
theorem refTogether_any {w : World} {a : Option Addr} {b off c : Nat} {xs : List Int} (hS : SlAt encI 1 w a b off xs) (hn : xs.length ≤ 1000000) :
    Calls Tryd.prog 45 #[.slice a xs.length c] w fun e w' => e = .returned (.int .i64 ((dist xs).length : Int)) ∧ Below w.heap.size w w' := by
  have hq := refCanon_any (c := c) hS hn
  have HQ := Lib.hid hq
  clear hS hq
  go_enter Tryd.func45, Tryd.ntmps45
  go_wp2_with fail
  refine HQ.out.mono ?_
  rintro e w1 ⟨v, rfl, hown, hB⟩
  rw [← canon_len xs] at hown
  obtain ⟨a1, c1, b1, rfl, _, _, h1, _⟩ := slAt_own lenI hown
  obtain ⟨n, hnn⟩ : ∃ n, n = (canon xs).length := ⟨_, rfl⟩
  rw [← hnn]
  have hn' : n ≤ 1000000 := by rw [hnn, canon_len]; exact hn
  have H1 := Lib.hid h1; have HB := Lib.hid hB; have HNN := Lib.hid hnn
  clear hown hB h1 HQ hn hnn
  go_wp2_with fail
  go_loopw [4, 5] (fun v4 v5 w2 => ∃ k : Nat, k ≤ n ∧ v5 = .int .i64 k ∧ v4 = .int .i64 (nUp xs k : Int) ∧ w2 = w1)
    (fun _ v5 _ => n - (intOf v5).toNat)
  case atStart => exact ⟨0, Nat.zero_le _, rfl, by simp [nUp, dist], rfl⟩
  case round =>
    obtain ⟨k, hk, rfl, rfl, rfl⟩ := hrel
    have hup := nUp_le xs k
    obtain ⟨m, hm⟩ : ∃ m, m = nUp xs k := ⟨_, rfl⟩
    rw [← hm] at hup ⊢
    have HM := Lib.hid hm
    clear hm
    by_cases hlt : k < n
    · obtain ⟨y, hy⟩ := getElem?_of_lt (xs := canon xs) (i := k) (by rw [← HNN.out]; exact hlt)
      obtain rfl := H1.out.ad (by rw [← HNN.out]; omega)
      have hc := H1.out.ci hy
      simp only [Nat.zero_add] at hc
      have hkn : (k : Int) < (n : Int) := by omega
      rw [canon_get] at hy
      obtain ⟨x, hx, rfl⟩ := Option.map_eq_some_iff.1 hy
      have hs := nUp_canon hx
      have hb : ((dist xs).idxOf x : Int) ≤ 1000000 := by
        have h1 := dist_len xs
        have h2 : (dist xs).idxOf x ≤ (dist xs).length := List.idxOf_le_length
        have h3 := HNN.out
        rw [canon_len] at h3
        omega
      obtain ⟨z, hz⟩ : ∃ z : Int, z = ((dist xs).idxOf x : Int) := ⟨_, rfl⟩
      have hz0 : 0 ≤ z := by omega
      rw [← hz] at hc hs hb
      rw [← HM.out] at hs
      have HS := Lib.hid hs
      clear hy hx hs hz
      by_cases hle : (m : Int) ≤ z
      · go_wp2
        go_roundw
        case rel => exact ⟨k + 1, by omega, by go_num, by have := HS.out; rw [if_pos hle] at this; rw [this], by first | rfl | trivial⟩
        case measure => simp [intOf]; omega
      · go_wp2
        go_roundw
        case rel => exact ⟨k + 1, by omega, by go_num, by have := HS.out; rw [if_neg hle] at this; rw [this], by first | rfl | trivial⟩
        case measure => simp [intOf]; omega
    · obtain rfl : k = n := by omega
      have hmm : m = (dist xs).length := by
        have h3 := HNN.out; rw [canon_len] at h3
        rw [HM.out]; unfold nUp; rw [List.take_of_length_le (by omega)]
      have HMM := Lib.hid hmm
      clear hmm
      go_wp2
      go_ret
      exact ⟨ret_i (a := (m : Int)) (by rw [HMM.out]), HB.out⟩

/-- The set that Together keeps. -/
structure SetD (D : DataW Unit) (s : List Int) : Prop where
  has : ∀ x : Int, Maps.has D (.int .i64 x) = decide (x ∈ s)
  len : Maps.size D = s.length
theorem SetD.nil : SetD (.map []) [] := ⟨fun x => by simp [Maps.has], rfl⟩
theorem SetD.add {D : DataW Unit} {s : List Int} {x : Int} (h : SetD D s) (ht : Tidy D) : SetD (D.put (.int .i64 x) (.agg [])) (addN s x) where
  has y := by
    have hm : (y ∈ addN s x) ↔ y ∈ s ∨ y = x := mem_addN
    by_cases e : y = x
    · subst e; rw [has_put_same (k := .int .i64 y) ht.isMap trivial]; simp [hm]
    · rw [has_put_other (by intro h; cases h; exact e rfl), h.has]; simp [hm, e]
  len := by
    rw [size_put ht, h.has]
    unfold addN
    by_cases hx : x ∈ s
    · simp [hx, h.len]
    · simp [hx, h.len]

set_option maxRecDepth 100000 in
set_option maxHeartbeats 1000000 in
theorem together_any {w : World} {a : Option Addr} {b off c : Nat} {xs : List Int} (hS : SlAt encI 1 w a b off xs) (hn : xs.length ≤ 1000000) (hwf : ∀ x ∈ xs, (Lit.int .i64 x).wf = true) :
    Calls Tryd.prog 44 #[.slice a xs.length c] w fun e w' => e = .returned (.int .i64 ((dist xs).length : Int)) ∧ Below w.heap.size w w' := by
  obtain ⟨n, hnn⟩ : ∃ n, n = xs.length := ⟨_, rfl⟩
  rw [← hnn] at hn ⊢
  have hmm := @run_makeMap Tryd.prog
  have HS := Lib.hid hS; have HWF := Lib.hid hwf; have HNN := Lib.hid hnn
  clear hS hwf hnn
  go_enter Tryd.func44, Tryd.ntmps44
  go_wp2_with fail
  go_loopw [5, 9] (fun _ i wr => ∃ (k : Nat) (D : DataW Unit), k ≤ n ∧ i = .int .i64 k ∧ SetD D (dist (xs.take k)) ∧ wr.ownsMap Tryd.prog 3 unitElem w.heap.size k D ∧ Below w.heap.size w wr)
    (fun _ i _ => n - (intOf i).toNat)
  case atStart => exact ⟨0, .map [], Nat.zero_le _, rfl, by simpa [dist] using SetD.nil, World.ownsMap_made _ _ _ _, (Below.refl _ _).alloc (Nat.le_refl _) _⟩
  case round =>
    obtain ⟨k, D, hk, rfl, hmd, hown, hB⟩ := hrel
    have hsz := hB.size
    have hmlt := hown.lt
    have HMD := Lib.hid hmd; have HOWN := Lib.hid hown; have HB := Lib.hid hB
    clear hmd hown hB
    by_cases hlt : k < n
    · obtain ⟨x, hx⟩ := getElem?_of_lt (xs := xs) (i := k) (by have := HNN.out; omega)
      obtain rfl := HS.out.ad (by have := HNN.out; omega)
      have hcx := (HS.out.below HB.out (Nat.le_refl _)).ci hx
      have hkey := keyOf_int_mk Tryd.underlying3 (HWF.out x (List.mem_of_getElem? hx))
      have hkn : (k : Int) < (n : Int) := by omega
      have HX := Lib.hid hx
      clear hx
      go_wp2_with (at_mapUpdate; refine wpList_mapUpdate_own _ rfl _ _ _ 108 rfl 3 109 lawInt Tryd.underlying108 _ w.heap.size k D rfl HOWN.out (by unfold maxLen; omega) _ _ _ rfl rfl hkey _ [] unitElem_mk ?_; intro w1 hown1 hgrow1)
      have hB1 := HB.out.grown hgrow1 hsz (fun j hj => by cases hj; exact Nat.le_refl _)
      have hmd1 := HMD.out.add (x := x) (HOWN.out.tidy lawInt)
      rw [← dist_snoc, ← take_snoc HX.out] at hmd1
      have HB1 := Lib.hid hB1; have HMD1 := Lib.hid hmd1; have HOWN1 := Lib.hid hown1
      clear hB1 hmd1 hown1 hgrow1
      go_roundw
      case rel => exact ⟨k + 1, _, by omega, by go_num, HMD1.out, HOWN1.out, HB1.out⟩
      case measure => simp [intOf]; omega
    · obtain rfl : k = n := by omega
      have hml := HMD.out.len
      rw [List.take_of_length_le (by have := HNN.out; omega)] at hml
      have HML := Lib.hid hml
      clear hml
      go_wp2_with (at_len; refine wpList_len_own _ rfl _ 108 rfl 3 109 Tryd.underlying108 _ w.heap.size k D rfl HOWN.out ?_; rw [HML.out])
      go_ret
      exact ⟨rfl, HB.out⟩


set_option maxRecDepth 100000 in
theorem refClasses_any {w : World} {a : Option Addr} {b off c : Nat} {l : List Int} (st lb s0 : Int) (ev : Value) (hS : SlAt encI 1 w a b off l) (hn : l.length ≤ 1000000) :
    Calls Tryd.prog 43 #[.agg #[.int .i64 st, .int .i64 lb, .int .i64 s0, ev], .slice a l.length c] w fun e w' => e = .returned (.bool (clB st l)) ∧ Below w.heap.size w w' := by
  obtain ⟨n, hnn⟩ : ∃ n, n = l.length := ⟨_, rfl⟩
  have HS := Lib.hid hS; have HNN := Lib.hid hnn
  have hcl : clB st l = (decide ((n : Int) = st) && decide (l = canon l)) := by unfold clB; rw [hnn]
  have HCL := Lib.hid hcl
  rw [← hnn] at hn ⊢
  clear hS hnn hcl
  have hB0 := (Below.refl w.heap.size w).alloc (Nat.le_refl _) (Obj.cells #[.int .i64 st, .int .i64 lb, .int .i64 s0, ev] 24)
  have HB0 := Lib.hid hB0
  clear hB0
  by_cases hl : (n : Int) = st
  · subst hl
    have hb : ((n : Int) != (n : Int)) = false := by simp
    go_enter Tryd.func43, Tryd.ntmps43
    go_wp2_with fail
    go_loopw [5, 6] (fun v5 v6 w2 => ∃ k : Nat, k ≤ n ∧ v6 = .int .i64 k ∧ v5 = .int .i64 (nUp l k : Int) ∧ canon (l.take k) = l.take k ∧ w2 = w.alloc (Obj.cells #[.int .i64 n, .int .i64 lb, .int .i64 s0, ev] 24))
      (fun _ v6 _ => n - (intOf v6).toNat)
    case atStart => exact ⟨0, Nat.zero_le _, rfl, by simp [nUp, dist], by simp [canon], rfl⟩
    case round =>
      obtain ⟨k, hk, rfl, rfl, hcn, rfl⟩ := hrel
      have hup := nUp_le l k
      have HC := Lib.hid hcn
      obtain ⟨m, hm⟩ : ∃ m, m = nUp l k := ⟨_, rfl⟩
      rw [← hm] at hup ⊢
      have HM := Lib.hid hm
      clear hm hcn
      by_cases hlt : k < n
      · obtain ⟨x, hx⟩ := getElem?_of_lt (xs := l) (i := k) (by have := HNN.out; omega)
        obtain rfl := HS.out.ad (by have := HNN.out; omega)
        have hcx := (HS.out.below HB0.out (Nat.le_refl _)).ci hx
        have hkn : (k : Int) < (n : Int) := by omega
        have HX := Lib.hid hx
        clear hx
        by_cases h0 : x < 0
        · go_wp2
          go_ret
          have := form_no HX.out (.inl h0)
          exact ⟨by rw [HCL.out]; simp [Ne.symm this], HB0.out⟩
        · by_cases h1 : (m : Int) < x
          · go_wp2
            go_ret
            have := form_no HX.out (.inr (by rw [← HM.out]; exact h1))
            exact ⟨by rw [HCL.out]; simp [Ne.symm this], HB0.out⟩
          · by_cases h2 : x = (m : Int)
            · subst h2
              have hb2 : ((m : Int) == (m : Int)) = true := by simp
              go_wp2
              obtain ⟨f1, f2⟩ := form_new HX.out HC.out (by rw [← HM.out])
              have F1 := Lib.hid f1; have F2 := Lib.hid f2
              clear f1 f2
              go_roundw
              case rel => exact ⟨k + 1, by omega, by go_num, by rw [F2.out, ← HM.out]; go_num, F1.out, by first | rfl | trivial⟩
              case measure => simp [intOf]; omega
            · have hb2 : (x == (m : Int)) = false := by simp [h2]
              go_wp2
              obtain ⟨f1, f2⟩ := form_old HX.out HC.out (by omega) (by rw [← HM.out]; omega)
              have F1 := Lib.hid f1; have F2 := Lib.hid f2
              clear f1 f2
              go_roundw
              case rel => exact ⟨k + 1, by omega, by go_num, by rw [F2.out, ← HM.out], F1.out, by first | rfl | trivial⟩
              case measure => simp [intOf]; omega
      · obtain rfl : k = n := by omega
        have hc := HC.out
        rw [List.take_of_length_le (by have := HNN.out; omega)] at hc
        have HC2 := Lib.hid hc
        clear hc
        go_wp2
        go_ret
        exact ⟨by rw [HCL.out, HC2.out]; simp, HB0.out⟩
  · have hb : ((n : Int) != st) = true := by simp [hl]
    go_enter Tryd.func43, Tryd.ntmps43
    go_wp2
    go_ret
    exact ⟨by rw [HCL.out]; simp [hl], HB0.out⟩
end Go.Proofs.YtfjgedninbpjpaaDoor

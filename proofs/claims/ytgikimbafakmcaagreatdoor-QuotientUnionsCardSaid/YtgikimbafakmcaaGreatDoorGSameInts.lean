/-
  Lemmas.
-/
import Derived.Test.YtgikimbafakmcaaGreatDoorGLaidQun
import Derived.Test.YtgikimbafakmcaaGreatDoorGGraphA
import Derived.Test.YtgikimbafakmcaaGreatDoorGPl6
import Derived.Deep.DeepMust
import Derived.Test.YtgikimbafakmcaaGreatDoorParG
import Derived.Deep.RegionWith
import Derived.Test.YtgikimbafakmcaaGreatDoorGParD
import Derived.Test.YtgikimbafakmcaaGreatDoorGOrder
import Derived.Test.YtgikimbafakmcaaGreatDoorGRws
set_option maxHeartbeats 4000000
set_option maxRecDepth 100000
namespace Go.Proofs.YtgikimbafakmcaaGreatDoor
open Go.RowKit Pl
set_option maxRecDepth 100000 in
theorem sameInts_any {a1 a2 : Option Addr} {b1 o1 c1 b2 o2 c2 : Nat} {xs ys : List Int} {w : World} (h1 : SlAt encI 1 w a1 b1 o1 xs) (h2 : SlAt encI 1 w a2 b2 o2 ys) (hx : xs.length <= 4611686018427387904) (hy : ys.length <= 4611686018427387904) :
    Calls Tryz.prog 77 #[.slice a1 xs.length c1, .slice a2 ys.length c2] w fun e w' => e = .returned (.bool (decide (xs = ys))) /\ ∃ n, w' = w.drewN n := by
  by_cases hl : xs.length = ys.length
  · have hlB : ((xs.length : Int) != (ys.length : Int)) = false := by simp [hl]
    have HL := Lib.hid hl; clear hl
    go_enter Tryz.func77, Tryz.ntmps77
    go_wp2
    go_loopw [5] (fun i wr => ∃ k m : Nat, k <= xs.length /\ i = .int .i64 k /\ (∀ j, j < k -> xs[j]? = ys[j]?) /\ wr = w.drewN m)
      (fun i _ => xs.length - (intOf i).toNat)
    case atStart => exact ⟨0, 0, Nat.zero_le _, rfl, by intro j hj; omega, rfl⟩
    case round =>
      obtain ⟨k, m, hk, rfl, heq, rfl⟩ := hrel
      have HE := Lib.hid heq; clear heq
      by_cases hlt : k < xs.length
      · have hlt2 : k < ys.length := by rw [<- HL.out]; exact hlt
        obtain ⟨x, hxk⟩ := getElem?_of_lt hlt
        obtain ⟨y, hyk⟩ := getElem?_of_lt hlt2
        obtain rfl := h1.ad (by omega)
        obtain rfl := h2.ad (by omega)
        have hc0 := h1.ci hxk
        have hc1 := h2.ci hyk
        have hi1 : (k : Int) < (xs.length : Int) := by omega
        have hi2 : (k : Int) < (ys.length : Int) := by omega
        have HX := Lib.hid hxk; have HY := Lib.hid hyk
        clear h1 h2 hxk hyk
        by_cases hxy : x = y
        · have hb : (x == y) = true := by simp [hxy]
          have HXY := Lib.hid hxy; clear hxy
          go_wp2_with fail
          go_quiet (fail)
          go_wp2
          go_roundw
          case rel => exact ⟨k + 1, _, by omega, by go_num, by
            intro j hj
            by_cases hjk : j = k
            · subst hjk; rw [HX.out, HY.out, HXY.out]
            · exact HE.out j (by omega), rfl⟩
          case measure => simp [intOf]; omega
        · have hb : (x == y) = false := by simp [hxy]
          have HXY := Lib.hid hxy; clear hxy
          go_wp2_with fail
          go_quiet (fail)
          go_wp2
          go_ret
          refine ⟨?_, _, World.drewN_drewN _ _ _⟩
          have : xs ≠ ys := fun e => HXY.out (by have h1 := HX.out; have h2 := HY.out; rw [e, h2] at h1; simpa using h1.symm)
          simp [this]
      · clear h1 h2
        have hkk : k = xs.length := by omega
        go_wp2
        go_ret
        refine ⟨?_, _, rfl⟩
        have : xs = ys := eq_upto HL.out (by rw [<- hkk]; exact HE.out)
        simp [this]
  · have hlB : ((xs.length : Int) != (ys.length : Int)) = true := by simp; omega
    go_enter Tryz.func77, Tryz.ntmps77
    go_wp2
    go_ret
    have : xs ≠ ys := fun e => hl (by rw [e])
    exact ⟨by simp [this], 0, rfl⟩
end Go.Proofs.YtgikimbafakmcaaGreatDoor
namespace Go.Proofs.YtgikimbafakmcaaGreatDoor
open Go.RowKit Pl Go.Maps
open Lib (hid)
structure SetD (D : DataW Unit) (s : List Int) : Prop where
  has : ∀ x : Int, Maps.has D (.int .i64 x) = decide (x ∈ s)
  len : Maps.size D = s.length
theorem SetD.nil : SetD (.map []) [] := ⟨fun x => by simp [Maps.has], rfl⟩
theorem SetD.add {D : DataW Unit} {s : List Int} {x : Int} (h : SetD D s) (ht : Tidy D) : SetD (D.put (.int .i64 x) (.agg [])) (addN s x) where
  has y := by
    have hm : (y ∈ addN s x) ↔ y ∈ s ∨ y = x := mem_addN
    by_cases e : y = x
    · subst e; rw [has_put_same (k := .int .i64 y) ht.isMap trivial]; simp [hm]
    · rw [has_put_other (by intro h; cases h; exact e rfl), h.has]; simp [hm, e]
  len := by
    rw [size_put ht, h.has]
    unfold addN
    by_cases hx : x ∈ s
    · simp [hx, h.len]
    · simp [hx, h.len]
theorem together_any {w : World} {a : Option Addr} {b off c : Nat} {xs : List Int} (hS : SlAt encI 1 w a b off xs) (hn : xs.length <= 1000000) (hwf : ∀ x ∈ xs, (Lit.int .i64 x).wf = true) :
    Calls Tryz.prog 170 #[.slice a xs.length c] w fun e w' => e = .returned (.int .i64 ((dist xs).length : Int)) /\ Below w.heap.size w w' := by
 obtain ⟨n, hnn⟩ : ∃ n, n = xs.length := ⟨_, rfl⟩
 rw [<- hnn] at hn ⊢
 have hmm := @run_makeMap Tryz.prog
 have HS := hid hS; have HWF := hid hwf; have HNN := hid hnn
 clear hS hwf hnn
 go_enter Tryz.func170, Tryz.ntmps170
 go_wp2_with fail
 go_loopw [5, 9] (fun _ i wr => ∃ (k : Nat) (D : DataW Unit), k <= n /\ i = .int .i64 k /\ SetD D (dist (xs.take k)) /\ wr.ownsMap Tryz.prog 3 unitElem w.heap.size k D /\ Below w.heap.size w wr)
   (fun _ i _ => n - (intOf i).toNat)
 case atStart => exact ⟨0, .map [], Nat.zero_le _, rfl, by simpa [dist] using SetD.nil, World.ownsMap_made _ _ _ _, (Below.refl _ _).alloc (Nat.le_refl _) _⟩
 case round => (
 obtain ⟨k, D, hk, rfl, hmd, hown, hB⟩ := hrel
 have hsz := hB.size
 have hmlt := hown.lt
 have HMD := hid hmd; have HOWN := hid hown; have HB := hid hB
 clear hmd hown hB
 by_cases hlt : k < n
 · (
 obtain ⟨x, hx⟩ := getElem?_of_lt (xs := xs) (i := k) (by have := HNN.out; omega)
 obtain rfl := HS.out.ad (by have := HNN.out; omega)
 have hcx := (HS.out.below HB.out (Nat.le_refl _)).ci hx
 have hkey := keyOf_int_mk Tryz.underlying3 (HWF.out x (List.mem_of_getElem? hx))
 have hkn : (k : Int) < (n : Int) := by omega
 have HX := hid hx
 clear hx
 go_wp2_with (at_mapUpdate; refine wpList_mapUpdate_own _ rfl _ _ _ 257 rfl 3 181 lawInt Tryz.underlying257 _ w.heap.size k D rfl HOWN.out (by unfold maxLen; omega) _ _ _ rfl rfl hkey _ [] unitElem_mk ?_; intro w1 hown1 hgrow1)
 have hB1 := HB.out.grown hgrow1 hsz (fun j hj => by cases hj; exact Nat.le_refl _)
 have hmd1 := HMD.out.add (x := x) (HOWN.out.tidy lawInt)
 rw [<- dist_snoc, <- take_snoc HX.out] at hmd1
 have HB1 := hid hB1; have HMD1 := hid hmd1; have HOWN1 := hid hown1
 clear hB1 hmd1 hown1 hgrow1
 go_roundw
 case rel => exact ⟨k + 1, _, by omega, by go_num, HMD1.out, HOWN1.out, HB1.out⟩
 case measure => simp [intOf]; omega)
 · (
 obtain rfl : k = n := by omega
 have hml := HMD.out.len
 rw [List.take_of_length_le (by have := HNN.out; omega)] at hml
 have HML := hid hml
 clear hml
 go_wp2_with (at_len; refine wpList_len_own _ rfl _ 257 rfl 3 181 Tryz.underlying257 _ w.heap.size k D rfl HOWN.out ?_; rw [HML.out])
 go_ret
 exact ⟨rfl, HB.out⟩))
end Go.Proofs.YtgikimbafakmcaaGreatDoor
namespace Go.Proofs.YtgikimbafakmcaaGreatDoor
open Go.RowKit Pl
open Lib (hid)
namespace Pl
def z0 : Nat -> Nat := fun _ => 0
theorem dist_zero : ∀ n : Nat, 0 < n -> dist (flN n z0) = [0]
  | 0, h => by omega
  | 1, _ => rfl
  | n + 2, _ => by
    have h := dist_zero (n + 1) (by omega)
    have e : flN (n + 2) z0 = flN (n + 1) z0 ++ [0] := by
      unfold flN fl z0; rw [List.range_succ (n := n + 1), List.map_append]; rfl
    rw [e, dist_snoc, h]; rfl
theorem canon_zero (n : Nat) : canon (flN n z0) = flN n z0 := by
 rcases Nat.eq_zero_or_pos n with rfl | h
 · rfl
 · unfold canon
   rw [dist_zero n h]
   unfold flN fl z0
   rw [List.map_map]; rfl
theorem PI.one (n : Nat) (h : 0 < n) : PI n id id z0 [(0, n, 0)] where
  hel i hi := ⟨hi, rfl⟩
  hpl e he := ⟨he, rfl⟩
  blk b x hx := by
    rcases b with _ | b
    · simp at hx; subst hx; simp; exact h
    · simp at hx
  hin e he := ⟨(0, n, 0), rfl, Nat.zero_le _, he⟩
  cov b x i hx _ _ := by
    rcases b with _ | b
    · rfl
    · simp at hx
theorem none_one (n : Nat) (z : Nat) : ¬ Mkd id z0 [(0, n, 0)] z := by
 rintro ⟨x, hx, h⟩
 simp [z0] at hx
 subst hx
 simp at h
end Pl
def plK (j : Nat) : Nat -> Nat := fun e => if e < j then e else 0
theorem plK_zero : plK 0 = z0 := by funext e; unfold plK z0; rw [if_neg (by omega)]
theorem plK_step (j : Nat) : upd (plK j) j j = plK (j + 1) := by
 funext e
 unfold upd plK
 by_cases h1 : e = j
 · rw [if_pos h1, if_pos (by omega), h1]
 · rw [if_neg h1]
   by_cases h2 : e < j
   · rw [if_pos h2, if_pos (by omega)]
   · rw [if_neg h2, if_neg (by omega)]
def PN (pb : Nat) (ea : Option Addr) (ec qb ib ci bb : Nat) (n j : Nat) (pl : Nat -> Nat) (x : B3) : List Rw :=
  [⟨209, 4, .slice (some ⟨pb, 0, none⟩) 1 1, 1, [.slice ea j ec, .slice (some ⟨qb, 0, none⟩) n n, .slice (some ⟨ib, 0, none⟩) n ci, .slice (some ⟨bb, 0, none⟩) 1 1]⟩,
   ⟨3, 1, .slice ea j ec, j, (flN j id).flatMap encI⟩,
   ⟨3, 1, .slice (some ⟨qb, 0, none⟩) n n, n, (flN n pl).flatMap encI⟩,
   ⟨3, 1, .slice (some ⟨ib, 0, none⟩) n ci, n, (flN n z0).flatMap encI⟩,
   ⟨237, 3, .slice (some ⟨bb, 0, none⟩) 1 1, 1, encT x⟩]
theorem flN_congr {n : Nat} {f g : Nat -> Nat} (h : ∀ i, i < n -> f i = g i) : flN n f = flN n g := by
 unfold flN fl
 apply List.map_congr_left
 intro i hi
 rw [h i (by simpa using hi)]
theorem flN_succ (j : Nat) (f : Nat -> Nat) : flN (j + 1) f = flN j f ++ [(f j : Int)] := by
 unfold flN fl; rw [List.range_succ, List.map_append]; rfl
theorem madeI (n : Nat) : (madeCells #[Value.int .i64 0] n).toList = (flN n z0).flatMap encI := by
 rw [toList_madeCells_one, flN_map]
 apply List.ext_getElem?
 intro i
 by_cases hi : i < n <;> simp [hi, z0]
section
variable {w0 w w1 w2 : World} {pb : Nat} {ea : Option Addr} {ec qb ib ci bb n j : Nat} {pl : Nat -> Nat} {x : B3} {rest : List Rw}
theorem Rws.nCells (h : Rws w0 w (PN pb ea ec qb ib ci bb n j pl x ++ rest)) :
    w.cell? ⟨pb, 0, none⟩ = some (.slice ea j ec) /\ w.cell? ⟨pb, 1, none⟩ = some (.slice (some ⟨qb, 0, none⟩) n n) /\ w.cell? ⟨pb, 2, none⟩ = some (.slice (some ⟨ib, 0, none⟩) n ci) /\ w.cell? ⟨pb, 3, none⟩ = some (.slice (some ⟨bb, 0, none⟩) 1 1) /\
    w.cell? ⟨bb, 0, none⟩ = some (.int .i64 x.1) /\ w.cell? ⟨bb, 1, none⟩ = some (.int .i64 x.2.1) /\ w.cell? ⟨bb, 2, none⟩ = some (.int .i64 x.2.2) :=
  ⟨h.cell (i := 0) rfl rfl, h.cell (i := 0) rfl rfl, h.cell (i := 0) rfl rfl, h.cell (i := 0) rfl rfl, h.cell (i := 4) rfl rfl, h.cell (i := 4) rfl rfl, h.cell (i := 4) rfl rfl⟩
theorem Rws.nLts (h : Rws w0 w (PN pb ea ec qb ib ci bb n j pl x ++ rest)) : pb < w.heap.size /\ qb < w.heap.size /\ ib < w.heap.size /\ bb < w.heap.size :=
  ⟨(h.lt (i := 0) rfl).2, (h.lt (i := 2) rfl).2, (h.lt (i := 3) rfl).2, (h.lt (i := 4) rfl).2⟩
theorem Rws.nFz (h : Rws w0 w (PN pb ea ec qb ib ci bb n j pl x ++ rest)) (k : Nat) : w.frozen? ⟨pb, k, none⟩ = false /\ w.frozen? ⟨qb, k, none⟩ = false /\ w.frozen? ⟨bb, k, none⟩ = false :=
  ⟨h.fz (i := 0) rfl k, h.fz (i := 2) rfl k, h.fz (i := 4) rfl k⟩
theorem Rws.nPl (h : Rws w0 w (PN pb ea ec qb ib ci bb n j pl x ++ rest)) {i : Nat} (hi : i < n) : w.cell? ⟨qb, i, none⟩ = some (.int .i64 (pl i : Int)) := h.cell (i := 2) rfl (flN_at _ hi)
theorem Rws.nIn (h : Rws w0 w (PN pb ea ec qb ib ci bb n j pl x ++ rest)) {i : Nat} (hi : i < n) : w.cell? ⟨ib, i, none⟩ = some (.int .i64 0) := h.cell (i := 3) rfl (flN_at z0 hi)
theorem Rws.nSetPl (h : Rws w0 w (PN pb ea ec qb ib ci bb n j pl x ++ rest)) (k v : Nat) : Rws w0 (w.setCell ⟨qb, k, none⟩ (.int .i64 (v : Int))) (PN pb ea ec qb ib ci bb n j (upd pl k v) x ++ rest) := by
 have := h.set 2 rfl k (.int .i64 (v : Int)); rw [flN_set] at this; exact this
theorem Rws.nSetBl (h : Rws w0 w (PN pb ea ec qb ib ci bb n j pl x ++ rest)) {y : B3} (k : Nat) (v : Value) (he : (encT x).set k v = encT y) : Rws w0 (w.setCell ⟨bb, k, none⟩ v) (PN pb ea ec qb ib ci bb n j pl y ++ rest) := by
 have := h.set 4 rfl k v; rw [he] at this; exact this
theorem Rws.nGrow (h : Rws w0 w (PN pb ea ec qb ib ci bb n j pl x ++ rest)) (hB2 : Below w.heap.size w w2) {g c : Nat} (ho : w1.ownsRow w0.heap.size 3 1 (.slice (some ⟨g, 0, none⟩) (j + 1) c) (j + 1) ((flN j id).flatMap encI ++ [.int .i64 (j : Int)]))
    (hg : w2.grownBy w1 (Value.slice ea j ec).ownBlock) (hh : (Value.slice ea j ec).ownBlock = some g ∨ w.heap.size <= g) :
    w1.cell? ⟨pb, 0, none⟩ = some (.slice ea j ec) /\ w1.frozen? ⟨pb, 0, none⟩ = false /\ pb < w1.heap.size /\
      Rws w0 (w1.setCell ⟨pb, 0, none⟩ (.slice (some ⟨g, 0, none⟩) (j + 1) c)) (PN pb (some ⟨g, 0, none⟩) c qb ib ci bb n (j + 1) pl x ++ rest) := by
 have hs := h.grown hB2 1 rfl ho hg (fun g' hg' => by simp only [Value.ownBlock, Option.some.injEq] at hg'; subst hg'; exact hh)
 have h2 := hs.set 0 rfl 0 (.slice (some ⟨g, 0, none⟩) (j + 1) c)
 refine ⟨hs.cell (i := 0) rfl rfl, hs.fz (i := 0) rfl 0, (hs.lt (i := 0) rfl).2, ?_⟩
 have e : (flN (j + 1) id).flatMap encI = (flN j id).flatMap encI ++ [.int .i64 (j : Int)] := by rw [flN_succ, List.flatMap_append]; rfl
 have e2 : PN pb (some ⟨g, 0, none⟩) c qb ib ci bb n (j + 1) pl x ++ rest = ((PN pb ea ec qb ib ci bb n j pl x ++ rest).set 1 ⟨3, 1, .slice (some ⟨g, 0, none⟩) (j + 1) c, j + 1, (flN j id).flatMap encI ++ [.int .i64 (j : Int)]⟩).set 0
     ⟨209, 4, .slice (some ⟨pb, 0, none⟩) 1 1, 1, [.slice (some ⟨g, 0, none⟩) (j + 1) c, .slice (some ⟨qb, 0, none⟩) n n, .slice (some ⟨ib, 0, none⟩) n ci, .slice (some ⟨bb, 0, none⟩) 1 1]⟩ := by
   unfold PN; rw [e]; rfl
 rw [e2]
 exact h2
end
def PO (pb qb ib ci n : Nat) : List Rw :=
  [⟨209, 4, .slice (some ⟨pb, 0, none⟩) 1 1, 1, [.slice none 0 0, .slice (some ⟨qb, 0, none⟩) n n, .slice (some ⟨ib, 0, none⟩) n ci, .slice none 0 0]⟩,
   ⟨3, 1, .slice (some ⟨qb, 0, none⟩) n n, n, (flN n z0).flatMap encI⟩,
   ⟨3, 1, .slice (some ⟨ib, 0, none⟩) n ci, n, (flN n z0).flatMap encI⟩]
theorem parOf_any {w0 w : World} {rest : List Rw} (h : Rws w0 w rest) {n : Nat} (hn0 : 0 < n) (hn : n <= 1000) {zb zc : Nat} (hS : SlAt encI 1 w (some ⟨zb, 0, none⟩) zb 0 (flN n z0)) :
    Calls Tryz.prog 154 #[.slice (some ⟨zb, 0, none⟩) n zc] w fun e w' => ∃ K : PK, e = .returned (.tuple #[.pointer (some ⟨K.pb, 0, none⟩), .nilIface]) /\ PW w0 w' K n id id z0 [(0, n, 0)] rest := by
 have hwf : ∀ x ∈ flN n z0, (Lit.int .i64 x).wf = true := fun x hx => by
   obtain ⟨i, _, rfl⟩ := List.mem_map.1 (show x ∈ (List.range n).map (fun i => (z0 i : Int)) from hx)
   exact WalkArith.wf_i64 (by unfold z0; omega)
 have HCA : Hid (∀ W, Below w.heap.size w W -> Calls Tryz.prog 132 #[.slice (some ⟨zb, 0, none⟩) n zc] W fun e w' => ∃ v, e = .returned v /\ w'.ownsRow W.heap.size 3 1 v n ((flN n z0).flatMap encI) /\ Below W.heap.size W w') := hid (fun W hW => by (
 have := canon_any (c := zc) (hS.below hW (Nat.le_refl _)) (by rw [flN_len]; omega) hwf
 rw [flN_len, canon_zero] at this
 exact this))
 have HTO : Hid (∀ W, Below w.heap.size w W -> Calls Tryz.prog 170 #[.slice (some ⟨zb, 0, none⟩) n zc] W fun e w' => e = .returned (.int .i64 1) /\ Below W.heap.size W w') := hid (fun W hW => by (
 have := together_any (c := zc) (hS.below hW (Nat.le_refl _)) (by rw [flN_len]; omega) hwf
 rw [flN_len, dist_zero n hn0] at this
 exact this))
 have hmk := run_make_row' (P := Tryz.prog) 58 3 (.int .i64 0) 8 Tryz.underlying58 (by kernel_rfl) rfl .i64 .i64 n (by omega) (by omega)
 have hmk1 : ∀ w, (Instr.makeSlice 207 (.int .i64 1) (.int .i64 1)).run Tryz.prog w = .ok (.slice (some ⟨w.heap.size, 0, none⟩) 1 1) (w.alloc (.cells #[.int .i64 0, .int .i64 0, .int .i64 0] 237)) := fun _ => by kernel_rfl
 have hn5 : decide ((1000 : Int) < (n : Int)) = false := by simp; omega
 have H := hid h
 clear h hS hwf
 go_enter Tryz.func154, Tryz.ntmps154
 go_upto_region 3 with fail
 go_cut [4] from 13 to 19 (fun s4 wx => ∃ pb qb ib ci : Nat, s4 = .pointer (some ⟨pb, 0, none⟩) /\ Rws w0 wx (PO pb qb ib ci n ++ rest) /\ Below w.heap.size w wx)
 case first => (
 go_region_with (go_at_call 132; (first | refine (HCA.out _ (Below.refl _ _).drew).mono ?_ | refine (HCA.out _ (((Below.refl _ _).alloc (Nat.le_refl _) _).drew)).mono ?_); rintro e w' ⟨v, rfl, hown, hB⟩; obtain ⟨g, cc, rfl, hg1, hg2⟩ := hown.form hn0)
 all_goals
   go_wp2_with fail
   go_meet
 · have h1 := (((H.out.drew.add hB hown).addLit (madeCells #[.int .i64 0] n) 3 (k := 1) (n := n) (by unfold maxLen; omega) (by simp [size_madeCells])).addLit #[.slice none 0 0, .slice (some ⟨w'.heap.size, 0, none⟩) n n, .slice (some ⟨g, 0, none⟩) n cc, .slice none 0 0] 209 (k := 4) (n := 1) (by unfold maxLen; omega) rfl)
   rw [madeI] at h1
   have hz : (w'.alloc (.cells (madeCells #[.int .i64 0] n) 3)).heap.size = w'.heap.size + 1 := by simp
   rw [hz] at h1
   exact ⟨_, _, _, _, rfl, h1, ((Below.refl w.heap.size w).drew.trans hB |>.alloc (by have := hB.size; exact this) _).alloc (by have := hB.size; simp; exact Nat.le_succ_of_le this) _⟩
 · have h1 := (((H.out.addLit (madeCells #[.int .i64 0] n) 3 (k := 1) (n := n) (by unfold maxLen; omega) (by simp [size_madeCells])).drew.add hB hown).addLit #[.slice none 0 0, .slice (some ⟨w.heap.size, 0, none⟩) n n, .slice (some ⟨g, 0, none⟩) n cc, .slice none 0 0] 209 (k := 4) (n := 1) (by unfold maxLen; omega) rfl)
   rw [madeI] at h1
   have hz : w.heap.size <= w'.heap.size := by have := hB.size; simp at this; omega
   exact ⟨_, _, _, _, rfl, h1.perm (.cons _ (.swap _ _ _)), (((Below.refl w.heap.size w).alloc (Nat.le_refl _) _).drew.trans (hB.mono (by simp))).alloc hz _⟩)
 case rest => (
 obtain ⟨pb, qb, ib, ci, rfl, hrw, hbw⟩ := hcut
 have hrw1 : Rws w0 wc (⟨209, 4, .slice (some ⟨pb, 0, none⟩) 1 1, 1, [.slice none 0 0, .slice (some ⟨qb, 0, none⟩) n n, .slice (some ⟨ib, 0, none⟩) n ci, .slice none 0 0]⟩ :: ⟨3, 1, .slice none 0 0, 0, []⟩ :: ⟨3, 1, .slice (some ⟨qb, 0, none⟩) n n, n, (flN n z0).flatMap encI⟩ :: ⟨3, 1, .slice (some ⟨ib, 0, none⟩) n ci, n, (flN n z0).flatMap encI⟩ :: rest) :=
   (hrw.addNil 3 1).perm (.swap _ _ _)
 have HT := hid (HTO.out wc hbw)
 have HR := hid hrw1
 clear hrw hrw1 hbw HTO HCA hmk hn5
 go_wp2_with fail
 refine HT.out.mono ?_
 rintro e w1 ⟨rfl, hB1⟩
 have h1 := HR.out.call hB1
 have c3 := h1.cell (i := 0) rfl (j := 3) rfl
 have f3 := h1.fz (i := 0) rfl 3
 have l0 := (h1.lt (i := 0) rfl).2
 have h2 := (h1.set 0 rfl 3 (.slice (some ⟨w1.heap.size, 0, none⟩) 1 1)).addLit #[.int .i64 0, .int .i64 0, .int .i64 0] 237 (k := 3) (n := 1) (by unfold maxLen; omega) rfl
 rw [size_setCell] at h2
 have h3 : Rws w0 ((w1.setCell ⟨pb, 3, none⟩ (.slice (some ⟨w1.heap.size, 0, none⟩) 1 1)).alloc (.cells #[.int .i64 0, .int .i64 0, .int .i64 0] 237)) (PN pb none 0 qb ib ci w1.heap.size n 0 z0 (0, 0, 0) ++ rest) :=
   h2.perm (List.perm_middle (l₁ := [_, _, _, _])).symm
 have H3 := hid h3
 clear hB1 h1 h2 h3 HT HR
 go_upto_region 5 with fail
 obtain ⟨U, hU⟩ : ∃ U, U = (w1.setCell ⟨pb, 3, none⟩ (.slice (some ⟨w1.heap.size, 0, none⟩) 1 1)).alloc (.cells #[.int .i64 0, .int .i64 0, .int .i64 0] 237) := ⟨_, rfl⟩
 obtain ⟨bb, hbb⟩ : ∃ bb, bb = w1.heap.size := ⟨_, rfl⟩
 rw [<- hU] at H3 ⊢
 rw [<- hbb] at H3
 clear hU hbb c3 f3 l0
 obtain ⟨c0, c1, c2, c3, d0, d1, d2⟩ := H3.out.nCells
 obtain ⟨l0, l1, l2, l3⟩ := H3.out.nLts
 go_wp2_with fail
 clear c0 c1 c2 c3 d0 d1 d2 l0 l1 l2 l3
 go_loopw [5, 6, 7, 31] (fun _ _ _ v31 wr => ∃ (k : Nat) (ea : Option Addr) (ec : Nat), v31 = .int .i64 k /\ ((k = 0 /\ Rws w0 wr (PN pb none 0 qb ib ci bb n 0 z0 (0, 0, 0) ++ rest)) ∨ (k = 1 /\ Rws w0 wr (PN pb ea ec qb ib ci bb n n id (0, n, 0) ++ rest)))) (fun _ _ _ v31 _ => 1 - (intOf v31).toNat)
 case atStart => exact ⟨0, none, 0, rfl, .inl ⟨rfl, H3.out⟩⟩
 case round => (
 obtain ⟨k, ea, ec, rfl, hcase⟩ := hrel
 clear H3
 rcases hcase with ⟨rfl, hrw⟩ | ⟨rfl, hrw⟩
 · (
 have HR := hid hrw
 obtain ⟨c0, c1, c2, c3, d0, d1, d2⟩ := hrw.nCells
 obtain ⟨l0, l1, l2, l3⟩ := hrw.nLts
 have f0 := (hrw.nFz 0).2.2
 simp only at d0 d1 d2
 clear hrw
 go_wp2_with fail
 go_region
 have h1 := hid ((HR.out.nSetBl (y := (0, 0, 0)) 0 (.int .i64 0) rfl).drew)
 obtain ⟨V, hV⟩ : ∃ V, V = (wr.setCell ⟨bb, 0, none⟩ (.int .i64 0)).drew := ⟨_, rfl⟩
 rw [<- hV] at h1 ⊢
 clear hV HR c0 c1 c2 c3 d0 d1 d2 l0 l1 l2 l3 f0
 obtain ⟨c0, c1, c2, c3, d0, d1, d2⟩ := h1.out.nCells
 obtain ⟨l0, l1, l2, l3⟩ := h1.out.nLts
 go_wp2_with fail
 clear c0 c1 c2 c3 d0 d1 d2 l0 l1 l2 l3
 go_loopw [6, 7, 51] (fun _ _ v51 wr => ∃ (j : Nat) (ea : Option Addr) (ec : Nat), v51 = .int .i64 j /\ j <= n /\ Rws w0 wr (PN pb ea ec qb ib ci bb n j (plK j) (0, 0, 0) ++ rest)) (fun _ _ v51 _ => n - (intOf v51).toNat)
 case atStart => exact ⟨0, none, 0, rfl, Nat.zero_le _, by rw [plK_zero]; exact h1.out⟩
 case round => (
 obtain ⟨j, ea, ec, rfl, hj, hrw⟩ := hrel
 have HR := hid hrw
 clear h1
 obtain ⟨c0, c1, c2, c3, d0, d1, d2⟩ := hrw.nCells
 obtain ⟨l0, l1, l2, l3⟩ := hrw.nLts
 simp only at d0 d1 d2
 by_cases hjn : j < n
 · (
 have hjI : (j : Int) < (n : Int) := by omega
 have e0 := hrw.nIn hjn
 have e1 := hrw.nPl hjn
 have f1 := (hrw.nFz j).2.1
 have h2 := hrw.nSetPl j j
 rw [plK_step] at h2
 have H2 := hid h2.drew
 obtain ⟨pv, hpv⟩ : ∃ pv, pv = plK j j := ⟨_, rfl⟩
 rw [<- hpv] at e1
 clear h2 hrw hpv d0 d1 d2
 go_wp2_with fail
 go_region
 obtain ⟨V2, hV2⟩ : ∃ V2, V2 = (wr.setCell ⟨qb, j, none⟩ (.int .i64 j)).drew := ⟨_, rfl⟩
 rw [<- hV2] at H2 ⊢
 clear hV2 HR c0 c1 c2 c3 l0 l1 l2 l3 e0 e1 f1
 obtain ⟨c0, c1, c2, c3, d0, d1, d2⟩ := H2.out.nCells
 obtain ⟨l0, l1, l2, l3⟩ := H2.out.nLts
 have hown0 := (H2.out.alloc (.cells #[.int .i64 (j : Int)] 3)).get (i := 1) rfl
 dsimp only at hown0
 have HOWN := hid hown0
 have HBU := hid ((Below.refl V2.heap.size V2).alloc (Nat.le_refl _) (.cells #[.int .i64 (j : Int)] 3))
 have hlo := H2.out.bel.size
 clear hown0 c1 c2 c3 d0 d1 d2 l1 l2 l3
 go_wp2_with (at_builtin; refine wpList_lie rfl _ _ _ rfl rowI (base := w0.heap.size) (by simp; omega) rfl HOWN.out ⟨V2.heap.size, 0, none⟩ 1 1 [.int .i64 (j : Int)] rfl rfl (cells1 (by simp [go_sem])) (by simp [Value.oneCell']) (by decide) (by omega) (by unfold maxLen; omega) V2.heap.size (by simp) ?_; intro g cap w7 hown7 hg7 hl7 hlt7; obtain ⟨q0, q1, q2, q3⟩ := H2.out.nGrow HBU.out hown7 hg7 hl7)
 have HZ := hid q3
 clear q0 q1 q2 q3 hown7 hg7 hl7 hlt7 c0 l0 hlo HOWN HBU H2
 go_roundw
 case rel => exact ⟨j + 1, _, _, by go_num, by omega, HZ.out⟩
 case measure => simp [intOf]; omega)
 · (
 obtain rfl : j = n := by omega
 have f1 := (hrw.nFz 1).2.2
 have e1 : Rws w0 wr (PN pb ea ec qb ib ci bb j j id (0, 0, 0) ++ rest) := by (
 have : flN j (plK j) = flN j id := flN_congr (fun i hi => if_pos hi)
 unfold PN at hrw ⊢
 rw [this] at hrw
 exact hrw)
 have H2 := hid ((e1.nSetBl (y := (0, j, 0)) 1 (.int .i64 (j : Int)) rfl).drew)
 clear hrw e1 HR
 go_wp2_with fail
 go_region
 go_wp2_with fail
 go_roundw
 case rel => exact ⟨1, ea, ec, by go_num, .inr ⟨rfl, H2.out⟩⟩
 case measure => simp [intOf])))
 · (
 have HR := hid hrw
 clear hrw
 obtain ⟨g, c, hv, _⟩ := HR.out.form (i := 1) rfl hn0
 simp only [Value.slice.injEq, true_and] at hv
 obtain ⟨rfl, rfl⟩ := hv
 go_wp2_with fail
 go_ret2
 exact ⟨⟨pb, g, qb, ib, bb, ec, n, ci, 1⟩, rfl, HR.out, PI.one n hn0, hn⟩)))
end Go.Proofs.YtgikimbafakmcaaGreatDoor
namespace Go.Proofs.YtgikimbafakmcaaGreatDoor
open Go.RowKit Pl
open Lib (hid)
def ParZ (w : World) (pb : Nat) : Prop := ∃ qb bb, ∃ (ia : Option Addr) (ic : Nat), w.heap[pb]? = some (.cells #[.slice none 0 0, .slice (some ⟨qb, 0, none⟩) 0 0, .slice ia 0 ic, .slice (some ⟨bb, 0, none⟩) 0 0] 209 (0, 0))
theorem ParZ.below {w w' : World} {pb : Nat} (h : ParZ w pb) (hB : Below w.heap.size w w') : ParZ w' pb := by
 obtain ⟨qb, bb, ia, ic, h⟩ := h
 exact ⟨qb, bb, ia, ic, by rw [hB.block _ (Array.getElem?_eq_some_iff.1 h).1]; exact h⟩
theorem parOf_zero {w : World} {zb zc : Nat} :
    Calls Tryz.prog 154 #[.slice (some ⟨zb, 0, none⟩) 0 zc] w fun e w' => ∃ pb, e = .returned (.tuple #[.pointer (some ⟨pb, 0, none⟩), .nilIface]) /\ ParZ w' pb /\ Below w.heap.size w w' /\ w.heap.size <= pb := by
 have HCA : Hid (∀ W, Calls Tryz.prog 132 #[.slice (some ⟨zb, 0, none⟩) 0 zc] W fun e w' => ∃ v, e = .returned v /\ w'.ownsRow W.heap.size 3 1 v 0 [] /\ Below W.heap.size W w') := hid (fun W => by
   have := canon_any (xs := []) (a := some ⟨zb, 0, none⟩) (c := zc) (w := W) (b := 0) (off := 0) (slAt_nil _ _ _ _) (by simp) (by simp)
   exact this)
 have HTO : Hid (∀ W, Calls Tryz.prog 170 #[.slice (some ⟨zb, 0, none⟩) 0 zc] W fun e w' => e = .returned (.int .i64 0) /\ Below W.heap.size W w') := hid (fun W => by
   have := together_any (xs := []) (a := some ⟨zb, 0, none⟩) (c := zc) (w := W) (b := 0) (off := 0) (slAt_nil _ _ _ _) (by simp) (by simp)
   exact this)
 have hmk : ∀ w, (Instr.makeSlice 58 (.int .i64 0) (.int .i64 0)).run Tryz.prog w = .ok (.slice (some ⟨w.heap.size, 0, none⟩) 0 0) (w.alloc (.cells #[] 3)) := fun _ => by kernel_rfl
 have hmk1 : ∀ w, (Instr.makeSlice 207 (.int .i64 0) (.int .i64 0)).run Tryz.prog w = .ok (.slice (some ⟨w.heap.size, 0, none⟩) 0 0) (w.alloc (.cells #[] 237)) := fun _ => by kernel_rfl
 go_enter Tryz.func154, Tryz.ntmps154
 go_upto_region 3 with fail
 go_cut [4] from 13 to 19 (fun s4 wx => ∃ (pb qb : Nat) (ia : Option Addr) (ic : Nat), s4 = .pointer (some ⟨pb, 0, none⟩) /\ wx.heap[pb]? = some (.cells #[.slice none 0 0, .slice (some ⟨qb, 0, none⟩) 0 0, .slice ia 0 ic, .slice none 0 0] 209 (0, 0)) /\ Below w.heap.size w wx /\ w.heap.size <= pb)
 case first => (
 go_region_with (go_at_call 132; refine (HCA.out _).mono ?_; rintro e w' ⟨v, rfl, hown, hB⟩; obtain ⟨ia, ic, _, rfl, _, _, _, _⟩ := slAt_own (enc := encI) (xs := []) lenI hown)
 all_goals
   go_wp2_with fail
   go_meet
 · exact ⟨_, _, ia, ic, rfl, heap_alloc_at _ _ _ (by simp), ((Below.refl w.heap.size w).drew.trans hB |>.alloc (by have := hB.size; exact this) _).alloc (by have := hB.size; simp; exact Nat.le_succ_of_le this) _, by have := hB.size; simp at this; omega⟩
 · have hz : w.heap.size <= w'.heap.size := by have := hB.size; simp at this; omega
   exact ⟨_, _, ia, ic, rfl, heap_alloc_at _ _ _ (by simp), (((Below.refl w.heap.size w).alloc (Nat.le_refl _) _).drew.trans (hB.mono (by simp))).alloc hz _, hz⟩)
 case rest => (
 obtain ⟨pb, qb, ia, ic, rfl, hblk, hbw, hlo⟩ := hcut
 have HT := hid (HTO.out wc)
 have HBW := hid hbw
 clear hbw HTO HCA hmk
 go_wp2_with fail
 refine HT.out.mono ?_
 rintro e w1 ⟨rfl, hB1⟩
 have hb1 := (hB1.block pb (Array.getElem?_eq_some_iff.1 hblk).1).trans hblk
 have c3 : w1.cell? ⟨pb, 3, none⟩ = some (.slice none 0 0) := by simp [World.cell?, hb1]
 have f3 : w1.frozen? ⟨pb, 3, none⟩ = false := by simp [World.frozen?, hb1]
 have l0 := (Array.getElem?_eq_some_iff.1 hb1).1
 have h2 := heap_setCell_same w1 pb 3 _ _ (.slice (some ⟨w1.heap.size, 0, none⟩) 0 0) hb1
 have hz : w.heap.size <= w1.heap.size := by omega
 have HB1 := hid (((HBW.out.trans (hB1.mono HBW.out.size)).setCell (p := ⟨pb, 3, none⟩) hlo (.slice (some ⟨w1.heap.size, 0, none⟩) 0 0)).alloc (by rw [size_setCell]; exact hz) (.cells #[] 237))
 have h3 := (Below.heap_alloc (w1.setCell ⟨pb, 3, none⟩ (.slice (some ⟨w1.heap.size, 0, none⟩) 0 0)) (.cells #[] 237) pb (by rw [size_setCell]; exact l0)).trans h2
 have H3 := hid h3
 clear hblk hb1 h2 h3 hB1 HT HBW
 go_upto_region 5 with fail
 obtain ⟨U, hU⟩ : ∃ U, U = (w1.setCell ⟨pb, 3, none⟩ (.slice (some ⟨w1.heap.size, 0, none⟩) 0 0)).alloc (.cells #[] 237) := ⟨_, rfl⟩
 obtain ⟨bb, hbb⟩ : ∃ bb, bb = w1.heap.size := ⟨_, rfl⟩
 rw [<- hU] at H3 HB1 ⊢
 rw [<- hbb] at H3
 clear hU hbb c3 f3 l0
 have c3 : U.cell? ⟨pb, 3, none⟩ = some (.slice (some ⟨bb, 0, none⟩) 0 0) := by simp [World.cell?, H3.out]
 have l0 := (Array.getElem?_eq_some_iff.1 H3.out).1
 go_wp2_with fail
 refine wp_loop_rounds 1 ?_
 rw [rounds_succ]
 go_wp2_with fail
 go_ret2
 exact ⟨pb, rfl, ⟨qb, bb, ia, ic, H3.out⟩, HB1.out, hlo⟩)
theorem parNew_any {w0 w : World} {rest : List Rw} (h : Rws w0 w rest) {n : Nat} (hn0 : 0 < n) (hn : n <= 1000) :
    Calls Tryz.prog 123 #[.int .i64 n] w fun e w' => ∃ K : PK, e = .returned (.tuple #[.pointer (some ⟨K.pb, 0, none⟩), .nilIface]) /\ PW w0 w' K n id id z0 [(0, n, 0)] rest := by
 have hmk := run_make_row' (P := Tryz.prog) 58 3 (.int .i64 0) 8 Tryz.underlying58 (by kernel_rfl) rfl .i64 .i64 n (by omega) (by omega)
 have h1 : ¬ ((n : Int) < 0) := by omega
 have h2 : decide ((1000 : Int) < (n : Int)) = false := by simp; omega
 have HC : Hid (Calls Tryz.prog 154 #[.slice (some ⟨w.heap.size, 0, none⟩) n n] (w.alloc (.cells (madeCells #[.int .i64 0] n) 3)) fun e w' => ∃ K : PK, e = .returned (.tuple #[.pointer (some ⟨K.pb, 0, none⟩), .nilIface]) /\ PW w0 w' K n id id z0 [(0, n, 0)] rest) := by (
 have hs := h.addLit (madeCells #[.int .i64 0] n) 3 (k := 1) (n := n) (by unfold maxLen; omega) (by simp [size_madeCells])
 rw [madeI] at hs
 obtain ⟨za, zc, zb, hv, _, _, hsl, _⟩ := hs.sl (i := 0) (ys := flN n z0) rfl lenI (flN_len n z0).symm
 simp only [Value.slice.injEq] at hv
 obtain ⟨rfl, _, rfl⟩ := hv
 have := hsl.ad (by rw [flN_len]; exact hn0)
 simp only [Option.some.injEq, Addr.mk.injEq, and_true] at this
 subst this
 exact hid (parOf_any (hs.sub (List.sublist_cons_self _ _)) hn0 hn (zc := n) hsl))
 clear h
 go_enter Tryz.func123, Tryz.ntmps123
 go_wp2_with fail
 refine HC.out.mono ?_
 rintro e w1 ⟨K, rfl, hP⟩
 have HP := hid hP
 clear hP
 go_wp2_with fail
 go_ret2
 exact ⟨K, rfl, HP.out⟩
theorem parNew_zero (w : World) :
    Calls Tryz.prog 123 #[.int .i64 0] w fun e w' => ∃ pb, e = .returned (.tuple #[.pointer (some ⟨pb, 0, none⟩), .nilIface]) /\ ParZ w' pb /\ Below w.heap.size w w' /\ w.heap.size <= pb := by
 have hmk : ∀ w, (Instr.makeSlice 58 (.int .i64 0) (.int .i64 0)).run Tryz.prog w = .ok (.slice (some ⟨w.heap.size, 0, none⟩) 0 0) (w.alloc (.cells #[] 3)) := fun _ => by kernel_rfl
 go_enter Tryz.func123, Tryz.ntmps123
 go_wp2_with fail
 refine parOf_zero.mono ?_
 rintro e w1 ⟨pb, rfl, hP, hB, hlo⟩
 have HP := hid hP; have HB := hid (((Below.refl w.heap.size w).alloc (Nat.le_refl _) (.cells #[] 3)).trans (hB.mono (by simp)))
 have hl : w.heap.size <= pb := by simp at hlo; omega
 clear hP hB hlo
 go_wp2_with fail
 go_ret2
 exact ⟨pb, rfl, HP.out, HB.out, hl⟩
end Go.Proofs.YtgikimbafakmcaaGreatDoor
namespace Go.Proofs.YtgikimbafakmcaaGreatDoor
open Go.RowKit Pl
theorem cell_oth {w : World} {p : Addr} (a : Addr) (v : Value) (h : a.block ≠ p.block) : (w.setCell p v).cell? a = w.cell? a := World.cell?_of_block (Below.heap_setCell _ _ _ _ h)
structure SK where
  xb : Nat
  gb : Nat
  hb : Nat
  qb : Nat
  sa : Option Addr
  sc : Nat
  ta : Option Addr
  tc : Nat
def SR (S : SK) (pb n : Nat) (hp ga : Nat -> Nat) (sz : List Int) (tl : List Value) : List Rw :=
  [⟨167, 7, .slice (some ⟨S.xb, 0, none⟩) 1 1, 1, [.pointer (some ⟨S.gb, 0, none⟩), .pointer (some ⟨pb, 0, none⟩), .slice (some ⟨S.hb, 0, none⟩) n n, .slice S.sa sz.length S.sc, .slice none 0 0, .slice S.ta tl.length S.tc, .slice (some ⟨S.qb, 0, none⟩) n n]⟩,
   ⟨3, 1, .slice (some ⟨S.hb, 0, none⟩) n n, n, (flN n hp).flatMap encI⟩,
   ⟨3, 1, .slice (some ⟨S.qb, 0, none⟩) n n, n, (flN n ga).flatMap encI⟩,
   ⟨3, 1, .slice S.sa sz.length S.sc, sz.length, sz.flatMap encI⟩,
   ⟨58, 1, .slice S.ta tl.length S.tc, tl.length, tl.flatMap encV⟩]
structure SW (w0 w : World) (s : Lts) (K : PK) (S : SK) (n : Nat) (el pl inn : Nat -> Nat) (bl : List B3) (hp ga : Nat -> Nat) (sz : List Int) (tl : List Value) (rest : List Rw) : Prop where
  par : PW w0 w K n el pl inn bl (SR S K.pb n hp ga sz tl ++ rest)
  gr : GraphAt w0 S.gb s
  st : s.st = (n : Int)
section
variable {w0 w w' : World} {s : Lts} {K : PK} {S : SK} {n : Nat} {el pl inn : Nat -> Nat} {bl : List B3} {hp ga : Nat -> Nat} {sz : List Int} {tl : List Value} {rest : List Rw} {pb : Nat}
theorem SW.call (h : SW w0 w s K S n el pl inn bl hp ga sz tl rest) (hB : Below w.heap.size w w') : SW w0 w' s K S n el pl inn bl hp ga sz tl rest := ⟨⟨h.par.rws.call hB, h.par.pi, h.par.n1⟩, h.gr, h.st⟩
theorem SW.run (h : SW w0 w s K S n el pl inn bl hp ga sz tl rest) : Rws w0 w (SR S K.pb n hp ga sz tl ++ rest) := h.par.rws.sub (List.sublist_append_right _ _)
theorem Rws.sCells (h : Rws w0 w (SR S pb n hp ga sz tl ++ rest)) :
    w.cell? ⟨S.xb, 0, none⟩ = some (.pointer (some ⟨S.gb, 0, none⟩)) /\ w.cell? ⟨S.xb, 1, none⟩ = some (.pointer (some ⟨pb, 0, none⟩)) /\ w.cell? ⟨S.xb, 2, none⟩ = some (.slice (some ⟨S.hb, 0, none⟩) n n) /\ w.cell? ⟨S.xb, 3, none⟩ = some (.slice S.sa sz.length S.sc) /\
    w.cell? ⟨S.xb, 4, none⟩ = some (.slice none 0 0) /\ w.cell? ⟨S.xb, 5, none⟩ = some (.slice S.ta tl.length S.tc) /\ w.cell? ⟨S.xb, 6, none⟩ = some (.slice (some ⟨S.qb, 0, none⟩) n n) /\ S.xb < w.heap.size :=
  ⟨h.cell (i := 0) rfl rfl, h.cell (i := 0) rfl rfl, h.cell (i := 0) rfl rfl, h.cell (i := 0) rfl rfl, h.cell (i := 0) rfl rfl, h.cell (i := 0) rfl rfl, h.cell (i := 0) rfl rfl, (h.lt (i := 0) rfl).2⟩
theorem Rws.sLts (h : Rws w0 w (SR S pb n hp ga sz tl ++ rest)) : S.hb < w.heap.size /\ S.qb < w.heap.size := ⟨(h.lt (i := 1) rfl).2, (h.lt (i := 2) rfl).2⟩
theorem Rws.sHp (h : Rws w0 w (SR S pb n hp ga sz tl ++ rest)) {i : Nat} (hi : i < n) : w.cell? ⟨S.hb, i, none⟩ = some (.int .i64 (hp i : Int)) := h.cell (i := 1) rfl (flN_at _ hi)
theorem Rws.sGa (h : Rws w0 w (SR S pb n hp ga sz tl ++ rest)) {i : Nat} (hi : i < n) : w.cell? ⟨S.qb, i, none⟩ = some (.int .i64 (ga i : Int)) := h.cell (i := 2) rfl (flN_at _ hi)
theorem Rws.sFz (h : Rws w0 w (SR S pb n hp ga sz tl ++ rest)) (j : Nat) : w.frozen? ⟨S.xb, j, none⟩ = false /\ w.frozen? ⟨S.hb, j, none⟩ = false /\ w.frozen? ⟨S.qb, j, none⟩ = false :=
  ⟨h.fz (i := 0) rfl j, h.fz (i := 1) rfl j, h.fz (i := 2) rfl j⟩
theorem Rws.swap {A B C : List Rw} (h : Rws w0 w (A ++ (B ++ C))) : Rws w0 w (B ++ (A ++ C)) := h.perm (by
  rw [<- List.append_assoc, <- List.append_assoc]
  exact (List.perm_append_comm).append_right C)
end
namespace Pl
def stepsTo (s : Lts) (L : List Nat) : List S := L.flatMap (fun t : Nat => s.ins (t : Int))
theorem withL_snoc (M : List S) (l : Int) (y : S) : withL l (M ++ [y]) = if y.1 = l then withL l M ++ [y.2] else withL l M := by
 unfold withL
 rw [List.filter_append, List.map_append]
 by_cases h : y.1 = l
 · rw [if_pos h]; simp [h]
 · rw [if_neg h]; simp [h]
theorem withL_upd (M : List S) (lN : Nat) (t : Int) : upd (fun l : Nat => withL (l : Int) M) lN (withL (lN : Int) M ++ [t]) = fun l : Nat => withL (l : Int) (M ++ [((lN : Int), t)]) := by
 funext l
 unfold upd
 rw [withL_snoc]
 by_cases h : l = lN
 · subst h; rw [if_pos rfl, if_pos rfl]
 · rw [if_neg h, if_neg (by simp only; omega)]
theorem withL_len (M : List S) (l : Int) : (withL l M).length <= M.length := by
 unfold withL; rw [List.length_map]; exact List.length_filter_le _ _
theorem mem_withL {M : List S} {l t : Int} : t ∈ withL l M ↔ (l, t) ∈ M := by
 unfold withL
 simp only [List.mem_map, List.mem_filter, beq_iff_eq]
 constructor
 · rintro ⟨y, ⟨hy, rfl⟩, rfl⟩; exact hy
 · intro h; exact ⟨_, ⟨h, rfl⟩, rfl⟩
theorem stepsTo_len {s : Lts} (h : s.Right) (L : List Nat) : (stepsTo s L).length <= L.length * 10000 := by
 unfold stepsTo
 induction L with
 | nil => simp
 | cons x l ih => (
 rw [List.flatMap_cons, List.length_append, List.length_cons, Nat.add_mul]
 have := ins_len h (x : Int)
 omega)
theorem stepsTo_snoc (s : Lts) {L : List Nat} {i t : Nat} (h : L[i]? = some t) : stepsTo s (L.take (i + 1)) = stepsTo s (L.take i) ++ s.ins (t : Int) := by
 unfold stepsTo
 rw [take_snoc h, List.flatMap_append]; simp
theorem mem_stepsTo {s : Lts} {n : Nat} {L : List Nat} (hL : ∀ t ∈ L, t < n) {l : Int} {p : Nat} : (p : Int) ∈ withL l (stepsTo s L) ↔ intoX s n l (· ∈ L) p := by
 rw [mem_withL]
 unfold stepsTo intoX
 simp only [List.mem_flatMap]
 constructor
 · rintro ⟨t, ht, h⟩
   exact ⟨t, hL t ht, ht, mem_inS.1 h⟩
 · rintro ⟨t, _, ht, h⟩
   exact ⟨t, ht, mem_inS.2 h⟩
theorem stepsTo_rng {s : Lts} (hr : s.Right) {n : Nat} (hn : s.st = (n : Int)) {L : List Nat} {y : S} (h : y ∈ stepsTo s L) : 0 <= y.1 /\ y.1 < s.lb /\ ∃ p : Nat, p < n /\ y.2 = (p : Int) := by
 unfold stepsTo at h
 obtain ⟨t, _, ht⟩ := List.mem_flatMap.1 h
 have := offB_false.1 (hr.edges _ (mem_inS.1 ht))
 simp only at this
 exact ⟨this.2.2.1, this.2.2.2.1, y.2.toNat, by omega, by omega⟩
end Pl
end Go.Proofs.YtgikimbafakmcaaGreatDoor

/-
  system.Graph.Degree; Reach of any graph.
  system.Graph.Cut at a graph; at no graph and at an empty one.
  semblanceref7.less, Sorted; semblancebook.SameEdges, SameSystem.
-/
import Derived.Test.YtbbjmompbmgnmaaDoorReach
import Derived.Test.YtbbjmompbmgnmaaDoorCut
import Derived.Test.YtbbjmompbmgnmaaDoorRows2
import Derived.Test.YtbbjmompbmgnmaaDoorG8
import Derived.Test.YtbbjmompbmgnmaaDoorG3
import Derived.Deep.RegionHeld3
import Derived.Deep.Cut
import Derived.Deep.CutRange
import Derived.Deep.QuietTactic
import Derived.BigQuiet
import Derived.IntWalk
import Derived.Deep.DeepMust
namespace Go.Proofs.YtbbjmompbmgnmaaDoor
open Go.RowKit Pl

theorem reach_any {w : World} {gb : Nat} {s : Lts} (h : GraphAt w gb s) :
    Calls Tryd.prog 27 #[.pointer (some ⟨gb, 0, none⟩)] w fun e w' => ∃ v, e = .returned v ∧ w'.ownsRow w.heap.size 3 1 v (reachL s).length ((reachL s).flatMap encI) ∧ Below w.heap.size w w' := by
  by_cases h0 : s.st = 0
  · refine (reach_nil h h0).mono ?_
    rintro e w' ⟨rfl, hB⟩
    rw [reachL_nil h0]
    exact ⟨_, rfl, World.ownsRow_nil _ _ _ _, hB⟩
  · exact reach_ok h h0

def degTo (s : Lts) : Nat → Int
  | 0 => 0
  | k + 1 => max (degTo s k) ((s.outs k).length)

theorem degTo_bd {s : Lts} (h : s.Right) : ∀ k, 0 ≤ degTo s k ∧ degTo s k ≤ 10000
  | 0 => by simp [degTo]
  | k + 1 => by
    have ih := degTo_bd h k
    have := outs_len h (k : Int)
    unfold degTo
    omega

set_option maxRecDepth 100000 in
theorem degree_any {w : World} {gb : Nat} {s : Lts} (h : GraphAt w gb s) :
    Calls Tryd.prog 26 #[.pointer (some ⟨gb, 0, none⟩)] w fun e w' => e = .returned (.int .i64 (degTo s s.st.toNat)) ∧ Below w.heap.size w w' := by
  have hst := h.right.st0
  obtain ⟨n, hn⟩ : ∃ n : Nat, s.st = (n : Int) := ⟨s.st.toNat, by omega⟩
  have hn1 : n ≤ 1000 := by omega
  have hgs := getStates_any h
  rw [hn] at hgs
  have hnn : s.st.toNat = n := by omega
  have HGS := Lib.hid hgs; have HH := Lib.hid h; have HNN := Lib.hid hnn
  rw [hnn]
  clear h hgs hn hst hnn
  go_enter Tryd.func26, Tryd.ntmps26
  go_wp2_with fail
  refine (HGS.out).mono ?_
  rintro e w1 ⟨rfl, hB1⟩
  have HB1 := Lib.hid hB1; clear hB1
  go_wp2_with fail
  go_loopw [3, 7] (fun v3 i wr => ∃ k : Nat, k ≤ n ∧ i = .int .i64 k ∧ v3 = .int .i64 (degTo s k) ∧ Below w.heap.size w wr) (fun _ i _ => n - (intOf i).toNat)
  case atStart => exact ⟨0, Nat.zero_le _, rfl, rfl, HB1.out⟩
  case round =>
    obtain ⟨k, hk, rfl, rfl, hB⟩ := hrel
    have HB := Lib.hid hB; clear hB HB1
    by_cases hlt : k < n
    · have hlen := outs_len HH.out.right (k : Int)
      have hd := degTo_bd HH.out.right k
      have hd0 := hd.1; have hd1 := hd.2
      clear hd
      obtain ⟨d, hdd⟩ : ∃ d, d = degTo s k := ⟨_, rfl⟩
      rw [← hdd] at hd0 hd1 ⊢
      have HD := Lib.hid hdd
      clear hdd
      have hne : degTo s (k + 1) = max d ((s.outs k).length) := by rw [HD.out]; rfl
      have HNE := Lib.hid hne; clear hne
      go_wp2_with fail
      refine (each_any HH.out HB.out k).mono ?_
      rintro e w2 ⟨⟨a2, c2, b2, off2, rfl, hc2, hm2, hss⟩, hB2⟩
      have hB3 := HB.out.trans (hB2.mono HB.out.size)
      have HB3 := Lib.hid hB3
      clear hss hB2 hB3
      go_wp2
      go_roundw
      case rel => exact ⟨k + 1, by omega, by go_num, by rw [HNE.out], HB3.out⟩
      case measure => simp [intOf]; omega
    · obtain rfl : k = n := by omega
      go_wp2
      go_ret
      exact ⟨rfl, HB.out⟩
end Go.Proofs.YtbbjmompbmgnmaaDoor

namespace Go.Proofs.YtbbjmompbmgnmaaDoor
open Go.RowKit Pl

set_option maxRecDepth 100000 in
/-- own, its value fixed ahead. -/
theorem own_at {w : World} {gb : Nat} {s : Lts} (h : GraphAt w gb s) : ∃ (a : Option Addr) (c b off : Nat), SlAt encE 3 w a b off s.es ∧ ∀ w1, Below w.heap.size w w1 →
    Calls Tryd.prog 64 #[.pointer (some ⟨gb, 0, none⟩)] w1 fun e w' => e = .returned (.agg #[.int .i64 s.st, .int .i64 s.lb, .int .i64 s.s0, .slice a s.es.length c]) ∧ Below w1.heap.size w1 w' := by
  obtain ⟨ve, oa, of, ia, if_, h1, ⟨a, c, b, off, rfl, hcc, h3⟩, _, _⟩ := h.blk
  refine ⟨a, c, b, off, h3, fun w1 hB => ?_⟩
  have h1' := (hB.block gb h.lt).trans h1
  have c0 : w1.cell? ⟨gb, 0, none⟩ = some (.int .i64 s.st) := by simp [World.cell?, h1']
  have c1 : w1.cell? ⟨gb, 1, none⟩ = some (.int .i64 s.lb) := by simp [World.cell?, h1']
  have c2 : w1.cell? ⟨gb, 2, none⟩ = some (.int .i64 s.s0) := by simp [World.cell?, h1']
  have c3 : w1.cell? ⟨gb, 3, none⟩ = some (.slice a s.es.length c) := by simp [World.cell?, h1']
  have hgb : gb < w1.heap.size := Nat.lt_of_lt_of_le h.lt hB.size
  clear h h1 h1' h3 hB
  go_enter Tryd.func64, Tryd.ntmps64
  go_wp2
  have hB : Below w1.heap.size w1 _ := (Below.refl w1.heap.size w1).alloc (Nat.le_refl _) (Obj.cells #[.int .i64 s.st, .int .i64 s.lb, .int .i64 s.s0, .slice a s.es.length c] 24)
  exact bodyPost_ret (v := .agg #[.int .i64 s.st, .int .i64 s.lb, .int .i64 s.s0, .slice a s.es.length c]) (by simp [results, Tryd.results64, go_sem]) rfl ⟨rfl, hB⟩

theorem cut_any {w : World} {gb : Nat} {s : Lts} (h : GraphAt w gb s) : Calls Tryd.prog 22 #[.pointer (some ⟨gb, 0, none⟩)] w (CutPost s s.st.toNat w) := by
  have hst := h.right.st0
  have hn : s.st = (s.st.toNat : Int) := by omega
  obtain ⟨a, c, b, off, hE, hO⟩ := own_at h
  refine cut_gen (s := s) hn (by omega) (by omega) (fun x hx => ?_) ⟨by omega, by omega⟩ (fun w1 hB => getLabels_any (h.below hB)) (fun w1 hB => by have := getStates_any (h.below hB); rw [hn] at this; exact this) (fun w1 hB => getStart_any (h.below hB)) hE hO (fun w1 hB => reach_any (h.below hB))
  have := offB_false.1 (h.right.edges x hx)
  omega
end Go.Proofs.YtbbjmompbmgnmaaDoor

namespace Go.Proofs.YtbbjmompbmgnmaaDoor
open Go.RowKit Pl

set_option maxRecDepth 100000 in
theorem less_any (x y : E) (w : World) : Calls Tryd.prog 94 #[.agg #[.int .i64 x.1, .int .i64 x.2.1, .int .i64 x.2.2], .agg #[.int .i64 y.1, .int .i64 y.2.1, .int .i64 y.2.2]] w fun e w' =>
    e = .returned (.bool (ltE x y)) ∧ Below w.heap.size w w' := by
  by_cases h1 : x.1 = y.1
  · have b1 : (x.1 != y.1) = false := by simp [h1]
    by_cases h2 : x.2.1 = y.2.1
    · have b2 : (x.2.1 != y.2.1) = false := by simp [h2]
      have hr : ltE x y = decide (x.2.2 < y.2.2) := by simp [ltE, h1, h2]
      rw [hr]
      clear h1 h2 hr
      go_enter Tryd.func94, Tryd.ntmps94
      go_wp2
      go_ret
      exact ⟨rfl, ((Below.refl _ _).alloc (Nat.le_refl _) _).alloc (by simp) _⟩
    · have b2 : (x.2.1 != y.2.1) = true := by simp [h2]
      have hr : ltE x y = decide (x.2.1 < y.2.1) := by simp [ltE, h1, h2]
      rw [hr]
      clear h1 h2 hr
      go_enter Tryd.func94, Tryd.ntmps94
      go_wp2
      go_ret
      exact ⟨rfl, ((Below.refl _ _).alloc (Nat.le_refl _) _).alloc (by simp) _⟩
  · have b1 : (x.1 != y.1) = true := by simp [h1]
    have hr : ltE x y = decide (x.1 < y.1) := by simp [ltE, h1]
    rw [hr]
    clear h1 hr
    go_enter Tryd.func94, Tryd.ntmps94
    go_wp2
    go_ret
    exact ⟨rfl, ((Below.refl _ _).alloc (Nat.le_refl _) _).alloc (by simp) _⟩

theorem eq_upto' {α : Type} {xs ys : List α} (hl : xs.length = ys.length) (h : ∀ j, j < xs.length → xs[j]? = ys[j]?) : xs = ys := by
  apply List.ext_getElem?
  intro j
  by_cases hj : j < xs.length
  · exact h j hj
  · rw [List.getElem?_eq_none (by omega), List.getElem?_eq_none (by omega)]

set_option maxRecDepth 100000 in
theorem sameEdges_any {a1 a2 : Option Addr} {b1 o1 c1 b2 o2 c2 : Nat} {xs ys : List E} {w : World} (h1 : SlAt encE 3 w a1 b1 o1 xs) (h2 : SlAt encE 3 w a2 b2 o2 ys) (hx : xs.length ≤ 1000000) (hy : ys.length ≤ 1000000) :
    Calls Tryd.prog 65 #[.slice a1 xs.length c1, .slice a2 ys.length c2] w fun e w' => e = .returned (.bool (decide (xs = ys))) ∧ ∃ n, w' = w.drewN n := by
  by_cases hl : xs.length = ys.length
  · have hlB : ((xs.length : Int) != (ys.length : Int)) = false := by simp [hl]
    have HL := Lib.hid hl; clear hl
    go_enter Tryd.func65, Tryd.ntmps65
    go_wp2
    go_loopw [5] (fun i wr => ∃ k m : Nat, k ≤ xs.length ∧ i = .int .i64 k ∧ (∀ j, j < k → xs[j]? = ys[j]?) ∧ wr = w.drewN m)
      (fun i _ => xs.length - (intOf i).toNat)
    case atStart => exact ⟨0, 0, Nat.zero_le _, rfl, by intro j hj; omega, rfl⟩
    case round =>
      obtain ⟨k, m, hk, rfl, heq, rfl⟩ := hrel
      have HE := Lib.hid heq; clear heq
      by_cases hlt : k < xs.length
      · have hlt2 : k < ys.length := by rw [← HL.out]; exact hlt
        obtain ⟨x, hxk⟩ := getElem?_of_lt hlt
        obtain ⟨y, hyk⟩ := getElem?_of_lt hlt2
        obtain rfl := h1.ad (by omega)
        obtain rfl := h2.ad (by omega)
        have c0 := h1.e0 hxk; have c1' := h1.e1 hxk; have c2' := h1.e2 hxk
        have d0 := h2.e0 hyk; have d1 := h2.e1 hyk; have d2 := h2.e2 hyk
        have hq := fun w => eqlE x y w
        have hgd := guardE
        have hi1 : (k : Int) < (xs.length : Int) := by omega
        have hi2 : (k : Int) < (ys.length : Int) := by omega
        have HX := Lib.hid hxk; have HY := Lib.hid hyk
        clear h1 h2 hxk hyk
        by_cases hxy : x = y
        · have hb : decide (x = y) = true := by simp [hxy]
          have HXY := Lib.hid hxy; clear hxy
          go_wp2_with fail
          go_quiet (fail)
          go_wp2
          go_roundw
          case rel => exact ⟨k + 1, _, by omega, by go_num, by
            intro j hj
            by_cases hjk : j = k
            · subst hjk; rw [HX.out, HY.out, HXY.out]
            · exact HE.out j (by omega), rfl⟩
          case measure => simp [intOf]; omega
        · have hb : decide (x = y) = false := by simp [hxy]
          have HXY := Lib.hid hxy; clear hxy
          go_wp2_with fail
          go_quiet (fail)
          go_wp2
          go_ret
          refine ⟨?_, _, World.drewN_drewN _ _ _⟩
          have : xs ≠ ys := fun e => HXY.out (by have h1 := HX.out; have h2 := HY.out; rw [e, h2] at h1; simpa using h1.symm)
          simp [this]
      · clear h1 h2
        have hkk : k = xs.length := by omega
        go_wp2
        go_ret
        refine ⟨?_, _, rfl⟩
        have : xs = ys := eq_upto' HL.out (by rw [← hkk]; exact HE.out)
        simp [this]
  · have hlB : ((xs.length : Int) != (ys.length : Int)) = true := by simp; omega
    go_enter Tryd.func65, Tryd.ntmps65
    go_wp2
    go_ret
    have : xs ≠ ys := fun e => hl (by rw [e])
    exact ⟨by simp [this], 0, rfl⟩


set_option maxRecDepth 100000 in
theorem sameSystem_yes (st lb s0 : Int) {a1 a2 : Option Addr} {b1 o1 c1 b2 o2 c2 : Nat} {xs : List E} {w : World} (h1 : SlAt encE 3 w a1 b1 o1 xs) (h2 : SlAt encE 3 w a2 b2 o2 xs) (hx : xs.length ≤ 1000000) :
    Calls Tryd.prog 23 #[.agg #[.int .i64 st, .int .i64 lb, .int .i64 s0, .slice a1 xs.length c1], .agg #[.int .i64 st, .int .i64 lb, .int .i64 s0, .slice a2 xs.length c2]] w fun e w' =>
      e = .returned (.bool true) ∧ Below w.heap.size w w' := by
  have e1 : (st == st) = true := by simp
  have e2 : (lb == lb) = true := by simp
  have e3 : (s0 == s0) = true := by simp
  have H1 := Lib.hid h1; have H2 := Lib.hid h2
  clear h1 h2
  go_enter Tryd.func23, Tryd.ntmps23
  go_wp2_with fail
  have hB := ((Below.refl w.heap.size w).alloc (Nat.le_refl _) (Obj.cells #[.int .i64 st, .int .i64 lb, .int .i64 s0, .slice a1 xs.length c1] 24)).alloc (by simp) (Obj.cells #[.int .i64 st, .int .i64 lb, .int .i64 s0, .slice a2 xs.length c2] 24)
  have HB := Lib.hid hB
  clear hB
  refine (sameEdges_any (H1.out.below HB.out (Nat.le_refl _)) (H2.out.below HB.out (Nat.le_refl _)) hx hx).mono ?_
  rintro e w1 ⟨rfl, m, rfl⟩
  simp only [decide_true]
  go_wp2
  go_ret
  exact ⟨rfl, bdrew HB.out⟩
end Go.Proofs.YtbbjmompbmgnmaaDoor

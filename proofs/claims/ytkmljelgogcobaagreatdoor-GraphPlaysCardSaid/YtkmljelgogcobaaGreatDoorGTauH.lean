/-
  tauscc.Cycles: which states come from one another by silent steps.
  slices.Equal at []int.
  system.Classes.
  semblancebook.SameInts.
  system.Together: how many classes there are.
-/
import Derived.Test.YtkmljelgogcobaaGreatDoorTauG
import Derived.Test.YtkmljelgogcobaaGreatDoorAs
import Derived.Test.YtkmljelgogcobaaGreatDoorNewC
import Derived.Test.YtkmljelgogcobaaGreatDoorGPl10
import Derived.Test.YtkmljelgogcobaaGreatDoorGBase
import Derived.Outline
import Derived.Deep.QuietTactic
import Derived.BigQuiet
import Derived.Test.YtkmljelgogcobaaGreatDoorCanon
import Derived.Test.YtkmljelgogcobaaGreatDoorRows2
import Derived.Test.YtkmljelgogcobaaGreatDoorGPlBack
import Derived.Deep.DeepMust
namespace Go.Proofs.YtkmljelgogcobaaGreatDoor
open Go.RowKit Pl

namespace Pl
theorem tau_norm {s : Lts} {x y : Nat} : tau s.norm x y ↔ tau s x y := mem_nf stoE _ s.es
theorem TR_norm {s : Lts} {x y : Nat} : TR s.norm x y ↔ TR s x y := by
  constructor
  · intro h
    induction h with
    | refl => exact .refl
    | tail _ ht ih => exact ih.tail (tau_norm.1 ht)
  · intro h
    induction h with
    | refl => exact .refl
    | tail _ ht ih => exact ih.tail (tau_norm.2 ht)
theorem Cyc.of_norm {s : Lts} {n : Nat} {f : Nat → Int} (h : Cyc s.norm n f) : Cyc s n f :=
  ⟨fun x y hx hy => by rw [h.same x y hx hy, TR_norm, TR_norm], fun x y hxy => h.down x y (tau_norm.2 hxy)⟩
end Pl

def tauName : ByteArray := ⟨#[116, 97, 117, 115, 99, 99]⟩
/-- A fault of this layer over one of the layer system. -/
def Fault2 (w : World) (p : Addr) (v : Value) : Prop :=
  ∃ vi, FaultAt w v tauName vi ∧ FaultAt w vi sysName (.iface 248 (.pointer (some p)))
theorem Fault2.below {w w' : World} {p : Addr} {v : Value} (h : Fault2 w p v) (hB : Below w.heap.size w w') : Fault2 w' p v := by
  obtain ⟨vi, h1, h2⟩ := h
  exact ⟨vi, h1.below hB, h2.below hB⟩

set_option maxRecDepth 100000 in
theorem cyclesNo_any {p : Addr} {s : Lts} (h : ¬ s.Right) {a : Option Addr} {b off c : Nat} {w : World} (hG : GErr 0 p w) (hT : ErrType w) (hS : SlAt encE 3 w a b off s.es) :
    Calls Tryz.prog 29 #[.agg #[.int .i64 s.st, .int .i64 s.lb, .int .i64 s.s0, .slice a s.es.length c]] w fun e w' =>
      ∃ v, e = .returned (.tuple #[.slice none 0 0, v]) ∧ Fault2 w' p v ∧ Below w.heap.size w w' := by
  have hB0 := (Below.refl w.heap.size w).alloc (Nat.le_refl _) (Obj.cells #[.int .i64 s.st, .int .i64 s.lb, .int .i64 s.s0, .slice a s.es.length c] 24)
  have hN := new_no (c := c) h (hG.below hB0) (hS.below hB0 (Nat.le_refl _))
  have HN := Lib.hid hN; have HT := Lib.hid (hT.below hB0); have HB0 := Lib.hid hB0
  clear hN hT hB0 hS hG h
  go_enter Tryz.func29, Tryz.ntmps29
  go_wp2_with fail
  refine HN.out.mono ?_
  rintro e w1 ⟨v, rfl, hF, hB1⟩
  have HF := Lib.hid hF
  obtain ⟨fb, rfl, hfb⟩ := hF.ex
  have HT1 := Lib.hid (HT.out.below hB1)
  have HA := Lib.hid (faultAs_any tauName HT1.out hfb)
  have HB1 := Lib.hid (HB0.out.trans (hB1.mono (by simp)))
  clear hB1 hfb hF
  go_wp2_with fail
  refine HA.out.mono ?_
  rintro e w2 ⟨v, rfl, hF2, hB2⟩
  have hf3 := HF.out.below hB2
  have HR : RowKit.Hid (Fault2 w2 p v) := Lib.hid ⟨_, hF2, hf3⟩
  have HB2 := Lib.hid (HB1.out.trans (hB2.mono HB1.out.size))
  clear hF2 hf3 hB2
  go_wp2
  go_ret2
  exact ⟨v, rfl, HR.out, HB2.out⟩

set_option maxRecDepth 100000 in
theorem cyclesYes_any {p : Addr} {s : Lts} {n : Nat} (h : s.Right) (hn : s.st = (n : Int)) {a : Option Addr} {b off c : Nat} {w : World} (hG : GErr 0 p w) (hS : SlAt encE 3 w a b off s.es) :
    Calls Tryz.prog 29 #[.agg #[.int .i64 s.st, .int .i64 s.lb, .int .i64 s.s0, .slice a s.es.length c]] w fun e w' =>
      ∃ (f : Nat → Int) (v : Value), Cyc s n f ∧ e = .returned (.tuple #[v, .nilIface]) ∧ w'.ownsRow w.heap.size 3 1 v n ((fl n (clf n f)).flatMap encI) ∧ Below w.heap.size w w' := by
  have hB0 := (Below.refl w.heap.size w).alloc (Nat.le_refl _) (Obj.cells #[.int .i64 s.st, .int .i64 s.lb, .int .i64 s.s0, .slice a s.es.length c] 24)
  have hN := new_ok (c := c) h (hG.below hB0) (hS.below hB0 (Nat.le_refl _))
  have HN := Lib.hid hN; have HB0 := Lib.hid hB0; have HNN := Lib.hid hn
  clear hN hB0 hS hG h hn
  go_enter Tryz.func29, Tryz.ntmps29
  go_wp2_with fail
  refine HN.out.mono ?_
  rintro e w1 ⟨gb, rfl, hGr, hB1, _⟩
  have HC := Lib.hid (cycles_any (n := n) hGr HNN.out)
  have HB1 := Lib.hid (HB0.out.trans (hB1.mono (by simp)))
  clear hB1 hGr
  go_wp2_with fail
  refine HC.out.mono ?_
  rintro e w2 ⟨f, v, hcyc, rfl, hown, hB2⟩
  have HO := Lib.hid (own_mono hown HB1.out.size)
  have HB2 := Lib.hid (HB1.out.trans (hB2.mono HB1.out.size))
  have HCY := Lib.hid hcyc.of_norm
  clear hown hB2 hcyc
  go_wp2
  go_ret2
  exact ⟨f, v, HCY.out, rfl, HO.out, HB2.out⟩
end Go.Proofs.YtkmljelgogcobaaGreatDoor

namespace Go.Proofs.YtkmljelgogcobaaGreatDoor
open Go.RowKit Pl

theorem eq_upto {α : Type} {xs ys : List α} (hl : xs.length = ys.length) (h : ∀ j, j < xs.length → xs[j]? = ys[j]?) : xs = ys := by
  apply List.ext_getElem? ; intro i
  by_cases hi : i < xs.length
  · exact h i hi
  · rw [List.getElem?_eq_none (by omega), List.getElem?_eq_none (by omega)]

end Go.Proofs.YtkmljelgogcobaaGreatDoor

namespace Go.Proofs.YtkmljelgogcobaaGreatDoor
open Go.RowKit Pl

theorem below_drewC {w0 w : World} {B n : Nat} (h : Below B w0 w) : Below B w0 (w.drewN n) := ⟨h.os, h.tape, h.output, h.size, h.block⟩

/-- What system.Classes says. -/
def clB (st : Int) (l : List Int) : Bool := decide ((l.length : Int) = st) && decide (l = canon l)

end Go.Proofs.YtkmljelgogcobaaGreatDoor

namespace Go.Proofs.YtkmljelgogcobaaGreatDoor
open Go.RowKit Pl

set_option maxRecDepth 100000 in
theorem sameInts_any {a1 a2 : Option Addr} {b1 o1 c1 b2 o2 c2 : Nat} {xs ys : List Int} {w : World} (h1 : SlAt encI 1 w a1 b1 o1 xs) (h2 : SlAt encI 1 w a2 b2 o2 ys) (hx : xs.length ≤ 4611686018427387904) (hy : ys.length ≤ 4611686018427387904) :
    Calls Tryz.prog 36 #[.slice a1 xs.length c1, .slice a2 ys.length c2] w fun e w' => e = .returned (.bool (decide (xs = ys))) ∧ ∃ n, w' = w.drewN n := by
  by_cases hl : xs.length = ys.length
  · have hlB : ((xs.length : Int) != (ys.length : Int)) = false := by simp [hl]
    have HL := Lib.hid hl; clear hl
    go_enter Tryz.func36, Tryz.ntmps36
    go_wp2
    go_loopw [5] (fun i wr => ∃ k m : Nat, k ≤ xs.length ∧ i = .int .i64 k ∧ (∀ j, j < k → xs[j]? = ys[j]?) ∧ wr = w.drewN m)
      (fun i _ => xs.length - (intOf i).toNat)
    case atStart => exact ⟨0, 0, Nat.zero_le _, rfl, by intro j hj; omega, rfl⟩
    case round =>
      obtain ⟨k, m, hk, rfl, heq, rfl⟩ := hrel
      have HE := Lib.hid heq; clear heq
      by_cases hlt : k < xs.length
      · have hlt2 : k < ys.length := by rw [← HL.out]; exact hlt
        obtain ⟨x, hxk⟩ := getElem?_of_lt hlt
        obtain ⟨y, hyk⟩ := getElem?_of_lt hlt2
        obtain rfl := h1.ad (by omega)
        obtain rfl := h2.ad (by omega)
        have hc0 := h1.ci hxk
        have hc1 := h2.ci hyk
        have hi1 : (k : Int) < (xs.length : Int) := by omega
        have hi2 : (k : Int) < (ys.length : Int) := by omega
        have HX := Lib.hid hxk; have HY := Lib.hid hyk
        clear h1 h2 hxk hyk
        by_cases hxy : x = y
        · have hb : (x == y) = true := by simp [hxy]
          have HXY := Lib.hid hxy; clear hxy
          go_wp2_with fail
          go_quiet (fail)
          go_wp2
          go_roundw
          case rel => exact ⟨k + 1, _, by omega, by go_num, by
            intro j hj
            by_cases hjk : j = k
            · subst hjk; rw [HX.out, HY.out, HXY.out]
            · exact HE.out j (by omega), rfl⟩
          case measure => simp [intOf]; omega
        · have hb : (x == y) = false := by simp [hxy]
          have HXY := Lib.hid hxy; clear hxy
          go_wp2_with fail
          go_quiet (fail)
          go_wp2
          go_ret
          refine ⟨?_, _, World.drewN_drewN _ _ _⟩
          have : xs ≠ ys := fun e => HXY.out (by have h1 := HX.out; have h2 := HY.out; rw [e, h2] at h1; simpa using h1.symm)
          simp [this]
      · clear h1 h2
        have hkk : k = xs.length := by omega
        go_wp2
        go_ret
        refine ⟨?_, _, rfl⟩
        have : xs = ys := eq_upto HL.out (by rw [← hkk]; exact HE.out)
        simp [this]
  · have hlB : ((xs.length : Int) != (ys.length : Int)) = true := by simp; omega
    go_enter Tryz.func36, Tryz.ntmps36
    go_wp2
    go_ret
    have : xs ≠ ys := fun e => hl (by rw [e])
    exact ⟨by simp [this], 0, rfl⟩
end Go.Proofs.YtkmljelgogcobaaGreatDoor

namespace Go.Proofs.YtkmljelgogcobaaGreatDoor
open Go.RowKit Pl Go.Maps


/-- The set that Together keeps. -/
structure SetD (D : DataW Unit) (s : List Int) : Prop where
  has : ∀ x : Int, Maps.has D (.int .i64 x) = decide (x ∈ s)
  len : Maps.size D = s.length
theorem SetD.nil : SetD (.map []) [] := ⟨fun x => by simp [Maps.has], rfl⟩
theorem SetD.add {D : DataW Unit} {s : List Int} {x : Int} (h : SetD D s) (ht : Tidy D) : SetD (D.put (.int .i64 x) (.agg [])) (addN s x) where
  has y := by
    have hm : (y ∈ addN s x) ↔ y ∈ s ∨ y = x := mem_addN
    by_cases e : y = x
    · subst e; rw [has_put_same (k := .int .i64 y) ht.isMap trivial]; simp [hm]
    · rw [has_put_other (by intro h; cases h; exact e rfl), h.has]; simp [hm, e]
  len := by
    rw [size_put ht, h.has]
    unfold addN
    by_cases hx : x ∈ s
    · simp [hx, h.len]
    · simp [hx, h.len]

set_option maxRecDepth 100000 in
set_option maxHeartbeats 1000000 in
theorem together_any {w : World} {a : Option Addr} {b off c : Nat} {xs : List Int} (hS : SlAt encI 1 w a b off xs) (hn : xs.length ≤ 1000000) (hwf : ∀ x ∈ xs, (Lit.int .i64 x).wf = true) :
    Calls Tryz.prog 114 #[.slice a xs.length c] w fun e w' => e = .returned (.int .i64 ((dist xs).length : Int)) ∧ Below w.heap.size w w' := by
  obtain ⟨n, hnn⟩ : ∃ n, n = xs.length := ⟨_, rfl⟩
  rw [← hnn] at hn ⊢
  have hmm := @run_makeMap Tryz.prog
  have HS := Lib.hid hS; have HWF := Lib.hid hwf; have HNN := Lib.hid hnn
  clear hS hwf hnn
  go_enter Tryz.func114, Tryz.ntmps114
  go_wp2_with fail
  go_loopw [5, 9] (fun _ i wr => ∃ (k : Nat) (D : DataW Unit), k ≤ n ∧ i = .int .i64 k ∧ SetD D (dist (xs.take k)) ∧ wr.ownsMap Tryz.prog 3 unitElem w.heap.size k D ∧ Below w.heap.size w wr)
    (fun _ i _ => n - (intOf i).toNat)
  case atStart => exact ⟨0, .map [], Nat.zero_le _, rfl, by simpa [dist] using SetD.nil, World.ownsMap_made _ _ _ _, (Below.refl _ _).alloc (Nat.le_refl _) _⟩
  case round =>
    obtain ⟨k, D, hk, rfl, hmd, hown, hB⟩ := hrel
    have hsz := hB.size
    have hmlt := hown.lt
    have HMD := Lib.hid hmd; have HOWN := Lib.hid hown; have HB := Lib.hid hB
    clear hmd hown hB
    by_cases hlt : k < n
    · obtain ⟨x, hx⟩ := getElem?_of_lt (xs := xs) (i := k) (by have := HNN.out; omega)
      obtain rfl := HS.out.ad (by have := HNN.out; omega)
      have hcx := (HS.out.below HB.out (Nat.le_refl _)).ci hx
      have hkey := keyOf_int_mk Tryz.underlying3 (HWF.out x (List.mem_of_getElem? hx))
      have hkn : (k : Int) < (n : Int) := by omega
      have HX := Lib.hid hx
      clear hx
      go_wp2_with (at_mapUpdate; refine wpList_mapUpdate_own _ rfl _ _ _ 180 rfl 3 181 lawInt Tryz.underlying180 _ w.heap.size k D rfl HOWN.out (by unfold maxLen; omega) _ _ _ rfl rfl hkey _ [] unitElem_mk ?_; intro w1 hown1 hgrow1)
      have hB1 := HB.out.grown hgrow1 hsz (fun j hj => by cases hj; exact Nat.le_refl _)
      have hmd1 := HMD.out.add (x := x) (HOWN.out.tidy lawInt)
      rw [← dist_snoc, ← take_snoc HX.out] at hmd1
      have HB1 := Lib.hid hB1; have HMD1 := Lib.hid hmd1; have HOWN1 := Lib.hid hown1
      clear hB1 hmd1 hown1 hgrow1
      go_roundw
      case rel => exact ⟨k + 1, _, by omega, by go_num, HMD1.out, HOWN1.out, HB1.out⟩
      case measure => simp [intOf]; omega
    · obtain rfl : k = n := by omega
      have hml := HMD.out.len
      rw [List.take_of_length_le (by have := HNN.out; omega)] at hml
      have HML := Lib.hid hml
      clear hml
      go_wp2_with (at_len; refine wpList_len_own _ rfl _ 180 rfl 3 181 Tryz.underlying180 _ w.heap.size k D rfl HOWN.out ?_; rw [HML.out])
      go_ret
      exact ⟨rfl, HB.out⟩
end Go.Proofs.YtkmljelgogcobaaGreatDoor

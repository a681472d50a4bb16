/-
  tauscc.Cycles: which states come from one another by silent steps.
  slices.Equal at []int.
-/
import Derived.Test.YtbbjmompbmgnmaaDoorTauG
import Derived.Test.YtbbjmompbmgnmaaDoorAs
import Derived.Test.YtbbjmompbmgnmaaDoorNewC
import Derived.Test.YtbbjmompbmgnmaaDoorG4
import Derived.Test.YtbbjmompbmgnmaaDoorG6
import Derived.Outline
import Derived.Deep.QuietTactic
import Derived.BigQuiet
namespace Go.Proofs.YtbbjmompbmgnmaaDoor
open Go.RowKit Pl

namespace Pl
theorem tau_norm {s : Lts} {x y : Nat} : tau s.norm x y ↔ tau s x y := mem_nf stoE _ s.es
theorem TR_norm {s : Lts} {x y : Nat} : TR s.norm x y ↔ TR s x y := by
  constructor
  · intro h
    induction h with
    | refl => exact .refl
    | tail _ ht ih => exact ih.tail (tau_norm.1 ht)
  · intro h
    induction h with
    | refl => exact .refl
    | tail _ ht ih => exact ih.tail (tau_norm.2 ht)
theorem Cyc.of_norm {s : Lts} {n : Nat} {f : Nat → Int} (h : Cyc s.norm n f) : Cyc s n f :=
  ⟨fun x y hx hy => by rw [h.same x y hx hy, TR_norm, TR_norm], fun x y hxy => h.down x y (tau_norm.2 hxy)⟩
end Pl

def tauName : ByteArray := ⟨#[116, 97, 117, 115, 99, 99]⟩
/-- A fault of this layer over one of the layer system. -/
def Fault2 (w : World) (p : Addr) (v : Value) : Prop :=
  ∃ vi, FaultAt w v tauName vi ∧ FaultAt w vi sysName (.iface 208 (.pointer (some p)))
theorem Fault2.below {w w' : World} {p : Addr} {v : Value} (h : Fault2 w p v) (hB : Below w.heap.size w w') : Fault2 w' p v := by
  obtain ⟨vi, h1, h2⟩ := h
  exact ⟨vi, h1.below hB, h2.below hB⟩

set_option maxRecDepth 100000 in
theorem cyclesNo_any {p : Addr} {s : Lts} (h : ¬ s.Right) {a : Option Addr} {b off c : Nat} {w : World} (hG : GErr 0 p w) (hT : ErrType w) (hS : SlAt encE 3 w a b off s.es) :
    Calls Tryd.prog 59 #[.agg #[.int .i64 s.st, .int .i64 s.lb, .int .i64 s.s0, .slice a s.es.length c]] w fun e w' =>
      ∃ v, e = .returned (.tuple #[.slice none 0 0, v]) ∧ Fault2 w' p v ∧ Below w.heap.size w w' := by
  have hB0 := (Below.refl w.heap.size w).alloc (Nat.le_refl _) (Obj.cells #[.int .i64 s.st, .int .i64 s.lb, .int .i64 s.s0, .slice a s.es.length c] 24)
  have hN := new_no (c := c) h (hG.below hB0) (hS.below hB0 (Nat.le_refl _))
  have HN := Lib.hid hN; have HT := Lib.hid (hT.below hB0); have HB0 := Lib.hid hB0
  clear hN hT hB0 hS hG h
  go_enter Tryd.func59, Tryd.ntmps59
  go_wp2_with fail
  refine HN.out.mono ?_
  rintro e w1 ⟨v, rfl, hF, hB1⟩
  have HF := Lib.hid hF
  obtain ⟨fb, rfl, hfb⟩ := hF.ex
  have HT1 := Lib.hid (HT.out.below hB1)
  have HA := Lib.hid (faultAs_any tauName HT1.out hfb)
  have HB1 := Lib.hid (HB0.out.trans (hB1.mono (by simp)))
  clear hB1 hfb hF
  go_wp2_with fail
  refine HA.out.mono ?_
  rintro e w2 ⟨v, rfl, hF2, hB2⟩
  have hf3 := HF.out.below hB2
  have HR : RowKit.Hid (Fault2 w2 p v) := Lib.hid ⟨_, hF2, hf3⟩
  have HB2 := Lib.hid (HB1.out.trans (hB2.mono HB1.out.size))
  clear hF2 hf3 hB2
  go_wp2
  go_ret2
  exact ⟨v, rfl, HR.out, HB2.out⟩

set_option maxRecDepth 100000 in
theorem cyclesYes_any {p : Addr} {s : Lts} {n : Nat} (h : s.Right) (hn : s.st = (n : Int)) {a : Option Addr} {b off c : Nat} {w : World} (hG : GErr 0 p w) (hS : SlAt encE 3 w a b off s.es) :
    Calls Tryd.prog 59 #[.agg #[.int .i64 s.st, .int .i64 s.lb, .int .i64 s.s0, .slice a s.es.length c]] w fun e w' =>
      ∃ (f : Nat → Int) (v : Value), Cyc s n f ∧ e = .returned (.tuple #[v, .nilIface]) ∧ w'.ownsRow w.heap.size 3 1 v n ((fl n (clf n f)).flatMap encI) ∧ Below w.heap.size w w' := by
  have hB0 := (Below.refl w.heap.size w).alloc (Nat.le_refl _) (Obj.cells #[.int .i64 s.st, .int .i64 s.lb, .int .i64 s.s0, .slice a s.es.length c] 24)
  have hN := new_ok (c := c) h (hG.below hB0) (hS.below hB0 (Nat.le_refl _))
  have HN := Lib.hid hN; have HB0 := Lib.hid hB0; have HNN := Lib.hid hn
  clear hN hB0 hS hG h hn
  go_enter Tryd.func59, Tryd.ntmps59
  go_wp2_with fail
  refine HN.out.mono ?_
  rintro e w1 ⟨gb, rfl, hGr, hB1, _⟩
  have HC := Lib.hid (cycles_any (n := n) hGr HNN.out)
  have HB1 := Lib.hid (HB0.out.trans (hB1.mono (by simp)))
  clear hB1 hGr
  go_wp2_with fail
  refine HC.out.mono ?_
  rintro e w2 ⟨f, v, hcyc, rfl, hown, hB2⟩
  have HO := Lib.hid (own_mono hown HB1.out.size)
  have HB2 := Lib.hid (HB1.out.trans (hB2.mono HB1.out.size))
  have HCY := Lib.hid hcyc.of_norm
  clear hown hB2 hcyc
  go_wp2
  go_ret2
  exact ⟨f, v, HCY.out, rfl, HO.out, HB2.out⟩
end Go.Proofs.YtbbjmompbmgnmaaDoor

namespace Go.Proofs.YtbbjmompbmgnmaaDoor
open Go.RowKit Pl

theorem eq_upto {α : Type} {xs ys : List α} (hl : xs.length = ys.length) (h : ∀ j, j < xs.length → xs[j]? = ys[j]?) : xs = ys := by
  apply List.ext_getElem? ; intro i
  by_cases hi : i < xs.length
  · exact h i hi
  · rw [List.getElem?_eq_none (by omega), List.getElem?_eq_none (by omega)]

set_option maxRecDepth 100000 in
theorem slicesEqual_any {a1 a2 : Option Addr} {b1 o1 c1 b2 o2 c2 : Nat} {xs ys : List Int} {w : World} (h1 : SlAt encI 1 w a1 b1 o1 xs) (h2 : SlAt encI 1 w a2 b2 o2 ys) (hx : xs.length ≤ 4611686018427387904) (hy : ys.length ≤ 4611686018427387904) :
    Calls Tryd.prog 98 #[.slice a1 xs.length c1, .slice a2 ys.length c2] w fun e w' => e = .returned (.bool (decide (xs = ys))) ∧ ∃ n, w' = w.drewN n := by
  by_cases hl : xs.length = ys.length
  · have hlB : ((xs.length : Int) != (ys.length : Int)) = false := by simp [hl]
    have HL := Lib.hid hl; clear hl
    go_enter Tryd.func98, Tryd.ntmps98
    go_wp2
    go_loopw [5, 13] (fun _ i wr => ∃ k m : Nat, k ≤ xs.length ∧ i = .int .i64 k ∧ (∀ j, j < k → xs[j]? = ys[j]?) ∧ wr = w.drewN m)
      (fun _ i _ => xs.length - (intOf i).toNat)
    case atStart => exact ⟨0, 0, Nat.zero_le _, rfl, by intro j hj; omega, rfl⟩
    case round =>
      obtain ⟨k, m, hk, rfl, heq, rfl⟩ := hrel
      have HE := Lib.hid heq; clear heq
      by_cases hlt : k < xs.length
      · have hlt2 : k < ys.length := by rw [← HL.out]; exact hlt
        obtain ⟨x, hxk⟩ := getElem?_of_lt hlt
        obtain ⟨y, hyk⟩ := getElem?_of_lt hlt2
        obtain rfl := h1.ad (by omega)
        obtain rfl := h2.ad (by omega)
        have hc0 := h1.ci hxk
        have hc1 := h2.ci hyk
        have hi1 : (k : Int) < (xs.length : Int) := by omega
        have hi2 : (k : Int) < (ys.length : Int) := by omega
        have HX := Lib.hid hxk; have HY := Lib.hid hyk
        clear h1 h2 hxk hyk
        by_cases hxy : x = y
        · have hb : (x != y) = false := by simp [hxy]
          have HXY := Lib.hid hxy; clear hxy
          go_wp2_with fail
          go_quiet (fail)
          go_wp2
          go_roundw
          case rel => exact ⟨k + 1, _, by omega, by go_num, by
            intro j hj
            by_cases hjk : j = k
            · subst hjk; rw [HX.out, HY.out, HXY.out]
            · exact HE.out j (by omega), rfl⟩
          case measure => simp [intOf]; omega
        · have hb : (x != y) = true := by simp [hxy]
          have HXY := Lib.hid hxy; clear hxy
          go_wp2_with fail
          go_quiet (fail)
          go_wp2
          go_ret
          refine ⟨?_, _, World.drewN_drewN _ _ _⟩
          have : xs ≠ ys := fun e => HXY.out (by have h1 := HX.out; have h2 := HY.out; rw [e, h2] at h1; simpa using h1.symm)
          simp [this]
      · clear h1 h2
        have hkk : k = xs.length := by omega
        go_wp2
        go_ret
        refine ⟨?_, _, rfl⟩
        have : xs = ys := eq_upto HL.out (by rw [← hkk]; exact HE.out)
        simp [this]
  · have hlB : ((xs.length : Int) != (ys.length : Int)) = true := by simp; omega
    go_enter Tryd.func98, Tryd.ntmps98
    go_wp2
    go_ret
    have : xs ≠ ys := fun e => hl (by rw [e])
    exact ⟨by simp [this], 0, rfl⟩
end Go.Proofs.YtbbjmompbmgnmaaDoor

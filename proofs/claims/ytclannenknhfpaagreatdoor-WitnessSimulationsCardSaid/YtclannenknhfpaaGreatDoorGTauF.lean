/-
  tauscc.walk.from: from a state on, all that silent steps lead to.
  tauscc.cycles: the classes of a graph's cycles of silent steps.
  tauscc.Cycles: which states come from one another by silent steps.
  slices.Equal at []int.
  system.Classes.
  semblancebook.SameInts.
-/
import Derived.Test.YtclannenknhfpaaGreatDoorGCanon
import Derived.Test.YtclannenknhfpaaGreatDoorGPl10
import Derived.Test.YtclannenknhfpaaGreatDoorGAs
import Derived.Test.YtclannenknhfpaaGreatDoorGNew
import Derived.Test.YtclannenknhfpaaGreatDoorGKit
import Derived.Outline
import Derived.Deep.QuietTactic
import Derived.BigQuiet
namespace Go.Proofs.YtclannenknhfpaaGreatDoor
open Go.RowKit Pl

section
variable {w0 wr : World} {B WB LB NB IB CB n : Nat} {gp : Value} {low num cls : Nat → Int} {iso : Nat → Bool} {met found : Int} {ol : List Int} {sl0 : List E} {vo vs : Value}

end

end Go.Proofs.YtclannenknhfpaaGreatDoor

namespace Go.Proofs.YtclannenknhfpaaGreatDoor
open Go.RowKit Pl

def t0S : TS := ⟨fun _ => 0, fun _ => 0, fun _ => 0, [], 0, 0⟩

theorem row_of_heap {w2 : World} {z : Value} {n b : Nat} {T : TypeId} (h : w2.heap[b]? = some (.cells (madeCells #[z] n) T (0, 0))) : w2.rowIs b T n (fun _ => z) :=
  ⟨_, h, size_madeCells _ _, fun i hi => by simp [madeCells, hi, Nat.mod_one]⟩

theorem wfI {x : Int} (h0 : 0 ≤ x) (h1 : x ≤ 1000000) : (Lit.int .i64 x).wf = true := by
  rw [show x = ((x.toNat : Nat) : Int) by omega]
  exact WalkArith.wf_i64 (by omega)
/-- A row of numbers reads as a list. -/
theorem slAt_row1 {w : World} {tb n : Nat} {f : Nat → Int} (h : w.rowIs tb 3 n (fun j => .int .i64 (f j))) : SlAt encI 1 w (some ⟨tb, 0, none⟩) tb 0 (fl n f) :=
  ⟨fun _ => rfl, fun _ => h.lt, fun i x hx j u hu => by
    have hi := (List.getElem?_eq_some_iff.1 hx).1
    rw [fl_len] at hi
    have hxe : x = f i := by
      rw [fl_get f hi] at hx
      simpa using hx.symm
    have hj := (List.getElem?_eq_some_iff.1 hu).1
    rw [lenI] at hj
    obtain rfl : j = 0 := by omega
    have h2 := h.cell hi
    simp only [encI, List.getElem?_cons_zero, Option.some.injEq] at hu
    rw [← hu, hxe, Nat.zero_add, Nat.mul_one, Nat.add_zero]
    exact h2⟩

/-- What cycles answers. -/
def CycPost (s : Lts) (n : Nat) (w : World) (e : Ending) (w' : World) : Prop :=
  ∃ (f : Nat → Int) (v : Value), Cyc s n f ∧ e = .returned v ∧ w'.ownsRow w.heap.size 3 1 v n ((fl n (clf n f)).flatMap encI) ∧ Below w.heap.size w w'

end Go.Proofs.YtclannenknhfpaaGreatDoor

namespace Go.Proofs.YtclannenknhfpaaGreatDoor
open Go.RowKit Pl

namespace Pl
theorem tau_norm {s : Lts} {x y : Nat} : tau s.norm x y ↔ tau s x y := mem_nf stoE _ s.es
theorem TR_norm {s : Lts} {x y : Nat} : TR s.norm x y ↔ TR s x y := by
  constructor
  · intro h
    induction h with
    | refl => exact .refl
    | tail _ ht ih => exact ih.tail (tau_norm.1 ht)
  · intro h
    induction h with
    | refl => exact .refl
    | tail _ ht ih => exact ih.tail (tau_norm.2 ht)
theorem Cyc.of_norm {s : Lts} {n : Nat} {f : Nat → Int} (h : Cyc s.norm n f) : Cyc s n f :=
  ⟨fun x y hx hy => by rw [h.same x y hx hy, TR_norm, TR_norm], fun x y hxy => h.down x y (tau_norm.2 hxy)⟩
end Pl

def tauName : ByteArray := ⟨#[116, 97, 117, 115, 99, 99]⟩
/-- A fault of this layer over one of the layer system. -/
def Fault2 (w : World) (p : Addr) (v : Value) : Prop :=
  ∃ vi, FaultAt w v tauName vi ∧ FaultAt w vi sysName (.iface 197 (.pointer (some p)))
theorem Fault2.below {w w' : World} {p : Addr} {v : Value} (h : Fault2 w p v) (hB : Below w.heap.size w w') : Fault2 w' p v := by
  obtain ⟨vi, h1, h2⟩ := h
  exact ⟨vi, h1.below hB, h2.below hB⟩

end Go.Proofs.YtclannenknhfpaaGreatDoor

namespace Go.Proofs.YtclannenknhfpaaGreatDoor
open Go.RowKit Pl

theorem eq_upto {α : Type} {xs ys : List α} (hl : xs.length = ys.length) (h : ∀ j, j < xs.length → xs[j]? = ys[j]?) : xs = ys := by
  apply List.ext_getElem? ; intro i
  by_cases hi : i < xs.length
  · exact h i hi
  · rw [List.getElem?_eq_none (by omega), List.getElem?_eq_none (by omega)]

set_option maxRecDepth 100000 in
theorem slicesEqual_any {a1 a2 : Option Addr} {b1 o1 c1 b2 o2 c2 : Nat} {xs ys : List Int} {w : World} (h1 : SlAt encI 1 w a1 b1 o1 xs) (h2 : SlAt encI 1 w a2 b2 o2 ys) (hx : xs.length ≤ 9223372036854775807) (hy : ys.length ≤ 9223372036854775807) :
    Calls Tryz.prog 99 #[.slice a1 xs.length c1, .slice a2 ys.length c2] w fun e w' => e = .returned (.bool (decide (xs = ys))) ∧ ∃ n, w' = w.drewN n := by
  by_cases hl : xs.length = ys.length
  · have hlB : ((xs.length : Int) != (ys.length : Int)) = false := by simp [hl]
    have HL := Lib.hid hl; clear hl
    go_enter Tryz.func99, Tryz.ntmps99
    go_wp2
    go_loopw [5, 13] (fun _ i wr => ∃ k m : Nat, k ≤ xs.length ∧ i = .int .i64 k ∧ (∀ j, j < k → xs[j]? = ys[j]?) ∧ wr = w.drewN m)
      (fun _ i _ => xs.length - (intOf i).toNat)
    case atStart => exact ⟨0, 0, Nat.zero_le _, rfl, by intro j hj; omega, rfl⟩
    case round =>
      obtain ⟨k, m, hk, rfl, heq, rfl⟩ := hrel
      have HE := Lib.hid heq; clear heq
      by_cases hlt : k < xs.length
      · have hlt2 : k < ys.length := by rw [← HL.out]; exact hlt
        obtain ⟨x, hxk⟩ := getElem?_of_lt hlt
        obtain ⟨y, hyk⟩ := getElem?_of_lt hlt2
        obtain rfl := h1.ad (by omega)
        obtain rfl := h2.ad (by omega)
        have hc0 := h1.ci hxk
        have hc1 := h2.ci hyk
        have hi1 : (k : Int) < (xs.length : Int) := by omega
        have hi2 : (k : Int) < (ys.length : Int) := by omega
        have HX := Lib.hid hxk; have HY := Lib.hid hyk
        clear h1 h2 hxk hyk
        by_cases hxy : x = y
        · have hb : (x != y) = false := by simp [hxy]
          have HXY := Lib.hid hxy; clear hxy
          go_wp2_with fail
          go_quiet (fail)
          go_wp2
          go_roundw
          case rel => exact ⟨k + 1, _, by omega, by go_num, by
            intro j hj
            by_cases hjk : j = k
            · subst hjk; rw [HX.out, HY.out, HXY.out]
            · exact HE.out j (by omega), rfl⟩
          case measure => simp [intOf]; omega
        · have hb : (x != y) = true := by simp [hxy]
          have HXY := Lib.hid hxy; clear hxy
          go_wp2_with fail
          go_quiet (fail)
          go_wp2
          go_ret
          refine ⟨?_, _, World.drewN_drewN _ _ _⟩
          have : xs ≠ ys := fun e => HXY.out (by have h1 := HX.out; have h2 := HY.out; rw [e, h2] at h1; simpa using h1.symm)
          simp [this]
      · clear h1 h2
        have hkk : k = xs.length := by omega
        go_wp2
        go_ret
        refine ⟨?_, _, rfl⟩
        have : xs = ys := eq_upto HL.out (by rw [← hkk]; exact HE.out)
        simp [this]
  · have hlB : ((xs.length : Int) != (ys.length : Int)) = true := by simp; omega
    go_enter Tryz.func99, Tryz.ntmps99
    go_wp2
    go_ret
    have : xs ≠ ys := fun e => hl (by rw [e])
    exact ⟨by simp [this], 0, rfl⟩
end Go.Proofs.YtclannenknhfpaaGreatDoor

namespace Go.Proofs.YtclannenknhfpaaGreatDoor
open Go.RowKit Pl

theorem below_drewC {w0 w : World} {B n : Nat} (h : Below B w0 w) : Below B w0 (w.drewN n) := ⟨h.os, h.tape, h.output, h.size, h.block⟩

/-- What system.Classes says. -/
def clB (st : Int) (l : List Int) : Bool := decide ((l.length : Int) = st) && decide (l = canon l)

set_option maxRecDepth 100000 in
theorem classes_any {w : World} {a : Option Addr} {b off c : Nat} {l : List Int} (st lb s0 : Int) (ev : Value) (hS : SlAt encI 1 w a b off l) (hn : l.length ≤ 1000000) (hwf : ∀ x ∈ l, (Lit.int .i64 x).wf = true) :
    Calls Tryz.prog 81 #[.agg #[.int .i64 st, .int .i64 lb, .int .i64 s0, ev], .slice a l.length c] w fun e w' => e = .returned (.bool (clB st l)) ∧ Below w.heap.size w w' := by
  have HS := Lib.hid hS; have HWF := Lib.hid hwf
  clear hS hwf
  unfold clB
  by_cases hl : (l.length : Int) = st
  · subst hl
    go_enter Tryz.func81, Tryz.ntmps81
    go_wp2_with fail
    have hB0 := (Below.refl w.heap.size w).alloc (Nat.le_refl _) (Obj.cells #[.int .i64 l.length, .int .i64 lb, .int .i64 s0, ev] 24)
    have hS0 := HS.out.below hB0 (Nat.le_refl _)
    refine (canon_any hS0 hn HWF.out).mono ?_
    rintro e w1 ⟨v, rfl, hown, hB1⟩
    have hlc := canon_len l
    rw [← hlc] at hown
    obtain ⟨a1, c1, b1, rfl, _, _, hs1, _⟩ := slAt_own lenI hown
    have hB1' := hB0.trans (hB1.mono (by simp))
    have hq := slicesEqual_any (c1 := c) (c2 := c1) (HS.out.below hB1' (Nat.le_refl _)) hs1 (by omega) (by omega)
    rw [hlc] at hq
    have HQ := Lib.hid hq; have HB := Lib.hid hB1'
    clear hB0 hS0 hown hB1 hs1 hB1' hq
    go_wp2_with fail
    refine (HQ.out).mono ?_
    rintro e w2 ⟨rfl, m, rfl⟩
    go_wp2
    go_ret
    exact ⟨by simp, below_drewC HB.out⟩
  · have hb : ((l.length : Int) == st) = false := by simp [hl]
    go_enter Tryz.func81, Tryz.ntmps81
    go_wp2
    go_ret
    exact ⟨by simp [hl], (Below.refl w.heap.size w).alloc (Nat.le_refl _) _⟩
end Go.Proofs.YtclannenknhfpaaGreatDoor

namespace Go.Proofs.YtclannenknhfpaaGreatDoor
open Go.RowKit Pl

set_option maxRecDepth 100000 in
theorem sameInts_any {a1 a2 : Option Addr} {b1 o1 c1 b2 o2 c2 : Nat} {xs ys : List Int} {w : World} (h1 : SlAt encI 1 w a1 b1 o1 xs) (h2 : SlAt encI 1 w a2 b2 o2 ys) (hx : xs.length ≤ 4611686018427387904) (hy : ys.length ≤ 4611686018427387904) :
    Calls Tryz.prog 32 #[.slice a1 xs.length c1, .slice a2 ys.length c2] w fun e w' => e = .returned (.bool (decide (xs = ys))) ∧ ∃ n, w' = w.drewN n := by
  by_cases hl : xs.length = ys.length
  · have hlB : ((xs.length : Int) != (ys.length : Int)) = false := by simp [hl]
    have HL := Lib.hid hl; clear hl
    go_enter Tryz.func32, Tryz.ntmps32
    go_wp2
    go_loopw [5] (fun i wr => ∃ k m : Nat, k ≤ xs.length ∧ i = .int .i64 k ∧ (∀ j, j < k → xs[j]? = ys[j]?) ∧ wr = w.drewN m)
      (fun i _ => xs.length - (intOf i).toNat)
    case atStart => exact ⟨0, 0, Nat.zero_le _, rfl, by intro j hj; omega, rfl⟩
    case round =>
      obtain ⟨k, m, hk, rfl, heq, rfl⟩ := hrel
      have HE := Lib.hid heq; clear heq
      by_cases hlt : k < xs.length
      · have hlt2 : k < ys.length := by rw [← HL.out]; exact hlt
        obtain ⟨x, hxk⟩ := getElem?_of_lt hlt
        obtain ⟨y, hyk⟩ := getElem?_of_lt hlt2
        obtain rfl := h1.ad (by omega)
        obtain rfl := h2.ad (by omega)
        have hc0 := h1.ci hxk
        have hc1 := h2.ci hyk
        have hi1 : (k : Int) < (xs.length : Int) := by omega
        have hi2 : (k : Int) < (ys.length : Int) := by omega
        have HX := Lib.hid hxk; have HY := Lib.hid hyk
        clear h1 h2 hxk hyk
        by_cases hxy : x = y
        · have hb : (x == y) = true := by simp [hxy]
          have HXY := Lib.hid hxy; clear hxy
          go_wp2_with fail
          go_quiet (fail)
          go_wp2
          go_roundw
          case rel => exact ⟨k + 1, _, by omega, by go_num, by
            intro j hj
            by_cases hjk : j = k
            · subst hjk; rw [HX.out, HY.out, HXY.out]
            · exact HE.out j (by omega), rfl⟩
          case measure => simp [intOf]; omega
        · have hb : (x == y) = false := by simp [hxy]
          have HXY := Lib.hid hxy; clear hxy
          go_wp2_with fail
          go_quiet (fail)
          go_wp2
          go_ret
          refine ⟨?_, _, World.drewN_drewN _ _ _⟩
          have : xs ≠ ys := fun e => HXY.out (by have h1 := HX.out; have h2 := HY.out; rw [e, h2] at h1; simpa using h1.symm)
          simp [this]
      · clear h1 h2
        have hkk : k = xs.length := by omega
        go_wp2
        go_ret
        refine ⟨?_, _, rfl⟩
        have : xs = ys := eq_upto HL.out (by rw [← hkk]; exact HE.out)
        simp [this]
  · have hlB : ((xs.length : Int) != (ys.length : Int)) = true := by simp; omega
    go_enter Tryz.func32, Tryz.ntmps32
    go_wp2
    go_ret
    have : xs ≠ ys := fun e => hl (by rw [e])
    exact ⟨by simp [this], 0, rfl⟩
end Go.Proofs.YtclannenknhfpaaGreatDoor

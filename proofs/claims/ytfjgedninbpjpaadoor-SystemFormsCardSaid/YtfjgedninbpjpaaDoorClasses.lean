/-
  system.Classes.
-/
import Derived.Test.YtfjgedninbpjpaaDoorCanon
import Derived.Test.YtfjgedninbpjpaaDoorEqual
namespace Go.Proofs.YtfjgedninbpjpaaDoor
open Go.RowKit Pl

theorem below_drewN {w0 w : World} {B n : Nat} (h : Below B w0 w) : Below B w0 (w.drewN n) := ⟨h.os, h.tape, h.output, h.size, h.block⟩

/-- What system.Classes says. -/
def clB (st : Int) (l : List Int) : Bool := decide ((l.length : Int) = st) && decide (l = canon l)

set_option maxRecDepth 100000 in
theorem classes_any {w : World} {a : Option Addr} {b off c : Nat} {l : List Int} (st lb s0 : Int) (ev : Value) (hS : SlAt encI 1 w a b off l) (hn : l.length ≤ 1000000) (hwf : ∀ x ∈ l, (Lit.int .i64 x).wf = true) :
    Calls Tryd.prog 40 #[.agg #[.int .i64 st, .int .i64 lb, .int .i64 s0, ev], .slice a l.length c] w fun e w' => e = .returned (.bool (clB st l)) ∧ Below w.heap.size w w' := by
  have HS := Lib.hid hS; have HWF := Lib.hid hwf
  clear hS hwf
  unfold clB
  by_cases hl : (l.length : Int) = st
  · subst hl
    go_enter Tryd.func40, Tryd.ntmps40
    go_wp2_with fail
    have hB0 := (Below.refl w.heap.size w).alloc (Nat.le_refl _) (Obj.cells #[.int .i64 l.length, .int .i64 lb, .int .i64 s0, ev] 24)
    have hS0 := HS.out.below hB0 (Nat.le_refl _)
    refine (canon_any hS0 hn HWF.out).mono ?_
    rintro e w1 ⟨v, rfl, hown, hB1⟩
    have hlc := canon_len l
    rw [← hlc] at hown
    obtain ⟨a1, c1, b1, rfl, _, _, hs1, _⟩ := slAt_own lenI hown
    have hB1' := hB0.trans (hB1.mono (by simp))
    have hq := slicesEqual_any (c1 := c) (c2 := c1) (HS.out.below hB1' (Nat.le_refl _)) hs1 (by omega) (by omega)
    rw [hlc] at hq
    have HQ := Lib.hid hq; have HB := Lib.hid hB1'
    clear hB0 hS0 hown hB1 hs1 hB1' hq
    go_wp2_with fail
    refine (HQ.out).mono ?_
    rintro e w2 ⟨rfl, m, rfl⟩
    go_wp2
    go_ret
    exact ⟨by simp, below_drewN HB.out⟩
  · have hb : ((l.length : Int) == st) = false := by simp [hl]
    go_enter Tryd.func40, Tryd.ntmps40
    go_wp2
    go_ret
    exact ⟨by simp [hl], (Below.refl w.heap.size w).alloc (Nat.le_refl _) _⟩
end Go.Proofs.YtfjgedninbpjpaaDoor

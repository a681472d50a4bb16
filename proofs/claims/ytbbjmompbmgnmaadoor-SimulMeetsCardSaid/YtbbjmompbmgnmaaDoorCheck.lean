/-
  system.Check: nil of a system that is one, a fault of any other.
-/
import Derived.Test.YtbbjmompbmgnmaaDoorFault
namespace Go.Proofs.YtbbjmompbmgnmaaDoor
open Go.RowKit Pl

theorem check_ok {p : Addr} {s : Lts} (h : s.Right) (a : Option Addr) (b off c : Nat) (w : World) (hG : GErr 0 p w) (hS : SlAt encE 3 w a b off s.es) :
    Calls Tryd.prog 38 #[.agg #[.int .i64 s.st, .int .i64 s.lb, .int .i64 s.s0, .slice a s.es.length c]] w fun e w' => e = .returned .nilIface ∧ Below w.heap.size w w' := by
  refine (check_body s.st s.lb s.s0 a b off c s.es w hG h.head hS).mono ?_
  rintro e w' ⟨h1, h2⟩
  have : s.es.all (fun x => !offB s.st s.lb x) = true := by rw [List.all_eq_true]; intro x hx; simp [h.edges x hx]
  unfold CheckPost at h1
  rw [this] at h1
  exact ⟨h1, h2⟩

theorem check_no {p : Addr} {s : Lts} (h : ¬ s.Right) (a : Option Addr) (b off c : Nat) (w : World) (hG : GErr 0 p w) (hS : SlAt encE 3 w a b off s.es) :
    Calls Tryd.prog 38 #[.agg #[.int .i64 s.st, .int .i64 s.lb, .int .i64 s.s0, .slice a s.es.length c]] w fun e w' =>
      ∃ v, e = .returned v ∧ FaultAt w' v ⟨#[115, 121, 115, 116, 101, 109]⟩ (.iface 208 (.pointer (some p))) ∧ Below w.heap.size w w' := by
  by_cases hh : HeadBad s.st s.lb s.s0 s.es.length
  · exact check_head s.st s.lb s.s0 a s.es.length c w hG hh
  · refine (check_body s.st s.lb s.s0 a b off c s.es w hG hh hS).mono ?_
    rintro e w' ⟨h1, h2⟩
    have : s.es.all (fun x => !offB s.st s.lb x) = false := by
      rw [Bool.eq_false_iff]; intro ha; rw [List.all_eq_true] at ha
      exact h ⟨hh, fun x hx => by simpa using ha x hx⟩
    unfold CheckPost at h1
    rw [this] at h1
    obtain ⟨v, h1, h3⟩ := h1
    exact ⟨v, h1, h3, h2⟩

end Go.Proofs.YtbbjmompbmgnmaaDoor

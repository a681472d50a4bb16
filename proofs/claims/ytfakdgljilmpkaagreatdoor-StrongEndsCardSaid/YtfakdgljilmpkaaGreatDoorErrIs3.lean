/-
  errors.Is over a fault of strong that wraps a fault of system.
-/
import Derived.Test.YtfakdgljilmpkaaGreatDoorGFault
import Derived.Test.YtfakdgljilmpkaaGreatDoorGNewC
namespace Go.Proofs.YtfakdgljilmpkaaGreatDoor
open Go.RowKit Go.Extern.Stop Go.Stop Go.Extern Pl

set_option maxRecDepth 100000 in
/-- errors.Is(a fault that wraps a fault that wraps x itself, x). -/
theorem is_faultS_same (pb pc : Nat) (b : Addr) (w : World) (h1 : w.cell? ⟨pb, 3, none⟩ = some (.iface 160 (.pointer (some ⟨pc, 0, none⟩)))) (h2 : w.cell? ⟨pc, 3, none⟩ = some (.iface 275 (.pointer (some b)))) :
    Calls Tryz.prog 27 #[.iface 160 (.pointer (some ⟨pb, 0, none⟩)), .iface 275 (.pointer (some b))] w fun e w' => e = .returned (.bool true) ∧ w = w' := by
  obtain ⟨i, hi, hcmp⟩ := Option.map_eq_some_iff.1 isComp
  obtain ⟨j, hj, hjs⟩ := Option.map_eq_some_iff.1 isSize
  have tT := isTypeOf
  have cT := isComparable
  have mR := isMethodComparable
  have nE := noIsE
  have uE := noUnwrapE
  have vE := noUnwrapsE
  have nW := noIsW
  have uW := hasUnwrapW
  have mU := methodUnwrap
  have heq := run_eql_iface_ptr_same (P := Tryz.prog) w b Tryz.underlying28 Tryz.underlying275 hi hcmp hj
  have hty := run_eql_iface_types (P := Tryz.prog) 160 275 (.pointer (some ⟨pb, 0, none⟩)) (.pointer (some b)) Tryz.underlying28 (by decide) w
  have hty2 := run_eql_iface_types (P := Tryz.prog) 160 275 (.pointer (some ⟨pc, 0, none⟩)) (.pointer (some b)) Tryz.underlying28 (by decide) w
  go_enter Tryz.func27, Tryz.ntmps27
  go_wp2
  refine wp_loop_rounds 3 ?_
  rw [rounds_succ]
  go_wp2
  rw [rounds_succ]
  go_wp2
  rw [rounds_succ]
  go_wp2
  go_ret
  exact ⟨rfl, rfl⟩

/-- .. at a FaultS. -/
theorem is_FaultS {w : World} {p : Addr} {v : Value} (h : FaultS w p v) :
    Calls Tryz.prog 27 #[v, .iface 275 (.pointer (some p))] w fun e w' => e = .returned (.bool true) ∧ w = w' := by
  obtain ⟨vi, ⟨b, rfl, hb⟩, ⟨b2, rfl, hb2⟩⟩ := h
  exact is_faultS_same b b2 p w (by simp [World.cell?, hb]) (by simp [World.cell?, hb2])
end Go.Proofs.YtfakdgljilmpkaaGreatDoor

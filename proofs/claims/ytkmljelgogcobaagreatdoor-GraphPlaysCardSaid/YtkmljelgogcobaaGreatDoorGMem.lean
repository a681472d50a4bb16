/-
  What a call owns, and what is read, under changes elsewhere.
  errors.Is over faults: a fault of a layer wraps a package-level error; api.Code.
-/
import Derived.Test.YtkmljelgogcobaaGreatDoorGBase
import Derived.LaidEql
import Derived.Stop.Asserts
import Derived.RowKitTokens
namespace Go.Proofs.YtkmljelgogcobaaGreatDoor
open Go.RowKit Pl

theorem heap_alloc_at (w : World) (o : Obj) (g : Nat) (h : g = w.heap.size) : (w.alloc o).heap[g]? = some o := by subst h; exact heap_alloc_new w o
theorem size_setCell (w : World) (p : Addr) (v : Value) : (w.setCell p v).heap.size = w.heap.size := by simp [World.setCell]

theorem own_below {w w' : World} {base : Nat} {e : TypeId} {k n : Nat} {v : Value} {xs : List Value} (h : w.ownsRow base e k v n xs) (hB : Below w.heap.size w w') : w'.ownsRow base e k v n xs := by
  refine ⟨h.1, ?_⟩
  rcases h.2 with h2 | ⟨g, cap, cur, hv, hb, hg, r⟩
  · exact .inl h2
  · exact .inr ⟨g, cap, cur, hv, hb, by rw [hB.block _ (Array.getElem?_eq_some_iff.1 hg).1]; exact hg, r⟩

theorem SlAt.setOther {α : Type} {enc : α → List Value} {k : Nat} {w : World} {a : Option Addr} {b off : Nat} {xs : List α} (h : SlAt enc k w a b off xs) {p : Addr} (hp : 0 < xs.length → b ≠ p.block) (v : Value) : SlAt enc k (w.setCell p v) a b off xs :=
  ⟨h.ad, fun hl => by have := h.lt hl; simpa [World.setCell] using this, fun i x hx j u hu => by
    have hl : 0 < xs.length := by have := (List.getElem?_eq_some_iff.1 hx).1; omega
    rw [World.cell?_of_block (w := w) (a := ⟨b, off + i * k + j, none⟩) (Below.heap_setCell _ _ _ _ (hp hl))]
    exact h.cell i x hx j u hu⟩
theorem SlAt.alloc {α : Type} {enc : α → List Value} {k : Nat} {w : World} {a : Option Addr} {b off : Nat} {xs : List α} (h : SlAt enc k w a b off xs) (o : Obj) : SlAt enc k (w.alloc o) a b off xs :=
  h.below ((Below.refl w.heap.size w).alloc (Nat.le_refl _) o) (Nat.le_refl _)

theorem heap_set2 {w : World} {g i j : Nat} {c : Array Value} {e : TypeId} {a b : Value} (h : w.heap[g]? = some (.cells c e (0, 0))) :
    ((w.setCell ⟨g, i, none⟩ a).setCell ⟨g, j, none⟩ b).heap[g]? = some (.cells ((c.setIfInBounds i a).setIfInBounds j b) e (0, 0)) :=
  heap_setCell_same _ g j _ e b (heap_setCell_same w g i c e a h)

theorem own_mono {w : World} {base base' : Nat} {e : TypeId} {k : Nat} {v : Value} {n : Nat} {xs : List Value} (h : w.ownsRow base e k v n xs) (hb : base' ≤ base) : w.ownsRow base' e k v n xs := by
  refine ⟨h.1, ?_⟩
  rcases h.2 with h2 | ⟨g, cap, cur, hv, hg, r⟩
  · exact .inl h2
  · exact .inr ⟨g, cap, cur, hv, Nat.le_trans hb hg, r⟩

theorem bdrew {w0 w : World} {B n : Nat} (h : Below B w0 w) : Below B w0 (w.drewN n) := ⟨h.os, h.tape, h.output, h.size, h.block⟩

end Go.Proofs.YtkmljelgogcobaaGreatDoor

namespace Go.Proofs.YtkmljelgogcobaaGreatDoor
open Go.RowKit Go.Extern.Stop Go.Stop Go.Extern Pl

/-! closed facts: what TypeOf(target).Comparable() gives at such a target; what the assertions find -/
theorem isTypeOf (v : Value) (w : World) : (callFunc 181 #[.iface 248 v]).run Tryz.prog w = .ok (.value (.iface 229 (.agg #[.pointer (some ⟨20, 248, none⟩)]))) w := by kernel_rfl
theorem isComparable (w : World) : (callFunc 219 #[.agg #[.pointer (some ⟨20, 248, none⟩)]]).run Tryz.prog w = .ok (.value (.bool true)) w := by kernel_rfl
theorem isMethodComparable (v : Value) (w : World) : (Go.method 380 229 v "Comparable").run Tryz.prog w = .ok (219, v) w := by kernel_rfl
theorem isComp : (Tryz.prog.info? 248).map (·.comparable) = some true := by kernel_rfl
theorem isSize : (Tryz.prog.info? 268).map (·.size) = some 1 := by kernel_rfl
theorem noIsE (v : Value) (xT : TypeId) (w : World) : (Instr.typeAssert (.iface 248 v) xT 241 true).run Tryz.prog w = .ok (.tuple #[.nilIface, .bool false]) w := run_typeAssert_lacksB Tryz.underlying241 (by kernel_rfl) (by kernel_rfl) v xT w
theorem noUnwrapE (v : Value) (xT : TypeId) (w : World) : (Instr.typeAssert (.iface 248 v) xT 236 true).run Tryz.prog w = .ok (.tuple #[.nilIface, .bool false]) w := run_typeAssert_lacksB Tryz.underlying236 (by kernel_rfl) (by kernel_rfl) v xT w
theorem noUnwrapsE (v : Value) (xT : TypeId) (w : World) : (Instr.typeAssert (.iface 248 v) xT 238 true).run Tryz.prog w = .ok (.tuple #[.nilIface, .bool false]) w := run_typeAssert_lacksB Tryz.underlying238 (by kernel_rfl) (by kernel_rfl) v xT w
theorem noIsW (v : Value) (xT : TypeId) (w : World) : (Instr.typeAssert (.iface 131 v) xT 241 true).run Tryz.prog w = .ok (.tuple #[.nilIface, .bool false]) w := run_typeAssert_lacksB Tryz.underlying241 (by kernel_rfl) (by kernel_rfl) v xT w
theorem hasUnwrapW (v : Value) (xT : TypeId) (w : World) : (Instr.typeAssert (.iface 131 v) xT 236 true).run Tryz.prog w = .ok (.tuple #[.iface 131 v, .bool true]) w := run_typeAssert_hasB Tryz.underlying236 (by kernel_rfl) v xT w
theorem methodUnwrap (v : Value) (w : World) : (Go.method 380 131 v "Unwrap").run Tryz.prog w = .ok (213, v) w := by kernel_rfl

/-- (*Fault).Unwrap. -/
theorem unwrap_any {b : Nat} {inner : Value} {w : World} (h : w.cell? ⟨b, 3, none⟩ = some inner) :
    Calls Tryz.prog 213 #[.pointer (some ⟨b, 0, none⟩)] w fun e w' => e = .returned inner ∧ w = w' := by
  go_enter Tryz.func213, Tryz.ntmps213
  go_wp2
  go_ret
  exact ⟨rfl, rfl⟩

/-- errors.Is(nil, x). -/
theorem is_nil (b : Addr) (w : World) :
    Calls Tryz.prog 151 #[.nilIface, .iface 248 (.pointer (some b))] w fun e w' => e = .returned (.bool false) ∧ w = w' := by
  have hn := run_eql_iface_nil_left (P := Tryz.prog) w 248 (.pointer (some b)) Tryz.underlying28
  go_enter Tryz.func151, Tryz.ntmps151
  go_wp2
  go_ret
  exact ⟨rfl, rfl⟩

set_option maxRecDepth 100000 in
/-- errors.Is(a fault that wraps x itself, x). -/
theorem is_fault_same (pb : Nat) (b : Addr) (w : World) (h1 : w.cell? ⟨pb, 3, none⟩ = some (.iface 248 (.pointer (some b)))) :
    Calls Tryz.prog 151 #[.iface 131 (.pointer (some ⟨pb, 0, none⟩)), .iface 248 (.pointer (some b))] w fun e w' => e = .returned (.bool true) ∧ w = w' := by
  obtain ⟨i, hi, hcmp⟩ := Option.map_eq_some_iff.1 isComp
  obtain ⟨j, hj, hjs⟩ := Option.map_eq_some_iff.1 isSize
  have tT := isTypeOf
  have cT := isComparable
  have mR := isMethodComparable
  have nE := noIsE
  have uE := noUnwrapE
  have vE := noUnwrapsE
  have nW := noIsW
  have uW := hasUnwrapW
  have mU := methodUnwrap
  have heq := run_eql_iface_ptr_same (P := Tryz.prog) w b Tryz.underlying28 Tryz.underlying248 hi hcmp hj
  have hty := run_eql_iface_types (P := Tryz.prog) 131 248 (.pointer (some ⟨pb, 0, none⟩)) (.pointer (some b)) Tryz.underlying28 (by decide) w
  go_enter Tryz.func151, Tryz.ntmps151
  go_wp2
  refine wp_loop_rounds 2 ?_
  rw [rounds_succ]
  go_wp2
  rw [rounds_succ]
  go_wp2
  go_ret
  exact ⟨rfl, rfl⟩

set_option maxRecDepth 100000 in
/-- errors.Is(a fault that wraps another error, x). -/
theorem is_fault_other (pb : Nat) (b a : Addr) (ca cb : Array Value) (ta tb : TypeId) (w : World) (h1 : w.cell? ⟨pb, 3, none⟩ = some (.iface 248 (.pointer (some a)))) (hne : a ≠ b) (ha : w.heap[a.block]? = some (.cells ca ta (0, 0))) (hb : w.heap[b.block]? = some (.cells cb tb (0, 0))) :
    Calls Tryz.prog 151 #[.iface 131 (.pointer (some ⟨pb, 0, none⟩)), .iface 248 (.pointer (some b))] w fun e w' => e = .returned (.bool false) ∧ w = w' := by
  obtain ⟨i, hi, hcmp⟩ := Option.map_eq_some_iff.1 isComp
  obtain ⟨j, hj, hjs⟩ := Option.map_eq_some_iff.1 isSize
  have tT := isTypeOf
  have cT := isComparable
  have mR := isMethodComparable
  have nE := noIsE
  have uE := noUnwrapE
  have vE := noUnwrapsE
  have nW := noIsW
  have uW := hasUnwrapW
  have mU := methodUnwrap
  have heq := run_eql_iface_ptr_other (P := Tryz.prog) w Tryz.underlying28 Tryz.underlying248 hi hcmp hj (by rw [hjs]; decide) hne ha hb
  have hty := run_eql_iface_types (P := Tryz.prog) 131 248 (.pointer (some ⟨pb, 0, none⟩)) (.pointer (some b)) Tryz.underlying28 (by decide) w
  go_enter Tryz.func151, Tryz.ntmps151
  go_wp2
  refine wp_loop_rounds 2 ?_
  rw [rounds_succ]
  go_wp2
  rw [rounds_succ]
  go_wp2
  go_ret
  exact ⟨rfl, rfl⟩
end Go.Proofs.YtkmljelgogcobaaGreatDoor

/-
  What a call owns, and what is read, under changes elsewhere.
  errors.Is over faults: a fault of a layer wraps a package-level error; api.Code.
-/
import Derived.Test.YtbbjmompbmgnmaaDoorG6
import Derived.LaidEql
import Derived.Stop.Asserts
import Derived.RowKitTokens
namespace Go.Proofs.YtbbjmompbmgnmaaDoor
open Go.RowKit Pl

theorem heap_alloc_at (w : World) (o : Obj) (g : Nat) (h : g = w.heap.size) : (w.alloc o).heap[g]? = some o := by subst h; exact heap_alloc_new w o
theorem size_setCell (w : World) (p : Addr) (v : Value) : (w.setCell p v).heap.size = w.heap.size := by simp [World.setCell]

theorem own_below {w w' : World} {base : Nat} {e : TypeId} {k n : Nat} {v : Value} {xs : List Value} (h : w.ownsRow base e k v n xs) (hB : Below w.heap.size w w') : w'.ownsRow base e k v n xs := by
  refine ⟨h.1, ?_⟩
  rcases h.2 with h2 | ⟨g, cap, cur, hv, hb, hg, r⟩
  · exact .inl h2
  · exact .inr ⟨g, cap, cur, hv, hb, by rw [hB.block _ (Array.getElem?_eq_some_iff.1 hg).1]; exact hg, r⟩

theorem SlAt.setOther {α : Type} {enc : α → List Value} {k : Nat} {w : World} {a : Option Addr} {b off : Nat} {xs : List α} (h : SlAt enc k w a b off xs) {p : Addr} (hp : 0 < xs.length → b ≠ p.block) (v : Value) : SlAt enc k (w.setCell p v) a b off xs :=
  ⟨h.ad, fun hl => by have := h.lt hl; simpa [World.setCell] using this, fun i x hx j u hu => by
    have hl : 0 < xs.length := by have := (List.getElem?_eq_some_iff.1 hx).1; omega
    rw [World.cell?_of_block (w := w) (a := ⟨b, off + i * k + j, none⟩) (Below.heap_setCell _ _ _ _ (hp hl))]
    exact h.cell i x hx j u hu⟩
theorem SlAt.alloc {α : Type} {enc : α → List Value} {k : Nat} {w : World} {a : Option Addr} {b off : Nat} {xs : List α} (h : SlAt enc k w a b off xs) (o : Obj) : SlAt enc k (w.alloc o) a b off xs :=
  h.below ((Below.refl w.heap.size w).alloc (Nat.le_refl _) o) (Nat.le_refl _)

theorem heap_set2 {w : World} {g i j : Nat} {c : Array Value} {e : TypeId} {a b : Value} (h : w.heap[g]? = some (.cells c e (0, 0))) :
    ((w.setCell ⟨g, i, none⟩ a).setCell ⟨g, j, none⟩ b).heap[g]? = some (.cells ((c.setIfInBounds i a).setIfInBounds j b) e (0, 0)) :=
  heap_setCell_same _ g j _ e b (heap_setCell_same w g i c e a h)

theorem own_mono {w : World} {base base' : Nat} {e : TypeId} {k : Nat} {v : Value} {n : Nat} {xs : List Value} (h : w.ownsRow base e k v n xs) (hb : base' ≤ base) : w.ownsRow base' e k v n xs := by
  refine ⟨h.1, ?_⟩
  rcases h.2 with h2 | ⟨g, cap, cur, hv, hg, r⟩
  · exact .inl h2
  · exact .inr ⟨g, cap, cur, hv, Nat.le_trans hb hg, r⟩

theorem bdrew {w0 w : World} {B n : Nat} (h : Below B w0 w) : Below B w0 (w.drewN n) := ⟨h.os, h.tape, h.output, h.size, h.block⟩

end Go.Proofs.YtbbjmompbmgnmaaDoor

namespace Go.Proofs.YtbbjmompbmgnmaaDoor
open Go.RowKit Go.Extern.Stop Go.Stop Go.Extern Pl

/-! closed facts: what TypeOf(target).Comparable() gives at such a target; what the assertions find -/
theorem isTypeOf (v : Value) (w : World) : (callFunc 69 #[.iface 208 v]).run Tryd.prog w = .ok (.value (.iface 132 (.agg #[.pointer (some ⟨6, 208, none⟩)]))) w := by kernel_rfl
theorem isComparable (w : World) : (callFunc 159 #[.agg #[.pointer (some ⟨6, 208, none⟩)]]).run Tryd.prog w = .ok (.value (.bool true)) w := by kernel_rfl
theorem isMethodComparable (v : Value) (w : World) : (Go.method 341 132 v "Comparable").run Tryd.prog w = .ok (159, v) w := by kernel_rfl
theorem isComp : (Tryd.prog.info? 208).map (·.comparable) = some true := by kernel_rfl
theorem isSize : (Tryd.prog.info? 229).map (·.size) = some 1 := by kernel_rfl
theorem noIsE (v : Value) (xT : TypeId) (w : World) : (Instr.typeAssert (.iface 208 v) xT 134 true).run Tryd.prog w = .ok (.tuple #[.nilIface, .bool false]) w := run_typeAssert_lacksB Tryd.underlying134 (by kernel_rfl) (by kernel_rfl) v xT w
theorem noUnwrapE (v : Value) (xT : TypeId) (w : World) : (Instr.typeAssert (.iface 208 v) xT 137 true).run Tryd.prog w = .ok (.tuple #[.nilIface, .bool false]) w := run_typeAssert_lacksB Tryd.underlying137 (by kernel_rfl) (by kernel_rfl) v xT w
theorem noUnwrapsE (v : Value) (xT : TypeId) (w : World) : (Instr.typeAssert (.iface 208 v) xT 139 true).run Tryd.prog w = .ok (.tuple #[.nilIface, .bool false]) w := run_typeAssert_lacksB Tryd.underlying139 (by kernel_rfl) (by kernel_rfl) v xT w
theorem noIsW (v : Value) (xT : TypeId) (w : World) : (Instr.typeAssert (.iface 143 v) xT 134 true).run Tryd.prog w = .ok (.tuple #[.nilIface, .bool false]) w := run_typeAssert_lacksB Tryd.underlying134 (by kernel_rfl) (by kernel_rfl) v xT w
theorem hasUnwrapW (v : Value) (xT : TypeId) (w : World) : (Instr.typeAssert (.iface 143 v) xT 137 true).run Tryd.prog w = .ok (.tuple #[.iface 143 v, .bool true]) w := run_typeAssert_hasB Tryd.underlying137 (by kernel_rfl) v xT w
theorem methodUnwrap (v : Value) (w : World) : (Go.method 341 143 v "Unwrap").run Tryd.prog w = .ok (169, v) w := by kernel_rfl

/-- (*Fault).Unwrap. -/
theorem unwrap_any {b : Nat} {inner : Value} {w : World} (h : w.cell? ⟨b, 3, none⟩ = some inner) :
    Calls Tryd.prog 169 #[.pointer (some ⟨b, 0, none⟩)] w fun e w' => e = .returned inner ∧ w = w' := by
  go_enter Tryd.func169, Tryd.ntmps169
  go_wp2
  go_ret
  exact ⟨rfl, rfl⟩

/-- errors.Is(nil, x). -/
theorem is_nil (b : Addr) (w : World) :
    Calls Tryd.prog 32 #[.nilIface, .iface 208 (.pointer (some b))] w fun e w' => e = .returned (.bool false) ∧ w = w' := by
  have hn := run_eql_iface_nil_left (P := Tryd.prog) w 208 (.pointer (some b)) Tryd.underlying31
  go_enter Tryd.func32, Tryd.ntmps32
  go_wp2
  go_ret
  exact ⟨rfl, rfl⟩

set_option maxRecDepth 100000 in
/-- errors.Is(a fault that wraps x itself, x). -/
theorem is_fault_same (pb : Nat) (b : Addr) (w : World) (h1 : w.cell? ⟨pb, 3, none⟩ = some (.iface 208 (.pointer (some b)))) :
    Calls Tryd.prog 32 #[.iface 143 (.pointer (some ⟨pb, 0, none⟩)), .iface 208 (.pointer (some b))] w fun e w' => e = .returned (.bool true) ∧ w = w' := by
  obtain ⟨i, hi, hcmp⟩ := Option.map_eq_some_iff.1 isComp
  obtain ⟨j, hj, hjs⟩ := Option.map_eq_some_iff.1 isSize
  have tT := isTypeOf
  have cT := isComparable
  have mR := isMethodComparable
  have nE := noIsE
  have uE := noUnwrapE
  have vE := noUnwrapsE
  have nW := noIsW
  have uW := hasUnwrapW
  have mU := methodUnwrap
  have heq := run_eql_iface_ptr_same (P := Tryd.prog) w b Tryd.underlying31 Tryd.underlying208 hi hcmp hj
  have hty := run_eql_iface_types (P := Tryd.prog) 143 208 (.pointer (some ⟨pb, 0, none⟩)) (.pointer (some b)) Tryd.underlying31 (by decide) w
  go_enter Tryd.func32, Tryd.ntmps32
  go_wp2
  refine wp_loop_rounds 2 ?_
  rw [rounds_succ]
  go_wp2
  rw [rounds_succ]
  go_wp2
  go_ret
  exact ⟨rfl, rfl⟩

set_option maxRecDepth 100000 in
/-- errors.Is(a fault that wraps another error, x). -/
theorem is_fault_other (pb : Nat) (b a : Addr) (ca cb : Array Value) (ta tb : TypeId) (w : World) (h1 : w.cell? ⟨pb, 3, none⟩ = some (.iface 208 (.pointer (some a)))) (hne : a ≠ b) (ha : w.heap[a.block]? = some (.cells ca ta (0, 0))) (hb : w.heap[b.block]? = some (.cells cb tb (0, 0))) :
    Calls Tryd.prog 32 #[.iface 143 (.pointer (some ⟨pb, 0, none⟩)), .iface 208 (.pointer (some b))] w fun e w' => e = .returned (.bool false) ∧ w = w' := by
  obtain ⟨i, hi, hcmp⟩ := Option.map_eq_some_iff.1 isComp
  obtain ⟨j, hj, hjs⟩ := Option.map_eq_some_iff.1 isSize
  have tT := isTypeOf
  have cT := isComparable
  have mR := isMethodComparable
  have nE := noIsE
  have uE := noUnwrapE
  have vE := noUnwrapsE
  have nW := noIsW
  have uW := hasUnwrapW
  have mU := methodUnwrap
  have heq := run_eql_iface_ptr_other (P := Tryd.prog) w Tryd.underlying31 Tryd.underlying208 hi hcmp hj (by rw [hjs]; decide) hne ha hb
  have hty := run_eql_iface_types (P := Tryd.prog) 143 208 (.pointer (some ⟨pb, 0, none⟩)) (.pointer (some b)) Tryd.underlying31 (by decide) w
  go_enter Tryd.func32, Tryd.ntmps32
  go_wp2
  refine wp_loop_rounds 2 ?_
  rw [rounds_succ]
  go_wp2
  rw [rounds_succ]
  go_wp2
  go_ret
  exact ⟨rfl, rfl⟩
end Go.Proofs.YtbbjmompbmgnmaaDoor

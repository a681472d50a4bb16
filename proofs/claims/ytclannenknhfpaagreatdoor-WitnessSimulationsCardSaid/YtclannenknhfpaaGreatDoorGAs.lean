/-
  errors.As at a fault, its target a *api.Fault (after the kit's worked ToyasAs); fault.As.
  system.Check: nil of a system that is one, a fault of any other.
  system.newRows, with the closures of system.New: rows of steps, one behind the other.
-/
import Derived.Test.YtclannenknhfpaaGreatDoorGKit
import Derived.Test.YtclannenknhfpaaGreatDoorGCompact2
import Derived.WalkKit
import Derived.LaidEql
import Derived.Stop.Asserts
import Derived.RowKitTokens
import Derived.Deep.RegionHeld3
import Derived.Deep.RegionHeldLaw
import Derived.Deep.RegionWith
import Derived.Deep.OwnRows
import Derived.IntWalk
import Derived.Deep.Cut
import Derived.Deep.CutRange
import Derived.Deep.RegionLaw
namespace Go.Proofs.YtclannenknhfpaaGreatDoor
open Go.RowKit Go.Extern.Stop Go.Stop Go.Extern Pl

/-- errors.As(nil, target). -/
theorem as_nil (t : Value) (w : World) :
    Calls Tryz.prog 76 #[.nilIface, t] w fun e w' => e = .returned (.bool false) ∧ w' = w := by
  go_enter Tryz.func76, Tryz.ntmps76
  go_wp2
  go_ret
  exact ⟨rfl, rfl⟩

/-! ### CLOSED FACTS ON THE MODEL's ENTRIES FOR internal/reflectlite, at this program's types: 25: *p.E · 27: **p.E · 23: error · 45: reflectlite's rtype · 1: how many package-level variables the dump has -/
theorem as_valueOf27 (t : Addr) (w : World) : (ReflectliteValue.unpack (.iface 113 (.pointer (some t)))).run Tryz.prog w
    = .ok (.agg #[.pointer (some ⟨20, 113, none⟩), .pointer (some ⟨w.heap.size, 0, none⟩), .int .u64 150]) (w.alloc (.cells #[.pointer (some t)] 113)) := by kernel_rfl
theorem as_type27 (a : Addr) (w : World) : (ReflectliteValue.methodAny (ReflectliteValue.valueError "reflectlite.Value.Type" 0) (fun t _ _ _ => ReflectliteType.toType t) #[.agg #[.pointer (some ⟨20, 113, none⟩), .pointer (some a), .int .u64 150]]).run Tryz.prog w
    = .ok (.iface 169 (.agg #[.pointer (some ⟨20, 113, none⟩)])) w := by kernel_rfl
theorem as_methodKind (h : Value) (w : World) : (Go.method 332 169 (.agg #[h]) "Kind").run Tryz.prog w = .ok (149, h) w := by kernel_rfl
theorem as_kind27 (w : World) : ((ReflectliteType.abiMethod fun t => (fun a : Nat => Value.int IntKind.u8 (a : Int)) <$> Rtype.kind t) #[.pointer (some ⟨20, 113, none⟩)]).run Tryz.prog w = .ok (.int .u8 22) w := by kernel_rfl
theorem as_kind25 (w : World) : ((ReflectliteType.abiMethod fun t => (fun a : Nat => Value.int IntKind.u8 (a : Int)) <$> Rtype.kind t) #[.pointer (some ⟨20, 86, none⟩)]).run Tryz.prog w = .ok (.int .u8 22) w := by kernel_rfl

/-! ### THE ENTRIES THAT READ OR WRITE MEMORY: laws with a premise on the cell (after Derived/Lib/ReflectliteSlice.lean's manner: each unfolding a lemma of its own, by rfl) -/
theorem rlm (z : Sem Value) (f : TypeId → Addr → Nat → Nat → Sem Value) (v : Value) :
    ReflectliteValue.method z f #[v] = (do match ← ReflectliteValue.parts v with | none => z | some (t, a, fl) => f t a fl (fl % 32)) := rfl
theorem as_parts27 (a : Addr) (w : World) : (ReflectliteValue.parts (.agg #[.pointer (some ⟨20, 113, none⟩), .pointer (some a), .int .u64 150])).run Tryz.prog w = .ok (some (113, a, 150)) w := by kernel_rfl
/-- (Value).IsNil at the Value of a **p.E that is not nil. -/
theorem as_isNil27 (a p : Addr) (W : World) (ha : W.cell? a = some (.pointer (some p))) :
    (ReflectliteValue.method (ReflectliteValue.valueError "reflectlite.Value.IsNil" 0) ReflectliteValue.isNil #[.agg #[.pointer (some ⟨20, 113, none⟩), .pointer (some a), .int .u64 150]]).run Tryz.prog W = .ok (.bool false) W := by
  rw [rlm]
  simp only [Sem.run_bind, as_parts27, Result.andThen]
  simp [ReflectliteValue.isNil, loadVar, isAgg, underlying, Tryz.underlying113, ha, Result.andThen]

theorem as_methodElem (h : Value) (w : World) : (Go.method 332 169 (.agg #[h]) "Elem").run Tryz.prog w = .ok (165, .agg #[h]) w := by kernel_rfl
theorem as_methodImplements (h : Value) (w : World) : (Go.method 332 169 (.agg #[h]) "Implements").run Tryz.prog w = .ok (166, .agg #[h]) w := by kernel_rfl
theorem as_methodAssignableTo (h : Value) (w : World) : (Go.method 332 169 (.agg #[h]) "AssignableTo").run Tryz.prog w = .ok (163, .agg #[h]) w := by kernel_rfl
theorem as_elem27 (w : World) : (ReflectliteType.method ReflectliteType.elem #[.agg #[.pointer (some ⟨20, 113, none⟩)]]).run Tryz.prog w = .ok (.iface 169 (.agg #[.pointer (some ⟨20, 86, none⟩)])) w := by kernel_rfl
theorem as_implements25 (w : World) : (ReflectliteType.relation "Implements" ReflectliteType.implements_ #[.agg #[.pointer (some ⟨20, 86, none⟩)], .iface 169 (.agg #[.pointer (some ⟨20, 32, none⟩)])]).run Tryz.prog w = .ok (.bool true) w := by kernel_rfl
theorem as_typeOf25 (v : Value) (w : World) : (ReflectliteType.typeOf #[.iface 86 v]).run Tryz.prog w = .ok (.iface 169 (.agg #[.pointer (some ⟨20, 86, none⟩)])) w := by kernel_rfl
theorem as_assignable25 (w : World) : (ReflectliteType.relation "AssignableTo" ReflectliteType.assignableTo #[.agg #[.pointer (some ⟨20, 86, none⟩)], .iface 169 (.agg #[.pointer (some ⟨20, 86, none⟩)])]).run Tryz.prog w = .ok (.bool true) w := by kernel_rfl
theorem as_valueOf25 (e : Addr) (w : World) : (ReflectliteValue.unpack (.iface 86 (.pointer (some e)))).run Tryz.prog w
    = .ok (.agg #[.pointer (some ⟨20, 86, none⟩), .pointer (some ⟨w.heap.size, 0, none⟩), .int .u64 150]) (w.alloc (.cells #[.pointer (some e)] 86)) := by kernel_rfl

theorem as_elemOf27 (w : World) : (Rtype.elem? 113).run Tryz.prog w = .ok (some 86) w := by kernel_rfl
theorem as_mk25 (p : Addr) (w : World) : (ReflectliteValue.mk 86 p ReflectliteValue.flagAddr).run Tryz.prog w = .ok (.agg #[.pointer (some ⟨20, 86, none⟩), .pointer (some p), .int .u64 406]) w := by kernel_rfl
/-- (Value).Elem at the Value of a **p.E that is not nil: the Value of the *p.E variable that it points to, addressable. -/
theorem as_elemV27 (a p : Addr) (W : World) (ha : W.cell? a = some (.pointer (some p))) :
    (ReflectliteValue.method (ReflectliteValue.valueError "reflectlite.Value.Elem" 0) ReflectliteValue.elem #[.agg #[.pointer (some ⟨20, 113, none⟩), .pointer (some a), .int .u64 150]]).run Tryz.prog W
      = .ok (.agg #[.pointer (some ⟨20, 86, none⟩), .pointer (some p), .int .u64 406]) W := by
  rw [rlm]
  simp only [Sem.run_bind, as_parts27, Result.andThen]
  simp [ReflectliteValue.elem, loadVar, isAgg, underlying, Tryz.underlying113, ha, Result.andThen, as_elemOf27, as_mk25]
theorem rls (v x : Value) : ReflectliteValue.set #[v, x] = (do
    let (some (dst, a, fl), some (src, b, _)) := (← ReflectliteValue.parts v, ← ReflectliteValue.parts x)
      | unsupported (.noEntry "extern/(internal/reflectlite.Value).Set.zeroValue")
    if fl / ReflectliteValue.flagAddr % 2 == 0 then unsupported (.noEntry "extern/(internal/reflectlite.Value).Set.unaddressable")
    let val ← loadVar src b
    if ← Rtype.directlyAssignable dst src then storeVar dst a val
    else if ← Rtype.implements dst src then
      if (← Rtype.kind src) == 20 then
        match val with
        | .nilIface => unsupported (.noEntry "extern/reflectlite: a nil value of one interface type handed on as a value of another")
        | _ => storeVar dst a val
      else storeVar dst a (.iface src val)
    else panicString ("reflectlite.Set: value of type " ++ (← Rtype.spelt src) ++ " is not assignable to type " ++ (← Rtype.spelt dst))
    pure (.tuple #[])) := rfl
theorem as_parts25a (a : Addr) (w : World) : (ReflectliteValue.parts (.agg #[.pointer (some ⟨20, 86, none⟩), .pointer (some a), .int .u64 406])).run Tryz.prog w = .ok (some (86, a, 406)) w := by kernel_rfl
theorem as_parts25 (a : Addr) (w : World) : (ReflectliteValue.parts (.agg #[.pointer (some ⟨20, 86, none⟩), .pointer (some a), .int .u64 150])).run Tryz.prog w = .ok (some (86, a, 150)) w := by kernel_rfl
theorem as_direct25 (w : World) : (Rtype.directlyAssignable 86 86).run Tryz.prog w = .ok true w := by kernel_rfl
theorem as_size25 (w : World) : (sizeOf 86).run Tryz.prog w = .ok 1 w := by kernel_rfl
/-- (Value).Set: the *p.E variable at 'ta' gets what the Value's own variable 'b' holds. -/
theorem as_set25 (ta b e : Addr) (old : Value) (W : World) (hb : W.cell? b = some (.pointer (some e))) (ht : W.cell? ta = some old) (hf : W.frozen? ta = false) :
    (ReflectliteValue.set #[.agg #[.pointer (some ⟨20, 86, none⟩), .pointer (some ta), .int .u64 406], .agg #[.pointer (some ⟨20, 86, none⟩), .pointer (some b), .int .u64 150]]).run Tryz.prog W
      = .ok (.tuple #[]) (W.setCell ta (.pointer (some e))) := by
  rw [rls]
  simp only [Sem.run_bind, as_parts25a, as_parts25, Result.andThen]
  simp [ReflectliteValue.flagAddr, loadVar, isAgg, underlying, Tryz.underlying86, hb, Result.andThen, as_direct25, storeVar, Value.cells, storeCells, Addr.add]
  rw [run_store Tryz.prog W ta _ _ (by rfl)]
  simp [ht, hf]

set_option maxHeartbeats 4000000 in
theorem as_hit (e t : Addr) (old : Value) (w : World) (hg : w.cell? ⟨11, 0, none⟩ = some (.iface 169 (.agg #[.pointer (some ⟨20, 32, none⟩)]))) (ht0 : w.cell? t = some old) (hf0 : w.frozen? t = false) :
    Calls Tryz.prog 76 #[.iface 86 (.pointer (some e)), .iface 113 (.pointer (some t))] w fun ev w' => ev = .returned (.bool true) ∧ w' = ((((w.alloc (.cells #[.pointer (some t)] 113)).alloc (.cells #[.pointer (some ⟨20, 113, none⟩), .pointer (some ⟨w.heap.size, 0, none⟩), .int .u64 150] 138)).alloc (.cells #[.pointer (some ⟨20, 113, none⟩), .pointer (some ⟨w.heap.size, 0, none⟩), .int .u64 150] 138)).alloc (.cells #[.pointer (some e)] 86)).setCell t (.pointer (some e)) := by
  have h6 := @run_callFunc_extern Tryz.prog 93 _ (fun args => ReflectliteValue.unpack (args.getD 0 (.tuple #[]))) Tryz.func93 (by kernel_rfl) (by kernel_rfl) (by kernel_rfl) (by kernel_rfl)
  have h7 := @run_callFunc_extern Tryz.prog 94 _ (ReflectliteValue.methodAny (ReflectliteValue.valueError "reflectlite.Value.Type" 0) (fun t _ _ _ => ReflectliteType.toType t)) Tryz.func94 (by kernel_rfl) (by kernel_rfl) (by kernel_rfl) (by kernel_rfl)
  have h8 := @run_callFunc_extern Tryz.prog 95 _ (ReflectliteValue.method (ReflectliteValue.valueError "reflectlite.Value.IsNil" 0) ReflectliteValue.isNil) Tryz.func95 (by kernel_rfl) (by kernel_rfl) (by kernel_rfl) (by kernel_rfl)
  have h27 := @run_callFunc_extern Tryz.prog 149 _ (ReflectliteType.abiMethod fun t => do pure (.int .u8 (← Rtype.kind t))) Tryz.func149 (by kernel_rfl) (by kernel_rfl) (by kernel_rfl) (by kernel_rfl)
  have h37 := @run_callFunc_extern Tryz.prog 165 _ (ReflectliteType.method ReflectliteType.elem) Tryz.func165 (by kernel_rfl) (by kernel_rfl) (by kernel_rfl) (by kernel_rfl)
  have h38 := @run_callFunc_extern Tryz.prog 166 _ (ReflectliteType.relation "Implements" ReflectliteType.implements_) Tryz.func166 (by kernel_rfl) (by kernel_rfl) (by kernel_rfl) (by kernel_rfl)
  have h10 := @run_callFunc_extern Tryz.prog 97 _ ReflectliteType.typeOf Tryz.func97 (by kernel_rfl) (by kernel_rfl) (by kernel_rfl) (by kernel_rfl)
  have h35 := @run_callFunc_extern Tryz.prog 163 _ (ReflectliteType.relation "AssignableTo" ReflectliteType.assignableTo) Tryz.func163 (by kernel_rfl) (by kernel_rfl) (by kernel_rfl) (by kernel_rfl)
  have h11 := @run_callFunc_extern Tryz.prog 123 _ (ReflectliteValue.method (ReflectliteValue.valueError "reflectlite.Value.Elem" 0) ReflectliteValue.elem) Tryz.func123 (by kernel_rfl) (by kernel_rfl) (by kernel_rfl) (by kernel_rfl)
  have h12 := @run_callFunc_extern Tryz.prog 124 _ ReflectliteValue.set Tryz.func124 (by kernel_rfl) (by kernel_rfl) (by kernel_rfl) (by kernel_rfl)
  have tO := as_typeOf25
  have mA := as_methodAssignableTo
  have a25 := as_assignable25
  have v25 := as_valueOf25
  have f6 := as_valueOf27
  have f7 := as_type27
  have mK := as_methodKind
  have mE := as_methodElem
  have mI := as_methodImplements
  have k27 := as_kind27
  have k25 := as_kind25
  have e27 := as_elem27
  have i25 := as_implements25
  have n8 := as_isNil27 ⟨w.heap.size, 0, none⟩ t ((w.alloc (.cells #[.pointer (some t)] 113)).alloc (.cells #[.pointer (some ⟨20, 113, none⟩), .pointer (some ⟨w.heap.size, 0, none⟩), .int .u64 150] 138)) (by simp)
  have hlt : 11 < w.heap.size := by
    rcases Nat.lt_or_ge 11 w.heap.size with h | h0
    · exact h
    · simp [World.cell?, Array.getElem?_eq_none h0] at hg
  have hg2 : ((w.alloc (.cells #[.pointer (some t)] 113)).alloc (.cells #[.pointer (some ⟨20, 113, none⟩), .pointer (some ⟨w.heap.size, 0, none⟩), .int .u64 150] 138)).cell? ⟨11, 0, none⟩ = some (.iface 169 (.agg #[.pointer (some ⟨20, 32, none⟩)])) := by
    rw [World.cell?_alloc_lt _ _ ⟨11, 0, none⟩ (by simp; omega), World.cell?_alloc_lt _ _ ⟨11, 0, none⟩ hlt]; exact hg
  have htl : t.block < w.heap.size := by
    rcases Nat.lt_or_ge t.block w.heap.size with h | h
    · exact h
    · simp [World.cell?, Array.getElem?_eq_none h] at ht0
  have el := as_elemV27 ⟨w.heap.size, 0, none⟩ t (((w.alloc (.cells #[.pointer (some t)] 113)).alloc (.cells #[.pointer (some ⟨20, 113, none⟩), .pointer (some ⟨w.heap.size, 0, none⟩), .int .u64 150] 138)).alloc (.cells #[.pointer (some ⟨20, 113, none⟩), .pointer (some ⟨w.heap.size, 0, none⟩), .int .u64 150] 138)) (by rw [World.cell?_alloc_lt _ _ ⟨w.heap.size, 0, none⟩ (by simp; omega)]; simp)
  have st := as_set25 t ⟨w.heap.size + 1 + 1 + 1, 0, none⟩ e old ((((w.alloc (.cells #[.pointer (some t)] 113)).alloc (.cells #[.pointer (some ⟨20, 113, none⟩), .pointer (some ⟨w.heap.size, 0, none⟩), .int .u64 150] 138)).alloc (.cells #[.pointer (some ⟨20, 113, none⟩), .pointer (some ⟨w.heap.size, 0, none⟩), .int .u64 150] 138)).alloc (.cells #[.pointer (some e)] 86))
    (by rw [World.cell?_alloc_at _ _ _ _ (by simp)]; rfl)
    (by rw [World.cell?_alloc_lt _ _ t (by simp; omega), World.cell?_alloc_lt _ _ t (by simp; omega), World.cell?_alloc_lt _ _ t (by simp; omega), World.cell?_alloc_lt _ _ t htl]; exact ht0)
    (by rw [World.frozen?_alloc_old _ _ t (by simp; omega), World.frozen?_alloc_old _ _ t (by simp; omega), World.frozen?_alloc_old _ _ t (by simp; omega), World.frozen?_alloc_old _ _ t (Nat.ne_of_lt htl)]; exact hf0)
  go_enter Tryz.func76, Tryz.ntmps76
  go_wp2
  refine wp_loop_rounds 1 ?_
  rw [rounds_succ]
  go_wp2
  go_ret
  exact ⟨rfl, rfl⟩

/-- reflectlite's own error type, as package errors keeps it. -/
structure ErrType (w : World) : Prop where
  cell : w.cell? ⟨11, 0, none⟩ = some (.iface 169 (.agg #[.pointer (some ⟨20, 32, none⟩)]))
theorem ErrType.lt {w : World} (h : ErrType w) : 11 < w.heap.size := World.block_lt_of_cell? _ _ h.cell
theorem ErrType.below {w w' : World} (h : ErrType w) (hB : Below w.heap.size w w') : ErrType w' := ⟨by rw [hB.cell (p := ⟨11, 0, none⟩) h.lt]; exact h.cell⟩

theorem faultAt_any (s : ByteArray) (ty : TypeId) (v : Value) (l c : Int) (w : World) : Calls Tryz.prog 77 #[.string s, .iface ty v, .int .i64 l, .int .i64 c] w fun e w' =>
    e = .returned (.iface 86 (.pointer (some ⟨w.heap.size, 0, none⟩))) ∧ w' = w.alloc (.cells #[.string s, .int .i64 l, .int .i64 c, .iface ty v] 89) := by
  go_enter Tryz.func77, Tryz.ntmps77
  go_wp2
  go_ret
  exact ⟨rfl, rfl⟩

set_option maxRecDepth 100000 in
set_option maxHeartbeats 4000000 in
/-- fault.As at a fault that has no place. -/
theorem faultAs_any (s : ByteArray) {w : World} {fb : Nat} {l : ByteArray} {inner : Value} (hT : ErrType w) (hF : w.heap[fb]? = some (.cells #[.string l, .int .i64 0, .int .i64 0, inner] 89 (0, 0))) :
    Calls Tryz.prog 43 #[.string s, .iface 86 (.pointer (some ⟨fb, 0, none⟩))] w fun e w' => ∃ v, e = .returned v ∧ FaultAt w' v s (.iface 86 (.pointer (some ⟨fb, 0, none⟩))) ∧ Below w.heap.size w w' := by
  have hB0 := (Below.refl w.heap.size w).alloc (Nat.le_refl _) (Obj.cells #[.pointer none] 86)
  have hT0 := hT.below hB0
  have hah := as_hit ⟨fb, 0, none⟩ ⟨w.heap.size, 0, none⟩ (.pointer none) (w.alloc (.cells #[.pointer none] 86)) hT0.cell (by simp) (by simp)
  have hfl : fb < w.heap.size := (Array.getElem?_eq_some_iff.1 hF).1
  have HAH := Lib.hid hah; have HF := Lib.hid hF; have HB0 := Lib.hid hB0
  clear hah hT0 hT hF hB0
  go_enter Tryz.func43, Tryz.ntmps43
  go_wp2_with fail
  refine HAH.out.mono ?_
  rintro e w2 ⟨rfl, hw2⟩
  have hb2 : Below w.heap.size w w2 := by
    rw [hw2]
    exact ((((HB0.out.alloc (by simp) _).alloc (by simp; omega) _).alloc (by simp; omega) _).alloc (by simp; omega) _).setCell (Nat.le_refl _) _
  have hs2 : w.heap.size < w2.heap.size := by rw [hw2]; simp [World.setCell]; omega
  have hc2 : w2.cell? ⟨w.heap.size, 0, none⟩ = some (.pointer (some ⟨fb, 0, none⟩)) := by rw [hw2]; simp [go_sem]
  have hf2 := (hb2.block fb hfl).trans HF.out
  have hfl2 : fb < w2.heap.size := by omega
  have g1 : w2.cell? ⟨fb, 1, none⟩ = some (.int .i64 0) := by simp [World.cell?, hf2]
  have g2 : w2.cell? ⟨fb, 2, none⟩ = some (.int .i64 0) := by simp [World.cell?, hf2]
  have HB2 := Lib.hid hb2
  clear hw2 hb2 hf2 HAH HF HB0 hfl
  obtain ⟨tb, htb⟩ : ∃ tb, tb = w.heap.size := ⟨_, rfl⟩
  rw [← htb] at hs2 hc2 ⊢
  have HTBB := Lib.hid htb
  clear htb
  go_wp2_with fail
  go_region_held3 (fun W => W.cell? ⟨tb, 0, none⟩ = some (.pointer (some ⟨fb, 0, none⟩)) ∧ W.cell? ⟨fb, 1, none⟩ = some (.int .i64 0) ∧ W.cell? ⟨fb, 2, none⟩ = some (.int .i64 0)) (go_keep)
    ((go_at_call 77; refine (faultAt_any _ _ _ _ _ _).mono ?_; rintro e w3 ⟨rfl, rfl⟩))
  all_goals
    go_wp2
    go_ret
    exact ⟨_, rfl, ⟨⟨w2.heap.size, rfl, heap_alloc_new w2.drew _⟩⟩, HB2.out.drew.alloc HB2.out.size _⟩
end Go.Proofs.YtclannenknhfpaaGreatDoor

namespace Go.Proofs.YtclannenknhfpaaGreatDoor
open Go.RowKit Pl

theorem check_ok {p : Addr} {s : Lts} (h : s.Right) (a : Option Addr) (b off c : Nat) (w : World) (hG : GErr 15 p w) (hS : SlAt encE 3 w a b off s.es) :
    Calls Tryz.prog 85 #[.agg #[.int .i64 s.st, .int .i64 s.lb, .int .i64 s.s0, .slice a s.es.length c]] w fun e w' => e = .returned .nilIface ∧ Below w.heap.size w w' := by
  refine (check_body s.st s.lb s.s0 a b off c s.es w hG h.head hS).mono ?_
  rintro e w' ⟨h1, h2⟩
  have : s.es.all (fun x => !offB s.st s.lb x) = true := by rw [List.all_eq_true]; intro x hx; simp [h.edges x hx]
  unfold CheckPost at h1
  rw [this] at h1
  exact ⟨h1, h2⟩

theorem check_no {p : Addr} {s : Lts} (h : ¬ s.Right) (a : Option Addr) (b off c : Nat) (w : World) (hG : GErr 15 p w) (hS : SlAt encE 3 w a b off s.es) :
    Calls Tryz.prog 85 #[.agg #[.int .i64 s.st, .int .i64 s.lb, .int .i64 s.s0, .slice a s.es.length c]] w fun e w' =>
      ∃ v, e = .returned v ∧ FaultAt w' v ⟨#[115, 121, 115, 116, 101, 109]⟩ (.iface 197 (.pointer (some p))) ∧ Below w.heap.size w w' := by
  by_cases hh : HeadBad s.st s.lb s.s0 s.es.length
  · exact check_head s.st s.lb s.s0 a s.es.length c w hG hh
  · refine (check_body s.st s.lb s.s0 a b off c s.es w hG hh hS).mono ?_
    rintro e w' ⟨h1, h2⟩
    have : s.es.all (fun x => !offB s.st s.lb x) = false := by
      rw [Bool.eq_false_iff]; intro ha; rw [List.all_eq_true] at ha
      exact h ⟨hh, fun x hx => by simpa using ha x hx⟩
    unfold CheckPost at h1
    rw [this] at h1
    obtain ⟨v, h1, h3⟩ := h1
    exact ⟨v, h1, h3, h2⟩

end Go.Proofs.YtclannenknhfpaaGreatDoor

namespace Go.Proofs.YtclannenknhfpaaGreatDoor
open Go.RowKit Pl

theorem key1_any (x : E) (W : World) : Calls Tryz.prog 60 #[.agg #[.int .i64 x.1, .int .i64 x.2.1, .int .i64 x.2.2]] W fun e w' => e = .returned (.int .i64 x.1) ∧ w' = W.alloc (.cells #[.int .i64 x.1, .int .i64 x.2.1, .int .i64 x.2.2] 58) := by
  go_enter Tryz.func60, Tryz.ntmps60
  go_wp2
  go_ret
  exact ⟨rfl, rfl⟩
theorem key4_any (x : E) (W : World) : Calls Tryz.prog 67 #[.agg #[.int .i64 x.1, .int .i64 x.2.1, .int .i64 x.2.2]] W fun e w' => e = .returned (.int .i64 x.2.2) ∧ w' = W.alloc (.cells #[.int .i64 x.1, .int .i64 x.2.1, .int .i64 x.2.2] 58) := by
  go_enter Tryz.func67, Tryz.ntmps67
  go_wp2
  go_ret
  exact ⟨rfl, rfl⟩
theorem step2_any (x : E) (W : World) : Calls Tryz.prog 61 #[.agg #[.int .i64 x.1, .int .i64 x.2.1, .int .i64 x.2.2]] W fun e w' => e = .returned (.agg #[.int .i64 x.2.1, .int .i64 x.2.2]) ∧ w' = (W.alloc (.cells #[.int .i64 x.1, .int .i64 x.2.1, .int .i64 x.2.2] 58)).alloc (.cells #[.int .i64 x.2.1, .int .i64 x.2.2] 84) := by
  go_enter Tryz.func61, Tryz.ntmps61
  go_wp2
  exact bodyPost_ret (v := .agg #[.int .i64 x.2.1, .int .i64 x.2.2]) (by simp [results, Tryz.results61, go_sem]) rfl ⟨rfl, rfl⟩
theorem step5_any (x : E) (W : World) : Calls Tryz.prog 68 #[.agg #[.int .i64 x.1, .int .i64 x.2.1, .int .i64 x.2.2]] W fun e w' => e = .returned (.agg #[.int .i64 x.2.1, .int .i64 x.1]) ∧ w' = (W.alloc (.cells #[.int .i64 x.1, .int .i64 x.2.1, .int .i64 x.2.2] 58)).alloc (.cells #[.int .i64 x.2.1, .int .i64 x.1] 84) := by
  go_enter Tryz.func68, Tryz.ntmps68
  go_wp2
  exact bodyPost_ret (v := .agg #[.int .i64 x.2.1, .int .i64 x.1]) (by simp [results, Tryz.results68, go_sem]) rfl ⟨rfl, rfl⟩

/-- The world within newRows: three blocks of its own, then the steps' row. -/
structure NR (w wr : World) (n : Nat) (fr : Nat → Int) (va : Value) (ss : List S) : Prop where
  below : Below w.heap.size w wr
  b0 : wr.heap[w.heap.size]? = some (.cells #[.slice none 0 0, .slice none 0 0] 98 (0, 0))
  b1 : wr.rowIs (w.heap.size + 1) 3 (n + 1) (fun j => .int .i64 (fr j))
  b2 : wr.heap[w.heap.size + 2]? = some (.cells #[va, .slice (some ⟨w.heap.size + 1, 0, none⟩) (n + 1) (n + 1)] 98 (0, 0))
  all : wr.ownsRow (w.heap.size + 3) 84 2 va ss.length (ss.flatMap encS)
  size : w.heap.size + 3 ≤ wr.heap.size

section
variable {w wr : World} {n : Nat} {fr : Nat → Int} {va : Value} {ss : List S}

theorem NR.alloc (h : NR w wr n fr va ss) (o : Obj) : NR w (wr.alloc o) n fr va ss :=
  ⟨h.below.alloc (by have := h.size; omega) o, by rw [Below.heap_alloc _ _ _ (by have := h.size; omega)]; exact h.b0, h.b1.alloc o,
    by rw [Below.heap_alloc _ _ _ (by have := h.size; omega)]; exact h.b2, h.all.alloc o, by have := h.size; simp; omega⟩
theorem NR.drewN (h : NR w wr n fr va ss) (m : Nat) : NR w (wr.drewN m) n fr va ss :=
  ⟨below_drewN h.below m, h.b0, h.b1, h.b2, h.all, h.size⟩
theorem NR.setFrom (h : NR w wr n fr va ss) (j : Nat) (v : Int) : NR w (wr.setCell ⟨w.heap.size + 1, j, none⟩ (.int .i64 v)) n (fun i => if i = j then v else fr i) va ss :=
  ⟨h.below.setCell (by show w.heap.size ≤ w.heap.size + 1; omega) _, by rw [Below.heap_setCell _ _ _ _ (by show w.heap.size ≠ w.heap.size + 1; omega)]; exact h.b0,
    (h.b1.set j _).congr (fun i _ => by split <;> rfl), by rw [Below.heap_setCell _ _ _ _ (by show w.heap.size + 2 ≠ w.heap.size + 1; omega)]; exact h.b2,
    ownsRow_setCell_below h.all (by show w.heap.size + 1 < w.heap.size + 3; omega) _, by have := h.size; simpa [World.setCell] using this⟩
theorem NR.setAll (h : NR w wr n fr va ss) {w1 : World} {va' : Value} {ss' : List S} (hown : w1.ownsRow (w.heap.size + 3) 84 2 va' ss'.length (ss'.flatMap encS)) (hg : wr.grownBy w1 va.ownBlock) :
    NR w (w1.setCell ⟨w.heap.size + 2, 0, none⟩ va') n fr va' ss' := by
  have hs := h.size
  have hb : ∀ k, k < w.heap.size + 3 → w1.heap[k]? = wr.heap[k]? := fun k hk => hg.block k (by omega) (fun e => by have := (h.all.lt k e.symm).1; omega)
  have hs1 := hg.size
  refine ⟨(h.below.grown hg (by omega) (fun k hk => by have := (h.all.lt k hk).1; omega)).setCell (by show w.heap.size ≤ w.heap.size + 2; omega) _, ?_, ?_, ?_, ownsRow_setCell_below hown (by show w.heap.size + 2 < w.heap.size + 3; omega) _, ?_⟩
  · rw [Below.heap_setCell _ _ _ _ (by show w.heap.size ≠ w.heap.size + 2; omega), hb _ (by omega)]; exact h.b0
  · exact (h.b1.of_block (hb _ (by omega))).setOther (by show w.heap.size + 1 ≠ w.heap.size + 2; omega) _
  · have := h.b2
    rw [← hb _ (by omega)] at this
    simp only [World.setCell, Array.getElem?_modify, if_true, this]
    rfl
  · have := h.size; simp [World.setCell]; omega
theorem NR.congr {fr' : Nat → Int} (h : NR w wr n fr va ss) (e : ∀ i, fr i = fr' i) : NR w wr n fr' va ss := by
  have : fr = fr' := funext e
  rw [← this]; exact h
theorem NR.c0 (h : NR w wr n fr va ss) : wr.cell? ⟨w.heap.size + 2, 0, none⟩ = some va := by simp [World.cell?, h.b2]
theorem NR.c1 (h : NR w wr n fr va ss) : wr.cell? ⟨w.heap.size + 2, 1, none⟩ = some (.slice (some ⟨w.heap.size + 1, 0, none⟩) (n + 1) (n + 1)) := by simp [World.cell?, h.b2]
theorem NR.fz (h : NR w wr n fr va ss) (j : Nat) : wr.frozen? ⟨w.heap.size + 2, j, none⟩ = false := by simp [World.frozen?, h.b2]
theorem NR.keep (h : NR w wr n fr va ss) {w1 : World} (hg : wr.grownBy w1 va.ownBlock) : w1.cell? ⟨w.heap.size + 1 + 1, 0, none⟩ = some va ∧ w1.frozen? ⟨w.heap.size + 1 + 1, 0, none⟩ = false := by
  have hb : w1.heap[w.heap.size + 2]? = wr.heap[w.heap.size + 2]? := hg.block _ (by have := h.size; omega) (fun e => by have := (h.all.lt _ e.symm).1; omega)
  exact ⟨by rw [World.cell?_of_block (w := wr) (a := ⟨w.heap.size + 1 + 1, 0, none⟩) hb]; exact h.c0, by rw [World.frozen?_of_block (w := wr) (a := ⟨w.heap.size + 1 + 1, 0, none⟩) hb]; exact h.fz 0⟩
theorem NR.d0 (h : NR w wr n fr va ss) : wr.cell? ⟨w.heap.size, 0, none⟩ = some (.slice none 0 0) := by simp [World.cell?, h.b0]
theorem NR.d1 (h : NR w wr n fr va ss) : wr.cell? ⟨w.heap.size, 1, none⟩ = some (.slice none 0 0) := by simp [World.cell?, h.b0]
theorem NR.dz (h : NR w wr n fr va ss) (j : Nat) : wr.frozen? ⟨w.heap.size, j, none⟩ = false := by simp [World.frozen?, h.b0]
end

theorem NR.start (w : World) (n : Nat) (fr : Nat → Int) (hf : ∀ i, fr i = 0) :
    NR w (((w.alloc (Obj.cells #[Value.slice none 0 0, Value.slice none 0 0] 98)).alloc (Obj.cells (madeCells #[Value.int IntKind.i64 0] (n + 1)) 3)).alloc (Obj.cells #[Value.slice none 0 0, Value.slice (some ⟨w.heap.size + 1, 0, none⟩) (n + 1) (n + 1)] 98)) n fr (.slice none 0 0) [] := by
  refine ⟨((((Below.refl _ _).alloc (Nat.le_refl _) _).alloc (by simp) _).alloc (by simp; omega) _), ?_, ?_, ?_, World.ownsRow_nil _ _ _ _, by simp⟩
  · rw [Below.heap_alloc _ _ _ (by simp; omega), Below.heap_alloc _ _ _ (by simp), heap_alloc_new]
  · have := (World.rowIs_made (w.alloc (Obj.cells #[Value.slice none 0 0, Value.slice none 0 0] 98)) (.int .i64 0) (n + 1) 3).alloc (Obj.cells #[Value.slice none 0 0, Value.slice (some ⟨w.heap.size + 1, 0, none⟩) (n + 1) (n + 1)] 98)
    refine (by simpa using this : World.rowIs _ (w.heap.size + 1) _ _ _).congr (fun i _ => by rw [hf])
  · simpa using heap_alloc_new ((w.alloc (Obj.cells #[Value.slice none 0 0, Value.slice none 0 0] 98)).alloc (Obj.cells (madeCells #[Value.int IntKind.i64 0] (n + 1)) 3)) (Obj.cells #[Value.slice none 0 0, Value.slice (some ⟨w.heap.size + 1, 0, none⟩) (n + 1) (n + 1)] 98)

/-- How many of a list's first k keys are i. -/
def cntk (key : E → Int) (l : List E) (i : Nat) : Int := (l.filter (fun x => key x + 1 == (i : Int))).length
theorem cntk_snoc (key : E → Int) (l : List E) (x : E) (i : Nat) : cntk key (l ++ [x]) i = cntk key l i + if key x + 1 = (i : Int) then 1 else 0 := by
  unfold cntk
  rw [List.filter_append]
  by_cases h : key x + 1 = (i : Int) <;> simp [h]
theorem cntk_le (key : E → Int) (l : List E) (i : Nat) : 0 ≤ cntk key l i ∧ cntk key l i ≤ l.length := by
  unfold cntk
  have := List.length_filter_le (fun x => key x + 1 == (i : Int)) l
  omega

/-- What the second loop makes of the counts: sums up to place k. -/
def frOf (key : E → Int) (xs : List E) (k : Nat) (i : Nat) : Int := if i ≤ k then ((xs.filter (fun x => decide (key x < (i : Int)))).length : Int) else cntk key xs i
theorem frOf_zero (key : E → Int) {xs : List E} (h : ∀ x ∈ xs, 0 ≤ key x) (i : Nat) : frOf key xs 0 i = cntk key xs i := by
  unfold frOf
  split
  · have : i = 0 := by omega
    subst this
    unfold cntk
    congr 1
    have h1 : xs.filter (fun x => decide (key x < ((0 : Nat) : Int))) = [] := by
      rw [List.filter_eq_nil_iff]; intro x hx; have := h x hx; simp; omega
    have h2 : xs.filter (fun x => key x + 1 == ((0 : Nat) : Int)) = [] := by
      rw [List.filter_eq_nil_iff]; intro x hx; have := h x hx; simp; omega
    rw [h1, h2]
  · rfl
theorem pre_succ (key : E → Int) (k : Nat) : ∀ xs : List E, ((xs.filter (fun x => decide (key x < ((k + 1 : Nat) : Int)))).length : Int) = cntk key xs (k + 1) + (xs.filter (fun x => decide (key x < (k : Int)))).length
  | [] => by simp [cntk]
  | x :: xs => by
    have ih := pre_succ key k xs
    unfold cntk at *
    simp only [List.filter_cons]
    by_cases h1 : key x < (k : Int)
    · have b1 : decide (key x < (k : Int)) = true := by simp [h1]
      have b2 : decide (key x < ((k + 1 : Nat) : Int)) = true := by simp; omega
      have b3 : (key x + 1 == ((k + 1 : Nat) : Int)) = false := by simp; omega
      simp only [b1, b2, b3, if_true, Bool.false_eq_true, if_false, List.length_cons]; omega
    · have b1 : decide (key x < (k : Int)) = false := by simp; omega
      by_cases h2 : key x < ((k + 1 : Nat) : Int)
      · have b2 : decide (key x < ((k + 1 : Nat) : Int)) = true := by simp; omega
        have b3 : (key x + 1 == ((k + 1 : Nat) : Int)) = true := by simp; omega
        simp only [b1, b2, b3, if_true, Bool.false_eq_true, if_false, List.length_cons]; omega
      · have b2 : decide (key x < ((k + 1 : Nat) : Int)) = false := by simp; omega
        have b3 : (key x + 1 == ((k + 1 : Nat) : Int)) = false := by simp; omega
        simp only [b1, b2, b3, Bool.false_eq_true, if_false]; omega
theorem frOf_step (key : E → Int) (xs : List E) (k : Nat) : frOf key xs (k + 1) (k + 1) = frOf key xs k (k + 1) + frOf key xs k k := by
  unfold frOf
  rw [if_pos (Nat.le_refl _), if_neg (by omega), if_pos (Nat.le_refl _)]
  exact pre_succ key k xs
theorem frOf_bd (key : E → Int) (xs : List E) (k i : Nat) : 0 ≤ frOf key xs k i ∧ frOf key xs k i ≤ xs.length := by
  unfold frOf
  split
  · have := List.length_filter_le (fun x => decide (key x < (i : Int))) xs; omega
  · exact cntk_le _ _ _
theorem frOf_next (key : E → Int) (xs : List E) (k i : Nat) : (if i = k + 1 then frOf key xs k (k + 1) + frOf key xs k k else frOf key xs k i) = frOf key xs (k + 1) i := by
  by_cases h : i = k + 1
  · subst h; rw [if_pos rfl, frOf_step]
  · rw [if_neg h]; unfold frOf
    by_cases h2 : i ≤ k
    · rw [if_pos h2, if_pos (by omega)]
    · rw [if_neg h2, if_neg (by omega)]


end Go.Proofs.YtclannenknhfpaaGreatDoor

/-
  errors.As at a fault, its target a *api.Fault (after the kit's worked ToyasAs); fault.As.
  The frame of the cards: the world of the witness, the package-level error, how arguments open.
  How an api.System that came in opens: three numbers and a list of edges.
  What a row's list of package-level variables gives: a sentinel, the handle of 'error'.
  errors.Is at a fault that wraps a fault that wraps an error.
  errors.Is at an error itself; api.Code and semblancebook.Told.
  What two sentinels of a row's list give: their pointers, which are not one.
-/
import Derived.Test.YtkmljelgogcobaaGreatDoorGPl3
import Derived.WalkKit
import Derived.LaidEql
import Derived.Stop.Asserts
import Derived.RowKitTokens
import Derived.Test.YtkmljelgogcobaaGreatDoorCards
import Derived.Test.YtkmljelgogcobaaGreatDoorTie
import Derived.ProofKit
import Derived.OpenShut
import Derived.Deep.DeepHandedRow
import Derived.Deep.DeepWitnessRowRef
import Derived.Lib.LaidIn
import Derived.Stop.LaidErr
import Derived.Lib.SmallJoins
import Derived.LaidHandle
import Derived.Deep.RegionHeld3
import Derived.Deep.QuietTactic
import Derived.BigQuiet
import Derived.Stop.LaidTwo
namespace Go.Proofs.YtkmljelgogcobaaGreatDoor
open Go.RowKit Go.Extern.Stop Go.Stop Go.Extern Pl

/-- errors.As(nil, target). -/
theorem as_nil (t : Value) (w : World) :
    Calls Tryz.prog 148 #[.nilIface, t] w fun e w' => e = .returned (.bool false) ∧ w' = w := by
  go_enter Tryz.func148, Tryz.ntmps148
  go_wp2
  go_ret
  exact ⟨rfl, rfl⟩

/-! ### CLOSED FACTS ON THE MODEL's ENTRIES FOR internal/reflectlite, at this program's types: 25: *p.E · 27: **p.E · 23: error · 45: reflectlite's rtype · 1: how many package-level variables the dump has -/
theorem as_valueOf27 (t : Addr) (w : World) : (ReflectliteValue.unpack (.iface 173 (.pointer (some t)))).run Tryz.prog w
    = .ok (.agg #[.pointer (some ⟨20, 173, none⟩), .pointer (some ⟨w.heap.size, 0, none⟩), .int .u64 150]) (w.alloc (.cells #[.pointer (some t)] 173)) := by kernel_rfl
theorem as_type27 (a : Addr) (w : World) : (ReflectliteValue.methodAny (ReflectliteValue.valueError "reflectlite.Value.Type" 0) (fun t _ _ _ => ReflectliteType.toType t) #[.agg #[.pointer (some ⟨20, 173, none⟩), .pointer (some a), .int .u64 150]]).run Tryz.prog w
    = .ok (.iface 229 (.agg #[.pointer (some ⟨20, 173, none⟩)])) w := by kernel_rfl
theorem as_methodKind (h : Value) (w : World) : (Go.method 380 229 (.agg #[h]) "Kind").run Tryz.prog w = .ok (209, h) w := by kernel_rfl
theorem as_kind27 (w : World) : ((ReflectliteType.abiMethod fun t => (fun a : Nat => Value.int IntKind.u8 (a : Int)) <$> Rtype.kind t) #[.pointer (some ⟨20, 173, none⟩)]).run Tryz.prog w = .ok (.int .u8 22) w := by kernel_rfl
theorem as_kind25 (w : World) : ((ReflectliteType.abiMethod fun t => (fun a : Nat => Value.int IntKind.u8 (a : Int)) <$> Rtype.kind t) #[.pointer (some ⟨20, 131, none⟩)]).run Tryz.prog w = .ok (.int .u8 22) w := by kernel_rfl

/-! ### THE ENTRIES THAT READ OR WRITE MEMORY: laws with a premise on the cell (after Derived/Lib/ReflectliteSlice.lean's manner: each unfolding a lemma of its own, by rfl) -/
theorem rlm (z : Sem Value) (f : TypeId → Addr → Nat → Nat → Sem Value) (v : Value) :
    ReflectliteValue.method z f #[v] = (do match ← ReflectliteValue.parts v with | none => z | some (t, a, fl) => f t a fl (fl % 32)) := rfl
theorem as_parts27 (a : Addr) (w : World) : (ReflectliteValue.parts (.agg #[.pointer (some ⟨20, 173, none⟩), .pointer (some a), .int .u64 150])).run Tryz.prog w = .ok (some (173, a, 150)) w := by kernel_rfl
/-- (Value).IsNil at the Value of a **p.E that is not nil. -/
theorem as_isNil27 (a p : Addr) (W : World) (ha : W.cell? a = some (.pointer (some p))) :
    (ReflectliteValue.method (ReflectliteValue.valueError "reflectlite.Value.IsNil" 0) ReflectliteValue.isNil #[.agg #[.pointer (some ⟨20, 173, none⟩), .pointer (some a), .int .u64 150]]).run Tryz.prog W = .ok (.bool false) W := by
  rw [rlm]
  simp only [Sem.run_bind, as_parts27, Result.andThen]
  simp [ReflectliteValue.isNil, loadVar, isAgg, underlying, Tryz.underlying173, ha, Result.andThen]

theorem as_methodElem (h : Value) (w : World) : (Go.method 380 229 (.agg #[h]) "Elem").run Tryz.prog w = .ok (220, .agg #[h]) w := by kernel_rfl
theorem as_methodImplements (h : Value) (w : World) : (Go.method 380 229 (.agg #[h]) "Implements").run Tryz.prog w = .ok (221, .agg #[h]) w := by kernel_rfl
theorem as_methodAssignableTo (h : Value) (w : World) : (Go.method 380 229 (.agg #[h]) "AssignableTo").run Tryz.prog w = .ok (218, .agg #[h]) w := by kernel_rfl
theorem as_elem27 (w : World) : (ReflectliteType.method ReflectliteType.elem #[.agg #[.pointer (some ⟨20, 173, none⟩)]]).run Tryz.prog w = .ok (.iface 229 (.agg #[.pointer (some ⟨20, 131, none⟩)])) w := by kernel_rfl
theorem as_implements25 (w : World) : (ReflectliteType.relation "Implements" ReflectliteType.implements_ #[.agg #[.pointer (some ⟨20, 131, none⟩)], .iface 229 (.agg #[.pointer (some ⟨20, 28, none⟩)])]).run Tryz.prog w = .ok (.bool true) w := by kernel_rfl
theorem as_typeOf25 (v : Value) (w : World) : (ReflectliteType.typeOf #[.iface 131 v]).run Tryz.prog w = .ok (.iface 229 (.agg #[.pointer (some ⟨20, 131, none⟩)])) w := by kernel_rfl
theorem as_assignable25 (w : World) : (ReflectliteType.relation "AssignableTo" ReflectliteType.assignableTo #[.agg #[.pointer (some ⟨20, 131, none⟩)], .iface 229 (.agg #[.pointer (some ⟨20, 131, none⟩)])]).run Tryz.prog w = .ok (.bool true) w := by kernel_rfl
theorem as_valueOf25 (e : Addr) (w : World) : (ReflectliteValue.unpack (.iface 131 (.pointer (some e)))).run Tryz.prog w
    = .ok (.agg #[.pointer (some ⟨20, 131, none⟩), .pointer (some ⟨w.heap.size, 0, none⟩), .int .u64 150]) (w.alloc (.cells #[.pointer (some e)] 131)) := by kernel_rfl

theorem as_elemOf27 (w : World) : (Rtype.elem? 173).run Tryz.prog w = .ok (some 131) w := by kernel_rfl
theorem as_mk25 (p : Addr) (w : World) : (ReflectliteValue.mk 131 p ReflectliteValue.flagAddr).run Tryz.prog w = .ok (.agg #[.pointer (some ⟨20, 131, none⟩), .pointer (some p), .int .u64 406]) w := by kernel_rfl
/-- (Value).Elem at the Value of a **p.E that is not nil: the Value of the *p.E variable that it points to, addressable. -/
theorem as_elemV27 (a p : Addr) (W : World) (ha : W.cell? a = some (.pointer (some p))) :
    (ReflectliteValue.method (ReflectliteValue.valueError "reflectlite.Value.Elem" 0) ReflectliteValue.elem #[.agg #[.pointer (some ⟨20, 173, none⟩), .pointer (some a), .int .u64 150]]).run Tryz.prog W
      = .ok (.agg #[.pointer (some ⟨20, 131, none⟩), .pointer (some p), .int .u64 406]) W := by
  rw [rlm]
  simp only [Sem.run_bind, as_parts27, Result.andThen]
  simp [ReflectliteValue.elem, loadVar, isAgg, underlying, Tryz.underlying173, ha, Result.andThen, as_elemOf27, as_mk25]
theorem rls (v x : Value) : ReflectliteValue.set #[v, x] = (do
    let (some (dst, a, fl), some (src, b, _)) := (← ReflectliteValue.parts v, ← ReflectliteValue.parts x)
      | unsupported (.noEntry "extern/(internal/reflectlite.Value).Set.zeroValue")
    if fl / ReflectliteValue.flagAddr % 2 == 0 then unsupported (.noEntry "extern/(internal/reflectlite.Value).Set.unaddressable")
    let val ← loadVar src b
    if ← Rtype.directlyAssignable dst src then storeVar dst a val
    else if ← Rtype.implements dst src then
      if (← Rtype.kind src) == 20 then
        match val with
        | .nilIface => unsupported (.noEntry "extern/reflectlite: a nil value of one interface type handed on as a value of another")
        | _ => storeVar dst a val
      else storeVar dst a (.iface src val)
    else panicString ("reflectlite.Set: value of type " ++ (← Rtype.spelt src) ++ " is not assignable to type " ++ (← Rtype.spelt dst))
    pure (.tuple #[])) := rfl
theorem as_parts25a (a : Addr) (w : World) : (ReflectliteValue.parts (.agg #[.pointer (some ⟨20, 131, none⟩), .pointer (some a), .int .u64 406])).run Tryz.prog w = .ok (some (131, a, 406)) w := by kernel_rfl
theorem as_parts25 (a : Addr) (w : World) : (ReflectliteValue.parts (.agg #[.pointer (some ⟨20, 131, none⟩), .pointer (some a), .int .u64 150])).run Tryz.prog w = .ok (some (131, a, 150)) w := by kernel_rfl
theorem as_direct25 (w : World) : (Rtype.directlyAssignable 131 131).run Tryz.prog w = .ok true w := by kernel_rfl
theorem as_size25 (w : World) : (sizeOf 131).run Tryz.prog w = .ok 1 w := by kernel_rfl
/-- (Value).Set: the *p.E variable at 'ta' gets what the Value's own variable 'b' holds. -/
theorem as_set25 (ta b e : Addr) (old : Value) (W : World) (hb : W.cell? b = some (.pointer (some e))) (ht : W.cell? ta = some old) (hf : W.frozen? ta = false) :
    (ReflectliteValue.set #[.agg #[.pointer (some ⟨20, 131, none⟩), .pointer (some ta), .int .u64 406], .agg #[.pointer (some ⟨20, 131, none⟩), .pointer (some b), .int .u64 150]]).run Tryz.prog W
      = .ok (.tuple #[]) (W.setCell ta (.pointer (some e))) := by
  rw [rls]
  simp only [Sem.run_bind, as_parts25a, as_parts25, Result.andThen]
  simp [ReflectliteValue.flagAddr, loadVar, isAgg, underlying, Tryz.underlying131, hb, Result.andThen, as_direct25, storeVar, Value.cells, storeCells, Addr.add]
  rw [run_store Tryz.prog W ta _ _ (by rfl)]
  simp [ht, hf]

set_option maxHeartbeats 4000000 in
theorem as_hit (e t : Addr) (old : Value) (w : World) (hg : w.cell? ⟨11, 0, none⟩ = some (.iface 229 (.agg #[.pointer (some ⟨20, 28, none⟩)]))) (ht0 : w.cell? t = some old) (hf0 : w.frozen? t = false) :
    Calls Tryz.prog 148 #[.iface 131 (.pointer (some e)), .iface 173 (.pointer (some t))] w fun ev w' => ev = .returned (.bool true) ∧ w' = ((((w.alloc (.cells #[.pointer (some t)] 173)).alloc (.cells #[.pointer (some ⟨20, 173, none⟩), .pointer (some ⟨w.heap.size, 0, none⟩), .int .u64 150] 205)).alloc (.cells #[.pointer (some ⟨20, 173, none⟩), .pointer (some ⟨w.heap.size, 0, none⟩), .int .u64 150] 205)).alloc (.cells #[.pointer (some e)] 131)).setCell t (.pointer (some e)) := by
  have h6 := @run_callFunc_extern Tryz.prog 174 _ (fun args => ReflectliteValue.unpack (args.getD 0 (.tuple #[]))) Tryz.func174 (by kernel_rfl) (by kernel_rfl) (by kernel_rfl) (by kernel_rfl)
  have h7 := @run_callFunc_extern Tryz.prog 175 _ (ReflectliteValue.methodAny (ReflectliteValue.valueError "reflectlite.Value.Type" 0) (fun t _ _ _ => ReflectliteType.toType t)) Tryz.func175 (by kernel_rfl) (by kernel_rfl) (by kernel_rfl) (by kernel_rfl)
  have h8 := @run_callFunc_extern Tryz.prog 176 _ (ReflectliteValue.method (ReflectliteValue.valueError "reflectlite.Value.IsNil" 0) ReflectliteValue.isNil) Tryz.func176 (by kernel_rfl) (by kernel_rfl) (by kernel_rfl) (by kernel_rfl)
  have h27 := @run_callFunc_extern Tryz.prog 209 _ (ReflectliteType.abiMethod fun t => do pure (.int .u8 (← Rtype.kind t))) Tryz.func209 (by kernel_rfl) (by kernel_rfl) (by kernel_rfl) (by kernel_rfl)
  have h37 := @run_callFunc_extern Tryz.prog 220 _ (ReflectliteType.method ReflectliteType.elem) Tryz.func220 (by kernel_rfl) (by kernel_rfl) (by kernel_rfl) (by kernel_rfl)
  have h38 := @run_callFunc_extern Tryz.prog 221 _ (ReflectliteType.relation "Implements" ReflectliteType.implements_) Tryz.func221 (by kernel_rfl) (by kernel_rfl) (by kernel_rfl) (by kernel_rfl)
  have h10 := @run_callFunc_extern Tryz.prog 181 _ ReflectliteType.typeOf Tryz.func181 (by kernel_rfl) (by kernel_rfl) (by kernel_rfl) (by kernel_rfl)
  have h35 := @run_callFunc_extern Tryz.prog 218 _ (ReflectliteType.relation "AssignableTo" ReflectliteType.assignableTo) Tryz.func218 (by kernel_rfl) (by kernel_rfl) (by kernel_rfl) (by kernel_rfl)
  have h11 := @run_callFunc_extern Tryz.prog 191 _ (ReflectliteValue.method (ReflectliteValue.valueError "reflectlite.Value.Elem" 0) ReflectliteValue.elem) Tryz.func191 (by kernel_rfl) (by kernel_rfl) (by kernel_rfl) (by kernel_rfl)
  have h12 := @run_callFunc_extern Tryz.prog 192 _ ReflectliteValue.set Tryz.func192 (by kernel_rfl) (by kernel_rfl) (by kernel_rfl) (by kernel_rfl)
  have tO := as_typeOf25
  have mA := as_methodAssignableTo
  have a25 := as_assignable25
  have v25 := as_valueOf25
  have f6 := as_valueOf27
  have f7 := as_type27
  have mK := as_methodKind
  have mE := as_methodElem
  have mI := as_methodImplements
  have k27 := as_kind27
  have k25 := as_kind25
  have e27 := as_elem27
  have i25 := as_implements25
  have n8 := as_isNil27 ⟨w.heap.size, 0, none⟩ t ((w.alloc (.cells #[.pointer (some t)] 173)).alloc (.cells #[.pointer (some ⟨20, 173, none⟩), .pointer (some ⟨w.heap.size, 0, none⟩), .int .u64 150] 205)) (by simp)
  have hlt : 11 < w.heap.size := by
    rcases Nat.lt_or_ge 11 w.heap.size with h | h0
    · exact h
    · simp [World.cell?, Array.getElem?_eq_none h0] at hg
  have hg2 : ((w.alloc (.cells #[.pointer (some t)] 173)).alloc (.cells #[.pointer (some ⟨20, 173, none⟩), .pointer (some ⟨w.heap.size, 0, none⟩), .int .u64 150] 205)).cell? ⟨11, 0, none⟩ = some (.iface 229 (.agg #[.pointer (some ⟨20, 28, none⟩)])) := by
    rw [World.cell?_alloc_lt _ _ ⟨11, 0, none⟩ (by simp; omega), World.cell?_alloc_lt _ _ ⟨11, 0, none⟩ hlt]; exact hg
  have htl : t.block < w.heap.size := by
    rcases Nat.lt_or_ge t.block w.heap.size with h | h
    · exact h
    · simp [World.cell?, Array.getElem?_eq_none h] at ht0
  have el := as_elemV27 ⟨w.heap.size, 0, none⟩ t (((w.alloc (.cells #[.pointer (some t)] 173)).alloc (.cells #[.pointer (some ⟨20, 173, none⟩), .pointer (some ⟨w.heap.size, 0, none⟩), .int .u64 150] 205)).alloc (.cells #[.pointer (some ⟨20, 173, none⟩), .pointer (some ⟨w.heap.size, 0, none⟩), .int .u64 150] 205)) (by rw [World.cell?_alloc_lt _ _ ⟨w.heap.size, 0, none⟩ (by simp; omega)]; simp)
  have st := as_set25 t ⟨w.heap.size + 1 + 1 + 1, 0, none⟩ e old ((((w.alloc (.cells #[.pointer (some t)] 173)).alloc (.cells #[.pointer (some ⟨20, 173, none⟩), .pointer (some ⟨w.heap.size, 0, none⟩), .int .u64 150] 205)).alloc (.cells #[.pointer (some ⟨20, 173, none⟩), .pointer (some ⟨w.heap.size, 0, none⟩), .int .u64 150] 205)).alloc (.cells #[.pointer (some e)] 131))
    (by rw [World.cell?_alloc_at _ _ _ _ (by simp)]; rfl)
    (by rw [World.cell?_alloc_lt _ _ t (by simp; omega), World.cell?_alloc_lt _ _ t (by simp; omega), World.cell?_alloc_lt _ _ t (by simp; omega), World.cell?_alloc_lt _ _ t htl]; exact ht0)
    (by rw [World.frozen?_alloc_old _ _ t (by simp; omega), World.frozen?_alloc_old _ _ t (by simp; omega), World.frozen?_alloc_old _ _ t (by simp; omega), World.frozen?_alloc_old _ _ t (Nat.ne_of_lt htl)]; exact hf0)
  go_enter Tryz.func148, Tryz.ntmps148
  go_wp2
  refine wp_loop_rounds 1 ?_
  rw [rounds_succ]
  go_wp2
  go_ret
  exact ⟨rfl, rfl⟩

/-- reflectlite's own error type, as package errors keeps it. -/
structure ErrType (w : World) : Prop where
  cell : w.cell? ⟨11, 0, none⟩ = some (.iface 229 (.agg #[.pointer (some ⟨20, 28, none⟩)]))
theorem ErrType.lt {w : World} (h : ErrType w) : 11 < w.heap.size := World.block_lt_of_cell? _ _ h.cell
theorem ErrType.below {w w' : World} (h : ErrType w) (hB : Below w.heap.size w w') : ErrType w' := ⟨by rw [hB.cell (p := ⟨11, 0, none⟩) h.lt]; exact h.cell⟩

theorem faultAt_any (s : ByteArray) (ty : TypeId) (v : Value) (l c : Int) (w : World) : Calls Tryz.prog 149 #[.string s, .iface ty v, .int .i64 l, .int .i64 c] w fun e w' =>
    e = .returned (.iface 131 (.pointer (some ⟨w.heap.size, 0, none⟩))) ∧ w' = w.alloc (.cells #[.string s, .int .i64 l, .int .i64 c, .iface ty v] 134) := by
  go_enter Tryz.func149, Tryz.ntmps149
  go_wp2
  go_ret
  exact ⟨rfl, rfl⟩

set_option maxRecDepth 100000 in
set_option maxHeartbeats 4000000 in
/-- fault.As at a fault that has no place. -/
theorem faultAs_any (s : ByteArray) {w : World} {fb : Nat} {l : ByteArray} {inner : Value} (hT : ErrType w) (hF : w.heap[fb]? = some (.cells #[.string l, .int .i64 0, .int .i64 0, inner] 134 (0, 0))) :
    Calls Tryz.prog 112 #[.string s, .iface 131 (.pointer (some ⟨fb, 0, none⟩))] w fun e w' => ∃ v, e = .returned v ∧ FaultAt w' v s (.iface 131 (.pointer (some ⟨fb, 0, none⟩))) ∧ Below w.heap.size w w' := by
  have hB0 := (Below.refl w.heap.size w).alloc (Nat.le_refl _) (Obj.cells #[.pointer none] 131)
  have hT0 := hT.below hB0
  have hah := as_hit ⟨fb, 0, none⟩ ⟨w.heap.size, 0, none⟩ (.pointer none) (w.alloc (.cells #[.pointer none] 131)) hT0.cell (by simp) (by simp)
  have hfl : fb < w.heap.size := (Array.getElem?_eq_some_iff.1 hF).1
  have HAH := Lib.hid hah; have HF := Lib.hid hF; have HB0 := Lib.hid hB0
  clear hah hT0 hT hF hB0
  go_enter Tryz.func112, Tryz.ntmps112
  go_wp2_with fail
  refine HAH.out.mono ?_
  rintro e w2 ⟨rfl, hw2⟩
  have hb2 : Below w.heap.size w w2 := by
    rw [hw2]
    exact ((((HB0.out.alloc (by simp) _).alloc (by simp; omega) _).alloc (by simp; omega) _).alloc (by simp; omega) _).setCell (Nat.le_refl _) _
  have hs2 : w.heap.size < w2.heap.size := by rw [hw2]; simp [World.setCell]; omega
  have hc2 : w2.cell? ⟨w.heap.size, 0, none⟩ = some (.pointer (some ⟨fb, 0, none⟩)) := by rw [hw2]; simp [go_sem]
  have hf2 := (hb2.block fb hfl).trans HF.out
  have hfl2 : fb < w2.heap.size := by omega
  have g1 : w2.cell? ⟨fb, 1, none⟩ = some (.int .i64 0) := by simp [World.cell?, hf2]
  have g2 : w2.cell? ⟨fb, 2, none⟩ = some (.int .i64 0) := by simp [World.cell?, hf2]
  have HB2 := Lib.hid hb2
  clear hw2 hb2 hf2 HAH HF HB0 hfl
  obtain ⟨tb, htb⟩ : ∃ tb, tb = w.heap.size := ⟨_, rfl⟩
  rw [← htb] at hs2 hc2 ⊢
  have HTBB := Lib.hid htb
  clear htb
  go_wp2_with fail
  go_region_held3 (fun W => W.cell? ⟨tb, 0, none⟩ = some (.pointer (some ⟨fb, 0, none⟩)) ∧ W.cell? ⟨fb, 1, none⟩ = some (.int .i64 0) ∧ W.cell? ⟨fb, 2, none⟩ = some (.int .i64 0)) (go_keep)
    ((go_at_call 149; refine (faultAt_any _ _ _ _ _ _).mono ?_; rintro e w3 ⟨rfl, rfl⟩))
  all_goals
    go_wp2
    go_ret
    exact ⟨_, rfl, ⟨⟨w2.heap.size, rfl, heap_alloc_new w2.drew _⟩⟩, HB2.out.drew.alloc HB2.out.size _⟩
end Go.Proofs.YtkmljelgogcobaaGreatDoor

namespace Go.Proofs.YtkmljelgogcobaaGreatDoor
open Go.ChangeShapes Go.WideShapes Go.ChangeAt Go.RowKit Go.Lib

theorem ownKnob_none : ownKnob Tryz.prog.godebug = none := by kernel_rfl
theorem prog_laidOut : laidOutB Tryz.prog = true := by kernel_rfl

def sysText : List UInt8 := [97, 32, 115, 121, 115, 116, 101, 109, 32, 116, 104, 97, 116, 32, 105, 115, 32, 110, 111, 110, 101]

/-- A WORLD FOR THE WITNESS: the settled one, one block more: the error's struct; the variable holding its pointer. -/
noncomputable def laidWorld (os : Os) : World :=
  let N := (World.settled Tryz.prog os).heap.size
  let w0 := World.holding Tryz.prog os ⟨#[.cells #[.string ⟨sysText.toArray⟩] 268], #[], []⟩
  { w0 with heap := w0.heap.modify 0 fun
      | .cells _ t frozen => .cells #[.iface 248 (.pointer (some ⟨N, 0, none⟩))] t frozen
      | o => o }
noncomputable abbrev nBlock : Nat := (World.settled Tryz.prog default).heap.size
theorem laidIn_sys (os : Os) (args : Array Value) : LaidIn Tryz.prog ((laidWorld os).forCall (fun _ _ => 0) ⟨#[], args, []⟩).memory [("semblance/api.ErrSystem", Rows.laid_semblance_api_ErrSystem)] [0, nBlock] :=
  LaidIn.of_run [0, nBlock] 8 (by kernel_rfl) (by kernel_rfl) (by kernel_rfl) (by kernel_rfl)
theorem laid_met (os : Os) (args : Array Value) : laidMet Tryz.prog [("semblance/api.ErrSystem", Rows.laid_semblance_api_ErrSystem)] ((laidWorld os).forCall (fun _ _ => 0) ⟨#[], args, []⟩).memory :=
  (laidIn_sys os args).met

theorem star_es : "*" ++ "errors.errorString" = "*errors.errorString" := by decide
theorem row_es (u : TypeId) (h : Tryz.prog.typeName? 3 u = some "*errors.errorString") : u = 248 :=
  typeName_ptr_named (nm := "errors.errorString") (by rw [star_es]; kernel_rfl) (by kernel_rfl) (by decide) u (by rw [star_es]; exact h)

/-- WHAT THE ROW's LIST GIVES: the variable holds a pointer. -/
theorem gerr_sys {r : List (String × DataW Unit)} {W : World} (h : laidMet Tryz.prog (("semblance/api.ErrSystem", Rows.laid_semblance_api_ErrSystem) :: r) W) : ∃ p, GErr 0 p W := by
  obtain ⟨a, s, hv, hc, _, _⟩ := laid_sentinel (g := 0) h (by kernel_rfl) (by kernel_rfl) Tryz.underlying28 row_es Tryz.underlying248 Tryz.underlying268 rfl rfl Tryz.underlying9 (by kernel_rfl) (by kernel_rfl)
  have hcell := World.var?_cell (g := 0) (by kernel_rfl) hv 0
  have hcell : W.cell? ⟨0, 0, none⟩ = some (.iface 248 (.pointer (some a))) := by simpa using hcell
  exact ⟨a, World.block_lt_of_cell? _ _ hcell, hcell⟩

/-- A list of numbers that came in. -/
theorem open_intList {H : Type} {enc : TypeId × Value → H} {W : World} {fuel : Nat} {a : Option Addr} {n c : Nat} {x : DataW H × List MemPlace}
    (h : DataW.trod enc Tryz.prog W 0 (fun _ => true) true fuel 49 [.slice a n c] = some x) :
    ∃ (b off : Nat) (xs : List Int), n = xs.length ∧ xs.length ≤ maxLen ∧ SlAt encI 1 W a b off xs ∧ ∀ y ∈ xs, (Lit.int .i64 y).wf = true := by
  rcases open_ints Tryz.underlying49 Tryz.underlying3 (by kernel_rfl) h with ⟨hcs, _⟩ | ⟨ad, len, cap, zs, hcs, _, hl, hm, hz, _, hcell, hw⟩
  · simp at hcs
    obtain ⟨rfl, rfl, rfl⟩ := hcs
    exact ⟨0, 0, [], rfl, by simp, slAt_nil _ _ _ _, by simp⟩
  · simp at hcs
    obtain ⟨rfl, rfl, rfl⟩ := hcs
    simp only [if_true] at hz
    obtain ⟨b, off, spot⟩ := ad
    refine ⟨b, off, zs.take n, by simp; omega, by simp; omega, ?_, fun y hy => hw y (List.mem_of_mem_take hy)⟩
    have hcl : 0 < n → spot = none ∧ b < W.heap.size := by
      intro h0
      have hc0 := hcell 0 (by omega)
      have hspot : spot = none := by simpa [Addr.add] using World.cell?_spot hc0
      subst hspot
      exact ⟨rfl, World.block_lt_of_cell? _ _ hc0⟩
    refine ⟨fun hp => ?_, fun hp => (hcl (by simp at hp; omega)).2, fun i y hy j u hu => ?_⟩
    · obtain ⟨rfl, _⟩ := hcl (by simp at hp; omega)
      rfl
    · have hi : i < n := by have := (List.getElem?_eq_some_iff.1 hy).1; simp at this; omega
      obtain ⟨rfl, _⟩ := hcl (by omega)
      match j, hu with
      | 0, hu =>
        simp [encI] at hu; subst hu
        rw [List.getElem?_take_of_lt hi] at hy
        have := hcell i (by omega)
        rw [List.getD_eq_getElem?_getD, hy, Go.WideShapes.add_plain] at this
        simpa using this
end Go.Proofs.YtkmljelgogcobaaGreatDoor

namespace Go.Proofs.YtkmljelgogcobaaGreatDoor
open Go.ChangeShapes Go.WideShapes Go.ChangeAt Go.RowKit Go.Lib Go.Deep Pl

theorem cellsInt : Tryz.prog.cellsOf 3 = 1 := by kernel_rfl
theorem cellsEdge : Tryz.prog.cellsOf 79 = 3 := by kernel_rfl

def wfE (x : E) : Prop := (Lit.int .i64 x.1).wf = true ∧ (Lit.int .i64 x.2.1).wf = true ∧ (Lit.int .i64 x.2.2).wf = true

set_option maxRecDepth 100000 in
theorem open_edge {H : Type} {enc : TypeId × Value → H} {W : World} {fuel : Nat} {cs : List Value} {x : DataW H × List MemPlace}
    (h : DataW.trod enc Tryz.prog W 0 (fun _ => true) true fuel 79 cs = some x) : ∃ e : E, cs = encE e ∧ wfE e := by
  obtain ⟨y0, y1, y2, n, _, hl, h0, h1, h2⟩ := trod_struct3 Tryz.underlying79 h
  rw [cellsEdge] at hl
  match cs, hl with
  | [c0, c1, c2], _ =>
    simp only [cellsInt] at h0 h1 h2
    obtain ⟨a0, e0, _, w0⟩ := DataW.trod_int Tryz.underlying3 h0
    obtain ⟨a1, e1, _, w1⟩ := DataW.trod_int Tryz.underlying3 h1
    obtain ⟨a2, e2, _, w2⟩ := DataW.trod_int Tryz.underlying3 h2
    simp at e0 e1 e2
    subst e0 e1 e2
    exact ⟨(a0, a1, a2), rfl, w0, w1, w2⟩

set_option maxRecDepth 100000 in
/-- A list of edges that came in. -/
theorem open_edges {H : Type} {enc : TypeId × Value → H} {W : World} {fuel : Nat} {v : Value} {x : DataW H × List MemPlace}
    (h : DataW.trod enc Tryz.prog W 0 (fun _ => true) true fuel 22 [v] = some x) :
    ∃ (a : Option Addr) (c b off : Nat) (es : List E), v = .slice a es.length c ∧ es.length ≤ maxLen ∧ SlAt encE 3 W a b off es ∧ (∀ y ∈ es, wfE y) ∧ es.length ≤ c ∧ c ≤ maxLen := by
  rcases open_slice Tryz.underlying22 h with ⟨hcs, _⟩ | ⟨ad, len, cap, m, n, D, Pls, hcs, _, hl, hm, hmm, _, hi⟩
  · simp at hcs
    subst hcs
    exact ⟨none, 0, 0, 0, [], rfl, by simp, slAt_nil _ _ _ _, by simp, by simp, by simp⟩
  · simp at hcs
    subst hcs
    simp only [if_true] at hmm
    rw [cellsEdge] at hi
    have hex : ∀ i : Nat, ∃ e : E, i < m → wfE e ∧ ∀ j u, (encE e)[j]? = some u → W.cell? (ad.add (i * 3 + j)) = some u := by
      intro i
      by_cases him : i < m
      · obtain ⟨cs', hc, ht⟩ := hi i him
        obtain ⟨e, rfl, hw⟩ := open_edge ht
        obtain ⟨_, hcl, hat⟩ := World.cells?_some hc
        refine ⟨e, fun _ => ⟨hw, fun j u hu => ?_⟩⟩
        have hj : j < 3 := by have := (List.getElem?_eq_some_iff.1 hu).1; simpa [encE] using this
        rw [← Go.Deep.add_add, hat j hj, hu]
      · exact ⟨(0, 0, 0), fun h => absurd h him⟩
    obtain ⟨f, hf⟩ := Classical.axiomOfChoice hex
    obtain ⟨b, off, spot⟩ := ad
    have hcl : 0 < len → spot = none ∧ b < W.heap.size := by
      intro h0
      have hc0 := (hf 0 (by omega)).2 0 _ rfl
      have hspot : spot = none := by simpa [Addr.add] using World.cell?_spot hc0
      subst hspot
      exact ⟨rfl, World.block_lt_of_cell? _ _ hc0⟩
    refine ⟨some ⟨b, off, spot⟩, cap, b, off, (List.range len).map f, by simp, by simp; omega, ⟨fun hp => ?_, fun hp => (hcl (by simpa using hp)).2, fun i y hy j u hu => ?_⟩, ?_, by simp; omega, by omega⟩
    · obtain ⟨rfl, _⟩ := hcl (by simpa using hp); rfl
    · have hil : i < len := by have := (List.getElem?_eq_some_iff.1 hy).1; simpa using this
      obtain ⟨rfl, _⟩ := hcl (by omega)
      have hy' : y = f i := by simp [hil] at hy; exact hy.symm
      subst hy'
      have := (hf i (by omega)).2 j u hu
      rw [Go.WideShapes.add_plain, ← Nat.add_assoc] at this
      exact this
    · intro y hy
      obtain ⟨i, hi', rfl⟩ := List.mem_map.1 hy
      rw [List.mem_range] at hi'
      exact (hf i (by omega)).1

set_option maxRecDepth 100000 in
/-- A system that came in. -/
theorem open_sys {H : Type} {enc : TypeId × Value → H} {W : World} {r : Reach} {b0 : Nat} {v : Value} {d : DataW H} {p : List MemPlace}
    (hv : Value.okWide Tryz.prog W r b0 24 v) (h : DataW.Trod enc Tryz.prog W 0 (fun _ => true) true 24 v d p) :
    ∃ (s : Lts) (a : Option Addr) (c b off : Nat), v = .agg #[.int .i64 s.st, .int .i64 s.lb, .int .i64 s.s0, .slice a s.es.length c] ∧ s.es.length ≤ maxLen ∧ SlAt encE 3 W a b off s.es ∧
      (∀ y ∈ s.es, wfE y) ∧ (Lit.int .i64 s.st).wf = true ∧ (Lit.int .i64 s.lb).wf = true ∧ (Lit.int .i64 s.s0).wf = true ∧ s.es.length ≤ c ∧ c ≤ maxLen := by
  obtain ⟨v0, v1, v2, v3, y0, y1, y2, y3, n, rfl, _, _, h0, h1, h2, h3⟩ := Go.Joins.open_agg4 Tryz.underlying24 (by kernel_rfl) (by kernel_rfl) hv h
  obtain ⟨a0, e0, _, w0⟩ := DataW.trod_int Tryz.underlying3 h0
  obtain ⟨a1, e1, _, w1⟩ := DataW.trod_int Tryz.underlying3 h1
  obtain ⟨a2, e2, _, w2⟩ := DataW.trod_int Tryz.underlying3 h2
  obtain ⟨a, c, b, off, es, rfl, hl, hS, hw, hc1, hc2⟩ := open_edges h3
  simp at e0 e1 e2
  subst e0 e1 e2
  exact ⟨⟨a0, a1, a2, es⟩, a, c, b, off, rfl, hl, hS, hw, w0, w1, w2, hc1, hc2⟩

end Go.Proofs.YtkmljelgogcobaaGreatDoor

namespace Go.Proofs.YtkmljelgogcobaaGreatDoor
open Go.ChangeShapes Go.WideShapes Go.ChangeAt Go.RowKit Go.Lib

theorem laidVars_subl {P : Program} {w : World} {l' l : List (String × DataW Unit)} (h : l'.Sublist l) : ∀ {ps : List MemPlace}, DataW.LaidVars P w l ps → ∃ ps', DataW.LaidVars P w l' ps' ∧ ps'.Sublist ps := by
  induction h with
  | slnil => intro ps hv; exact ⟨ps, hv, List.Sublist.refl _⟩
  | cons a _ ih =>
    intro ps hv
    obtain ⟨n, d⟩ := a
    obtain ⟨g, t, cs, fuel, p, q, _, _, _, _, hq, rfl⟩ := hv
    obtain ⟨ps', h1, h2⟩ := ih hq
    exact ⟨ps', h1, h2.trans (List.sublist_append_right _ _)⟩
  | cons_cons a _ ih =>
    intro ps hv
    obtain ⟨n, d⟩ := a
    obtain ⟨g, t, cs, fuel, p, q, h1, h2, h3, h4, hq, rfl⟩ := hv
    obtain ⟨ps', h5, h6⟩ := ih hq
    exact ⟨_, ⟨g, t, cs, fuel, p, ps', h1, h2, h3, h4, h5, rfl⟩, List.Sublist.append (List.Sublist.refl _) h6⟩
theorem laidMet_subl {P : Program} {w : World} {l' l : List (String × DataW Unit)} (hs : l'.Sublist l) (h : laidMet P l w) : laidMet P l' w := by
  obtain ⟨ps, hv, hnd, hrows⟩ := h
  obtain ⟨ps', h1, h2⟩ := laidVars_subl hs hv
  exact ⟨ps', h1, hnd.sublist h2, fun b off hm => hrows b off (h2.subset hm)⟩

/-- A sentinel: its variable holds a pointer. -/
theorem gerr_of {n : String} {g : Nat} {text : List UInt8} {W : World} (h : laidMet Tryz.prog [(n, .iface "*errors.errorString" (.ptr (.agg [.lit (.string text)])))] W)
    (hg : Tryz.prog.globalNamed n = some g) (ht : (Tryz.prog.globals[g]?).map (·.type) = some 28) : ∃ p, GErr g p W := by
  obtain ⟨a, s, hv, hc, _, _⟩ := laid_sentinel (g := g) h hg ht Tryz.underlying28 row_es Tryz.underlying248 Tryz.underlying268 rfl rfl Tryz.underlying9 (by kernel_rfl) (by kernel_rfl)
  have hcell := World.var?_cell (g := g) hg hv 0
  have hcell : W.cell? ⟨g, 0, none⟩ = some (.iface 248 (.pointer (some a))) := by simpa using hcell
  exact ⟨a, World.block_lt_of_cell? _ _ hcell, hcell⟩

theorem et_named : Tryz.prog.globalNamed "errors.errorType" = some 11 := by kernel_rfl
theorem et_rt : (Tryz.prog.cutTypes.find? (·.1 == "internal/reflectlite.rtype")).map (·.2) = some 229 := by kernel_rfl
theorem et_rows : ((List.range 280).filter fun t => Tryz.prog.rowNamed t [101, 114, 114, 111, 114]) = [28] := by kernel_rfl
theorem et_size : Tryz.prog.types.size = 280 := by kernel_rfl

/-- The handle of 'error'. -/
theorem errType_of {W : World} (h : handlesMet Tryz.prog [("errors.errorType", Rows.laid_errors_errorType)] W) : ErrType W := by
  obtain ⟨name, u, ty, e1, e2, e3, e4, e5⟩ := h _ (List.mem_singleton.2 rfl)
  have en : name = [101, 114, 114, 111, 114] := (Option.some.inj e1).symm
  subst en
  obtain rfl := Option.some.inj (et_rt.symm.trans e2)
  have hm : ty ∈ (List.range 280).filter fun t => Tryz.prog.rowNamed t [101, 114, 114, 111, 114] := List.mem_filter.2 ⟨List.mem_range.2 (by rw [← et_size]; exact e3), e4⟩
  rw [et_rows] at hm
  obtain rfl := List.mem_singleton.1 hm
  have hh : typeHandle Tryz.prog 28 = .pointer (some ⟨20, 28, none⟩) := by kernel_rfl
  rw [hh] at e5
  exact ⟨by simpa using World.var?_cell et_named e5 0⟩
end Go.Proofs.YtkmljelgogcobaaGreatDoor

namespace Go.Proofs.YtkmljelgogcobaaGreatDoor
open Go.RowKit Go.Extern.Stop Go.Stop Go.Extern Pl

set_option maxRecDepth 100000 in
/-- errors.Is(a fault that wraps a fault that wraps x itself, x). -/
theorem is_faultQ_same (pb pc : Nat) (b : Addr) (w : World) (h1 : w.cell? ⟨pb, 3, none⟩ = some (.iface 131 (.pointer (some ⟨pc, 0, none⟩)))) (h2 : w.cell? ⟨pc, 3, none⟩ = some (.iface 248 (.pointer (some b)))) :
    Calls Tryz.prog 151 #[.iface 131 (.pointer (some ⟨pb, 0, none⟩)), .iface 248 (.pointer (some b))] w fun e w' => e = .returned (.bool true) ∧ w = w' := by
  obtain ⟨i, hi, hcmp⟩ := Option.map_eq_some_iff.1 isComp
  obtain ⟨j, hj, hjs⟩ := Option.map_eq_some_iff.1 isSize
  have tT := isTypeOf
  have cT := isComparable
  have mR := isMethodComparable
  have nE := noIsE
  have uE := noUnwrapE
  have vE := noUnwrapsE
  have nW := noIsW
  have uW := hasUnwrapW
  have mU := methodUnwrap
  have heq := run_eql_iface_ptr_same (P := Tryz.prog) w b Tryz.underlying28 Tryz.underlying248 hi hcmp hj
  have hty := run_eql_iface_types (P := Tryz.prog) 131 248 (.pointer (some ⟨pb, 0, none⟩)) (.pointer (some b)) Tryz.underlying28 (by decide) w
  have hty2 := run_eql_iface_types (P := Tryz.prog) 131 248 (.pointer (some ⟨pc, 0, none⟩)) (.pointer (some b)) Tryz.underlying28 (by decide) w
  go_enter Tryz.func151, Tryz.ntmps151
  go_wp2
  refine wp_loop_rounds 3 ?_
  rw [rounds_succ]
  go_wp2
  rw [rounds_succ]
  go_wp2
  rw [rounds_succ]
  go_wp2
  go_ret
  exact ⟨rfl, rfl⟩

set_option maxRecDepth 100000 in
/-- errors.Is(a fault that wraps a fault that wraps another error, x). -/
theorem is_faultQ_other (pb pc : Nat) (b a : Addr) (ca cb : Array Value) (ta tb : TypeId) (w : World) (h1 : w.cell? ⟨pb, 3, none⟩ = some (.iface 131 (.pointer (some ⟨pc, 0, none⟩)))) (h2 : w.cell? ⟨pc, 3, none⟩ = some (.iface 248 (.pointer (some a)))) (hne : a ≠ b) (ha : w.heap[a.block]? = some (.cells ca ta (0, 0))) (hb : w.heap[b.block]? = some (.cells cb tb (0, 0))) :
    Calls Tryz.prog 151 #[.iface 131 (.pointer (some ⟨pb, 0, none⟩)), .iface 248 (.pointer (some b))] w fun e w' => e = .returned (.bool false) ∧ w = w' := by
  obtain ⟨i, hi, hcmp⟩ := Option.map_eq_some_iff.1 isComp
  obtain ⟨j, hj, hjs⟩ := Option.map_eq_some_iff.1 isSize
  have tT := isTypeOf
  have cT := isComparable
  have mR := isMethodComparable
  have nE := noIsE
  have uE := noUnwrapE
  have vE := noUnwrapsE
  have nW := noIsW
  have uW := hasUnwrapW
  have mU := methodUnwrap
  have heq := run_eql_iface_ptr_other (P := Tryz.prog) w Tryz.underlying28 Tryz.underlying248 hi hcmp hj (by rw [hjs]; decide) hne ha hb
  have hty := run_eql_iface_types (P := Tryz.prog) 131 248 (.pointer (some ⟨pb, 0, none⟩)) (.pointer (some b)) Tryz.underlying28 (by decide) w
  have hty2 := run_eql_iface_types (P := Tryz.prog) 131 248 (.pointer (some ⟨pc, 0, none⟩)) (.pointer (some b)) Tryz.underlying28 (by decide) w
  go_enter Tryz.func151, Tryz.ntmps151
  go_wp2
  refine wp_loop_rounds 3 ?_
  rw [rounds_succ]
  go_wp2
  rw [rounds_succ]
  go_wp2
  rw [rounds_succ]
  go_wp2
  go_ret
  exact ⟨rfl, rfl⟩

/-- Another package-level error: its pointer, its own block. -/
def SentQ (g : Nat) (p : Addr) (w : World) : Prop := ∃ (q : Addr) (c : Array Value) (t : TypeId), GErr g q w ∧ q ≠ p ∧ w.heap[q.block]? = some (.cells c t (0, 0))

theorem SentQ.below {g : Nat} {p : Addr} {w w' : World} (h : SentQ g p w) (hB : Below w.heap.size w w') : SentQ g p w' := by
  obtain ⟨q, c, t, h1, h2, h3⟩ := h
  exact ⟨q, c, t, h1.below hB, h2, by rw [hB.block _ (Array.getElem?_eq_some_iff.1 h3).1]; exact h3⟩

set_option maxRecDepth 100000 in
theorem isNilE_any (v : Value) (w : World) : Calls Tryz.prog 151 #[.nilIface, .iface 248 v] w fun e w' => e = .returned (.bool false) ∧ w = w' := by
  have hne := run_eql_iface_nil_left (P := Tryz.prog) (w := w) 248 v Tryz.underlying28
  go_enter Tryz.func151, Tryz.ntmps151
  go_wp2
  go_ret
  exact ⟨rfl, rfl⟩

end Go.Proofs.YtkmljelgogcobaaGreatDoor

namespace Go.Proofs.YtkmljelgogcobaaGreatDoor
open Go.RowKit Go.Extern.Stop Go.Stop Go.Extern Pl

set_option maxRecDepth 100000 in
/-- errors.Is(x, x). -/
theorem is_raw_same (b : Addr) (w : World) :
    Calls Tryz.prog 151 #[.iface 248 (.pointer (some b)), .iface 248 (.pointer (some b))] w fun e w' => e = .returned (.bool true) ∧ w = w' := by
  obtain ⟨i, hi, hcmp⟩ := Option.map_eq_some_iff.1 isComp
  obtain ⟨j, hj, hjs⟩ := Option.map_eq_some_iff.1 isSize
  have tT := isTypeOf
  have cT := isComparable
  have mR := isMethodComparable
  have nE := noIsE
  have uE := noUnwrapE
  have vE := noUnwrapsE
  have heq := run_eql_iface_ptr_same (P := Tryz.prog) w b Tryz.underlying28 Tryz.underlying248 hi hcmp hj
  go_enter Tryz.func151, Tryz.ntmps151
  go_wp2
  refine wp_loop_rounds 1 ?_
  rw [rounds_succ]
  go_wp2
  go_ret
  exact ⟨rfl, rfl⟩

set_option maxRecDepth 100000 in
/-- errors.Is(another error, x). -/
theorem is_raw_other (b a : Addr) (ca cb : Array Value) (ta tb : TypeId) (w : World) (hne : a ≠ b) (ha : w.heap[a.block]? = some (.cells ca ta (0, 0))) (hb : w.heap[b.block]? = some (.cells cb tb (0, 0))) :
    Calls Tryz.prog 151 #[.iface 248 (.pointer (some a)), .iface 248 (.pointer (some b))] w fun e w' => e = .returned (.bool false) ∧ w = w' := by
  obtain ⟨i, hi, hcmp⟩ := Option.map_eq_some_iff.1 isComp
  obtain ⟨j, hj, hjs⟩ := Option.map_eq_some_iff.1 isSize
  have tT := isTypeOf
  have cT := isComparable
  have mR := isMethodComparable
  have nE := noIsE
  have uE := noUnwrapE
  have vE := noUnwrapsE
  have heq := run_eql_iface_ptr_other (P := Tryz.prog) w Tryz.underlying28 Tryz.underlying248 hi hcmp hj (by rw [hjs]; decide) hne ha hb
  go_enter Tryz.func151, Tryz.ntmps151
  go_wp2
  refine wp_loop_rounds 1 ?_
  rw [rounds_succ]
  go_wp2
  go_ret
  exact ⟨rfl, rfl⟩

/-- The package-level errors, by their codes. -/
def gE : Nat → Nat
  | 1 => 1
  | 2 => 2
  | 3 => 3
  | 4 => 4
  | 5 => 5
  | 6 => 6
  | 7 => 7
  | 8 => 8
  | 9 => 9
  | 10 => 10
  | 11 => 12
  | 12 => 13
  | 13 => 14
  | 14 => 0
  | 15 => 15
  | 16 => 16
  | 17 => 17
  | 18 => 18
  | 19 => 19
  | _ => 0

/-- The error of code k, and that those ahead of it are others. -/
structure ErrsK (k : Nat) (p : Addr) (w : World) : Prop where
  sys : GErr (gE k) p w
  blk : ∃ c t, w.heap[p.block]? = some (.cells c t (0, 0))
  oth : ∀ j, 1 ≤ j → j < k → SentQ (gE j) p w
theorem ErrsK.below {k : Nat} {p : Addr} {w w' : World} (h : ErrsK k p w) (hB : Below w.heap.size w w') : ErrsK k p w' :=
  ⟨h.sys.below hB, by obtain ⟨c, t, h1⟩ := h.blk; exact ⟨c, t, by rw [hB.block _ (Array.getElem?_eq_some_iff.1 h1).1]; exact h1⟩, fun j h1 h2 => (h.oth j h1 h2).below hB⟩
/-- What errors.Is tells of an error of code k. -/
structure CodeW (w : World) (v : Value) (k : Nat) : Prop where
  same : ∃ q, w.cell? ⟨gE k, 0, none⟩ = some (.iface 248 (.pointer (some q))) ∧ Calls Tryz.prog 151 #[v, .iface 248 (.pointer (some q))] w fun e w' => e = .returned (.bool true) ∧ w = w'
  oth : ∀ j, 1 ≤ j → j < k → ∃ q, w.cell? ⟨gE j, 0, none⟩ = some (.iface 248 (.pointer (some q))) ∧ Calls Tryz.prog 151 #[v, .iface 248 (.pointer (some q))] w fun e w' => e = .returned (.bool false) ∧ w = w'
theorem codeW0 {k : Nat} {p : Addr} {w : World} (h : ErrsK k p w) : CodeW w (.iface 248 (.pointer (some p))) k :=
  ⟨⟨p, h.sys.cell, is_raw_same p w⟩, fun j h1 h2 => by
    obtain ⟨q, c, t, h3, h4, h5⟩ := h.oth j h1 h2
    obtain ⟨c2, t2, h6⟩ := h.blk
    exact ⟨q, h3.cell, is_raw_other q p c2 c t2 t w (Ne.symm h4) h6 h5⟩⟩
theorem codeW1 {k : Nat} {p : Addr} {w : World} {fb : Nat} (h : ErrsK k p w) (hc : w.cell? ⟨fb, 3, none⟩ = some (.iface 248 (.pointer (some p)))) : CodeW w (.iface 131 (.pointer (some ⟨fb, 0, none⟩))) k :=
  ⟨⟨p, h.sys.cell, is_fault_same fb p w hc⟩, fun j h1 h2 => by
    obtain ⟨q, c, t, h3, h4, h5⟩ := h.oth j h1 h2
    obtain ⟨c2, t2, h6⟩ := h.blk
    exact ⟨q, h3.cell, is_fault_other fb q p c2 c t2 t w hc (Ne.symm h4) h6 h5⟩⟩
theorem codeW2 {k : Nat} {p : Addr} {w : World} {fb fc : Nat} (h : ErrsK k p w) (h0 : w.cell? ⟨fb, 3, none⟩ = some (.iface 131 (.pointer (some ⟨fc, 0, none⟩)))) (hc : w.cell? ⟨fc, 3, none⟩ = some (.iface 248 (.pointer (some p)))) : CodeW w (.iface 131 (.pointer (some ⟨fb, 0, none⟩))) k :=
  ⟨⟨p, h.sys.cell, is_faultQ_same fb fc p w h0 hc⟩, fun j h1 h2 => by
    obtain ⟨q, c, t, h3, h4, h5⟩ := h.oth j h1 h2
    obtain ⟨c2, t2, h6⟩ := h.blk
    exact ⟨q, h3.cell, is_faultQ_other fb fc q p c2 c t2 t w h0 hc (Ne.symm h4) h6 h5⟩⟩

set_option maxRecDepth 100000 in
set_option maxHeartbeats 2000000 in
theorem code2_any {w : World} {T : TypeId} {x : Value} (h : CodeW w (.iface T x) 2) :
    Calls Tryz.prog 115 #[.iface T x] w fun e w' => e = .returned (.int .i64 2) ∧ w = w' := by
  obtain ⟨q1, c1, i1⟩ := h.oth 1 (by decide) (by decide)
  have I1 := Lib.hid i1; clear i1
  simp only [gE] at c1
  obtain ⟨q2, c2, i2⟩ := h.same
  have I2 := Lib.hid i2; clear i2
  simp only [gE] at c2
  clear h
  go_enter Tryz.func115, Tryz.ntmps115
  go_wp2_with fail
  refine I1.out.mono ?_
  rintro e w' ⟨rfl, rfl⟩
  go_wp2_with fail
  refine I2.out.mono ?_
  rintro e w' ⟨rfl, rfl⟩
  go_wp2
  go_ret
  exact ⟨rfl, rfl⟩

set_option maxRecDepth 100000 in
set_option maxHeartbeats 2000000 in
theorem code3_any {w : World} {T : TypeId} {x : Value} (h : CodeW w (.iface T x) 3) :
    Calls Tryz.prog 115 #[.iface T x] w fun e w' => e = .returned (.int .i64 3) ∧ w = w' := by
  obtain ⟨q1, c1, i1⟩ := h.oth 1 (by decide) (by decide)
  have I1 := Lib.hid i1; clear i1
  simp only [gE] at c1
  obtain ⟨q2, c2, i2⟩ := h.oth 2 (by decide) (by decide)
  have I2 := Lib.hid i2; clear i2
  simp only [gE] at c2
  obtain ⟨q3, c3, i3⟩ := h.same
  have I3 := Lib.hid i3; clear i3
  simp only [gE] at c3
  clear h
  go_enter Tryz.func115, Tryz.ntmps115
  go_wp2_with fail
  refine I1.out.mono ?_
  rintro e w' ⟨rfl, rfl⟩
  go_wp2_with fail
  refine I2.out.mono ?_
  rintro e w' ⟨rfl, rfl⟩
  go_wp2_with fail
  refine I3.out.mono ?_
  rintro e w' ⟨rfl, rfl⟩
  go_wp2
  go_ret
  exact ⟨rfl, rfl⟩

set_option maxRecDepth 100000 in
set_option maxHeartbeats 2000000 in
theorem rest13_any {w : World} {T : TypeId} {x : Value} (h : CodeW w (.iface T x) 13) :
    Calls Tryz.prog 152 #[.iface T x] w fun e w' => e = .returned (.int .i64 13) ∧ w = w' := by
  obtain ⟨q11, c11, i11⟩ := h.oth 11 (by decide) (by decide)
  have I11 := Lib.hid i11; clear i11
  simp only [gE] at c11
  obtain ⟨q12, c12, i12⟩ := h.oth 12 (by decide) (by decide)
  have I12 := Lib.hid i12; clear i12
  simp only [gE] at c12
  obtain ⟨q13, c13, i13⟩ := h.same
  have I13 := Lib.hid i13; clear i13
  simp only [gE] at c13
  clear h
  go_enter Tryz.func152, Tryz.ntmps152
  go_wp2_with fail
  refine I11.out.mono ?_
  rintro e w' ⟨rfl, rfl⟩
  go_wp2_with fail
  refine I12.out.mono ?_
  rintro e w' ⟨rfl, rfl⟩
  go_wp2_with fail
  refine I13.out.mono ?_
  rintro e w' ⟨rfl, rfl⟩
  go_wp2
  go_ret
  exact ⟨rfl, rfl⟩

set_option maxRecDepth 100000 in
set_option maxHeartbeats 2000000 in
theorem code13_any {w : World} {T : TypeId} {x : Value} (h : CodeW w (.iface T x) 13) :
    Calls Tryz.prog 115 #[.iface T x] w fun e w' => e = .returned (.int .i64 13) ∧ w = w' := by
  obtain ⟨q1, c1, i1⟩ := h.oth 1 (by decide) (by decide)
  have I1 := Lib.hid i1; clear i1
  simp only [gE] at c1
  obtain ⟨q2, c2, i2⟩ := h.oth 2 (by decide) (by decide)
  have I2 := Lib.hid i2; clear i2
  simp only [gE] at c2
  obtain ⟨q3, c3, i3⟩ := h.oth 3 (by decide) (by decide)
  have I3 := Lib.hid i3; clear i3
  simp only [gE] at c3
  obtain ⟨q4, c4, i4⟩ := h.oth 4 (by decide) (by decide)
  have I4 := Lib.hid i4; clear i4
  simp only [gE] at c4
  obtain ⟨q5, c5, i5⟩ := h.oth 5 (by decide) (by decide)
  have I5 := Lib.hid i5; clear i5
  simp only [gE] at c5
  obtain ⟨q6, c6, i6⟩ := h.oth 6 (by decide) (by decide)
  have I6 := Lib.hid i6; clear i6
  simp only [gE] at c6
  obtain ⟨q7, c7, i7⟩ := h.oth 7 (by decide) (by decide)
  have I7 := Lib.hid i7; clear i7
  simp only [gE] at c7
  obtain ⟨q8, c8, i8⟩ := h.oth 8 (by decide) (by decide)
  have I8 := Lib.hid i8; clear i8
  simp only [gE] at c8
  obtain ⟨q9, c9, i9⟩ := h.oth 9 (by decide) (by decide)
  have I9 := Lib.hid i9; clear i9
  simp only [gE] at c9
  obtain ⟨q10, c10, i10⟩ := h.oth 10 (by decide) (by decide)
  have I10 := Lib.hid i10; clear i10
  simp only [gE] at c10
  have HR := Lib.hid (rest13_any h)
  clear h
  go_enter Tryz.func115, Tryz.ntmps115
  go_wp2_with fail
  refine I1.out.mono ?_
  rintro e w' ⟨rfl, rfl⟩
  go_wp2_with fail
  refine I2.out.mono ?_
  rintro e w' ⟨rfl, rfl⟩
  go_wp2_with fail
  refine I3.out.mono ?_
  rintro e w' ⟨rfl, rfl⟩
  go_wp2_with fail
  refine I4.out.mono ?_
  rintro e w' ⟨rfl, rfl⟩
  go_wp2_with fail
  refine I5.out.mono ?_
  rintro e w' ⟨rfl, rfl⟩
  go_wp2_with fail
  refine I6.out.mono ?_
  rintro e w' ⟨rfl, rfl⟩
  go_wp2_with fail
  refine I7.out.mono ?_
  rintro e w' ⟨rfl, rfl⟩
  go_wp2_with fail
  refine I8.out.mono ?_
  rintro e w' ⟨rfl, rfl⟩
  go_wp2_with fail
  refine I9.out.mono ?_
  rintro e w' ⟨rfl, rfl⟩
  go_wp2_with fail
  refine I10.out.mono ?_
  rintro e w' ⟨rfl, rfl⟩
  go_wp2_with fail
  refine HR.out.mono ?_
  rintro e w' ⟨rfl, rfl⟩
  go_wp2
  go_ret
  exact ⟨rfl, rfl⟩

set_option maxRecDepth 100000 in
set_option maxHeartbeats 2000000 in
theorem rest14_any {w : World} {T : TypeId} {x : Value} (h : CodeW w (.iface T x) 14) :
    Calls Tryz.prog 152 #[.iface T x] w fun e w' => e = .returned (.int .i64 14) ∧ w = w' := by
  obtain ⟨q11, c11, i11⟩ := h.oth 11 (by decide) (by decide)
  have I11 := Lib.hid i11; clear i11
  simp only [gE] at c11
  obtain ⟨q12, c12, i12⟩ := h.oth 12 (by decide) (by decide)
  have I12 := Lib.hid i12; clear i12
  simp only [gE] at c12
  obtain ⟨q13, c13, i13⟩ := h.oth 13 (by decide) (by decide)
  have I13 := Lib.hid i13; clear i13
  simp only [gE] at c13
  obtain ⟨q14, c14, i14⟩ := h.same
  have I14 := Lib.hid i14; clear i14
  simp only [gE] at c14
  clear h
  go_enter Tryz.func152, Tryz.ntmps152
  go_wp2_with fail
  refine I11.out.mono ?_
  rintro e w' ⟨rfl, rfl⟩
  go_wp2_with fail
  refine I12.out.mono ?_
  rintro e w' ⟨rfl, rfl⟩
  go_wp2_with fail
  refine I13.out.mono ?_
  rintro e w' ⟨rfl, rfl⟩
  go_wp2_with fail
  refine I14.out.mono ?_
  rintro e w' ⟨rfl, rfl⟩
  go_wp2
  go_ret
  exact ⟨rfl, rfl⟩

set_option maxRecDepth 100000 in
set_option maxHeartbeats 2000000 in
theorem code14_any {w : World} {T : TypeId} {x : Value} (h : CodeW w (.iface T x) 14) :
    Calls Tryz.prog 115 #[.iface T x] w fun e w' => e = .returned (.int .i64 14) ∧ w = w' := by
  obtain ⟨q1, c1, i1⟩ := h.oth 1 (by decide) (by decide)
  have I1 := Lib.hid i1; clear i1
  simp only [gE] at c1
  obtain ⟨q2, c2, i2⟩ := h.oth 2 (by decide) (by decide)
  have I2 := Lib.hid i2; clear i2
  simp only [gE] at c2
  obtain ⟨q3, c3, i3⟩ := h.oth 3 (by decide) (by decide)
  have I3 := Lib.hid i3; clear i3
  simp only [gE] at c3
  obtain ⟨q4, c4, i4⟩ := h.oth 4 (by decide) (by decide)
  have I4 := Lib.hid i4; clear i4
  simp only [gE] at c4
  obtain ⟨q5, c5, i5⟩ := h.oth 5 (by decide) (by decide)
  have I5 := Lib.hid i5; clear i5
  simp only [gE] at c5
  obtain ⟨q6, c6, i6⟩ := h.oth 6 (by decide) (by decide)
  have I6 := Lib.hid i6; clear i6
  simp only [gE] at c6
  obtain ⟨q7, c7, i7⟩ := h.oth 7 (by decide) (by decide)
  have I7 := Lib.hid i7; clear i7
  simp only [gE] at c7
  obtain ⟨q8, c8, i8⟩ := h.oth 8 (by decide) (by decide)
  have I8 := Lib.hid i8; clear i8
  simp only [gE] at c8
  obtain ⟨q9, c9, i9⟩ := h.oth 9 (by decide) (by decide)
  have I9 := Lib.hid i9; clear i9
  simp only [gE] at c9
  obtain ⟨q10, c10, i10⟩ := h.oth 10 (by decide) (by decide)
  have I10 := Lib.hid i10; clear i10
  simp only [gE] at c10
  have HR := Lib.hid (rest14_any h)
  clear h
  go_enter Tryz.func115, Tryz.ntmps115
  go_wp2_with fail
  refine I1.out.mono ?_
  rintro e w' ⟨rfl, rfl⟩
  go_wp2_with fail
  refine I2.out.mono ?_
  rintro e w' ⟨rfl, rfl⟩
  go_wp2_with fail
  refine I3.out.mono ?_
  rintro e w' ⟨rfl, rfl⟩
  go_wp2_with fail
  refine I4.out.mono ?_
  rintro e w' ⟨rfl, rfl⟩
  go_wp2_with fail
  refine I5.out.mono ?_
  rintro e w' ⟨rfl, rfl⟩
  go_wp2_with fail
  refine I6.out.mono ?_
  rintro e w' ⟨rfl, rfl⟩
  go_wp2_with fail
  refine I7.out.mono ?_
  rintro e w' ⟨rfl, rfl⟩
  go_wp2_with fail
  refine I8.out.mono ?_
  rintro e w' ⟨rfl, rfl⟩
  go_wp2_with fail
  refine I9.out.mono ?_
  rintro e w' ⟨rfl, rfl⟩
  go_wp2_with fail
  refine I10.out.mono ?_
  rintro e w' ⟨rfl, rfl⟩
  go_wp2_with fail
  refine HR.out.mono ?_
  rintro e w' ⟨rfl, rfl⟩
  go_wp2
  go_ret
  exact ⟨rfl, rfl⟩

set_option maxRecDepth 100000 in
set_option maxHeartbeats 2000000 in
theorem rest15_any {w : World} {T : TypeId} {x : Value} (h : CodeW w (.iface T x) 15) :
    Calls Tryz.prog 152 #[.iface T x] w fun e w' => e = .returned (.int .i64 15) ∧ w = w' := by
  obtain ⟨q11, c11, i11⟩ := h.oth 11 (by decide) (by decide)
  have I11 := Lib.hid i11; clear i11
  simp only [gE] at c11
  obtain ⟨q12, c12, i12⟩ := h.oth 12 (by decide) (by decide)
  have I12 := Lib.hid i12; clear i12
  simp only [gE] at c12
  obtain ⟨q13, c13, i13⟩ := h.oth 13 (by decide) (by decide)
  have I13 := Lib.hid i13; clear i13
  simp only [gE] at c13
  obtain ⟨q14, c14, i14⟩ := h.oth 14 (by decide) (by decide)
  have I14 := Lib.hid i14; clear i14
  simp only [gE] at c14
  obtain ⟨q15, c15, i15⟩ := h.same
  have I15 := Lib.hid i15; clear i15
  simp only [gE] at c15
  clear h
  go_enter Tryz.func152, Tryz.ntmps152
  go_wp2_with fail
  refine I11.out.mono ?_
  rintro e w' ⟨rfl, rfl⟩
  go_wp2_with fail
  refine I12.out.mono ?_
  rintro e w' ⟨rfl, rfl⟩
  go_wp2_with fail
  refine I13.out.mono ?_
  rintro e w' ⟨rfl, rfl⟩
  go_wp2_with fail
  refine I14.out.mono ?_
  rintro e w' ⟨rfl, rfl⟩
  go_wp2_with fail
  refine I15.out.mono ?_
  rintro e w' ⟨rfl, rfl⟩
  go_wp2
  go_ret
  exact ⟨rfl, rfl⟩

set_option maxRecDepth 100000 in
set_option maxHeartbeats 2000000 in
theorem code15_any {w : World} {T : TypeId} {x : Value} (h : CodeW w (.iface T x) 15) :
    Calls Tryz.prog 115 #[.iface T x] w fun e w' => e = .returned (.int .i64 15) ∧ w = w' := by
  obtain ⟨q1, c1, i1⟩ := h.oth 1 (by decide) (by decide)
  have I1 := Lib.hid i1; clear i1
  simp only [gE] at c1
  obtain ⟨q2, c2, i2⟩ := h.oth 2 (by decide) (by decide)
  have I2 := Lib.hid i2; clear i2
  simp only [gE] at c2
  obtain ⟨q3, c3, i3⟩ := h.oth 3 (by decide) (by decide)
  have I3 := Lib.hid i3; clear i3
  simp only [gE] at c3
  obtain ⟨q4, c4, i4⟩ := h.oth 4 (by decide) (by decide)
  have I4 := Lib.hid i4; clear i4
  simp only [gE] at c4
  obtain ⟨q5, c5, i5⟩ := h.oth 5 (by decide) (by decide)
  have I5 := Lib.hid i5; clear i5
  simp only [gE] at c5
  obtain ⟨q6, c6, i6⟩ := h.oth 6 (by decide) (by decide)
  have I6 := Lib.hid i6; clear i6
  simp only [gE] at c6
  obtain ⟨q7, c7, i7⟩ := h.oth 7 (by decide) (by decide)
  have I7 := Lib.hid i7; clear i7
  simp only [gE] at c7
  obtain ⟨q8, c8, i8⟩ := h.oth 8 (by decide) (by decide)
  have I8 := Lib.hid i8; clear i8
  simp only [gE] at c8
  obtain ⟨q9, c9, i9⟩ := h.oth 9 (by decide) (by decide)
  have I9 := Lib.hid i9; clear i9
  simp only [gE] at c9
  obtain ⟨q10, c10, i10⟩ := h.oth 10 (by decide) (by decide)
  have I10 := Lib.hid i10; clear i10
  simp only [gE] at c10
  have HR := Lib.hid (rest15_any h)
  clear h
  go_enter Tryz.func115, Tryz.ntmps115
  go_wp2_with fail
  refine I1.out.mono ?_
  rintro e w' ⟨rfl, rfl⟩
  go_wp2_with fail
  refine I2.out.mono ?_
  rintro e w' ⟨rfl, rfl⟩
  go_wp2_with fail
  refine I3.out.mono ?_
  rintro e w' ⟨rfl, rfl⟩
  go_wp2_with fail
  refine I4.out.mono ?_
  rintro e w' ⟨rfl, rfl⟩
  go_wp2_with fail
  refine I5.out.mono ?_
  rintro e w' ⟨rfl, rfl⟩
  go_wp2_with fail
  refine I6.out.mono ?_
  rintro e w' ⟨rfl, rfl⟩
  go_wp2_with fail
  refine I7.out.mono ?_
  rintro e w' ⟨rfl, rfl⟩
  go_wp2_with fail
  refine I8.out.mono ?_
  rintro e w' ⟨rfl, rfl⟩
  go_wp2_with fail
  refine I9.out.mono ?_
  rintro e w' ⟨rfl, rfl⟩
  go_wp2_with fail
  refine I10.out.mono ?_
  rintro e w' ⟨rfl, rfl⟩
  go_wp2_with fail
  refine HR.out.mono ?_
  rintro e w' ⟨rfl, rfl⟩
  go_wp2
  go_ret
  exact ⟨rfl, rfl⟩

/-- The codes that were walked. -/
def CodeIn (k : Nat) : Prop := k = 2 ∨ k = 3 ∨ k = 13 ∨ k = 14 ∨ k = 15
theorem code_any {w : World} {T : TypeId} {x : Value} {k : Nat} (hk : CodeIn k) (h : CodeW w (.iface T x) k) :
    Calls Tryz.prog 115 #[.iface T x] w fun e w' => e = .returned (.int .i64 (k : Int)) ∧ w = w' := by
  unfold CodeIn at hk
  rcases hk with rfl | rfl | rfl | rfl | rfl
  · exact code2_any h
  · exact code3_any h
  · exact code13_any h
  · exact code14_any h
  · exact code15_any h

/-! Told -/
theorem asFault (v : Value) (xT : TypeId) (w : World) : (Instr.typeAssert (.iface 131 v) xT 131 true).run Tryz.prog w = .ok (.tuple #[v, .bool true]) w := by kernel_rfl
theorem asFaultE (v : Value) (xT : TypeId) (w : World) : (Instr.typeAssert (.iface 248 v) xT 131 true).run Tryz.prog w = .ok (.tuple #[.pointer none, .bool false]) w := by kernel_rfl

set_option maxRecDepth 100000 in
theorem told_nil (a b : Int) (s : ByteArray) (w : World) : Calls Tryz.prog 32 #[.nilIface, .agg #[.int .i64 0, .int .i64 a, .int .i64 b, .string s]] w fun e w' => e = .returned (.bool true) ∧ Below w.heap.size w w' := by
  go_enter Tryz.func32, Tryz.ntmps32
  go_wp2_with fail
  go_ret
  exact ⟨rfl, (Below.refl _ _).alloc (Nat.le_refl _) _⟩

set_option maxRecDepth 100000 in
set_option maxHeartbeats 2000000 in
theorem told_one {p : Addr} {w : World} {k : Nat} (hk : CodeIn k) (hE : ErrsK k p w) {v : Value} {l : ByteArray} (hF : FaultAt w v l (.iface 248 (.pointer (some p)))) (hl : l.size ≤ 1000) :
    Calls Tryz.prog 32 #[v, .agg #[.int .i64 (k : Int), .int .i64 0, .int .i64 0, .string (l ++ ⟨#[32]⟩)]] w fun e w' => e = .returned (.bool true) ∧ Below w.heap.size w w' := by
  obtain ⟨fb, rfl, hf⟩ := hF.ex
  obtain ⟨W, hW⟩ : ∃ W, W = w.alloc (.cells #[.int .i64 (k : Int), .int .i64 0, .int .i64 0, .string (l ++ ⟨#[32]⟩)] 66) := ⟨_, rfl⟩
  have hB : Below w.heap.size w W := by rw [hW]; exact (Below.refl w.heap.size w).alloc (Nat.le_refl _) _
  have hb := heap_alloc_new w (.cells #[.int .i64 (k : Int), .int .i64 0, .int .i64 0, .string (l ++ ⟨#[32]⟩)] 66)
  rw [← hW] at hb
  have hf1 := (hB.block fb (Array.getElem?_eq_some_iff.1 hf).1).trans hf
  have e0 : W.cell? ⟨w.heap.size, 0, none⟩ = some (.int .i64 (k : Int)) := by simp [World.cell?, hb]
  have e1 : W.cell? ⟨w.heap.size, 1, none⟩ = some (.int .i64 0) := by simp [World.cell?, hb]
  have e2 : W.cell? ⟨w.heap.size, 2, none⟩ = some (.int .i64 0) := by simp [World.cell?, hb]
  have e3 : W.cell? ⟨w.heap.size, 3, none⟩ = some (.string (l ++ ⟨#[32]⟩)) := by simp [World.cell?, hb]
  have el := (Array.getElem?_eq_some_iff.1 hb).1
  have f0 : W.cell? ⟨fb, 0, none⟩ = some (.string l) := by simp [World.cell?, hf1]
  have f1 : W.cell? ⟨fb, 1, none⟩ = some (.int .i64 0) := by simp [World.cell?, hf1]
  have f2 : W.cell? ⟨fb, 2, none⟩ = some (.int .i64 0) := by simp [World.cell?, hf1]
  have f3 : W.cell? ⟨fb, 3, none⟩ = some (.iface 248 (.pointer (some p))) := by simp [World.cell?, hf1]
  have fl := (Array.getElem?_eq_some_iff.1 hf1).1
  have HC1 : RowKit.Hid (∀ V, Below W.heap.size W V → Calls Tryz.prog 115 #[.iface 131 (.pointer (some ⟨fb, 0, none⟩))] V fun e w' => e = .returned (.int .i64 (k : Int)) ∧ V = w') := Lib.hid (fun V hV => code_any hk (codeW1 ((hE.below hB).below hV) (by rw [hV.cell (p := ⟨fb, 3, none⟩) fl]; exact f3)))
  have HC0 : RowKit.Hid (∀ V, Below W.heap.size W V → Calls Tryz.prog 115 #[.iface 248 (.pointer (some p))] V fun e w' => e = .returned (.int .i64 (k : Int)) ∧ V = w') := Lib.hid (fun V hV => code_any hk (codeW0 ((hE.below hB).below hV)))
  have hk0 : ((k : Int) == 0) = false := by unfold CodeIn at hk; simp; omega
  have HB := Lib.hid hB
  have hz1 : ¬ 9223372036854775807 < l.size := by omega
  have hz2 : ¬ 9223372036854775807 < l.size + 1 := by omega
  have hem : ({ data := #[] } : ByteArray) ++ l = l := ByteArray.empty_append
  have aF := asFault
  have aE := asFaultE
  have HWE := Lib.hid hW
  clear hE hf hB hf1 hk hF hb hW
  go_enter Tryz.func32, Tryz.ntmps32
  go_wp2_with fail
  rw [← HWE.out]
  go_region_held3 (fun w' => w'.cell? ⟨w.heap.size, 0, none⟩ = some (.int .i64 (k : Int))) (first | exact e0 | assumption) ((go_at_call 115; refine (HC1.out _ (Below.refl _ _).drew).mono ?_; rintro e w5 ⟨rfl, rfl⟩))
  go_wp2_with fail
  refine wp_loop_rounds 2 ?_
  rw [rounds_succ]
  go_wp2_with fail
  go_quiet (fail)
  go_wp2_with fail
  try rw [hem]
  rw [rounds_succ]
  go_wp2_with fail
  go_region_held3 (fun w' => w'.cell? ⟨w.heap.size, 0, none⟩ = some (.int .i64 (k : Int)) ∧ w'.cell? ⟨w.heap.size, 3, none⟩ = some (.string (l ++ ⟨#[32]⟩))) (first | exact ⟨e0, e3⟩ | assumption) ((go_at_call 115; refine (HC0.out (W.drewN _) (bdrew (Below.refl _ _))).mono ?_; rintro e w5 ⟨rfl, rfl⟩))
  go_wp2_with fail
  go_ret
  exact ⟨rfl, bdrew HB.out⟩
set_option maxRecDepth 100000 in
set_option maxHeartbeats 2000000 in
theorem told_two {p : Addr} {w : World} {k : Nat} (hk : CodeIn k) (hE : ErrsK k p w) {v vi : Value} {l m : ByteArray} (hF : FaultAt w v l vi) (hF2 : FaultAt w vi m (.iface 248 (.pointer (some p)))) (hl : l.size ≤ 1000) (hm : m.size ≤ 1000) :
    Calls Tryz.prog 32 #[v, .agg #[.int .i64 (k : Int), .int .i64 0, .int .i64 0, .string (l ++ ⟨#[32]⟩ ++ m ++ ⟨#[32]⟩)]] w fun e w' => e = .returned (.bool true) ∧ Below w.heap.size w w' := by
  obtain ⟨fb, rfl, hf⟩ := hF.ex
  obtain ⟨fc, rfl, hg⟩ := hF2.ex
  obtain ⟨W, hW⟩ : ∃ W, W = w.alloc (.cells #[.int .i64 (k : Int), .int .i64 0, .int .i64 0, .string (l ++ ⟨#[32]⟩ ++ m ++ ⟨#[32]⟩)] 66) := ⟨_, rfl⟩
  have hB : Below w.heap.size w W := by rw [hW]; exact (Below.refl w.heap.size w).alloc (Nat.le_refl _) _
  have hb := heap_alloc_new w (.cells #[.int .i64 (k : Int), .int .i64 0, .int .i64 0, .string (l ++ ⟨#[32]⟩ ++ m ++ ⟨#[32]⟩)] 66)
  rw [← hW] at hb
  have hf1 := (hB.block fb (Array.getElem?_eq_some_iff.1 hf).1).trans hf
  have hg1 := (hB.block fc (Array.getElem?_eq_some_iff.1 hg).1).trans hg
  have e0 : W.cell? ⟨w.heap.size, 0, none⟩ = some (.int .i64 (k : Int)) := by simp [World.cell?, hb]
  have e1 : W.cell? ⟨w.heap.size, 1, none⟩ = some (.int .i64 0) := by simp [World.cell?, hb]
  have e2 : W.cell? ⟨w.heap.size, 2, none⟩ = some (.int .i64 0) := by simp [World.cell?, hb]
  have e3 : W.cell? ⟨w.heap.size, 3, none⟩ = some (.string (l ++ ⟨#[32]⟩ ++ m ++ ⟨#[32]⟩)) := by simp [World.cell?, hb]
  have el := (Array.getElem?_eq_some_iff.1 hb).1
  have f0 : W.cell? ⟨fb, 0, none⟩ = some (.string l) := by simp [World.cell?, hf1]
  have f1 : W.cell? ⟨fb, 1, none⟩ = some (.int .i64 0) := by simp [World.cell?, hf1]
  have f2 : W.cell? ⟨fb, 2, none⟩ = some (.int .i64 0) := by simp [World.cell?, hf1]
  have f3 : W.cell? ⟨fb, 3, none⟩ = some (.iface 131 (.pointer (some ⟨fc, 0, none⟩))) := by simp [World.cell?, hf1]
  have g0 : W.cell? ⟨fc, 0, none⟩ = some (.string m) := by simp [World.cell?, hg1]
  have g1 : W.cell? ⟨fc, 1, none⟩ = some (.int .i64 0) := by simp [World.cell?, hg1]
  have g2 : W.cell? ⟨fc, 2, none⟩ = some (.int .i64 0) := by simp [World.cell?, hg1]
  have g3 : W.cell? ⟨fc, 3, none⟩ = some (.iface 248 (.pointer (some p))) := by simp [World.cell?, hg1]
  have gl := (Array.getElem?_eq_some_iff.1 hg1).1
  have fl := (Array.getElem?_eq_some_iff.1 hf1).1
  have HC1 : RowKit.Hid (∀ V, Below W.heap.size W V → Calls Tryz.prog 115 #[.iface 131 (.pointer (some ⟨fb, 0, none⟩))] V fun e w' => e = .returned (.int .i64 (k : Int)) ∧ V = w') := Lib.hid (fun V hV => code_any hk (codeW2 ((hE.below hB).below hV) (by rw [hV.cell (p := ⟨fb, 3, none⟩) fl]; exact f3) (by rw [hV.cell (p := ⟨fc, 3, none⟩) gl]; exact g3)))
  have HC0 : RowKit.Hid (∀ V, Below W.heap.size W V → Calls Tryz.prog 115 #[.iface 248 (.pointer (some p))] V fun e w' => e = .returned (.int .i64 (k : Int)) ∧ V = w') := Lib.hid (fun V hV => code_any hk (codeW0 ((hE.below hB).below hV)))
  have hk0 : ((k : Int) == 0) = false := by unfold CodeIn at hk; simp; omega
  have HB := Lib.hid hB
  have hz1 : ¬ 9223372036854775807 < l.size := by omega
  have hz2 : ¬ 9223372036854775807 < l.size + 1 := by omega
  have hz3 : ¬ 9223372036854775807 < l.size + 1 + m.size := by omega
  have hz4 : ¬ 9223372036854775807 < l.size + 1 + m.size + 1 := by omega
  have hem : ({ data := #[] } : ByteArray) ++ l = l := ByteArray.empty_append
  have aF := asFault
  have aE := asFaultE
  have HWE := Lib.hid hW
  clear hE hf hg hB hf1 hg1 hk hF hF2 hb hW
  go_enter Tryz.func32, Tryz.ntmps32
  go_wp2_with fail
  rw [← HWE.out]
  go_region_held3 (fun w' => w'.cell? ⟨w.heap.size, 0, none⟩ = some (.int .i64 (k : Int))) (first | exact e0 | assumption) ((go_at_call 115; refine (HC1.out _ (Below.refl _ _).drew).mono ?_; rintro e w5 ⟨rfl, rfl⟩))
  go_wp2_with fail
  refine wp_loop_rounds 3 ?_
  rw [rounds_succ]
  go_wp2_with fail
  go_quiet (fail)
  go_wp2_with fail
  try rw [hem]
  rw [rounds_succ]
  go_wp2_with fail
  go_quiet (fail)
  go_wp2_with fail
  rw [rounds_succ]
  go_wp2_with fail
  go_region_held3 (fun w' => w'.cell? ⟨w.heap.size, 0, none⟩ = some (.int .i64 (k : Int)) ∧ w'.cell? ⟨w.heap.size, 3, none⟩ = some (.string (l ++ ⟨#[32]⟩ ++ m ++ ⟨#[32]⟩))) (first | exact ⟨e0, e3⟩ | assumption) ((go_at_call 115; refine (HC0.out (W.drewN _) (bdrew (Below.refl _ _))).mono ?_; rintro e w5 ⟨rfl, rfl⟩))
  go_wp2_with fail
  go_ret
  exact ⟨rfl, bdrew HB.out⟩
end Go.Proofs.YtkmljelgogcobaaGreatDoor

namespace Go.Proofs.YtkmljelgogcobaaGreatDoor
open Go.ChangeShapes Go.WideShapes Go.ChangeAt Go.RowKit Go.Lib

theorem GErr.uniq {g : Nat} {p q : Addr} {W : World} (h : GErr g p W) (h' : GErr g q W) : p = q := by
  have h1 := h.cell
  rw [h'.cell] at h1
  simp only [Option.some.injEq, Value.iface.injEq, Value.pointer.injEq, true_and] at h1
  exact h1.symm
theorem sent_pair {n0 n1 : String} {g0 g1 : Nat} {d0 d1 : List UInt8} {W : World} (h : laidMet Tryz.prog [(n0, .iface "*errors.errorString" (.ptr (.agg [.lit (.string d0)]))), (n1, .iface "*errors.errorString" (.ptr (.agg [.lit (.string d1)])))] W)
    (hg0 : Tryz.prog.globalNamed n0 = some g0) (ht0 : (Tryz.prog.globals[g0]?).map (·.type) = some 28) (hg1 : Tryz.prog.globalNamed n1 = some g1) (ht1 : (Tryz.prog.globals[g1]?).map (·.type) = some 28) :
    ∃ a0 a1, GErr g0 a0 W ∧ GErr g1 a1 W ∧ a0 ≠ a1 ∧ (∃ c t, W.heap[a0.block]? = some (.cells c t (0, 0))) ∧ (∃ c t, W.heap[a1.block]? = some (.cells c t (0, 0))) := by
  obtain ⟨a0, a1, s0, s1, c0, c1, t0, t1, hv0, hv1, _, _, _, _, _, _, hne, hb0, hb1⟩ := laid_sentinels2 (g0 := g0) (g1 := g1) h hg0 ht0 hg1 ht1 Tryz.underlying28 row_es Tryz.underlying248 Tryz.underlying268 rfl rfl Tryz.underlying9 (by kernel_rfl) (by kernel_rfl)
  have hcell0 := World.var?_cell (g := g0) hg0 hv0 0
  have hcell0 : W.cell? ⟨g0, 0, none⟩ = some (.iface 248 (.pointer (some a0))) := by simpa using hcell0
  have hcell1 := World.var?_cell (g := g1) hg1 hv1 0
  have hcell1 : W.cell? ⟨g1, 0, none⟩ = some (.iface 248 (.pointer (some a1))) := by simpa using hcell1
  exact ⟨a0, a1, ⟨World.block_lt_of_cell? _ _ hcell0, hcell0⟩, ⟨World.block_lt_of_cell? _ _ hcell1, hcell1⟩, hne, ⟨c0, t0, hb0⟩, ⟨c1, t1, hb1⟩⟩
/-- The first of two, seen from the second. -/
theorem sent_first {gk gj : Nat} {p : Addr} {W : World} (hk : GErr gk p W) (h : ∃ a0 a1, GErr gj a0 W ∧ GErr gk a1 W ∧ a0 ≠ a1 ∧ (∃ c t, W.heap[a0.block]? = some (.cells c t (0, 0))) ∧ (∃ c t, W.heap[a1.block]? = some (.cells c t (0, 0)))) : SentQ gj p W ∧ ∃ c t, W.heap[p.block]? = some (.cells c t (0, 0)) := by
  obtain ⟨a0, a1, h0, h1, hne, ⟨c, t, hb⟩, hc⟩ := h
  obtain rfl := hk.uniq h1
  exact ⟨⟨a0, c, t, h0, hne, hb⟩, hc⟩
theorem sent_second {gk gj : Nat} {p : Addr} {W : World} (hk : GErr gk p W) (h : ∃ a0 a1, GErr gk a0 W ∧ GErr gj a1 W ∧ a0 ≠ a1 ∧ (∃ c t, W.heap[a0.block]? = some (.cells c t (0, 0))) ∧ (∃ c t, W.heap[a1.block]? = some (.cells c t (0, 0)))) : SentQ gj p W ∧ ∃ c t, W.heap[p.block]? = some (.cells c t (0, 0)) := by
  obtain ⟨a0, a1, h0, h1, hne, hc, ⟨c, t, hb⟩⟩ := h
  obtain rfl := hk.uniq h0
  exact ⟨⟨a1, c, t, h1, Ne.symm hne, hb⟩, hc⟩
end Go.Proofs.YtkmljelgogcobaaGreatDoor

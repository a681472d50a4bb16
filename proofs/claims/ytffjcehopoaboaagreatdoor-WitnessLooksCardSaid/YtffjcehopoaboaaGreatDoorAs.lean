/-
  Lemmas.
-/
import Derived.Test.YtffjcehopoaboaaGreatDoorGFault
import Derived.Test.YtffjcehopoaboaaGreatDoorGRows2
import Derived.WalkKit
import Derived.LaidEql
import Derived.Stop.Asserts
import Derived.RowKitTokens
namespace Go.Proofs.YtffjcehopoaboaaGreatDoor
open Go.RowKit Go.Extern.Stop Go.Stop Go.Extern Pl
/-! ### CLOSED FACTS ON THE MODEL's ENTRIES FOR internal/reflectlite, at this program's types: 25: *p.E · 27: **p.E · 23: error · 45: reflectlite's rtype · 1: how many package-level variables the dump has -/
theorem as_valueOf27 (t : Addr) (w : World) : (ReflectliteValue.unpack (.iface 212 (.pointer (some t)))).run Tryz.prog w
    = .ok (.agg #[.pointer (some ⟨22, 212, none⟩), .pointer (some ⟨w.heap.size, 0, none⟩), .int .u64 150]) (w.alloc (.cells #[.pointer (some t)] 212)) := by kernel_rfl
theorem as_type27 (a : Addr) (w : World) : (ReflectliteValue.methodAny (ReflectliteValue.valueError "reflectlite.Value.Type" 0) (fun t _ _ _ => ReflectliteType.toType t) #[.agg #[.pointer (some ⟨22, 212, none⟩), .pointer (some a), .int .u64 150]]).run Tryz.prog w
    = .ok (.iface 254 (.agg #[.pointer (some ⟨22, 212, none⟩)])) w := by kernel_rfl
theorem as_methodKind (h : Value) (w : World) : (Go.method 434 254 (.agg #[h]) "Kind").run Tryz.prog w = .ok (242, h) w := by kernel_rfl
theorem as_kind27 (w : World) : ((ReflectliteType.abiMethod fun t => (fun a : Nat => Value.int IntKind.u8 (a : Int)) <$> Rtype.kind t) #[.pointer (some ⟨22, 212, none⟩)]).run Tryz.prog w = .ok (.int .u8 22) w := by kernel_rfl
theorem as_kind25 (w : World) : ((ReflectliteType.abiMethod fun t => (fun a : Nat => Value.int IntKind.u8 (a : Int)) <$> Rtype.kind t) #[.pointer (some ⟨22, 95, none⟩)]).run Tryz.prog w = .ok (.int .u8 22) w := by kernel_rfl
/-! ### THE ENTRIES THAT READ OR WRITE MEMORY: laws with a premise on the cell (after Derived/Lib/ReflectliteSlice.lean's manner: each unfolding a lemma of its own, by rfl) -/
theorem rlm (z : Sem Value) (f : TypeId → Addr → Nat → Nat → Sem Value) (v : Value) :
    ReflectliteValue.method z f #[v] = (do match ← ReflectliteValue.parts v with | none => z | some (t, a, fl) => f t a fl (fl % 32)) := rfl
theorem as_parts27 (a : Addr) (w : World) : (ReflectliteValue.parts (.agg #[.pointer (some ⟨22, 212, none⟩), .pointer (some a), .int .u64 150])).run Tryz.prog w = .ok (some (212, a, 150)) w := by kernel_rfl
theorem as_isNil27 (a p : Addr) (W : World) (ha : W.cell? a = some (.pointer (some p))) :
    (ReflectliteValue.method (ReflectliteValue.valueError "reflectlite.Value.IsNil" 0) ReflectliteValue.isNil #[.agg #[.pointer (some ⟨22, 212, none⟩), .pointer (some a), .int .u64 150]]).run Tryz.prog W = .ok (.bool false) W := by
  rw [rlm]
  simp only [Sem.run_bind, as_parts27, Result.andThen]
  simp [ReflectliteValue.isNil, loadVar, isAgg, underlying, Tryz.underlying212, ha, Result.andThen]
theorem as_methodElem (h : Value) (w : World) : (Go.method 434 254 (.agg #[h]) "Elem").run Tryz.prog w = .ok (256, .agg #[h]) w := by kernel_rfl
theorem as_methodImplements (h : Value) (w : World) : (Go.method 434 254 (.agg #[h]) "Implements").run Tryz.prog w = .ok (257, .agg #[h]) w := by kernel_rfl
theorem as_methodAssignableTo (h : Value) (w : World) : (Go.method 434 254 (.agg #[h]) "AssignableTo").run Tryz.prog w = .ok (254, .agg #[h]) w := by kernel_rfl
theorem as_elem27 (w : World) : (ReflectliteType.method ReflectliteType.elem #[.agg #[.pointer (some ⟨22, 212, none⟩)]]).run Tryz.prog w = .ok (.iface 254 (.agg #[.pointer (some ⟨22, 95, none⟩)])) w := by kernel_rfl
theorem as_implements25 (w : World) : (ReflectliteType.relation "Implements" ReflectliteType.implements_ #[.agg #[.pointer (some ⟨22, 95, none⟩)], .iface 254 (.agg #[.pointer (some ⟨22, 47, none⟩)])]).run Tryz.prog w = .ok (.bool true) w := by kernel_rfl
theorem as_typeOf25 (v : Value) (w : World) : (ReflectliteType.typeOf #[.iface 95 v]).run Tryz.prog w = .ok (.iface 254 (.agg #[.pointer (some ⟨22, 95, none⟩)])) w := by kernel_rfl
theorem as_assignable25 (w : World) : (ReflectliteType.relation "AssignableTo" ReflectliteType.assignableTo #[.agg #[.pointer (some ⟨22, 95, none⟩)], .iface 254 (.agg #[.pointer (some ⟨22, 95, none⟩)])]).run Tryz.prog w = .ok (.bool true) w := by kernel_rfl
theorem as_valueOf25 (e : Addr) (w : World) : (ReflectliteValue.unpack (.iface 95 (.pointer (some e)))).run Tryz.prog w
    = .ok (.agg #[.pointer (some ⟨22, 95, none⟩), .pointer (some ⟨w.heap.size, 0, none⟩), .int .u64 150]) (w.alloc (.cells #[.pointer (some e)] 95)) := by kernel_rfl
theorem as_elemOf27 (w : World) : (Rtype.elem? 212).run Tryz.prog w = .ok (some 95) w := by kernel_rfl
theorem as_mk25 (p : Addr) (w : World) : (ReflectliteValue.mk 95 p ReflectliteValue.flagAddr).run Tryz.prog w = .ok (.agg #[.pointer (some ⟨22, 95, none⟩), .pointer (some p), .int .u64 406]) w := by kernel_rfl
theorem as_elemV27 (a p : Addr) (W : World) (ha : W.cell? a = some (.pointer (some p))) :
    (ReflectliteValue.method (ReflectliteValue.valueError "reflectlite.Value.Elem" 0) ReflectliteValue.elem #[.agg #[.pointer (some ⟨22, 212, none⟩), .pointer (some a), .int .u64 150]]).run Tryz.prog W
      = .ok (.agg #[.pointer (some ⟨22, 95, none⟩), .pointer (some p), .int .u64 406]) W := by
  rw [rlm]
  simp only [Sem.run_bind, as_parts27, Result.andThen]
  simp [ReflectliteValue.elem, loadVar, isAgg, underlying, Tryz.underlying212, ha, Result.andThen, as_elemOf27, as_mk25]
theorem rls (v x : Value) : ReflectliteValue.set #[v, x] = (do
    let (some (dst, a, fl), some (src, b, _)) := (← ReflectliteValue.parts v, ← ReflectliteValue.parts x)
      | unsupported (.noEntry "extern/(internal/reflectlite.Value).Set.zeroValue")
    if fl / ReflectliteValue.flagAddr % 2 == 0 then unsupported (.noEntry "extern/(internal/reflectlite.Value).Set.unaddressable")
    let val ← loadVar src b
    if ← Rtype.directlyAssignable dst src then storeVar dst a val
    else if ← Rtype.implements dst src then
      if (← Rtype.kind src) == 20 then
        match val with
        | .nilIface => unsupported (.noEntry "extern/reflectlite: a nil value of one interface type handed on as a value of another")
        | _ => storeVar dst a val
      else storeVar dst a (.iface src val)
    else panicString ("reflectlite.Set: value of type " ++ (← Rtype.spelt src) ++ " is not assignable to type " ++ (← Rtype.spelt dst))
    pure (.tuple #[])) := rfl
theorem as_parts25a (a : Addr) (w : World) : (ReflectliteValue.parts (.agg #[.pointer (some ⟨22, 95, none⟩), .pointer (some a), .int .u64 406])).run Tryz.prog w = .ok (some (95, a, 406)) w := by kernel_rfl
theorem as_parts25 (a : Addr) (w : World) : (ReflectliteValue.parts (.agg #[.pointer (some ⟨22, 95, none⟩), .pointer (some a), .int .u64 150])).run Tryz.prog w = .ok (some (95, a, 150)) w := by kernel_rfl
theorem as_direct25 (w : World) : (Rtype.directlyAssignable 95 95).run Tryz.prog w = .ok true w := by kernel_rfl
theorem as_set25 (ta b e : Addr) (old : Value) (W : World) (hb : W.cell? b = some (.pointer (some e))) (ht : W.cell? ta = some old) (hf : W.frozen? ta = false) :
    (ReflectliteValue.set #[.agg #[.pointer (some ⟨22, 95, none⟩), .pointer (some ta), .int .u64 406], .agg #[.pointer (some ⟨22, 95, none⟩), .pointer (some b), .int .u64 150]]).run Tryz.prog W
      = .ok (.tuple #[]) (W.setCell ta (.pointer (some e))) := by
  rw [rls]
  simp only [Sem.run_bind, as_parts25a, as_parts25, Result.andThen]
  simp [ReflectliteValue.flagAddr, loadVar, isAgg, underlying, Tryz.underlying95, hb, Result.andThen, as_direct25, storeVar, Value.cells, storeCells, Addr.add]
  rw [run_store Tryz.prog W ta _ _ (by rfl)]
  simp [ht, hf]
set_option maxHeartbeats 4000000 in
theorem as_hit (e t : Addr) (old : Value) (w : World) (hg : w.cell? ⟨21, 0, none⟩ = some (.iface 254 (.agg #[.pointer (some ⟨22, 47, none⟩)]))) (ht0 : w.cell? t = some old) (hf0 : w.frozen? t = false) :
    Calls Tryz.prog 169 #[.iface 95 (.pointer (some e)), .iface 212 (.pointer (some t))] w fun ev w' => ev = .returned (.bool true) ∧ w' = ((((w.alloc (.cells #[.pointer (some t)] 212)).alloc (.cells #[.pointer (some ⟨22, 212, none⟩), .pointer (some ⟨w.heap.size, 0, none⟩), .int .u64 150] 246)).alloc (.cells #[.pointer (some ⟨22, 212, none⟩), .pointer (some ⟨w.heap.size, 0, none⟩), .int .u64 150] 246)).alloc (.cells #[.pointer (some e)] 95)).setCell t (.pointer (some e)) := by
  have h6 := @run_callFunc_extern Tryz.prog 191 _ (fun args => ReflectliteValue.unpack (args.getD 0 (.tuple #[]))) Tryz.func191 (by kernel_rfl) (by kernel_rfl) (by kernel_rfl) (by kernel_rfl)
  have h7 := @run_callFunc_extern Tryz.prog 192 _ (ReflectliteValue.methodAny (ReflectliteValue.valueError "reflectlite.Value.Type" 0) (fun t _ _ _ => ReflectliteType.toType t)) Tryz.func192 (by kernel_rfl) (by kernel_rfl) (by kernel_rfl) (by kernel_rfl)
  have h8 := @run_callFunc_extern Tryz.prog 193 _ (ReflectliteValue.method (ReflectliteValue.valueError "reflectlite.Value.IsNil" 0) ReflectliteValue.isNil) Tryz.func193 (by kernel_rfl) (by kernel_rfl) (by kernel_rfl) (by kernel_rfl)
  have h27 := @run_callFunc_extern Tryz.prog 242 _ (ReflectliteType.abiMethod fun t => do pure (.int .u8 (← Rtype.kind t))) Tryz.func242 (by kernel_rfl) (by kernel_rfl) (by kernel_rfl) (by kernel_rfl)
  have h37 := @run_callFunc_extern Tryz.prog 256 _ (ReflectliteType.method ReflectliteType.elem) Tryz.func256 (by kernel_rfl) (by kernel_rfl) (by kernel_rfl) (by kernel_rfl)
  have h38 := @run_callFunc_extern Tryz.prog 257 _ (ReflectliteType.relation "Implements" ReflectliteType.implements_) Tryz.func257 (by kernel_rfl) (by kernel_rfl) (by kernel_rfl) (by kernel_rfl)
  have h10 := @run_callFunc_extern Tryz.prog 172 _ ReflectliteType.typeOf Tryz.func172 (by kernel_rfl) (by kernel_rfl) (by kernel_rfl) (by kernel_rfl)
  have h35 := @run_callFunc_extern Tryz.prog 254 _ (ReflectliteType.relation "AssignableTo" ReflectliteType.assignableTo) Tryz.func254 (by kernel_rfl) (by kernel_rfl) (by kernel_rfl) (by kernel_rfl)
  have h11 := @run_callFunc_extern Tryz.prog 213 _ (ReflectliteValue.method (ReflectliteValue.valueError "reflectlite.Value.Elem" 0) ReflectliteValue.elem) Tryz.func213 (by kernel_rfl) (by kernel_rfl) (by kernel_rfl) (by kernel_rfl)
  have h12 := @run_callFunc_extern Tryz.prog 214 _ ReflectliteValue.set Tryz.func214 (by kernel_rfl) (by kernel_rfl) (by kernel_rfl) (by kernel_rfl)
  have tO := as_typeOf25
  have mA := as_methodAssignableTo
  have a25 := as_assignable25
  have v25 := as_valueOf25
  have f6 := as_valueOf27
  have f7 := as_type27
  have mK := as_methodKind
  have mE := as_methodElem
  have mI := as_methodImplements
  have k27 := as_kind27
  have k25 := as_kind25
  have e27 := as_elem27
  have i25 := as_implements25
  have n8 := as_isNil27 ⟨w.heap.size, 0, none⟩ t ((w.alloc (.cells #[.pointer (some t)] 212)).alloc (.cells #[.pointer (some ⟨22, 212, none⟩), .pointer (some ⟨w.heap.size, 0, none⟩), .int .u64 150] 246)) (by simp)
  have hlt : 21 < w.heap.size := by
    rcases Nat.lt_or_ge 21 w.heap.size with h | h0
    · exact h
    · simp [World.cell?, Array.getElem?_eq_none h0] at hg
  have hg2 : ((w.alloc (.cells #[.pointer (some t)] 212)).alloc (.cells #[.pointer (some ⟨22, 212, none⟩), .pointer (some ⟨w.heap.size, 0, none⟩), .int .u64 150] 246)).cell? ⟨21, 0, none⟩ = some (.iface 254 (.agg #[.pointer (some ⟨22, 47, none⟩)])) := by
    rw [World.cell?_alloc_lt _ _ ⟨21, 0, none⟩ (by simp; omega), World.cell?_alloc_lt _ _ ⟨21, 0, none⟩ hlt]; exact hg
  have htl : t.block < w.heap.size := by
    rcases Nat.lt_or_ge t.block w.heap.size with h | h
    · exact h
    · simp [World.cell?, Array.getElem?_eq_none h] at ht0
  have el := as_elemV27 ⟨w.heap.size, 0, none⟩ t (((w.alloc (.cells #[.pointer (some t)] 212)).alloc (.cells #[.pointer (some ⟨22, 212, none⟩), .pointer (some ⟨w.heap.size, 0, none⟩), .int .u64 150] 246)).alloc (.cells #[.pointer (some ⟨22, 212, none⟩), .pointer (some ⟨w.heap.size, 0, none⟩), .int .u64 150] 246)) (by rw [World.cell?_alloc_lt _ _ ⟨w.heap.size, 0, none⟩ (by simp; omega)]; simp)
  have st := as_set25 t ⟨w.heap.size + 1 + 1 + 1, 0, none⟩ e old ((((w.alloc (.cells #[.pointer (some t)] 212)).alloc (.cells #[.pointer (some ⟨22, 212, none⟩), .pointer (some ⟨w.heap.size, 0, none⟩), .int .u64 150] 246)).alloc (.cells #[.pointer (some ⟨22, 212, none⟩), .pointer (some ⟨w.heap.size, 0, none⟩), .int .u64 150] 246)).alloc (.cells #[.pointer (some e)] 95))
    (by rw [World.cell?_alloc_at _ _ _ _ (by simp)]; rfl)
    (by rw [World.cell?_alloc_lt _ _ t (by simp; omega), World.cell?_alloc_lt _ _ t (by simp; omega), World.cell?_alloc_lt _ _ t (by simp; omega), World.cell?_alloc_lt _ _ t htl]; exact ht0)
    (by rw [World.frozen?_alloc_old _ _ t (by simp; omega), World.frozen?_alloc_old _ _ t (by simp; omega), World.frozen?_alloc_old _ _ t (by simp; omega), World.frozen?_alloc_old _ _ t (Nat.ne_of_lt htl)]; exact hf0)
  go_enter Tryz.func169, Tryz.ntmps169
  go_wp2
  refine wp_loop_rounds 1 ?_
  rw [rounds_succ]
  go_wp2
  go_ret
  exact ⟨rfl, rfl⟩
structure ErrType (w : World) : Prop where
  cell : w.cell? ⟨21, 0, none⟩ = some (.iface 254 (.agg #[.pointer (some ⟨22, 47, none⟩)]))
theorem ErrType.lt {w : World} (h : ErrType w) : 21 < w.heap.size := World.block_lt_of_cell? _ _ h.cell
theorem ErrType.below {w w' : World} (h : ErrType w) (hB : Below w.heap.size w w') : ErrType w' := ⟨by rw [hB.cell (p := ⟨21, 0, none⟩) h.lt]; exact h.cell⟩
theorem faultAt_any (s : ByteArray) (ty : TypeId) (v : Value) (l c : Int) (w : World) : Calls Tryz.prog 170 #[.string s, .iface ty v, .int .i64 l, .int .i64 c] w fun e w' =>
    e = .returned (.iface 95 (.pointer (some ⟨w.heap.size, 0, none⟩))) ∧ w' = w.alloc (.cells #[.string s, .int .i64 l, .int .i64 c, .iface ty v] 98) := by
  go_enter Tryz.func170, Tryz.ntmps170
  go_wp2
  go_ret
  exact ⟨rfl, rfl⟩
set_option maxRecDepth 100000 in
set_option maxHeartbeats 4000000 in
theorem faultAs_any (s : ByteArray) {w : World} {fb : Nat} {l : ByteArray} {inner : Value} (hT : ErrType w) (hF : w.heap[fb]? = some (.cells #[.string l, .int .i64 0, .int .i64 0, inner] 98 (0, 0))) :
    Calls Tryz.prog 117 #[.string s, .iface 95 (.pointer (some ⟨fb, 0, none⟩))] w fun e w' => ∃ v, e = .returned v ∧ FaultAt w' v s (.iface 95 (.pointer (some ⟨fb, 0, none⟩))) ∧ Below w.heap.size w w' := by
  have hB0 := (Below.refl w.heap.size w).alloc (Nat.le_refl _) (Obj.cells #[.pointer none] 95)
  have hT0 := hT.below hB0
  have hah := as_hit ⟨fb, 0, none⟩ ⟨w.heap.size, 0, none⟩ (.pointer none) (w.alloc (.cells #[.pointer none] 95)) hT0.cell (by simp) (by simp)
  have hfl : fb < w.heap.size := (Array.getElem?_eq_some_iff.1 hF).1
  have HAH := Lib.hid hah; have HF := Lib.hid hF; have HB0 := Lib.hid hB0
  clear hah hT0 hT hF hB0
  go_enter Tryz.func117, Tryz.ntmps117
  go_wp2_with fail
  refine HAH.out.mono ?_
  rintro e w2 ⟨rfl, hw2⟩
  have hb2 : Below w.heap.size w w2 := by
    rw [hw2]
    exact ((((HB0.out.alloc (by simp) _).alloc (by simp; omega) _).alloc (by simp; omega) _).alloc (by simp; omega) _).setCell (Nat.le_refl _) _
  have hs2 : w.heap.size < w2.heap.size := by rw [hw2]; simp [World.setCell]; omega
  have hc2 : w2.cell? ⟨w.heap.size, 0, none⟩ = some (.pointer (some ⟨fb, 0, none⟩)) := by rw [hw2]; simp [go_sem]
  have hf2 := (hb2.block fb hfl).trans HF.out
  have hfl2 : fb < w2.heap.size := by omega
  have g1 : w2.cell? ⟨fb, 1, none⟩ = some (.int .i64 0) := by simp [World.cell?, hf2]
  have g2 : w2.cell? ⟨fb, 2, none⟩ = some (.int .i64 0) := by simp [World.cell?, hf2]
  have HB2 := Lib.hid hb2
  clear hw2 hb2 hf2 HAH HF HB0 hfl
  obtain ⟨tb, htb⟩ : ∃ tb, tb = w.heap.size := ⟨_, rfl⟩
  rw [← htb] at hs2 hc2 ⊢
  have HTBB := Lib.hid htb
  clear htb
  go_wp2_with fail
  go_region_held3 (fun W => W.cell? ⟨tb, 0, none⟩ = some (.pointer (some ⟨fb, 0, none⟩)) ∧ W.cell? ⟨fb, 1, none⟩ = some (.int .i64 0) ∧ W.cell? ⟨fb, 2, none⟩ = some (.int .i64 0)) (go_keep)
    ((go_at_call 170; refine (faultAt_any _ _ _ _ _ _).mono ?_; rintro e w3 ⟨rfl, rfl⟩))
  all_goals
    go_wp2
    go_ret
    exact ⟨_, rfl, ⟨⟨w2.heap.size, rfl, heap_alloc_new w2.drew _⟩⟩, HB2.out.drew.alloc HB2.out.size _⟩
end Go.Proofs.YtffjcehopoaboaaGreatDoor

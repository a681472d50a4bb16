/-
  Lemmas.
-/
import Derived.Test.YtdhloijdefnkpaaGreatDoorGPl13
import Derived.Test.YtdhloijdefnkpaaGreatDoorGGraphA
import Derived.WalkKit
import Derived.LaidEql
import Derived.Stop.Asserts
import Derived.RowKitTokens
import Derived.Test.YtdhloijdefnkpaaGreatDoorGPl3
import Derived.Lib.ItoaLen
namespace Go.Proofs.YtdhloijdefnkpaaGreatDoor
open Go.RowKit Go.Extern.Stop Go.Stop Go.Extern Pl
/-! ### CLOSED FACTS ON THE MODEL's ENTRIES FOR internal/reflectlite, at this program's types: 25: *p.E · 27: **p.E · 23: error · 45: reflectlite's rtype · 1: how many package-level variables the dump has -/
theorem as_valueOf27 (t : Addr) (w : World) : (ReflectliteValue.unpack (.iface 125 (.pointer (some t)))).run Tryz.prog w
    = .ok (.agg #[.pointer (some ⟨24, 125, none⟩), .pointer (some ⟨w.heap.size, 0, none⟩), .int .u64 150]) (w.alloc (.cells #[.pointer (some t)] 125)) := by kernel_rfl
theorem as_type27 (a : Addr) (w : World) : (ReflectliteValue.methodAny (ReflectliteValue.valueError "reflectlite.Value.Type" 0) (fun t _ _ _ => ReflectliteType.toType t) #[.agg #[.pointer (some ⟨24, 125, none⟩), .pointer (some a), .int .u64 150]]).run Tryz.prog w
    = .ok (.iface 144 (.agg #[.pointer (some ⟨24, 125, none⟩)])) w := by kernel_rfl
theorem as_methodKind (h : Value) (w : World) : (Go.method 415 144 (.agg #[h]) "Kind").run Tryz.prog w = .ok (234, h) w := by kernel_rfl
theorem as_kind27 (w : World) : ((ReflectliteType.abiMethod fun t => (fun a : Nat => Value.int IntKind.u8 (a : Int)) <$> Rtype.kind t) #[.pointer (some ⟨24, 125, none⟩)]).run Tryz.prog w = .ok (.int .u8 22) w := by kernel_rfl
theorem as_kind25 (w : World) : ((ReflectliteType.abiMethod fun t => (fun a : Nat => Value.int IntKind.u8 (a : Int)) <$> Rtype.kind t) #[.pointer (some ⟨24, 73, none⟩)]).run Tryz.prog w = .ok (.int .u8 22) w := by kernel_rfl
/-! ### THE ENTRIES THAT READ OR WRITE MEMORY: laws with a premise on the cell (after Derived/Lib/ReflectliteSlice.lean's manner: each unfolding a lemma of its own, by rfl) -/
theorem rlm (z : Sem Value) (f : TypeId → Addr → Nat → Nat → Sem Value) (v : Value) :
    ReflectliteValue.method z f #[v] = (do match ← ReflectliteValue.parts v with | none => z | some (t, a, fl) => f t a fl (fl % 32)) := rfl
theorem as_parts27 (a : Addr) (w : World) : (ReflectliteValue.parts (.agg #[.pointer (some ⟨24, 125, none⟩), .pointer (some a), .int .u64 150])).run Tryz.prog w = .ok (some (125, a, 150)) w := by kernel_rfl
theorem as_isNil27 (a p : Addr) (W : World) (ha : W.cell? a = some (.pointer (some p))) :
    (ReflectliteValue.method (ReflectliteValue.valueError "reflectlite.Value.IsNil" 0) ReflectliteValue.isNil #[.agg #[.pointer (some ⟨24, 125, none⟩), .pointer (some a), .int .u64 150]]).run Tryz.prog W = .ok (.bool false) W := by
  rw [rlm]
  simp only [Sem.run_bind, as_parts27, Result.andThen]
  simp [ReflectliteValue.isNil, loadVar, isAgg, underlying, Tryz.underlying125, ha, Result.andThen]
theorem as_methodElem (h : Value) (w : World) : (Go.method 415 144 (.agg #[h]) "Elem").run Tryz.prog w = .ok (244, .agg #[h]) w := by kernel_rfl
theorem as_methodImplements (h : Value) (w : World) : (Go.method 415 144 (.agg #[h]) "Implements").run Tryz.prog w = .ok (245, .agg #[h]) w := by kernel_rfl
theorem as_methodAssignableTo (h : Value) (w : World) : (Go.method 415 144 (.agg #[h]) "AssignableTo").run Tryz.prog w = .ok (242, .agg #[h]) w := by kernel_rfl
theorem as_elem27 (w : World) : (ReflectliteType.method ReflectliteType.elem #[.agg #[.pointer (some ⟨24, 125, none⟩)]]).run Tryz.prog w = .ok (.iface 144 (.agg #[.pointer (some ⟨24, 73, none⟩)])) w := by kernel_rfl
theorem as_implements25 (w : World) : (ReflectliteType.relation "Implements" ReflectliteType.implements_ #[.agg #[.pointer (some ⟨24, 73, none⟩)], .iface 144 (.agg #[.pointer (some ⟨24, 28, none⟩)])]).run Tryz.prog w = .ok (.bool true) w := by kernel_rfl
theorem as_typeOf25 (v : Value) (w : World) : (ReflectliteType.typeOf #[.iface 73 v]).run Tryz.prog w = .ok (.iface 144 (.agg #[.pointer (some ⟨24, 73, none⟩)])) w := by kernel_rfl
theorem as_assignable25 (w : World) : (ReflectliteType.relation "AssignableTo" ReflectliteType.assignableTo #[.agg #[.pointer (some ⟨24, 73, none⟩)], .iface 144 (.agg #[.pointer (some ⟨24, 73, none⟩)])]).run Tryz.prog w = .ok (.bool true) w := by kernel_rfl
theorem as_valueOf25 (e : Addr) (w : World) : (ReflectliteValue.unpack (.iface 73 (.pointer (some e)))).run Tryz.prog w
    = .ok (.agg #[.pointer (some ⟨24, 73, none⟩), .pointer (some ⟨w.heap.size, 0, none⟩), .int .u64 150]) (w.alloc (.cells #[.pointer (some e)] 73)) := by kernel_rfl
theorem as_elemOf27 (w : World) : (Rtype.elem? 125).run Tryz.prog w = .ok (some 73) w := by kernel_rfl
theorem as_mk25 (p : Addr) (w : World) : (ReflectliteValue.mk 73 p ReflectliteValue.flagAddr).run Tryz.prog w = .ok (.agg #[.pointer (some ⟨24, 73, none⟩), .pointer (some p), .int .u64 406]) w := by kernel_rfl
theorem as_elemV27 (a p : Addr) (W : World) (ha : W.cell? a = some (.pointer (some p))) :
    (ReflectliteValue.method (ReflectliteValue.valueError "reflectlite.Value.Elem" 0) ReflectliteValue.elem #[.agg #[.pointer (some ⟨24, 125, none⟩), .pointer (some a), .int .u64 150]]).run Tryz.prog W
      = .ok (.agg #[.pointer (some ⟨24, 73, none⟩), .pointer (some p), .int .u64 406]) W := by
  rw [rlm]
  simp only [Sem.run_bind, as_parts27, Result.andThen]
  simp [ReflectliteValue.elem, loadVar, isAgg, underlying, Tryz.underlying125, ha, Result.andThen, as_elemOf27, as_mk25]
theorem rls (v x : Value) : ReflectliteValue.set #[v, x] = (do
    let (some (dst, a, fl), some (src, b, _)) := (← ReflectliteValue.parts v, ← ReflectliteValue.parts x)
      | unsupported (.noEntry "extern/(internal/reflectlite.Value).Set.zeroValue")
    if fl / ReflectliteValue.flagAddr % 2 == 0 then unsupported (.noEntry "extern/(internal/reflectlite.Value).Set.unaddressable")
    let val ← loadVar src b
    if ← Rtype.directlyAssignable dst src then storeVar dst a val
    else if ← Rtype.implements dst src then
      if (← Rtype.kind src) == 20 then
        match val with
        | .nilIface => unsupported (.noEntry "extern/reflectlite: a nil value of one interface type handed on as a value of another")
        | _ => storeVar dst a val
      else storeVar dst a (.iface src val)
    else panicString ("reflectlite.Set: value of type " ++ (← Rtype.spelt src) ++ " is not assignable to type " ++ (← Rtype.spelt dst))
    pure (.tuple #[])) := rfl
theorem as_parts25a (a : Addr) (w : World) : (ReflectliteValue.parts (.agg #[.pointer (some ⟨24, 73, none⟩), .pointer (some a), .int .u64 406])).run Tryz.prog w = .ok (some (73, a, 406)) w := by kernel_rfl
theorem as_parts25 (a : Addr) (w : World) : (ReflectliteValue.parts (.agg #[.pointer (some ⟨24, 73, none⟩), .pointer (some a), .int .u64 150])).run Tryz.prog w = .ok (some (73, a, 150)) w := by kernel_rfl
theorem as_direct25 (w : World) : (Rtype.directlyAssignable 73 73).run Tryz.prog w = .ok true w := by kernel_rfl
theorem as_set25 (ta b e : Addr) (old : Value) (W : World) (hb : W.cell? b = some (.pointer (some e))) (ht : W.cell? ta = some old) (hf : W.frozen? ta = false) :
    (ReflectliteValue.set #[.agg #[.pointer (some ⟨24, 73, none⟩), .pointer (some ta), .int .u64 406], .agg #[.pointer (some ⟨24, 73, none⟩), .pointer (some b), .int .u64 150]]).run Tryz.prog W
      = .ok (.tuple #[]) (W.setCell ta (.pointer (some e))) := by
  rw [rls]
  simp only [Sem.run_bind, as_parts25a, as_parts25, Result.andThen]
  simp [ReflectliteValue.flagAddr, loadVar, isAgg, underlying, Tryz.underlying73, hb, Result.andThen, as_direct25, storeVar, Value.cells, storeCells, Addr.add]
  rw [run_store Tryz.prog W ta _ _ (by rfl)]
  simp [ht, hf]
set_option maxHeartbeats 4000000 in
theorem as_hit (e t : Addr) (old : Value) (w : World) (hg : w.cell? ⟨21, 0, none⟩ = some (.iface 144 (.agg #[.pointer (some ⟨24, 28, none⟩)]))) (ht0 : w.cell? t = some old) (hf0 : w.frozen? t = false) :
    Calls Tryz.prog 79 #[.iface 73 (.pointer (some e)), .iface 125 (.pointer (some t))] w fun ev w' => ev = .returned (.bool true) ∧ w' = ((((w.alloc (.cells #[.pointer (some t)] 125)).alloc (.cells #[.pointer (some ⟨24, 125, none⟩), .pointer (some ⟨w.heap.size, 0, none⟩), .int .u64 150] 175)).alloc (.cells #[.pointer (some ⟨24, 125, none⟩), .pointer (some ⟨w.heap.size, 0, none⟩), .int .u64 150] 175)).alloc (.cells #[.pointer (some e)] 73)).setCell t (.pointer (some e)) := by
  have h6 := @run_callFunc_extern Tryz.prog 114 _ (fun args => ReflectliteValue.unpack (args.getD 0 (.tuple #[]))) Tryz.func114 (by kernel_rfl) (by kernel_rfl) (by kernel_rfl) (by kernel_rfl)
  have h7 := @run_callFunc_extern Tryz.prog 115 _ (ReflectliteValue.methodAny (ReflectliteValue.valueError "reflectlite.Value.Type" 0) (fun t _ _ _ => ReflectliteType.toType t)) Tryz.func115 (by kernel_rfl) (by kernel_rfl) (by kernel_rfl) (by kernel_rfl)
  have h8 := @run_callFunc_extern Tryz.prog 116 _ (ReflectliteValue.method (ReflectliteValue.valueError "reflectlite.Value.IsNil" 0) ReflectliteValue.isNil) Tryz.func116 (by kernel_rfl) (by kernel_rfl) (by kernel_rfl) (by kernel_rfl)
  have h27 := @run_callFunc_extern Tryz.prog 234 _ (ReflectliteType.abiMethod fun t => do pure (.int .u8 (← Rtype.kind t))) Tryz.func234 (by kernel_rfl) (by kernel_rfl) (by kernel_rfl) (by kernel_rfl)
  have h37 := @run_callFunc_extern Tryz.prog 244 _ (ReflectliteType.method ReflectliteType.elem) Tryz.func244 (by kernel_rfl) (by kernel_rfl) (by kernel_rfl) (by kernel_rfl)
  have h38 := @run_callFunc_extern Tryz.prog 245 _ (ReflectliteType.relation "Implements" ReflectliteType.implements_) Tryz.func245 (by kernel_rfl) (by kernel_rfl) (by kernel_rfl) (by kernel_rfl)
  have h10 := @run_callFunc_extern Tryz.prog 49 _ ReflectliteType.typeOf Tryz.func49 (by kernel_rfl) (by kernel_rfl) (by kernel_rfl) (by kernel_rfl)
  have h35 := @run_callFunc_extern Tryz.prog 242 _ (ReflectliteType.relation "AssignableTo" ReflectliteType.assignableTo) Tryz.func242 (by kernel_rfl) (by kernel_rfl) (by kernel_rfl) (by kernel_rfl)
  have h11 := @run_callFunc_extern Tryz.prog 144 _ (ReflectliteValue.method (ReflectliteValue.valueError "reflectlite.Value.Elem" 0) ReflectliteValue.elem) Tryz.func144 (by kernel_rfl) (by kernel_rfl) (by kernel_rfl) (by kernel_rfl)
  have h12 := @run_callFunc_extern Tryz.prog 145 _ ReflectliteValue.set Tryz.func145 (by kernel_rfl) (by kernel_rfl) (by kernel_rfl) (by kernel_rfl)
  have tO := as_typeOf25
  have mA := as_methodAssignableTo
  have a25 := as_assignable25
  have v25 := as_valueOf25
  have f6 := as_valueOf27
  have f7 := as_type27
  have mK := as_methodKind
  have mE := as_methodElem
  have mI := as_methodImplements
  have k27 := as_kind27
  have k25 := as_kind25
  have e27 := as_elem27
  have i25 := as_implements25
  have n8 := as_isNil27 ⟨w.heap.size, 0, none⟩ t ((w.alloc (.cells #[.pointer (some t)] 125)).alloc (.cells #[.pointer (some ⟨24, 125, none⟩), .pointer (some ⟨w.heap.size, 0, none⟩), .int .u64 150] 175)) (by simp)
  have hlt : 21 < w.heap.size := by
    rcases Nat.lt_or_ge 21 w.heap.size with h | h0
    · exact h
    · simp [World.cell?, Array.getElem?_eq_none h0] at hg
  have hg2 : ((w.alloc (.cells #[.pointer (some t)] 125)).alloc (.cells #[.pointer (some ⟨24, 125, none⟩), .pointer (some ⟨w.heap.size, 0, none⟩), .int .u64 150] 175)).cell? ⟨21, 0, none⟩ = some (.iface 144 (.agg #[.pointer (some ⟨24, 28, none⟩)])) := by
    rw [World.cell?_alloc_lt _ _ ⟨21, 0, none⟩ (by simp; omega), World.cell?_alloc_lt _ _ ⟨21, 0, none⟩ hlt]; exact hg
  have htl : t.block < w.heap.size := by
    rcases Nat.lt_or_ge t.block w.heap.size with h | h
    · exact h
    · simp [World.cell?, Array.getElem?_eq_none h] at ht0
  have el := as_elemV27 ⟨w.heap.size, 0, none⟩ t (((w.alloc (.cells #[.pointer (some t)] 125)).alloc (.cells #[.pointer (some ⟨24, 125, none⟩), .pointer (some ⟨w.heap.size, 0, none⟩), .int .u64 150] 175)).alloc (.cells #[.pointer (some ⟨24, 125, none⟩), .pointer (some ⟨w.heap.size, 0, none⟩), .int .u64 150] 175)) (by rw [World.cell?_alloc_lt _ _ ⟨w.heap.size, 0, none⟩ (by simp; omega)]; simp)
  have st := as_set25 t ⟨w.heap.size + 1 + 1 + 1, 0, none⟩ e old ((((w.alloc (.cells #[.pointer (some t)] 125)).alloc (.cells #[.pointer (some ⟨24, 125, none⟩), .pointer (some ⟨w.heap.size, 0, none⟩), .int .u64 150] 175)).alloc (.cells #[.pointer (some ⟨24, 125, none⟩), .pointer (some ⟨w.heap.size, 0, none⟩), .int .u64 150] 175)).alloc (.cells #[.pointer (some e)] 73))
    (by rw [World.cell?_alloc_at _ _ _ _ (by simp)]; rfl)
    (by rw [World.cell?_alloc_lt _ _ t (by simp; omega), World.cell?_alloc_lt _ _ t (by simp; omega), World.cell?_alloc_lt _ _ t (by simp; omega), World.cell?_alloc_lt _ _ t htl]; exact ht0)
    (by rw [World.frozen?_alloc_old _ _ t (by simp; omega), World.frozen?_alloc_old _ _ t (by simp; omega), World.frozen?_alloc_old _ _ t (by simp; omega), World.frozen?_alloc_old _ _ t (Nat.ne_of_lt htl)]; exact hf0)
  go_enter Tryz.func79, Tryz.ntmps79
  go_wp2
  refine wp_loop_rounds 1 ?_
  rw [rounds_succ]
  go_wp2
  go_ret
  exact ⟨rfl, rfl⟩
structure ErrType (w : World) : Prop where
  cell : w.cell? ⟨21, 0, none⟩ = some (.iface 144 (.agg #[.pointer (some ⟨24, 28, none⟩)]))
theorem ErrType.lt {w : World} (h : ErrType w) : 21 < w.heap.size := World.block_lt_of_cell? _ _ h.cell
theorem ErrType.below {w w' : World} (h : ErrType w) (hB : Below w.heap.size w w') : ErrType w' := ⟨by rw [hB.cell (p := ⟨21, 0, none⟩) h.lt]; exact h.cell⟩
theorem faultAt_any (s : ByteArray) (ty : TypeId) (v : Value) (l c : Int) (w : World) : Calls Tryz.prog 80 #[.string s, .iface ty v, .int .i64 l, .int .i64 c] w fun e w' =>
    e = .returned (.iface 73 (.pointer (some ⟨w.heap.size, 0, none⟩))) ∧ w' = w.alloc (.cells #[.string s, .int .i64 l, .int .i64 c, .iface ty v] 76) := by
  go_enter Tryz.func80, Tryz.ntmps80
  go_wp2
  go_ret
  exact ⟨rfl, rfl⟩
set_option maxRecDepth 100000 in
set_option maxHeartbeats 4000000 in
theorem faultAs_any (s : ByteArray) {w : World} {fb : Nat} {l : ByteArray} {inner : Value} (hT : ErrType w) (hF : w.heap[fb]? = some (.cells #[.string l, .int .i64 0, .int .i64 0, inner] 76 (0, 0))) :
    Calls Tryz.prog 43 #[.string s, .iface 73 (.pointer (some ⟨fb, 0, none⟩))] w fun e w' => ∃ v, e = .returned v ∧ FaultAt w' v s (.iface 73 (.pointer (some ⟨fb, 0, none⟩))) ∧ Below w.heap.size w w' := by
  have hB0 := (Below.refl w.heap.size w).alloc (Nat.le_refl _) (Obj.cells #[.pointer none] 73)
  have hT0 := hT.below hB0
  have hah := as_hit ⟨fb, 0, none⟩ ⟨w.heap.size, 0, none⟩ (.pointer none) (w.alloc (.cells #[.pointer none] 73)) hT0.cell (by simp) (by simp)
  have hfl : fb < w.heap.size := (Array.getElem?_eq_some_iff.1 hF).1
  have HAH := Lib.hid hah; have HF := Lib.hid hF; have HB0 := Lib.hid hB0
  clear hah hT0 hT hF hB0
  go_enter Tryz.func43, Tryz.ntmps43
  go_wp2_with fail
  refine HAH.out.mono ?_
  rintro e w2 ⟨rfl, hw2⟩
  have hb2 : Below w.heap.size w w2 := by
    rw [hw2]
    exact ((((HB0.out.alloc (by simp) _).alloc (by simp; omega) _).alloc (by simp; omega) _).alloc (by simp; omega) _).setCell (Nat.le_refl _) _
  have hs2 : w.heap.size < w2.heap.size := by rw [hw2]; simp [World.setCell]; omega
  have hc2 : w2.cell? ⟨w.heap.size, 0, none⟩ = some (.pointer (some ⟨fb, 0, none⟩)) := by rw [hw2]; simp [go_sem]
  have hf2 := (hb2.block fb hfl).trans HF.out
  have hfl2 : fb < w2.heap.size := by omega
  have g1 : w2.cell? ⟨fb, 1, none⟩ = some (.int .i64 0) := by simp [World.cell?, hf2]
  have g2 : w2.cell? ⟨fb, 2, none⟩ = some (.int .i64 0) := by simp [World.cell?, hf2]
  have HB2 := Lib.hid hb2
  clear hw2 hb2 hf2 HAH HF HB0 hfl
  obtain ⟨tb, htb⟩ : ∃ tb, tb = w.heap.size := ⟨_, rfl⟩
  rw [← htb] at hs2 hc2 ⊢
  have HTBB := Lib.hid htb
  clear htb
  go_wp2_with fail
  go_region_held3 (fun W => W.cell? ⟨tb, 0, none⟩ = some (.pointer (some ⟨fb, 0, none⟩)) ∧ W.cell? ⟨fb, 1, none⟩ = some (.int .i64 0) ∧ W.cell? ⟨fb, 2, none⟩ = some (.int .i64 0)) (go_keep)
    ((go_at_call 80; refine (faultAt_any _ _ _ _ _ _).mono ?_; rintro e w3 ⟨rfl, rfl⟩))
  all_goals
    go_wp2
    go_ret
    exact ⟨_, rfl, ⟨⟨w2.heap.size, rfl, heap_alloc_new w2.drew _⟩⟩, HB2.out.drew.alloc HB2.out.size _⟩
end Go.Proofs.YtdhloijdefnkpaaGreatDoor
namespace Go.Proofs.YtdhloijdefnkpaaGreatDoor
namespace Pl
inductive Via (s : Lts) (X : Nat → Prop) (p : Nat) : Nat → Prop
  | refl : X p → Via s X p p
  | tail {q r : Nat} : Via s X p q → stp s q 0 r → X r → Via s X p r
theorem Via.first {s : Lts} {X : Nat → Prop} {p q : Nat} (h : Via s X p q) : X p := by
  induction h with
  | refl h => exact h
  | tail _ _ _ ih => exact ih
theorem Via.last {s : Lts} {X : Nat → Prop} {p q : Nat} (h : Via s X p q) : X q := by
  cases h with
  | refl h => exact h
  | tail _ _ h => exact h
theorem Via.mono {s : Lts} {X Y : Nat → Prop} {p q : Nat} (h : Via s X p q) (hxy : ∀ x, X x → Y x) : Via s Y p q := by
  induction h with
  | refl h => exact .refl (hxy _ h)
  | tail _ h1 h2 ih => exact .tail ih h1 (hxy _ h2)
theorem Via.head {s : Lts} {X : Nat → Prop} {p q r : Nat} (hp : X p) (hs : stp s p 0 q) (h : Via s X q r) : Via s X p r := by
  induction h with
  | refl h => exact .tail (.refl hp) hs h
  | tail _ h1 h2 ih => exact .tail ih h1 h2
inductive Sg (s : Lts) (C : Nat → Int) : Nat → Int → Int → Prop
  | here {p t : Nat} {l : Int} : stp s p l t → ¬ (l = 0 ∧ C t = C p) → Sg s C p l (C t)
  | on {p t : Nat} {l e : Int} : stp s p 0 t → C t = C p → Sg s C t l e → Sg s C p l e
structure IsBr (s : Lts) (n : Nat) (R : Nat → Nat → Prop) : Prop where
  fwd : ∀ p q, p < n → q < n → R p q → ∀ l p', p' < n → stp s p l p' → (l = 0 ∧ R p' q) ∨ ∃ q0 q', Via s (fun x => x < n ∧ R p x) q q0 ∧ q' < n ∧ stp s q0 l q' ∧ R p' q'
  bwd : ∀ p q, p < n → q < n → R p q → ∀ l q', q' < n → stp s q l q' → (l = 0 ∧ R p q') ∨ ∃ p0 p', Via s (fun x => x < n ∧ R x q) p p0 ∧ p' < n ∧ stp s p0 l p' ∧ R p' q'
theorem IsBr.symm {s : Lts} {n : Nat} {R : Nat → Nat → Prop} (h : IsBr s n R) : IsBr s n (fun a b => R b a) :=
  ⟨fun p q hp hq hr l p' hp' hs => h.bwd q p hq hp hr l p' hp' hs, fun p q hp hq hr l q' hq' hs => h.fwd q p hq hp hr l q' hq' hs⟩
theorem Sg.via {s : Lts} {C : Nat → Int} {c : Int} {p q : Nat} (h : Via s (fun x => C x = c) p q) {l e : Int} (hs : Sg s C q l e) : Sg s C p l e := by
  induction h with
  | refl h => exact hs
  | tail h1 h2 h3 ih => exact ih (.on h2 (by rw [h3, h1.last]) hs)
theorem Sg.way {s : Lts} {C : Nat → Int} {p : Nat} {l e : Int} (h : Sg s C p l e) : ∃ q t, Via s (fun x => C x = C p) p q ∧ stp s q l t ∧ C t = e ∧ ¬ (l = 0 ∧ C t = C p) := by
  induction h with
  | here h1 h2 => exact ⟨_, _, .refl rfl, h1, rfl, h2⟩
  | @on p t l e h1 h2 _ ih =>
    obtain ⟨q, t', h3, h4, h5, h6⟩ := ih
    exact ⟨q, t', Via.head rfl h1 (h3.mono (fun x hx => by rw [hx, h2])), h4, h5, by rw [h2] at h6; exact h6⟩
theorem stp_lt {s : Lts} (hr : s.Right) {n : Nat} (hn : s.st = (n : Int)) {p t : Nat} {l : Int} (h : stp s p l t) : p < n ∧ t < n ∧ 0 ≤ l ∧ l < s.lb := by
  have := offB_false.1 (hr.edges _ h)
  simp only at this
  omega
theorem Via.lt {s : Lts} (hr : s.Right) {n : Nat} (hn : s.st = (n : Int)) {X : Nat → Prop} {p q : Nat} (hp : p < n) (h : Via s X p q) : Via s (fun x => x < n ∧ X x) p q ∧ q < n := by
  induction h with
  | refl h => exact ⟨.refl ⟨hp, h⟩, hp⟩
  | tail _ h1 h2 ih =>
    have := (stp_lt hr hn h1).2.1
    exact ⟨.tail ih.1 h1 ⟨this, h2⟩, this⟩
theorem IsBr.sg {s : Lts} {n : Nat} {R : Nat → Nat → Prop} (hr : s.Right) (hn : s.st = (n : Int)) (h : IsBr s n R) {C : Nat → Int} (hC : ∀ p q, p < n → q < n → R p q → C p = C q) {p : Nat} {l e : Int} (hs : Sg s C p l e) : ∀ q, q < n → R p q → Sg s C q l e := by
  have key : ∀ {p q0 : Nat}, p < n → ∀ {q}, Via s (fun x => x < n ∧ R p x) q q0 → Via s (fun x => C x = C p) q q0 := by
    intro p q0 hp q hv
    exact hv.mono (fun x hx => (hC _ _ hp hx.1 hx.2).symm)
  induction hs with
  | @here p t l h1 h2 =>
    intro q hq hpq
    have hp := (stp_lt hr hn h1).1; have ht := (stp_lt hr hn h1).2.1
    have e0 := hC p q hp hq hpq
    rcases h.fwd p q hp hq hpq l t ht h1 with ⟨rfl, h3⟩ | ⟨q0, q', h3, h4, h5, h6⟩
    · exact absurd ⟨rfl, by rw [hC t q ht hq h3, e0]⟩ h2
    · have e1 := hC t q' ht h4 h6
      have e2 := (key hp h3).last
      rw [e1]
      exact Sg.via (key hp h3) (.here h5 (by rw [e2, ← e1]; exact h2))
  | @on p t l e h1 h2 _ ih =>
    intro q hq hpq
    have hp := (stp_lt hr hn h1).1; have ht := (stp_lt hr hn h1).2.1
    rcases h.fwd p q hp hq hpq 0 t ht h1 with ⟨_, h3⟩ | ⟨q0, q', h3, h4, h5, h6⟩
    · exact ih q hq h3
    · have e1 := hC t q' ht h4 h6
      have e2 := (key hp h3).last
      exact Sg.via (key hp h3) (.on h5 (by rw [e2, ← e1]; exact h2) (ih q' h4 h6))
def Still (s : Lts) (n : Nat) (C : Nat → Int) : Prop := ∀ p q, p < n → q < n → C p = C q → ∀ l e, Sg s C p l e → Sg s C q l e
structure BrBig (s : Lts) (n : Nat) (C : Nat → Int) : Prop where
  still : Still s n C
  all : ∀ R, IsBr s n R → ∀ p q, p < n → q < n → R p q → C p = C q
theorem Still.br {s : Lts} {n : Nat} {C : Nat → Int} (hr : s.Right) (hn : s.st = (n : Int)) (h : Still s n C) : IsBr s n (fun p q => C p = C q) := by
  have fw : ∀ p q, p < n → q < n → C p = C q → ∀ l p', p' < n → stp s p l p' → (l = 0 ∧ C p' = C q) ∨ ∃ q0 q', Via s (fun x => x < n ∧ C p = C x) q q0 ∧ q' < n ∧ stp s q0 l q' ∧ C p' = C q' := by
    intro p q hp hq e l p' hp' hs
    by_cases hi : l = 0 ∧ C p' = C p
    · exact .inl ⟨hi.1, hi.2.trans e⟩
    · obtain ⟨q0, t, h1, h2, h3, _⟩ := (h p q hp hq e l (C p') (.here hs hi)).way
      have h4 := (h1.lt hr hn hq).1
      exact .inr ⟨q0, t, h4.mono (fun x hx => ⟨hx.1, by rw [hx.2]; exact e⟩), (stp_lt hr hn h2).2.1, h2, h3.symm⟩
  refine ⟨fw, fun p q hp hq e l q' hq' hs => ?_⟩
  rcases fw q p hq hp e.symm l q' hq' hs with ⟨h1, h2⟩ | ⟨q0, t, h1, h2, h3, h4⟩
  · exact .inl ⟨h1, h2.symm⟩
  · exact .inr ⟨q0, t, h1.mono (fun x hx => ⟨hx.1, hx.2.symm⟩), h2, h3, h4.symm⟩
theorem BrBig.same {s : Lts} {n : Nat} {C D : Nat → Int} (hr : s.Right) (hn : s.st = (n : Int)) (h : BrBig s n C) (h' : BrBig s n D) {p q : Nat} (hp : p < n) (hq : q < n) : C p = C q ↔ D p = D q :=
  ⟨fun e => h'.all _ (h.still.br hr hn) p q hp hq e, fun e => h.all _ (h'.still.br hr hn) p q hp hq e⟩
/-! rounds -/
def Holds (s : Lts) (n : Nat) (C : Nat → Int) : Prop := ∀ R, IsBr s n R → ∀ p q, p < n → q < n → R p q → C p = C q
def NextB (s : Lts) (n : Nat) (C D : Nat → Int) : Prop := ∀ p q, p < n → q < n → (D p = D q ↔ C p = C q ∧ ∀ l e, Sg s C p l e ↔ Sg s C q l e)
theorem Holds.next {s : Lts} {n : Nat} {C D : Nat → Int} (hr : s.Right) (hn : s.st = (n : Int)) (h : Holds s n C) (hd : NextB s n C D) : Holds s n D := fun R hR p q hp hq e =>
  (hd p q hp hq).2 ⟨h R hR p q hp hq e, fun _ _ => ⟨fun hs => hR.sg hr hn (h R hR) hs q hq e, fun hs => hR.symm.sg hr hn (fun a b ha hb hab => (h R hR b a hb ha hab).symm) hs p hp e⟩⟩
theorem Holds.done {s : Lts} {n : Nat} {C D : Nat → Int} (h : Holds s n C) (hd : NextB s n C D) (he : ∀ p, p < n → D p = C p) : BrBig s n C :=
  ⟨fun p q hp hq e _ _ hs => ((((hd p q hp hq).1 (by rw [he p hp, he q hq]; exact e)).2 _ _).1 hs), h⟩
end Pl
end Go.Proofs.YtdhloijdefnkpaaGreatDoor
namespace Go.Proofs.YtdhloijdefnkpaaGreatDoor
namespace Pl
open Go.Lib
/-! decimal numerals -/
theorem dec_rng : ∀ (u : Nat), ∀ c ∈ decDigits u, 48 ≤ c.toNat ∧ c.toNat ≤ 57 := by
  intro u
  induction u using Nat.strongRecOn with
  | ind u ih =>
    intro c hc
    rw [decDigits] at hc
    split at hc
    · simp only [List.mem_singleton] at hc
      subst hc
      simp; omega
    · rw [List.mem_append] at hc
      rcases hc with h | h
      · exact ih (u / 10) (by omega) c h
      · simp only [List.mem_singleton] at h
        subst h
        simp; omega
theorem dec_ne (u : Nat) : decDigits u ≠ [] := by
  rw [decDigits]; split <;> simp
theorem digit_inj {a b : Nat} (ha : a < 10) (hb : b < 10) (h : UInt8.ofNat (48 + a) = UInt8.ofNat (48 + b)) : a = b := by
  have := congrArg UInt8.toNat h
  simp at this; omega
theorem dec_inj : ∀ (u v : Nat), decDigits u = decDigits v → u = v := by
  intro u
  induction u using Nat.strongRecOn with
  | ind u ih =>
    intro v h
    rw [decDigits, decDigits.eq_def v] at h
    by_cases hu : u < 10 <;> by_cases hv : v < 10
    · rw [dif_pos hu, dif_pos hv] at h
      simp only [List.cons.injEq, and_true] at h
      exact digit_inj hu hv h
    · rw [dif_pos hu, dif_neg hv] at h
      have := congrArg List.length h
      have h2 := List.length_pos_iff.2 (dec_ne (v / 10))
      simp only [List.length_append, List.length_cons, List.length_nil] at this; omega
    · rw [dif_neg hu, dif_pos hv] at h
      have := congrArg List.length h
      have h2 := List.length_pos_iff.2 (dec_ne (u / 10))
      simp only [List.length_append, List.length_cons, List.length_nil] at this; omega
    · rw [dif_neg hu, dif_neg hv] at h
      obtain ⟨h1, h2⟩ := List.append_inj' h rfl
      simp only [List.cons.injEq, and_true] at h2
      have e1 := ih (u / 10) (by omega) (v / 10) h1
      have e2 := digit_inj (by omega) (by omega) h2
      omega
theorem itoa_no (x : Int) : (32 : UInt8) ∉ itoa x := by
  unfold itoa
  have k : ∀ u, (32 : UInt8) ∉ decDigits u := fun u h => by
    have := dec_rng u _ h
    simp at this
  split
  · rw [List.mem_cons]
    rintro (h | h)
    · exact absurd h (by decide)
    · exact k _ h
  · exact k _
theorem itoa_inj {x y : Int} (h : itoa x = itoa y) : x = y := by
  have k : ∀ u, (45 : UInt8) ∉ decDigits u := fun u h => by
    have := dec_rng u _ h
    simp at this
  unfold itoa at h
  by_cases hx : x < 0 <;> by_cases hy : y < 0
  · rw [if_pos hx, if_pos hy] at h
    have := dec_inj _ _ (List.cons.inj h).2
    omega
  · rw [if_pos hx, if_neg hy] at h
    exact absurd (by rw [← h]; simp) (k y.toNat)
  · rw [if_neg hx, if_pos hy] at h
    exact absurd (by rw [h]; simp) (k x.toNat)
  · rw [if_neg hx, if_neg hy] at h
    have := dec_inj _ _ h
    omega
theorem split32 : ∀ {a b r r' : List UInt8}, (32 : UInt8) ∉ a → (32 : UInt8) ∉ b → a ++ 32 :: r = b ++ 32 :: r' → a = b ∧ r = r'
  | [], [], _, _, _, _, h => ⟨rfl, (List.cons.inj h).2⟩
  | [], y :: b, _, _, _, hb, h => by
    have := (List.cons.inj h).1
    exact absurd (by rw [← this]; simp) hb
  | x :: a, [], _, _, ha, _, h => by
    have := (List.cons.inj h).1
    exact absurd (by rw [this]; simp) ha
  | x :: a, y :: b, r, r', ha, hb, h => by
    obtain ⟨rfl, h2⟩ := List.cons.inj h
    obtain ⟨h3, h4⟩ := split32 (fun h => ha (List.mem_cons_of_mem _ h)) (fun h => hb (List.mem_cons_of_mem _ h)) h2
    exact ⟨by rw [h3], h4⟩
def stepT (x : S) : List UInt8 := 32 :: (itoa x.1 ++ 32 :: itoa x.2)
def textB (c : Int) (L : List S) : List UInt8 := itoa c ++ L.flatMap stepT
theorem textB_inj : ∀ {L M : List S} {c d : Int}, textB c L = textB d M → c = d ∧ L = M
  | [], [], c, d, h => by
    unfold textB at h
    simp only [List.flatMap_nil, List.append_nil] at h
    exact ⟨itoa_inj h, rfl⟩
  | [], y :: M, c, d, h => by
    unfold textB at h
    simp only [List.flatMap_nil, List.append_nil, List.flatMap_cons] at h
    exact absurd (by rw [h]; unfold stepT; simp) (itoa_no c)
  | x :: L, [], c, d, h => by
    unfold textB at h
    simp only [List.flatMap_nil, List.append_nil, List.flatMap_cons] at h
    exact absurd (by rw [← h]; unfold stepT; simp) (itoa_no d)
  | x :: L, y :: M, c, d, h => by
    unfold textB at h
    simp only [List.flatMap_cons, stepT, List.cons_append, List.append_assoc] at h
    obtain ⟨h1, h2⟩ := split32 (itoa_no c) (itoa_no d) h
    obtain ⟨h3, h4⟩ := split32 (itoa_no x.1) (itoa_no y.1) h2
    obtain ⟨h5, h6⟩ := textB_inj (L := L) (M := M) (c := x.2) (d := y.2) h4
    exact ⟨itoa_inj h1, by rw [h6, Prod.ext (itoa_inj h3) h5]⟩
/-! more classes -/
theorem nodup_subI : ∀ (L M : List Int), L.Nodup → (∀ x ∈ L, x ∈ M) → L.length ≤ M.length
  | [], M, _, _ => Nat.zero_le _
  | x :: L, M, hn, hs => by
    rw [List.nodup_cons] at hn
    have ih := nodup_subI L (M.erase x) hn.2 (fun y hy => (List.mem_erase_of_ne (fun e : y = x => hn.1 (e ▸ hy))).2 (hs y (List.mem_cons_of_mem _ hy)))
    have h1 := List.length_erase_of_mem (hs x (by simp))
    have h2 := List.length_pos_of_mem (hs x (by simp))
    rw [List.length_cons]; omega
theorem mem_dist_fl {n : Nat} {C : Nat → Int} {c : Int} : c ∈ dist (fl n C) ↔ ∃ p, p < n ∧ C p = c := by
  rw [mem_dist]; unfold fl; rw [List.mem_map]
  exact ⟨fun ⟨p, h1, h2⟩ => ⟨p, List.mem_range.1 h1, h2⟩, fun ⟨p, h1, h2⟩ => ⟨p, List.mem_range.2 h1, h2⟩⟩
theorem more_classes {n : Nat} {C D : Nat → Int} (h : ∀ p q, p < n → q < n → D p = D q → C p = C q) {a b : Nat} (ha : a < n) (hb : b < n) (e1 : C a = C b) (e2 : D a ≠ D b) : (dist (fl n C)).length < (dist (fl n D)).length := by
  have hex : ∀ c : Int, ∃ p : Nat, c ∈ dist (fl n C) → p < n ∧ C p = c := fun c => by
    by_cases hc : c ∈ dist (fl n C)
    · obtain ⟨p, hp⟩ := mem_dist_fl.1 hc
      exact ⟨p, fun _ => hp⟩
    · exact ⟨0, fun h => absurd h hc⟩
  obtain ⟨r, hr⟩ := Classical.axiomOfChoice hex
  have hca : C a ∈ dist (fl n C) := mem_dist_fl.2 ⟨a, ha, rfl⟩
  obtain ⟨x, hxm, hxn⟩ : ∃ x, x ∈ dist (fl n D) ∧ x ∉ (dist (fl n C)).map (fun c => D (r c)) := by
    have key : ∀ z, z < n → C z = C a → D z ∈ (dist (fl n C)).map (fun c => D (r c)) → D z = D (r (C a)) := fun z hz e hm => by
      obtain ⟨c, hc, hcz⟩ := List.mem_map.1 hm
      have h1 := hr c hc
      have h2 := h (r c) z h1.1 hz hcz
      rw [h1.2, e] at h2
      rw [← hcz, h2]
    by_cases k1 : D a ∈ (dist (fl n C)).map (fun c => D (r c))
    · refine ⟨D b, mem_dist_fl.2 ⟨b, hb, rfl⟩, fun k2 => e2 ?_⟩
      rw [key a ha rfl k1, key b hb e1.symm k2]
    · exact ⟨D a, mem_dist_fl.2 ⟨a, ha, rfl⟩, k1⟩
  have hnd : (x :: (dist (fl n C)).map (fun c => D (r c))).Nodup := by
    rw [List.nodup_cons]
    refine ⟨hxn, ?_⟩
    rw [List.Nodup, List.pairwise_map]
    refine List.Pairwise.imp_of_mem ?_ (nodup_dist (fl n C))
    intro c d hc hd hcd e
    have k1 := hr c hc; have k2 := hr d hd
    have := h (r c) (r d) k1.1 k2.1 e
    rw [k1.2, k2.2] at this
    exact hcd this
  have := nodup_subI _ (dist (fl n D)) hnd (fun y hy => by
    rcases List.mem_cons.1 hy with rfl | h1
    · exact hxm
    · obtain ⟨c, hc, rfl⟩ := List.mem_map.1 h1
      exact mem_dist_fl.2 ⟨r c, (hr c hc).1, rfl⟩)
  rw [List.length_cons, List.length_map] at this
  omega
theorem canon_same_list {n : Nat} {C D : Nat → Int} (h1 : canon (fl n C) = fl n C) (h2 : canon (fl n D) = fl n D) (h : ∀ p q, p < n → q < n → (C p = C q ↔ D p = D q)) : fl n C = fl n D := by
  rw [← h1, ← h2, sameT_canon (by rw [fl_len, fl_len])]
  intro i k x y x' y' hki hx hy hx' hy'
  have hi : i < n := by have := (List.getElem?_eq_some_iff.1 hx).1; rwa [fl_len] at this
  have hk : k < n := by omega
  rw [fl_get C hi] at hx; rw [fl_get C hk] at hy; rw [fl_get D hi] at hx'; rw [fl_get D hk] at hy'
  cases hx; cases hy; cases hx'; cases hy'
  exact h i k hi hk
end Pl
end Go.Proofs.YtdhloijdefnkpaaGreatDoor

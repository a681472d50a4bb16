/-
  Lemmas.
-/
import Derived.Test.YtgikimbafakmcaaGreatDoorGFault
import Derived.Test.YtgikimbafakmcaaGreatDoorGGraphA
import Derived.WalkKit
import Derived.LaidEql
import Derived.Stop.Asserts
import Derived.RowKitTokens
import Derived.Test.YtgikimbafakmcaaGreatDoorCards
import Derived.Test.YtgikimbafakmcaaGreatDoorTie
import Derived.ProofKit
import Derived.OpenShut
import Derived.Deep.DeepHandedRow
import Derived.Deep.DeepWitnessRowRef
import Derived.Lib.LaidIn
import Derived.Stop.LaidErr
import Derived.Lib.SmallJoins
import Derived.LaidHandle
set_option maxHeartbeats 4000000
set_option maxRecDepth 100000
namespace Go.Proofs.YtgikimbafakmcaaGreatDoor
open Go.RowKit Go.Extern.Stop Go.Stop Go.Extern Pl
/-! ### CLOSED FACTS ON THE MODEL's ENTRIES FOR internal/reflectlite, at this program's types: 25: *p.E · 27: **p.E · 23: error · 45: reflectlite's rtype · 1: how many package-level variables the dump has -/
theorem as_valueOf27 (t : Addr) (w : World) : (ReflectliteValue.unpack (.iface 102 (.pointer (some t)))).run Tryz.prog w
    = .ok (.agg #[.pointer (some ⟨20, 102, none⟩), .pointer (some ⟨w.heap.size, 0, none⟩), .int .u64 150]) (w.alloc (.cells #[.pointer (some t)] 102)) := by kernel_rfl
theorem as_type27 (a : Addr) (w : World) : (ReflectliteValue.methodAny (ReflectliteValue.valueError "reflectlite.Value.Type" 0) (fun t _ _ _ => ReflectliteType.toType t) #[.agg #[.pointer (some ⟨20, 102, none⟩), .pointer (some a), .int .u64 150]]).run Tryz.prog w
    = .ok (.iface 184 (.agg #[.pointer (some ⟨20, 102, none⟩)])) w := by kernel_rfl
theorem as_methodKind (h : Value) (w : World) : (Go.method 402 184 (.agg #[h]) "Kind").run Tryz.prog w = .ok (216, h) w := by kernel_rfl
theorem as_kind27 (w : World) : ((ReflectliteType.abiMethod fun t => (fun a : Nat => Value.int IntKind.u8 (a : Int)) <$> Rtype.kind t) #[.pointer (some ⟨20, 102, none⟩)]).run Tryz.prog w = .ok (.int .u8 22) w := by kernel_rfl
theorem as_kind25 (w : World) : ((ReflectliteType.abiMethod fun t => (fun a : Nat => Value.int IntKind.u8 (a : Int)) <$> Rtype.kind t) #[.pointer (some ⟨20, 69, none⟩)]).run Tryz.prog w = .ok (.int .u8 22) w := by kernel_rfl
/-! ### THE ENTRIES THAT READ OR WRITE MEMORY: laws with a premise on the cell (after Derived/Lib/ReflectliteSlice.lean's manner: each unfolding a lemma of its own, by rfl) -/
theorem rlm (z : Sem Value) (f : TypeId -> Addr -> Nat -> Nat -> Sem Value) (v : Value) :
    ReflectliteValue.method z f #[v] = (do match <- ReflectliteValue.parts v with | none => z | some (t, a, fl) => f t a fl (fl % 32)) := rfl
theorem as_parts27 (a : Addr) (w : World) : (ReflectliteValue.parts (.agg #[.pointer (some ⟨20, 102, none⟩), .pointer (some a), .int .u64 150])).run Tryz.prog w = .ok (some (102, a, 150)) w := by kernel_rfl
theorem as_isNil27 (a p : Addr) (W : World) (ha : W.cell? a = some (.pointer (some p))) :
    (ReflectliteValue.method (ReflectliteValue.valueError "reflectlite.Value.IsNil" 0) ReflectliteValue.isNil #[.agg #[.pointer (some ⟨20, 102, none⟩), .pointer (some a), .int .u64 150]]).run Tryz.prog W = .ok (.bool false) W := by
 rw [rlm]
 simp only [Sem.run_bind, as_parts27, Result.andThen]
 simp [ReflectliteValue.isNil, loadVar, isAgg, underlying, Tryz.underlying102, ha, Result.andThen]
theorem as_methodElem (h : Value) (w : World) : (Go.method 402 184 (.agg #[h]) "Elem").run Tryz.prog w = .ok (228, .agg #[h]) w := by kernel_rfl
theorem as_methodImplements (h : Value) (w : World) : (Go.method 402 184 (.agg #[h]) "Implements").run Tryz.prog w = .ok (229, .agg #[h]) w := by kernel_rfl
theorem as_methodAssignableTo (h : Value) (w : World) : (Go.method 402 184 (.agg #[h]) "AssignableTo").run Tryz.prog w = .ok (226, .agg #[h]) w := by kernel_rfl
theorem as_elem27 (w : World) : (ReflectliteType.method ReflectliteType.elem #[.agg #[.pointer (some ⟨20, 102, none⟩)]]).run Tryz.prog w = .ok (.iface 184 (.agg #[.pointer (some ⟨20, 69, none⟩)])) w := by kernel_rfl
theorem as_implements25 (w : World) : (ReflectliteType.relation "Implements" ReflectliteType.implements_ #[.agg #[.pointer (some ⟨20, 69, none⟩)], .iface 184 (.agg #[.pointer (some ⟨20, 46, none⟩)])]).run Tryz.prog w = .ok (.bool true) w := by kernel_rfl
theorem as_typeOf25 (v : Value) (w : World) : (ReflectliteType.typeOf #[.iface 69 v]).run Tryz.prog w = .ok (.iface 184 (.agg #[.pointer (some ⟨20, 69, none⟩)])) w := by kernel_rfl
theorem as_assignable25 (w : World) : (ReflectliteType.relation "AssignableTo" ReflectliteType.assignableTo #[.agg #[.pointer (some ⟨20, 69, none⟩)], .iface 184 (.agg #[.pointer (some ⟨20, 69, none⟩)])]).run Tryz.prog w = .ok (.bool true) w := by kernel_rfl
theorem as_valueOf25 (e : Addr) (w : World) : (ReflectliteValue.unpack (.iface 69 (.pointer (some e)))).run Tryz.prog w
    = .ok (.agg #[.pointer (some ⟨20, 69, none⟩), .pointer (some ⟨w.heap.size, 0, none⟩), .int .u64 150]) (w.alloc (.cells #[.pointer (some e)] 69)) := by kernel_rfl
theorem as_elemOf27 (w : World) : (Rtype.elem? 102).run Tryz.prog w = .ok (some 69) w := by kernel_rfl
theorem as_mk25 (p : Addr) (w : World) : (ReflectliteValue.mk 69 p ReflectliteValue.flagAddr).run Tryz.prog w = .ok (.agg #[.pointer (some ⟨20, 69, none⟩), .pointer (some p), .int .u64 406]) w := by kernel_rfl
theorem as_elemV27 (a p : Addr) (W : World) (ha : W.cell? a = some (.pointer (some p))) :
    (ReflectliteValue.method (ReflectliteValue.valueError "reflectlite.Value.Elem" 0) ReflectliteValue.elem #[.agg #[.pointer (some ⟨20, 102, none⟩), .pointer (some a), .int .u64 150]]).run Tryz.prog W
      = .ok (.agg #[.pointer (some ⟨20, 69, none⟩), .pointer (some p), .int .u64 406]) W := by
 rw [rlm]
 simp only [Sem.run_bind, as_parts27, Result.andThen]
 simp [ReflectliteValue.elem, loadVar, isAgg, underlying, Tryz.underlying102, ha, Result.andThen, as_elemOf27, as_mk25]
theorem rls (v x : Value) : ReflectliteValue.set #[v, x] = (do
    let (some (dst, a, fl), some (src, b, _)) := (<- ReflectliteValue.parts v, <- ReflectliteValue.parts x)
      | unsupported (.noEntry "extern/(internal/reflectlite.Value).Set.zeroValue")
    if fl / ReflectliteValue.flagAddr % 2 == 0 then unsupported (.noEntry "extern/(internal/reflectlite.Value).Set.unaddressable")
    let val <- loadVar src b
    if <- Rtype.directlyAssignable dst src then storeVar dst a val
    else if <- Rtype.implements dst src then
      if (<- Rtype.kind src) == 20 then
        match val with
        | .nilIface => unsupported (.noEntry "extern/reflectlite: a nil value of one interface type handed on as a value of another")
        | _ => storeVar dst a val
      else storeVar dst a (.iface src val)
    else panicString ("reflectlite.Set: value of type " ++ (<- Rtype.spelt src) ++ " is not assignable to type " ++ (<- Rtype.spelt dst))
    pure (.tuple #[])) := rfl
theorem as_parts25a (a : Addr) (w : World) : (ReflectliteValue.parts (.agg #[.pointer (some ⟨20, 69, none⟩), .pointer (some a), .int .u64 406])).run Tryz.prog w = .ok (some (69, a, 406)) w := by kernel_rfl
theorem as_parts25 (a : Addr) (w : World) : (ReflectliteValue.parts (.agg #[.pointer (some ⟨20, 69, none⟩), .pointer (some a), .int .u64 150])).run Tryz.prog w = .ok (some (69, a, 150)) w := by kernel_rfl
theorem as_direct25 (w : World) : (Rtype.directlyAssignable 69 69).run Tryz.prog w = .ok true w := by kernel_rfl
theorem as_set25 (ta b e : Addr) (old : Value) (W : World) (hb : W.cell? b = some (.pointer (some e))) (ht : W.cell? ta = some old) (hf : W.frozen? ta = false) :
    (ReflectliteValue.set #[.agg #[.pointer (some ⟨20, 69, none⟩), .pointer (some ta), .int .u64 406], .agg #[.pointer (some ⟨20, 69, none⟩), .pointer (some b), .int .u64 150]]).run Tryz.prog W
      = .ok (.tuple #[]) (W.setCell ta (.pointer (some e))) := by
 rw [rls]
 simp only [Sem.run_bind, as_parts25a, as_parts25, Result.andThen]
 simp [ReflectliteValue.flagAddr, loadVar, isAgg, underlying, Tryz.underlying69, hb, Result.andThen, as_direct25, storeVar, Value.cells, storeCells, Addr.add]
 rw [run_store Tryz.prog W ta _ _ (by rfl)]
 simp [ht, hf]
theorem as_hit (e t : Addr) (old : Value) (w : World) (hg : w.cell? ⟨11, 0, none⟩ = some (.iface 184 (.agg #[.pointer (some ⟨20, 46, none⟩)]))) (ht0 : w.cell? t = some old) (hf0 : w.frozen? t = false) :
    Calls Tryz.prog 73 #[.iface 69 (.pointer (some e)), .iface 102 (.pointer (some t))] w fun ev w' => ev = .returned (.bool true) /\ w' = ((((w.alloc (.cells #[.pointer (some t)] 102)).alloc (.cells #[.pointer (some ⟨20, 102, none⟩), .pointer (some ⟨w.heap.size, 0, none⟩), .int .u64 150] 149)).alloc (.cells #[.pointer (some ⟨20, 102, none⟩), .pointer (some ⟨w.heap.size, 0, none⟩), .int .u64 150] 149)).alloc (.cells #[.pointer (some e)] 69)).setCell t (.pointer (some e)) := by
 have h6 := @run_callFunc_extern Tryz.prog 101 _ (fun args => ReflectliteValue.unpack (args.getD 0 (.tuple #[]))) Tryz.func101 (by kernel_rfl) (by kernel_rfl) (by kernel_rfl) (by kernel_rfl)
 have h7 := @run_callFunc_extern Tryz.prog 102 _ (ReflectliteValue.methodAny (ReflectliteValue.valueError "reflectlite.Value.Type" 0) (fun t _ _ _ => ReflectliteType.toType t)) Tryz.func102 (by kernel_rfl) (by kernel_rfl) (by kernel_rfl) (by kernel_rfl)
 have h8 := @run_callFunc_extern Tryz.prog 103 _ (ReflectliteValue.method (ReflectliteValue.valueError "reflectlite.Value.IsNil" 0) ReflectliteValue.isNil) Tryz.func103 (by kernel_rfl) (by kernel_rfl) (by kernel_rfl) (by kernel_rfl)
 have h27 := @run_callFunc_extern Tryz.prog 216 _ (ReflectliteType.abiMethod fun t => do pure (.int .u8 (<- Rtype.kind t))) Tryz.func216 (by kernel_rfl) (by kernel_rfl) (by kernel_rfl) (by kernel_rfl)
 have h37 := @run_callFunc_extern Tryz.prog 228 _ (ReflectliteType.method ReflectliteType.elem) Tryz.func228 (by kernel_rfl) (by kernel_rfl) (by kernel_rfl) (by kernel_rfl)
 have h38 := @run_callFunc_extern Tryz.prog 229 _ (ReflectliteType.relation "Implements" ReflectliteType.implements_) Tryz.func229 (by kernel_rfl) (by kernel_rfl) (by kernel_rfl) (by kernel_rfl)
 have h10 := @run_callFunc_extern Tryz.prog 105 _ ReflectliteType.typeOf Tryz.func105 (by kernel_rfl) (by kernel_rfl) (by kernel_rfl) (by kernel_rfl)
 have h35 := @run_callFunc_extern Tryz.prog 226 _ (ReflectliteType.relation "AssignableTo" ReflectliteType.assignableTo) Tryz.func226 (by kernel_rfl) (by kernel_rfl) (by kernel_rfl) (by kernel_rfl)
 have h11 := @run_callFunc_extern Tryz.prog 121 _ (ReflectliteValue.method (ReflectliteValue.valueError "reflectlite.Value.Elem" 0) ReflectliteValue.elem) Tryz.func121 (by kernel_rfl) (by kernel_rfl) (by kernel_rfl) (by kernel_rfl)
 have h12 := @run_callFunc_extern Tryz.prog 122 _ ReflectliteValue.set Tryz.func122 (by kernel_rfl) (by kernel_rfl) (by kernel_rfl) (by kernel_rfl)
 have tO := as_typeOf25
 have mA := as_methodAssignableTo
 have a25 := as_assignable25
 have v25 := as_valueOf25
 have f6 := as_valueOf27
 have f7 := as_type27
 have mK := as_methodKind
 have mE := as_methodElem
 have mI := as_methodImplements
 have k27 := as_kind27
 have k25 := as_kind25
 have e27 := as_elem27
 have i25 := as_implements25
 have n8 := as_isNil27 ⟨w.heap.size, 0, none⟩ t ((w.alloc (.cells #[.pointer (some t)] 102)).alloc (.cells #[.pointer (some ⟨20, 102, none⟩), .pointer (some ⟨w.heap.size, 0, none⟩), .int .u64 150] 149)) (by simp)
 have hlt : 11 < w.heap.size := by (
 rcases Nat.lt_or_ge 11 w.heap.size with h | h0
 · exact h
 · simp [World.cell?, Array.getElem?_eq_none h0] at hg)
 have hg2 : ((w.alloc (.cells #[.pointer (some t)] 102)).alloc (.cells #[.pointer (some ⟨20, 102, none⟩), .pointer (some ⟨w.heap.size, 0, none⟩), .int .u64 150] 149)).cell? ⟨11, 0, none⟩ = some (.iface 184 (.agg #[.pointer (some ⟨20, 46, none⟩)])) := by
   rw [World.cell?_alloc_lt _ _ ⟨11, 0, none⟩ (by simp; omega), World.cell?_alloc_lt _ _ ⟨11, 0, none⟩ hlt]; exact hg
 have htl : t.block < w.heap.size := by (
 rcases Nat.lt_or_ge t.block w.heap.size with h | h
 · exact h
 · simp [World.cell?, Array.getElem?_eq_none h] at ht0)
 have el := as_elemV27 ⟨w.heap.size, 0, none⟩ t (((w.alloc (.cells #[.pointer (some t)] 102)).alloc (.cells #[.pointer (some ⟨20, 102, none⟩), .pointer (some ⟨w.heap.size, 0, none⟩), .int .u64 150] 149)).alloc (.cells #[.pointer (some ⟨20, 102, none⟩), .pointer (some ⟨w.heap.size, 0, none⟩), .int .u64 150] 149)) (by rw [World.cell?_alloc_lt _ _ ⟨w.heap.size, 0, none⟩ (by simp; omega)]; simp)
 have st := as_set25 t ⟨w.heap.size + 1 + 1 + 1, 0, none⟩ e old ((((w.alloc (.cells #[.pointer (some t)] 102)).alloc (.cells #[.pointer (some ⟨20, 102, none⟩), .pointer (some ⟨w.heap.size, 0, none⟩), .int .u64 150] 149)).alloc (.cells #[.pointer (some ⟨20, 102, none⟩), .pointer (some ⟨w.heap.size, 0, none⟩), .int .u64 150] 149)).alloc (.cells #[.pointer (some e)] 69))
   (by rw [World.cell?_alloc_at _ _ _ _ (by simp)]; rfl)
   (by rw [World.cell?_alloc_lt _ _ t (by simp; omega), World.cell?_alloc_lt _ _ t (by simp; omega), World.cell?_alloc_lt _ _ t (by simp; omega), World.cell?_alloc_lt _ _ t htl]; exact ht0)
   (by rw [World.frozen?_alloc_old _ _ t (by simp; omega), World.frozen?_alloc_old _ _ t (by simp; omega), World.frozen?_alloc_old _ _ t (by simp; omega), World.frozen?_alloc_old _ _ t (Nat.ne_of_lt htl)]; exact hf0)
 go_enter Tryz.func73, Tryz.ntmps73
 go_wp2
 refine wp_loop_rounds 1 ?_
 rw [rounds_succ]
 go_wp2
 go_ret
 exact ⟨rfl, rfl⟩
structure ErrType (w : World) : Prop where
  cell : w.cell? ⟨11, 0, none⟩ = some (.iface 184 (.agg #[.pointer (some ⟨20, 46, none⟩)]))
theorem ErrType.lt {w : World} (h : ErrType w) : 11 < w.heap.size := World.block_lt_of_cell? _ _ h.cell
theorem ErrType.below {w w' : World} (h : ErrType w) (hB : Below w.heap.size w w') : ErrType w' := ⟨by rw [hB.cell (p := ⟨11, 0, none⟩) h.lt]; exact h.cell⟩
theorem faultAt_any (s : ByteArray) (ty : TypeId) (v : Value) (l c : Int) (w : World) : Calls Tryz.prog 74 #[.string s, .iface ty v, .int .i64 l, .int .i64 c] w fun e w' =>
    e = .returned (.iface 69 (.pointer (some ⟨w.heap.size, 0, none⟩))) /\ w' = w.alloc (.cells #[.string s, .int .i64 l, .int .i64 c, .iface ty v] 72) := by
 go_enter Tryz.func74, Tryz.ntmps74
 go_wp2
 go_ret
 exact ⟨rfl, rfl⟩
theorem faultAs_any (s : ByteArray) {w : World} {fb : Nat} {l : ByteArray} {inner : Value} (hT : ErrType w) (hF : w.heap[fb]? = some (.cells #[.string l, .int .i64 0, .int .i64 0, inner] 72 (0, 0))) :
    Calls Tryz.prog 20 #[.string s, .iface 69 (.pointer (some ⟨fb, 0, none⟩))] w fun e w' => ∃ v, e = .returned v /\ FaultAt w' v s (.iface 69 (.pointer (some ⟨fb, 0, none⟩))) /\ Below w.heap.size w w' := by
 have hB0 := (Below.refl w.heap.size w).alloc (Nat.le_refl _) (Obj.cells #[.pointer none] 69)
 have hT0 := hT.below hB0
 have hah := as_hit ⟨fb, 0, none⟩ ⟨w.heap.size, 0, none⟩ (.pointer none) (w.alloc (.cells #[.pointer none] 69)) hT0.cell (by simp) (by simp)
 have hfl : fb < w.heap.size := (Array.getElem?_eq_some_iff.1 hF).1
 have HAH := Lib.hid hah; have HF := Lib.hid hF; have HB0 := Lib.hid hB0
 clear hah hT0 hT hF hB0
 go_enter Tryz.func20, Tryz.ntmps20
 go_wp2_with fail
 refine HAH.out.mono ?_
 rintro e w2 ⟨rfl, hw2⟩
 have hb2 : Below w.heap.size w w2 := by
   rw [hw2]
   exact ((((HB0.out.alloc (by simp) _).alloc (by simp; omega) _).alloc (by simp; omega) _).alloc (by simp; omega) _).setCell (Nat.le_refl _) _
 have hs2 : w.heap.size < w2.heap.size := by rw [hw2]; simp [World.setCell]; omega
 have hc2 : w2.cell? ⟨w.heap.size, 0, none⟩ = some (.pointer (some ⟨fb, 0, none⟩)) := by rw [hw2]; simp [go_sem]
 have hf2 := (hb2.block fb hfl).trans HF.out
 have hfl2 : fb < w2.heap.size := by omega
 have g1 : w2.cell? ⟨fb, 1, none⟩ = some (.int .i64 0) := by simp [World.cell?, hf2]
 have g2 : w2.cell? ⟨fb, 2, none⟩ = some (.int .i64 0) := by simp [World.cell?, hf2]
 have HB2 := Lib.hid hb2
 clear hw2 hb2 hf2 HAH HF HB0 hfl
 obtain ⟨tb, htb⟩ : ∃ tb, tb = w.heap.size := ⟨_, rfl⟩
 rw [<- htb] at hs2 hc2 ⊢
 have HTBB := Lib.hid htb
 clear htb
 go_wp2_with fail
 go_region_held3 (fun W => W.cell? ⟨tb, 0, none⟩ = some (.pointer (some ⟨fb, 0, none⟩)) /\ W.cell? ⟨fb, 1, none⟩ = some (.int .i64 0) /\ W.cell? ⟨fb, 2, none⟩ = some (.int .i64 0)) (go_keep)
   ((go_at_call 74; refine (faultAt_any _ _ _ _ _ _).mono ?_; rintro e w3 ⟨rfl, rfl⟩))
 all_goals (
 go_wp2
 go_ret
 exact ⟨_, rfl, ⟨⟨w2.heap.size, rfl, heap_alloc_new w2.drew _⟩⟩, HB2.out.drew.alloc HB2.out.size _⟩)
end Go.Proofs.YtgikimbafakmcaaGreatDoor
namespace Go.Proofs.YtgikimbafakmcaaGreatDoor
open Go.ChangeShapes Go.WideShapes Go.ChangeAt Go.RowKit Go.Lib
theorem ownKnob_none : ownKnob Tryz.prog.godebug = none := by kernel_rfl
theorem prog_laidOut : laidOutB Tryz.prog = true := by kernel_rfl
noncomputable abbrev nBlock : Nat := (World.settled Tryz.prog default).heap.size
theorem star_es : "*" ++ "errors.errorString" = "*errors.errorString" := by decide
theorem row_es (u : TypeId) (h : Tryz.prog.typeName? 3 u = some "*errors.errorString") : u = 270 :=
  typeName_ptr_named (nm := "errors.errorString") (by rw [star_es]; kernel_rfl) (by kernel_rfl) (by decide) u (by rw [star_es]; exact h)
end Go.Proofs.YtgikimbafakmcaaGreatDoor
namespace Go.Proofs.YtgikimbafakmcaaGreatDoor
open Go.ChangeShapes Go.WideShapes Go.ChangeAt Go.RowKit Go.Lib Go.Deep Pl
theorem cellsInt : Tryz.prog.cellsOf 3 = 1 := by kernel_rfl
theorem cellsEdge : Tryz.prog.cellsOf 57 = 3 := by kernel_rfl
def wfE (x : E) : Prop := (Lit.int .i64 x.1).wf = true /\ (Lit.int .i64 x.2.1).wf = true /\ (Lit.int .i64 x.2.2).wf = true
theorem open_edge {H : Type} {enc : TypeId × Value -> H} {W : World} {fuel : Nat} {cs : List Value} {x : DataW H × List MemPlace}
    (h : DataW.trod enc Tryz.prog W 0 (fun _ => true) true fuel 57 cs = some x) : ∃ e : E, cs = encE e /\ wfE e := by
 obtain ⟨y0, y1, y2, n, _, hl, h0, h1, h2⟩ := trod_struct3 Tryz.underlying57 h
 rw [cellsEdge] at hl
 match cs, hl with
 | [c0, c1, c2], _ => (
 simp only [cellsInt] at h0 h1 h2
 obtain ⟨a0, e0, _, w0⟩ := DataW.trod_int Tryz.underlying3 h0
 obtain ⟨a1, e1, _, w1⟩ := DataW.trod_int Tryz.underlying3 h1
 obtain ⟨a2, e2, _, w2⟩ := DataW.trod_int Tryz.underlying3 h2
 simp at e0 e1 e2
 subst e0 e1 e2
 exact ⟨(a0, a1, a2), rfl, w0, w1, w2⟩)
theorem open_edges {H : Type} {enc : TypeId × Value -> H} {W : World} {fuel : Nat} {v : Value} {x : DataW H × List MemPlace}
    (h : DataW.trod enc Tryz.prog W 0 (fun _ => true) true fuel 22 [v] = some x) :
    ∃ (a : Option Addr) (c b off : Nat) (es : List E), v = .slice a es.length c /\ es.length <= maxLen /\ SlAt encE 3 W a b off es /\ (∀ y ∈ es, wfE y) /\ es.length <= c /\ c <= maxLen := by
 rcases open_slice Tryz.underlying22 h with ⟨hcs, _⟩ | ⟨ad, len, cap, m, n, D, Pls, hcs, _, hl, hm, hmm, _, hi⟩
 · simp at hcs
   subst hcs
   exact ⟨none, 0, 0, 0, [], rfl, by simp, slAt_nil _ _ _ _, by simp, by simp, by simp⟩
 · (
 simp at hcs
 subst hcs
 simp only [if_true] at hmm
 rw [cellsEdge] at hi
 have hex : ∀ i : Nat, ∃ e : E, i < m -> wfE e /\ ∀ j u, (encE e)[j]? = some u -> W.cell? (ad.add (i * 3 + j)) = some u := by (
 intro i
 by_cases him : i < m
 · (
 obtain ⟨cs', hc, ht⟩ := hi i him
 obtain ⟨e, rfl, hw⟩ := open_edge ht
 obtain ⟨_, hcl, hat⟩ := World.cells?_some hc
 refine ⟨e, fun _ => ⟨hw, fun j u hu => ?_⟩⟩
 have hj : j < 3 := by have := (List.getElem?_eq_some_iff.1 hu).1; simpa [encE] using this
 rw [<- Go.Deep.add_add, hat j hj, hu])
 · exact ⟨(0, 0, 0), fun h => absurd h him⟩)
 obtain ⟨f, hf⟩ := Classical.axiomOfChoice hex
 obtain ⟨b, off, spot⟩ := ad
 have hcl : 0 < len -> spot = none /\ b < W.heap.size := by (
 intro h0
 have hc0 := (hf 0 (by omega)).2 0 _ rfl
 have hspot : spot = none := by simpa [Addr.add] using World.cell?_spot hc0
 subst hspot
 exact ⟨rfl, World.block_lt_of_cell? _ _ hc0⟩)
 refine ⟨some ⟨b, off, spot⟩, cap, b, off, (List.range len).map f, by simp, by simp; omega, ⟨fun hp => ?_, fun hp => (hcl (by simpa using hp)).2, fun i y hy j u hu => ?_⟩, ?_, by simp; omega, by omega⟩
 · obtain ⟨rfl, _⟩ := hcl (by simpa using hp); rfl
 · (
 have hil : i < len := by have := (List.getElem?_eq_some_iff.1 hy).1; simpa using this
 obtain ⟨rfl, _⟩ := hcl (by omega)
 have hy' : y = f i := by simp [hil] at hy; exact hy.symm
 subst hy'
 have := (hf i (by omega)).2 j u hu
 rw [Go.WideShapes.add_plain, <- Nat.add_assoc] at this
 exact this)
 · intro y hy
   obtain ⟨i, hi', rfl⟩ := List.mem_map.1 hy
   rw [List.mem_range] at hi'
   exact (hf i (by omega)).1)
theorem open_sys {H : Type} {enc : TypeId × Value -> H} {W : World} {r : Reach} {b0 : Nat} {v : Value} {d : DataW H} {p : List MemPlace}
    (hv : Value.okWide Tryz.prog W r b0 24 v) (h : DataW.Trod enc Tryz.prog W 0 (fun _ => true) true 24 v d p) :
    ∃ (s : Lts) (a : Option Addr) (c b off : Nat), v = .agg #[.int .i64 s.st, .int .i64 s.lb, .int .i64 s.s0, .slice a s.es.length c] /\ s.es.length <= maxLen /\ SlAt encE 3 W a b off s.es /\
      (∀ y ∈ s.es, wfE y) /\ (Lit.int .i64 s.st).wf = true /\ (Lit.int .i64 s.lb).wf = true /\ (Lit.int .i64 s.s0).wf = true /\ s.es.length <= c /\ c <= maxLen := by
 obtain ⟨v0, v1, v2, v3, y0, y1, y2, y3, n, rfl, _, _, h0, h1, h2, h3⟩ := Go.Joins.open_agg4 Tryz.underlying24 (by kernel_rfl) (by kernel_rfl) hv h
 obtain ⟨a0, e0, _, w0⟩ := DataW.trod_int Tryz.underlying3 h0
 obtain ⟨a1, e1, _, w1⟩ := DataW.trod_int Tryz.underlying3 h1
 obtain ⟨a2, e2, _, w2⟩ := DataW.trod_int Tryz.underlying3 h2
 obtain ⟨a, c, b, off, es, rfl, hl, hS, hw, hc1, hc2⟩ := open_edges h3
 simp at e0 e1 e2
 subst e0 e1 e2
 exact ⟨⟨a0, a1, a2, es⟩, a, c, b, off, rfl, hl, hS, hw, w0, w1, w2, hc1, hc2⟩
end Go.Proofs.YtgikimbafakmcaaGreatDoor
namespace Go.Proofs.YtgikimbafakmcaaGreatDoor
open Go.ChangeShapes Go.WideShapes Go.ChangeAt Go.RowKit Go.Lib
theorem laidVars_subl {P : Program} {w : World} {l' l : List (String × DataW Unit)} (h : l'.Sublist l) : ∀ {ps : List MemPlace}, DataW.LaidVars P w l ps -> ∃ ps', DataW.LaidVars P w l' ps' /\ ps'.Sublist ps := by
 induction h with
 | slnil => intro ps hv; exact ⟨ps, hv, List.Sublist.refl _⟩
 | cons a _ ih => (
 intro ps hv
 obtain ⟨n, d⟩ := a
 obtain ⟨g, t, cs, fuel, p, q, _, _, _, _, hq, rfl⟩ := hv
 obtain ⟨ps', h1, h2⟩ := ih hq
 exact ⟨ps', h1, h2.trans (List.sublist_append_right _ _)⟩)
 | cons_cons a _ ih => (
 intro ps hv
 obtain ⟨n, d⟩ := a
 obtain ⟨g, t, cs, fuel, p, q, h1, h2, h3, h4, hq, rfl⟩ := hv
 obtain ⟨ps', h5, h6⟩ := ih hq
 exact ⟨_, ⟨g, t, cs, fuel, p, ps', h1, h2, h3, h4, h5, rfl⟩, List.Sublist.append (List.Sublist.refl _) h6⟩)
theorem laidMet_subl {P : Program} {w : World} {l' l : List (String × DataW Unit)} (hs : l'.Sublist l) (h : laidMet P l w) : laidMet P l' w := by
 obtain ⟨ps, hv, hnd, hrows⟩ := h
 obtain ⟨ps', h1, h2⟩ := laidVars_subl hs hv
 exact ⟨ps', h1, hnd.sublist h2, fun b off hm => hrows b off (h2.subset hm)⟩
theorem gerr_of {n : String} {g : Nat} {text : List UInt8} {W : World} (h : laidMet Tryz.prog [(n, .iface "*errors.errorString" (.ptr (.agg [.lit (.string text)])))] W)
    (hg : Tryz.prog.globalNamed n = some g) (ht : (Tryz.prog.globals[g]?).map (·.type) = some 46) : ∃ p, GErr g p W := by
 obtain ⟨a, s, hv, hc, _, _⟩ := laid_sentinel (g := g) h hg ht Tryz.underlying46 row_es Tryz.underlying270 Tryz.underlying290 rfl rfl Tryz.underlying9 (by kernel_rfl) (by kernel_rfl)
 have hcell := World.var?_cell (g := g) hg hv 0
 have hcell : W.cell? ⟨g, 0, none⟩ = some (.iface 270 (.pointer (some a))) := by simpa using hcell
 exact ⟨a, World.block_lt_of_cell? _ _ hcell, hcell⟩
theorem et_named : Tryz.prog.globalNamed "errors.errorType" = some 11 := by kernel_rfl
theorem et_rt : (Tryz.prog.cutTypes.find? (·.1 == "internal/reflectlite.rtype")).map (·.2) = some 184 := by kernel_rfl
theorem et_rows : ((List.range 302).filter fun t => Tryz.prog.rowNamed t [101, 114, 114, 111, 114]) = [46] := by kernel_rfl
theorem et_size : Tryz.prog.types.size = 302 := by kernel_rfl
theorem errType_of {W : World} (h : handlesMet Tryz.prog [("errors.errorType", Rows.laid_errors_errorType)] W) : ErrType W := by
 obtain ⟨name, u, ty, e1, e2, e3, e4, e5⟩ := h _ (List.mem_singleton.2 rfl)
 have en : name = [101, 114, 114, 111, 114] := (Option.some.inj e1).symm
 subst en
 obtain rfl := Option.some.inj (et_rt.symm.trans e2)
 have hm : ty ∈ (List.range 302).filter fun t => Tryz.prog.rowNamed t [101, 114, 114, 111, 114] := List.mem_filter.2 ⟨List.mem_range.2 (by rw [<- et_size]; exact e3), e4⟩
 rw [et_rows] at hm
 obtain rfl := List.mem_singleton.1 hm
 have hh : typeHandle Tryz.prog 46 = .pointer (some ⟨20, 46, none⟩) := by kernel_rfl
 rw [hh] at e5
 exact ⟨by simpa using World.var?_cell et_named e5 0⟩
end Go.Proofs.YtgikimbafakmcaaGreatDoor
namespace Go.Proofs.YtgikimbafakmcaaGreatDoor
open Go.RowKit Go.Extern.Stop Go.Stop Go.Extern Pl
theorem is_faultQ_same (pb pc : Nat) (b : Addr) (w : World) (h1 : w.cell? ⟨pb, 3, none⟩ = some (.iface 69 (.pointer (some ⟨pc, 0, none⟩)))) (h2 : w.cell? ⟨pc, 3, none⟩ = some (.iface 270 (.pointer (some b)))) :
    Calls Tryz.prog 75 #[.iface 69 (.pointer (some ⟨pb, 0, none⟩)), .iface 270 (.pointer (some b))] w fun e w' => e = .returned (.bool true) /\ w = w' := by
 obtain ⟨i, hi, hcmp⟩ := Option.map_eq_some_iff.1 isComp
 obtain ⟨j, hj, hjs⟩ := Option.map_eq_some_iff.1 isSize
 have tT := isTypeOf
 have cT := isComparable
 have mR := isMethodComparable
 have nE := noIsE
 have uE := noUnwrapE
 have vE := noUnwrapsE
 have nW := noIsW
 have uW := hasUnwrapW
 have mU := methodUnwrap
 have heq := run_eql_iface_ptr_same (P := Tryz.prog) w b Tryz.underlying46 Tryz.underlying270 hi hcmp hj
 have hty := run_eql_iface_types (P := Tryz.prog) 69 270 (.pointer (some ⟨pb, 0, none⟩)) (.pointer (some b)) Tryz.underlying46 (by decide) w
 have hty2 := run_eql_iface_types (P := Tryz.prog) 69 270 (.pointer (some ⟨pc, 0, none⟩)) (.pointer (some b)) Tryz.underlying46 (by decide) w
 go_enter Tryz.func75, Tryz.ntmps75
 go_wp2
 refine wp_loop_rounds 3 ?_
 rw [rounds_succ]
 go_wp2
 rw [rounds_succ]
 go_wp2
 rw [rounds_succ]
 go_wp2
 go_ret
 exact ⟨rfl, rfl⟩
theorem is_faultQ_other (pb pc : Nat) (b a : Addr) (ca cb : Array Value) (ta tb : TypeId) (w : World) (h1 : w.cell? ⟨pb, 3, none⟩ = some (.iface 69 (.pointer (some ⟨pc, 0, none⟩)))) (h2 : w.cell? ⟨pc, 3, none⟩ = some (.iface 270 (.pointer (some a)))) (hne : a ≠ b) (ha : w.heap[a.block]? = some (.cells ca ta (0, 0))) (hb : w.heap[b.block]? = some (.cells cb tb (0, 0))) :
    Calls Tryz.prog 75 #[.iface 69 (.pointer (some ⟨pb, 0, none⟩)), .iface 270 (.pointer (some b))] w fun e w' => e = .returned (.bool false) /\ w = w' := by
 obtain ⟨i, hi, hcmp⟩ := Option.map_eq_some_iff.1 isComp
 obtain ⟨j, hj, hjs⟩ := Option.map_eq_some_iff.1 isSize
 have tT := isTypeOf
 have cT := isComparable
 have mR := isMethodComparable
 have nE := noIsE
 have uE := noUnwrapE
 have vE := noUnwrapsE
 have nW := noIsW
 have uW := hasUnwrapW
 have mU := methodUnwrap
 have heq := run_eql_iface_ptr_other (P := Tryz.prog) w Tryz.underlying46 Tryz.underlying270 hi hcmp hj (by rw [hjs]; decide) hne ha hb
 have hty := run_eql_iface_types (P := Tryz.prog) 69 270 (.pointer (some ⟨pb, 0, none⟩)) (.pointer (some b)) Tryz.underlying46 (by decide) w
 have hty2 := run_eql_iface_types (P := Tryz.prog) 69 270 (.pointer (some ⟨pc, 0, none⟩)) (.pointer (some b)) Tryz.underlying46 (by decide) w
 go_enter Tryz.func75, Tryz.ntmps75
 go_wp2
 refine wp_loop_rounds 3 ?_
 rw [rounds_succ]
 go_wp2
 rw [rounds_succ]
 go_wp2
 rw [rounds_succ]
 go_wp2
 go_ret
 exact ⟨rfl, rfl⟩
def SentQ (g : Nat) (p : Addr) (w : World) : Prop := ∃ (q : Addr) (c : Array Value) (t : TypeId), GErr g q w /\ q ≠ p /\ w.heap[q.block]? = some (.cells c t (0, 0))
theorem SentQ.below {g : Nat} {p : Addr} {w w' : World} (h : SentQ g p w) (hB : Below w.heap.size w w') : SentQ g p w' := by
 obtain ⟨q, c, t, h1, h2, h3⟩ := h
 exact ⟨q, c, t, h1.below hB, h2, by rw [hB.block _ (Array.getElem?_eq_some_iff.1 h3).1]; exact h3⟩
end Go.Proofs.YtgikimbafakmcaaGreatDoor

/-
  Lemmas.
-/
import Derived.Test.YtjchdegapadepaaGreatDoorGMem
import Derived.Test.YtjchdegapadepaaGreatDoorTauA
import Derived.WalkKit
import Derived.LaidEql
import Derived.Stop.Asserts
import Derived.RowKitTokens
import Derived.Test.YtjchdegapadepaaGreatDoorCards
import Derived.Test.YtjchdegapadepaaGreatDoorTie
import Derived.Test.YtjchdegapadepaaGreatDoorGKit
import Derived.ProofKit
import Derived.OpenShut
import Derived.Deep.DeepHandedRow
import Derived.Deep.DeepWitnessRowRef
import Derived.Lib.LaidIn
import Derived.Stop.LaidErr
import Derived.Lib.SmallJoins
import Derived.LaidHandle
set_option maxHeartbeats 4000000
set_option maxRecDepth 100000
namespace Go.Proofs.YtjchdegapadepaaGreatDoor
open Go.RowKit Go.Extern.Stop Go.Stop Go.Extern Pl
/-! ### CLOSED FACTS ON THE MODEL's ENTRIES FOR internal/reflectlite, at this program's types: 25: *p.E · 27: **p.E · 23: error · 45: reflectlite's rtype · 1: how many package-level variables the dump has -/
theorem x1g (t : Addr) (w : World) : (ReflectliteValue.unpack (.iface 86 (.pointer (some t)))).run Tryz.prog w
    = .ok (.agg #[.pointer (some ⟨23, 86, none⟩), .pointer (some ⟨w.heap.size, 0, none⟩), .int .u64 150]) (w.alloc (.cells #[.pointer (some t)] 86)) := by kernel_rfl
theorem x2o (a : Addr) (w : World) : (ReflectliteValue.methodAny (ReflectliteValue.valueError "reflectlite.Value.Type" 0) (fun t _ _ _ => ReflectliteType.toType t) #[.agg #[.pointer (some ⟨23, 86, none⟩), .pointer (some a), .int .u64 150]]).run Tryz.prog w
    = .ok (.iface 159 (.agg #[.pointer (some ⟨23, 86, none⟩)])) w := by kernel_rfl
theorem k1u (h : Value) (w : World) : (Go.method 379 159 (.agg #[h]) "Kind").run Tryz.prog w = .ok (201, h) w := by kernel_rfl
theorem x2p (w : World) : ((ReflectliteType.abiMethod fun t => (fun a : Nat => Value.int IntKind.u8 (a : Int)) <$> Rtype.kind t) #[.pointer (some ⟨23, 86, none⟩)]).run Tryz.prog w = .ok (.int .u8 22) w := by kernel_rfl
theorem x2q (w : World) : ((ReflectliteType.abiMethod fun t => (fun a : Nat => Value.int IntKind.u8 (a : Int)) <$> Rtype.kind t) #[.pointer (some ⟨23, 48, none⟩)]).run Tryz.prog w = .ok (.int .u8 22) w := by kernel_rfl
/-! ### THE ENTRIES THAT READ OR WRITE MEMORY: laws with a premise on the cell (after Derived/Lib/ReflectliteSlice.lean's manner: each unfolding a lemma of its own, by rfl) -/
theorem rlm (z : Sem Value) (f : TypeId -> Addr -> Nat -> Nat -> Sem Value) (v : Value) :
    ReflectliteValue.method z f #[v] = (do match <- ReflectliteValue.parts v with | none => z | some (t, a, fl) => f t a fl (fl % 32)) := rfl
theorem j1c (a : Addr) (w : World) : (ReflectliteValue.parts (.agg #[.pointer (some ⟨23, 86, none⟩), .pointer (some a), .int .u64 150])).run Tryz.prog w = .ok (some (86, a, 150)) w := by kernel_rfl
theorem j2j (a p : Addr) (W : World) (ha : W.cell? a = some (.pointer (some p))) :
    (ReflectliteValue.method (ReflectliteValue.valueError "reflectlite.Value.IsNil" 0) ReflectliteValue.isNil #[.agg #[.pointer (some ⟨23, 86, none⟩), .pointer (some a), .int .u64 150]]).run Tryz.prog W = .ok (.bool false) W := by
 rw [rlm]
 simp only [Sem.run_bind, j1c, Result.andThen]
 simp [ReflectliteValue.isNil, loadVar, isAgg, underlying, Tryz.underlying86, ha, Result.andThen]
theorem k1v (h : Value) (w : World) : (Go.method 379 159 (.agg #[h]) "Elem").run Tryz.prog w = .ok (213, .agg #[h]) w := by kernel_rfl
theorem x0g (h : Value) (w : World) : (Go.method 379 159 (.agg #[h]) "Implements").run Tryz.prog w = .ok (214, .agg #[h]) w := by kernel_rfl
theorem q0q (h : Value) (w : World) : (Go.method 379 159 (.agg #[h]) "AssignableTo").run Tryz.prog w = .ok (211, .agg #[h]) w := by kernel_rfl
theorem x2r (w : World) : (ReflectliteType.method ReflectliteType.elem #[.agg #[.pointer (some ⟨23, 86, none⟩)]]).run Tryz.prog w = .ok (.iface 159 (.agg #[.pointer (some ⟨23, 48, none⟩)])) w := by kernel_rfl
theorem v0p (w : World) : (ReflectliteType.relation "Implements" ReflectliteType.implements_ #[.agg #[.pointer (some ⟨23, 48, none⟩)], .iface 159 (.agg #[.pointer (some ⟨23, 29, none⟩)])]).run Tryz.prog w = .ok (.bool true) w := by kernel_rfl
theorem y1u (v : Value) (w : World) : (ReflectliteType.typeOf #[.iface 48 v]).run Tryz.prog w = .ok (.iface 159 (.agg #[.pointer (some ⟨23, 48, none⟩)])) w := by kernel_rfl
theorem v0q (w : World) : (ReflectliteType.relation "AssignableTo" ReflectliteType.assignableTo #[.agg #[.pointer (some ⟨23, 48, none⟩)], .iface 159 (.agg #[.pointer (some ⟨23, 48, none⟩)])]).run Tryz.prog w = .ok (.bool true) w := by kernel_rfl
theorem x1h (e : Addr) (w : World) : (ReflectliteValue.unpack (.iface 48 (.pointer (some e)))).run Tryz.prog w
    = .ok (.agg #[.pointer (some ⟨23, 48, none⟩), .pointer (some ⟨w.heap.size, 0, none⟩), .int .u64 150]) (w.alloc (.cells #[.pointer (some e)] 48)) := by kernel_rfl
theorem y1w (w : World) : (Rtype.elem? 86).run Tryz.prog w = .ok (some 48) w := by kernel_rfl
theorem as_mk25 (p : Addr) (w : World) : (ReflectliteValue.mk 48 p ReflectliteValue.flagAddr).run Tryz.prog w = .ok (.agg #[.pointer (some ⟨23, 48, none⟩), .pointer (some p), .int .u64 406]) w := by kernel_rfl
theorem j2k (a p : Addr) (W : World) (ha : W.cell? a = some (.pointer (some p))) :
    (ReflectliteValue.method (ReflectliteValue.valueError "reflectlite.Value.Elem" 0) ReflectliteValue.elem #[.agg #[.pointer (some ⟨23, 86, none⟩), .pointer (some a), .int .u64 150]]).run Tryz.prog W
      = .ok (.agg #[.pointer (some ⟨23, 48, none⟩), .pointer (some p), .int .u64 406]) W := by
 rw [rlm]
 simp only [Sem.run_bind, j1c, Result.andThen]
 simp [ReflectliteValue.elem, loadVar, isAgg, underlying, Tryz.underlying86, ha, Result.andThen, y1w, as_mk25]
theorem rls (v x : Value) : ReflectliteValue.set #[v, x] = (do
    let (some (dst, a, fl), some (src, b, _)) := (<- ReflectliteValue.parts v, <- ReflectliteValue.parts x)
      | unsupported (.noEntry "extern/(internal/reflectlite.Value).Set.zeroValue")
    if fl / ReflectliteValue.flagAddr % 2 == 0 then unsupported (.noEntry "extern/(internal/reflectlite.Value).Set.unaddressable")
    let val <- loadVar src b
    if <- Rtype.directlyAssignable dst src then storeVar dst a val
    else if <- Rtype.implements dst src then
      if (<- Rtype.kind src) == 20 then
        match val with
        | .nilIface => unsupported (.noEntry "extern/reflectlite: a nil value of one interface type handed on as a value of another")
        | _ => storeVar dst a val
      else storeVar dst a (.iface src val)
    else panicString ("reflectlite.Set: value of type " ++ (<- Rtype.spelt src) ++ " is not assignable to type " ++ (<- Rtype.spelt dst))
    pure (.tuple #[])) := rfl
theorem y1v (a : Addr) (w : World) : (ReflectliteValue.parts (.agg #[.pointer (some ⟨23, 48, none⟩), .pointer (some a), .int .u64 406])).run Tryz.prog w = .ok (some (48, a, 406)) w := by kernel_rfl
theorem j2i (a : Addr) (w : World) : (ReflectliteValue.parts (.agg #[.pointer (some ⟨23, 48, none⟩), .pointer (some a), .int .u64 150])).run Tryz.prog w = .ok (some (48, a, 150)) w := by kernel_rfl
theorem y1x (w : World) : (Rtype.directlyAssignable 48 48).run Tryz.prog w = .ok true w := by kernel_rfl
theorem as_set25 (ta b e : Addr) (old : Value) (W : World) (hb : W.cell? b = some (.pointer (some e))) (ht : W.cell? ta = some old) (hf : W.frozen? ta = false) :
    (ReflectliteValue.set #[.agg #[.pointer (some ⟨23, 48, none⟩), .pointer (some ta), .int .u64 406], .agg #[.pointer (some ⟨23, 48, none⟩), .pointer (some b), .int .u64 150]]).run Tryz.prog W
      = .ok (.tuple #[]) (W.setCell ta (.pointer (some e))) := by
 rw [rls]
 simp only [Sem.run_bind, y1v, j2i, Result.andThen]
 simp [ReflectliteValue.flagAddr, loadVar, isAgg, underlying, Tryz.underlying48, hb, Result.andThen, y1x, storeVar, Value.cells, storeCells, Addr.add]
 rw [run_store Tryz.prog W ta _ _ (by rfl)]
 simp [ht, hf]
theorem as_hit (e t : Addr) (old : Value) (w : World) (hg : w.cell? ⟨19, 0, none⟩ = some (.iface 159 (.agg #[.pointer (some ⟨23, 29, none⟩)]))) (ht0 : w.cell? t = some old) (hf0 : w.frozen? t = false) :
    Calls Tryz.prog 48 #[.iface 48 (.pointer (some e)), .iface 86 (.pointer (some t))] w fun ev w' => ev = .returned (.bool true) /\ w' = ((((w.alloc (.cells #[.pointer (some t)] 86)).alloc (.cells #[.pointer (some ⟨23, 86, none⟩), .pointer (some ⟨w.heap.size, 0, none⟩), .int .u64 150] 129)).alloc (.cells #[.pointer (some ⟨23, 86, none⟩), .pointer (some ⟨w.heap.size, 0, none⟩), .int .u64 150] 129)).alloc (.cells #[.pointer (some e)] 48)).setCell t (.pointer (some e)) := by
 have h6 := @run_callFunc_extern Tryz.prog 82 _ (fun args => ReflectliteValue.unpack (args.getD 0 (.tuple #[]))) Tryz.func82 (by kernel_rfl) (by kernel_rfl) (by kernel_rfl) (by kernel_rfl)
 have h7 := @run_callFunc_extern Tryz.prog 83 _ (ReflectliteValue.methodAny (ReflectliteValue.valueError "reflectlite.Value.Type" 0) (fun t _ _ _ => ReflectliteType.toType t)) Tryz.func83 (by kernel_rfl) (by kernel_rfl) (by kernel_rfl) (by kernel_rfl)
 have h8 := @run_callFunc_extern Tryz.prog 84 _ (ReflectliteValue.method (ReflectliteValue.valueError "reflectlite.Value.IsNil" 0) ReflectliteValue.isNil) Tryz.func84 (by kernel_rfl) (by kernel_rfl) (by kernel_rfl) (by kernel_rfl)
 have h27 := @run_callFunc_extern Tryz.prog 201 _ (ReflectliteType.abiMethod fun t => do pure (.int .u8 (<- Rtype.kind t))) Tryz.func201 (by kernel_rfl) (by kernel_rfl) (by kernel_rfl) (by kernel_rfl)
 have h37 := @run_callFunc_extern Tryz.prog 213 _ (ReflectliteType.method ReflectliteType.elem) Tryz.func213 (by kernel_rfl) (by kernel_rfl) (by kernel_rfl) (by kernel_rfl)
 have h38 := @run_callFunc_extern Tryz.prog 214 _ (ReflectliteType.relation "Implements" ReflectliteType.implements_) Tryz.func214 (by kernel_rfl) (by kernel_rfl) (by kernel_rfl) (by kernel_rfl)
 have h10 := @run_callFunc_extern Tryz.prog 78 _ ReflectliteType.typeOf Tryz.func78 (by kernel_rfl) (by kernel_rfl) (by kernel_rfl) (by kernel_rfl)
 have h35 := @run_callFunc_extern Tryz.prog 211 _ (ReflectliteType.relation "AssignableTo" ReflectliteType.assignableTo) Tryz.func211 (by kernel_rfl) (by kernel_rfl) (by kernel_rfl) (by kernel_rfl)
 have h11 := @run_callFunc_extern Tryz.prog 110 _ (ReflectliteValue.method (ReflectliteValue.valueError "reflectlite.Value.Elem" 0) ReflectliteValue.elem) Tryz.func110 (by kernel_rfl) (by kernel_rfl) (by kernel_rfl) (by kernel_rfl)
 have h12 := @run_callFunc_extern Tryz.prog 111 _ ReflectliteValue.set Tryz.func111 (by kernel_rfl) (by kernel_rfl) (by kernel_rfl) (by kernel_rfl)
 have tO := y1u
 have mA := q0q
 have a25 := v0q
 have v25 := x1h
 have f6 := x1g
 have f7 := x2o
 have mK := k1u
 have mE := k1v
 have mI := x0g
 have k27 := x2p
 have k25 := x2q
 have e27 := x2r
 have i25 := v0p
 have n8 := j2j ⟨w.heap.size, 0, none⟩ t ((w.alloc (.cells #[.pointer (some t)] 86)).alloc (.cells #[.pointer (some ⟨23, 86, none⟩), .pointer (some ⟨w.heap.size, 0, none⟩), .int .u64 150] 129)) (by simp)
 have hlt : 19 < w.heap.size := by (
 rcases Nat.lt_or_ge 19 w.heap.size with h | h0
 · exact h
 · simp [World.cell?, Array.getElem?_eq_none h0] at hg)
 have hg2 : ((w.alloc (.cells #[.pointer (some t)] 86)).alloc (.cells #[.pointer (some ⟨23, 86, none⟩), .pointer (some ⟨w.heap.size, 0, none⟩), .int .u64 150] 129)).cell? ⟨19, 0, none⟩ = some (.iface 159 (.agg #[.pointer (some ⟨23, 29, none⟩)])) := by
   rw [World.cell?_alloc_lt _ _ ⟨19, 0, none⟩ (by simp; omega), World.cell?_alloc_lt _ _ ⟨19, 0, none⟩ hlt]; exact hg
 have htl : t.block < w.heap.size := by (
 rcases Nat.lt_or_ge t.block w.heap.size with h | h
 · exact h
 · simp [World.cell?, Array.getElem?_eq_none h] at ht0)
 have el := j2k ⟨w.heap.size, 0, none⟩ t (((w.alloc (.cells #[.pointer (some t)] 86)).alloc (.cells #[.pointer (some ⟨23, 86, none⟩), .pointer (some ⟨w.heap.size, 0, none⟩), .int .u64 150] 129)).alloc (.cells #[.pointer (some ⟨23, 86, none⟩), .pointer (some ⟨w.heap.size, 0, none⟩), .int .u64 150] 129)) (by rw [World.cell?_alloc_lt _ _ ⟨w.heap.size, 0, none⟩ (by simp; omega)]; simp)
 have st := as_set25 t ⟨w.heap.size + 1 + 1 + 1, 0, none⟩ e old ((((w.alloc (.cells #[.pointer (some t)] 86)).alloc (.cells #[.pointer (some ⟨23, 86, none⟩), .pointer (some ⟨w.heap.size, 0, none⟩), .int .u64 150] 129)).alloc (.cells #[.pointer (some ⟨23, 86, none⟩), .pointer (some ⟨w.heap.size, 0, none⟩), .int .u64 150] 129)).alloc (.cells #[.pointer (some e)] 48))
   (by rw [World.cell?_alloc_at _ _ _ _ (by simp)]; rfl)
   (by rw [World.cell?_alloc_lt _ _ t (by simp; omega), World.cell?_alloc_lt _ _ t (by simp; omega), World.cell?_alloc_lt _ _ t (by simp; omega), World.cell?_alloc_lt _ _ t htl]; exact ht0)
   (by rw [World.frozen?_alloc_old _ _ t (by simp; omega), World.frozen?_alloc_old _ _ t (by simp; omega), World.frozen?_alloc_old _ _ t (by simp; omega), World.frozen?_alloc_old _ _ t (Nat.ne_of_lt htl)]; exact hf0)
 go_enter Tryz.func48, Tryz.ntmps48
 go_wp2
 refine wp_loop_rounds 1 ?_
 rw [rounds_succ]
 go_wp2
 go_ret
 exact ⟨rfl, rfl⟩
structure ErrType (w : World) : Prop where
  cell : w.cell? ⟨19, 0, none⟩ = some (.iface 159 (.agg #[.pointer (some ⟨23, 29, none⟩)]))
theorem ErrType.lt {w : World} (h : ErrType w) : 19 < w.heap.size := World.block_lt_of_cell? _ _ h.cell
theorem ErrType.below {w w' : World} (h : ErrType w) (hB : Below w.heap.size w w') : ErrType w' := ⟨by rw [hB.cell (p := ⟨19, 0, none⟩) h.lt]; exact h.cell⟩
theorem y1o (s : ByteArray) (ty : TypeId) (v : Value) (l c : Int) (w : World) : Calls Tryz.prog 49 #[.string s, .iface ty v, .int .i64 l, .int .i64 c] w fun e w' =>
    e = .returned (.iface 48 (.pointer (some ⟨w.heap.size, 0, none⟩))) /\ w' = w.alloc (.cells #[.string s, .int .i64 l, .int .i64 c, .iface ty v] 51) := by
 go_enter Tryz.func49, Tryz.ntmps49
 go_wp2
 go_ret
 exact ⟨rfl, rfl⟩
theorem v0i (s : ByteArray) {w : World} {fb : Nat} {l : ByteArray} {inner : Value} (hT : ErrType w) (hF : w.heap[fb]? = some (.cells #[.string l, .int .i64 0, .int .i64 0, inner] 51 (0, 0))) :
    Calls Tryz.prog 30 #[.string s, .iface 48 (.pointer (some ⟨fb, 0, none⟩))] w fun e w' => ∃ v, e = .returned v /\ FaultAt w' v s (.iface 48 (.pointer (some ⟨fb, 0, none⟩))) /\ Below w.heap.size w w' := by
 have hB0 := (Below.refl w.heap.size w).alloc (Nat.le_refl _) (Obj.cells #[.pointer none] 48)
 have hT0 := hT.below hB0
 have hah := as_hit ⟨fb, 0, none⟩ ⟨w.heap.size, 0, none⟩ (.pointer none) (w.alloc (.cells #[.pointer none] 48)) hT0.cell (by simp) (by simp)
 have hfl : fb < w.heap.size := (Array.getElem?_eq_some_iff.1 hF).1
 have HAH := Lib.hid hah; have HF := Lib.hid hF; have HB0 := Lib.hid hB0
 clear hah hT0 hT hF hB0
 go_enter Tryz.func30, Tryz.ntmps30
 go_wp2_with fail
 refine HAH.out.mono ?_
 rintro e w2 ⟨rfl, hw2⟩
 have hb2 : Below w.heap.size w w2 := by
   rw [hw2]
   exact ((((HB0.out.alloc (by simp) _).alloc (by simp; omega) _).alloc (by simp; omega) _).alloc (by simp; omega) _).setCell (Nat.le_refl _) _
 have hs2 : w.heap.size < w2.heap.size := by rw [hw2]; simp [World.setCell]; omega
 have hc2 : w2.cell? ⟨w.heap.size, 0, none⟩ = some (.pointer (some ⟨fb, 0, none⟩)) := by rw [hw2]; simp [go_sem]
 have hf2 := (hb2.block fb hfl).trans HF.out
 have hfl2 : fb < w2.heap.size := by omega
 have g1 : w2.cell? ⟨fb, 1, none⟩ = some (.int .i64 0) := by simp [World.cell?, hf2]
 have g2 : w2.cell? ⟨fb, 2, none⟩ = some (.int .i64 0) := by simp [World.cell?, hf2]
 have HB2 := Lib.hid hb2
 clear hw2 hb2 hf2 HAH HF HB0 hfl
 obtain ⟨tb, htb⟩ : ∃ tb, tb = w.heap.size := ⟨_, rfl⟩
 rw [<- htb] at hs2 hc2 ⊢
 have HTBB := Lib.hid htb
 clear htb
 go_wp2_with fail
 go_region_held3 (fun W => W.cell? ⟨tb, 0, none⟩ = some (.pointer (some ⟨fb, 0, none⟩)) /\ W.cell? ⟨fb, 1, none⟩ = some (.int .i64 0) /\ W.cell? ⟨fb, 2, none⟩ = some (.int .i64 0)) (go_keep)
   ((go_at_call 49; refine (y1o _ _ _ _ _ _).mono ?_; rintro e w3 ⟨rfl, rfl⟩))
 all_goals (
 go_wp2
 go_ret
 exact ⟨_, rfl, ⟨⟨w2.heap.size, rfl, heap_alloc_new w2.drew _⟩⟩, HB2.out.drew.alloc HB2.out.size _⟩)
end Go.Proofs.YtjchdegapadepaaGreatDoor
namespace Go.Proofs.YtjchdegapadepaaGreatDoor
open Go.ChangeShapes Go.WideShapes Go.ChangeAt Go.RowKit Go.Lib
theorem q1a : ownKnob Tryz.prog.godebug = none := by kernel_rfl
theorem p1w : laidOutB Tryz.prog = true := by kernel_rfl
def sysText : List UInt8 := [97, 32, 115, 121, 115, 116, 101, 109, 32, 116, 104, 97, 116, 32, 105, 115, 32, 110, 111, 110, 101]
noncomputable def laidWorld (os : Os) : World :=
  let N := (World.settled Tryz.prog os).heap.size
  let w0 := World.holding Tryz.prog os ⟨#[.cells #[.string ⟨sysText.toArray⟩] 267], #[], []⟩
  { w0 with heap := w0.heap.modify 10 fun
      | .cells _ t frozen => .cells #[.iface 247 (.pointer (some ⟨N, 0, none⟩))] t frozen
      | o => o }
noncomputable abbrev nBlock : Nat := (World.settled Tryz.prog default).heap.size
theorem k2a : "*" ++ "errors.errorString" = "*errors.errorString" := by decide
theorem row_es (u : TypeId) (h : Tryz.prog.typeName? 3 u = some "*errors.errorString") : u = 247 :=
  typeName_ptr_named (nm := "errors.errorString") (by rw [k2a]; kernel_rfl) (by kernel_rfl) (by decide) u (by rw [k2a]; exact h)
end Go.Proofs.YtjchdegapadepaaGreatDoor
namespace Go.Proofs.YtjchdegapadepaaGreatDoor
open Go.ChangeShapes Go.WideShapes Go.ChangeAt Go.RowKit Go.Lib Go.Deep Pl
theorem cellsInt : Tryz.prog.cellsOf 3 = 1 := by kernel_rfl
theorem x1d : Tryz.prog.cellsOf 42 = 3 := by kernel_rfl
def wfE (x : E) : Prop := (Lit.int .i64 x.1).wf = true /\ (Lit.int .i64 x.2.1).wf = true /\ (Lit.int .i64 x.2.2).wf = true
theorem p2q {H : Type} {enc : TypeId × Value -> H} {W : World} {fuel : Nat} {cs : List Value} {x : DataW H × List MemPlace}
    (h : DataW.trod enc Tryz.prog W 0 (fun _ => true) true fuel 42 cs = some x) : ∃ e : E, cs = encE e /\ wfE e := by
 obtain ⟨y0, y1, y2, n, _, hl, h0, h1, h2⟩ := trod_struct3 Tryz.underlying42 h
 rw [x1d] at hl
 match cs, hl with
 | [c0, c1, c2], _ => (
 simp only [cellsInt] at h0 h1 h2
 obtain ⟨a0, e0, _, w0⟩ := DataW.trod_int Tryz.underlying3 h0
 obtain ⟨a1, e1, _, w1⟩ := DataW.trod_int Tryz.underlying3 h1
 obtain ⟨a2, e2, _, w2⟩ := DataW.trod_int Tryz.underlying3 h2
 simp at e0 e1 e2
 subst e0 e1 e2
 exact ⟨(a0, a1, a2), rfl, w0, w1, w2⟩)
theorem u1i {H : Type} {enc : TypeId × Value -> H} {W : World} {fuel : Nat} {v : Value} {x : DataW H × List MemPlace}
    (h : DataW.trod enc Tryz.prog W 0 (fun _ => true) true fuel 22 [v] = some x) :
    ∃ (a : Option Addr) (c b off : Nat) (es : List E), v = .slice a es.length c /\ es.length <= maxLen /\ SlAt encE 3 W a b off es /\ (∀ y ∈ es, wfE y) /\ es.length <= c /\ c <= maxLen := by
 rcases open_slice Tryz.underlying22 h with ⟨hcs, _⟩ | ⟨ad, len, cap, m, n, D, Pls, hcs, _, hl, hm, hmm, _, hi⟩
 · simp at hcs
   subst hcs
   exact ⟨none, 0, 0, 0, [], rfl, by simp, k0m _ _ _ _, by simp, by simp, by simp⟩
 · (
 simp at hcs
 subst hcs
 simp only [if_true] at hmm
 rw [x1d] at hi
 have hex : ∀ i : Nat, ∃ e : E, i < m -> wfE e /\ ∀ j u, (encE e)[j]? = some u -> W.cell? (ad.add (i * 3 + j)) = some u := by (
 intro i
 by_cases him : i < m
 · (
 obtain ⟨cs', hc, ht⟩ := hi i him
 obtain ⟨e, rfl, hw⟩ := p2q ht
 obtain ⟨_, hcl, hat⟩ := World.cells?_some hc
 refine ⟨e, fun _ => ⟨hw, fun j u hu => ?_⟩⟩
 have hj : j < 3 := by have := (List.getElem?_eq_some_iff.1 hu).1; simpa [encE] using this
 rw [<- Go.Deep.add_add, hat j hj, hu])
 · exact ⟨(0, 0, 0), fun h => absurd h him⟩)
 obtain ⟨f, hf⟩ := Classical.axiomOfChoice hex
 obtain ⟨b, off, spot⟩ := ad
 have hcl : 0 < len -> spot = none /\ b < W.heap.size := by (
 intro h0
 have hc0 := (hf 0 (by omega)).2 0 _ rfl
 have hspot : spot = none := by simpa [Addr.add] using World.cell?_spot hc0
 subst hspot
 exact ⟨rfl, World.block_lt_of_cell? _ _ hc0⟩)
 refine ⟨some ⟨b, off, spot⟩, cap, b, off, (List.range len).map f, by simp, by simp; omega, ⟨fun hp => ?_, fun hp => (hcl (by simpa using hp)).2, fun i y hy j u hu => ?_⟩, ?_, by simp; omega, by omega⟩
 · obtain ⟨rfl, _⟩ := hcl (by simpa using hp); rfl
 · (
 have hil : i < len := by have := (List.getElem?_eq_some_iff.1 hy).1; simpa using this
 obtain ⟨rfl, _⟩ := hcl (by omega)
 have hy' : y = f i := by simp [hil] at hy; exact hy.symm
 subst hy'
 have := (hf i (by omega)).2 j u hu
 rw [Go.WideShapes.add_plain, <- Nat.add_assoc] at this
 exact this)
 · intro y hy
   obtain ⟨i, hi', rfl⟩ := List.mem_map.1 hy
   rw [List.mem_range] at hi'
   exact (hf i (by omega)).1)
theorem open_sys {H : Type} {enc : TypeId × Value -> H} {W : World} {r : Reach} {b0 : Nat} {v : Value} {d : DataW H} {p : List MemPlace}
    (hv : Value.okWide Tryz.prog W r b0 24 v) (h : DataW.Trod enc Tryz.prog W 0 (fun _ => true) true 24 v d p) :
    ∃ (s : Lts) (a : Option Addr) (c b off : Nat), v = .agg #[.int .i64 s.st, .int .i64 s.lb, .int .i64 s.s0, .slice a s.es.length c] /\ s.es.length <= maxLen /\ SlAt encE 3 W a b off s.es /\
      (∀ y ∈ s.es, wfE y) /\ (Lit.int .i64 s.st).wf = true /\ (Lit.int .i64 s.lb).wf = true /\ (Lit.int .i64 s.s0).wf = true /\ s.es.length <= c /\ c <= maxLen := by
 obtain ⟨v0, v1, v2, v3, y0, y1, y2, y3, n, rfl, _, _, h0, h1, h2, h3⟩ := Go.Joins.open_agg4 Tryz.underlying24 (by kernel_rfl) (by kernel_rfl) hv h
 obtain ⟨a0, e0, _, w0⟩ := DataW.trod_int Tryz.underlying3 h0
 obtain ⟨a1, e1, _, w1⟩ := DataW.trod_int Tryz.underlying3 h1
 obtain ⟨a2, e2, _, w2⟩ := DataW.trod_int Tryz.underlying3 h2
 obtain ⟨a, c, b, off, es, rfl, hl, hS, hw, hc1, hc2⟩ := u1i h3
 simp at e0 e1 e2
 subst e0 e1 e2
 exact ⟨⟨a0, a1, a2, es⟩, a, c, b, off, rfl, hl, hS, hw, w0, w1, w2, hc1, hc2⟩
end Go.Proofs.YtjchdegapadepaaGreatDoor
namespace Go.Proofs.YtjchdegapadepaaGreatDoor
open Go.ChangeShapes Go.WideShapes Go.ChangeAt Go.RowKit Go.Lib
theorem k1d {P : Program} {w : World} {l' l : List (String × DataW Unit)} (h : l'.Sublist l) : ∀ {ps : List MemPlace}, DataW.LaidVars P w l ps -> ∃ ps', DataW.LaidVars P w l' ps' /\ ps'.Sublist ps := by
 induction h with
 | slnil => intro ps hv; exact ⟨ps, hv, List.Sublist.refl _⟩
 | cons a _ ih => (
 intro ps hv
 obtain ⟨n, d⟩ := a
 obtain ⟨g, t, cs, fuel, p, q, _, _, _, _, hq, rfl⟩ := hv
 obtain ⟨ps', h1, h2⟩ := ih hq
 exact ⟨ps', h1, h2.trans (List.sublist_append_right _ _)⟩)
 | cons_cons a _ ih => (
 intro ps hv
 obtain ⟨n, d⟩ := a
 obtain ⟨g, t, cs, fuel, p, q, h1, h2, h3, h4, hq, rfl⟩ := hv
 obtain ⟨ps', h5, h6⟩ := ih hq
 exact ⟨_, ⟨g, t, cs, fuel, p, ps', h1, h2, h3, h4, h5, rfl⟩, List.Sublist.append (List.Sublist.refl _) h6⟩)
theorem j0l {P : Program} {w : World} {l' l : List (String × DataW Unit)} (hs : l'.Sublist l) (h : laidMet P l w) : laidMet P l' w := by
 obtain ⟨ps, hv, hnd, hrows⟩ := h
 obtain ⟨ps', h1, h2⟩ := k1d hs hv
 exact ⟨ps', h1, hnd.sublist h2, fun b off hm => hrows b off (h2.subset hm)⟩
theorem gerr_of {n : String} {g : Nat} {text : List UInt8} {W : World} (h : laidMet Tryz.prog [(n, .iface "*errors.errorString" (.ptr (.agg [.lit (.string text)])))] W)
    (hg : Tryz.prog.globalNamed n = some g) (ht : (Tryz.prog.globals[g]?).map (·.type) = some 29) : ∃ p, GErr g p W := by
 obtain ⟨a, s, hv, hc, _, _⟩ := laid_sentinel (g := g) h hg ht Tryz.underlying29 row_es Tryz.underlying247 Tryz.underlying267 rfl rfl Tryz.underlying9 (by kernel_rfl) (by kernel_rfl)
 have hcell := World.var?_cell (g := g) hg hv 0
 have hcell : W.cell? ⟨g, 0, none⟩ = some (.iface 247 (.pointer (some a))) := by simpa using hcell
 exact ⟨a, World.block_lt_of_cell? _ _ hcell, hcell⟩
theorem et_named : Tryz.prog.globalNamed "errors.errorType" = some 19 := by kernel_rfl
theorem et_rt : (Tryz.prog.cutTypes.find? (·.1 == "internal/reflectlite.rtype")).map (·.2) = some 159 := by kernel_rfl
theorem et_rows : ((List.range 279).filter fun t => Tryz.prog.rowNamed t [101, 114, 114, 111, 114]) = [29] := by kernel_rfl
theorem et_size : Tryz.prog.types.size = 279 := by kernel_rfl
theorem u1r {W : World} (h : handlesMet Tryz.prog [("errors.errorType", Rows.laid_errors_errorType)] W) : ErrType W := by
 obtain ⟨name, u, ty, e1, e2, e3, e4, e5⟩ := h _ (List.mem_singleton.2 rfl)
 have en : name = [101, 114, 114, 111, 114] := (Option.some.inj e1).symm
 subst en
 obtain rfl := Option.some.inj (et_rt.symm.trans e2)
 have hm : ty ∈ (List.range 279).filter fun t => Tryz.prog.rowNamed t [101, 114, 114, 111, 114] := List.mem_filter.2 ⟨List.mem_range.2 (by rw [<- et_size]; exact e3), e4⟩
 rw [et_rows] at hm
 obtain rfl := List.mem_singleton.1 hm
 have hh : typeHandle Tryz.prog 29 = .pointer (some ⟨23, 29, none⟩) := by kernel_rfl
 rw [hh] at e5
 exact ⟨by simpa using World.var?_cell et_named e5 0⟩
end Go.Proofs.YtjchdegapadepaaGreatDoor
namespace Go.Proofs.YtjchdegapadepaaGreatDoor
open Go.RowKit Go.Extern.Stop Go.Stop Go.Extern Pl
theorem u0e (pb pc : Nat) (b : Addr) (w : World) (h1 : w.cell? ⟨pb, 3, none⟩ = some (.iface 48 (.pointer (some ⟨pc, 0, none⟩)))) (h2 : w.cell? ⟨pc, 3, none⟩ = some (.iface 247 (.pointer (some b)))) :
    Calls Tryz.prog 39 #[.iface 48 (.pointer (some ⟨pb, 0, none⟩)), .iface 247 (.pointer (some b))] w fun e w' => e = .returned (.bool true) /\ w = w' := by
 obtain ⟨i, hi, hcmp⟩ := Option.map_eq_some_iff.1 isComp
 obtain ⟨j, hj, hjs⟩ := Option.map_eq_some_iff.1 isSize
 have tT := isTypeOf
 have cT := isComparable
 have mR := isMethodComparable
 have nE := noIsE
 have uE := noUnwrapE
 have vE := noUnwrapsE
 have nW := noIsW
 have uW := hasUnwrapW
 have mU := methodUnwrap
 have heq := run_eql_iface_ptr_same (P := Tryz.prog) w b Tryz.underlying29 Tryz.underlying247 hi hcmp hj
 have hty := run_eql_iface_types (P := Tryz.prog) 48 247 (.pointer (some ⟨pb, 0, none⟩)) (.pointer (some b)) Tryz.underlying29 (by decide) w
 have hty2 := run_eql_iface_types (P := Tryz.prog) 48 247 (.pointer (some ⟨pc, 0, none⟩)) (.pointer (some b)) Tryz.underlying29 (by decide) w
 go_enter Tryz.func39, Tryz.ntmps39
 go_wp2
 refine wp_loop_rounds 3 ?_
 rw [rounds_succ]
 go_wp2
 rw [rounds_succ]
 go_wp2
 rw [rounds_succ]
 go_wp2
 go_ret
 exact ⟨rfl, rfl⟩
theorem v0a (pb pc : Nat) (b a : Addr) (ca cb : Array Value) (ta tb : TypeId) (w : World) (h1 : w.cell? ⟨pb, 3, none⟩ = some (.iface 48 (.pointer (some ⟨pc, 0, none⟩)))) (h2 : w.cell? ⟨pc, 3, none⟩ = some (.iface 247 (.pointer (some a)))) (hne : a ≠ b) (ha : w.heap[a.block]? = some (.cells ca ta (0, 0))) (hb : w.heap[b.block]? = some (.cells cb tb (0, 0))) :
    Calls Tryz.prog 39 #[.iface 48 (.pointer (some ⟨pb, 0, none⟩)), .iface 247 (.pointer (some b))] w fun e w' => e = .returned (.bool false) /\ w = w' := by
 obtain ⟨i, hi, hcmp⟩ := Option.map_eq_some_iff.1 isComp
 obtain ⟨j, hj, hjs⟩ := Option.map_eq_some_iff.1 isSize
 have tT := isTypeOf
 have cT := isComparable
 have mR := isMethodComparable
 have nE := noIsE
 have uE := noUnwrapE
 have vE := noUnwrapsE
 have nW := noIsW
 have uW := hasUnwrapW
 have mU := methodUnwrap
 have heq := run_eql_iface_ptr_other (P := Tryz.prog) w Tryz.underlying29 Tryz.underlying247 hi hcmp hj (by rw [hjs]; decide) hne ha hb
 have hty := run_eql_iface_types (P := Tryz.prog) 48 247 (.pointer (some ⟨pb, 0, none⟩)) (.pointer (some b)) Tryz.underlying29 (by decide) w
 have hty2 := run_eql_iface_types (P := Tryz.prog) 48 247 (.pointer (some ⟨pc, 0, none⟩)) (.pointer (some b)) Tryz.underlying29 (by decide) w
 go_enter Tryz.func39, Tryz.ntmps39
 go_wp2
 refine wp_loop_rounds 3 ?_
 rw [rounds_succ]
 go_wp2
 rw [rounds_succ]
 go_wp2
 rw [rounds_succ]
 go_wp2
 go_ret
 exact ⟨rfl, rfl⟩
def SentQ (g : Nat) (p : Addr) (w : World) : Prop := ∃ (q : Addr) (c : Array Value) (t : TypeId), GErr g q w /\ q ≠ p /\ w.heap[q.block]? = some (.cells c t (0, 0))
theorem SentQ.below {g : Nat} {p : Addr} {w w' : World} (h : SentQ g p w) (hB : Below w.heap.size w w') : SentQ g p w' := by
 obtain ⟨q, c, t, h1, h2, h3⟩ := h
 exact ⟨q, c, t, h1.below hB, h2, by rw [hB.block _ (Array.getElem?_eq_some_iff.1 h3).1]; exact h3⟩
end Go.Proofs.YtjchdegapadepaaGreatDoor

/-
  Lemmas.
-/
import Derived.Test.YtbaccmlfnbgehaaGreatDoorGWkQ
import Derived.Test.YtbaccmlfnbgehaaGreatDoorGWkL
import Derived.Test.YtbaccmlfnbgehaaGreatDoorGPl6
import Derived.Shelf.Abstract
import Derived.Test.YtbaccmlfnbgehaaGreatDoorGRws
open List renaming getElem?_eq_some_iff → l0, getElem?_eq_none → l3, ext_getElem? → l5, append_assoc → l6, getElem?_set → l7, flatMap_append → l8, getElem?_take → l9
open Nat renaming le_refl → l4, zero_add → m0
open Go.Proofs.Tryz
namespace Go.Proofs.YtbaccmlfnbgehaaGreatDoor
open Go.RowKit Pl
open Lib (hid)
set_option maxRecDepth 100000 in
set_option maxHeartbeats 4000000 in
theorem z1o {w : World} {p pe : Addr} (hG : WkErr p w) (hGE : GErr 1 pe w) (hT : Tab w) :
    Calls prog 23 #[] w fun e w' => e = .returned (.bool true) /\ Below w.heap.size w w' := by
 have HG := hid hG; have HGE := hid hGE; have HT := hid hT
 clear hG hGE hT
 go_enter func23, ntmps23
 go_wp2_with fail
 have hS : SlAt encE 3 (w.alloc (.cells #[.int .i64 0, .int .i64 0, .int .i64 1, .int .i64 1, .int .i64 1, .int .i64 2, .int .i64 3, .int .i64 1, .int .i64 2] 71)) (some ⟨w.heap.size, 0, none⟩) w.heap.size 0 al13.es := by (
 have h := World.ownsRow_lit (e := 71) (size := 3) (base := w.heap.size) w #[.int .i64 0, .int .i64 0, .int .i64 1, .int .i64 1, .int .i64 1, .int .i64 2, .int .i64 3, .int .i64 1, .int .i64 2] 3 (l4 _) (by unfold maxLen; omega) rfl
 obtain ⟨a, c, b, hv, _, _, hs, _⟩ := j0d (xs := al13.es) k0q h
 simp only [Value.slice.injEq] at hv
 obtain ⟨rfl, _, _⟩ := hv
 have := hs.ad (by decide)
 simp at this
 subst this
 exact hs)
 have hB0 := ((Below.refl w.heap.size w).alloc (l4 _) (.cells #[.int .i64 0, .int .i64 0, .int .i64 1, .int .i64 1, .int .i64 1, .int .i64 2, .int .i64 3, .int .i64 1, .int .i64 2] 71)).alloc (by simp) (.cells #[.int .i64 4, .int .i64 2, .int .i64 0, .slice (some ⟨w.heap.size, 0, none⟩) 3 3] 24)
 have hx0 := k0b (w.alloc (.cells #[.int .i64 0, .int .i64 0, .int .i64 1, .int .i64 1, .int .i64 1, .int .i64 2, .int .i64 3, .int .i64 1, .int .i64 2] 71)) (.cells #[.int .i64 4, .int .i64 2, .int .i64 0, .slice (some ⟨w.heap.size, 0, none⟩) 3 3] 24) (w.heap.size + 1) (by simp)
 have hS1 := hS.alloc (.cells #[.int .i64 4, .int .i64 2, .int .i64 0, .slice (some ⟨w.heap.size, 0, none⟩) 3 3] 24)
 refine (z0o (s := al13) (n := 4) (lb := 2) (c := 3) y0u rfl rfl (by decide) (HG.out.below hB0) (HT.out.below hB0) hS1).mono ?_
 rintro e w1 ⟨cb, C, rfl, hcs, hres, hcb, hB1⟩
 have hx1 := (hB1.block (w.heap.size + 1) (by simp)).trans hx0
 have hB1' := hB0.trans (hB1.mono (by simp; omega))
 have hS2 := hS1.below hB1 (l4 _)
 obtain ⟨hC3, hC2⟩ := v2w p1m (hres.big _ p1m) hres.can
 have HCS := hid hcs; have HB1 := hid hB1'; have HC3 := hid hC3; have HC2 := hid hC2
 have HSA := hid (y0l (s := al13) (n := 4) (lb := 2) (c := 3) y0u rfl rfl (by decide) (HG.out.below hB1') (HGE.out.below hB1') (HT.out.below hB1') hS2)
 obtain ⟨x0, x1, x2, x3, x4⟩ := q0j hx1
 clear hB0 hx0 hS hS1 hx1 hB1 hB1' hS2 hcs hres hC3 hC2 hcb
 go_wp2_with fail
 refine HSA.out.mono ?_
 rintro e w2 ⟨K, hK, hB2, hor⟩
 have h8 := v2v hK
 rcases hor with ⟨_, ve, rfl, hown⟩ | ⟨h9, _⟩
 case inr => omega
 obtain ⟨ta, tc, tb, rfl, _, _, _, _⟩ := j0d k0q hown
 rw [h8]
 have hcs := HCS.out.below hB2 (l4 _)
 have l1 := hcs.ci (j0t C (show 3 < 4 by omega))
 have l2 := hcs.ci (j0t C (show 2 < 4 by omega))
 have ll := hcs.lt (by rw [j0v]; omega)
 rw [HC3.out] at l1; rw [HC2.out] at l2
 simp only [m0] at l1 l2
 have HB2 := hid (HB1.out.trans (hB2.mono HB1.out.size))
 clear hcs hB2 x0 x1 x2 x3 x4 HSA HB1 HCS hown h8 hK
 go_wp2_with fail
 go_ret
 exact ⟨rfl, HB2.out.alloc HB2.out.size _⟩
end Go.Proofs.YtbaccmlfnbgehaaGreatDoor
namespace Go.Proofs.YtbaccmlfnbgehaaGreatDoor
open Go.RowKit
structure Kp (n : Nat) (a b : Act) : Prop where
  size : b.tmps.size = a.tmps.size
  low : ∀ s, s < n -> b.tmps[s]? = a.tmps[s]?
  df : b.defers = a.defers
theorem Kp.refl (n : Nat) (a : Act) : Kp n a a := ⟨rfl, fun _ _ => rfl, rfl⟩
theorem k0e (a : Act) (d : Nat) (v : Value) : (a.put (some d) v).tmps.size = a.tmps.size := by simp [Act.put]
theorem k0f {a : Act} {d : Nat} (h : d < a.tmps.size) (v : Value) : (a.put (some d) v).tmps[d]? = some v := by simp [Act.put, h]
theorem y0y {a : Act} {d s : Nat} (h : d ≠ s) (v : Value) : (a.put (some d) v).tmps[s]? = a.tmps[s]? := by simp [Act.put, Array.getElem?_setIfInBounds_ne h]
theorem Kp.put {n : Nat} {a b : Act} (h : Kp n a b) {d : Nat} (hd : n <= d) (v : Value) : Kp n a (b.put (some d) v) :=
  ⟨by rw [k0e, h.size], fun s hs => by rw [y0y (by omega), h.low s hs], h.df⟩
theorem j0x {a : Act} {s : Nat} {v : Value} (h : a.tmps[s]? = some v) : a.eval (.tmp s) = v := by simp [Act.eval, Array.getD_eq_getD_getElem?, h]
section
variable {P : Program} {ops : Array Oper} {rest : List Oper} {Q : Exit -> Act -> World -> Prop} {a : Act} {w : World} {o : Oper}
theorem p0h {k d : Nat} (hg : o.guard = some (k, true)) (hk : (ops[k]?).bind (·.dst) = some d) (hd : a.tmps[d]? = some (.bool true)) : Region.wanted o (yielded ops a.tmps) = true := by
 simp [Region.wanted, hg, yielded, hk, hd]
theorem k0o (hg : o.guard = none) : Region.wanted o (yielded ops a.tmps) = true := by simp [Region.wanted, hg]
theorem p0f {d : Nat} {v : Value} (hw : Region.wanted o (yielded ops a.tmps) = true) (hd : o.dst = some d) (hr : (execOp a.eval o).run P w = .ok (.value v) w) (h : wpList P ops Q rest (a.put (some d) v) w) : wpList P ops Q (o :: rest) a w := by
 refine wpList_step fun K hK => ?_
 rw [if_pos hw]
 unfold Oper.wp
 rw [hr, Oper.upon_value, hd]
 exact hK _ _ h
theorem j1o {d f : Nat} {args : Array Value} {v : Value} {R : World -> Prop} (hw : Region.wanted o (yielded ops a.tmps) = true) (hd : o.dst = some d) (hr : (execOp a.eval o).run P w = .ok (.enter f args) w) (hc : Calls P f args w fun e w' => e = .returned v /\ R w')
    (h : ∀ w', R w' -> wpList P ops Q rest (a.put (some d) v) w') : wpList P ops Q (o :: rest) a w := by
 refine wpList_step fun K hK => ?_
 rw [if_pos hw]
 unfold Oper.wp
 rw [hr, Oper.upon_enter]
 refine hc.mono fun e w'' hh => ?_
 obtain ⟨rfl, hR⟩ := hh
 rw [hd]
 exact hK _ _ (h _ hR)
theorem run_move {x : Operand} (ho : o.op = .move x) : (execOp a.eval o).run P w = .ok (.value (a.eval x)) w := by simp [execOp, ho]
theorem run_assign {x : Operand} (ho : o.op = .assign x) : (execOp a.eval o).run P w = .ok (.value (a.eval x)) w := by simp [execOp, ho]
theorem k3n (a : Act) (d : Nat) (v : Value) : (a.put (some d) v).defers = a.defers := rfl
theorem z1y {c x y : Operand} (ho : o.op = .pick c x y) (hc : a.eval c = .bool true) : (execOp a.eval o).run P w = .ok (.value (a.eval x)) w := by simp [execOp, ho, hc, asBool]
theorem p1w {x : Operand} (ho : o.op = .nilCheck x) {p : Addr} (hx : a.eval x = .pointer (some p)) : (execOp a.eval o).run P w = .ok (.value (.pointer (some p))) w := by simp [execOp, ho, hx]
theorem j1w {f : Nat} {x : Operand} {t : Array TypeId} (ho : o.op = .call { callee := .value (.func f), args := #[x], argTypes := t }) (he : ∀ args w, (callFunc f args).run P w = .ok (.enter f args) w) : (execOp a.eval o).run P w = .ok (.enter f #[a.eval x]) w := by
 simp [execOp, ho, resolve, Deferred.ofValue, invoke, Act.eval, he]
theorem p3l {c : Code} (h : ∀ a0, a0 = a -> c.wp P Q a0 w) : c.wp P Q a w := h a rfl
theorem k0u {n dp d1 d2 d3 d4 s k f : Nat} {a0 : Act} {gv : Value} {R : World -> Prop} {t : Array TypeId} {o1 o2 o3 o4 : Oper}
    (e1 : o1.op = .move (.tmp dp)) (g1 : o1.guard = none) (t1 : o1.dst = some d1) (e2 : o2.op = .move (.tmp s)) (g2 : o2.guard = some (k, true)) (t2 : o2.dst = some d2)
    (e3 : o3.op = .call { callee := .value (.func f), args := #[.tmp d2], argTypes := t }) (g3 : o3.guard = some (k, true)) (t3 : o3.dst = some d3) (e4 : o4.op = .pick (.tmp d1) (.tmp d3) (.const (.bool false))) (g4 : o4.guard = none) (t4 : o4.dst = some d4)
    (hk : (ops[k]?).bind (·.dst) = some d1) (h1 : n <= d1) (h2 : d1 < d2) (h3 : d2 < d3) (h4 : d3 < d4) (hs : s < n)
    (hK : Kp n a0 a) (hz : d4 < a0.tmps.size) (hp : a.tmps[dp]? = some (.bool true)) (hgv : a0.tmps[s]? = some gv) (he : ∀ args w, (callFunc f args).run P w = .ok (.enter f args) w)
    (hc : Calls P f #[gv] w fun e w' => e = .returned (.bool true) /\ R w')
    (h : ∀ a' w', Kp n a0 a' -> a'.tmps[d4]? = some (.bool true) -> R w' -> wpList P ops Q rest a' w') : wpList P ops Q (o1 :: o2 :: o3 :: o4 :: rest) a w := by
 have z := hK.size
 refine p0f (v := .bool true) (k0o g1) t1 (by rw [run_move e1, j0x hp]) ?_
 have k1 := hK.put h1 (.bool true)
 have q1 : (a.put (some d1) (.bool true)).tmps[d1]? = some (.bool true) := k0f (by omega) _
 refine p0f (v := gv) (p0h g2 hk q1) t2 (by rw [run_move e2, j0x (by rw [k1.low s hs]; exact hgv)]) ?_
 have k2 := k1.put (d := d2) (by omega) gv
 have q2 : ((a.put (some d1) (.bool true)).put (some d2) gv).tmps[d1]? = some (.bool true) := by rw [y0y (by omega)]; exact q1
 have r2 : ((a.put (some d1) (.bool true)).put (some d2) gv).tmps[d2]? = some gv := k0f (by rw [k0e]; omega) _
 refine j1o (v := .bool true) (p0h g3 hk q2) t3 (by rw [j1w e3 he, j0x r2]) hc (fun w' hR => ?_)
 have k3 := k2.put (d := d3) (by omega) (.bool true)
 have q3 : (((a.put (some d1) (.bool true)).put (some d2) gv).put (some d3) (.bool true)).tmps[d1]? = some (.bool true) := by rw [y0y (by omega)]; exact q2
 have r3 : (((a.put (some d1) (.bool true)).put (some d2) gv).put (some d3) (.bool true)).tmps[d3]? = some (.bool true) := k0f (by rw [k0e, k0e]; omega) _
 refine p0f (v := .bool true) (k0o g4) t4 (by rw [z1y e4 (j0x q3), j0x r3]) ?_
 exact h _ _ (k3.put (d := d4) (by omega) _) (k0f (by rw [k0e, k0e, k0e]; omega) _) hR
theorem k0k {n dp d1 d2 d3 d4 d5 d6 d7 s k f bb fld st ft off : Nat} {a0 : Act} {ov : Value} {R : World -> Prop} {t : Array TypeId} {o1 o2 o3 o4 o5 o6 o7 : Oper}
    (e1 : o1.op = .move (.tmp dp)) (g1 : o1.guard = none) (t1 : o1.dst = some d1) (e2 : o2.op = .move (.tmp s)) (g2 : o2.guard = some (k, true)) (t2 : o2.dst = some d2)
    (e3 : o3.op = .nilCheck (.tmp d2)) (g3 : o3.guard = some (k, true)) (t3 : o3.dst = some d3) (e4 : o4.op = .fieldAddr st (.tmp d3) fld) (g4 : o4.guard = some (k, true)) (t4 : o4.dst = some d4)
    (e5 : o5.op = .load ft (.tmp d4)) (g5 : o5.guard = some (k, true)) (t5 : o5.dst = some d5)
    (e6 : o6.op = .call { callee := .value (.func f), args := #[.tmp d5], argTypes := t }) (g6 : o6.guard = some (k, true)) (t6 : o6.dst = some d6) (e7 : o7.op = .pick (.tmp d1) (.tmp d6) (.const (.bool false))) (g7 : o7.guard = none) (t7 : o7.dst = some d7)
    (hk : (ops[k]?).bind (·.dst) = some d1) (h1 : n <= d1) (h2 : d1 < d2) (h3 : d2 < d3) (h4 : d3 < d4) (h5 : d4 < d5) (h6 : d5 < d6) (h7 : d6 < d7) (hs : s < n)
    (hK : Kp n a0 a) (hz : d7 < a0.tmps.size) (hp : a.tmps[dp]? = some (.bool true)) (hgv : a0.tmps[s]? = some (.pointer (some ⟨bb, 0, none⟩))) (he : ∀ args w, (callFunc f args).run P w = .ok (.enter f args) w)
    (hfa : ∀ w, (Instr.fieldAt st (.pointer (some ⟨bb, 0, none⟩)) fld).run P w = .ok (.pointer (some ⟨bb, off, none⟩)) w) (hld : (Instr.loadAt ft (.pointer (some ⟨bb, off, none⟩))).run P w = .ok ov w)
    (hc : Calls P f #[ov] w fun e w' => e = .returned (.bool true) /\ R w')
    (h : ∀ a' w', Kp n a0 a' -> a'.tmps[d7]? = some (.bool true) -> R w' -> wpList P ops Q rest a' w') : wpList P ops Q (o1 :: o2 :: o3 :: o4 :: o5 :: o6 :: o7 :: rest) a w := by
 have z := hK.size
 refine p0f (v := .bool true) (k0o g1) t1 (by rw [run_move e1, j0x hp]) ?_
 have k1 := hK.put h1 (.bool true)
 have q1 : (a.put (some d1) (.bool true)).tmps[d1]? = some (.bool true) := k0f (by omega) _
 have z1 := k0e a d1 (.bool true)
 generalize a.put (some d1) (.bool true) = b1 at *
 refine p0f (v := .pointer (some ⟨bb, 0, none⟩)) (p0h g2 hk q1) t2 (by rw [run_move e2, j0x (by rw [k1.low s hs]; exact hgv)]) ?_
 have k2 := k1.put (d := d2) (by omega) (.pointer (some ⟨bb, 0, none⟩))
 have q2 : (b1.put (some d2) (.pointer (some ⟨bb, 0, none⟩))).tmps[d1]? = some (.bool true) := by rw [y0y (by omega)]; exact q1
 have r2 : (b1.put (some d2) (.pointer (some ⟨bb, 0, none⟩))).tmps[d2]? = some (.pointer (some ⟨bb, 0, none⟩)) := k0f (by omega) _
 have z2 := k0e b1 d2 (.pointer (some ⟨bb, 0, none⟩))
 generalize b1.put (some d2) (.pointer (some ⟨bb, 0, none⟩)) = b2 at *
 refine p0f (v := .pointer (some ⟨bb, 0, none⟩)) (p0h g3 hk q2) t3 (p1w e3 (j0x r2)) ?_
 have k3 := k2.put (d := d3) (by omega) (.pointer (some ⟨bb, 0, none⟩))
 have q3 : (b2.put (some d3) (.pointer (some ⟨bb, 0, none⟩))).tmps[d1]? = some (.bool true) := by rw [y0y (by omega)]; exact q2
 have r3 : (b2.put (some d3) (.pointer (some ⟨bb, 0, none⟩))).tmps[d3]? = some (.pointer (some ⟨bb, 0, none⟩)) := k0f (by omega) _
 have z3 := k0e b2 d3 (.pointer (some ⟨bb, 0, none⟩))
 generalize b2.put (some d3) (.pointer (some ⟨bb, 0, none⟩)) = b3 at *
 refine p0f (v := .pointer (some ⟨bb, off, none⟩)) (p0h g4 hk q3) t4 (by simp [execOp, e4, j0x r3, hfa]) ?_
 have k4 := k3.put (d := d4) (by omega) (.pointer (some ⟨bb, off, none⟩))
 have q4 : (b3.put (some d4) (.pointer (some ⟨bb, off, none⟩))).tmps[d1]? = some (.bool true) := by rw [y0y (by omega)]; exact q3
 have r4 : (b3.put (some d4) (.pointer (some ⟨bb, off, none⟩))).tmps[d4]? = some (.pointer (some ⟨bb, off, none⟩)) := k0f (by omega) _
 have z4 := k0e b3 d4 (.pointer (some ⟨bb, off, none⟩))
 generalize b3.put (some d4) (.pointer (some ⟨bb, off, none⟩)) = b4 at *
 refine p0f (v := ov) (p0h g5 hk q4) t5 (by simp [execOp, e5, j0x r4, hld]) ?_
 have k5 := k4.put (d := d5) (by omega) ov
 have q5 : (b4.put (some d5) ov).tmps[d1]? = some (.bool true) := by rw [y0y (by omega)]; exact q4
 have r5 : (b4.put (some d5) ov).tmps[d5]? = some ov := k0f (by omega) _
 have z5 := k0e b4 d5 ov
 generalize b4.put (some d5) ov = b5 at *
 refine j1o (v := .bool true) (p0h g6 hk q5) t6 (by rw [j1w e6 he, j0x r5]) hc (fun w' hR => ?_)
 have k6 := k5.put (d := d6) (by omega) (.bool true)
 have q6 : (b5.put (some d6) (.bool true)).tmps[d1]? = some (.bool true) := by rw [y0y (by omega)]; exact q5
 have r6 : (b5.put (some d6) (.bool true)).tmps[d6]? = some (.bool true) := k0f (by omega) _
 have z6 := k0e b5 d6 (.bool true)
 generalize b5.put (some d6) (.bool true) = b6 at *
 refine p0f (v := .bool true) (k0o g7) t7 (by rw [z1y e7 (j0x q6), j0x r6]) ?_
 exact h _ _ (k6.put (d := d7) (by omega) _) (k0f (by omega) _) hR
end
end Go.Proofs.YtbaccmlfnbgehaaGreatDoor
namespace Go.Proofs.YtbaccmlfnbgehaaGreatDoor
open Go.RowKit Pl
section
variable {α : Type} {f : Nat -> Nat -> α} {i k n m : Nat}
def mkG (f : Nat -> Nat -> α) (i k n : Nat) : List α := (List.range n).map (fun j => f i (k + j))
theorem j0f : (mkG f i k n).length = n := by simp [mkG]
theorem p0i {j : Nat} (h : j < n) : (mkG f i k n)[j]? = some (f i (k + j)) := by simp [mkG, h]
theorem q2i : mkG f i k n ++ mkG f i (k + n) m = mkG f i k (n + m) := by
 apply l5
 intro j
 by_cases h : j < n
 · rw [List.getElem?_append_left (by rw [j0f]; exact h), p0i h, p0i (by omega)]
 · rw [List.getElem?_append_right (by rw [j0f]; omega), j0f]
   by_cases h2 : j < n + m
   · rw [p0i (by omega), p0i h2, show k + n + (j - n) = k + j by omega]
   · rw [l3 (by rw [j0f]; omega), l3 (by rw [j0f]; omega)]
theorem k0n : mkG f i 0 n ++ mkG f i n m = mkG f i 0 (n + m) := by
 have := q2i (f := f) (i := i) (k := 0) (n := n) (m := m)
 rwa [m0] at this
theorem j3n : mkG f i k 1 = [f i k] := by simp [mkG]
theorem q0d : mkG f i k n ++ [f i (k + n)] = mkG f i k (n + 1) := by rw [<- j3n, q2i]
end
def mI (i k : Nat) : Int := -1000000 * (i : Int) - (k : Int) - 7
def mB (i k : Nat) : Bool := decide ((i + k) % 2 = 0)
theorem k3v (i k j : Nat) : mB i (k + j) = (((i : Int) + ((k : Int) + (j : Int))) % 2 == 0) := by
 unfold mB
 rw [Bool.eq_iff_iff]
 simp only [decide_eq_true_eq, beq_iff_eq]
 omega
def mS (i k : Nat) : S := (-1 - (i : Int), (k : Int))
def mE (i k : Nat) : E := (-1 - (i : Int), (k : Int), 7)
structure Kd where
  T : TypeId
  o : Value
  p : Value
  vs : List Value
  us : List Value
  G : List Rw
def Kd.rs (K : Kd) : List Rw := ⟨K.T, 1, K.o, K.vs.length, K.vs⟩ :: ⟨K.T, 1, K.p, K.us.length, K.us⟩ :: K.G
def bkCells (kds : List Kd) : List Value := kds.flatMap (fun K => [K.o, K.p])
def bkBox (bb : Nat) (kds : List Kd) : Rw := ⟨45, 22, .slice (some ⟨bb, 0, none⟩) 1 1, 1, bkCells kds⟩
def bkRows (bb : Nat) (kds : List Kd) (D : List Rw) : List Rw := bkBox bb kds :: (kds.flatMap Kd.rs ++ D)
def bkX (kds : List Kd) (j : Nat) (D : List Rw) : List Rw := (kds.take j ++ kds.drop (j + 1)).flatMap Kd.rs ++ D
section
variable {kds : List Kd} {K K' : Kd} {j bb : Nat} {D : List Rw}
theorem p3j (h : kds[j]? = some K) : kds = kds.take j ++ K :: kds.drop (j + 1) := by
 obtain ⟨hl, rfl⟩ := l0.1 h
 rw [List.getElem_cons_drop, List.take_append_drop]
theorem k3d : bkX (kds.set j K') j D = bkX kds j D := by
 unfold bkX
 rw [List.take_set_of_le (l4 _), List.drop_set_of_lt (by omega)]
theorem z1h (h : kds[j]? = some K) : (kds.flatMap Kd.rs ++ D).Perm (K.rs ++ bkX kds j D) := by
 unfold bkX
 conv => lhs; rw [p3j h]
 rw [l8, l8, List.flatMap_cons, l6, l6, l6]
 refine (List.perm_append_comm_assoc _ _ _).trans ?_
 exact List.Perm.refl _
theorem x0i (h : kds[j]? = some K) : (bkRows bb kds D).Perm (bkBox bb kds :: (K.rs ++ bkX kds j D)) := (z1h h).cons _
theorem z0b (h : kds[j]? = some K) : (bkRows bb (kds.set j K') D).Perm (bkBox bb (kds.set j K') :: (K'.rs ++ bkX kds j D)) := by
 have hl := (l0.1 h).1
 have := x0i (bb := bb) (D := D) (K := K') (kds := kds.set j K') (j := j) (by simp [hl])
 rw [k3d] at this
 exact this
theorem j0m (h : kds[j]? = some K) : (bkCells kds)[j * 2]? = some K.o /\ (bkCells kds)[j * 2 + 1]? = some K.p :=
  ⟨j0h (enc := fun K : Kd => [K.o, K.p]) (k := 2) (fun _ => rfl) kds j K h 0 _ rfl, j0h (enc := fun K : Kd => [K.o, K.p]) (k := 2) (fun _ => rfl) kds j K h 1 _ rfl⟩
theorem k0p : (bkCells kds).length = kds.length * 2 := j0b (enc := fun K : Kd => [K.o, K.p]) (k := 2) (fun _ => rfl) kds
theorem u0c (h : kds[j]? = some K) : bkCells (kds.set j K') = ((bkCells kds).set (j * 2) K'.o).set (j * 2 + 1) K'.p := by
 have hl := (l0.1 h).1
 apply l5
 intro q
 by_cases hq : q < kds.length * 2
 · (
 obtain ⟨Y, hY⟩ := j0a (xs := kds) (i := q / 2) (by omega)
 have hq2 : q = q / 2 * 2 ∨ q = q / 2 * 2 + 1 := by omega
 have e1 := j0m hY
 rw [l7, l7]
 by_cases e : j = q / 2
 · (
 subst e
 have e2 := j0m (kds := kds.set (q / 2) K') (j := q / 2) (K := K') (by simp [hl])
 rcases hq2 with e3 | e3
 · rw [show (bkCells (kds.set (q / 2) K'))[q]? = some K'.o by rw [e3]; simpa using e2.1]
   rw [if_neg (by omega), if_pos (by omega)]
   simp [k0p]; omega
 · rw [show (bkCells (kds.set (q / 2) K'))[q]? = some K'.p by rw [e3]; have := e2.2; rw [show (q / 2 * 2 + 1) / 2 = q / 2 by omega]; exact this]
   rw [if_pos (by omega)]
   simp [k0p]; omega)
 · have e2 := j0m (kds := kds.set j K') (j := q / 2) (K := Y) (by rw [List.getElem?_set_ne e]; exact hY)
   rw [if_neg (by omega), if_neg (by omega)]
   rcases hq2 with e3 | e3
   · rw [e3, e1.1, e2.1]
   · rw [e3, e1.2, e2.2])
 · rw [l3 (by rw [k0p]; simp; omega), l3 (by simp [k0p]; omega)]
theorem x2q (h : kds[j]? = some K) (ho : K'.o = K.o) (hp : K'.p = K.p) : bkBox bb (kds.set j K') = bkBox bb kds := by
 unfold bkBox
 rw [u0c h, ho, hp]
 obtain ⟨h1, h2⟩ := j0m h
 congr 1
 have set_self : ∀ (l : List Value) (i : Nat) (x : Value), l[i]? = some x -> l.set i x = l := fun l i x h => by (
 apply l5
 intro q
 rw [l7]
 by_cases e : i = q
 · subst e; rw [if_pos rfl, if_pos (l0.1 h).1, h]
 · rw [if_neg e])
 rw [set_self _ _ _ h1, set_self _ _ _ h2]
end
structure Fl {α : Type} (T : TypeId) (k : Nat) (enc : α -> List Value) (r : Rw) : Prop where
  hT : r.T = T
  hk : r.k = k
  hn : r.n <= 2000000
  ex : ∃ ys : List α, r.n = ys.length /\ r.xs = ys.flatMap enc
def Pre (G : List Rw) (k : Nat) (v : Value) (n : Nat) (cs : List Value) : Prop :=
  ∃ r ∈ G, r.k = k /\ ∃ a c c', v = .slice a n c /\ r.v = .slice a r.n c' /\ n <= r.n /\ r.xs.take (n * k) = cs
theorem Pre.mono {G G' : List Rw} {k n : Nat} {v : Value} {cs : List Value} (h : Pre G k v n cs) (hs : ∀ r ∈ G, r ∈ G') : Pre G' k v n cs := by
 obtain ⟨r, hr, x⟩ := h
 exact ⟨r, hs r hr, x⟩
section
variable {w0 w : World} {L : List Rw}
theorem Rws.shape (h : Rws w0 w L) {r : Rw} (hr : r ∈ L) : ∃ a c, r.v = .slice a r.n c /\ (0 < r.n -> ∃ g, a = some ⟨g, 0, none⟩) /\ (a = none ∨ ∃ g, a = some ⟨g, 0, none⟩) /\ r.n <= c /\ c <= maxLen /\ r.xs.length = r.n * r.k := by
 have ho := h.own r hr
 rcases ho.2 with ⟨h1, h2⟩ | ⟨g, c, cur, hv, _, _, hnc, hcm, _⟩
 · exact ⟨none, 0, by rw [h1, h2], fun h => by omega, .inl rfl, by omega, by unfold maxLen; omega, ho.1⟩
 · exact ⟨some ⟨g, 0, none⟩, c, hv, fun _ => ⟨g, rfl⟩, .inr ⟨g, rfl⟩, hnc, hcm, ho.1⟩
theorem Rws.pre {α : Type} {enc : α -> List Value} {k : Nat} (h : Rws w0 w L) {G : List Rw} (hs : ∀ r ∈ G, r ∈ L) (hk : ∀ x, (enc x).length = k) {v : Value} {ys : List α} {n : Nat} (hp : Pre G k v n (ys.flatMap enc)) (hn : n = ys.length) :
    ∃ a c b, v = .slice a ys.length c /\ SlAt enc k w a b 0 ys := by
 subst hn
 obtain ⟨r, hr, rfl, a, c, c', hv, hrv, hle, htk⟩ := hp
 have ho := h.own r (hs r hr)
 rcases ho.2 with ⟨h1, h2⟩ | ⟨g, cap, cur, hv2, _, hg, _, _, _, htake⟩
 · rw [h2] at hle
   have : ys = [] := List.eq_nil_of_length_eq_zero (by omega)
   subst this
   exact ⟨a, c, 0, hv, p0l _ _ _ _⟩
 · (
 rw [hv2] at hrv
 simp only [Value.slice.injEq] at hrv
 obtain ⟨rfl, _, _⟩ := hrv
 refine ⟨_, c, g, hv, fun _ => rfl, fun _ => (Array.getElem?_eq_some_iff.1 hg).1, fun i x hx j u hu => ?_⟩
 rw [cell_of_row w g _ cur r.T (0, 0) hg]
 have h1 := j0h hk ys i x hx j u hu
 rw [<- htk, l9] at h1
 split at h1
 · rw [<- htake, l9] at h1
   split at h1
   · simpa using h1
   · cases h1
 · cases h1)
theorem Pre.self {r : Rw} (h : Rws w0 w L) (hr : r ∈ L) : Pre [r] r.k r.v r.n r.xs := by
 obtain ⟨a, c, hv, _, _, _, _, hl⟩ := h.shape hr
 exact ⟨r, by simp, rfl, a, c, c, hv, hv, l4 _, List.take_of_length_le (by omega)⟩
end
end Go.Proofs.YtbaccmlfnbgehaaGreatDoor

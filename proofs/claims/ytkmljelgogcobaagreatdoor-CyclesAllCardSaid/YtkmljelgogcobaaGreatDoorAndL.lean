/-
  A long closing '&&' of calls in one region, stepped by laws of its own: the state as an abstract one of which a few slots are known.
-/
import Derived.Test.YtkmljelgogcobaaGreatDoorGPl9
import Derived.Shelf.Abstract
namespace Go.Proofs.YtkmljelgogcobaaGreatDoor
open Go.RowKit

/-- The first n slots stand. -/
structure Kp (n : Nat) (a b : Act) : Prop where
  size : b.tmps.size = a.tmps.size
  low : ∀ s, s < n → b.tmps[s]? = a.tmps[s]?
  df : b.defers = a.defers
theorem Kp.refl (n : Nat) (a : Act) : Kp n a a := ⟨rfl, fun _ _ => rfl, rfl⟩
theorem put_size (a : Act) (d : Nat) (v : Value) : (a.put (some d) v).tmps.size = a.tmps.size := by simp [Act.put]
theorem put_same {a : Act} {d : Nat} (h : d < a.tmps.size) (v : Value) : (a.put (some d) v).tmps[d]? = some v := by simp [Act.put, h]
theorem put_ne {a : Act} {d s : Nat} (h : d ≠ s) (v : Value) : (a.put (some d) v).tmps[s]? = a.tmps[s]? := by simp [Act.put, Array.getElem?_setIfInBounds_ne h]
theorem Kp.put {n : Nat} {a b : Act} (h : Kp n a b) {d : Nat} (hd : n ≤ d) (v : Value) : Kp n a (b.put (some d) v) :=
  ⟨by rw [put_size, h.size], fun s hs => by rw [put_ne (by omega), h.low s hs], h.df⟩
theorem eval_tmp {a : Act} {s : Nat} {v : Value} (h : a.tmps[s]? = some v) : a.eval (.tmp s) = v := by simp [Act.eval, Array.getD_eq_getD_getElem?, h]

section
variable {P : Program} {ops : Array Oper} {rest : List Oper} {Q : Exit → Act → World → Prop} {a : Act} {w : World} {o : Oper}
/-- The guard holds. -/
theorem wanted_of {k d : Nat} (hg : o.guard = some (k, true)) (hk : (ops[k]?).bind (·.dst) = some d) (hd : a.tmps[d]? = some (.bool true)) : Region.wanted o (yielded ops a.tmps) = true := by
  simp [Region.wanted, hg, yielded, hk, hd]
theorem wanted_none (hg : o.guard = none) : Region.wanted o (yielded ops a.tmps) = true := by simp [Region.wanted, hg]
theorem wpL_val {d : Nat} {v : Value} (hw : Region.wanted o (yielded ops a.tmps) = true) (hd : o.dst = some d) (hr : (execOp a.eval o).run P w = .ok (.value v) w) (h : wpList P ops Q rest (a.put (some d) v) w) : wpList P ops Q (o :: rest) a w := by
  refine wpList_step fun K hK => ?_
  rw [if_pos hw]
  unfold Oper.wp
  rw [hr, Oper.upon_value, hd]
  exact hK _ _ h
theorem wpL_call {d f : Nat} {args : Array Value} {v : Value} {R : World → Prop} (hw : Region.wanted o (yielded ops a.tmps) = true) (hd : o.dst = some d) (hr : (execOp a.eval o).run P w = .ok (.enter f args) w) (hc : Calls P f args w fun e w' => e = .returned v ∧ R w')
    (h : ∀ w', R w' → wpList P ops Q rest (a.put (some d) v) w') : wpList P ops Q (o :: rest) a w := by
  refine wpList_step fun K hK => ?_
  rw [if_pos hw]
  unfold Oper.wp
  rw [hr, Oper.upon_enter]
  refine hc.mono fun e w'' hh => ?_
  obtain ⟨rfl, hR⟩ := hh
  rw [hd]
  exact hK _ _ (h _ hR)
theorem run_move {x : Operand} (ho : o.op = .move x) : (execOp a.eval o).run P w = .ok (.value (a.eval x)) w := by simp [execOp, ho]
theorem run_assign {x : Operand} (ho : o.op = .assign x) : (execOp a.eval o).run P w = .ok (.value (a.eval x)) w := by simp [execOp, ho]
theorem put_df (a : Act) (d : Nat) (v : Value) : (a.put (some d) v).defers = a.defers := rfl
theorem run_pick {c x y : Operand} (ho : o.op = .pick c x y) (hc : a.eval c = .bool true) : (execOp a.eval o).run P w = .ok (.value (a.eval x)) w := by simp [execOp, ho, hc, asBool]
theorem run_nilCheck {x : Operand} (ho : o.op = .nilCheck x) {p : Addr} (hx : a.eval x = .pointer (some p)) : (execOp a.eval o).run P w = .ok (.value (.pointer (some p))) w := by simp [execOp, ho, hx]
theorem run_call {f : Nat} {x : Operand} {t : Array TypeId} (ho : o.op = .call { callee := .value (.func f), args := #[x], argTypes := t }) (he : ∀ args w, (callFunc f args).run P w = .ok (.enter f args) w) : (execOp a.eval o).run P w = .ok (.enter f #[a.eval x]) w := by
  simp [execOp, ho, resolve, Deferred.ofValue, invoke, Act.eval, he]

theorem at_act {c : Code} (h : ∀ a0, a0 = a → c.wp P Q a0 w) : c.wp P Q a w := h a rfl
/-- '&& f(v)', v in a slot that stands. -/
theorem and_slot {n dp d1 d2 d3 d4 s k f : Nat} {a0 : Act} {gv : Value} {R : World → Prop} {t : Array TypeId} {o1 o2 o3 o4 : Oper}
    (e1 : o1.op = .move (.tmp dp)) (g1 : o1.guard = none) (t1 : o1.dst = some d1) (e2 : o2.op = .move (.tmp s)) (g2 : o2.guard = some (k, true)) (t2 : o2.dst = some d2)
    (e3 : o3.op = .call { callee := .value (.func f), args := #[.tmp d2], argTypes := t }) (g3 : o3.guard = some (k, true)) (t3 : o3.dst = some d3) (e4 : o4.op = .pick (.tmp d1) (.tmp d3) (.const (.bool false))) (g4 : o4.guard = none) (t4 : o4.dst = some d4)
    (hk : (ops[k]?).bind (·.dst) = some d1) (h1 : n ≤ d1) (h2 : d1 < d2) (h3 : d2 < d3) (h4 : d3 < d4) (hs : s < n)
    (hK : Kp n a0 a) (hz : d4 < a0.tmps.size) (hp : a.tmps[dp]? = some (.bool true)) (hgv : a0.tmps[s]? = some gv) (he : ∀ args w, (callFunc f args).run P w = .ok (.enter f args) w)
    (hc : Calls P f #[gv] w fun e w' => e = .returned (.bool true) ∧ R w')
    (h : ∀ a' w', Kp n a0 a' → a'.tmps[d4]? = some (.bool true) → R w' → wpList P ops Q rest a' w') : wpList P ops Q (o1 :: o2 :: o3 :: o4 :: rest) a w := by
  have z := hK.size
  refine wpL_val (v := .bool true) (wanted_none g1) t1 (by rw [run_move e1, eval_tmp hp]) ?_
  have k1 := hK.put h1 (.bool true)
  have q1 : (a.put (some d1) (.bool true)).tmps[d1]? = some (.bool true) := put_same (by omega) _
  refine wpL_val (v := gv) (wanted_of g2 hk q1) t2 (by rw [run_move e2, eval_tmp (by rw [k1.low s hs]; exact hgv)]) ?_
  have k2 := k1.put (d := d2) (by omega) gv
  have q2 : ((a.put (some d1) (.bool true)).put (some d2) gv).tmps[d1]? = some (.bool true) := by rw [put_ne (by omega)]; exact q1
  have r2 : ((a.put (some d1) (.bool true)).put (some d2) gv).tmps[d2]? = some gv := put_same (by rw [put_size]; omega) _
  refine wpL_call (v := .bool true) (wanted_of g3 hk q2) t3 (by rw [run_call e3 he, eval_tmp r2]) hc (fun w' hR => ?_)
  have k3 := k2.put (d := d3) (by omega) (.bool true)
  have q3 : (((a.put (some d1) (.bool true)).put (some d2) gv).put (some d3) (.bool true)).tmps[d1]? = some (.bool true) := by rw [put_ne (by omega)]; exact q2
  have r3 : (((a.put (some d1) (.bool true)).put (some d2) gv).put (some d3) (.bool true)).tmps[d3]? = some (.bool true) := put_same (by rw [put_size, put_size]; omega) _
  refine wpL_val (v := .bool true) (wanted_none g4) t4 (by rw [run_pick e4 (eval_tmp q3), eval_tmp r3]) ?_
  exact h _ _ (k3.put (d := d4) (by omega) _) (put_same (by rw [put_size, put_size, put_size]; omega) _) hR

/-- '&& f(b.x)', b in a slot that stands. -/
theorem and_field {n dp d1 d2 d3 d4 d5 d6 d7 s k f bb fld st ft off : Nat} {a0 : Act} {ov : Value} {R : World → Prop} {t : Array TypeId} {o1 o2 o3 o4 o5 o6 o7 : Oper}
    (e1 : o1.op = .move (.tmp dp)) (g1 : o1.guard = none) (t1 : o1.dst = some d1) (e2 : o2.op = .move (.tmp s)) (g2 : o2.guard = some (k, true)) (t2 : o2.dst = some d2)
    (e3 : o3.op = .nilCheck (.tmp d2)) (g3 : o3.guard = some (k, true)) (t3 : o3.dst = some d3) (e4 : o4.op = .fieldAddr st (.tmp d3) fld) (g4 : o4.guard = some (k, true)) (t4 : o4.dst = some d4)
    (e5 : o5.op = .load ft (.tmp d4)) (g5 : o5.guard = some (k, true)) (t5 : o5.dst = some d5)
    (e6 : o6.op = .call { callee := .value (.func f), args := #[.tmp d5], argTypes := t }) (g6 : o6.guard = some (k, true)) (t6 : o6.dst = some d6) (e7 : o7.op = .pick (.tmp d1) (.tmp d6) (.const (.bool false))) (g7 : o7.guard = none) (t7 : o7.dst = some d7)
    (hk : (ops[k]?).bind (·.dst) = some d1) (h1 : n ≤ d1) (h2 : d1 < d2) (h3 : d2 < d3) (h4 : d3 < d4) (h5 : d4 < d5) (h6 : d5 < d6) (h7 : d6 < d7) (hs : s < n)
    (hK : Kp n a0 a) (hz : d7 < a0.tmps.size) (hp : a.tmps[dp]? = some (.bool true)) (hgv : a0.tmps[s]? = some (.pointer (some ⟨bb, 0, none⟩))) (he : ∀ args w, (callFunc f args).run P w = .ok (.enter f args) w)
    (hfa : ∀ w, (Instr.fieldAt st (.pointer (some ⟨bb, 0, none⟩)) fld).run P w = .ok (.pointer (some ⟨bb, off, none⟩)) w) (hld : (Instr.loadAt ft (.pointer (some ⟨bb, off, none⟩))).run P w = .ok ov w)
    (hc : Calls P f #[ov] w fun e w' => e = .returned (.bool true) ∧ R w')
    (h : ∀ a' w', Kp n a0 a' → a'.tmps[d7]? = some (.bool true) → R w' → wpList P ops Q rest a' w') : wpList P ops Q (o1 :: o2 :: o3 :: o4 :: o5 :: o6 :: o7 :: rest) a w := by
  have z := hK.size
  refine wpL_val (v := .bool true) (wanted_none g1) t1 (by rw [run_move e1, eval_tmp hp]) ?_
  have k1 := hK.put h1 (.bool true)
  have q1 : (a.put (some d1) (.bool true)).tmps[d1]? = some (.bool true) := put_same (by omega) _
  have z1 := put_size a d1 (.bool true)
  generalize a.put (some d1) (.bool true) = b1 at *
  refine wpL_val (v := .pointer (some ⟨bb, 0, none⟩)) (wanted_of g2 hk q1) t2 (by rw [run_move e2, eval_tmp (by rw [k1.low s hs]; exact hgv)]) ?_
  have k2 := k1.put (d := d2) (by omega) (.pointer (some ⟨bb, 0, none⟩))
  have q2 : (b1.put (some d2) (.pointer (some ⟨bb, 0, none⟩))).tmps[d1]? = some (.bool true) := by rw [put_ne (by omega)]; exact q1
  have r2 : (b1.put (some d2) (.pointer (some ⟨bb, 0, none⟩))).tmps[d2]? = some (.pointer (some ⟨bb, 0, none⟩)) := put_same (by omega) _
  have z2 := put_size b1 d2 (.pointer (some ⟨bb, 0, none⟩))
  generalize b1.put (some d2) (.pointer (some ⟨bb, 0, none⟩)) = b2 at *
  refine wpL_val (v := .pointer (some ⟨bb, 0, none⟩)) (wanted_of g3 hk q2) t3 (run_nilCheck e3 (eval_tmp r2)) ?_
  have k3 := k2.put (d := d3) (by omega) (.pointer (some ⟨bb, 0, none⟩))
  have q3 : (b2.put (some d3) (.pointer (some ⟨bb, 0, none⟩))).tmps[d1]? = some (.bool true) := by rw [put_ne (by omega)]; exact q2
  have r3 : (b2.put (some d3) (.pointer (some ⟨bb, 0, none⟩))).tmps[d3]? = some (.pointer (some ⟨bb, 0, none⟩)) := put_same (by omega) _
  have z3 := put_size b2 d3 (.pointer (some ⟨bb, 0, none⟩))
  generalize b2.put (some d3) (.pointer (some ⟨bb, 0, none⟩)) = b3 at *
  refine wpL_val (v := .pointer (some ⟨bb, off, none⟩)) (wanted_of g4 hk q3) t4 (by simp [execOp, e4, eval_tmp r3, hfa]) ?_
  have k4 := k3.put (d := d4) (by omega) (.pointer (some ⟨bb, off, none⟩))
  have q4 : (b3.put (some d4) (.pointer (some ⟨bb, off, none⟩))).tmps[d1]? = some (.bool true) := by rw [put_ne (by omega)]; exact q3
  have r4 : (b3.put (some d4) (.pointer (some ⟨bb, off, none⟩))).tmps[d4]? = some (.pointer (some ⟨bb, off, none⟩)) := put_same (by omega) _
  have z4 := put_size b3 d4 (.pointer (some ⟨bb, off, none⟩))
  generalize b3.put (some d4) (.pointer (some ⟨bb, off, none⟩)) = b4 at *
  refine wpL_val (v := ov) (wanted_of g5 hk q4) t5 (by simp [execOp, e5, eval_tmp r4, hld]) ?_
  have k5 := k4.put (d := d5) (by omega) ov
  have q5 : (b4.put (some d5) ov).tmps[d1]? = some (.bool true) := by rw [put_ne (by omega)]; exact q4
  have r5 : (b4.put (some d5) ov).tmps[d5]? = some ov := put_same (by omega) _
  have z5 := put_size b4 d5 ov
  generalize b4.put (some d5) ov = b5 at *
  refine wpL_call (v := .bool true) (wanted_of g6 hk q5) t6 (by rw [run_call e6 he, eval_tmp r5]) hc (fun w' hR => ?_)
  have k6 := k5.put (d := d6) (by omega) (.bool true)
  have q6 : (b5.put (some d6) (.bool true)).tmps[d1]? = some (.bool true) := by rw [put_ne (by omega)]; exact q5
  have r6 : (b5.put (some d6) (.bool true)).tmps[d6]? = some (.bool true) := put_same (by omega) _
  have z6 := put_size b5 d6 (.bool true)
  generalize b5.put (some d6) (.bool true) = b6 at *
  refine wpL_val (v := .bool true) (wanted_none g7) t7 (by rw [run_pick e7 (eval_tmp q6), eval_tmp r6]) ?_
  exact h _ _ (k6.put (d := d7) (by omega) _) (put_same (by omega) _) hR
end
end Go.Proofs.YtkmljelgogcobaaGreatDoor

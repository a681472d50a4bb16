/-
  Maps that a call makes, keyed by whatever the kit's 'Keyed' serves (ints, strings, structs, arrays), elements of any make: what the map holds is a plain function.
  simul: of a state, by labels, where its steps lead: maps of rows.
-/
import Derived.Maps.OwnSet
import Derived.DeepKeys4
import Derived.Test.YtfakdgljilmpkaaGreatDoorG14
import Derived.Test.YtfakdgljilmpkaaGreatDoorG16
namespace Go.Proofs.YtfakdgljilmpkaaGreatDoor
open Go.RowKit Go.Maps Go.ChangeMaps

/-- How keys are written as values. -/
structure KeyEnc {κ : Type} (P : Program) (k : TypeId) (enck : κ → Value) (ok : κ → Prop) : Prop where
  K : Keyed P k
  key : ∀ x, ok x → ∃ l, keyOf P k (enck x) = some l
  inj : ∀ x y, enck x = enck y → x = y

section
variable {κ ν : Type} [DecidableEq κ] {P : Program} {k : TypeId} {enck : κ → Value} {ok : κ → Prop} {encv : ν → Value} {w w' : World} {b n : Nat} {f : κ → Option ν}

/-- Block b of w is a map of n entries that holds f. -/
structure OMap (w : World) (b : Nat) (enck : κ → Value) (ok : κ → Prop) (encv : ν → Value) (f : κ → Option ν) (n : Nat) : Prop where
  ex : ∃ (l : List (κ × ν)) (es : Array MapEntry) (clock : Nat), w.heap[b]? = some (.map es clock) ∧ es.toList.map (fun e => (e.key, e.val)) = l.map (fun p => (enck p.1, encv p.2)) ∧
    (∀ p ∈ l, ok p.1) ∧ (l.map Prod.fst).Nodup ∧ (∀ x, f x = (l.find? (fun p => decide (p.1 = x))).map Prod.snd) ∧ l.length = n

theorem OMap.made (w : World) : OMap (w.alloc (.map #[] 0)) w.heap.size enck ok encv (fun _ => (none : Option ν)) 0 :=
  ⟨[], #[], 0, (MapKept.heap_alloc w _).1, rfl, by simp, by simp, by simp, rfl⟩
theorem OMap.lt (h : OMap w b enck ok encv f n) : b < w.heap.size := by
  obtain ⟨l, es, clock, hb, _⟩ := h.ex
  exact (Array.getElem?_eq_some_iff.1 hb).1
theorem OMap.of_block (h : OMap w b enck ok encv f n) (hb : w'.heap[b]? = w.heap[b]?) : OMap w' b enck ok encv f n := by
  obtain ⟨l, es, clock, h1, h2⟩ := h.ex
  exact ⟨l, es, clock, hb.trans h1, h2⟩
theorem OMap.congr {g : κ → Option ν} (h : OMap w b enck ok encv f n) (e : ∀ x, f x = g x) : OMap w b enck ok encv g n := by
  have : f = g := funext e
  rw [← this]; exact h
theorem OMap.block (h : OMap w b enck ok encv f n) : ∃ es clock, w.heap[b]? = some (.map es clock) := by
  obtain ⟨l, es, clock, h1, _⟩ := h.ex; exact ⟨es, clock, h1⟩

omit [DecidableEq κ] in
theorem entry_at {l : List (κ × ν)} {es : List MapEntry} (h : es.map (fun e => (e.key, e.val)) = l.map (fun p => (enck p.1, encv p.2))) {j : Nat} {e : MapEntry} (he : es[j]? = some e) :
    ∃ p, l[j]? = some p ∧ e.key = enck p.1 ∧ e.val = encv p.2 := by
  have h1 : (es.map (fun e => (e.key, e.val)))[j]? = some (e.key, e.val) := by rw [List.getElem?_map, he]; rfl
  rw [h, List.getElem?_map] at h1
  obtain ⟨p, hp, h2⟩ := Option.map_eq_some_iff.1 h1
  simp only [Prod.mk.injEq] at h2
  exact ⟨p, hp, h2.1.symm, h2.2.symm⟩

theorem find_at : ∀ {l : List (κ × ν)}, (l.map Prod.fst).Nodup → ∀ {j : Nat} {p : κ × ν}, l[j]? = some p → l.find? (fun q => decide (q.1 = p.1)) = some p
  | [], _, _, _, h => by simp at h
  | q :: l, hn, 0, p, h => by
    simp at h; subst h; simp
  | q :: l, hn, j + 1, p, h => by
    simp at h
    rw [List.map_cons, List.nodup_cons] at hn
    have hne : q.1 ≠ p.1 := fun e => hn.1 (by rw [e]; exact List.mem_map.2 ⟨p, List.mem_of_getElem? h, rfl⟩)
    rw [List.find?_cons_of_neg (by simpa using hne)]
    exact find_at hn.2 h

theorem find_none {l : List (κ × ν)} {x : κ} (h : ∀ p ∈ l, p.1 ≠ x) : l.find? (fun q => decide (q.1 = x)) = none := by
  rw [List.find?_eq_none]; intro p hp; simpa using h p hp

omit [DecidableEq κ] in
/-- What the run of a search finds. -/
theorem OMap.search (E : KeyEnc P k enck ok) {x : κ} (hx : ok x) (w0 : World) {l : List (κ × ν)} {es : List MapEntry} (h : es.map (fun e => (e.key, e.val)) = l.map (fun p => (enck p.1, encv p.2))) (hok : ∀ p ∈ l, ok p.1) :
    ((Instr.findKey k (enck x) es).run P w0 = .ok none w0 ∧ ∀ p ∈ l, p.1 ≠ x) ∨
    ∃ j p e, (Instr.findKey k (enck x) es).run P w0 = .ok (some (j, encv p.2)) w0 ∧ l[j]? = some p ∧ p.1 = x ∧ es[j]? = some e ∧ e.key = enck x := by
  obtain ⟨kl, hkl⟩ := E.key x hx
  have hkeys : ∀ e ∈ es, ∃ l, keyOf P k e.key = some l := fun e he => by
    obtain ⟨j, hj⟩ := List.getElem?_of_mem he
    obtain ⟨p, hp, h1, _⟩ := entry_at h hj
    rw [h1]; exact E.key _ (hok p (List.mem_of_getElem? hp))
  rcases E.K.find w0 hkl es hkeys with ⟨h1, h2⟩ | ⟨j, e, h1, h2, h3⟩
  · refine .inl ⟨h1, fun p hp e => ?_⟩
    obtain ⟨j, hj⟩ := List.getElem?_of_mem hp
    have hl : es.length = l.length := by have := congrArg List.length h; simpa using this
    have hj2 : j < es.length := by rw [hl]; exact (List.getElem?_eq_some_iff.1 hj).1
    obtain ⟨q, hq, h4, _⟩ := entry_at h (List.getElem?_eq_getElem hj2)
    rw [hj] at hq
    cases hq
    exact h2 _ (List.getElem_mem hj2) (by rw [h4, e])
  · obtain ⟨p, hp, h4, h5⟩ := entry_at h h2
    exact .inr ⟨j, p, e, by rw [← h5]; exact h1, hp, E.inj _ _ (by rw [← h4, h3]), h2, h3⟩

/-- 'm[x]', 'v, had := m[x]'. -/
theorem OMap.look {t e : TypeId} (h : OMap w b enck ok encv f n) (E : KeyEnc P k enck ok) (ht : P.underlying t = some (.map k e)) {z : Value} (hz : (zeroValue e).run P w = .ok z w) {x : κ} (hx : ok x) (c : Bool) :
    (Instr.lookup t (.map (some b)) (enck x) c).run P w = .ok (if c then .tuple #[((f x).map encv).getD z, .bool (f x).isSome] else ((f x).map encv).getD z) w := by
  obtain ⟨l, es, clock, hb, hl, hok, hnd, hf, _⟩ := h.ex
  obtain ⟨kl, hkl⟩ := E.key x hx
  rcases OMap.search E hx w hl hok with ⟨h1, h2⟩ | ⟨j, p, e0, h1, h2, h3, h4, h5⟩
  · have hfx : f x = none := by rw [hf, find_none h2]; rfl
    rw [hfx]
    simp [Instr.lookup, run_underlying ht, MapKept.run_getObj_map hb, E.K.check w _ hkl, h1, hz, Result.andThen]
  · have hfx : f x = some p.2 := by rw [hf, ← h3, find_at hnd h2]; rfl
    rw [hfx]
    simp [Instr.lookup, run_underlying ht, MapKept.run_getObj_map hb, E.K.check w _ hkl, h1, Result.andThen]

theorem find_upd : ∀ {l : List (κ × ν)} {j : Nat} {p : κ × ν} (v : ν), (l.map Prod.fst).Nodup → l[j]? = some p → ∀ y, (l.set j (p.1, v)).find? (fun q => decide (q.1 = y)) = if y = p.1 then some (p.1, v) else l.find? (fun q => decide (q.1 = y))
  | [], _, _, _, _, h, _ => by simp at h
  | q :: l, 0, p, v, hn, h, y => by
    simp at h; subst h
    by_cases e : y = q.1
    · subst e; simp
    · rw [if_neg e, List.set_cons_zero, List.find?_cons_of_neg (by simpa using fun e2 => e e2.symm), List.find?_cons_of_neg (by simpa using fun e2 => e e2.symm)]
  | q :: l, j + 1, p, v, hn, h, y => by
    simp at h
    rw [List.map_cons, List.nodup_cons] at hn
    have hne : q.1 ≠ p.1 := fun e => hn.1 (by rw [e]; exact List.mem_map.2 ⟨p, List.mem_of_getElem? h, rfl⟩)
    rw [List.set_cons_succ]
    by_cases e : q.1 = y
    · subst e
      rw [if_neg hne, List.find?_cons_of_pos (by simp), List.find?_cons_of_pos (by simp)]
    · rw [List.find?_cons_of_neg (by simpa using e), List.find?_cons_of_neg (by simpa using e)]
      exact find_upd v hn.2 h y

omit [DecidableEq κ] in
theorem set_fst {l : List (κ × ν)} {j : Nat} {p : κ × ν} (v : ν) (h : l[j]? = some p) : (l.set j (p.1, v)).map Prod.fst = l.map Prod.fst := by
  rw [List.map_set]
  apply List.ext_getElem?
  intro i
  rw [List.getElem?_set]
  split
  · rename_i e
    subst e
    split
    · rw [List.getElem?_map, h]; rfl
    · rename_i h2
      rw [List.getElem?_eq_none (by omega)]
  · rfl

/-- 'm[x] = v'. -/
theorem OMap.put {t e : TypeId} (h : OMap w b enck ok encv f n) (E : KeyEnc P k enck ok) (ht : P.underlying t = some (.map k e)) {x : κ} (hx : ok x) (v : ν) :
    ∃ w', (Instr.mapUpdate t (.map (some b)) (enck x) (encv v)).run P w = .ok () w' ∧ OMap w' b enck ok encv (fun y => if y = x then some v else f y) (if (f x).isSome then n else n + 1) ∧ w.grownBy w' (some b) ∧ (∀ a : Addr, w'.frozen? a = w.frozen? a) ∧ w'.heap.size = w.heap.size := by
  obtain ⟨l, es, clock, hb, hl, hok, hnd, hf, hn⟩ := h.ex
  obtain ⟨kl, hkl⟩ := E.key x hx
  have fz : ∀ es' clock' (a : Addr), (setBlock w b (.map es' clock')).frozen? a = w.frozen? a := by
    intro es' clock' a
    unfold World.frozen?
    by_cases e : a.block = b
    · rw [e, heap_setBlock_same hb _, hb]
    · rw [heap_setBlock_other hb _ e]
  have gr : ∀ es' clock', w.grownBy (setBlock w b (.map es' clock')) (some b) := fun es' clock' =>
    ⟨rfl, rfl, rfl, by simp [setBlock], fun i _ hi => heap_setBlock_other hb _ (fun e => hi (by rw [e]))⟩
  rcases OMap.search E hx w hl hok with ⟨h1, h2⟩ | ⟨j, p, e0, h1, h2, h3, h4, h5⟩
  · have hfx : f x = none := by rw [hf, find_none h2]; rfl
    refine ⟨setBlock w b (.map (es.push ⟨enck x, encv v, clock⟩) (clock + 1)), ?_, ?_, gr _ _, fz _ _, by simp [setBlock]⟩
    · simp [Instr.mapUpdate, run_underlying ht, MapKept.run_getObj_map hb, E.K.check w false hkl, h1, MapKept.run_setObj_map _ hb, Result.andThen, setBlock]
    · rw [hfx]
      refine ⟨l ++ [(x, v)], _, _, heap_setBlock_same hb _, by simp [hl], ?_, ?_, ?_, by simp [hn]⟩
      · intro p hp
        rcases List.mem_append.1 hp with hp | hp
        · exact hok p hp
        · simp at hp; subst hp; exact hx
      · rw [List.map_append, List.nodup_append]
        refine ⟨hnd, by simp, ?_⟩
        intro a ha c hc e
        simp at hc; subst hc; subst e
        obtain ⟨q, hq, rfl⟩ := List.mem_map.1 ha
        exact h2 q hq rfl
      · intro y
        rw [List.find?_append]
        by_cases e : y = x
        · subst e; rw [if_pos rfl, find_none h2]; simp
        · rw [if_neg e, hf]
          have hxy : ¬ x = y := fun e2 => e e2.symm
          have : ([(x, v)] : List (κ × ν)).find? (fun p => decide (p.1 = y)) = none := by simp [hxy]
          rw [this]; simp
  · have hfx : f x = some p.2 := by rw [hf, ← h3, find_at hnd h2]; rfl
    have hj : es[j]? = some e0 := by simpa using h4
    refine ⟨setBlock w b (.map (es.modify j (fun e' => { e' with key := enck x, val := encv v })) clock), ?_, ?_, gr _ _, fz _ _, by simp [setBlock]⟩
    · simp [Instr.mapUpdate, run_underlying ht, MapKept.run_getObj_map hb, E.K.check w false hkl, h1, hj, h5, E.K.stays w hkl, MapKept.run_setObj_map _ hb, Result.andThen, setBlock]
    · rw [hfx]
      refine ⟨l.set j (x, v), _, _, heap_setBlock_same hb _, ?_, ?_, ?_, ?_, by simp [hn]⟩
      · rw [Array.toList_modify, modify_eq_set _ _ _ _ h4, List.map_set, List.map_set, hl]
      · intro q hq
        rcases List.mem_or_eq_of_mem_set hq with hq | rfl
        · exact hok q hq
        · exact hx
      · rw [← h3, set_fst v h2]; exact hnd
      · intro y
        rw [← h3, find_upd v hnd h2]
        by_cases e : y = p.1
        · rw [if_pos e, if_pos e]; rfl
        · rw [if_neg e, if_neg e, hf]

/-- 'len(m)'. -/
theorem OMap.len {t e : TypeId} (h : OMap w b enck ok encv f n) (ht : P.underlying t = some (.map k e)) (ty : TypeId) : (Builtin.len_ #[t] ty #[.map (some b)]).run P w = .ok (.int .i64 n) w := by
  obtain ⟨l, es, clock, hb, hl, _, _, _, hn⟩ := h.ex
  have hs : es.size = n := by
    have := congrArg List.length hl
    simp at this
    omega
  rw [← hs]
  simp [Builtin.len_, run_underlying ht, MapKept.run_getObj_map hb, goInt, Result.andThen]

/-! at the operation, for the walk -/
variable {ops : Array Oper} {rest : List Oper} {o : Oper} {a : Act} {Q : Exit → Act → World → Prop}

theorem wpList_olook_ok (hg : o.guard = none) (m x : Operand) (t : TypeId) (hop : o.op = Op.lookup t m x true) {e : TypeId} (E : KeyEnc P k enck ok) (ht : P.underlying t = some (.map k e)) {z : Value} (hz : (zeroValue e).run P w = .ok z w)
    (hm : a.eval m = .map (some b)) (h : OMap w b enck ok encv f n) (y : κ) (hy : ok y) (hx : a.eval x = enck y)
    (hK : wpList P ops Q rest (a.put o.dst (.tuple #[((f y).map encv).getD z, .bool (f y).isSome])) w) : wpList P ops Q (o :: rest) a w := by
  refine wpList_plain hg fun K' hK' => ?_
  have hrun := h.look E ht hz hy true
  unfold Oper.wp
  simp [execOp, hop, hm, hx, hrun, Result.andThen]
  exact hK' _ _ hK
theorem wpList_olook (hg : o.guard = none) (m x : Operand) (t : TypeId) (hop : o.op = Op.lookup t m x false) {e : TypeId} (E : KeyEnc P k enck ok) (ht : P.underlying t = some (.map k e)) {z : Value} (hz : (zeroValue e).run P w = .ok z w)
    (hm : a.eval m = .map (some b)) (h : OMap w b enck ok encv f n) (y : κ) (hy : ok y) (hx : a.eval x = enck y)
    (hK : wpList P ops Q rest (a.put o.dst (((f y).map encv).getD z)) w) : wpList P ops Q (o :: rest) a w := by
  refine wpList_plain hg fun K' hK' => ?_
  have hrun := h.look E ht hz hy false
  unfold Oper.wp
  simp [execOp, hop, hm, hx, hrun, Result.andThen]
  exact hK' _ _ hK
theorem wpList_oput (hg : o.guard = none) (m x v : Operand) (t : TypeId) (hop : o.op = Op.mapUpdate t m x v) {e : TypeId} (E : KeyEnc P k enck ok) (ht : P.underlying t = some (.map k e))
    (hm : a.eval m = .map (some b)) (h : OMap w b enck ok encv f n) (y : κ) (hy : ok y) (hx : a.eval x = enck y) (u : ν) (hv : a.eval v = encv u)
    (hK : ∀ w', OMap w' b enck ok encv (fun z => if z = y then some u else f z) (if (f y).isSome then n else n + 1) → w.grownBy w' (some b) → (∀ a : Addr, w'.frozen? a = w.frozen? a) → w'.heap.size = w.heap.size → wpList P ops Q rest (a.put o.dst undef) w') : wpList P ops Q (o :: rest) a w := by
  refine wpList_plain hg fun K' hK' => ?_
  obtain ⟨w', hrun, h1, h2, h3, h4⟩ := h.put E ht hy u
  unfold Oper.wp
  simp [execOp, hop, hm, hx, hv, hrun, Result.andThen]
  exact hK' _ _ (hK w' h1 h2 h3 h4)
theorem wpList_olen (hg : o.guard = none) (m : Operand) (t : TypeId) (hop : o.op = Op.call { callee := Callee.builtin Builtin.len, args := #[m], argTypes := #[t] }) {e : TypeId} (ht : P.underlying t = some (.map k e))
    (hm : a.eval m = .map (some b)) (h : OMap w b enck ok encv f n) (hK : wpList P ops Q rest (a.put o.dst (.int .i64 n)) w) : wpList P ops Q (o :: rest) a w := by
  refine wpList_plain hg fun K' hK' => ?_
  unfold Oper.wp
  simp [execOp, hop, resolve, invoke, builtin, hm, h.len ht o.type, Result.andThen]
  exact hK' _ _ hK
end
end Go.Proofs.YtfakdgljilmpkaaGreatDoor

namespace Go.Proofs.YtfakdgljilmpkaaGreatDoor
open Go.RowKit Pl

def encK (x : Int) : Value := .int .i64 x
def okI (x : Int) : Prop := (Lit.int .i64 x).wf = true
theorem encInt : KeyEnc Tryz.prog 3 encK okI where
  K := Go.Maps.int_keyed Tryz.underlying3
  key x h := ⟨_, Go.Maps.keyOf_int_mk Tryz.underlying3 h⟩
  inj x y h := by unfold encK at h; simpa using h
def encP (b : Nat) : Value := .pointer (some ⟨b, 0, none⟩)
theorem zeroPtr (w : World) : (zeroValue 183).run Tryz.prog w = .ok (.pointer none) w := by kernel_rfl

/-- The block of a row of bits that a call boxed. -/
def RowBlk (w : World) (b : Nat) : Prop := ∃ c, w.heap[b]? = some (.cells c 130 (0, 0))
theorem RowBlk.thawed {w : World} {b : Nat} (h : RowBlk w b) (off : Nat) : w.frozen? ⟨b, off, none⟩ = false := by
  obtain ⟨c, h⟩ := h; simp [World.frozen?, h]
theorem RowBlk.of_block {w w' : World} {b : Nat} (h : RowBlk w b) (e : w'.heap[b]? = w.heap[b]?) : RowBlk w' b := by
  obtain ⟨c, h⟩ := h; exact ⟨c, e.trans h⟩
theorem RowBlk.set {w : World} {b : Nat} (h : RowBlk w b) (off : Nat) (v : Value) : RowBlk (w.setCell ⟨b, off, none⟩ v).drew b := by
  obtain ⟨c, h⟩ := h; exact ⟨_, heap_setCell_same w b off c 130 v h⟩
theorem frozen_of_block {w w' : World} {b : Nat} (h : w'.heap[b]? = w.heap[b]?) (off : Nat) : w'.frozen? ⟨b, off, none⟩ = w.frozen? ⟨b, off, none⟩ := by
  unfold World.frozen?; rw [h]

/-- The row of the label l: where the steps of L with that label lead. -/
def rowL (L : List S) (l : Int) (t : Nat) : Bool := decide ((l, (t : Int)) ∈ L)

structure LabMap (w : World) (base mb : Nat) (L : List S) : Prop where
  ex : ∃ (f : Int → Option Nat) (n : Nat), OMap w mb encK okI encP f n ∧ (∀ l b, f l = some b → base ≤ b ∧ b ≠ mb ∧ RowAt w b 0 (rowL L l) ∧ RowBlk w b) ∧
    (∀ l, f l = none → ∀ t, (l, t) ∉ L) ∧ (∀ l l' b, f l = some b → f l' = some b → l = l')
theorem LabMap.lt {w : World} {base mb : Nat} {L : List S} (h : LabMap w base mb L) : mb < w.heap.size := by
  obtain ⟨f, n, hm, _⟩ := h.ex; exact hm.lt
theorem LabMap.made (w : World) (base : Nat) : LabMap (w.alloc (.map #[] 0)) base w.heap.size [] :=
  ⟨fun _ => none, 0, OMap.made w, fun l b h => (by cases h), fun _ _ _ h => (by cases h), fun l l' b h => (by cases h)⟩
/-- Blocks that the map reads stay. -/
theorem LabMap.kept {w w' : World} {base mb : Nat} {L : List S} (h : LabMap w base mb L) (hb : w'.heap[mb]? = w.heap[mb]?) (hr : ∀ b, base ≤ b → b < w.heap.size → RowBlk w b → w'.heap[b]? = w.heap[b]?) : LabMap w' base mb L := by
  obtain ⟨f, n, hm, h1, h2, h3⟩ := h.ex
  refine ⟨f, n, hm.of_block hb, fun l b hl => ?_, h2, h3⟩
  obtain ⟨a1, a2, a3, a4⟩ := h1 l b hl
  have e := hr b a1 a3.lt a4
  exact ⟨a1, a2, a3.of_block e, a4.of_block e⟩
theorem LabMap.call {w w' : World} {base mb : Nat} {L : List S} (h : LabMap w base mb L) (hB : Below w.heap.size w w') : LabMap w' base mb L :=
  h.kept (hB.block _ h.lt) (fun b _ hb _ => hB.block b hb)

theorem zeroRow (w : World) (T : TypeId) : RowAt (w.alloc (.cells #[.int .u64 0, .int .u64 0, .int .u64 0, .int .u64 0, .int .u64 0] T)) w.heap.size 0 (fun _ => false) := fun j hj => by
  rw [wj_none]
  have hj' : j = 0 ∨ j = 1 ∨ j = 2 ∨ j = 3 ∨ j = 4 := by omega
  rcases hj' with rfl | rfl | rfl | rfl | rfl <;> simp [go_sem]

/-- A new row for a label that has none: its block laid (wa), the map told (w1). -/
theorem LabMap.fresh {w w1 : World} {base mb H : Nat} (hH : w.heap.size = H) {L : List S} (h : LabMap w base mb L) {l : Int} (hno : ∀ t, (l, t) ∉ L) (hbase : base ≤ H) {f : Int → Option Nat} {n n' : Nat} (_hf0 : OMap w mb encK okI encP f n) (_hfl : f l = none)
    (h1 : ∀ l b, f l = some b → base ≤ b ∧ b ≠ mb ∧ RowAt w b 0 (rowL L l) ∧ RowBlk w b) (h2 : ∀ l, f l = none → ∀ t, (l, t) ∉ L) (h3 : ∀ l l' b, f l = some b → f l' = some b → l = l')
    (hm : OMap w1 mb encK okI encP (fun z => if z = l then some H else f z) n') (hg : (w.alloc (.cells #[.int .u64 0, .int .u64 0, .int .u64 0, .int .u64 0, .int .u64 0] 130)).grownBy w1 (some mb)) :
    RowAt w1 H 0 (rowL L l) ∧ RowBlk w1 H ∧ (∀ l' b, (fun z => if z = l then some H else f z) l' = some b → base ≤ b ∧ b ≠ mb ∧ RowAt w1 b 0 (rowL L l') ∧ RowBlk w1 b) ∧
      (∀ l', (fun z => if z = l then some H else f z) l' = none → ∀ t, (l', t) ∉ L) ∧ (∀ l1 l2 b, (fun z => if z = l then some H else f z) l1 = some b → (fun z => if z = l then some H else f z) l2 = some b → l1 = l2) := by
  subst hH
  have hmw := h.lt
  have hblk : ∀ b, b < w.heap.size + 1 → b ≠ mb → w1.heap[b]? = (w.alloc (.cells #[.int .u64 0, .int .u64 0, .int .u64 0, .int .u64 0, .int .u64 0] 130)).heap[b]? := fun b hb hne => hg.block b (by simp; omega) (fun e => hne (Option.some.inj e))
  have hnew := hblk w.heap.size (by omega) (by omega)
  have hold : ∀ b, b < w.heap.size → b ≠ mb → w1.heap[b]? = w.heap[b]? := fun b hb hne => (hblk b (by omega) hne).trans (Below.heap_alloc w _ b hb)
  have hrow : RowAt w1 w.heap.size 0 (rowL L l) := by
    have e : rowL L l = fun _ => false := funext fun t => by unfold rowL; simp [hno]
    rw [e]; exact (zeroRow w _).of_block hnew
  have hfr : RowBlk w1 w.heap.size := ⟨_, hnew.trans (heap_alloc_new w _)⟩
  refine ⟨hrow, hfr, fun l' b hl' => ?_, fun l' hl' => ?_, fun l1 l2 b e1 e2 => ?_⟩
  · by_cases e : l' = l
    · subst e
      simp at hl'
      subst hl'
      exact ⟨hbase, by omega, hrow, hfr⟩
    · simp only [if_neg e] at hl'
      obtain ⟨a1, a2, a3, a4⟩ := h1 l' b hl'
      have eb := hold b a3.lt a2
      exact ⟨a1, a2, a3.of_block eb, a4.of_block eb⟩
  · by_cases e : l' = l
    · subst e; exact hno
    · simp only [if_neg e] at hl'
      exact h2 l' hl'
  · have key : ∀ l' b, f l' = some b → b < w.heap.size := fun l' b h => (h1 l' b h).2.2.1.lt
    by_cases c1 : l1 = l <;> by_cases c2 : l2 = l
    · rw [c1, c2]
    · simp only [if_pos c1, if_neg c2, Option.some.injEq] at e1 e2
      have := key l2 b e2; omega
    · simp only [if_neg c1, if_pos c2, Option.some.injEq] at e1 e2
      have := key l1 b e1; omega
    · simp only [if_neg c1, if_neg c2] at e1 e2
      exact h3 l1 l2 b e1 e2

/-- A step noted in its label's row. -/
theorem LabMap.noted {w : World} {base mb : Nat} {L : List S} {l : Int} {t : Nat} {f : Int → Option Nat} {n : Nat} {b : Nat} (hm : OMap w mb encK okI encP f n) (hfl : f l = some b)
    (h1 : ∀ l b, f l = some b → base ≤ b ∧ b ≠ mb ∧ RowAt w b 0 (rowL L l) ∧ RowBlk w b) (h2 : ∀ l, f l = none → ∀ t, (l, t) ∉ L) (h3 : ∀ l l' b, f l = some b → f l' = some b → l = l') :
    LabMap (w.setCell ⟨b, 0 + t / 64, none⟩ (.int .u64 (wj (putF (rowL L l) t) (t / 64) : Nat))).drew base mb (L ++ [(l, (t : Int))]) := by
  obtain ⟨a1, a2, a3, a4⟩ := h1 l b hfl
  have hset : ∀ b', b' ≠ b → (w.setCell ⟨b, 0 + t / 64, none⟩ (.int .u64 (wj (putF (rowL L l) t) (t / 64) : Nat))).drew.heap[b']? = w.heap[b']? := fun b' hne => Below.heap_setCell _ _ _ _ hne
  refine ⟨f, n, hm.of_block (hset mb (Ne.symm a2)), fun l' b' hl' => ?_, fun l' hl' t' => ?_, h3⟩
  · by_cases e : l' = l
    · subst e
      rw [hfl] at hl'
      simp only [Option.some.injEq] at hl'
      subst hl'
      refine ⟨a1, a2, fun j hj => ?_, a4.set _ _⟩
      · have hF : wj (rowL (L ++ [(l', (t : Int))]) l') j = wj (putF (rowL L l') t) j := wj_ext (fun k _ => by
          unfold putF rowL
          rw [Bool.eq_iff_iff]
          simp only [decide_eq_true_eq, Bool.or_eq_true, List.mem_append, List.mem_singleton, Prod.mk.injEq, true_and]
          constructor
          · rintro (h | h)
            · exact .inl h
            · exact .inr (by omega)
          · rintro (h | h)
            · exact .inl h
            · exact .inr (by omega))
        rw [hF]
        by_cases ej : j = t / 64
        · subst ej
          exact World.cell?_setCell_same _ _ _ (a3 (t / 64) hj)
        · rw [wj_put_ne _ ej]
          exact (World.cell?_setCell_other _ _ _ _ (by intro h; simp at h <;> omega)).trans (a3 j hj)
    · obtain ⟨c1, c2, c3, c4⟩ := h1 l' b' hl'
      have hne : b' ≠ b := fun e2 => e (h3 l' l b (by rw [← e2]; exact hl') hfl)
      have hF : ∀ j, wj (rowL (L ++ [(l, (t : Int))]) l') j = wj (rowL L l') j := fun j => wj_ext (fun k _ => by
        unfold rowL
        simp [e])
      refine ⟨c1, c2, fun j hj => ?_, c4.of_block (hset b' hne)⟩
      rw [hF]; exact (c3.of_block (hset b' hne)) j hj
  · intro hmem
    rcases List.mem_append.1 hmem with h | h
    · exact h2 l' hl' t' h
    · simp at h
      rw [h.1, hfl] at hl'; cases hl'
end Go.Proofs.YtfakdgljilmpkaaGreatDoor

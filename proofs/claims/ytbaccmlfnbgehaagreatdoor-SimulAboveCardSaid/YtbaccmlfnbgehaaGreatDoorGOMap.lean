/-
  Lemmas.
-/
import Derived.Maps.OwnSet
import Derived.DeepKeys4
import Derived.Test.YtbaccmlfnbgehaaGreatDoorGKit
import Derived.Lib.SmallJoins
import Derived.MapViews
import Derived.Test.YtbaccmlfnbgehaaGreatDoorGRws
import Derived.Test.YtbaccmlfnbgehaaGreatDoorGRefRight
import Derived.Test.YtbaccmlfnbgehaaGreatDoorGPl4
import Derived.Test.YtbaccmlfnbgehaaGreatDoorGBrP
import Derived.Test.YtbaccmlfnbgehaaGreatDoorGPlB
import Derived.Test.YtbaccmlfnbgehaaGreatDoorGRwsB
import Derived.Test.YtbaccmlfnbgehaaGreatDoorGLaidErr
import Derived.Laws.BitsAllLaws
import Derived.IntWalk
import Derived.BigRegion
import Derived.Deep.QuietTactic
import Derived.BigQuiet
import Derived.Outline
import Derived.Deep.Cut
namespace Go.Proofs.YtbaccmlfnbgehaaGreatDoor
open Go.RowKit Go.Maps Go.ChangeMaps
structure KeyEnc {κ : Type} (P : Program) (k : TypeId) (enck : κ → Value) (ok : κ → Prop) : Prop where
  K : Keyed P k
  key : ∀ x, ok x → ∃ l, keyOf P k (enck x) = some l
  inj : ∀ x y, enck x = enck y → x = y
section
variable {κ ν : Type} [DecidableEq κ] {P : Program} {k : TypeId} {enck : κ → Value} {ok : κ → Prop} {encv : ν → Value} {w w' : World} {b n : Nat} {f : κ → Option ν}
structure OMap (w : World) (b : Nat) (enck : κ → Value) (ok : κ → Prop) (encv : ν → Value) (f : κ → Option ν) (n : Nat) : Prop where
  ex : ∃ (l : List (κ × ν)) (es : Array MapEntry) (clock : Nat), w.heap[b]? = some (.map es clock) ∧ es.toList.map (fun e => (e.key, e.val)) = l.map (fun p => (enck p.1, encv p.2)) ∧
    (∀ p ∈ l, ok p.1) ∧ (l.map Prod.fst).Nodup ∧ (∀ x, f x = (l.find? (fun p => decide (p.1 = x))).map Prod.snd) ∧ l.length = n
theorem OMap.made (w : World) : OMap (w.alloc (.map #[] 0)) w.heap.size enck ok encv (fun _ => (none : Option ν)) 0 :=
  ⟨[], #[], 0, (MapKept.heap_alloc w _).1, rfl, by simp, by simp, by simp, rfl⟩
theorem OMap.lt (h : OMap w b enck ok encv f n) : b < w.heap.size := by
  obtain ⟨l, es, clock, hb, _⟩ := h.ex
  exact (Array.getElem?_eq_some_iff.1 hb).1
theorem OMap.of_block (h : OMap w b enck ok encv f n) (hb : w'.heap[b]? = w.heap[b]?) : OMap w' b enck ok encv f n := by
  obtain ⟨l, es, clock, h1, h2⟩ := h.ex
  exact ⟨l, es, clock, hb.trans h1, h2⟩
theorem OMap.congr {g : κ → Option ν} (h : OMap w b enck ok encv f n) (e : ∀ x, f x = g x) : OMap w b enck ok encv g n := by
  have : f = g := funext e
  rw [← this]; exact h
theorem OMap.block (h : OMap w b enck ok encv f n) : ∃ es clock, w.heap[b]? = some (.map es clock) := by
  obtain ⟨l, es, clock, h1, _⟩ := h.ex; exact ⟨es, clock, h1⟩
omit [DecidableEq κ] in
theorem entry_at {l : List (κ × ν)} {es : List MapEntry} (h : es.map (fun e => (e.key, e.val)) = l.map (fun p => (enck p.1, encv p.2))) {j : Nat} {e : MapEntry} (he : es[j]? = some e) :
    ∃ p, l[j]? = some p ∧ e.key = enck p.1 ∧ e.val = encv p.2 := by
  have h1 : (es.map (fun e => (e.key, e.val)))[j]? = some (e.key, e.val) := by rw [List.getElem?_map, he]; rfl
  rw [h, List.getElem?_map] at h1
  obtain ⟨p, hp, h2⟩ := Option.map_eq_some_iff.1 h1
  simp only [Prod.mk.injEq] at h2
  exact ⟨p, hp, h2.1.symm, h2.2.symm⟩
theorem find_at : ∀ {l : List (κ × ν)}, (l.map Prod.fst).Nodup → ∀ {j : Nat} {p : κ × ν}, l[j]? = some p → l.find? (fun q => decide (q.1 = p.1)) = some p
  | [], _, _, _, h => by simp at h
  | q :: l, hn, 0, p, h => by
    simp at h; subst h; simp
  | q :: l, hn, j + 1, p, h => by
    simp at h
    rw [List.map_cons, List.nodup_cons] at hn
    have hne : q.1 ≠ p.1 := fun e => hn.1 (by rw [e]; exact List.mem_map.2 ⟨p, List.mem_of_getElem? h, rfl⟩)
    rw [List.find?_cons_of_neg (by simpa using hne)]
    exact find_at hn.2 h
theorem find_none {l : List (κ × ν)} {x : κ} (h : ∀ p ∈ l, p.1 ≠ x) : l.find? (fun q => decide (q.1 = x)) = none := by
  rw [List.find?_eq_none]; intro p hp; simpa using h p hp
omit [DecidableEq κ] in
theorem OMap.search (E : KeyEnc P k enck ok) {x : κ} (hx : ok x) (w0 : World) {l : List (κ × ν)} {es : List MapEntry} (h : es.map (fun e => (e.key, e.val)) = l.map (fun p => (enck p.1, encv p.2))) (hok : ∀ p ∈ l, ok p.1) :
    ((Instr.findKey k (enck x) es).run P w0 = .ok none w0 ∧ ∀ p ∈ l, p.1 ≠ x) ∨
    ∃ j p e, (Instr.findKey k (enck x) es).run P w0 = .ok (some (j, encv p.2)) w0 ∧ l[j]? = some p ∧ p.1 = x ∧ es[j]? = some e ∧ e.key = enck x := by
  obtain ⟨kl, hkl⟩ := E.key x hx
  have hkeys : ∀ e ∈ es, ∃ l, keyOf P k e.key = some l := fun e he => by
    obtain ⟨j, hj⟩ := List.getElem?_of_mem he
    obtain ⟨p, hp, h1, _⟩ := entry_at h hj
    rw [h1]; exact E.key _ (hok p (List.mem_of_getElem? hp))
  rcases E.K.find w0 hkl es hkeys with ⟨h1, h2⟩ | ⟨j, e, h1, h2, h3⟩
  · refine .inl ⟨h1, fun p hp e => ?_⟩
    obtain ⟨j, hj⟩ := List.getElem?_of_mem hp
    have hl : es.length = l.length := by have := congrArg List.length h; simpa using this
    have hj2 : j < es.length := by rw [hl]; exact (List.getElem?_eq_some_iff.1 hj).1
    obtain ⟨q, hq, h4, _⟩ := entry_at h (List.getElem?_eq_getElem hj2)
    rw [hj] at hq
    cases hq
    exact h2 _ (List.getElem_mem hj2) (by rw [h4, e])
  · obtain ⟨p, hp, h4, h5⟩ := entry_at h h2
    exact .inr ⟨j, p, e, by rw [← h5]; exact h1, hp, E.inj _ _ (by rw [← h4, h3]), h2, h3⟩
theorem OMap.look {t e : TypeId} (h : OMap w b enck ok encv f n) (E : KeyEnc P k enck ok) (ht : P.underlying t = some (.map k e)) {z : Value} (hz : (zeroValue e).run P w = .ok z w) {x : κ} (hx : ok x) (c : Bool) :
    (Instr.lookup t (.map (some b)) (enck x) c).run P w = .ok (if c then .tuple #[((f x).map encv).getD z, .bool (f x).isSome] else ((f x).map encv).getD z) w := by
  obtain ⟨l, es, clock, hb, hl, hok, hnd, hf, _⟩ := h.ex
  obtain ⟨kl, hkl⟩ := E.key x hx
  rcases OMap.search E hx w hl hok with ⟨h1, h2⟩ | ⟨j, p, e0, h1, h2, h3, h4, h5⟩
  · have hfx : f x = none := by rw [hf, find_none h2]; rfl
    rw [hfx]
    simp [Instr.lookup, run_underlying ht, MapKept.run_getObj_map hb, E.K.check w _ hkl, h1, hz, Result.andThen]
  · have hfx : f x = some p.2 := by rw [hf, ← h3, find_at hnd h2]; rfl
    rw [hfx]
    simp [Instr.lookup, run_underlying ht, MapKept.run_getObj_map hb, E.K.check w _ hkl, h1, Result.andThen]
theorem find_upd : ∀ {l : List (κ × ν)} {j : Nat} {p : κ × ν} (v : ν), (l.map Prod.fst).Nodup → l[j]? = some p → ∀ y, (l.set j (p.1, v)).find? (fun q => decide (q.1 = y)) = if y = p.1 then some (p.1, v) else l.find? (fun q => decide (q.1 = y))
  | [], _, _, _, _, h, _ => by simp at h
  | q :: l, 0, p, v, hn, h, y => by
    simp at h; subst h
    by_cases e : y = q.1
    · subst e; simp
    · rw [if_neg e, List.set_cons_zero, List.find?_cons_of_neg (by simpa using fun e2 => e e2.symm), List.find?_cons_of_neg (by simpa using fun e2 => e e2.symm)]
  | q :: l, j + 1, p, v, hn, h, y => by
    simp at h
    rw [List.map_cons, List.nodup_cons] at hn
    have hne : q.1 ≠ p.1 := fun e => hn.1 (by rw [e]; exact List.mem_map.2 ⟨p, List.mem_of_getElem? h, rfl⟩)
    rw [List.set_cons_succ]
    by_cases e : q.1 = y
    · subst e
      rw [if_neg hne, List.find?_cons_of_pos (by simp), List.find?_cons_of_pos (by simp)]
    · rw [List.find?_cons_of_neg (by simpa using e), List.find?_cons_of_neg (by simpa using e)]
      exact find_upd v hn.2 h y
omit [DecidableEq κ] in
theorem set_fst {l : List (κ × ν)} {j : Nat} {p : κ × ν} (v : ν) (h : l[j]? = some p) : (l.set j (p.1, v)).map Prod.fst = l.map Prod.fst := by
  rw [List.map_set]
  apply List.ext_getElem?
  intro i
  rw [List.getElem?_set]
  split
  · rename_i e
    subst e
    split
    · rw [List.getElem?_map, h]; rfl
    · rename_i h2
      rw [List.getElem?_eq_none (by omega)]
  · rfl
theorem OMap.put {t e : TypeId} (h : OMap w b enck ok encv f n) (E : KeyEnc P k enck ok) (ht : P.underlying t = some (.map k e)) {x : κ} (hx : ok x) (v : ν) :
    ∃ w', (Instr.mapUpdate t (.map (some b)) (enck x) (encv v)).run P w = .ok () w' ∧ OMap w' b enck ok encv (fun y => if y = x then some v else f y) (if (f x).isSome then n else n + 1) ∧ w.grownBy w' (some b) ∧ (∀ a : Addr, w'.frozen? a = w.frozen? a) ∧ w'.heap.size = w.heap.size := by
  obtain ⟨l, es, clock, hb, hl, hok, hnd, hf, hn⟩ := h.ex
  obtain ⟨kl, hkl⟩ := E.key x hx
  have fz : ∀ es' clock' (a : Addr), (setBlock w b (.map es' clock')).frozen? a = w.frozen? a := by
    intro es' clock' a
    unfold World.frozen?
    by_cases e : a.block = b
    · rw [e, heap_setBlock_same hb _, hb]
    · rw [heap_setBlock_other hb _ e]
  have gr : ∀ es' clock', w.grownBy (setBlock w b (.map es' clock')) (some b) := fun es' clock' =>
    ⟨rfl, rfl, rfl, by simp [setBlock], fun i _ hi => heap_setBlock_other hb _ (fun e => hi (by rw [e]))⟩
  rcases OMap.search E hx w hl hok with ⟨h1, h2⟩ | ⟨j, p, e0, h1, h2, h3, h4, h5⟩
  · have hfx : f x = none := by rw [hf, find_none h2]; rfl
    refine ⟨setBlock w b (.map (es.push ⟨enck x, encv v, clock⟩) (clock + 1)), ?_, ?_, gr _ _, fz _ _, by simp [setBlock]⟩
    · simp [Instr.mapUpdate, run_underlying ht, MapKept.run_getObj_map hb, E.K.check w false hkl, h1, MapKept.run_setObj_map _ hb, Result.andThen, setBlock]
    · rw [hfx]
      refine ⟨l ++ [(x, v)], _, _, heap_setBlock_same hb _, by simp [hl], ?_, ?_, ?_, by simp [hn]⟩
      · intro p hp
        rcases List.mem_append.1 hp with hp | hp
        · exact hok p hp
        · simp at hp; subst hp; exact hx
      · rw [List.map_append, List.nodup_append]
        refine ⟨hnd, by simp, ?_⟩
        intro a ha c hc e
        simp at hc; subst hc; subst e
        obtain ⟨q, hq, rfl⟩ := List.mem_map.1 ha
        exact h2 q hq rfl
      · intro y
        rw [List.find?_append]
        by_cases e : y = x
        · subst e; rw [if_pos rfl, find_none h2]; simp
        · rw [if_neg e, hf]
          have hxy : ¬ x = y := fun e2 => e e2.symm
          have : ([(x, v)] : List (κ × ν)).find? (fun p => decide (p.1 = y)) = none := by simp [hxy]
          rw [this]; simp
  · have hfx : f x = some p.2 := by rw [hf, ← h3, find_at hnd h2]; rfl
    have hj : es[j]? = some e0 := by simpa using h4
    refine ⟨setBlock w b (.map (es.modify j (fun e' => { e' with key := enck x, val := encv v })) clock), ?_, ?_, gr _ _, fz _ _, by simp [setBlock]⟩
    · simp [Instr.mapUpdate, run_underlying ht, MapKept.run_getObj_map hb, E.K.check w false hkl, h1, hj, h5, E.K.stays w hkl, MapKept.run_setObj_map _ hb, Result.andThen, setBlock]
    · rw [hfx]
      refine ⟨l.set j (x, v), _, _, heap_setBlock_same hb _, ?_, ?_, ?_, ?_, by simp [hn]⟩
      · rw [Array.toList_modify, modify_eq_set _ _ _ _ h4, List.map_set, List.map_set, hl]
      · intro q hq
        rcases List.mem_or_eq_of_mem_set hq with hq | rfl
        · exact hok q hq
        · exact hx
      · rw [← h3, set_fst v h2]; exact hnd
      · intro y
        rw [← h3, find_upd v hnd h2]
        by_cases e : y = p.1
        · rw [if_pos e, if_pos e]; rfl
        · rw [if_neg e, if_neg e, hf]
theorem OMap.len {t e : TypeId} (h : OMap w b enck ok encv f n) (ht : P.underlying t = some (.map k e)) (ty : TypeId) : (Builtin.len_ #[t] ty #[.map (some b)]).run P w = .ok (.int .i64 n) w := by
  obtain ⟨l, es, clock, hb, hl, _, _, _, hn⟩ := h.ex
  have hs : es.size = n := by
    have := congrArg List.length hl
    simp at this
    omega
  rw [← hs]
  simp [Builtin.len_, run_underlying ht, MapKept.run_getObj_map hb, goInt, Result.andThen]
/-! at the operation, for the walk -/
variable {ops : Array Oper} {rest : List Oper} {o : Oper} {a : Act} {Q : Exit → Act → World → Prop}
theorem wpList_olook (hg : o.guard = none) (m x : Operand) (t : TypeId) (hop : o.op = Op.lookup t m x false) {e : TypeId} (E : KeyEnc P k enck ok) (ht : P.underlying t = some (.map k e)) {z : Value} (hz : (zeroValue e).run P w = .ok z w)
    (hm : a.eval m = .map (some b)) (h : OMap w b enck ok encv f n) (y : κ) (hy : ok y) (hx : a.eval x = enck y)
    (hK : wpList P ops Q rest (a.put o.dst (((f y).map encv).getD z)) w) : wpList P ops Q (o :: rest) a w := by
  refine wpList_plain hg fun K' hK' => ?_
  have hrun := h.look E ht hz hy false
  unfold Oper.wp
  simp [execOp, hop, hm, hx, hrun, Result.andThen]
  exact hK' _ _ hK
theorem wpList_oput (hg : o.guard = none) (m x v : Operand) (t : TypeId) (hop : o.op = Op.mapUpdate t m x v) {e : TypeId} (E : KeyEnc P k enck ok) (ht : P.underlying t = some (.map k e))
    (hm : a.eval m = .map (some b)) (h : OMap w b enck ok encv f n) (y : κ) (hy : ok y) (hx : a.eval x = enck y) (u : ν) (hv : a.eval v = encv u)
    (hK : ∀ w', OMap w' b enck ok encv (fun z => if z = y then some u else f z) (if (f y).isSome then n else n + 1) → w.grownBy w' (some b) → (∀ a : Addr, w'.frozen? a = w.frozen? a) → w'.heap.size = w.heap.size → wpList P ops Q rest (a.put o.dst undef) w') : wpList P ops Q (o :: rest) a w := by
  refine wpList_plain hg fun K' hK' => ?_
  obtain ⟨w', hrun, h1, h2, h3, h4⟩ := h.put E ht hy u
  unfold Oper.wp
  simp [execOp, hop, hm, hx, hv, hrun, Result.andThen]
  exact hK' _ _ (hK w' h1 h2 h3 h4)
end
end Go.Proofs.YtbaccmlfnbgehaaGreatDoor
namespace Go.Proofs.YtbaccmlfnbgehaaGreatDoor
open Go.RowKit Go.ChangeShapes Pl
def encSv (x : S) : Value := .agg #[.int .i64 x.1, .int .i64 x.2]
def okS (x : S) : Prop := (Lit.int .i64 x.1).wf = true ∧ (Lit.int .i64 x.2).wf = true
def encU (_ : Unit) : Value := .agg #[]
end Go.Proofs.YtbaccmlfnbgehaaGreatDoor
namespace Go.Proofs.YtbaccmlfnbgehaaGreatDoor
open Go.RowKit Go.ChangeShapes Pl
def encEv (x : E) : Value := .agg #[.int .i64 x.1, .int .i64 x.2.1, .int .i64 x.2.2]
def okE (x : E) : Prop := (Lit.int .i64 x.1).wf = true ∧ (Lit.int .i64 x.2.1).wf = true ∧ (Lit.int .i64 x.2.2).wf = true
def encNv (x : Int) : Value := .int .i64 x
def okN (x : Int) : Prop := (Lit.int .i64 x).wf = true
end Go.Proofs.YtbaccmlfnbgehaaGreatDoor
namespace Go.Proofs.YtbaccmlfnbgehaaGreatDoor
open Go.RowKit Pl
def plc (D : List Nat) (i j : Nat) : Int := if j ∈ D.take i then (D.idxOf j : Int) + 1 else 0
end Go.Proofs.YtbaccmlfnbgehaaGreatDoor
namespace Go.Proofs.YtbaccmlfnbgehaaGreatDoor
namespace Pl
theorem nodup_subG {α : Type} [DecidableEq α] : ∀ (L M : List α), L.Nodup → (∀ x ∈ L, x ∈ M) → L.length ≤ M.length
  | [], M, _, _ => Nat.zero_le _
  | x :: L, M, hn, hs => by
    rw [List.nodup_cons] at hn
    have ih := nodup_subG L (M.erase x) hn.2 (fun y hy => (List.mem_erase_of_ne (fun e : y = x => hn.1 (e ▸ hy))).2 (hs y (List.mem_cons_of_mem _ hy)))
    have h1 := List.length_erase_of_mem (hs x (by simp))
    have h2 := List.length_pos_of_mem (hs x (by simp))
    rw [List.length_cons]; omega
theorem srtS_nodup {L : List S} (h : Srt ltS L) : L.Nodup := List.Pairwise.imp (fun {a b} hab e => by subst e; rw [stoS.irrefl] at hab; cases hab) h
theorem SigOk.len {s : Lts} {C : Nat → Int} {p : Nat} {L : List S} (h : SigOk s C p L) : L.length ≤ s.es.length := by
  have h1 := nodup_subG L (s.es.map (fun e => (e.2.1, C e.2.2.toNat))) (srtS_nodup h.srt) (fun x hx => by
    obtain ⟨l, e⟩ := x
    obtain ⟨q, t, _, h2, h3, _⟩ := ((h.mem l e).1 hx).way
    exact List.mem_map.2 ⟨((q : Int), l, (t : Int)), h2, by simp only [Int.toNat_natCast]; rw [h3]⟩)
  rwa [List.length_map] at h1
theorem SigOk.rng {s : Lts} (hr : s.Right) {n : Nat} (hn : s.st = (n : Int)) {C : Nat → Int} {p : Nat} {L : List S} (h : SigOk s C p L) {x : S} (hx : x ∈ L) : 0 ≤ x.1 ∧ x.1 < s.lb ∧ ∃ t, t < n ∧ x.2 = C t := by
  obtain ⟨l, e⟩ := x
  obtain ⟨q, t, _, h2, h3, _⟩ := ((h.mem l e).1 hx).way
  have h4 := stp_lt hr hn h2
  exact ⟨h4.2.2.1, h4.2.2.2, t, h4.2.1, h3.symm⟩
/-! the numbers of texts -/
def codeT (T : List (List UInt8)) (z : List UInt8) : Int := (T.idxOf z : Int)
def numT (T : List (List UInt8)) (D : List Int) (z : List UInt8) : Option Int := if z ∈ T ∧ codeT T z ∈ D then some (D.idxOf (codeT T z) : Int) else none
def txtL (n : Nat) (C : Nat → Int) (F : Nat → List S) : List (List UInt8) := (List.range n).map (fun p => textB (C p) (F p))
def cdG (n : Nat) (C : Nat → Int) (F : Nat → List S) (p : Nat) : Int := codeT (txtL n C F) (textB (C p) (F p))
end Pl
end Go.Proofs.YtbaccmlfnbgehaaGreatDoor
namespace Go.Proofs.YtbaccmlfnbgehaaGreatDoor
namespace Pl
def one (s : Lts) (m : Nat) (l : Int) (t : Nat) : Prop := (l = 0 ∧ t = m) ∨ (l ≠ 0 ∧ stp s m l t)
def wst (s : Lts) (p : Nat) (l : Int) (q : Nat) : Prop := ∃ m t, TR s p m ∧ one s m l t ∧ TR s t q
section
variable {s : Lts} {n : Nat}
end
/-! the saturated system -/
def KOk (s : Lts) (n lb : Nat) (K : Nat → Nat → Nat → Bool) : Prop := ∀ p l q, p < n → l < lb → q < n → (K p l q = true ↔ wst s p (l : Int) q)
def satE (n lb : Nat) (K : Nat → Nat → Nat → Bool) : List E := (List.range n).flatMap fun p => (List.range lb).flatMap fun l => (idsN (K p l) n).map fun q : Nat => ((p : Int), (l : Int), (q : Int))
def satS (s : Lts) (n lb : Nat) (K : Nat → Nat → Nat → Bool) : Lts := ⟨s.st, s.lb, s.s0, satE n lb K⟩
section
variable {s : Lts} {n lb : Nat} {K : Nat → Nat → Nat → Bool}
end
/-! strong bisimilarity by rounds -/
def NextS (u : Nat → Int → Nat → Prop) (n : Nat) (C D : Nat → Int) : Prop :=
  ∀ p q, p < n → q < n → (D p = D q ↔ C p = C q ∧ ∀ l e, (∃ t, t < n ∧ u p l t ∧ C t = e) ↔ (∃ t, t < n ∧ u q l t ∧ C t = e))
def HoldsS (s : Lts) (n : Nat) (C : Nat → Int) : Prop := ∀ R, IsBis s n R → ∀ p q, p < n → q < n → R p q → C p = C q
section
variable {s : Lts} {n : Nat} {C D : Nat → Int}
theorem HoldsS.zero : HoldsS s n (fun _ => 0) := fun _ _ _ _ _ _ _ => rfl
theorem HoldsS.next (h : HoldsS s n C) (hd : NextS (stp s) n C D) : HoldsS s n D := fun R hR p q hp hq e => by
  refine (hd p q hp hq).2 ⟨h R hR p q hp hq e, fun l c => ?_⟩
  obtain ⟨h1, h2⟩ := hR p q hp hq e
  constructor
  · rintro ⟨t, ht, hs, rfl⟩
    obtain ⟨u, hu, h3, h4⟩ := h1 l t ht hs
    exact ⟨u, hu, h3, (h R hR t u ht hu h4).symm⟩
  · rintro ⟨t, ht, hs, rfl⟩
    obtain ⟨u, hu, h3, h4⟩ := h2 l t ht hs
    exact ⟨u, hu, h3, h R hR u t hu ht h4⟩
theorem HoldsS.done (h : HoldsS s n C) (hd : NextS (stp s) n C D) (he : ∀ p, p < n → D p = C p) : Big s n C where
  bis p q hp hq e := by
    have h1 := ((hd p q hp hq).1 (by rw [he p hp, he q hq]; exact e)).2
    refine ⟨fun l t ht hs => ?_, fun l u hu hs => ?_⟩
    · obtain ⟨u, hu, h2, h3⟩ := (h1 l (C t)).1 ⟨t, ht, hs, rfl⟩
      exact ⟨u, hu, h2, h3.symm⟩
    · obtain ⟨t, ht, h2, h3⟩ := (h1 l (C u)).2 ⟨u, hu, hs, rfl⟩
      exact ⟨t, ht, h2, h3⟩
  all := h
end
/-! branching bisimilarity lies within it -/
section
variable {s : Lts} {n lb : Nat} {K : Nat → Nat → Nat → Bool} {C : Nat → Int}
end
end Pl
end Go.Proofs.YtbaccmlfnbgehaaGreatDoor
namespace Go.Proofs.YtbaccmlfnbgehaaGreatDoor
namespace Pl
/-! words as bytes -/
def by8 (x : Nat) : List UInt8 := (List.range 8).map fun k => UInt8.ofNat (x >>> (8 * k))
def bytesW (F : Nat → Bool) (W : Nat) : List UInt8 := (List.range W).flatMap fun j => by8 (wj F j)
/-! keys -/
def keyS (W : Nat) (R : Nat → Option (Nat → Bool)) (l : Nat) : List UInt8 := match R l with | none => [] | some F => UInt8.ofNat l :: bytesW F W
def wkey (W c lb : Nat) (R : Nat → Option (Nat → Bool)) : List UInt8 := bytesW (fun x => decide (x = c)) W ++ (List.range lb).flatMap (keyS W R)
def AgreeR (W : Nat) : Option (Nat → Bool) → Option (Nat → Bool) → Prop
  | none, none => True
  | some F, some G => ∀ x, x < 64 * W → F x = G x
  | _, _ => False
/-! what weak's ends tells -/
def EndsOk (s : Lts) (G : Nat → Nat → Bool) (p : Nat) (l : Int) : Option (Nat → Bool) → Prop
  | none => ¬ ∃ m t, TR s p m ∧ one s m l t
  | some F => (∃ m t, TR s p m ∧ one s m l t) ∧ ∀ x, F x = true ↔ ∃ m t, TR s p m ∧ one s m l t ∧ G t x = true
def EndC (s : Lts) (C : Nat → Int) (G : Nat → Nat → Bool) : Prop := ∀ t x, G t x = true ↔ ∃ q, TR s t q ∧ C q = (x : Int)
/-! the numbers of texts -/
def txtW (n : Nat) (X : Nat → List UInt8) : List (List UInt8) := (List.range n).map X
def cdW (n : Nat) (X : Nat → List UInt8) (p : Nat) : Int := codeT (txtW n X) (X p)
end Pl
end Go.Proofs.YtbaccmlfnbgehaaGreatDoor
namespace Go.Proofs.YtbaccmlfnbgehaaGreatDoor
open Go.RowKit Pl
namespace Pl
def orF (F G : Nat → Bool) (x : Nat) : Bool := F x || G x
def wds (n : Nat) : Nat := (n + 63) / 64
end Pl
def BitRow (w : World) (b W : Nat) (F : Nat → Bool) : Prop := w.rowIs b 78 W (fun j => .int .u64 (wj F j : Nat))
section
variable {w w' : World} {b W : Nat} {F G : Nat → Bool}
theorem BitRow.lt (h : BitRow w b W F) : b < w.heap.size := World.rowIs.lt h
theorem BitRow.cell (h : BitRow w b W F) {j : Nat} (hj : j < W) : w.cell? ⟨b, j, none⟩ = some (.int .u64 (wj F j : Nat)) := World.rowIs.cell h hj
theorem BitRow.frozen (h : BitRow w b W F) (j : Nat) : w.frozen? ⟨b, j, none⟩ = false := World.rowIs.frozen h j
theorem BitRow.of_block (h : BitRow w b W F) (e : w'.heap[b]? = w.heap[b]?) : BitRow w' b W F := World.rowIs.of_block h e
theorem BitRow.below (h : BitRow w b W F) (hB : Below w.heap.size w w') : BitRow w' b W F := h.of_block (hB.block b h.lt)
theorem BitRow.congr (h : BitRow w b W F) (e : ∀ x, x < 64 * W → F x = G x) : BitRow w b W G :=
  World.rowIs.congr h (fun j hj => by rw [wj_ext (fun k hk => e (64 * j + k) (by omega))])
theorem BitRow.put (h : BitRow w b W F) (i : Nat) : BitRow (w.setCell ⟨b, i / 64, none⟩ (.int .u64 (wj (putF F i) (i / 64) : Nat))) b W (putF F i) :=
  (World.rowIs.set h (i / 64) _).congr (fun j _ => by
    by_cases e : j = i / 64
    · subst e; rw [if_pos rfl]
    · rw [if_neg e, wj_put_ne F e])
theorem BitRow.made (w : World) (W : Nat) : BitRow (w.alloc (.cells (madeCells #[.int .u64 0] W) 78)) w.heap.size W (fun _ => false) :=
  (World.rowIs_made w (.int .u64 0) W 78).congr (fun j _ => by rw [wj_none]; rfl)
end
structure Chg (w w' : World) (b : Nat) : Prop where
  oth : ∀ g, g ≠ b → g < w.heap.size → w'.heap[g]? = w.heap[g]?
  size : w'.heap.size = w.heap.size
  bel : ∀ B, B ≤ b → Below B w w'
section
variable {w w' w'' : World} {b : Nat}
theorem Chg.refl (w : World) (b : Nat) : Chg w w b := ⟨fun _ _ _ => rfl, rfl, fun _ _ => Below.refl _ _⟩
theorem Chg.trans (h : Chg w w' b) (h' : Chg w' w'' b) : Chg w w'' b :=
  ⟨fun g hg hl => (h'.oth g hg (by rw [h.size]; exact hl)).trans (h.oth g hg hl), h'.size.trans h.size, fun B hB => (h.bel B hB).trans (h'.bel B hB)⟩
theorem Chg.set (h : Chg w w' b) (j : Nat) (v : Value) : Chg w (w'.setCell ⟨b, j, none⟩ v) b :=
  ⟨fun g hg hl => (Below.heap_setCell _ _ _ _ hg).trans (h.oth g hg hl), by rw [size_setCell]; exact h.size, fun B hB => (h.bel B hB).setCell hB _⟩
theorem Chg.drewN (h : Chg w w' b) (m : Nat) : Chg w (w'.drewN m) b := ⟨h.oth, h.size, fun B hB => bdrew (h.bel B hB)⟩
theorem Chg.drew (h : Chg w w' b) : Chg w w'.drew b := ⟨h.oth, h.size, fun B hB => (h.bel B hB).drew⟩
end
end Go.Proofs.YtbaccmlfnbgehaaGreatDoor
namespace Go.Proofs.YtbaccmlfnbgehaaGreatDoor
open Go.RowKit Pl
def joinG (F G : Nat → Bool) (k j : Nat) : Nat := if j < k then wj (orF F G) j else wj F j
def IdsW (w : World) (F : Nat → Bool) (W : Nat) (e : Ending) (w' : World) : Prop := ∃ v, e = .returned v ∧ w'.ownsRow w.heap.size 3 1 v (intsOf (idsN F (64 * W))).length ((intsOf (idsN F (64 * W))).flatMap encI) ∧ Below w.heap.size w w'
end Go.Proofs.YtbaccmlfnbgehaaGreatDoor

/-
  Lemmas.
-/
import Derived.Maps.OwnSet
import Derived.DeepKeys4
import Derived.Test.YtbaccmlfnbgehaaGreatDoorGMem
import Derived.Lib.SmallJoins
import Derived.MapViews
import Derived.Test.YtbaccmlfnbgehaaGreatDoorGRws
import Derived.Test.YtbaccmlfnbgehaaGreatDoorGTold
import Derived.Test.YtbaccmlfnbgehaaGreatDoorGPl5
import Derived.Deep.Cut
import Derived.Test.YtbaccmlfnbgehaaGreatDoorGPl6
import Derived.Deep.RegionHeldLaw
import Derived.Outline
open List renaming find?_cons_of_neg → l0, take_of_length_le → l1, take_append_of_le_length → l2, mem_of_getElem? → l3, getElem?_map → l4, getElem?_set → l5, find?_cons_of_pos → l6, length_take → l7, getElem?_of_mem → l8, mem_map → l9, append_assoc → m1, map_set → m4, nodup_cons → m5, append_nil → m6, take_take → m7, map_cons → m8, length → m9
open Nat renaming le_refl → m0, zero_add → m2, min_eq_left → m3
open Go.Proofs.Tryz
namespace Go.Proofs.YtbaccmlfnbgehaaGreatDoor
open Go.RowKit Go.Maps Go.ChangeMaps
structure KeyEnc {κ : Type} (P : Program) (k : TypeId) (enck : κ -> Value) (ok : κ -> Prop) : Prop where
  K : Keyed P k
  key : ∀ x, ok x -> ∃ l, keyOf P k (enck x) = some l
  inj : ∀ x y, enck x = enck y -> x = y
section
variable {κ ν : Type} [DecidableEq κ] {P : Program} {k : TypeId} {enck : κ -> Value} {ok : κ -> Prop} {encv : ν -> Value} {w w' : World} {b n : Nat} {f : κ -> Option ν}
structure OMap (w : World) (b : Nat) (enck : κ -> Value) (ok : κ -> Prop) (encv : ν -> Value) (f : κ -> Option ν) (n : Nat) : Prop where
  ex : ∃ (l : List (κ × ν)) (es : Array MapEntry) (clock : Nat), w.heap[b]? = some (.map es clock) /\ es.toList.map (fun e => (e.key, e.val)) = l.map (fun p => (enck p.1, encv p.2)) /\
    (∀ p ∈ l, ok p.1) /\ (l.map Prod.fst).Nodup /\ (∀ x, f x = (l.find? (fun p => decide (p.1 = x))).map Prod.snd) /\ l.length = n
theorem OMap.made (w : World) : OMap (w.alloc (.map #[] 0)) w.heap.size enck ok encv (fun _ => (none : Option ν)) 0 :=
  ⟨[], #[], 0, (MapKept.heap_alloc w _).1, rfl, by simp, by simp, by simp, rfl⟩
theorem OMap.lt (h : OMap w b enck ok encv f n) : b < w.heap.size := by
 obtain ⟨l, es, clock, hb, _⟩ := h.ex
 exact (Array.getElem?_eq_some_iff.1 hb).1
theorem OMap.of_block (h : OMap w b enck ok encv f n) (hb : w'.heap[b]? = w.heap[b]?) : OMap w' b enck ok encv f n := by
 obtain ⟨l, es, clock, h1, h2⟩ := h.ex
 exact ⟨l, es, clock, hb.trans h1, h2⟩
theorem OMap.congr {g : κ -> Option ν} (h : OMap w b enck ok encv f n) (e : ∀ x, f x = g x) : OMap w b enck ok encv g n := by
 have : f = g := funext e
 rw [<- this]; exact h
theorem OMap.block (h : OMap w b enck ok encv f n) : ∃ es clock, w.heap[b]? = some (.map es clock) := by
 obtain ⟨l, es, clock, h1, _⟩ := h.ex; exact ⟨es, clock, h1⟩
omit [DecidableEq κ] in
theorem p1d {l : List (κ × ν)} {es : List MapEntry} (h : es.map (fun e => (e.key, e.val)) = l.map (fun p => (enck p.1, encv p.2))) {j : Nat} {e : MapEntry} (he : es[j]? = some e) :
    ∃ p, l[j]? = some p /\ e.key = enck p.1 /\ e.val = encv p.2 := by
 have h1 : (es.map (fun e => (e.key, e.val)))[j]? = some (e.key, e.val) := by rw [l4, he]; rfl
 rw [h, l4] at h1
 obtain ⟨p, hp, h2⟩ := Option.map_eq_some_iff.1 h1
 simp only [Prod.mk.injEq] at h2
 exact ⟨p, hp, h2.1.symm, h2.2.symm⟩
theorem y1y : ∀ {l : List (κ × ν)}, (l.map Prod.fst).Nodup -> ∀ {j : Nat} {p : κ × ν}, l[j]? = some p -> l.find? (fun q => decide (q.1 = p.1)) = some p
  | [], _, _, _, h => by simp at h
  | q :: l, hn, 0, p, h => by
    simp at h; subst h; simp
  | q :: l, hn, j + 1, p, h => by
    simp at h
    rw [m8, m5] at hn
    have hne : q.1 ≠ p.1 := fun e => hn.1 (by rw [e]; exact l9.2 ⟨p, l3 h, rfl⟩)
    rw [l0 (by simpa using hne)]
    exact y1y hn.2 h
theorem v0y {l : List (κ × ν)} {x : κ} (h : ∀ p ∈ l, p.1 ≠ x) : l.find? (fun q => decide (q.1 = x)) = none := by
 rw [List.find?_eq_none]; intro p hp; simpa using h p hp
omit [DecidableEq κ] in
theorem OMap.search (E : KeyEnc P k enck ok) {x : κ} (hx : ok x) (w0 : World) {l : List (κ × ν)} {es : List MapEntry} (h : es.map (fun e => (e.key, e.val)) = l.map (fun p => (enck p.1, encv p.2))) (hok : ∀ p ∈ l, ok p.1) :
    ((Instr.findKey k (enck x) es).run P w0 = .ok none w0 /\ ∀ p ∈ l, p.1 ≠ x) ∨
    ∃ j p e, (Instr.findKey k (enck x) es).run P w0 = .ok (some (j, encv p.2)) w0 /\ l[j]? = some p /\ p.1 = x /\ es[j]? = some e /\ e.key = enck x := by
 obtain ⟨kl, hkl⟩ := E.key x hx
 have hkeys : ∀ e ∈ es, ∃ l, keyOf P k e.key = some l := fun e he => by (
 obtain ⟨j, hj⟩ := l8 he
 obtain ⟨p, hp, h1, _⟩ := p1d h hj
 rw [h1]; exact E.key _ (hok p (l3 hp)))
 rcases E.K.find w0 hkl es hkeys with ⟨h1, h2⟩ | ⟨j, e, h1, h2, h3⟩
 · (
 refine .inl ⟨h1, fun p hp e => ?_⟩
 obtain ⟨j, hj⟩ := l8 hp
 have hl : es.length = l.length := by have := congrArg m9 h; simpa using this
 have hj2 : j < es.length := by rw [hl]; exact (List.getElem?_eq_some_iff.1 hj).1
 obtain ⟨q, hq, h4, _⟩ := p1d h (List.getElem?_eq_getElem hj2)
 rw [hj] at hq
 cases hq
 exact h2 _ (List.getElem_mem hj2) (by rw [h4, e]))
 · obtain ⟨p, hp, h4, h5⟩ := p1d h h2
   exact .inr ⟨j, p, e, by rw [<- h5]; exact h1, hp, E.inj _ _ (by rw [<- h4, h3]), h2, h3⟩
theorem OMap.look {t e : TypeId} (h : OMap w b enck ok encv f n) (E : KeyEnc P k enck ok) (ht : P.underlying t = some (.map k e)) {z : Value} (hz : (zeroValue e).run P w = .ok z w) {x : κ} (hx : ok x) (c : Bool) :
    (Instr.lookup t (.map (some b)) (enck x) c).run P w = .ok (if c then .tuple #[((f x).map encv).getD z, .bool (f x).isSome] else ((f x).map encv).getD z) w := by
 obtain ⟨l, es, clock, hb, hl, hok, hnd, hf, _⟩ := h.ex
 obtain ⟨kl, hkl⟩ := E.key x hx
 rcases OMap.search E hx w hl hok with ⟨h1, h2⟩ | ⟨j, p, e0, h1, h2, h3, h4, h5⟩
 · have hfx : f x = none := by rw [hf, v0y h2]; rfl
   rw [hfx]
   simp [Instr.lookup, run_underlying ht, MapKept.run_getObj_map hb, E.K.check w _ hkl, h1, hz, Result.andThen]
 · have hfx : f x = some p.2 := by rw [hf, <- h3, y1y hnd h2]; rfl
   rw [hfx]
   simp [Instr.lookup, run_underlying ht, MapKept.run_getObj_map hb, E.K.check w _ hkl, h1, Result.andThen]
theorem u1e : ∀ {l : List (κ × ν)} {j : Nat} {p : κ × ν} (v : ν), (l.map Prod.fst).Nodup -> l[j]? = some p -> ∀ y, (l.set j (p.1, v)).find? (fun q => decide (q.1 = y)) = if y = p.1 then some (p.1, v) else l.find? (fun q => decide (q.1 = y))
  | [], _, _, _, _, h, _ => by simp at h
  | q :: l, 0, p, v, hn, h, y => by
    simp at h; subst h
    by_cases e : y = q.1
    · subst e; simp
    · rw [if_neg e, List.set_cons_zero, l0 (by simpa using fun e2 => e e2.symm), l0 (by simpa using fun e2 => e e2.symm)]
  | q :: l, j + 1, p, v, hn, h, y => by
    simp at h
    rw [m8, m5] at hn
    have hne : q.1 ≠ p.1 := fun e => hn.1 (by rw [e]; exact l9.2 ⟨p, l3 h, rfl⟩)
    rw [List.set_cons_succ]
    by_cases e : q.1 = y
    · subst e
      rw [if_neg hne, l6 (by simp), l6 (by simp)]
    · rw [l0 (by simpa using e), l0 (by simpa using e)]
      exact u1e v hn.2 h y
omit [DecidableEq κ] in
theorem u2w {l : List (κ × ν)} {j : Nat} {p : κ × ν} (v : ν) (h : l[j]? = some p) : (l.set j (p.1, v)).map Prod.fst = l.map Prod.fst := by
 rw [m4]
 apply List.ext_getElem?
 intro i
 rw [l5]
 split
 · (
 rename_i e
 subst e
 split
 · rw [l4, h]; rfl
 · rename_i h2
   rw [List.getElem?_eq_none (by omega)])
 · rfl
theorem OMap.put {t e : TypeId} (h : OMap w b enck ok encv f n) (E : KeyEnc P k enck ok) (ht : P.underlying t = some (.map k e)) {x : κ} (hx : ok x) (v : ν) :
    ∃ w', (Instr.mapUpdate t (.map (some b)) (enck x) (encv v)).run P w = .ok () w' /\ OMap w' b enck ok encv (fun y => if y = x then some v else f y) (if (f x).isSome then n else n + 1) /\ w.grownBy w' (some b) /\ (∀ a : Addr, w'.frozen? a = w.frozen? a) /\ w'.heap.size = w.heap.size := by
 obtain ⟨l, es, clock, hb, hl, hok, hnd, hf, hn⟩ := h.ex
 obtain ⟨kl, hkl⟩ := E.key x hx
 have fz : ∀ es' clock' (a : Addr), (setBlock w b (.map es' clock')).frozen? a = w.frozen? a := by (
 intro es' clock' a
 unfold World.frozen?
 by_cases e : a.block = b
 · rw [e, heap_setBlock_same hb _, hb]
 · rw [heap_setBlock_other hb _ e])
 have gr : ∀ es' clock', w.grownBy (setBlock w b (.map es' clock')) (some b) := fun es' clock' =>
   ⟨rfl, rfl, rfl, by simp [setBlock], fun i _ hi => heap_setBlock_other hb _ (fun e => hi (by rw [e]))⟩
 rcases OMap.search E hx w hl hok with ⟨h1, h2⟩ | ⟨j, p, e0, h1, h2, h3, h4, h5⟩
 · (
 have hfx : f x = none := by rw [hf, v0y h2]; rfl
 refine ⟨setBlock w b (.map (es.push ⟨enck x, encv v, clock⟩) (clock + 1)), ?_, ?_, gr _ _, fz _ _, by simp [setBlock]⟩
 · simp [Instr.mapUpdate, run_underlying ht, MapKept.run_getObj_map hb, E.K.check w false hkl, h1, MapKept.run_setObj_map _ hb, Result.andThen, setBlock]
 · (
 rw [hfx]
 refine ⟨l ++ [(x, v)], _, _, heap_setBlock_same hb _, by simp [hl], ?_, ?_, ?_, by simp [hn]⟩
 · intro p hp
   rcases List.mem_append.1 hp with hp | hp
   · exact hok p hp
   · simp at hp; subst hp; exact hx
 · (
 rw [List.map_append, List.nodup_append]
 refine ⟨hnd, by simp, ?_⟩
 intro a ha c hc e
 simp at hc; subst hc; subst e
 obtain ⟨q, hq, rfl⟩ := l9.1 ha
 exact h2 q hq rfl)
 · (
 intro y
 rw [List.find?_append]
 by_cases e : y = x
 · subst e; rw [if_pos rfl, v0y h2]; simp
 · rw [if_neg e, hf]
   have hxy : ¬ x = y := fun e2 => e e2.symm
   have : ([(x, v)] : List (κ × ν)).find? (fun p => decide (p.1 = y)) = none := by simp [hxy]
   rw [this]; simp)))
 · (
 have hfx : f x = some p.2 := by rw [hf, <- h3, y1y hnd h2]; rfl
 have hj : es[j]? = some e0 := by simpa using h4
 refine ⟨setBlock w b (.map (es.modify j (fun e' => { e' with key := enck x, val := encv v })) clock), ?_, ?_, gr _ _, fz _ _, by simp [setBlock]⟩
 · simp [Instr.mapUpdate, run_underlying ht, MapKept.run_getObj_map hb, E.K.check w false hkl, h1, hj, h5, E.K.stays w hkl, MapKept.run_setObj_map _ hb, Result.andThen, setBlock]
 · (
 rw [hfx]
 refine ⟨l.set j (x, v), _, _, heap_setBlock_same hb _, ?_, ?_, ?_, ?_, by simp [hn]⟩
 · rw [Array.toList_modify, modify_eq_set _ _ _ _ h4, m4, m4, hl]
 · intro q hq
   rcases List.mem_or_eq_of_mem_set hq with hq | rfl
   · exact hok q hq
   · exact hx
 · rw [<- h3, u2w v h2]; exact hnd
 · intro y
   rw [<- h3, u1e v hnd h2]
   by_cases e : y = p.1
   · rw [if_pos e, if_pos e]; rfl
   · rw [if_neg e, if_neg e, hf]))
theorem OMap.len {t e : TypeId} (h : OMap w b enck ok encv f n) (ht : P.underlying t = some (.map k e)) (ty : TypeId) : (Builtin.len_ #[t] ty #[.map (some b)]).run P w = .ok (.int .i64 n) w := by
 obtain ⟨l, es, clock, hb, hl, _, _, _, hn⟩ := h.ex
 have hs : es.size = n := by (
 have := congrArg m9 hl
 simp at this
 omega)
 rw [<- hs]
 simp [Builtin.len_, run_underlying ht, MapKept.run_getObj_map hb, goInt, Result.andThen]
/-! at the operation, for the walk -/
variable {ops : Array Oper} {rest : List Oper} {o : Oper} {a : Act} {Q : Exit -> Act -> World -> Prop}
theorem q0l (hg : o.guard = none) (m x : Operand) (t : TypeId) (hop : o.op = Op.lookup t m x true) {e : TypeId} (E : KeyEnc P k enck ok) (ht : P.underlying t = some (.map k e)) {z : Value} (hz : (zeroValue e).run P w = .ok z w)
    (hm : a.eval m = .map (some b)) (h : OMap w b enck ok encv f n) (y : κ) (hy : ok y) (hx : a.eval x = enck y)
    (hK : wpList P ops Q rest (a.put o.dst (.tuple #[((f y).map encv).getD z, .bool (f y).isSome])) w) : wpList P ops Q (o :: rest) a w := by
 refine wpList_plain hg fun K' hK' => ?_
 have hrun := h.look E ht hz hy true
 unfold Oper.wp
 simp [execOp, hop, hm, hx, hrun, Result.andThen]
 exact hK' _ _ hK
theorem x1k (hg : o.guard = none) (m x v : Operand) (t : TypeId) (hop : o.op = Op.mapUpdate t m x v) {e : TypeId} (E : KeyEnc P k enck ok) (ht : P.underlying t = some (.map k e))
    (hm : a.eval m = .map (some b)) (h : OMap w b enck ok encv f n) (y : κ) (hy : ok y) (hx : a.eval x = enck y) (u : ν) (hv : a.eval v = encv u)
    (hK : ∀ w', OMap w' b enck ok encv (fun z => if z = y then some u else f z) (if (f y).isSome then n else n + 1) -> w.grownBy w' (some b) -> (∀ a : Addr, w'.frozen? a = w.frozen? a) -> w'.heap.size = w.heap.size -> wpList P ops Q rest (a.put o.dst undef) w') : wpList P ops Q (o :: rest) a w := by
 refine wpList_plain hg fun K' hK' => ?_
 obtain ⟨w', hrun, h1, h2, h3, h4⟩ := h.put E ht hy u
 unfold Oper.wp
 simp [execOp, hop, hm, hx, hv, hrun, Result.andThen]
 exact hK' _ _ (hK w' h1 h2 h3 h4)
end
end Go.Proofs.YtbaccmlfnbgehaaGreatDoor
namespace Go.Proofs.YtbaccmlfnbgehaaGreatDoor
open Go.RowKit Go.ChangeShapes Pl
end Go.Proofs.YtbaccmlfnbgehaaGreatDoor
namespace Go.Proofs.YtbaccmlfnbgehaaGreatDoor
open Go.RowKit Go.ChangeShapes Pl
def encNv (x : Int) : Value := .int .i64 x
theorem k2i (w : World) : (zeroValue 3).run prog w = .ok (.int .i64 0) w := by kernel_rfl
end Go.Proofs.YtbaccmlfnbgehaaGreatDoor
namespace Go.Proofs.YtbaccmlfnbgehaaGreatDoor
open Go.RowKit Pl
theorem j1k {w0 w w' : World} (h : Below w0.heap.size w0 w) (hB : Below w.heap.size w w') : Below w0.heap.size w0 w' := h.trans (hB.mono h.size)
structure KW (w5 wr : World) (O : Nat) (st lb s0 : Int) (v : Value) (es : List E) : Prop where
  oth : ∀ b, b < w5.heap.size -> b ≠ O -> wr.heap[b]? = w5.heap[b]?
  bel : Below O w5 wr
  oo : wr.heap[O]? = some (.cells #[.int .i64 st, .int .i64 lb, .int .i64 s0, v] 24 (0, 0))
  own : wr.ownsRow w5.heap.size 71 3 v es.length (es.flatMap encE)
  lt : O < w5.heap.size
section
variable {w5 wr w' : World} {O : Nat} {st lb s0 : Int} {v : Value} {es : List E}
theorem KW.call (h : KW w5 wr O st lb s0 v es) (hB : Below wr.heap.size wr w') : KW w5 w' O st lb s0 v es := by
 have hs := h.bel.size; have hl := h.lt
 exact ⟨fun b hb hne => by rw [hB.block _ (by omega)]; exact h.oth b hb hne, h.bel.trans (hB.mono (by omega)), by rw [hB.block _ (by omega)]; exact h.oo, own_below h.own hB, h.lt⟩
theorem KW.keepc {w1 : World} (h : KW w5 wr O st lb s0 v es) (hg : wr.grownBy w1 v.ownBlock) : w1.cell? ⟨O, 3, none⟩ = some v /\ w1.frozen? ⟨O, 3, none⟩ = false := by
 have hs := h.bel.size; have hl := h.lt
 have := (hg.block O (by omega) (fun e => by have := (h.own.lt O e.symm).1; omega)).trans h.oo
 constructor <;> simp [World.cell?, World.frozen?, this]
theorem KW.setEs {w1 : World} {v' : Value} {es' : List E} (h : KW w5 wr O st lb s0 v es) (hown : w1.ownsRow w5.heap.size 71 3 v' es'.length (es'.flatMap encE)) (hg : wr.grownBy w1 v.ownBlock) :
    KW w5 (w1.setCell ⟨O, 3, none⟩ v') O st lb s0 v' es' := by
 have hs := h.bel.size; have hl := h.lt; have hgs := hg.size
 have hv : ∀ b, b < w5.heap.size -> some b ≠ v.ownBlock := fun b hb e => by have := (h.own.lt b e.symm).1; omega
 refine ⟨fun b hb hne => ?_, (h.bel.grown hg (by omega) (fun k hk => by have := (h.own.lt k hk).1; omega)).setCell (m0 _) _, ?_, ownsRow_setCell_below hown hl _, hl⟩
 · rw [Below.heap_setCell _ _ _ _ hne, hg.block b (by omega) (hv b hb)]
   exact h.oth b hb hne
 · exact heap_setCell_same _ O 3 _ _ _ ((hg.block O (by omega) (hv O hl)).trans h.oo)
theorem KW.cells (h : KW w5 wr O st lb s0 v es) : wr.cell? ⟨O, 0, none⟩ = some (.int .i64 st) /\ wr.cell? ⟨O, 1, none⟩ = some (.int .i64 lb) /\ wr.cell? ⟨O, 2, none⟩ = some (.int .i64 s0) /\ wr.cell? ⟨O, 3, none⟩ = some v /\ wr.frozen? ⟨O, 3, none⟩ = false := by
 have := h.oo
 refine ⟨?_, ?_, ?_, ?_, ?_⟩ <;> simp [World.cell?, World.frozen?, this]
end
end Go.Proofs.YtbaccmlfnbgehaaGreatDoor
namespace Go.Proofs.YtbaccmlfnbgehaaGreatDoor
open Go.RowKit
theorem qT (i : Nat) {P : Program} {ops : Array Oper} {Q : Exit -> Act -> World -> Prop} {md : Region.Mode} {S : World -> Prop} {oi : Oper} {v : Value} {fuel : Nat} {listed : Array Bool} {a : Act} {w : World}
    (hv : ∀ w, S w -> (execOp a.eval oi).run P w = .ok (.value v) w) (h : wpAnyH P md ops Q S fuel (listed.setIfInBounds i true) (a.put oi.dst v) w)
    (hi : ops[i]? = some oi := by rfl) (hs : Region.noSelect ops = true := by kernel_rfl) (hf : Region.free md ops listed i = true := by kernel_rfl) (hr : (Region.ready md ops listed).contains i = true := by kernel_rfl)
    (hQ : ∀ c a w, Q (.panic c) (a.put oi.dst v) w -> Q (.panic c) a w := by exact fun _ _ _ h => h) (hw : Region.wanted oi (yielded ops a.tmps) = true := by rfl) (hS : S w := by assumption) :
    wpAnyH P md ops Q S (fuel + 1) listed a w :=
  wpAnyH_take hi hs hf hr hQ (.inl ⟨hw, hv⟩) hS h
end Go.Proofs.YtbaccmlfnbgehaaGreatDoor
namespace Go.Proofs.YtbaccmlfnbgehaaGreatDoor
open Go.RowKit Pl
open Lib (hid)
theorem x1f {α : Type} [DecidableEq α] : ∀ (l : List α) (x y : α), cmpt (l ++ [x, y]) = cmpt (l ++ [x]) ++ (if x = y then [] else [y])
  | [], x, y => by
    by_cases h : x = y <;> simp [cmpt, h]
  | [a], x, y => by
    by_cases h : x = y <;> by_cases h' : a = x <;> simp [cmpt, h, h'] <;> (try subst h) <;> simp_all
  | a :: b :: l, x, y => by
    have ih := x1f (b :: l) x y
    simp only [List.cons_append] at ih ⊢
    unfold cmpt
    split
    · exact ih
    · rw [ih]; simp
theorem y0h {α : Type} [DecidableEq α] {xs : List α} {p : Nat} {x y : α} (hx : xs[p]? = some x) (hy : xs[p + 1]? = some y) : cmpt (xs.take (p + 2)) = cmpt (xs.take (p + 1)) ++ (if x = y then [] else [y]) := by
 rw [take_snoc hy, take_snoc hx, m1]
 exact x1f _ _ _
theorem j1n (z : Array Value) (n : Nat) (h : ∀ v ∈ z.toList, v.oneCell' = true) : ∀ v ∈ (Builtin.zeroCells z n).toList, v.oneCell' = true := by
 intro v hv
 unfold Builtin.zeroCells at hv
 rw [Array.toList_map] at hv
 obtain ⟨i, hi, rfl⟩ := l9.1 hv
 simp at hi
 have hz : 0 < z.size := by (
 rcases Nat.eq_zero_or_pos z.size with h0 | h0
 · simp [h0] at hi
 · exact h0)
 have hm : i % z.size < z.size := Nat.mod_lt _ hz
 simp only [getElem!_pos z (i % z.size) hm]
 exact h _ (by simp)
theorem p3h {w : World} {base g n cap : Nat} {ys : List E} (h : w.ownsRow base 71 3 (.slice (some ⟨g, 0, none⟩) n cap) ys.length (ys.flatMap encE)) (hn : n = ys.length) (kk c : Nat) (hk : kk < n) :
    ∃ w1, (∀ ty, (Builtin.clear_ #[22] ty #[.slice (some ⟨g, kk * 3, none⟩) (n - kk) c]).run prog w = .ok (.tuple #[]) w1) /\
      w1.ownsRow base 71 3 (.slice (some ⟨g, 0, none⟩) kk cap) kk ((ys.take kk).flatMap encE) /\ ∀ {w0 : World}, Below base w0 w -> Below base w0 w1 := by
 subst hn
 rcases h.2 with ⟨h', _⟩ | ⟨g', cap', cur, h', hb, hg, hnc, hcm, hcs, htake⟩
 · simp at h'
 · (
 simp only [Value.slice.injEq, Option.some.injEq, Addr.mk.injEq, and_true, true_and] at h'
 obtain ⟨rfl, rfl⟩ := h'
 obtain ⟨m, hm⟩ : ∃ m, ys.length - kk = m + 1 := ⟨ys.length - kk - 1, by omega⟩
 rw [hm]
 obtain ⟨zs, hzs⟩ : ∃ zs, zs = (Builtin.zeroCells #[.int .i64 0, .int .i64 0, .int .i64 0] (m + 1)).toList := ⟨_, rfl⟩
 have hz : zs.length = (m + 1) * 3 := by rw [hzs, Array.length_toList, size_zeroCells]; rfl
 have hst := run_storeCells_at prog g (kk * 3) 71 zs 0 cur w hg (by rw [hz]; omega) (by rw [hzs]; exact j1n _ _ (by simp [Value.oneCell']))
 simp only [Nat.add_zero] at hst
 obtain ⟨F, hF⟩ : ∃ F, F = (cur.toList.take (kk * 3) ++ zs ++ cur.toList.drop (kk * 3 + zs.length)).toArray := ⟨_, rfl⟩
 rw [<- hF] at hst
 refine ⟨w.setRow g F, fun ty => ?_, ⟨?_, .inr ⟨g, cap, F, rfl, hb, setRow_heap w g cur _ _ _ hg, by omega, hcm, ?_, ?_⟩⟩, fun {w0} hB => ?_⟩
 · rw [hzs] at hst
   simp only [Builtin.clear_]
   simp [run_underlying underlying22, Value.cells, hst]
 · rw [j0b k0q, l7, m3 (by omega)]
 · rw [hF]
   simp only [List.size_toArray, List.length_append, l7, List.length_drop, Array.length_toList, hz, hcs]
   omega
 · (
 rw [hF, m1, l2 (by simp; omega), m7, Nat.min_self]
 have : (cur.toList.take (ys.length * 3)).take (kk * 3) = ((ys.flatMap encE)).take (kk * 3) := by rw [htake]
 rw [m7, m3 (by omega)] at this
 rw [this]
 have h2 := List.take_append_drop kk ys
 have h3 : ys.flatMap encE = (ys.take kk).flatMap encE ++ (ys.drop kk).flatMap encE := by rw [<- List.flatMap_append, h2]
 rw [h3, l2 (by rw [j0b k0q]; simp; omega), l1 (by rw [j0b k0q]; simp; omega)])
 · exact hB.trans ⟨rfl, rfl, rfl, by simp [World.setRow], fun k hk => setRow_other w g k _ (by omega)⟩)
set_option maxRecDepth 100000 in
set_option maxHeartbeats 1000000 in
theorem x1b {g n cap base : Nat} {xs : List E} {w : World} (hown : w.ownsRow base 71 3 (.slice (some ⟨g, 0, none⟩) n cap) xs.length (xs.flatMap encE)) (hn : n = xs.length) (hl : xs.length <= 1000000) (hbg : base <= g) (hcap : n <= cap) :
    Calls prog 180 #[.slice (some ⟨g, 0, none⟩) n cap] w fun e w' => ∃ m, e = .returned (.slice (some ⟨g, 0, none⟩) m cap) /\ w'.ownsRow base 71 3 (.slice (some ⟨g, 0, none⟩) m cap) (cmpt xs).length ((cmpt xs).flatMap encE) /\ m = (cmpt xs).length /\ Below base w w' := by
 subst hn
 by_cases h2 : xs.length < 2
 · have hc : cmpt xs = xs := by
     match xs, h2 with
     | [], _ => rfl
     | [x], _ => rfl
   have H := hid hc; have HO := hid hown; clear hc hown
   go_enter func180, ntmps180
   go_wp2
   go_ret
   exact ⟨_, rfl, by rw [H.out]; exact HO.out, by rw [H.out], Below.refl _ _⟩
 · have HO := hid hown; clear hown
   have hbase := HO.out.lt g rfl
   go_enter func180, ntmps180
   go_wp2
   go_loopw [3] (fun i wr => ∃ q m : Nat, q + 1 <= xs.length /\ i = .int .i64 (q + 1) /\ cmpt (xs.take (q + 1)) = xs.take (q + 1) /\ wr = w.drewN m)
     (fun i _ => xs.length - (intOf i).toNat)
   case atStart => exact ⟨0, 0, by omega, rfl, by
     match xs, h2 with
     | x :: l, _ => rfl
     | [], h2 => simp at h2, rfl⟩
   case round =>
     obtain ⟨q, m, hq, rfl, hcm, rfl⟩ := hrel
     have HC := hid hcm; clear hcm
     by_cases hlt : q + 1 < xs.length
     · obtain ⟨x, hx⟩ := j0a (show q < xs.length by omega)
       obtain ⟨y, hy⟩ := j0a hlt
       have hS := z0e k0q HO.out
       have c0 := hS.e0 hx; have c1 := hS.e1 hx; have c2 := hS.e2 hx
       have d0 := hS.e0 hy; have d1 := hS.e1 hy; have d2 := hS.e2 hy
       simp only [m2] at c0 c1 c2 d0 d1 d2
       have heq := fun w => eqlE y x w
       have hgd := v1z
       have HX := hid hx; have HY := hid hy
       clear hS hx hy
       have hi1 : (q : Int) + 1 < (xs.length : Int) := by omega
       have hi2 : (q : Int) < (xs.length : Int) := by omega
       by_cases hxy : y = x
       · have hb : decide (y = x) = true := by simp [hxy]
         have HE := hid hxy; clear hxy
         go_wp2_with fail
         go_quiet (fail)
         go_wp2
         have hHk : cmpt (xs.take (q + 2)) = xs.take (q + 1) := by
           rw [y0h HX.out HY.out, HC.out, if_pos HE.out.symm, m6]
         have HK := hid hHk; clear hHk
         clear c0 c1 c2 d0 d1 d2 heq hb
         go_loopw [3, 5] (fun i3 i5 wr => ∃ (kk r : Nat) (ys : List E), i3 = .int .i64 kk /\ i5 = .int .i64 (r + 1) /\ q + 1 + r + 1 <= xs.length /\ ys.length = xs.length /\
             wr.ownsRow base 71 3 (.slice (some ⟨g, 0, none⟩) xs.length cap) ys.length (ys.flatMap encE) /\ ys.take kk = cmpt (xs.take (q + 1 + r + 1)) /\ kk <= q + 1 + r /\ (∀ j, q + 1 + r <= j -> ys[j]? = xs[j]?) /\ Below base w wr)
           (fun _ i5 _ => xs.length - (intOf i5).toNat)
         case atStart => exact ⟨q + 1, 0, xs, by go_num, rfl, by omega, rfl, HO.out, HK.out.symm, by omega, fun _ _ => rfl, below_drewN (Below.refl _ _) _⟩
         case round =>
           obtain ⟨kk, r, ys, rfl, rfl, hr, hyl, hown, htk, hkk, hsame, hB⟩ := hrel
           have hsz := hB.size
           have HT := hid htk; have HS := hid hsame; have HW := hid hown; have HYL := hid hyl
           clear htk hsame hown hyl
           by_cases hrt : q + 1 + r + 1 < xs.length
           · obtain ⟨u, hu⟩ := j0a (show q + 1 + r < xs.length by omega)
             obtain ⟨v, hv⟩ := j0a hrt
             have hS := z0e k0q (show wr.ownsRow base 71 3 (.slice (some ⟨g, 0, none⟩) xs.length cap) ys.length (ys.flatMap encE) from HW.out)
             have hu' : ys[q + 1 + r]? = some u := by rw [HS.out _ (m0 _), hu]
             have hv' : ys[q + 1 + r + 1]? = some v := by rw [HS.out _ (by omega), hv]
             have c0 := hS.e0 hu'; have c1 := hS.e1 hu'; have c2 := hS.e2 hu'
             have d0 := hS.e0 hv'; have d1 := hS.e1 hv'; have d2 := hS.e2 hv'
             simp only [m2] at c0 c1 c2 d0 d1 d2
             rw [show (q + 1 + r) * 3 = (q + 1) * 3 + r * 3 by omega] at c0 c1 c2
             rw [show (q + 1 + r + 1) * 3 = (q + 1) * 3 + (r + 1) * 3 by omega] at d0 d1 d2
             have heq := fun w => neqE v u w
             have HU := hid hu; have HV := hid hv
             have hkl : kk < ys.length := by rw [HYL.out]; omega
             obtain ⟨z, hz⟩ := j0a hkl
             have k0 := hS.e0 hz; have k1 := hS.e1 hz; have k2 := hS.e2 hz
             simp only [m2] at k0 k1 k2
             have f0 : wr.frozen? ⟨g, kk * 3, none⟩ = false := p0t HW.out _
             have f1 : wr.frozen? ⟨g, kk * 3 + 1, none⟩ = false := p0t HW.out _
             have f2 : wr.frozen? ⟨g, kk * 3 + 2, none⟩ = false := p0t HW.out _
             clear hS hu hv hu' hv' hz
             have hi3 : (kk : Int) < (xs.length : Int) := by omega
             have hi4 : (r : Int) + 1 < (xs.length : Int) - (q + 1) := by omega
             have hi5 : (r : Int) < (xs.length : Int) - (q + 1) := by omega
             by_cases huv : v = u
             · have hb : decide (v = u) = true := by simp [huv]
               have HE := hid huv; clear huv
               go_wp2_with fail
               go_quiet (fail)
               go_wp2
               go_roundw
               case rel => exact ⟨kk, r + 1, ys, rfl, by go_num, by omega, HYL.out, HW.out, by
                 rw [HT.out, show q + 1 + (r + 1) + 1 = q + 1 + r + 2 by omega, y0h HU.out HV.out, if_pos HE.out.symm, m6], by omega, fun j hj => HS.out j (by omega), below_drewN hB _⟩
               case measure => simp [intOf]; omega
             · have hb : decide (v = u) = false := by simp [huv]
               have HE := hid huv; clear huv
               go_wp2_with fail
               go_quiet (fail)
               go_wp2
               go_roundw
               case rel =>
                 refine ⟨kk + 1, r + 1, ys.set kk v, by go_num, by go_num, by omega, by rw [List.length_set]; exact HYL.out, ?_, by
                   rw [show q + 1 + (r + 1) + 1 = q + 1 + r + 2 by omega, y0h HU.out HV.out, if_neg (fun e => HE.out e.symm), <- HT.out]
                   rw [take_snoc (i := kk) (x := v) (by rw [l5, if_pos rfl, if_pos hkl]), List.take_set_of_le (m0 _)], by omega, fun j hj => by
                   rw [l5, if_neg (by omega)]; exact HS.out j (by omega), ?_⟩
                 · exact z2b (w := wr.drewN nq) (x := v) HW.out HYL.out.symm kk hkl
                 · exact k2e (below_drewN hB _) hbg
               case measure => simp [intOf]; omega
           · have hend : q + 1 + r + 1 = xs.length := by omega
             obtain ⟨w1, hcl, hown1, hB1⟩ := p3h (show wr.ownsRow base 71 3 (.slice (some ⟨g, 0, none⟩) xs.length cap) ys.length (ys.flatMap encE) from HW.out) HYL.out.symm kk (cap - kk) (by omega)
             have hlen : (ys.take kk).length = kk := by rw [l7, HYL.out]; omega
             have HE2 := hid hend; have HO1 := hid hown1; have HLN := hid hlen; have HB1 := hB1 hB
             clear hend hown1 hlen hB1
             have hk1 : (kk : Int) < (cap : Int) := by omega
             go_wp2
             go_ret
             have ht := HT.out
             rw [HE2.out, l1 (m0 _)] at ht
             exact ⟨kk, rfl, by rw [<- ht, HLN.out]; exact HO1.out, by rw [<- ht, HLN.out], HB1⟩
       · have hb : decide (y = x) = false := by simp [hxy]
         have HE := hid hxy; clear hxy
         go_wp2_with fail
         go_quiet (fail)
         go_wp2
         go_roundw
         case rel => exact ⟨q + 1, _, by omega, by go_num, by
           rw [show q + 1 + 1 = q + 2 by omega, y0h HX.out HY.out, if_neg (fun e => HE.out e.symm), HC.out, take_snoc HY.out], rfl⟩
         case measure => simp [intOf]; omega
     · have hend : xs.take (q + 1) = xs := l1 (by omega)
       have H := hid hend; clear hend
       go_wp2
       go_ret
       have hc := HC.out
       rw [H.out] at hc
       exact ⟨_, rfl, by rw [hc]; exact HO.out, by rw [hc], below_drewN (Below.refl _ _) _⟩
end Go.Proofs.YtbaccmlfnbgehaaGreatDoor

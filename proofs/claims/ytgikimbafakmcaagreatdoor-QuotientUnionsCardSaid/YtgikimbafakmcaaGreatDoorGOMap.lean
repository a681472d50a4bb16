/-
  Lemmas.
-/
import Derived.Maps.OwnSet
import Derived.DeepKeys4
import Derived.Test.YtgikimbafakmcaaGreatDoorGFault
import Derived.Lib.SmallJoins
import Derived.MapViews
import Derived.Test.YtgikimbafakmcaaGreatDoorGRws
import Derived.Test.YtgikimbafakmcaaGreatDoorGStrI
import Derived.Test.YtgikimbafakmcaaGreatDoorGPl6
import Derived.Test.YtgikimbafakmcaaGreatDoorGPl1
set_option maxRecDepth 100000
namespace Go.Proofs.YtgikimbafakmcaaGreatDoor
open Go.RowKit Go.Maps Go.ChangeMaps
structure KeyEnc {κ : Type} (P : Program) (k : TypeId) (enck : κ -> Value) (ok : κ -> Prop) : Prop where
  K : Keyed P k
  key : ∀ x, ok x -> ∃ l, keyOf P k (enck x) = some l
  inj : ∀ x y, enck x = enck y -> x = y
section
variable {κ ν : Type} [DecidableEq κ] {P : Program} {k : TypeId} {enck : κ -> Value} {ok : κ -> Prop} {encv : ν -> Value} {w w' : World} {b n : Nat} {f : κ -> Option ν}
structure OMap (w : World) (b : Nat) (enck : κ -> Value) (ok : κ -> Prop) (encv : ν -> Value) (f : κ -> Option ν) (n : Nat) : Prop where
  ex : ∃ (l : List (κ × ν)) (es : Array MapEntry) (clock : Nat), w.heap[b]? = some (.map es clock) /\ es.toList.map (fun e => (e.key, e.val)) = l.map (fun p => (enck p.1, encv p.2)) /\
    (∀ p ∈ l, ok p.1) /\ (l.map Prod.fst).Nodup /\ (∀ x, f x = (l.find? (fun p => decide (p.1 = x))).map Prod.snd) /\ l.length = n
theorem OMap.made (w : World) : OMap (w.alloc (.map #[] 0)) w.heap.size enck ok encv (fun _ => (none : Option ν)) 0 :=
  ⟨[], #[], 0, (MapKept.heap_alloc w _).1, rfl, by simp, by simp, by simp, rfl⟩
theorem OMap.lt (h : OMap w b enck ok encv f n) : b < w.heap.size := by
 obtain ⟨l, es, clock, hb, _⟩ := h.ex
 exact (Array.getElem?_eq_some_iff.1 hb).1
theorem OMap.of_block (h : OMap w b enck ok encv f n) (hb : w'.heap[b]? = w.heap[b]?) : OMap w' b enck ok encv f n := by
 obtain ⟨l, es, clock, h1, h2⟩ := h.ex
 exact ⟨l, es, clock, hb.trans h1, h2⟩
theorem OMap.congr {g : κ -> Option ν} (h : OMap w b enck ok encv f n) (e : ∀ x, f x = g x) : OMap w b enck ok encv g n := by
 have : f = g := funext e
 rw [<- this]; exact h
theorem OMap.block (h : OMap w b enck ok encv f n) : ∃ es clock, w.heap[b]? = some (.map es clock) := by
 obtain ⟨l, es, clock, h1, _⟩ := h.ex; exact ⟨es, clock, h1⟩
omit [DecidableEq κ] in
theorem entry_at {l : List (κ × ν)} {es : List MapEntry} (h : es.map (fun e => (e.key, e.val)) = l.map (fun p => (enck p.1, encv p.2))) {j : Nat} {e : MapEntry} (he : es[j]? = some e) :
    ∃ p, l[j]? = some p /\ e.key = enck p.1 /\ e.val = encv p.2 := by
 have h1 : (es.map (fun e => (e.key, e.val)))[j]? = some (e.key, e.val) := by rw [List.getElem?_map, he]; rfl
 rw [h, List.getElem?_map] at h1
 obtain ⟨p, hp, h2⟩ := Option.map_eq_some_iff.1 h1
 simp only [Prod.mk.injEq] at h2
 exact ⟨p, hp, h2.1.symm, h2.2.symm⟩
theorem find_at : ∀ {l : List (κ × ν)}, (l.map Prod.fst).Nodup -> ∀ {j : Nat} {p : κ × ν}, l[j]? = some p -> l.find? (fun q => decide (q.1 = p.1)) = some p
  | [], _, _, _, h => by simp at h
  | q :: l, hn, 0, p, h => by
    simp at h; subst h; simp
  | q :: l, hn, j + 1, p, h => by
    simp at h
    rw [List.map_cons, List.nodup_cons] at hn
    have hne : q.1 ≠ p.1 := fun e => hn.1 (by rw [e]; exact List.mem_map.2 ⟨p, List.mem_of_getElem? h, rfl⟩)
    rw [List.find?_cons_of_neg (by simpa using hne)]
    exact find_at hn.2 h
theorem find_none {l : List (κ × ν)} {x : κ} (h : ∀ p ∈ l, p.1 ≠ x) : l.find? (fun q => decide (q.1 = x)) = none := by
 rw [List.find?_eq_none]; intro p hp; simpa using h p hp
omit [DecidableEq κ] in
theorem OMap.search (E : KeyEnc P k enck ok) {x : κ} (hx : ok x) (w0 : World) {l : List (κ × ν)} {es : List MapEntry} (h : es.map (fun e => (e.key, e.val)) = l.map (fun p => (enck p.1, encv p.2))) (hok : ∀ p ∈ l, ok p.1) :
    ((Instr.findKey k (enck x) es).run P w0 = .ok none w0 /\ ∀ p ∈ l, p.1 ≠ x) ∨
    ∃ j p e, (Instr.findKey k (enck x) es).run P w0 = .ok (some (j, encv p.2)) w0 /\ l[j]? = some p /\ p.1 = x /\ es[j]? = some e /\ e.key = enck x := by
 obtain ⟨kl, hkl⟩ := E.key x hx
 have hkeys : ∀ e ∈ es, ∃ l, keyOf P k e.key = some l := fun e he => by (
 obtain ⟨j, hj⟩ := List.getElem?_of_mem he
 obtain ⟨p, hp, h1, _⟩ := entry_at h hj
 rw [h1]; exact E.key _ (hok p (List.mem_of_getElem? hp)))
 rcases E.K.find w0 hkl es hkeys with ⟨h1, h2⟩ | ⟨j, e, h1, h2, h3⟩
 · (
 refine .inl ⟨h1, fun p hp e => ?_⟩
 obtain ⟨j, hj⟩ := List.getElem?_of_mem hp
 have hl : es.length = l.length := by have := congrArg List.length h; simpa using this
 have hj2 : j < es.length := by rw [hl]; exact (List.getElem?_eq_some_iff.1 hj).1
 obtain ⟨q, hq, h4, _⟩ := entry_at h (List.getElem?_eq_getElem hj2)
 rw [hj] at hq
 cases hq
 exact h2 _ (List.getElem_mem hj2) (by rw [h4, e]))
 · obtain ⟨p, hp, h4, h5⟩ := entry_at h h2
   exact .inr ⟨j, p, e, by rw [<- h5]; exact h1, hp, E.inj _ _ (by rw [<- h4, h3]), h2, h3⟩
theorem OMap.look {t e : TypeId} (h : OMap w b enck ok encv f n) (E : KeyEnc P k enck ok) (ht : P.underlying t = some (.map k e)) {z : Value} (hz : (zeroValue e).run P w = .ok z w) {x : κ} (hx : ok x) (c : Bool) :
    (Instr.lookup t (.map (some b)) (enck x) c).run P w = .ok (if c then .tuple #[((f x).map encv).getD z, .bool (f x).isSome] else ((f x).map encv).getD z) w := by
 obtain ⟨l, es, clock, hb, hl, hok, hnd, hf, _⟩ := h.ex
 obtain ⟨kl, hkl⟩ := E.key x hx
 rcases OMap.search E hx w hl hok with ⟨h1, h2⟩ | ⟨j, p, e0, h1, h2, h3, h4, h5⟩
 · have hfx : f x = none := by rw [hf, find_none h2]; rfl
   rw [hfx]
   simp [Instr.lookup, run_underlying ht, MapKept.run_getObj_map hb, E.K.check w _ hkl, h1, hz, Result.andThen]
 · have hfx : f x = some p.2 := by rw [hf, <- h3, find_at hnd h2]; rfl
   rw [hfx]
   simp [Instr.lookup, run_underlying ht, MapKept.run_getObj_map hb, E.K.check w _ hkl, h1, Result.andThen]
theorem find_upd : ∀ {l : List (κ × ν)} {j : Nat} {p : κ × ν} (v : ν), (l.map Prod.fst).Nodup -> l[j]? = some p -> ∀ y, (l.set j (p.1, v)).find? (fun q => decide (q.1 = y)) = if y = p.1 then some (p.1, v) else l.find? (fun q => decide (q.1 = y))
  | [], _, _, _, _, h, _ => by simp at h
  | q :: l, 0, p, v, hn, h, y => by
    simp at h; subst h
    by_cases e : y = q.1
    · subst e; simp
    · rw [if_neg e, List.set_cons_zero, List.find?_cons_of_neg (by simpa using fun e2 => e e2.symm), List.find?_cons_of_neg (by simpa using fun e2 => e e2.symm)]
  | q :: l, j + 1, p, v, hn, h, y => by
    simp at h
    rw [List.map_cons, List.nodup_cons] at hn
    have hne : q.1 ≠ p.1 := fun e => hn.1 (by rw [e]; exact List.mem_map.2 ⟨p, List.mem_of_getElem? h, rfl⟩)
    rw [List.set_cons_succ]
    by_cases e : q.1 = y
    · subst e
      rw [if_neg hne, List.find?_cons_of_pos (by simp), List.find?_cons_of_pos (by simp)]
    · rw [List.find?_cons_of_neg (by simpa using e), List.find?_cons_of_neg (by simpa using e)]
      exact find_upd v hn.2 h y
omit [DecidableEq κ] in
theorem set_fst {l : List (κ × ν)} {j : Nat} {p : κ × ν} (v : ν) (h : l[j]? = some p) : (l.set j (p.1, v)).map Prod.fst = l.map Prod.fst := by
 rw [List.map_set]
 apply List.ext_getElem?
 intro i
 rw [List.getElem?_set]
 split
 · (
 rename_i e
 subst e
 split
 · rw [List.getElem?_map, h]; rfl
 · rename_i h2
   rw [List.getElem?_eq_none (by omega)])
 · rfl
theorem OMap.put {t e : TypeId} (h : OMap w b enck ok encv f n) (E : KeyEnc P k enck ok) (ht : P.underlying t = some (.map k e)) {x : κ} (hx : ok x) (v : ν) :
    ∃ w', (Instr.mapUpdate t (.map (some b)) (enck x) (encv v)).run P w = .ok () w' /\ OMap w' b enck ok encv (fun y => if y = x then some v else f y) (if (f x).isSome then n else n + 1) /\ w.grownBy w' (some b) /\ (∀ a : Addr, w'.frozen? a = w.frozen? a) /\ w'.heap.size = w.heap.size := by
 obtain ⟨l, es, clock, hb, hl, hok, hnd, hf, hn⟩ := h.ex
 obtain ⟨kl, hkl⟩ := E.key x hx
 have fz : ∀ es' clock' (a : Addr), (setBlock w b (.map es' clock')).frozen? a = w.frozen? a := by (
 intro es' clock' a
 unfold World.frozen?
 by_cases e : a.block = b
 · rw [e, heap_setBlock_same hb _, hb]
 · rw [heap_setBlock_other hb _ e])
 have gr : ∀ es' clock', w.grownBy (setBlock w b (.map es' clock')) (some b) := fun es' clock' =>
   ⟨rfl, rfl, rfl, by simp [setBlock], fun i _ hi => heap_setBlock_other hb _ (fun e => hi (by rw [e]))⟩
 rcases OMap.search E hx w hl hok with ⟨h1, h2⟩ | ⟨j, p, e0, h1, h2, h3, h4, h5⟩
 · (
 have hfx : f x = none := by rw [hf, find_none h2]; rfl
 refine ⟨setBlock w b (.map (es.push ⟨enck x, encv v, clock⟩) (clock + 1)), ?_, ?_, gr _ _, fz _ _, by simp [setBlock]⟩
 · simp [Instr.mapUpdate, run_underlying ht, MapKept.run_getObj_map hb, E.K.check w false hkl, h1, MapKept.run_setObj_map _ hb, Result.andThen, setBlock]
 · (
 rw [hfx]
 refine ⟨l ++ [(x, v)], _, _, heap_setBlock_same hb _, by simp [hl], ?_, ?_, ?_, by simp [hn]⟩
 · intro p hp
   rcases List.mem_append.1 hp with hp | hp
   · exact hok p hp
   · simp at hp; subst hp; exact hx
 · (
 rw [List.map_append, List.nodup_append]
 refine ⟨hnd, by simp, ?_⟩
 intro a ha c hc e
 simp at hc; subst hc; subst e
 obtain ⟨q, hq, rfl⟩ := List.mem_map.1 ha
 exact h2 q hq rfl)
 · (
 intro y
 rw [List.find?_append]
 by_cases e : y = x
 · subst e; rw [if_pos rfl, find_none h2]; simp
 · rw [if_neg e, hf]
   have hxy : ¬ x = y := fun e2 => e e2.symm
   have : ([(x, v)] : List (κ × ν)).find? (fun p => decide (p.1 = y)) = none := by simp [hxy]
   rw [this]; simp)))
 · (
 have hfx : f x = some p.2 := by rw [hf, <- h3, find_at hnd h2]; rfl
 have hj : es[j]? = some e0 := by simpa using h4
 refine ⟨setBlock w b (.map (es.modify j (fun e' => { e' with key := enck x, val := encv v })) clock), ?_, ?_, gr _ _, fz _ _, by simp [setBlock]⟩
 · simp [Instr.mapUpdate, run_underlying ht, MapKept.run_getObj_map hb, E.K.check w false hkl, h1, hj, h5, E.K.stays w hkl, MapKept.run_setObj_map _ hb, Result.andThen, setBlock]
 · (
 rw [hfx]
 refine ⟨l.set j (x, v), _, _, heap_setBlock_same hb _, ?_, ?_, ?_, ?_, by simp [hn]⟩
 · rw [Array.toList_modify, modify_eq_set _ _ _ _ h4, List.map_set, List.map_set, hl]
 · intro q hq
   rcases List.mem_or_eq_of_mem_set hq with hq | rfl
   · exact hok q hq
   · exact hx
 · rw [<- h3, set_fst v h2]; exact hnd
 · intro y
   rw [<- h3, find_upd v hnd h2]
   by_cases e : y = p.1
   · rw [if_pos e, if_pos e]; rfl
   · rw [if_neg e, if_neg e, hf]))
theorem OMap.len {t e : TypeId} (h : OMap w b enck ok encv f n) (ht : P.underlying t = some (.map k e)) (ty : TypeId) : (Builtin.len_ #[t] ty #[.map (some b)]).run P w = .ok (.int .i64 n) w := by
 obtain ⟨l, es, clock, hb, hl, _, _, _, hn⟩ := h.ex
 have hs : es.size = n := by (
 have := congrArg List.length hl
 simp at this
 omega)
 rw [<- hs]
 simp [Builtin.len_, run_underlying ht, MapKept.run_getObj_map hb, goInt, Result.andThen]
/-! at the operation, for the walk -/
variable {ops : Array Oper} {rest : List Oper} {o : Oper} {a : Act} {Q : Exit -> Act -> World -> Prop}
theorem wpList_olook_ok (hg : o.guard = none) (m x : Operand) (t : TypeId) (hop : o.op = Op.lookup t m x true) {e : TypeId} (E : KeyEnc P k enck ok) (ht : P.underlying t = some (.map k e)) {z : Value} (hz : (zeroValue e).run P w = .ok z w)
    (hm : a.eval m = .map (some b)) (h : OMap w b enck ok encv f n) (y : κ) (hy : ok y) (hx : a.eval x = enck y)
    (hK : wpList P ops Q rest (a.put o.dst (.tuple #[((f y).map encv).getD z, .bool (f y).isSome])) w) : wpList P ops Q (o :: rest) a w := by
 refine wpList_plain hg fun K' hK' => ?_
 have hrun := h.look E ht hz hy true
 unfold Oper.wp
 simp [execOp, hop, hm, hx, hrun, Result.andThen]
 exact hK' _ _ hK
theorem wpList_oput (hg : o.guard = none) (m x v : Operand) (t : TypeId) (hop : o.op = Op.mapUpdate t m x v) {e : TypeId} (E : KeyEnc P k enck ok) (ht : P.underlying t = some (.map k e))
    (hm : a.eval m = .map (some b)) (h : OMap w b enck ok encv f n) (y : κ) (hy : ok y) (hx : a.eval x = enck y) (u : ν) (hv : a.eval v = encv u)
    (hK : ∀ w', OMap w' b enck ok encv (fun z => if z = y then some u else f z) (if (f y).isSome then n else n + 1) -> w.grownBy w' (some b) -> (∀ a : Addr, w'.frozen? a = w.frozen? a) -> w'.heap.size = w.heap.size -> wpList P ops Q rest (a.put o.dst undef) w') : wpList P ops Q (o :: rest) a w := by
 refine wpList_plain hg fun K' hK' => ?_
 obtain ⟨w', hrun, h1, h2, h3, h4⟩ := h.put E ht hy u
 unfold Oper.wp
 simp [execOp, hop, hm, hx, hv, hrun, Result.andThen]
 exact hK' _ _ (hK w' h1 h2 h3 h4)
end
end Go.Proofs.YtgikimbafakmcaaGreatDoor
namespace Go.Proofs.YtgikimbafakmcaaGreatDoor
open Go.RowKit Go.ChangeShapes Pl
theorem laidOutK : laidOutB Tryz.prog = true := by kernel_rfl
def encU (_ : Unit) : Value := .agg #[]
theorem zeroUnit (w : World) : (zeroValue 181).run Tryz.prog w = .ok (.agg #[]) w := by kernel_rfl
end Go.Proofs.YtgikimbafakmcaaGreatDoor
namespace Go.Proofs.YtgikimbafakmcaaGreatDoor
open Go.RowKit Go.ChangeShapes Pl
def encEv (x : E) : Value := .agg #[.int .i64 x.1, .int .i64 x.2.1, .int .i64 x.2.2]
def okE (x : E) : Prop := (Lit.int .i64 x.1).wf = true /\ (Lit.int .i64 x.2.1).wf = true /\ (Lit.int .i64 x.2.2).wf = true
theorem rowEdg : (57 : TypeId) < Tryz.prog.types.size := of_decide_eq_true (by kernel_rfl)
theorem wideEdg : (match Tryz.prog.underlying 57 with | some (.array _ _) | some (.struct _) => true | _ => false) = true := by rw [Tryz.underlying57]
theorem lawEdg : Go.WideMaps.KeyLaw Tryz.prog 57 := deep_law_laid laidOutK (m := 2) (by omega) rowEdg (by kernel_rfl) wideEdg
theorem deepEdg : Tryz.prog.keyTypeAt (Tryz.prog.types.size + 1) 57 = true := by kernel_rfl
theorem cellsEdg : Tryz.prog.cellsOf 57 = 3 := by kernel_rfl
theorem formedEdg (c0 c1 c2 : Value) : (Value.agg #[c0, c1, c2]).formed Tryz.prog 57 = true := by simp [Value.formed, Tryz.underlying57, cellsEdg]
theorem keyEdg (x : E) (h : okE x) : ∃ l, keyOf Tryz.prog 57 (encEv x) = some l := by
 have t0 := shut_int (H := Unit) (enc := fun _ => ()) (P := Tryz.prog) (w := default) (base := 0) (spare := fun _ => true) (held := true) Tryz.underlying3 h.1
 have t1 := shut_int (H := Unit) (enc := fun _ => ()) (P := Tryz.prog) (w := default) (base := 0) (spare := fun _ => true) (held := true) Tryz.underlying3 h.2.1
 have t2 := shut_int (H := Unit) (enc := fun _ => ()) (P := Tryz.prog) (w := default) (base := 0) (spare := fun _ => true) (held := true) Tryz.underlying3 h.2.2
 have h2 := Go.Joins.shut_agg3 (y0 := (.lit (.int .i64 x.1), [])) (y1 := (.lit (.int .i64 x.2.1), [])) (y2 := (.lit (.int .i64 x.2.2), [])) Tryz.underlying57 (by kernel_rfl) cellsEdg t0 t1 t2
 exact ⟨_, (keyOf_asKey deepEdg wideEdg (formedEdg _ _ _) h2).1⟩
theorem encEdg : KeyEnc Tryz.prog 57 encEv okE where
  K := Go.Maps.Keyed.of_law lawEdg
  key := keyEdg
  inj x y h := by
    obtain ⟨x1, x2, x3⟩ := x; obtain ⟨y1, y2, y3⟩ := y
    unfold encEv at h
    simp only [Value.agg.injEq, Array.mk.injEq, List.cons.injEq, Value.int.injEq, true_and, and_true] at h
    rw [h.1, h.2.1, h.2.2]
def encNv (x : Int) : Value := .int .i64 x
def okN (x : Int) : Prop := (Lit.int .i64 x).wf = true
theorem encNum : KeyEnc Tryz.prog 3 encNv okN where
  K := Go.Maps.int_keyed Tryz.underlying3
  key x h := ⟨_, Go.Maps.keyOf_int_mk Tryz.underlying3 h⟩
  inj x y h := by unfold encNv at h; simpa using h
theorem zeroNum (w : World) : (zeroValue 3).run Tryz.prog w = .ok (.int .i64 0) w := by kernel_rfl
theorem Rws.mapPut {w0 w w' : World} {L : List Rw} {mb : Nat} (h : Rws w0 w L) (hg : w.grownBy w' (some mb)) (hm : ∃ es c, w.heap[mb]? = some (.map es c)) (hlo : w0.heap.size <= mb) : Rws w0 w' L := by
 refine ⟨h.bel.grown hg h.bel.size (fun k hk => by cases hk; exact hlo), fun r hr => own_blockR (h.own r hr) (fun g hgb => ?_), h.apart⟩
 have h1 := (h.own r hr).lt g hgb
 refine hg.block g h1.2 (fun e => ?_)
 obtain ⟨es, c, h2⟩ := hm
 obtain rfl := Option.some.inj e
 rcases (h.own r hr).2 with ⟨h3, _⟩ | ⟨g2, cap, cur, h3, _, h4, _⟩
 · rw [h3] at hgb; cases hgb
 · rw [h3] at hgb
   obtain rfl := Option.some.inj hgb
   rw [h2] at h4; cases h4
end Go.Proofs.YtgikimbafakmcaaGreatDoor
namespace Go.Proofs.YtgikimbafakmcaaGreatDoor
open Go.RowKit Pl
theorem atLF {n : Nat} {f : Nat -> Int} {t : Nat} (h : t < n) : atL (fl n f) (t : Int) = f t := by
 unfold atL
 rw [Int.toNat_natCast, List.getD_eq_getElem?_getD, fl_get f h]; rfl
/-! other numbers -/
/-! edges in another order -/
/-! logarithms -/
end Go.Proofs.YtgikimbafakmcaaGreatDoor
namespace Go.Proofs.YtgikimbafakmcaaGreatDoor
open Go.RowKit Pl
structure Bis2 (s : Lts) (n : Nat) (t : Lts) (m : Nat) (R : Nat -> Nat -> Prop) : Prop where
  fwd : ∀ p q, p < n -> q < m -> R p q -> ∀ l p', p' < n -> stp s p l p' -> ∃ q', q' < m /\ stp t q l q' /\ R p' q'
  bwd : ∀ p q, p < n -> q < m -> R p q -> ∀ l q', q' < m -> stp t q l q' -> ∃ p', p' < n /\ stp s p l p' /\ R p' q'
def Eqv (s : Lts) (n p : Nat) (t : Lts) (m q : Nat) : Prop := ∃ R, Bis2 s n t m R /\ R p q
theorem Eqv.symm {s t : Lts} {n p m q : Nat} (h : Eqv s n p t m q) : Eqv t m q s n p := by
 obtain ⟨R, h1, h2⟩ := h
 exact ⟨fun a b => R b a, ⟨fun p q hp hq hr l p' hp' hs => h1.bwd q p hq hp hr l p' hp' hs, fun p q hp hq hr l q' hq' hs => h1.fwd q p hq hp hr l q' hq' hs⟩, h2⟩
theorem Eqv.trans {s t u : Lts} {n p m q k r : Nat} (h : Eqv s n p t m q) (h' : Eqv t m q u k r) (hq : q < m) : Eqv s n p u k r := by
 obtain ⟨R, h1, h2⟩ := h
 obtain ⟨Q, h3, h4⟩ := h'
 refine ⟨fun a b => ∃ c, c < m /\ R a c /\ Q c b, ⟨?_, ?_⟩, q, hq, h2, h4⟩
 · rintro a b ha hb ⟨c, hc, e1, e2⟩ l a' ha' hs
   obtain ⟨c', hc', s1, e3⟩ := h1.fwd a c ha hc e1 l a' ha' hs
   obtain ⟨b', hb', s2, e4⟩ := h3.fwd c b hc hb e2 l c' hc' s1
   exact ⟨b', hb', s2, c', hc', e3, e4⟩
 · rintro a b ha hb ⟨c, hc, e1, e2⟩ l b' hb' hs
   obtain ⟨c', hc', s1, e3⟩ := h3.bwd c b hc hb e2 l b' hb' hs
   obtain ⟨a', ha', s2, e4⟩ := h1.bwd a c ha hc e1 l c' hc' s1
   exact ⟨a', ha', s2, c', hc', e4, e3⟩
/-! unions -/
def shE (n : Int) (e : E) : E := (e.1 + n, e.2.1, e.2.2 + n)
def uniS (s t : Lts) : Lts := ⟨s.st + t.st, max s.lb t.lb, if s.st = 0 then t.s0 else s.s0, s.es ++ t.es.map (shE s.st)⟩
theorem uni_left {s t : Lts} (hr' : t.Right) {n : Nat} (hn : s.st = (n : Int)) {p x : Nat} {l : Int} (hp : p < n) : stp (uniS s t) p l x ↔ stp s p l x := by
 unfold stp uniS
 simp only [List.mem_append, List.mem_map]
 constructor
 · (
 rintro (h | ⟨e, he, h⟩)
 · exact h
 · have := offB_false.1 (hr'.edges _ he)
   unfold shE at h
   simp only [Prod.mk.injEq] at h
   omega)
 · intro h; exact .inl h
theorem uni_right {s t : Lts} (hr : s.Right) (hr' : t.Right) {n : Nat} (hn : s.st = (n : Int)) {q x : Nat} {l : Int} : stp (uniS s t) (n + q) l x ↔ ∃ y : Nat, x = n + y /\ stp t q l y := by
 unfold stp uniS
 simp only [List.mem_append, List.mem_map]
 constructor
 · (
 rintro (h | ⟨e, he, h⟩)
 · have := offB_false.1 (hr.edges _ h)
   simp only at this
   omega
 · (
 have h1 := offB_false.1 (hr'.edges _ he)
 unfold shE at h
 obtain ⟨e1, e2, e3⟩ := e
 simp only [Prod.mk.injEq] at h h1
 obtain ⟨g1, rfl, g3⟩ := h
 have k1 : e1 = (q : Int) := by omega
 obtain ⟨y, rfl⟩ := Int.eq_ofNat_of_zero_le h1.2.2.2.2.1
 subst k1
 exact ⟨y, by omega, he⟩))
 · rintro ⟨y, rfl, h⟩
   exact .inr ⟨_, h, Prod.ext (by show (q : Int) + s.st = ((n + q : Nat) : Int); omega) (Prod.ext rfl (by show (y : Int) + s.st = ((n + y : Nat) : Int); omega))⟩
theorem uni_Right {s t : Lts} (hr : s.Right) (hr' : t.Right) (h1 : s.st + t.st <= 1000) (h2 : s.es.length + t.es.length <= 10000) : (uniS s t).Right := by
 have a := hr.st0; have b := hr'.st0
 have hh := hr.head; have hh' := hr'.head
 refine ⟨?_, fun x hx => ?_⟩
 · unfold HeadBad uniS at *
   simp only [List.length_append, List.length_map] at *
   split <;> omega
 · (
 unfold uniS at hx
 simp only [List.mem_append, List.mem_map] at hx
 rw [offB_false]
 unfold uniS
 simp only
 rcases hx with h | ⟨e, he, rfl⟩
 · have := offB_false.1 (hr.edges _ h); omega
 · have := offB_false.1 (hr'.edges _ he)
   unfold shE
   simp only
   omega)
theorem uni_big {s t : Lts} (hr : s.Right) (hr' : t.Right) {n m : Nat} (hn : s.st = (n : Int)) {C : Nat -> Int} (h : Big (uniS s t) (n + m) C) {p q : Nat} (hp : p < n) (hq : q < m) : C p = C (n + q) ↔ Eqv s n p t m q := by
 constructor
 · (
 intro e
 refine ⟨fun a b => C a = C (n + b), ⟨?_, ?_⟩, e⟩
 · intro a b ha hb hab l a' ha' hs
   obtain ⟨u, hu, h1, h2⟩ := (h.bis a (n + b) (by omega) (by omega) hab).1 l a' (by omega) ((uni_left hr' hn ha).2 hs)
   obtain ⟨y, rfl, h3⟩ := (uni_right hr hr' hn).1 h1
   exact ⟨y, by omega, h3, h2⟩
 · (
 intro a b ha hb hab l b' hb' hs
 obtain ⟨u, hu, h1, h2⟩ := (h.bis a (n + b) (by omega) (by omega) hab).2 l (n + b') (by omega) ((uni_right hr hr' hn).2 ⟨b', rfl, hs⟩)
 have h3 := (uni_left hr' hn ha).1 h1
 have h4 := offB_false.1 (hr.edges _ h3)
 simp only at h4
 exact ⟨u, by omega, h3, h2⟩))
 · (
 rintro ⟨R, h1, h2⟩
 refine h.all (fun x y => (x < n /\ ∃ b, y = n + b /\ R x b) ∨ (y < n /\ ∃ b, x = n + b /\ R y b)) (fun x y hx hy hxy => ?_) p (n + q) (by omega) (by omega) (.inl ⟨hp, q, rfl, h2⟩)
 rcases hxy with ⟨hxn, b, rfl, hr1⟩ | ⟨hyn, b, rfl, hr1⟩
 · (
 refine ⟨fun l x' hx' hs => ?_, fun l y' hy' hs => ?_⟩
 · have h3 := (uni_left hr' hn hxn).1 hs
   have h4 := offB_false.1 (hr.edges _ h3)
   simp only at h4
   obtain ⟨b', hb', s1, e1⟩ := h1.fwd x b hxn (by omega) hr1 l x' (by omega) h3
   exact ⟨n + b', by omega, (uni_right hr hr' hn).2 ⟨b', rfl, s1⟩, .inl ⟨by omega, b', rfl, e1⟩⟩
 · obtain ⟨b', rfl, h3⟩ := (uni_right hr hr' hn).1 hs
   obtain ⟨x', hx', s1, e1⟩ := h1.bwd x b hxn (by omega) hr1 l b' (by omega) h3
   exact ⟨x', by omega, (uni_left hr' hn hxn).2 s1, .inl ⟨hx', b', rfl, e1⟩⟩)
 · (
 refine ⟨fun l x' hx' hs => ?_, fun l y' hy' hs => ?_⟩
 · obtain ⟨b', rfl, h3⟩ := (uni_right hr hr' hn).1 hs
   obtain ⟨y', hy', s1, e1⟩ := h1.bwd y b hyn (by omega) hr1 l b' (by omega) h3
   exact ⟨y', by omega, (uni_left hr' hn hyn).2 s1, .inr ⟨hy', b', rfl, e1⟩⟩
 · have h3 := (uni_left hr' hn hyn).1 hs
   have h4 := offB_false.1 (hr.edges _ h3)
   simp only at h4
   obtain ⟨b', hb', s1, e1⟩ := h1.fwd y b hyn (by omega) hr1 l y' (by omega) h3
   exact ⟨n + b', by omega, (uni_right hr hr' hn).2 ⟨b', rfl, s1⟩, .inr ⟨by omega, b', rfl, e1⟩⟩))
/-! quotients -/
def clsL (L : List Int) (P : List Int) : List Int := dist (P.map (atL L))
def toI (D : List Int) (c : Int) : Int := if c ∈ D then (D.idxOf c : Int) else -1
def quoE (s : Lts) (L D P : List Int) : List E := P.flatMap (fun p => (s.outs p).map (fun x => (toI D (atL L p), x.1, toI D (atL L x.2))))
noncomputable def quoD (s : Lts) (L : List Int) : List Int := clsL L (reachL s)
noncomputable def quoS (s : Lts) (L : List Int) : Lts := ⟨((quoD s L).length : Int), s.lb, toI (quoD s L) (atL L s.s0), nf ltE (quoE s L (quoD s L) (reachL s))⟩
section
variable {s : Lts} {n z : Nat} {C : Nat -> Int}
theorem quo_rng (hr : s.Right) (hn : s.st = (n : Int)) (hn0 : 0 < n) {x : Int} (h : x ∈ reachL s) : ∃ p : Nat, x = (p : Int) /\ p < n /\ Rch s (p : Int) := by
 have h1 := (mem_reachL hr (by omega)).1 h
 have h2 := h1.rng hr (by omega)
 obtain ⟨p, rfl⟩ := Int.eq_ofNat_of_zero_le h2.1
 exact ⟨p, rfl, by omega, h1⟩
theorem quo_start (hr : s.Right) (hn : s.st = (n : Int)) (hn0 : 0 < n) : s.s0 ∈ reachL s := (mem_reachL hr (by omega)).2 (Rch.start s)
end
end Go.Proofs.YtgikimbafakmcaaGreatDoor

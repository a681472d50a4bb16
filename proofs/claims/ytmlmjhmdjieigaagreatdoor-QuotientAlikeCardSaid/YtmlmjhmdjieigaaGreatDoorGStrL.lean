/-
  strong.Classes.
  The classes that strong.Classes tells, as a function (LawRel and Alive9 hold the same under the same names: never import both).
  Maps that a call makes, keyed by whatever the kit's 'Keyed' serves (ints, strings, structs, arrays), elements of any make: what the map holds is a plain function.
  Maps keyed by api.Step: how the keys read.
  Maps keyed by edges, by numbers: how the keys read; rows beside a map that grows.
  Plain: steps met by classes, as a loop tells it; a system with other numbers; edges in another order; logarithms.
-/
import Derived.Test.YtmlmjhmdjieigaaGreatDoorGStrJ
import Derived.Test.YtmlmjhmdjieigaaGreatDoorGKit
import Derived.Maps.OwnSet
import Derived.DeepKeys4
import Derived.Lib.SmallJoins
import Derived.MapViews
import Derived.Test.YtmlmjhmdjieigaaGreatDoorGRws
import Derived.Test.YtmlmjhmdjieigaaGreatDoorGPl6
namespace Go.Proofs.YtmlmjhmdjieigaaGreatDoor
open Go.RowKit Pl

theorem big_norm {s : Lts} {n : Nat} {C : Nat → Int} (h : Big s.norm n C) : Big s n C := h.steps (fun _ _ _ _ _ => mem_nf stoE _ s.es)

/-- What Classes answers of a right system. -/
def StrClasses (s : Lts) (n : Nat) (w : World) (e : Ending) (w' : World) : Prop :=
  ∃ (inn : Nat → Nat) (a : Option Addr) (c : Nat), Big s n (fun p => (inn p : Int)) ∧ e = .returned (.tuple #[.slice a n c, .nilIface]) ∧ w'.ownsRow w.heap.size 3 1 (.slice a n c) n ((canon (flN n inn)).flatMap encI) ∧ Below w.heap.size w w'

set_option maxRecDepth 100000 in
set_option maxHeartbeats 2000000 in
theorem strClasses_any {p : Addr} {s : Lts} {n : Nat} (h : s.Right) (hn : s.st = (n : Int)) {a : Option Addr} {b off c : Nat} {w : World} (hG : GErr 10 p w) (hS : SlAt encE 3 w a b off s.es) :
    Calls Tryz.prog 36 #[.agg #[.int .i64 s.st, .int .i64 s.lb, .int .i64 s.s0, .slice a s.es.length c]] w (StrClasses s n w) := by
  have hB0 := (Below.refl w.heap.size w).alloc (Nat.le_refl _) (Obj.cells #[.int .i64 s.st, .int .i64 s.lb, .int .i64 s.s0, .slice a s.es.length c] 24)
  have HB0 := Lib.hid hB0
  rcases Nat.eq_zero_or_pos n with rfl | hn0
  · have HN := Lib.hid (refineZero_any (c := c) h hn (hG.below hB0) (hS.below hB0 (Nat.le_refl _)))
    clear hB0 hS hG h hn
    go_enter Tryz.func36, Tryz.ntmps36
    go_wp2_with fail
    refine HN.out.mono ?_
    unfold runZ
    rintro e w1 ⟨rfl, hB1⟩
    have HB1 := Lib.hid ((HB0.out.trans (hB1.mono (by simp))).alloc (by have := hB1.size; simp at this; omega) (.cells #[.slice none 0 0, .slice none 0 0, .slice none 0 0] 111))
    clear hB1 HN HB0
    go_wp2_with fail
    go_ret2
    exact ⟨fun _ => 0, none, 0, ⟨fun p q hp => by omega, fun R _ p q hp => by omega⟩, rfl, World.ownsRow_nil _ _ _ _, HB1.out⟩
  · have HN := Lib.hid (refineYes_any (c := c) h hn hn0 (hG.below hB0) (hS.below hB0 (Nat.le_refl _)))
    clear hB0 hS hG h hn
    go_enter Tryz.func36, Tryz.ntmps36
    go_wp2_with fail
    refine HN.out.mono ?_
    unfold RefPost
    rintro e w1 ⟨inn, ga, cg, cc, ta, tn, tc, ba, bb, bc, hbig, _, rfl, hown, _, hB1⟩
    have hz : w.heap.size ≤ w1.heap.size := by have := hB1.size; simp at this; omega
    have HB1 := Lib.hid ((HB0.out.trans (hB1.mono (by simp))).alloc hz (.cells #[.slice (some ⟨cg, 0, none⟩) n cc, .slice ta tn tc, .slice ba n bc] 111))
    have HO := Lib.hid ((own_mono hown (show w.heap.size ≤ _ by simp)).alloc (.cells #[.slice (some ⟨cg, 0, none⟩) n cc, .slice ta tn tc, .slice ba n bc] 111))
    have HBIG := Lib.hid (big_norm hbig)
    clear hB1 hown hbig HN HB0
    go_wp2_with fail
    go_ret2
    exact ⟨inn, _, cc, HBIG.out, rfl, HO.out, HB1.out⟩

set_option maxRecDepth 100000 in
set_option maxHeartbeats 2000000 in
theorem strClassesNo_any {p : Addr} {s : Lts} (h : ¬ s.Right) {a : Option Addr} {b off c : Nat} {w : World} (hG : GErr 10 p w) (hT : ErrType w) (hS : SlAt encE 3 w a b off s.es) :
    Calls Tryz.prog 36 #[.agg #[.int .i64 s.st, .int .i64 s.lb, .int .i64 s.s0, .slice a s.es.length c]] w fun e w' => ∃ v, e = .returned (.tuple #[.slice none 0 0, v]) ∧ FaultS w' p v ∧ Below w.heap.size w w' := by
  have hB0 := (Below.refl w.heap.size w).alloc (Nat.le_refl _) (Obj.cells #[.int .i64 s.st, .int .i64 s.lb, .int .i64 s.s0, .slice a s.es.length c] 24)
  have HB0 := Lib.hid hB0
  have HN := Lib.hid (refineNo_any (c := c) h (hG.below hB0) (hT.below hB0) (hS.below hB0 (Nat.le_refl _)))
  clear hB0 hS hG h hT
  go_enter Tryz.func36, Tryz.ntmps36
  go_wp2_with fail
  refine HN.out.mono ?_
  unfold runZ
  rintro e w1 ⟨v, rfl, hf, hB1⟩
  have hz : w.heap.size ≤ w1.heap.size := by have := hB1.size; simp at this; omega
  have HB1 := Lib.hid ((HB0.out.trans (hB1.mono (by simp))).alloc hz (.cells #[.slice none 0 0, .slice none 0 0, .slice none 0 0] 111))
  have HF := Lib.hid (hf.below ((Below.refl w1.heap.size w1).alloc (Nat.le_refl _) (.cells #[.slice none 0 0, .slice none 0 0, .slice none 0 0] 111)))
  clear hB1 hf HN HB0
  go_wp2_with fail
  go_ret2
  exact ⟨v, rfl, HF.out, HB1.out⟩
end Go.Proofs.YtmlmjhmdjieigaaGreatDoor

namespace Go.Proofs.YtmlmjhmdjieigaaGreatDoor
open Go.RowKit Pl

theorem sys9 {w : World} {B : Nat} {x y z : Int} {v : Value} (h : w.heap[B]? = some (.cells #[.int .i64 x, .int .i64 y, .int .i64 z, v] 24 (0, 0))) :
    w.cell? ⟨B, 0, none⟩ = some (.int .i64 x) ∧ w.cell? ⟨B, 1, none⟩ = some (.int .i64 y) ∧ w.cell? ⟨B, 2, none⟩ = some (.int .i64 z) ∧ w.cell? ⟨B, 3, none⟩ = some v ∧ B < w.heap.size := by
  refine ⟨?_, ?_, ?_, ?_, (Array.getElem?_eq_some_iff.1 h).1⟩ <;> simp [World.cell?, h]

theorem canon9_wf {l : List Int} (h : l.length ≤ 1000000) : ∀ x ∈ canon l, (Lit.int .i64 x).wf = true := by
  intro x hx
  unfold canon at hx
  obtain ⟨y, hy, rfl⟩ := List.mem_map.1 hx
  have h1 := dist_len l
  have h2 : (dist l).idxOf y ≤ (dist l).length := List.idxOf_le_length
  exact WalkArith.wf_i64 (by omega)
/-- The classes told, as a function. -/
def cl9 (n : Nat) (inn : Nat → Nat) : Nat → Int := clf n (fun p => (inn p : Int))
theorem canon9 (n : Nat) (inn : Nat → Nat) : canon (flN n inn) = fl n (cl9 n inn) := by
  unfold flN cl9
  rw [canon_fl]
theorem cl9_big {s : Lts} {n : Nat} {inn : Nat → Nat} (h : Big s n (fun p => (inn p : Int))) : Big s n (cl9 n inn) := h.clf
theorem big_norm9 {s : Lts} {n : Nat} {C : Nat → Int} (h : Big s n C) : Big s.norm n C := h.steps (fun _ _ _ _ _ => (mem_nf stoE _ s.es).symm)
end Go.Proofs.YtmlmjhmdjieigaaGreatDoor

namespace Go.Proofs.YtmlmjhmdjieigaaGreatDoor
open Go.RowKit Go.Maps Go.ChangeMaps

/-- How keys are written as values. -/
structure KeyEnc {κ : Type} (P : Program) (k : TypeId) (enck : κ → Value) (ok : κ → Prop) : Prop where
  K : Keyed P k
  key : ∀ x, ok x → ∃ l, keyOf P k (enck x) = some l
  inj : ∀ x y, enck x = enck y → x = y

section
variable {κ ν : Type} [DecidableEq κ] {P : Program} {k : TypeId} {enck : κ → Value} {ok : κ → Prop} {encv : ν → Value} {w w' : World} {b n : Nat} {f : κ → Option ν}

/-- Block b of w is a map of n entries that holds f. -/
structure OMap (w : World) (b : Nat) (enck : κ → Value) (ok : κ → Prop) (encv : ν → Value) (f : κ → Option ν) (n : Nat) : Prop where
  ex : ∃ (l : List (κ × ν)) (es : Array MapEntry) (clock : Nat), w.heap[b]? = some (.map es clock) ∧ es.toList.map (fun e => (e.key, e.val)) = l.map (fun p => (enck p.1, encv p.2)) ∧
    (∀ p ∈ l, ok p.1) ∧ (l.map Prod.fst).Nodup ∧ (∀ x, f x = (l.find? (fun p => decide (p.1 = x))).map Prod.snd) ∧ l.length = n

theorem OMap.made (w : World) : OMap (w.alloc (.map #[] 0)) w.heap.size enck ok encv (fun _ => (none : Option ν)) 0 :=
  ⟨[], #[], 0, (MapKept.heap_alloc w _).1, rfl, by simp, by simp, by simp, rfl⟩
theorem OMap.lt (h : OMap w b enck ok encv f n) : b < w.heap.size := by
  obtain ⟨l, es, clock, hb, _⟩ := h.ex
  exact (Array.getElem?_eq_some_iff.1 hb).1
theorem OMap.of_block (h : OMap w b enck ok encv f n) (hb : w'.heap[b]? = w.heap[b]?) : OMap w' b enck ok encv f n := by
  obtain ⟨l, es, clock, h1, h2⟩ := h.ex
  exact ⟨l, es, clock, hb.trans h1, h2⟩
theorem OMap.congr {g : κ → Option ν} (h : OMap w b enck ok encv f n) (e : ∀ x, f x = g x) : OMap w b enck ok encv g n := by
  have : f = g := funext e
  rw [← this]; exact h
theorem OMap.block (h : OMap w b enck ok encv f n) : ∃ es clock, w.heap[b]? = some (.map es clock) := by
  obtain ⟨l, es, clock, h1, _⟩ := h.ex; exact ⟨es, clock, h1⟩

omit [DecidableEq κ] in
theorem entry_at {l : List (κ × ν)} {es : List MapEntry} (h : es.map (fun e => (e.key, e.val)) = l.map (fun p => (enck p.1, encv p.2))) {j : Nat} {e : MapEntry} (he : es[j]? = some e) :
    ∃ p, l[j]? = some p ∧ e.key = enck p.1 ∧ e.val = encv p.2 := by
  have h1 : (es.map (fun e => (e.key, e.val)))[j]? = some (e.key, e.val) := by rw [List.getElem?_map, he]; rfl
  rw [h, List.getElem?_map] at h1
  obtain ⟨p, hp, h2⟩ := Option.map_eq_some_iff.1 h1
  simp only [Prod.mk.injEq] at h2
  exact ⟨p, hp, h2.1.symm, h2.2.symm⟩

theorem find_at : ∀ {l : List (κ × ν)}, (l.map Prod.fst).Nodup → ∀ {j : Nat} {p : κ × ν}, l[j]? = some p → l.find? (fun q => decide (q.1 = p.1)) = some p
  | [], _, _, _, h => by simp at h
  | q :: l, hn, 0, p, h => by
    simp at h; subst h; simp
  | q :: l, hn, j + 1, p, h => by
    simp at h
    rw [List.map_cons, List.nodup_cons] at hn
    have hne : q.1 ≠ p.1 := fun e => hn.1 (by rw [e]; exact List.mem_map.2 ⟨p, List.mem_of_getElem? h, rfl⟩)
    rw [List.find?_cons_of_neg (by simpa using hne)]
    exact find_at hn.2 h

theorem find_none {l : List (κ × ν)} {x : κ} (h : ∀ p ∈ l, p.1 ≠ x) : l.find? (fun q => decide (q.1 = x)) = none := by
  rw [List.find?_eq_none]; intro p hp; simpa using h p hp

omit [DecidableEq κ] in
/-- What the run of a search finds. -/
theorem OMap.search (E : KeyEnc P k enck ok) {x : κ} (hx : ok x) (w0 : World) {l : List (κ × ν)} {es : List MapEntry} (h : es.map (fun e => (e.key, e.val)) = l.map (fun p => (enck p.1, encv p.2))) (hok : ∀ p ∈ l, ok p.1) :
    ((Instr.findKey k (enck x) es).run P w0 = .ok none w0 ∧ ∀ p ∈ l, p.1 ≠ x) ∨
    ∃ j p e, (Instr.findKey k (enck x) es).run P w0 = .ok (some (j, encv p.2)) w0 ∧ l[j]? = some p ∧ p.1 = x ∧ es[j]? = some e ∧ e.key = enck x := by
  obtain ⟨kl, hkl⟩ := E.key x hx
  have hkeys : ∀ e ∈ es, ∃ l, keyOf P k e.key = some l := fun e he => by
    obtain ⟨j, hj⟩ := List.getElem?_of_mem he
    obtain ⟨p, hp, h1, _⟩ := entry_at h hj
    rw [h1]; exact E.key _ (hok p (List.mem_of_getElem? hp))
  rcases E.K.find w0 hkl es hkeys with ⟨h1, h2⟩ | ⟨j, e, h1, h2, h3⟩
  · refine .inl ⟨h1, fun p hp e => ?_⟩
    obtain ⟨j, hj⟩ := List.getElem?_of_mem hp
    have hl : es.length = l.length := by have := congrArg List.length h; simpa using this
    have hj2 : j < es.length := by rw [hl]; exact (List.getElem?_eq_some_iff.1 hj).1
    obtain ⟨q, hq, h4, _⟩ := entry_at h (List.getElem?_eq_getElem hj2)
    rw [hj] at hq
    cases hq
    exact h2 _ (List.getElem_mem hj2) (by rw [h4, e])
  · obtain ⟨p, hp, h4, h5⟩ := entry_at h h2
    exact .inr ⟨j, p, e, by rw [← h5]; exact h1, hp, E.inj _ _ (by rw [← h4, h3]), h2, h3⟩

/-- 'm[x]', 'v, had := m[x]'. -/
theorem OMap.look {t e : TypeId} (h : OMap w b enck ok encv f n) (E : KeyEnc P k enck ok) (ht : P.underlying t = some (.map k e)) {z : Value} (hz : (zeroValue e).run P w = .ok z w) {x : κ} (hx : ok x) (c : Bool) :
    (Instr.lookup t (.map (some b)) (enck x) c).run P w = .ok (if c then .tuple #[((f x).map encv).getD z, .bool (f x).isSome] else ((f x).map encv).getD z) w := by
  obtain ⟨l, es, clock, hb, hl, hok, hnd, hf, _⟩ := h.ex
  obtain ⟨kl, hkl⟩ := E.key x hx
  rcases OMap.search E hx w hl hok with ⟨h1, h2⟩ | ⟨j, p, e0, h1, h2, h3, h4, h5⟩
  · have hfx : f x = none := by rw [hf, find_none h2]; rfl
    rw [hfx]
    simp [Instr.lookup, run_underlying ht, MapKept.run_getObj_map hb, E.K.check w _ hkl, h1, hz, Result.andThen]
  · have hfx : f x = some p.2 := by rw [hf, ← h3, find_at hnd h2]; rfl
    rw [hfx]
    simp [Instr.lookup, run_underlying ht, MapKept.run_getObj_map hb, E.K.check w _ hkl, h1, Result.andThen]

theorem find_upd : ∀ {l : List (κ × ν)} {j : Nat} {p : κ × ν} (v : ν), (l.map Prod.fst).Nodup → l[j]? = some p → ∀ y, (l.set j (p.1, v)).find? (fun q => decide (q.1 = y)) = if y = p.1 then some (p.1, v) else l.find? (fun q => decide (q.1 = y))
  | [], _, _, _, _, h, _ => by simp at h
  | q :: l, 0, p, v, hn, h, y => by
    simp at h; subst h
    by_cases e : y = q.1
    · subst e; simp
    · rw [if_neg e, List.set_cons_zero, List.find?_cons_of_neg (by simpa using fun e2 => e e2.symm), List.find?_cons_of_neg (by simpa using fun e2 => e e2.symm)]
  | q :: l, j + 1, p, v, hn, h, y => by
    simp at h
    rw [List.map_cons, List.nodup_cons] at hn
    have hne : q.1 ≠ p.1 := fun e => hn.1 (by rw [e]; exact List.mem_map.2 ⟨p, List.mem_of_getElem? h, rfl⟩)
    rw [List.set_cons_succ]
    by_cases e : q.1 = y
    · subst e
      rw [if_neg hne, List.find?_cons_of_pos (by simp), List.find?_cons_of_pos (by simp)]
    · rw [List.find?_cons_of_neg (by simpa using e), List.find?_cons_of_neg (by simpa using e)]
      exact find_upd v hn.2 h y

omit [DecidableEq κ] in
theorem set_fst {l : List (κ × ν)} {j : Nat} {p : κ × ν} (v : ν) (h : l[j]? = some p) : (l.set j (p.1, v)).map Prod.fst = l.map Prod.fst := by
  rw [List.map_set]
  apply List.ext_getElem?
  intro i
  rw [List.getElem?_set]
  split
  · rename_i e
    subst e
    split
    · rw [List.getElem?_map, h]; rfl
    · rename_i h2
      rw [List.getElem?_eq_none (by omega)]
  · rfl

/-- 'm[x] = v'. -/
theorem OMap.put {t e : TypeId} (h : OMap w b enck ok encv f n) (E : KeyEnc P k enck ok) (ht : P.underlying t = some (.map k e)) {x : κ} (hx : ok x) (v : ν) :
    ∃ w', (Instr.mapUpdate t (.map (some b)) (enck x) (encv v)).run P w = .ok () w' ∧ OMap w' b enck ok encv (fun y => if y = x then some v else f y) (if (f x).isSome then n else n + 1) ∧ w.grownBy w' (some b) ∧ (∀ a : Addr, w'.frozen? a = w.frozen? a) ∧ w'.heap.size = w.heap.size := by
  obtain ⟨l, es, clock, hb, hl, hok, hnd, hf, hn⟩ := h.ex
  obtain ⟨kl, hkl⟩ := E.key x hx
  have fz : ∀ es' clock' (a : Addr), (setBlock w b (.map es' clock')).frozen? a = w.frozen? a := by
    intro es' clock' a
    unfold World.frozen?
    by_cases e : a.block = b
    · rw [e, heap_setBlock_same hb _, hb]
    · rw [heap_setBlock_other hb _ e]
  have gr : ∀ es' clock', w.grownBy (setBlock w b (.map es' clock')) (some b) := fun es' clock' =>
    ⟨rfl, rfl, rfl, by simp [setBlock], fun i _ hi => heap_setBlock_other hb _ (fun e => hi (by rw [e]))⟩
  rcases OMap.search E hx w hl hok with ⟨h1, h2⟩ | ⟨j, p, e0, h1, h2, h3, h4, h5⟩
  · have hfx : f x = none := by rw [hf, find_none h2]; rfl
    refine ⟨setBlock w b (.map (es.push ⟨enck x, encv v, clock⟩) (clock + 1)), ?_, ?_, gr _ _, fz _ _, by simp [setBlock]⟩
    · simp [Instr.mapUpdate, run_underlying ht, MapKept.run_getObj_map hb, E.K.check w false hkl, h1, MapKept.run_setObj_map _ hb, Result.andThen, setBlock]
    · rw [hfx]
      refine ⟨l ++ [(x, v)], _, _, heap_setBlock_same hb _, by simp [hl], ?_, ?_, ?_, by simp [hn]⟩
      · intro p hp
        rcases List.mem_append.1 hp with hp | hp
        · exact hok p hp
        · simp at hp; subst hp; exact hx
      · rw [List.map_append, List.nodup_append]
        refine ⟨hnd, by simp, ?_⟩
        intro a ha c hc e
        simp at hc; subst hc; subst e
        obtain ⟨q, hq, rfl⟩ := List.mem_map.1 ha
        exact h2 q hq rfl
      · intro y
        rw [List.find?_append]
        by_cases e : y = x
        · subst e; rw [if_pos rfl, find_none h2]; simp
        · rw [if_neg e, hf]
          have hxy : ¬ x = y := fun e2 => e e2.symm
          have : ([(x, v)] : List (κ × ν)).find? (fun p => decide (p.1 = y)) = none := by simp [hxy]
          rw [this]; simp
  · have hfx : f x = some p.2 := by rw [hf, ← h3, find_at hnd h2]; rfl
    have hj : es[j]? = some e0 := by simpa using h4
    refine ⟨setBlock w b (.map (es.modify j (fun e' => { e' with key := enck x, val := encv v })) clock), ?_, ?_, gr _ _, fz _ _, by simp [setBlock]⟩
    · simp [Instr.mapUpdate, run_underlying ht, MapKept.run_getObj_map hb, E.K.check w false hkl, h1, hj, h5, E.K.stays w hkl, MapKept.run_setObj_map _ hb, Result.andThen, setBlock]
    · rw [hfx]
      refine ⟨l.set j (x, v), _, _, heap_setBlock_same hb _, ?_, ?_, ?_, ?_, by simp [hn]⟩
      · rw [Array.toList_modify, modify_eq_set _ _ _ _ h4, List.map_set, List.map_set, hl]
      · intro q hq
        rcases List.mem_or_eq_of_mem_set hq with hq | rfl
        · exact hok q hq
        · exact hx
      · rw [← h3, set_fst v h2]; exact hnd
      · intro y
        rw [← h3, find_upd v hnd h2]
        by_cases e : y = p.1
        · rw [if_pos e, if_pos e]; rfl
        · rw [if_neg e, if_neg e, hf]

/-- 'len(m)'. -/
theorem OMap.len {t e : TypeId} (h : OMap w b enck ok encv f n) (ht : P.underlying t = some (.map k e)) (ty : TypeId) : (Builtin.len_ #[t] ty #[.map (some b)]).run P w = .ok (.int .i64 n) w := by
  obtain ⟨l, es, clock, hb, hl, _, _, _, hn⟩ := h.ex
  have hs : es.size = n := by
    have := congrArg List.length hl
    simp at this
    omega
  rw [← hs]
  simp [Builtin.len_, run_underlying ht, MapKept.run_getObj_map hb, goInt, Result.andThen]

/-! at the operation, for the walk -/
variable {ops : Array Oper} {rest : List Oper} {o : Oper} {a : Act} {Q : Exit → Act → World → Prop}

theorem wpList_olook_ok (hg : o.guard = none) (m x : Operand) (t : TypeId) (hop : o.op = Op.lookup t m x true) {e : TypeId} (E : KeyEnc P k enck ok) (ht : P.underlying t = some (.map k e)) {z : Value} (hz : (zeroValue e).run P w = .ok z w)
    (hm : a.eval m = .map (some b)) (h : OMap w b enck ok encv f n) (y : κ) (hy : ok y) (hx : a.eval x = enck y)
    (hK : wpList P ops Q rest (a.put o.dst (.tuple #[((f y).map encv).getD z, .bool (f y).isSome])) w) : wpList P ops Q (o :: rest) a w := by
  refine wpList_plain hg fun K' hK' => ?_
  have hrun := h.look E ht hz hy true
  unfold Oper.wp
  simp [execOp, hop, hm, hx, hrun, Result.andThen]
  exact hK' _ _ hK
theorem wpList_olook (hg : o.guard = none) (m x : Operand) (t : TypeId) (hop : o.op = Op.lookup t m x false) {e : TypeId} (E : KeyEnc P k enck ok) (ht : P.underlying t = some (.map k e)) {z : Value} (hz : (zeroValue e).run P w = .ok z w)
    (hm : a.eval m = .map (some b)) (h : OMap w b enck ok encv f n) (y : κ) (hy : ok y) (hx : a.eval x = enck y)
    (hK : wpList P ops Q rest (a.put o.dst (((f y).map encv).getD z)) w) : wpList P ops Q (o :: rest) a w := by
  refine wpList_plain hg fun K' hK' => ?_
  have hrun := h.look E ht hz hy false
  unfold Oper.wp
  simp [execOp, hop, hm, hx, hrun, Result.andThen]
  exact hK' _ _ hK
theorem wpList_oput (hg : o.guard = none) (m x v : Operand) (t : TypeId) (hop : o.op = Op.mapUpdate t m x v) {e : TypeId} (E : KeyEnc P k enck ok) (ht : P.underlying t = some (.map k e))
    (hm : a.eval m = .map (some b)) (h : OMap w b enck ok encv f n) (y : κ) (hy : ok y) (hx : a.eval x = enck y) (u : ν) (hv : a.eval v = encv u)
    (hK : ∀ w', OMap w' b enck ok encv (fun z => if z = y then some u else f z) (if (f y).isSome then n else n + 1) → w.grownBy w' (some b) → (∀ a : Addr, w'.frozen? a = w.frozen? a) → w'.heap.size = w.heap.size → wpList P ops Q rest (a.put o.dst undef) w') : wpList P ops Q (o :: rest) a w := by
  refine wpList_plain hg fun K' hK' => ?_
  obtain ⟨w', hrun, h1, h2, h3, h4⟩ := h.put E ht hy u
  unfold Oper.wp
  simp [execOp, hop, hm, hx, hv, hrun, Result.andThen]
  exact hK' _ _ (hK w' h1 h2 h3 h4)
theorem wpList_olen (hg : o.guard = none) (m : Operand) (t : TypeId) (hop : o.op = Op.call { callee := Callee.builtin Builtin.len, args := #[m], argTypes := #[t] }) {e : TypeId} (ht : P.underlying t = some (.map k e))
    (hm : a.eval m = .map (some b)) (h : OMap w b enck ok encv f n) (hK : wpList P ops Q rest (a.put o.dst (.int .i64 n)) w) : wpList P ops Q (o :: rest) a w := by
  refine wpList_plain hg fun K' hK' => ?_
  unfold Oper.wp
  simp [execOp, hop, resolve, invoke, builtin, hm, h.len ht o.type, Result.andThen]
  exact hK' _ _ hK
end
end Go.Proofs.YtmlmjhmdjieigaaGreatDoor

namespace Go.Proofs.YtmlmjhmdjieigaaGreatDoor
open Go.RowKit Go.ChangeShapes Pl

def encSv (x : S) : Value := .agg #[.int .i64 x.1, .int .i64 x.2]
def okS (x : S) : Prop := (Lit.int .i64 x.1).wf = true ∧ (Lit.int .i64 x.2).wf = true

theorem laidOutK : laidOutB Tryz.prog = true := by kernel_rfl
theorem rowStep : (65 : TypeId) < Tryz.prog.types.size := of_decide_eq_true (by kernel_rfl)
theorem wideStep : (match Tryz.prog.underlying 65 with | some (.array _ _) | some (.struct _) => true | _ => false) = true := by rw [Tryz.underlying65]
set_option maxRecDepth 100000 in
theorem lawStep : Go.WideMaps.KeyLaw Tryz.prog 65 := deep_law_laid laidOutK (m := 2) (by omega) rowStep (by kernel_rfl) wideStep
theorem deepStep : Tryz.prog.keyTypeAt (Tryz.prog.types.size + 1) 65 = true := by kernel_rfl
theorem cellsStep : Tryz.prog.cellsOf 65 = 2 := by kernel_rfl
theorem formedStep (c0 c1 : Value) : (Value.agg #[c0, c1]).formed Tryz.prog 65 = true := by simp [Value.formed, Tryz.underlying65, cellsStep]

set_option maxRecDepth 100000 in
theorem keyStep (x : S) (h : okS x) : ∃ l, keyOf Tryz.prog 65 (encSv x) = some l := by
  have t0 := shut_int (H := Unit) (enc := fun _ => ()) (P := Tryz.prog) (w := default) (base := 0) (spare := fun _ => true) (held := true) Tryz.underlying3 h.1
  have t1 := shut_int (H := Unit) (enc := fun _ => ()) (P := Tryz.prog) (w := default) (base := 0) (spare := fun _ => true) (held := true) Tryz.underlying3 h.2
  have h2 := Go.Joins.shut_agg2 (y0 := (.lit (.int .i64 x.1), [])) (y1 := (.lit (.int .i64 x.2), [])) Tryz.underlying65 (by kernel_rfl) cellsStep t0 t1
  exact ⟨_, (keyOf_asKey deepStep wideStep (formedStep _ _) h2).1⟩

theorem encStep : KeyEnc Tryz.prog 65 encSv okS where
  K := Go.Maps.Keyed.of_law lawStep
  key := keyStep
  inj x y h := by
    obtain ⟨x1, x2⟩ := x; obtain ⟨y1, y2⟩ := y
    unfold encSv at h
    simp only [Value.agg.injEq, Array.mk.injEq, List.cons.injEq, Value.int.injEq, true_and, and_true] at h
    rw [h.1, h.2]

def encU (_ : Unit) : Value := .agg #[]
theorem zeroUnit (w : World) : (zeroValue 85).run Tryz.prog w = .ok (.agg #[]) w := by kernel_rfl
end Go.Proofs.YtmlmjhmdjieigaaGreatDoor

namespace Go.Proofs.YtmlmjhmdjieigaaGreatDoor
open Go.RowKit Go.ChangeShapes Pl

def encEv (x : E) : Value := .agg #[.int .i64 x.1, .int .i64 x.2.1, .int .i64 x.2.2]
def okE (x : E) : Prop := (Lit.int .i64 x.1).wf = true ∧ (Lit.int .i64 x.2.1).wf = true ∧ (Lit.int .i64 x.2.2).wf = true
theorem rowEdg : (54 : TypeId) < Tryz.prog.types.size := of_decide_eq_true (by kernel_rfl)
theorem wideEdg : (match Tryz.prog.underlying 54 with | some (.array _ _) | some (.struct _) => true | _ => false) = true := by rw [Tryz.underlying54]
set_option maxRecDepth 100000 in
theorem lawEdg : Go.WideMaps.KeyLaw Tryz.prog 54 := deep_law_laid laidOutK (m := 2) (by omega) rowEdg (by kernel_rfl) wideEdg
theorem deepEdg : Tryz.prog.keyTypeAt (Tryz.prog.types.size + 1) 54 = true := by kernel_rfl
theorem cellsEdg : Tryz.prog.cellsOf 54 = 3 := by kernel_rfl
theorem formedEdg (c0 c1 c2 : Value) : (Value.agg #[c0, c1, c2]).formed Tryz.prog 54 = true := by simp [Value.formed, Tryz.underlying54, cellsEdg]
set_option maxRecDepth 100000 in
theorem keyEdg (x : E) (h : okE x) : ∃ l, keyOf Tryz.prog 54 (encEv x) = some l := by
  have t0 := shut_int (H := Unit) (enc := fun _ => ()) (P := Tryz.prog) (w := default) (base := 0) (spare := fun _ => true) (held := true) Tryz.underlying3 h.1
  have t1 := shut_int (H := Unit) (enc := fun _ => ()) (P := Tryz.prog) (w := default) (base := 0) (spare := fun _ => true) (held := true) Tryz.underlying3 h.2.1
  have t2 := shut_int (H := Unit) (enc := fun _ => ()) (P := Tryz.prog) (w := default) (base := 0) (spare := fun _ => true) (held := true) Tryz.underlying3 h.2.2
  have h2 := Go.Joins.shut_agg3 (y0 := (.lit (.int .i64 x.1), [])) (y1 := (.lit (.int .i64 x.2.1), [])) (y2 := (.lit (.int .i64 x.2.2), [])) Tryz.underlying54 (by kernel_rfl) cellsEdg t0 t1 t2
  exact ⟨_, (keyOf_asKey deepEdg wideEdg (formedEdg _ _ _) h2).1⟩
theorem encEdg : KeyEnc Tryz.prog 54 encEv okE where
  K := Go.Maps.Keyed.of_law lawEdg
  key := keyEdg
  inj x y h := by
    obtain ⟨x1, x2, x3⟩ := x; obtain ⟨y1, y2, y3⟩ := y
    unfold encEv at h
    simp only [Value.agg.injEq, Array.mk.injEq, List.cons.injEq, Value.int.injEq, true_and, and_true] at h
    rw [h.1, h.2.1, h.2.2]
def encNv (x : Int) : Value := .int .i64 x
def okN (x : Int) : Prop := (Lit.int .i64 x).wf = true
theorem encNum : KeyEnc Tryz.prog 3 encNv okN where
  K := Go.Maps.int_keyed Tryz.underlying3
  key x h := ⟨_, Go.Maps.keyOf_int_mk Tryz.underlying3 h⟩
  inj x y h := by unfold encNv at h; simpa using h
theorem zeroNum (w : World) : (zeroValue 3).run Tryz.prog w = .ok (.int .i64 0) w := by kernel_rfl

/-- Rows stay where a map grows. -/
theorem Rws.mapPut {w0 w w' : World} {L : List Rw} {mb : Nat} (h : Rws w0 w L) (hg : w.grownBy w' (some mb)) (hm : ∃ es c, w.heap[mb]? = some (.map es c)) (hlo : w0.heap.size ≤ mb) : Rws w0 w' L := by
  refine ⟨h.bel.grown hg h.bel.size (fun k hk => by cases hk; exact hlo), fun r hr => own_blockR (h.own r hr) (fun g hgb => ?_), h.apart⟩
  have h1 := (h.own r hr).lt g hgb
  refine hg.block g h1.2 (fun e => ?_)
  obtain ⟨es, c, h2⟩ := hm
  obtain rfl := Option.some.inj e
  rcases (h.own r hr).2 with ⟨h3, _⟩ | ⟨g2, cap, cur, h3, _, h4, _⟩
  · rw [h3] at hgb; cases hgb
  · rw [h3] at hgb
    obtain rfl := Option.some.inj hgb
    rw [h2] at h4; cases h4
end Go.Proofs.YtmlmjhmdjieigaaGreatDoor

namespace Go.Proofs.YtmlmjhmdjieigaaGreatDoor
open Go.RowKit Pl

theorem atLF {n : Nat} {f : Nat → Int} {t : Nat} (h : t < n) : atL (fl n f) (t : Int) = f t := by
  unfold atL
  rw [Int.toNat_natCast, List.getD_eq_getElem?_getD, fl_get f h]; rfl

/-- Each step of p is met by one of q, as the law tells it. -/
def metX (s : Lts) (L : List Int) (q : Int) (x : S) : Bool := (withL x.1 (s.outs q)).any (fun y => decide (atL L y = atL L x.2))
def metB (s : Lts) (L : List Int) (p q : Int) : Bool := (s.outs p).all (metX s L q)

theorem metB_iff {s : Lts} (hr : s.Right) {n : Nat} (hn : s.st = (n : Int)) {D : Nat → Int} {p q : Nat} : metB s (fl n D) (p : Int) (q : Int) = true ↔ MetP s n D p q := by
  unfold metB metX MetP
  rw [List.all_eq_true]
  constructor
  · intro h l t ht hs
    have h1 := h (l, (t : Int)) (mem_outs.2 hs)
    rw [List.any_eq_true] at h1
    obtain ⟨y, hy, h2⟩ := h1
    rw [mem_withL] at hy
    have h3 := mem_outs.1 hy
    have h4 := offB_false.1 (hr.edges _ h3)
    simp only at h4
    obtain ⟨u, rfl⟩ := Int.eq_ofNat_of_zero_le h4.2.2.2.2.1
    have hu : u < n := by omega
    rw [decide_eq_true_eq, atLF hu, atLF ht] at h2
    exact ⟨u, hu, h3, h2⟩
  · rintro h ⟨l, y⟩ hx
    have h3 := mem_outs.1 hx
    have h4 := offB_false.1 (hr.edges _ h3)
    simp only at h4
    obtain ⟨t, rfl⟩ := Int.eq_ofNat_of_zero_le h4.2.2.2.2.1
    have ht : t < n := by omega
    obtain ⟨u, hu, h1, h2⟩ := h l t ht h3
    rw [List.any_eq_true]
    exact ⟨(u : Int), mem_withL.2 (mem_outs.2 h1), by rw [decide_eq_true_eq]; simp only; rw [atLF hu, atLF ht]; exact h2⟩

/-! other numbers -/
def rotI (n k x : Int) : Int := (x + k) % n
def rotE (n k : Int) (e : E) : E := (rotI n k e.1, e.2.1, rotI n k e.2.2)
def rotS (s : Lts) (k : Int) : Lts := ⟨s.st, s.lb, rotI s.st k s.s0, s.es.map (rotE s.st k)⟩
def rotN (n k p : Nat) : Nat := (p + k) % n
theorem rotN_lt {n k p : Nat} (hn : 0 < n) : rotN n k p < n := Nat.mod_lt _ hn
theorem rotN_cast (n k p : Nat) : rotI (n : Int) (k : Int) (p : Int) = ((rotN n k p : Nat) : Int) := by
  unfold rotI rotN
  rw [← Int.natCast_add, ← Int.natCast_emod]
theorem rot_back {n k p : Nat} (hk : k < n) (hp : p < n) : rotN n (n - k) (rotN n k p) = p := by
  unfold rotN
  rcases Nat.lt_or_ge (p + k) n with h | h
  · rw [Nat.mod_eq_of_lt h]
    rw [show p + k + (n - k) = p + n by omega, Nat.add_mod_right, Nat.mod_eq_of_lt hp]
  · rw [Nat.mod_eq_sub_mod h, Nat.mod_eq_of_lt (show p + k - n < n by omega), show p + k - n + (n - k) = p by omega, Nat.mod_eq_of_lt hp]
theorem rot_forth {n k p : Nat} (hk : k < n) (hp : p < n) : rotN n k (rotN n (n - k) p) = p := by
  unfold rotN
  rcases Nat.lt_or_ge (p + (n - k)) n with h | h
  · rw [Nat.mod_eq_of_lt h]
    rw [show p + (n - k) + k = p + n by omega, Nat.add_mod_right, Nat.mod_eq_of_lt hp]
  · rw [Nat.mod_eq_sub_mod h, Nat.mod_eq_of_lt (show p + (n - k) - n < n by omega), show p + (n - k) - n + k = p by omega, Nat.mod_eq_of_lt hp]
theorem rot_right {s : Lts} (hr : s.Right) {n k : Nat} (hn : s.st = (n : Int)) (hn0 : 0 < n) : (rotS s (k : Int)).Right := by
  have h0 := hr.st0
  have key : ∀ x : Int, 0 ≤ rotI s.st k x ∧ rotI s.st k x < s.st := fun x => by
    unfold rotI
    exact ⟨Int.emod_nonneg _ (by omega), Int.emod_lt_of_pos _ (by omega)⟩
  have hh := hr.head
  refine ⟨?_, ?_⟩
  · have k1 := key s.s0
    unfold HeadBad at hh ⊢
    simp only [rotS, List.length_map] at *
    omega
  · intro x hx
    obtain ⟨e, he, rfl⟩ := List.mem_map.1 hx
    have h1 := offB_false.1 (hr.edges _ he)
    have k1 := key e.1; have k2 := key e.2.2
    rw [offB_false]
    simp only [rotS, rotE]
    omega
theorem rot_stp {s : Lts} (hr : s.Right) {n k : Nat} (hn : s.st = (n : Int)) (hk : k < n) {p u : Nat} {l : Int} (hp : p < n) (hu : u < n) : stp s p l u ↔ stp (rotS s (k : Int)) (rotN n k p) l (rotN n k u) := by
  unfold stp rotS
  simp only
  constructor
  · intro h
    refine List.mem_map.2 ⟨_, h, ?_⟩
    unfold rotE
    simp only
    rw [hn, rotN_cast, rotN_cast]
  · intro h
    obtain ⟨e, he, h2⟩ := List.mem_map.1 h
    have h1 := offB_false.1 (hr.edges _ he)
    obtain ⟨e1, e2, e3⟩ := e
    simp only at h1
    obtain ⟨a, rfl⟩ := Int.eq_ofNat_of_zero_le h1.1
    obtain ⟨b, rfl⟩ := Int.eq_ofNat_of_zero_le h1.2.2.2.2.1
    unfold rotE at h2
    simp only [hn, Prod.mk.injEq] at h2
    rw [rotN_cast, rotN_cast] at h2
    have ha : a < n := by omega
    have hb : b < n := by omega
    have e1 : a = p := by rw [← rot_back hk ha, ← rot_back hk hp, show rotN n k a = rotN n k p by omega]
    have e3 : b = u := by rw [← rot_back hk hb, ← rot_back hk hu, show rotN n k b = rotN n k u by omega]
    obtain ⟨_, rfl, _⟩ := h2
    subst e1 e3
    exact he
/-- The classes of the system with other numbers. -/
theorem rot_big {s : Lts} (hr : s.Right) {n k : Nat} (hn : s.st = (n : Int)) (hk : k < n) {C D : Nat → Int} (h : Big s n C) (h' : Big (rotS s (k : Int)) n D) {p q : Nat} (hp : p < n) (hq : q < n) : C p = C q ↔ D (rotN n k p) = D (rotN n k q) :=
  h.iso (f := rotN n k) (g := rotN n (n - k)) h' (fun p hp => ⟨rotN_lt (by omega), rot_back hk hp⟩) (fun p hp => ⟨rotN_lt (by omega), rot_forth hk hp⟩) (fun _ _ _ hp hu => rot_stp hr hn hk hp hu) hp hq

/-! edges in another order -/
def turnE (es : List E) (k : Nat) : List E := es.drop k ++ es.take k ++ (es[k]?).toList
def turnS (s : Lts) (k : Nat) : Lts := ⟨s.st, s.lb, (s.s0 + 1) % s.st, turnE s.es k⟩
theorem mem_turnE {es : List E} {k : Nat} {e : E} : e ∈ turnE es k ↔ e ∈ es := by
  unfold turnE
  rw [List.mem_append, List.mem_append]
  constructor
  · rintro ((h | h) | h)
    · exact List.mem_of_mem_drop h
    · exact List.mem_of_mem_take h
    · rw [Option.mem_toList] at h
      exact List.mem_of_getElem? h
  · intro h
    rw [← List.take_append_drop k es, List.mem_append] at h
    exact .inl h.symm
theorem turnE_len {es : List E} {k : Nat} (h : k < es.length) : (turnE es k).length = es.length + 1 := by
  unfold turnE
  rw [List.length_append, List.length_append, List.length_drop, List.length_take, List.getElem?_eq_getElem h]
  simp; omega
theorem turn_right {s : Lts} (hr : s.Right) {k : Nat} (hk : k < s.es.length) (h0 : 0 < s.st) (hl : s.es.length ≤ 600) : (turnS s k).Right := by
  have hh := hr.head
  have h1 := Int.emod_nonneg (s.s0 + 1) (show s.st ≠ 0 by omega)
  have h2 := Int.emod_lt_of_pos (s.s0 + 1) h0
  refine ⟨?_, ?_⟩
  · unfold HeadBad at hh ⊢
    simp only [turnS, turnE_len hk] at *
    omega
  · intro x hx
    exact hr.edges x (mem_turnE.1 hx)
theorem turn_canon {s : Lts} {n k : Nat} {C D : Nat → Int} (h : Big s n C) (h' : Big (turnS s k) n D) : canon (fl n C) = canon (fl n D) :=
  (h.steps (s' := turnS s k) (fun _ _ _ _ _ => (mem_turnE (k := k)).symm)).uniq h'

/-! logarithms -/
structure LogI (n m c : Nat) : Prop where
  m1 : 1 ≤ m
  lo : 2 ^ (m - 1) * c ≤ n
  hi : n < 2 ^ (m - 1) * (c + 1)
theorem LogI.start (n : Nat) : LogI n 1 n := ⟨Nat.le_refl _, by simp, by simp⟩
theorem LogI.step {n m c : Nat} (h : LogI n m c) : LogI n (m + 1) (c / 2) := by
  have e : 2 ^ (m + 1 - 1) = 2 ^ (m - 1) * 2 := by rw [← Nat.pow_succ]; congr 1; have := h.m1; omega
  refine ⟨by omega, ?_, ?_⟩
  · rw [e, Nat.mul_assoc]
    exact Nat.le_trans (Nat.mul_le_mul_left _ (by omega)) h.lo
  · rw [e, Nat.mul_assoc]
    exact Nat.lt_of_lt_of_le h.hi (Nat.mul_le_mul_left _ (by omega))
theorem LogI.small {n m c : Nat} (h : LogI n m c) (hc : 1 ≤ c) : m ≤ n := by
  have h1 := h.lo
  have h2 : m - 1 < 2 ^ (m - 1) := Nat.lt_two_pow_self
  have h3 : 2 ^ (m - 1) * 1 ≤ 2 ^ (m - 1) * c := Nat.mul_le_mul_left _ hc
  omega
theorem LogI.done {n m c g : Nat} (h : LogI n m c) (hc : c ≤ 1) (hg : 2 ^ (g - 1) ≤ n) : g ≤ m := by
  apply Classical.byContradiction
  intro hlt
  have h1 : 2 ^ m ≤ 2 ^ (g - 1) := Nat.pow_le_pow_right (by omega) (by omega)
  have h2 : 2 ^ m = 2 ^ (m - 1) * 2 := by rw [← Nat.pow_succ]; congr 1; have := h.m1; omega
  have h3 : 2 ^ (m - 1) * (c + 1) ≤ 2 ^ (m - 1) * 2 := Nat.mul_le_mul_left _ (by omega)
  have h4 := h.hi
  omega
end Go.Proofs.YtmlmjhmdjieigaaGreatDoor

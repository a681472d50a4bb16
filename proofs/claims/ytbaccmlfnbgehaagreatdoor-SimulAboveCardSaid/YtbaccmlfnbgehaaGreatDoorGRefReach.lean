/-
  Lemmas.
-/
import Derived.Test.YtbaccmlfnbgehaaGreatDoorRefOut
import Derived.Test.YtbaccmlfnbgehaaGreatDoorGPlB
import Derived.Test.YtbaccmlfnbgehaaGreatDoorGBkRow
import Derived.Test.YtbaccmlfnbgehaaGreatDoorGPlS
import Derived.Test.YtbaccmlfnbgehaaGreatDoorGOMap
import Derived.Test.YtbaccmlfnbgehaaGreatDoorGLaidErr
import Derived.Test.YtbaccmlfnbgehaaGreatDoorGRows2
import Derived.Deep.RegionHeld3
import Derived.Deep.RegionLaw
import Derived.Deep.DrawnRows
namespace Go.Proofs.YtbaccmlfnbgehaaGreatDoor
open Go.RowKit Pl
structure StepRows (w : World) (lo ob n : Nat) (f : Nat → List S) : Prop where
  at_ : ∀ p, p < n → ∃ a c b off, w.cell? ⟨ob, p, none⟩ = some (.slice a (f p).length c) ∧ SlAt encS 2 w a b off (f p) ∧ (0 < (f p).length → lo < b)
  lo : lo < ob
  lt : ob < w.heap.size
theorem StepRows.of {w : World} {lo base ob n : Nat} {f : Nat → List S} (h : OwnRows encS 2 115 113 w base ob n f) (hlo : lo < ob) : StepRows w lo ob n f := by
  refine ⟨fun p hp => ?_, hlo, h.size⟩
  obtain ⟨v, h1, _, h3⟩ := h.at hp
  obtain ⟨a, c, b, rfl, _, _, h5, h6⟩ := slAt_own lenS h3
  exact ⟨a, c, b, 0, h1, h5, fun hp => by have := h6 hp; have := h.lt; omega⟩
structure QW (w w2 wr : World) (SB n : Nat) (L : List Int) (v : Value) : Prop where
  below : Below w.heap.size w wr
  oth : ∀ b, b < w2.heap.size → b ≠ SB → wr.heap[b]? = w2.heap[b]?
  size : w2.heap.size ≤ wr.heap.size
  seen : wr.rowIs SB 4 n (fun j => .bool (decide ((j : Int) ∈ L)))
  own : wr.ownsRow w2.heap.size 3 1 v L.length (L.flatMap encI)
  sb : w.heap.size ≤ SB
  sb2 : SB < w2.heap.size
theorem QW.row {w w2 wr : World} {SB n : Nat} {L : List Int} {v : Value} {ob : Nat} {f : Nat → List S} (h : QW w w2 wr SB n L v) (hr : StepRows w2 SB ob n f) {p : Nat} (hp : p < n) :
    ∃ a c b off, wr.cell? ⟨ob, p, none⟩ = some (.slice a (f p).length c) ∧ SlAt encS 2 w2 a b off (f p) ∧ (0 < (f p).length → b ≠ SB) := by
  obtain ⟨a, c, b, off, h1, h2, h3⟩ := hr.at_ p hp
  refine ⟨a, c, b, off, ?_, h2, fun hp => by have := h3 hp; omega⟩
  rw [World.cell?_of_block (w := w2) (a := ⟨ob, p, none⟩) (h.oth ob hr.lt (by have := hr.lo; omega))]
  exact h1
theorem QW.sl {w w2 wr : World} {SB n : Nat} {L : List Int} {v : Value} (h : QW w w2 wr SB n L v) {a : Option Addr} {b off : Nat} {xs : List S} (hS : SlAt encS 2 w2 a b off xs) (hb : 0 < xs.length → b ≠ SB) : SlAt encS 2 wr a b off xs :=
  ⟨hS.ad, fun hp => Nat.lt_of_lt_of_le (hS.lt hp) h.size, fun i x hx j u hu => by
    have hp : 0 < xs.length := by have := (List.getElem?_eq_some_iff.1 hx).1; omega
    rw [World.cell?_of_block (w := w2) (a := ⟨b, off + i * 2 + j, none⟩) (h.oth b (hS.lt hp) (hb hp))]
    exact hS.cell i x hx j u hu⟩
theorem QW.push {w w2 wr w1 : World} {SB n : Nat} {L : List Int} {v v' : Value} {t : Nat} (h : QW w w2 wr SB n L v) {o1 : Obj} (hown : w1.ownsRow w2.heap.size 3 1 v' (L ++ [(t : Int)]).length ((L ++ [(t : Int)]).flatMap encI))
    (hg : ((wr.setCell ⟨SB, t, none⟩ (.bool true)).alloc o1).grownBy w1 v.ownBlock) : QW w w2 w1 SB n (L ++ [(t : Int)]) v' := by
  have hlt := h.seen.lt
  have hsb := h.sb; have hsb2 := h.sb2; have hsz := h.size
  have hse := ((h.seen.set t (.bool true)).alloc o1)
  have hnb : ∀ b, b < w2.heap.size → some b ≠ v.ownBlock := fun b hb e => by have := (h.own.lt b e.symm).1; omega
  have hb : w1.heap[SB]? = _ := hg.block SB (by simp [World.setCell]; omega) (hnb SB hsb2)
  have hgs := hg.size
  refine ⟨?_, fun b hb hne => ?_, by simp [World.setCell] at hgs; omega, (hse.of_block hb).congr (fun i _ => ?_), hown, hsb, hsb2⟩
  · exact ((h.below.setCell hsb _).alloc (by simp [World.setCell]; omega) o1).grown hg (by simp [World.setCell]; omega) (fun k hk => by have := (h.own.lt k hk).1; omega)
  · rw [hg.block b (by simp [World.setCell]; omega) (hnb b hb), Below.heap_alloc _ _ _ (by simp [World.setCell]; omega), Below.heap_setCell _ _ _ _ hne]
    exact h.oth b hb hne
  · by_cases hi : i = t
    · subst hi; simp
    · rw [if_neg hi]; congr 1; simp only [List.mem_append, List.mem_singleton]
      have : ¬ ((i : Int) = (t : Int)) := by omega
      simp [this]
def ReachPost (s : Lts) (w : World) (e : Ending) (w' : World) : Prop :=
  ∃ rb n : Nat, s.st = (n : Int) ∧ e = .returned (.slice (some ⟨rb, 0, none⟩) n n) ∧ w'.rowIs rb 4 n (fun j => .bool (decide ((j : Int) ∈ reachL s.norm))) ∧ w.heap.size ≤ rb ∧ Below w.heap.size w w'
end Go.Proofs.YtbaccmlfnbgehaaGreatDoor
namespace Go.Proofs.YtbaccmlfnbgehaaGreatDoor
open Go.RowKit Pl
structure StepsIn (w : World) (ob n : Nat) (f : Nat → List S) : Prop where
  at_ : ∀ p, p < n → ∃ a c b off, w.cell? ⟨ob, p, none⟩ = some (.slice a (f p).length c) ∧ SlAt encS 2 w a b off (f p)
  lt : ob < w.heap.size
theorem StepsIn.below {w w' : World} {ob n : Nat} {f : Nat → List S} (h : StepsIn w ob n f) (hB : Below w.heap.size w w') : StepsIn w' ob n f :=
  ⟨fun p hp => by
    obtain ⟨a, c, b, off, h1, h2⟩ := h.at_ p hp
    exact ⟨a, c, b, off, by rw [hB.cell (p := ⟨ob, p, none⟩) h.lt]; exact h1, h2.below hB (Nat.le_refl _)⟩, Nat.lt_of_lt_of_le h.lt hB.size⟩
theorem StepsIn.of {w : World} {base ob n : Nat} {f : Nat → List S} (h : OwnRows encS 2 115 113 w base ob n f) : StepsIn w ob n f := by
  refine ⟨fun p hp => ?_, h.size⟩
  obtain ⟨v, h1, _, h3⟩ := h.at hp
  obtain ⟨a, c, b, rfl, _, _, h5, _⟩ := slAt_own lenS h3
  exact ⟨a, c, b, 0, h1, h5⟩
end Go.Proofs.YtbaccmlfnbgehaaGreatDoor
namespace Go.Proofs.YtbaccmlfnbgehaaGreatDoor
open Go.RowKit Pl
theorem rowBBS : IsRow Tryz.prog 31 57 1 24 (.slice none 0 0) := isRow_of Tryz.underlying31 (by kernel_rfl) rfl (by decide)
structure LsB (B : Nat) (w0 wr : World) (n : Nat) (G : Nat → Nat → Bool) (v : Value) (vs : List Value) : Prop where
  bel : Below B w0 wr
  own : wr.ownsRow B 57 1 v vs.length (vs.flatMap encV)
  rows : ∀ (j : Nat) (x : Value), vs[j]? = some x → ∃ b, x = .slice (some ⟨b, 0, none⟩) n n ∧ B ≤ b ∧ wr.rowIs b 4 n (fun q => .bool (G j q))
section
variable {B : Nat} {w0 wr w' wb : World} {n : Nat} {G : Nat → Nat → Bool} {v v' x : Value} {vs : List Value}
theorem LsB.call (h : LsB B w0 wr n G v vs) (hB0 : B ≤ wr.heap.size) (hB : Below wr.heap.size wr w') : LsB B w0 w' n G v vs :=
  ⟨h.bel.trans (hB.mono hB0), own_below h.own hB, fun j x hx => by
    obtain ⟨b, h1, h2, h3⟩ := h.rows j x hx
    exact ⟨b, h1, h2, h3.of_block (hB.block _ h3.lt)⟩⟩
theorem LsB.push {b : Nat} (h : LsB B w0 wr n G v vs) (hB0 : B ≤ wr.heap.size) (hbb : B ≤ b) (hx : wr.rowIs b 4 n (fun q => .bool (G vs.length q)))
    (hown : w'.ownsRow B 57 1 v' (vs.length + 1) (vs.flatMap encV ++ [.slice (some ⟨b, 0, none⟩) n n])) (hg : wr.grownBy w' v.ownBlock) : LsB B w0 w' n G v' (vs ++ [.slice (some ⟨b, 0, none⟩) n n]) := by
  have hrow : ∀ {c : Nat} {f : Nat → Value}, wr.rowIs c 4 n f → w'.rowIs c 4 n f := fun {c f} hc => by
    refine hc.of_block (hg.block c hc.lt (fun e => ?_))
    obtain ⟨cs, h1, _⟩ := hc
    rcases h.own.2 with ⟨h2, _⟩ | ⟨gg, cap, cur, hv, _, hgg, _⟩
    · rw [h2] at e; cases e
    · rw [hv] at e; simp only [Value.ownBlock, Option.some.injEq] at e; subst e; rw [hgg] at h1; simp at h1
  refine ⟨h.bel.grown hg hB0 (fun k e => (h.own.lt k e).1), ?_, fun j y hy => ?_⟩
  · rw [List.flatMap_append, List.length_append]; exact hown
  · rcases Nat.lt_or_ge j vs.length with hj | hj
    · rw [List.getElem?_append_left hj] at hy
      obtain ⟨c, h1, h2, h3⟩ := h.rows j y hy
      exact ⟨c, h1, h2, hrow h3⟩
    · have hq2 : j = vs.length := by have := (List.getElem?_eq_some_iff.1 hy).1; simp at this; omega
      subst hq2
      simp at hy
      subst hy
      exact ⟨b, rfl, hbb, hrow hx⟩
end
structure BoolsIn (w : World) (lb n : Nat) (G : Nat → Nat → Bool) : Prop where
  at_ : ∀ p, p < n → ∃ b, w.cell? ⟨lb, p, none⟩ = some (.slice (some ⟨b, 0, none⟩) n n) ∧ w.rowIs b 4 n (fun q => .bool (G p q))
  lt : 0 < n → lb < w.heap.size
theorem BoolsIn.below {w w' : World} {lb n : Nat} {G : Nat → Nat → Bool} (h : BoolsIn w lb n G) (hB : Below w.heap.size w w') : BoolsIn w' lb n G :=
  ⟨fun p hp => by
    obtain ⟨b, h1, h2⟩ := h.at_ p hp
    exact ⟨b, by rw [hB.cell (p := ⟨lb, p, none⟩) (h.lt (by omega))]; exact h1, h2.of_block (hB.block _ h2.lt)⟩, fun hn => Nat.lt_of_lt_of_le (h.lt hn) hB.size⟩
noncomputable def silG (s : Lts) (p q : Nat) : Bool := decide ((q : Int) ∈ reachL (tauOf s.norm (p : Int)))
end Go.Proofs.YtbaccmlfnbgehaaGreatDoor
namespace Go.Proofs.YtbaccmlfnbgehaaGreatDoor
open Go.RowKit Pl
def encK (x : Int) : Value := .int .i64 x
def okI (x : Int) : Prop := (Lit.int .i64 x).wf = true
theorem encInt : KeyEnc Tryz.prog 3 encK okI where
  K := Go.Maps.int_keyed Tryz.underlying3
  key x h := ⟨_, Go.Maps.keyOf_int_mk Tryz.underlying3 h⟩
  inj x y h := by unfold encK at h; simpa using h
def encP (b : Nat) : Value := .pointer (some ⟨b, 0, none⟩)
theorem zeroPtr (w : World) : (zeroValue 137).run Tryz.prog w = .ok (.pointer none) w := by kernel_rfl
def RowBlk (w : World) (b : Nat) : Prop := ∃ c, w.heap[b]? = some (.cells c 80 (0, 0))
theorem RowBlk.thawed {w : World} {b : Nat} (h : RowBlk w b) (off : Nat) : w.frozen? ⟨b, off, none⟩ = false := by
  obtain ⟨c, h⟩ := h; simp [World.frozen?, h]
theorem RowBlk.of_block {w w' : World} {b : Nat} (h : RowBlk w b) (e : w'.heap[b]? = w.heap[b]?) : RowBlk w' b := by
  obtain ⟨c, h⟩ := h; exact ⟨c, e.trans h⟩
theorem RowBlk.set {w : World} {b : Nat} (h : RowBlk w b) (off : Nat) (v : Value) : RowBlk (w.setCell ⟨b, off, none⟩ v).drew b := by
  obtain ⟨c, h⟩ := h; exact ⟨_, heap_setCell_same w b off c 80 v h⟩
def rowL (L : List S) (l : Int) (t : Nat) : Bool := decide ((l, (t : Int)) ∈ L)
structure LabMap (w : World) (base mb : Nat) (L : List S) : Prop where
  ex : ∃ (f : Int → Option Nat) (n : Nat), OMap w mb encK okI encP f n ∧ (∀ l b, f l = some b → base ≤ b ∧ b ≠ mb ∧ RowAt w b 0 (rowL L l) ∧ RowBlk w b) ∧
    (∀ l, f l = none → ∀ t, (l, t) ∉ L) ∧ (∀ l l' b, f l = some b → f l' = some b → l = l')
theorem LabMap.lt {w : World} {base mb : Nat} {L : List S} (h : LabMap w base mb L) : mb < w.heap.size := by
  obtain ⟨f, n, hm, _⟩ := h.ex; exact hm.lt
theorem LabMap.made (w : World) (base : Nat) : LabMap (w.alloc (.map #[] 0)) base w.heap.size [] :=
  ⟨fun _ => none, 0, OMap.made w, fun l b h => (by cases h), fun _ _ _ h => (by cases h), fun l l' b h => (by cases h)⟩
theorem LabMap.kept {w w' : World} {base mb : Nat} {L : List S} (h : LabMap w base mb L) (hb : w'.heap[mb]? = w.heap[mb]?) (hr : ∀ b, base ≤ b → b < w.heap.size → RowBlk w b → w'.heap[b]? = w.heap[b]?) : LabMap w' base mb L := by
  obtain ⟨f, n, hm, h1, h2, h3⟩ := h.ex
  refine ⟨f, n, hm.of_block hb, fun l b hl => ?_, h2, h3⟩
  obtain ⟨a1, a2, a3, a4⟩ := h1 l b hl
  have e := hr b a1 a3.lt a4
  exact ⟨a1, a2, a3.of_block e, a4.of_block e⟩
theorem LabMap.call {w w' : World} {base mb : Nat} {L : List S} (h : LabMap w base mb L) (hB : Below w.heap.size w w') : LabMap w' base mb L :=
  h.kept (hB.block _ h.lt) (fun b _ hb _ => hB.block b hb)
theorem zeroRow (w : World) (T : TypeId) : RowAt (w.alloc (.cells #[.int .u64 0, .int .u64 0, .int .u64 0, .int .u64 0, .int .u64 0] T)) w.heap.size 0 (fun _ => false) := fun j hj => by
  rw [wj_none]
  have hj' : j = 0 ∨ j = 1 ∨ j = 2 ∨ j = 3 ∨ j = 4 := by omega
  rcases hj' with rfl | rfl | rfl | rfl | rfl <;> simp [go_sem]
theorem LabMap.fresh {w w1 : World} {base mb H : Nat} (hH : w.heap.size = H) {L : List S} (h : LabMap w base mb L) {l : Int} (hno : ∀ t, (l, t) ∉ L) (hbase : base ≤ H) {f : Int → Option Nat} {n n' : Nat} (_hf0 : OMap w mb encK okI encP f n) (_hfl : f l = none)
    (h1 : ∀ l b, f l = some b → base ≤ b ∧ b ≠ mb ∧ RowAt w b 0 (rowL L l) ∧ RowBlk w b) (h2 : ∀ l, f l = none → ∀ t, (l, t) ∉ L) (h3 : ∀ l l' b, f l = some b → f l' = some b → l = l')
    (hm : OMap w1 mb encK okI encP (fun z => if z = l then some H else f z) n') (hg : (w.alloc (.cells #[.int .u64 0, .int .u64 0, .int .u64 0, .int .u64 0, .int .u64 0] 80)).grownBy w1 (some mb)) :
    RowAt w1 H 0 (rowL L l) ∧ RowBlk w1 H ∧ (∀ l' b, (fun z => if z = l then some H else f z) l' = some b → base ≤ b ∧ b ≠ mb ∧ RowAt w1 b 0 (rowL L l') ∧ RowBlk w1 b) ∧
      (∀ l', (fun z => if z = l then some H else f z) l' = none → ∀ t, (l', t) ∉ L) ∧ (∀ l1 l2 b, (fun z => if z = l then some H else f z) l1 = some b → (fun z => if z = l then some H else f z) l2 = some b → l1 = l2) := by
  subst hH
  have hmw := h.lt
  have hblk : ∀ b, b < w.heap.size + 1 → b ≠ mb → w1.heap[b]? = (w.alloc (.cells #[.int .u64 0, .int .u64 0, .int .u64 0, .int .u64 0, .int .u64 0] 80)).heap[b]? := fun b hb hne => hg.block b (by simp; omega) (fun e => hne (Option.some.inj e))
  have hnew := hblk w.heap.size (by omega) (by omega)
  have hold : ∀ b, b < w.heap.size → b ≠ mb → w1.heap[b]? = w.heap[b]? := fun b hb hne => (hblk b (by omega) hne).trans (Below.heap_alloc w _ b hb)
  have hrow : RowAt w1 w.heap.size 0 (rowL L l) := by
    have e : rowL L l = fun _ => false := funext fun t => by unfold rowL; simp [hno]
    rw [e]; exact (zeroRow w _).of_block hnew
  have hfr : RowBlk w1 w.heap.size := ⟨_, hnew.trans (heap_alloc_new w _)⟩
  refine ⟨hrow, hfr, fun l' b hl' => ?_, fun l' hl' => ?_, fun l1 l2 b e1 e2 => ?_⟩
  · by_cases e : l' = l
    · subst e
      simp at hl'
      subst hl'
      exact ⟨hbase, by omega, hrow, hfr⟩
    · simp only [if_neg e] at hl'
      obtain ⟨a1, a2, a3, a4⟩ := h1 l' b hl'
      have eb := hold b a3.lt a2
      exact ⟨a1, a2, a3.of_block eb, a4.of_block eb⟩
  · by_cases e : l' = l
    · subst e; exact hno
    · simp only [if_neg e] at hl'
      exact h2 l' hl'
  · have key : ∀ l' b, f l' = some b → b < w.heap.size := fun l' b h => (h1 l' b h).2.2.1.lt
    by_cases c1 : l1 = l <;> by_cases c2 : l2 = l
    · rw [c1, c2]
    · simp only [if_pos c1, if_neg c2, Option.some.injEq] at e1 e2
      have := key l2 b e2; omega
    · simp only [if_neg c1, if_pos c2, Option.some.injEq] at e1 e2
      have := key l1 b e1; omega
    · simp only [if_neg c1, if_neg c2] at e1 e2
      exact h3 l1 l2 b e1 e2
theorem LabMap.noted {w : World} {base mb : Nat} {L : List S} {l : Int} {t : Nat} {f : Int → Option Nat} {n : Nat} {b : Nat} (hm : OMap w mb encK okI encP f n) (hfl : f l = some b)
    (h1 : ∀ l b, f l = some b → base ≤ b ∧ b ≠ mb ∧ RowAt w b 0 (rowL L l) ∧ RowBlk w b) (h2 : ∀ l, f l = none → ∀ t, (l, t) ∉ L) (h3 : ∀ l l' b, f l = some b → f l' = some b → l = l') :
    LabMap (w.setCell ⟨b, 0 + t / 64, none⟩ (.int .u64 (wj (putF (rowL L l) t) (t / 64) : Nat))).drew base mb (L ++ [(l, (t : Int))]) := by
  obtain ⟨a1, a2, a3, a4⟩ := h1 l b hfl
  have hset : ∀ b', b' ≠ b → (w.setCell ⟨b, 0 + t / 64, none⟩ (.int .u64 (wj (putF (rowL L l) t) (t / 64) : Nat))).drew.heap[b']? = w.heap[b']? := fun b' hne => Below.heap_setCell _ _ _ _ hne
  refine ⟨f, n, hm.of_block (hset mb (Ne.symm a2)), fun l' b' hl' => ?_, fun l' hl' t' => ?_, h3⟩
  · by_cases e : l' = l
    · subst e
      rw [hfl] at hl'
      simp only [Option.some.injEq] at hl'
      subst hl'
      refine ⟨a1, a2, fun j hj => ?_, a4.set _ _⟩
      · have hF : wj (rowL (L ++ [(l', (t : Int))]) l') j = wj (putF (rowL L l') t) j := wj_ext (fun k _ => by
          unfold putF rowL
          rw [Bool.eq_iff_iff]
          simp only [decide_eq_true_eq, Bool.or_eq_true, List.mem_append, List.mem_singleton, Prod.mk.injEq, true_and]
          constructor
          · rintro (h | h)
            · exact .inl h
            · exact .inr (by omega)
          · rintro (h | h)
            · exact .inl h
            · exact .inr (by omega))
        rw [hF]
        by_cases ej : j = t / 64
        · subst ej
          exact World.cell?_setCell_same _ _ _ (a3 (t / 64) hj)
        · rw [wj_put_ne _ ej]
          exact (World.cell?_setCell_other _ _ _ _ (by intro h; simp at h <;> omega)).trans (a3 j hj)
    · obtain ⟨c1, c2, c3, c4⟩ := h1 l' b' hl'
      have hne : b' ≠ b := fun e2 => e (h3 l' l b (by rw [← e2]; exact hl') hfl)
      have hF : ∀ j, wj (rowL (L ++ [(l, (t : Int))]) l') j = wj (rowL L l') j := fun j => wj_ext (fun k _ => by
        unfold rowL
        simp [e])
      refine ⟨c1, c2, fun j hj => ?_, c4.of_block (hset b' hne)⟩
      rw [hF]; exact (c3.of_block (hset b' hne)) j hj
  · intro hmem
    rcases List.mem_append.1 hmem with h | h
    · exact h2 l' hl' t' h
    · simp at h
      rw [h.1, hfl] at hl'; cases hl'
end Go.Proofs.YtbaccmlfnbgehaaGreatDoor
namespace Go.Proofs.YtbaccmlfnbgehaaGreatDoor
open Go.RowKit Pl
open Lib (hid)
theorem rowMp : IsRow Tryz.prog 190 193 1 8 (.map none) := isRow_of Tryz.underlying190 (by kernel_rfl) rfl (by decide)
theorem LabMap.mono {w : World} {base base' mb : Nat} {L : List S} (h : LabMap w base mb L) (hb : base' ≤ base) : LabMap w base' mb L := by
  obtain ⟨f, n, hm, h1, h2, h3⟩ := h.ex
  exact ⟨f, n, hm, fun l b e => by obtain ⟨a1, a2⟩ := h1 l b e; exact ⟨Nat.le_trans hb a1, a2⟩, h2, h3⟩
structure TK (w0 wr : World) (gb : Nat) (dv : Value) (ms : List Value) (s : Lts) : Prop where
  bel : Below w0.heap.size w0 wr
  blk : wr.heap[w0.heap.size]? = some (.cells #[.pointer (some ⟨gb, 0, none⟩), dv] 192 (0, 0))
  own : wr.ownsRow (w0.heap.size + 1) 193 1 dv ms.length (ms.flatMap encV)
  maps : ∀ (q : Nat) (x : Value), ms[q]? = some x → ∃ mb, x = .map (some mb) ∧ w0.heap.size + 1 ≤ mb ∧ LabMap wr (w0.heap.size + 1) mb (s.outs (q : Int))
section
variable {w0 wr wb w1 w' : World} {gb : Nat} {dv : Value} {ms : List Value} {s : Lts}
theorem TK.call (h : TK w0 wr gb dv ms s) (hB : Below wr.heap.size wr w') : TK w0 w' gb dv ms s :=
  ⟨h.bel.trans (hB.mono h.bel.size), by rw [hB.block _ (Array.getElem?_eq_some_iff.1 h.blk).1]; exact h.blk, own_below h.own hB, fun q x hx => by
    obtain ⟨mb, h1, h2, h3⟩ := h.maps q x hx
    exact ⟨mb, h1, h2, h3.call hB⟩⟩
theorem TK.blk6 (h : TK w0 wr gb dv ms s) (hB : Below wr.heap.size wr wb) (hg : wb.grownBy w1 dv.ownBlock) :
    w1.cell? ⟨w0.heap.size, 1, none⟩ = some dv ∧ w1.frozen? ⟨w0.heap.size, 1, none⟩ = false ∧ w0.heap.size < w1.heap.size := by
  have hb := h.call hB
  have h1 : w1.heap[w0.heap.size]? = some (.cells #[.pointer (some ⟨gb, 0, none⟩), dv] 192 (0, 0)) := by
    rw [hg.block _ (Array.getElem?_eq_some_iff.1 hb.blk).1 (fun e => by have := (hb.own.lt _ e.symm).1; omega)]; exact hb.blk
  exact ⟨by simp [World.cell?, h1], by simp [World.frozen?, h1], (Array.getElem?_eq_some_iff.1 h1).1⟩
theorem TK.push (h : TK w0 wr gb dv ms s) {mb : Nat} (hmb : w0.heap.size + 1 ≤ mb) (hm : LabMap wr (w0.heap.size + 1) mb (s.outs (ms.length : Int)))
    (hB : Below wr.heap.size wr wb) {g cap : Nat} (hown : w1.ownsRow (w0.heap.size + 1) 193 1 (.slice (some ⟨g, 0, none⟩) (ms.length + 1) cap) (ms.length + 1) (ms.flatMap encV ++ [.map (some mb)])) (hg : wb.grownBy w1 dv.ownBlock) :
    TK w0 (w1.setCell ⟨w0.heap.size, 1, none⟩ (.slice (some ⟨g, 0, none⟩) (ms.length + 1) cap)) gb (.slice (some ⟨g, 0, none⟩) (ms.length + 1) cap) (ms ++ [.map (some mb)]) s := by
  have hb := h.call hB
  have hlt : ∀ k, dv.ownBlock = some k → w0.heap.size + 1 ≤ k := fun k e => (hb.own.lt k e).1
  have hblk : ∀ b, b < wb.heap.size → dv.ownBlock ≠ some b → w1.heap[b]? = wb.heap[b]? := fun b h1 h2 => hg.block b h1 (fun e => h2 e.symm)
  have hty : ∀ b, dv.ownBlock = some b → ∃ cur, wb.heap[b]? = some (.cells cur 193 (0, 0)) := fun b e => by
    rcases hb.own.2 with ⟨h2, _⟩ | ⟨gg, cap, cur, hv, _, hgg, _⟩
    · rw [h2] at e; cases e
    · rw [hv] at e; simp only [Value.ownBlock, Option.some.injEq] at e; subst e; exact ⟨cur, hgg⟩
  have hset : ∀ b, b ≠ w0.heap.size → (w1.setCell ⟨w0.heap.size, 1, none⟩ (.slice (some ⟨g, 0, none⟩) (ms.length + 1) cap)).heap[b]? = w1.heap[b]? := fun b hb => Below.heap_setCell _ _ _ _ hb
  have hmap : ∀ {x L}, w0.heap.size + 1 ≤ x → LabMap wb (w0.heap.size + 1) x L → LabMap (w1.setCell ⟨w0.heap.size, 1, none⟩ (.slice (some ⟨g, 0, none⟩) (ms.length + 1) cap)) (w0.heap.size + 1) x L := fun {x L} hx0 hx => by
    refine hx.kept ((hset x (by omega)).trans (hblk x hx.lt (fun e => ?_))) (fun b hb1 hb2 hr => (hset b (by omega)).trans (hblk b hb2 (fun e => ?_)))
    · obtain ⟨f, n, hmm, _⟩ := hx.ex
      obtain ⟨es, cl, he⟩ := hmm.block
      obtain ⟨cur, hc⟩ := hty _ e
      rw [hc] at he; cases he
    · obtain ⟨c, hc⟩ := hr
      obtain ⟨cur, hc2⟩ := hty _ e
      rw [hc2] at hc
      injection hc with hc; injection hc with _ hc; exact absurd hc (by decide)
  have hgl : w0.heap.size + 1 ≤ g := (hown.lt g rfl).1
  refine ⟨(hb.bel.grown hg hb.bel.size (fun k e => by have := hlt k e; omega)).setCell (Nat.le_refl _) _, ?_, ?_, fun q x hx => ?_⟩
  · have h1 : w1.heap[w0.heap.size]? = some (.cells #[.pointer (some ⟨gb, 0, none⟩), dv] 192 (0, 0)) := by rw [hblk _ (Array.getElem?_eq_some_iff.1 hb.blk).1 (fun e => by have := hlt _ e; omega)]; exact hb.blk
    exact heap_setCell_same w1 w0.heap.size 1 #[.pointer (some ⟨gb, 0, none⟩), dv] 192 _ h1
  · have e1 : (ms ++ [Value.map (some mb)]).flatMap encV = ms.flatMap encV ++ [.map (some mb)] := by rw [List.flatMap_append]; rfl
    rw [e1, List.length_append]
    exact ownsRow_setCell_below hown (show w0.heap.size < w0.heap.size + 1 by omega) _
  · rcases Nat.lt_or_ge q ms.length with hq | hq
    · rw [List.getElem?_append_left hq] at hx
      obtain ⟨mb', h1, h2, h3⟩ := hb.maps q x hx
      exact ⟨mb', h1, h2, hmap h2 h3⟩
    · have hq2 : q = ms.length := by have := (List.getElem?_eq_some_iff.1 hx).1; simp at this; omega
      subst hq2
      simp at hx
      exact ⟨mb, hx.symm, hmb, hmap hmb (hm.call hB)⟩
end
structure TabOf (w : World) (gb tb : Nat) (s : Lts) (base : Nat) : Prop where
  ex : ∃ (ms : List Value) (da : Option Addr) (db dc : Nat), w.heap[tb]? = some (.cells #[.pointer (some ⟨gb, 0, none⟩), .slice da ms.length dc] 192 (0, 0)) ∧ SlAt encV 1 w da db 0 ms ∧ (ms.length : Int) = s.st ∧
    ∀ q, q < ms.length → ∃ mb, ms[q]? = some (.map (some mb)) ∧ LabMap w base mb (s.outs (q : Int))
theorem TabOf.below {w w' : World} {gb tb : Nat} {s : Lts} {base : Nat} (h : TabOf w gb tb s base) (hB : Below w.heap.size w w') : TabOf w' gb tb s base := by
  obtain ⟨ms, da, db, dc, h1, h2, h3, h4⟩ := h.ex
  exact ⟨ms, da, db, dc, by rw [hB.block _ (Array.getElem?_eq_some_iff.1 h1).1]; exact h1, h2.below hB (Nat.le_refl _), h3, fun q hq => by
    obtain ⟨mb, e1, e2⟩ := h4 q hq
    exact ⟨mb, e1, e2.call hB⟩⟩
set_option maxRecDepth 100000 in
set_option maxHeartbeats 4000000 in
theorem newTable_any {w0 : World} {gb : Nat} {s : Lts} (h : GraphAt w0 gb s) (hst : s.st ≤ 300) :
    Calls Tryz.prog 100 #[.pointer (some ⟨gb, 0, none⟩)] w0 fun e w' => e = .returned (.pointer (some ⟨w0.heap.size, 0, none⟩)) ∧ TabOf w' gb w0.heap.size s (w0.heap.size + 1) ∧ Below w0.heap.size w0 w' := by
  have hst0 := h.right.st0
  obtain ⟨n, hn⟩ := Int.eq_ofNat_of_zero_le (show 0 ≤ s.st by omega)
  have hn0 : n ≤ 300 := by omega
  have hmm := @run_makeMap Tryz.prog
  have HH := hid h
  have hb1 := (Below.refl w0.heap.size w0).alloc (Nat.le_refl _) (.cells #[.pointer (some ⟨gb, 0, none⟩), .slice none 0 0] 192)
  have HB1 := hid hb1
  have hbl1 := heap_alloc_new w0 (.cells #[.pointer (some ⟨gb, 0, none⟩), .slice none 0 0] 192)
  have HBL1 := hid hbl1
  clear h hb1 hbl1
  go_enter Tryz.func100, Tryz.ntmps100
  go_wp2_with fail
  refine (getStates_any (HH.out.below HB1.out)).mono ?_
  rintro e w2 ⟨rfl, hB2⟩
  rw [hn]
  have hw2 : TK w0 w2 gb (.slice none 0 0) [] s := ⟨HB1.out.trans (hB2.mono (by simp)), (hB2.block _ (by simp)).trans HBL1.out, ⟨by simp, .inl ⟨rfl, rfl⟩⟩, by simp⟩
  have HW2 := hid hw2
  clear hB2 hw2 HB1 HBL1
  go_wp2_with fail
  go_loopw [4, 5, 7, 13] (fun _ _ _ v13 wr => ∃ (k : Nat) (dv : Value) (ms : List Value), v13 = .int .i64 k ∧ k ≤ n ∧ ms.length = k ∧ TK w0 wr gb dv ms s) (fun _ _ _ v13 _ => n - (intOf v13).toNat)
  case atStart => exact ⟨0, _, [], rfl, Nat.zero_le _, rfl, HW2.out⟩
  case round =>
    obtain ⟨k, dv, ms, rfl, hk, hml, hwk⟩ := hrel
    obtain ⟨wk, hwr⟩ : ∃ wk, wk = wr := ⟨_, rfl⟩
    subst hwr
    have HWK := hid hwk; have HML := hid hml
    have hsz := hwk.bel.size
    have hbl := (Array.getElem?_eq_some_iff.1 hwk.blk).1
    clear hwk hml HW2
    by_cases hlt : k < n
    · have hkI : (k : Int) < (n : Int) := by omega
      have hLM := LabMap.made wk (wk.heap.size + 1)
      have hBM := (Below.refl wk.heap.size wk).alloc (Nat.le_refl _) (.map #[] 0)
      have HLM := hid hLM; have HBM := hid hBM
      clear hLM hBM
      go_wp2_with fail
      refine (each_any HH.out (HWK.out.bel.trans (HBM.out.mono hsz)) (k : Int)).mono ?_
      rintro e w3 ⟨⟨a2, c2, b2, off2, rfl, hc2, hm2, hss⟩, hB3⟩
      have HSS := hid hss
      have hsl : (s.outs (k : Int)).length ≤ 10000 := outs_len HH.out.right _
      have HL3 := hid (HLM.out.call hB3); have HB3 := hid (HBM.out.trans (hB3.mono (by simp)))
      clear hss hB3 hc2 hm2 HLM HBM
      go_wp2_with fail
      go_loopw [7, 21] (fun _ v21 wr => ∃ j : Nat, v21 = .int .i64 j ∧ j ≤ (s.outs (k : Int)).length ∧ LabMap wr (wk.heap.size + 1) wk.heap.size ((s.outs (k : Int)).take j) ∧ Below wk.heap.size wk wr) (fun _ v21 _ => (s.outs (k : Int)).length - (intOf v21).toNat)
      case atStart => exact ⟨0, rfl, Nat.zero_le _, HL3.out, HB3.out⟩
      case round =>
        obtain ⟨j, rfl, hj, hlx, hbx⟩ := hrel
        have HLX := hid hlx; have HBX := hid hbx
        clear HL3 HB3
        by_cases hjl : j < (s.outs (k : Int)).length
        · obtain ⟨y, hy⟩ := getElem?_of_lt hjl
          have hss := HSS.out.below (HWK.out.bel.trans (HBX.out.mono hsz)) (Nat.le_refl _)
          obtain rfl := hss.ad (by omega)
          have d0 := hss.s0 hy; have d1 := hss.s1 hy
          have dl := hss.lt (by omega)
          have hyr := offB_false.1 (HH.out.right.edges _ (mem_outs.1 (List.mem_of_getElem? hy)))
          have hlb := HH.out.right.st0
          obtain ⟨y1, y2⟩ := y
          simp only at hyr d0 d1
          obtain ⟨t, rfl⟩ := Int.eq_ofNat_of_zero_le hyr.2.2.2.2.1
          have ht : t < 320 := by omega
          have hok : okI y1 := WalkArith.wf_i64 (by omega)
          have hjI : (j : Int) < ((s.outs (k : Int)).length : Int) := by omega
          obtain ⟨f, nm, hm, h1, h2, h3⟩ := hlx.ex
          have hwsz := hbx.size
          have hmlt := hm.lt
          have hmW : OMap (wr.alloc (.cells #[.int .i64 y1, .int .i64 t] 115)) wk.heap.size encK okI encP f nm := hm.of_block (Below.heap_alloc _ _ _ hm.lt)
          have hbW := hbx.alloc hwsz (.cells #[.int .i64 y1, .int .i64 t] 115)
          have hsW := heap_alloc_new wr (.cells #[.int .i64 y1, .int .i64 t] 115)
          have h1W : ∀ l b, f l = some b → wk.heap.size + 1 ≤ b ∧ b ≠ wk.heap.size ∧ RowAt (wr.alloc (.cells #[.int .i64 y1, .int .i64 t] 115)) b 0 (rowL ((s.outs (k : Int)).take j) l) ∧ RowBlk (wr.alloc (.cells #[.int .i64 y1, .int .i64 t] 115)) b := fun l b e => by
            obtain ⟨a1, a2, a3, a4⟩ := h1 l b e
            exact ⟨a1, a2, a3.of_block (Below.heap_alloc _ _ _ a3.lt), a4.of_block (Below.heap_alloc _ _ _ a3.lt)⟩
          have HLW := hid (hlx.kept (w' := wr.alloc (.cells #[.int .i64 y1, .int .i64 t] 115)) (Below.heap_alloc _ _ _ hmlt) (fun b _ hb _ => Below.heap_alloc _ _ _ hb))
          have HMW := hid hmW; have HBW := hid hbW; have HSW := hid hsW; have HOK := hid hok
          have H1 := hid h1W; have H2 := hid h2; have H3 := hid h3
          have htk : (s.outs (k : Int)).take j ++ [(y1, (t : Int))] = (s.outs (k : Int)).take (j + 1) := (take_snoc hy).symm
          have HTK := hid htk
          clear hss hyr hlb hy hlx hbx hm h1 h2 h3 hmW hbW hsW h1W hok htk HLX HBX
          rcases hfl : f y1 with _ | b
          · have HNO := hid (H2.out y1 hfl)
            go_wp2_with (first
              | (at_mapUpdate; refine wpList_oput rfl _ _ _ 193 rfl encInt Tryz.underlying193 rfl (HMW.out.of_block (Below.heap_alloc _ _ _ HMW.out.lt)) y1 HOK.out rfl (wr.heap.size + 1) rfl ?_; intro w3 hm3 hg3 hf3 hs3; obtain ⟨r3, b3, g1, g2, g3⟩ := LabMap.fresh (H := wr.heap.size + 1) (by simp) HLW.out HNO.out (by omega) HMW.out hfl H1.out H2.out H3.out hm3 hg3; have hc3 := (hg3.block wr.heap.size (by simp; omega) (by simp; omega)).trans ((Below.heap_alloc _ _ _ (by simp)).trans HSW.out); have c30 : w3.cell? ⟨wr.heap.size, 0, none⟩ = some (.int .i64 y1) := (by simp [World.cell?, hc3]); have c31 : w3.cell? ⟨wr.heap.size, 1, none⟩ = some (.int .i64 t) := (by simp [World.cell?, hc3]); have l3 := (Array.getElem?_eq_some_iff.1 hc3).1; have HB3 := hid ((HBW.out.alloc HBW.out.size _).grown hg3 (by simp; omega) (fun k e => by cases e; exact Nat.le_refl _)); have HM3 := hid hm3; have HG1 := hid g1; have HG2 := hid g2; have HG3 := hid g3; clear hm3 hg3 hc3 g1 g2 g3 hf3 hs3)
              | (at_lookup; refine wpList_olook rfl _ _ 193 rfl encInt Tryz.underlying193 (zeroPtr _) rfl HMW.out y1 HOK.out rfl ?_; rw [hfl])
              | (at_lookup; refine wpList_olook rfl _ _ 193 rfl encInt Tryz.underlying193 (zeroPtr _) rfl HM3.out y1 HOK.out rfl ?_; rw [if_pos rfl]; simp only [Option.map_some, Option.getD_some, encP]))
            refine (put_any r3 (fun j => b3.thawed _) ht).mono ?_
            rintro e w4 ⟨rfl, hw4⟩
            have hn4 := LabMap.noted (t := t) HM3.out (if_pos rfl) HG1.out HG2.out HG3.out
            have hB4 := (HB3.out.setCell (p := ⟨wr.heap.size + 1, 0 + t / 64, none⟩) (show wk.heap.size ≤ wr.heap.size + 1 by omega) (.int .u64 (wj (putF (rowL (List.take j (s.outs (k : Int))) y1) t) (t / 64) : Nat))).drew
            rw [← hw4, HTK.out] at hn4
            rw [← hw4] at hB4
            have HN4 := hid hn4; have HB4 := hid hB4
            clear hn4 hB4 hw4 r3 b3 c30 c31 l3 HM3 HG1 HG2 HG3 HB3
            go_wp2_with fail
            go_roundw
            case rel => exact ⟨j + 1, by go_num, by omega, HN4.out, HB4.out⟩
            case measure => simp [intOf]; omega
          · go_wp2_with (at_lookup; refine wpList_olook rfl _ _ 193 rfl encInt Tryz.underlying193 (zeroPtr _) rfl HMW.out y1 HOK.out rfl ?_; rw [hfl]; simp only [Option.map_some, Option.getD_some, encP])
            obtain ⟨a1, a2, a3, a4⟩ := H1.out y1 b hfl
            refine (put_any a3 (fun j => a4.thawed _) ht).mono ?_
            rintro e w4 ⟨rfl, hw4⟩
            have hn4 := LabMap.noted (t := t) HMW.out hfl H1.out H2.out H3.out
            have hB4 := (HBW.out.setCell (p := ⟨b, 0 + t / 64, none⟩) (show wk.heap.size ≤ b by omega) (.int .u64 (wj (putF (rowL (List.take j (s.outs (k : Int))) y1) t) (t / 64) : Nat))).drew
            rw [← hw4, HTK.out] at hn4
            rw [← hw4] at hB4
            have HN4 := hid hn4; have HB4 := hid hB4
            clear hn4 hB4 hw4 a3 a4
            go_wp2_with fail
            go_roundw
            case rel => exact ⟨j + 1, by go_num, by omega, HN4.out, HB4.out⟩
            case measure => simp [intOf]; omega
        · have hje : j = (s.outs (k : Int)).length := by omega
          have hlf : LabMap wr (w0.heap.size + 1) wk.heap.size (s.outs (k : Int)) := by
            have := HLX.out.mono (base' := w0.heap.size + 1) (by omega)
            rw [hje, List.take_length] at this; exact this
          have hW5 := HWK.out.call HBX.out
          have c0 : wr.cell? ⟨w0.heap.size, 1, none⟩ = some dv := by simp [World.cell?, hW5.blk]
          have l0 := (Array.getElem?_eq_some_iff.1 hW5.blk).1
          have HW5 := hid hW5; have HLF := hid hlf
          clear hlf hW5 HLX HBX hlx hbx HWK
          go_wp2_with (at_builtin; refine wpList_lies rfl _ _ 190 rfl rowMp (base := w0.heap.size + 1) (by simp; omega) rfl (own_below HW5.out.own ((Below.refl wr.heap.size wr).alloc (Nat.le_refl _) _)) ⟨wr.heap.size, 0, none⟩ 1 1 [.map (some wk.heap.size)] rfl rfl (cells1 (by simp [go_sem])) (by simp [Value.oneCell']) (by omega) (by rw [HML.out]; omega) (by unfold maxLen; rw [HML.out]; omega) _ rfl ?_; intro g cap w6 hown6 hg6 _ _; obtain ⟨c6, z6, l6⟩ := HW5.out.blk6 ((Below.refl wr.heap.size wr).alloc (Nat.le_refl _) _) hg6)
          have hnext := HW5.out.push (mb := wk.heap.size) (by omega) (by rw [HML.out]; exact HLF.out) ((Below.refl wr.heap.size wr).alloc (Nat.le_refl _) _) hown6 hg6
          have HNX := hid hnext
          clear hnext hown6 hg6 c6 z6 l6 HW5 c0 l0
          go_roundw
          case rel => exact ⟨k + 1, _, ms ++ [.map (some wk.heap.size)], by go_num, by omega, by simp [HML.out], HNX.out⟩
          case measure => simp [intOf]; omega
    · obtain rfl : k = n := by omega
      have hown := HWK.out.own
      obtain ⟨a, c, b, rfl, _, _, hsl, _⟩ := slAt_own lenV hown
      have hmln := HML.out
      have hfin : TabOf wk gb w0.heap.size s (w0.heap.size + 1) := ⟨ms, a, b, c, HWK.out.blk, hsl, by omega, fun q hq => by
        obtain ⟨x, hx⟩ := getElem?_of_lt hq
        obtain ⟨mb, h1, _, h3⟩ := HWK.out.maps q x hx
        exact ⟨mb, by rw [hx, h1], h3⟩⟩
      have HF := hid hfin
      have HBf := hid HWK.out.bel
      clear hown hsl hfin
      go_wp2_with fail
      go_ret
      exact ⟨rfl, HF.out, HBf.out⟩
end Go.Proofs.YtbaccmlfnbgehaaGreatDoor

/-
  Lemmas.
-/
import Derived.Test.YtffjcehopoaboaaGreatDoorGFault
import Derived.Deep.OwnRows
import Derived.Test.YtffjcehopoaboaaGreatDoorGClone
import Derived.Test.YtffjcehopoaboaaGreatDoorGPl8
import Derived.Deep.RegionHeld3
import Derived.Deep.Cut
import Derived.Deep.CutRange
import Derived.Deep.QuietTactic
import Derived.BigQuiet
import Derived.IntWalk
import Derived.Deep.DeepMust
namespace Go.Proofs.YtffjcehopoaboaaGreatDoor
open Go.RowKit Pl
theorem wpList_lies {P : Program} {w : World} {ops : Array Oper} {rest : List Oper} {o : Oper} {a : Act} {Q : Exit → Act → World → Prop} (hgd : o.guard = none) (s x : Operand) (t : TypeId)
    (ho : o.op = .call { callee := .builtin .append, args := #[s, x], argTypes := #[t, t] })
    {e : TypeId} {size bytes : Nat} {z : Value} (R : IsRow P t e size bytes z) {base : Nat} (hb0 : base ≤ w.heap.size)
    {v : Value} {n : Nat} {xs : List Value} (hs : a.eval s = v) (hown : w.ownsRow base e size v n xs)
    (ad : Addr) (m c : Nat) (news : List Value) (hx : a.eval x = .slice (some ad) m c) (hl : news.length = m * size) (hnews : ∀ j u, news[j]? = some u → w.cell? (ad.add j) = some u) (h1 : ∀ u ∈ news, u.oneCell' = true) (hm : 0 < m)
    (hbytes : (n + m) * bytes ≤ 140737488355328) (hmax : n + m ≤ maxLen) (H : Nat) (hH : w.heap.size = H)
    (h : ∀ g cap w', w'.ownsRow base e size (.slice (some ⟨g, 0, none⟩) (n + m) cap) (n + m) (xs ++ news) → w.grownBy w' v.ownBlock → (v.ownBlock = some g ∨ g = H) → g < w'.heap.size → wpList P ops Q rest (a.put o.dst (.slice (some ⟨g, 0, none⟩) (n + m) cap)) w') : wpList P ops Q (o :: rest) a w := by
  obtain ⟨i, hi, hz, hsz, hby⟩ := R.info
  exact wpList_plain hgd fun _ hK => wp_append_lies w s x t ho base e i z size bytes R.ht hi hz hsz hby R.zs R.pos v n xs hs hown ad m c news hx hl hnews h1 hm hmax hbytes hb0 H hH (fun g cap w' h2 h3 h4 h5 => hK _ _ (h g cap w' h2 h3 h4 h5))
section
variable {α : Type} {enc : α → List Value} {k : Nat} {e T : TypeId} {w w' : World} {base ob n : Nat} {f : Nat → List α}
structure OwnRows (enc : α → List Value) (k : Nat) (e T : TypeId) (w : World) (base ob n : Nat) (f : Nat → List α) : Prop where
  ex : ∃ vs : Nat → Value, w.rowIs ob T n vs ∧ (∀ p, p < n → w.ownsRow base e k (vs p) (f p).length ((f p).flatMap enc)) ∧
    (∀ p q g, p < n → q < n → p ≠ q → (vs p).ownBlock = some g → (vs q).ownBlock ≠ some g)
  lt : ob < base
theorem OwnRows.made {w : World} {n : Nat} : OwnRows enc k e T (w.alloc (.cells (madeCells #[.slice none 0 0] n) T)) (w.heap.size + 1) w.heap.size n (fun _ => []) where
  ex := ⟨fun _ => .slice none 0 0, World.rowIs_made w (.slice none 0 0) n T, fun p _ => ⟨by simp, .inl ⟨rfl, rfl⟩⟩, fun p q g _ _ _ h => by simp [Value.ownBlock] at h⟩
  lt := by omega
theorem OwnRows.kept (h : OwnRows enc k e T w base ob n f) (hs : ∀ b, b = ob ∨ base ≤ b → b < w.heap.size → w'.heap[b]? = w.heap[b]?) : OwnRows enc k e T w' base ob n f := by
  obtain ⟨vs, h1, h2, h3⟩ := h.ex
  refine ⟨⟨vs, h1.of_block (hs ob (.inl rfl) h1.lt), fun p hp => ?_, h3⟩, h.lt⟩
  have h4 := h2 p hp
  refine ⟨h4.1, ?_⟩
  rcases h4.2 with h5 | ⟨g, cap, cur, hv, hg, hh, r⟩
  · exact .inl h5
  · exact .inr ⟨g, cap, cur, hv, hg, by rw [hs g (.inr hg) (Array.getElem?_eq_some_iff.1 hh).1]; exact hh, r⟩
theorem OwnRows.call (h : OwnRows enc k e T w base ob n f) (hB : Below w.heap.size w w') : OwnRows enc k e T w' base ob n f :=
  h.kept (fun b _ hb => hB.block b hb)
theorem OwnRows.alloc (h : OwnRows enc k e T w base ob n f) (o : Obj) : OwnRows enc k e T (w.alloc o) base ob n f :=
  h.call ((Below.refl _ _).alloc (Nat.le_refl _) o)
theorem OwnRows.drewN (h : OwnRows enc k e T w base ob n f) (m : Nat) : OwnRows enc k e T (w.drewN m) base ob n f := h.kept (fun _ _ _ => rfl)
theorem OwnRows.setOther (h : OwnRows enc k e T w base ob n f) {a : Addr} (h1 : a.block ≠ ob) (h2 : a.block < base) (v : Value) : OwnRows enc k e T (w.setCell a v) base ob n f :=
  h.kept (fun b hb _ => Below.heap_setCell _ _ _ _ (by rcases hb with rfl | hb <;> omega))
theorem OwnRows.size (h : OwnRows enc k e T w base ob n f) : ob < w.heap.size := by obtain ⟨vs, h1, _⟩ := h.ex; exact h1.lt
theorem OwnRows.at (h : OwnRows enc k e T w base ob n f) {p : Nat} (hp : p < n) : ∃ v, w.cell? ⟨ob, p, none⟩ = some v ∧ w.frozen? ⟨ob, p, none⟩ = false ∧ w.ownsRow base e k v (f p).length ((f p).flatMap enc) := by
  obtain ⟨vs, h1, h2, _⟩ := h.ex
  exact ⟨vs p, h1.cell hp, h1.frozen p, h2 p hp⟩
theorem OwnRows.open (h : OwnRows enc k e T w base ob n f) {p : Nat} (hp : p < n) : ∃ v, w.cell? ⟨ob, p, none⟩ = some v ∧ w.frozen? ⟨ob, p, none⟩ = false ∧ w.ownsRow base e k v (f p).length ((f p).flatMap enc) ∧
    ∀ (w1 w2 : World) (g cap : Nat) (ys : List α), Below w.heap.size w w1 → base ≤ w1.heap.size → w2.ownsRow base e k (.slice (some ⟨g, 0, none⟩) ys.length cap) ys.length (ys.flatMap enc) → w1.grownBy w2 v.ownBlock → (v.ownBlock = some g ∨ w.heap.size ≤ g) →
      w2.cell? ⟨ob, p, none⟩ = some v ∧ w2.frozen? ⟨ob, p, none⟩ = false ∧
      OwnRows enc k e T (w2.setCell ⟨ob, p, none⟩ (.slice (some ⟨g, 0, none⟩) ys.length cap)) base ob n (fun i => if i = p then ys else f i) := by
  obtain ⟨vs, h1, h2, h3⟩ := h.ex
  refine ⟨vs p, h1.cell hp, h1.frozen p, h2 p hp, fun w1 w2 g cap ys hB hbs hown hg hgg => ?_⟩
  have hob : (vs p).ownBlock ≠ some ob := fun e => by
    have := ((h2 p hp).lt ob e).1; have := h.lt; omega
  have hobl : ob < w1.heap.size := Nat.lt_of_lt_of_le h1.lt hB.size
  have hrow2 : w2.rowIs ob T n vs := (h1.of_block (hB.block ob h1.lt)).of_block (hg.block ob hobl (fun e => hob e.symm))
  refine ⟨hrow2.cell hp, hrow2.frozen p, ⟨fun i => if i = p then .slice (some ⟨g, 0, none⟩) ys.length cap else vs i, hrow2.set p _, fun q hq => ?_, ?_⟩, h.lt⟩
  · by_cases e : q = p
    · subst e
      simp only [if_true]
      exact ownsRow_setCell_below hown h.lt _
    · simp only [if_neg e]
      have h4 := h2 q hq
      refine ⟨h4.1, ?_⟩
      rcases h4.2 with h5 | ⟨gq, capq, cur, hv, hgq, hh, r⟩
      · exact .inl h5
      · refine .inr ⟨gq, capq, cur, hv, hgq, ?_, r⟩
        have hlt := (Array.getElem?_eq_some_iff.1 hh).1
        have hl := h.lt
        have hqb : (vs q).ownBlock = some gq := by rw [hv]; rfl
        rw [Below.heap_setCell _ _ _ _ (by show gq ≠ ob; omega), hg.block gq (Nat.lt_of_lt_of_le hlt hB.size) (fun e2 => h3 q p gq hq hp e hqb e2.symm), hB.block gq hlt]
        exact hh
  · intro a b gg ha hb hab hga
    have key : ∀ q, q < n → q ≠ p → (vs q).ownBlock ≠ some g := by
      intro q hq hqp e2
      rcases hgg with e1 | e1
      · exact h3 p q g hp hq (Ne.symm hqp) e1 e2
      · have := ((h2 q hq).lt g e2).2; omega
    by_cases e1 : a = p
    · subst e1
      simp only [if_true, Value.ownBlock, Option.some.injEq] at hga
      subst hga
      simp only [if_neg (Ne.symm hab)]
      exact key b hb (Ne.symm hab)
    · simp only [if_neg e1] at hga
      by_cases e2 : b = p
      · subst e2
        simp only [if_true, Value.ownBlock]
        intro e3
        simp only [Option.some.injEq] at e3
        subst e3
        exact key a ha e1 hga
      · simp only [if_neg e2]; exact h3 a b gg ha hb hab hga
end
end Go.Proofs.YtffjcehopoaboaaGreatDoor
namespace Go.Proofs.YtffjcehopoaboaaGreatDoor
open Go.RowKit Pl
structure Blk (b0 B WB LB NB IB CB : Nat) : Prop where
  lo : b0 ≤ WB ∧ b0 ≤ LB ∧ b0 ≤ NB ∧ b0 ≤ IB ∧ b0 ≤ CB ∧ b0 ≤ B
  hi : WB < B ∧ LB < B ∧ NB < B ∧ IB < B ∧ CB < B
  w : WB ≠ LB ∧ WB ≠ NB ∧ WB ≠ IB ∧ WB ≠ CB
  l : LB ≠ NB ∧ LB ≠ IB ∧ LB ≠ CB
  n : NB ≠ IB ∧ NB ≠ CB ∧ IB ≠ CB
structure TW (w0 wr : World) (B WB LB NB IB CB n : Nat) (gp : Value) (low num cls : Nat → Int) (iso : Nat → Bool) (met found : Int) (ol : List Int) (sl : List E) (vo vs : Value) : Prop where
  blk : Blk w0.heap.size B WB LB NB IB CB
  bel : Below w0.heap.size w0 wr
  bsz : B ≤ wr.heap.size
  wb : wr.heap[WB]? = some (.cells #[gp, .slice (some ⟨LB, 0, none⟩) n n, .slice (some ⟨NB, 0, none⟩) n n, vo, .slice (some ⟨IB, 0, none⟩) n n, .slice (some ⟨CB, 0, none⟩) n n, .int .i64 met, .int .i64 found, vs] 290 (0, 0))
  low : wr.rowIs LB 3 n (fun j => .int .i64 (low j))
  num : wr.rowIs NB 3 n (fun j => .int .i64 (num j))
  iso : wr.rowIs IB 4 n (fun j => .bool (iso j))
  cls : wr.rowIs CB 3 n (fun j => .int .i64 (cls j))
  opn : wr.ownsRow B 3 1 vo ol.length (ol.flatMap encI)
  stk : wr.ownsRow B 298 3 vs sl.length (sl.flatMap encE)
  dis : ∀ g, vo.ownBlock = some g → vs.ownBlock ≠ some g
section
variable {w0 wr w' : World} {B WB LB NB IB CB n : Nat} {gp : Value} {low num cls : Nat → Int} {iso : Nat → Bool} {met found : Int} {ol : List Int} {sl : List E} {vo vs : Value}
theorem TW.lts (h : TW w0 wr B WB LB NB IB CB n gp low num cls iso met found ol sl vo vs) : WB < wr.heap.size ∧ LB < wr.heap.size ∧ NB < wr.heap.size ∧ IB < wr.heap.size ∧ CB < wr.heap.size ∧ w0.heap.size ≤ wr.heap.size := by
  have := h.blk.hi; have := h.bsz; have := h.bel.size
  exact ⟨by omega, by omega, by omega, by omega, by omega, by omega⟩
theorem TW.call (h : TW w0 wr B WB LB NB IB CB n gp low num cls iso met found ol sl vo vs) (hB : Below wr.heap.size wr w') : TW w0 w' B WB LB NB IB CB n gp low num cls iso met found ol sl vo vs := by
  obtain ⟨l1, l2, l3, l4, l5, l6⟩ := h.lts
  exact ⟨h.blk, h.bel.trans (hB.mono l6), Nat.le_trans h.bsz hB.size, by rw [hB.block _ l1]; exact h.wb, h.low.of_block (hB.block _ l2), h.num.of_block (hB.block _ l3), h.iso.of_block (hB.block _ l4), h.cls.of_block (hB.block _ l5), own_below h.opn hB, own_below h.stk hB, h.dis⟩
theorem TW.alloc (h : TW w0 wr B WB LB NB IB CB n gp low num cls iso met found ol sl vo vs) (o : Obj) : TW w0 (wr.alloc o) B WB LB NB IB CB n gp low num cls iso met found ol sl vo vs := h.call ((Below.refl _ _).alloc (Nat.le_refl _) o)
theorem TW.drewN (h : TW w0 wr B WB LB NB IB CB n gp low num cls iso met found ol sl vo vs) (m : Nat) : TW w0 (wr.drewN m) B WB LB NB IB CB n gp low num cls iso met found ol sl vo vs := h.call (bdrew (Below.refl _ _))
theorem TW.drew (h : TW w0 wr B WB LB NB IB CB n gp low num cls iso met found ol sl vo vs) : TW w0 wr.drew B WB LB NB IB CB n gp low num cls iso met found ol sl vo vs := h.call (Below.refl _ _).drew
theorem TW.sgt (h : TW w0 wr B WB LB NB IB CB n gp low num cls iso met found ol sl vo vs) : ∀ g, vs.ownBlock = some g → B ≤ g := fun g hg => (h.stk.lt g hg).1
theorem TW.cells (h : TW w0 wr B WB LB NB IB CB n gp low num cls iso met found ol sl vo vs) :
    wr.cell? ⟨WB, 0, none⟩ = some gp ∧ wr.cell? ⟨WB, 1, none⟩ = some (.slice (some ⟨LB, 0, none⟩) n n) ∧ wr.cell? ⟨WB, 2, none⟩ = some (.slice (some ⟨NB, 0, none⟩) n n) ∧ wr.cell? ⟨WB, 3, none⟩ = some vo ∧ wr.cell? ⟨WB, 4, none⟩ = some (.slice (some ⟨IB, 0, none⟩) n n) ∧
    wr.cell? ⟨WB, 5, none⟩ = some (.slice (some ⟨CB, 0, none⟩) n n) ∧ wr.cell? ⟨WB, 6, none⟩ = some (.int .i64 met) ∧ wr.cell? ⟨WB, 7, none⟩ = some (.int .i64 found) ∧ wr.cell? ⟨WB, 8, none⟩ = some vs := by
  have := h.wb
  refine ⟨?_, ?_, ?_, ?_, ?_, ?_, ?_, ?_, ?_⟩ <;> simp [World.cell?, this]
theorem TW.fz (h : TW w0 wr B WB LB NB IB CB n gp low num cls iso met found ol sl vo vs) (j : Nat) : wr.frozen? ⟨WB, j, none⟩ = false := by
  have := h.wb
  simp [World.frozen?, this]
end
end Go.Proofs.YtffjcehopoaboaaGreatDoor

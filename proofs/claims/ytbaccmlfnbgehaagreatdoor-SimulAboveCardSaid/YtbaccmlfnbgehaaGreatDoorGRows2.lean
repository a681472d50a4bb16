/-
  Lemmas.
-/
import Derived.Test.YtbaccmlfnbgehaaGreatDoorGKit
import Derived.Deep.OwnRows
import Derived.Test.YtbaccmlfnbgehaaGreatDoorGClone
import Derived.Test.YtbaccmlfnbgehaaGreatDoorGPl1
import Derived.Deep.RegionHeld3
import Derived.Deep.Cut
import Derived.Deep.CutRange
import Derived.Deep.QuietTactic
import Derived.BigQuiet
import Derived.IntWalk
import Derived.Deep.DeepMust
import Derived.WalkKit
import Derived.LaidEql
import Derived.Stop.Asserts
import Derived.RowKitTokens
namespace Go.Proofs.YtbaccmlfnbgehaaGreatDoor
open Go.RowKit Pl
theorem wpList_lies {P : Program} {w : World} {ops : Array Oper} {rest : List Oper} {o : Oper} {a : Act} {Q : Exit → Act → World → Prop} (hgd : o.guard = none) (s x : Operand) (t : TypeId)
    (ho : o.op = .call { callee := .builtin .append, args := #[s, x], argTypes := #[t, t] })
    {e : TypeId} {size bytes : Nat} {z : Value} (R : IsRow P t e size bytes z) {base : Nat} (hb0 : base ≤ w.heap.size)
    {v : Value} {n : Nat} {xs : List Value} (hs : a.eval s = v) (hown : w.ownsRow base e size v n xs)
    (ad : Addr) (m c : Nat) (news : List Value) (hx : a.eval x = .slice (some ad) m c) (hl : news.length = m * size) (hnews : ∀ j u, news[j]? = some u → w.cell? (ad.add j) = some u) (h1 : ∀ u ∈ news, u.oneCell' = true) (hm : 0 < m)
    (hbytes : (n + m) * bytes ≤ 140737488355328) (hmax : n + m ≤ maxLen) (H : Nat) (hH : w.heap.size = H)
    (h : ∀ g cap w', w'.ownsRow base e size (.slice (some ⟨g, 0, none⟩) (n + m) cap) (n + m) (xs ++ news) → w.grownBy w' v.ownBlock → (v.ownBlock = some g ∨ g = H) → g < w'.heap.size → wpList P ops Q rest (a.put o.dst (.slice (some ⟨g, 0, none⟩) (n + m) cap)) w') : wpList P ops Q (o :: rest) a w := by
  obtain ⟨i, hi, hz, hsz, hby⟩ := R.info
  exact wpList_plain hgd fun _ hK => wp_append_lies w s x t ho base e i z size bytes R.ht hi hz hsz hby R.zs R.pos v n xs hs hown ad m c news hx hl hnews h1 hm hmax hbytes hb0 H hH (fun g cap w' h2 h3 h4 h5 => hK _ _ (h g cap w' h2 h3 h4 h5))
section
variable {α : Type} {enc : α → List Value} {k : Nat} {e T : TypeId} {w w' : World} {base ob n : Nat} {f : Nat → List α}
structure OwnRows (enc : α → List Value) (k : Nat) (e T : TypeId) (w : World) (base ob n : Nat) (f : Nat → List α) : Prop where
  ex : ∃ vs : Nat → Value, w.rowIs ob T n vs ∧ (∀ p, p < n → w.ownsRow base e k (vs p) (f p).length ((f p).flatMap enc)) ∧
    (∀ p q g, p < n → q < n → p ≠ q → (vs p).ownBlock = some g → (vs q).ownBlock ≠ some g)
  lt : ob < base
theorem OwnRows.made {w : World} {n : Nat} : OwnRows enc k e T (w.alloc (.cells (madeCells #[.slice none 0 0] n) T)) (w.heap.size + 1) w.heap.size n (fun _ => []) where
  ex := ⟨fun _ => .slice none 0 0, World.rowIs_made w (.slice none 0 0) n T, fun p _ => ⟨by simp, .inl ⟨rfl, rfl⟩⟩, fun p q g _ _ _ h => by simp [Value.ownBlock] at h⟩
  lt := by omega
theorem OwnRows.kept (h : OwnRows enc k e T w base ob n f) (hs : ∀ b, b = ob ∨ base ≤ b → b < w.heap.size → w'.heap[b]? = w.heap[b]?) : OwnRows enc k e T w' base ob n f := by
  obtain ⟨vs, h1, h2, h3⟩ := h.ex
  refine ⟨⟨vs, h1.of_block (hs ob (.inl rfl) h1.lt), fun p hp => ?_, h3⟩, h.lt⟩
  have h4 := h2 p hp
  refine ⟨h4.1, ?_⟩
  rcases h4.2 with h5 | ⟨g, cap, cur, hv, hg, hh, r⟩
  · exact .inl h5
  · exact .inr ⟨g, cap, cur, hv, hg, by rw [hs g (.inr hg) (Array.getElem?_eq_some_iff.1 hh).1]; exact hh, r⟩
theorem OwnRows.call (h : OwnRows enc k e T w base ob n f) (hB : Below w.heap.size w w') : OwnRows enc k e T w' base ob n f :=
  h.kept (fun b _ hb => hB.block b hb)
theorem OwnRows.alloc (h : OwnRows enc k e T w base ob n f) (o : Obj) : OwnRows enc k e T (w.alloc o) base ob n f :=
  h.call ((Below.refl _ _).alloc (Nat.le_refl _) o)
theorem OwnRows.drewN (h : OwnRows enc k e T w base ob n f) (m : Nat) : OwnRows enc k e T (w.drewN m) base ob n f := h.kept (fun _ _ _ => rfl)
theorem OwnRows.setOther (h : OwnRows enc k e T w base ob n f) {a : Addr} (h1 : a.block ≠ ob) (h2 : a.block < base) (v : Value) : OwnRows enc k e T (w.setCell a v) base ob n f :=
  h.kept (fun b hb _ => Below.heap_setCell _ _ _ _ (by rcases hb with rfl | hb <;> omega))
theorem OwnRows.size (h : OwnRows enc k e T w base ob n f) : ob < w.heap.size := by obtain ⟨vs, h1, _⟩ := h.ex; exact h1.lt
theorem OwnRows.at (h : OwnRows enc k e T w base ob n f) {p : Nat} (hp : p < n) : ∃ v, w.cell? ⟨ob, p, none⟩ = some v ∧ w.frozen? ⟨ob, p, none⟩ = false ∧ w.ownsRow base e k v (f p).length ((f p).flatMap enc) := by
  obtain ⟨vs, h1, h2, _⟩ := h.ex
  exact ⟨vs p, h1.cell hp, h1.frozen p, h2 p hp⟩
theorem OwnRows.open (h : OwnRows enc k e T w base ob n f) {p : Nat} (hp : p < n) : ∃ v, w.cell? ⟨ob, p, none⟩ = some v ∧ w.frozen? ⟨ob, p, none⟩ = false ∧ w.ownsRow base e k v (f p).length ((f p).flatMap enc) ∧
    ∀ (w1 w2 : World) (g cap : Nat) (ys : List α), Below w.heap.size w w1 → base ≤ w1.heap.size → w2.ownsRow base e k (.slice (some ⟨g, 0, none⟩) ys.length cap) ys.length (ys.flatMap enc) → w1.grownBy w2 v.ownBlock → (v.ownBlock = some g ∨ w.heap.size ≤ g) →
      w2.cell? ⟨ob, p, none⟩ = some v ∧ w2.frozen? ⟨ob, p, none⟩ = false ∧
      OwnRows enc k e T (w2.setCell ⟨ob, p, none⟩ (.slice (some ⟨g, 0, none⟩) ys.length cap)) base ob n (fun i => if i = p then ys else f i) := by
  obtain ⟨vs, h1, h2, h3⟩ := h.ex
  refine ⟨vs p, h1.cell hp, h1.frozen p, h2 p hp, fun w1 w2 g cap ys hB hbs hown hg hgg => ?_⟩
  have hob : (vs p).ownBlock ≠ some ob := fun e => by
    have := ((h2 p hp).lt ob e).1; have := h.lt; omega
  have hobl : ob < w1.heap.size := Nat.lt_of_lt_of_le h1.lt hB.size
  have hrow2 : w2.rowIs ob T n vs := (h1.of_block (hB.block ob h1.lt)).of_block (hg.block ob hobl (fun e => hob e.symm))
  refine ⟨hrow2.cell hp, hrow2.frozen p, ⟨fun i => if i = p then .slice (some ⟨g, 0, none⟩) ys.length cap else vs i, hrow2.set p _, fun q hq => ?_, ?_⟩, h.lt⟩
  · by_cases e : q = p
    · subst e
      simp only [if_true]
      exact ownsRow_setCell_below hown h.lt _
    · simp only [if_neg e]
      have h4 := h2 q hq
      refine ⟨h4.1, ?_⟩
      rcases h4.2 with h5 | ⟨gq, capq, cur, hv, hgq, hh, r⟩
      · exact .inl h5
      · refine .inr ⟨gq, capq, cur, hv, hgq, ?_, r⟩
        have hlt := (Array.getElem?_eq_some_iff.1 hh).1
        have hl := h.lt
        have hqb : (vs q).ownBlock = some gq := by rw [hv]; rfl
        rw [Below.heap_setCell _ _ _ _ (by show gq ≠ ob; omega), hg.block gq (Nat.lt_of_lt_of_le hlt hB.size) (fun e2 => h3 q p gq hq hp e hqb e2.symm), hB.block gq hlt]
        exact hh
  · intro a b gg ha hb hab hga
    have key : ∀ q, q < n → q ≠ p → (vs q).ownBlock ≠ some g := by
      intro q hq hqp e2
      rcases hgg with e1 | e1
      · exact h3 p q g hp hq (Ne.symm hqp) e1 e2
      · have := ((h2 q hq).lt g e2).2; omega
    by_cases e1 : a = p
    · subst e1
      simp only [if_true, Value.ownBlock, Option.some.injEq] at hga
      subst hga
      simp only [if_neg (Ne.symm hab)]
      exact key b hb (Ne.symm hab)
    · simp only [if_neg e1] at hga
      by_cases e2 : b = p
      · subst e2
        simp only [if_true, Value.ownBlock]
        intro e3
        simp only [Option.some.injEq] at e3
        subst e3
        exact key a ha e1 hga
      · simp only [if_neg e2]; exact h3 a b gg ha hb hab hga
end
end Go.Proofs.YtbaccmlfnbgehaaGreatDoor
namespace Go.Proofs.YtbaccmlfnbgehaaGreatDoor
open Go.RowKit Pl
structure Blk (b0 B WB LB NB IB CB : Nat) : Prop where
  lo : b0 ≤ WB ∧ b0 ≤ LB ∧ b0 ≤ NB ∧ b0 ≤ IB ∧ b0 ≤ CB ∧ b0 ≤ B
  hi : WB < B ∧ LB < B ∧ NB < B ∧ IB < B ∧ CB < B
  w : WB ≠ LB ∧ WB ≠ NB ∧ WB ≠ IB ∧ WB ≠ CB
  l : LB ≠ NB ∧ LB ≠ IB ∧ LB ≠ CB
  n : NB ≠ IB ∧ NB ≠ CB ∧ IB ≠ CB
structure TW (w0 wr : World) (B WB LB NB IB CB n : Nat) (gp : Value) (low num cls : Nat → Int) (iso : Nat → Bool) (met found : Int) (ol : List Int) (sl : List E) (vo vs : Value) : Prop where
  blk : Blk w0.heap.size B WB LB NB IB CB
  bel : Below w0.heap.size w0 wr
  bsz : B ≤ wr.heap.size
  wb : wr.heap[WB]? = some (.cells #[gp, .slice (some ⟨LB, 0, none⟩) n n, .slice (some ⟨NB, 0, none⟩) n n, vo, .slice (some ⟨IB, 0, none⟩) n n, .slice (some ⟨CB, 0, none⟩) n n, .int .i64 met, .int .i64 found, vs] 264 (0, 0))
  low : wr.rowIs LB 3 n (fun j => .int .i64 (low j))
  num : wr.rowIs NB 3 n (fun j => .int .i64 (num j))
  iso : wr.rowIs IB 4 n (fun j => .bool (iso j))
  cls : wr.rowIs CB 3 n (fun j => .int .i64 (cls j))
  opn : wr.ownsRow B 3 1 vo ol.length (ol.flatMap encI)
  stk : wr.ownsRow B 272 3 vs sl.length (sl.flatMap encE)
  dis : ∀ g, vo.ownBlock = some g → vs.ownBlock ≠ some g
theorem own_block {w w' : World} {base : Nat} {e : TypeId} {k n : Nat} {v : Value} {xs : List Value} (h : w.ownsRow base e k v n xs) (hb : ∀ g, v.ownBlock = some g → w'.heap[g]? = w.heap[g]?) : w'.ownsRow base e k v n xs := by
  refine ⟨h.1, ?_⟩
  rcases h.2 with h2 | ⟨g, cap, cur, hv, hbg, hg, r⟩
  · exact .inl h2
  · exact .inr ⟨g, cap, cur, hv, hbg, by rw [hb g (by rw [hv]; rfl)]; exact hg, r⟩
theorem own_set1 {w : World} {base : Nat} {e : TypeId} {k n : Nat} {v : Value} {xs : List Value} (h : w.ownsRow base e k v n xs) {p : Addr} (hp : ∀ g, v.ownBlock = some g → g ≠ p.block) (x : Value) : (w.setCell p x).ownsRow base e k v n xs :=
  own_block h (fun g hg => Below.heap_setCell _ _ _ _ (hp g hg))
section
variable {w0 wr w' : World} {B WB LB NB IB CB n : Nat} {gp : Value} {low num cls : Nat → Int} {iso : Nat → Bool} {met found : Int} {ol : List Int} {sl : List E} {vo vs : Value}
theorem TW.lts (h : TW w0 wr B WB LB NB IB CB n gp low num cls iso met found ol sl vo vs) : WB < wr.heap.size ∧ LB < wr.heap.size ∧ NB < wr.heap.size ∧ IB < wr.heap.size ∧ CB < wr.heap.size ∧ w0.heap.size ≤ wr.heap.size := by
  have := h.blk.hi; have := h.bsz; have := h.bel.size
  exact ⟨by omega, by omega, by omega, by omega, by omega, by omega⟩
theorem TW.call (h : TW w0 wr B WB LB NB IB CB n gp low num cls iso met found ol sl vo vs) (hB : Below wr.heap.size wr w') : TW w0 w' B WB LB NB IB CB n gp low num cls iso met found ol sl vo vs := by
  obtain ⟨l1, l2, l3, l4, l5, l6⟩ := h.lts
  exact ⟨h.blk, h.bel.trans (hB.mono l6), Nat.le_trans h.bsz hB.size, by rw [hB.block _ l1]; exact h.wb, h.low.of_block (hB.block _ l2), h.num.of_block (hB.block _ l3), h.iso.of_block (hB.block _ l4), h.cls.of_block (hB.block _ l5), own_below h.opn hB, own_below h.stk hB, h.dis⟩
theorem TW.alloc (h : TW w0 wr B WB LB NB IB CB n gp low num cls iso met found ol sl vo vs) (o : Obj) : TW w0 (wr.alloc o) B WB LB NB IB CB n gp low num cls iso met found ol sl vo vs := h.call ((Below.refl _ _).alloc (Nat.le_refl _) o)
theorem TW.drewN (h : TW w0 wr B WB LB NB IB CB n gp low num cls iso met found ol sl vo vs) (m : Nat) : TW w0 (wr.drewN m) B WB LB NB IB CB n gp low num cls iso met found ol sl vo vs := h.call (bdrew (Below.refl _ _))
theorem TW.drew (h : TW w0 wr B WB LB NB IB CB n gp low num cls iso met found ol sl vo vs) : TW w0 wr.drew B WB LB NB IB CB n gp low num cls iso met found ol sl vo vs := h.call (Below.refl _ _).drew
theorem TW.sgt (h : TW w0 wr B WB LB NB IB CB n gp low num cls iso met found ol sl vo vs) : ∀ g, vs.ownBlock = some g → B ≤ g := fun g hg => (h.stk.lt g hg).1
theorem TW.cells (h : TW w0 wr B WB LB NB IB CB n gp low num cls iso met found ol sl vo vs) :
    wr.cell? ⟨WB, 0, none⟩ = some gp ∧ wr.cell? ⟨WB, 1, none⟩ = some (.slice (some ⟨LB, 0, none⟩) n n) ∧ wr.cell? ⟨WB, 2, none⟩ = some (.slice (some ⟨NB, 0, none⟩) n n) ∧ wr.cell? ⟨WB, 3, none⟩ = some vo ∧ wr.cell? ⟨WB, 4, none⟩ = some (.slice (some ⟨IB, 0, none⟩) n n) ∧
    wr.cell? ⟨WB, 5, none⟩ = some (.slice (some ⟨CB, 0, none⟩) n n) ∧ wr.cell? ⟨WB, 6, none⟩ = some (.int .i64 met) ∧ wr.cell? ⟨WB, 7, none⟩ = some (.int .i64 found) ∧ wr.cell? ⟨WB, 8, none⟩ = some vs := by
  have := h.wb
  refine ⟨?_, ?_, ?_, ?_, ?_, ?_, ?_, ?_, ?_⟩ <;> simp [World.cell?, this]
theorem TW.fz (h : TW w0 wr B WB LB NB IB CB n gp low num cls iso met found ol sl vo vs) (j : Nat) : wr.frozen? ⟨WB, j, none⟩ = false := by
  have := h.wb
  simp [World.frozen?, this]
end
end Go.Proofs.YtbaccmlfnbgehaaGreatDoor
namespace Go.Proofs.YtbaccmlfnbgehaaGreatDoor
open Go.RowKit Go.Extern.Stop Go.Stop Go.Extern Pl
/-! ### CLOSED FACTS ON THE MODEL's ENTRIES FOR internal/reflectlite, at this program's types: 25: *p.E · 27: **p.E · 23: error · 45: reflectlite's rtype · 1: how many package-level variables the dump has -/
theorem as_valueOf27 (t : Addr) (w : World) : (ReflectliteValue.unpack (.iface 188 (.pointer (some t)))).run Tryz.prog w
    = .ok (.agg #[.pointer (some ⟨22, 188, none⟩), .pointer (some ⟨w.heap.size, 0, none⟩), .int .u64 150]) (w.alloc (.cells #[.pointer (some t)] 188)) := by kernel_rfl
theorem as_type27 (a : Addr) (w : World) : (ReflectliteValue.methodAny (ReflectliteValue.valueError "reflectlite.Value.Type" 0) (fun t _ _ _ => ReflectliteType.toType t) #[.agg #[.pointer (some ⟨22, 188, none⟩), .pointer (some a), .int .u64 150]]).run Tryz.prog w
    = .ok (.iface 227 (.agg #[.pointer (some ⟨22, 188, none⟩)])) w := by kernel_rfl
theorem as_methodKind (h : Value) (w : World) : (Go.method 408 227 (.agg #[h]) "Kind").run Tryz.prog w = .ok (220, h) w := by kernel_rfl
theorem as_kind27 (w : World) : ((ReflectliteType.abiMethod fun t => (fun a : Nat => Value.int IntKind.u8 (a : Int)) <$> Rtype.kind t) #[.pointer (some ⟨22, 188, none⟩)]).run Tryz.prog w = .ok (.int .u8 22) w := by kernel_rfl
theorem as_kind25 (w : World) : ((ReflectliteType.abiMethod fun t => (fun a : Nat => Value.int IntKind.u8 (a : Int)) <$> Rtype.kind t) #[.pointer (some ⟨22, 85, none⟩)]).run Tryz.prog w = .ok (.int .u8 22) w := by kernel_rfl
/-! ### THE ENTRIES THAT READ OR WRITE MEMORY: laws with a premise on the cell (after Derived/Lib/ReflectliteSlice.lean's manner: each unfolding a lemma of its own, by rfl) -/
theorem rlm (z : Sem Value) (f : TypeId → Addr → Nat → Nat → Sem Value) (v : Value) :
    ReflectliteValue.method z f #[v] = (do match ← ReflectliteValue.parts v with | none => z | some (t, a, fl) => f t a fl (fl % 32)) := rfl
theorem as_parts27 (a : Addr) (w : World) : (ReflectliteValue.parts (.agg #[.pointer (some ⟨22, 188, none⟩), .pointer (some a), .int .u64 150])).run Tryz.prog w = .ok (some (188, a, 150)) w := by kernel_rfl
theorem as_isNil27 (a p : Addr) (W : World) (ha : W.cell? a = some (.pointer (some p))) :
    (ReflectliteValue.method (ReflectliteValue.valueError "reflectlite.Value.IsNil" 0) ReflectliteValue.isNil #[.agg #[.pointer (some ⟨22, 188, none⟩), .pointer (some a), .int .u64 150]]).run Tryz.prog W = .ok (.bool false) W := by
  rw [rlm]
  simp only [Sem.run_bind, as_parts27, Result.andThen]
  simp [ReflectliteValue.isNil, loadVar, isAgg, underlying, Tryz.underlying188, ha, Result.andThen]
theorem as_methodElem (h : Value) (w : World) : (Go.method 408 227 (.agg #[h]) "Elem").run Tryz.prog w = .ok (233, .agg #[h]) w := by kernel_rfl
theorem as_methodImplements (h : Value) (w : World) : (Go.method 408 227 (.agg #[h]) "Implements").run Tryz.prog w = .ok (234, .agg #[h]) w := by kernel_rfl
theorem as_methodAssignableTo (h : Value) (w : World) : (Go.method 408 227 (.agg #[h]) "AssignableTo").run Tryz.prog w = .ok (231, .agg #[h]) w := by kernel_rfl
theorem as_elem27 (w : World) : (ReflectliteType.method ReflectliteType.elem #[.agg #[.pointer (some ⟨22, 188, none⟩)]]).run Tryz.prog w = .ok (.iface 227 (.agg #[.pointer (some ⟨22, 85, none⟩)])) w := by kernel_rfl
theorem as_implements25 (w : World) : (ReflectliteType.relation "Implements" ReflectliteType.implements_ #[.agg #[.pointer (some ⟨22, 85, none⟩)], .iface 227 (.agg #[.pointer (some ⟨22, 47, none⟩)])]).run Tryz.prog w = .ok (.bool true) w := by kernel_rfl
theorem as_typeOf25 (v : Value) (w : World) : (ReflectliteType.typeOf #[.iface 85 v]).run Tryz.prog w = .ok (.iface 227 (.agg #[.pointer (some ⟨22, 85, none⟩)])) w := by kernel_rfl
theorem as_assignable25 (w : World) : (ReflectliteType.relation "AssignableTo" ReflectliteType.assignableTo #[.agg #[.pointer (some ⟨22, 85, none⟩)], .iface 227 (.agg #[.pointer (some ⟨22, 85, none⟩)])]).run Tryz.prog w = .ok (.bool true) w := by kernel_rfl
theorem as_valueOf25 (e : Addr) (w : World) : (ReflectliteValue.unpack (.iface 85 (.pointer (some e)))).run Tryz.prog w
    = .ok (.agg #[.pointer (some ⟨22, 85, none⟩), .pointer (some ⟨w.heap.size, 0, none⟩), .int .u64 150]) (w.alloc (.cells #[.pointer (some e)] 85)) := by kernel_rfl
theorem as_elemOf27 (w : World) : (Rtype.elem? 188).run Tryz.prog w = .ok (some 85) w := by kernel_rfl
theorem as_mk25 (p : Addr) (w : World) : (ReflectliteValue.mk 85 p ReflectliteValue.flagAddr).run Tryz.prog w = .ok (.agg #[.pointer (some ⟨22, 85, none⟩), .pointer (some p), .int .u64 406]) w := by kernel_rfl
theorem as_elemV27 (a p : Addr) (W : World) (ha : W.cell? a = some (.pointer (some p))) :
    (ReflectliteValue.method (ReflectliteValue.valueError "reflectlite.Value.Elem" 0) ReflectliteValue.elem #[.agg #[.pointer (some ⟨22, 188, none⟩), .pointer (some a), .int .u64 150]]).run Tryz.prog W
      = .ok (.agg #[.pointer (some ⟨22, 85, none⟩), .pointer (some p), .int .u64 406]) W := by
  rw [rlm]
  simp only [Sem.run_bind, as_parts27, Result.andThen]
  simp [ReflectliteValue.elem, loadVar, isAgg, underlying, Tryz.underlying188, ha, Result.andThen, as_elemOf27, as_mk25]
theorem rls (v x : Value) : ReflectliteValue.set #[v, x] = (do
    let (some (dst, a, fl), some (src, b, _)) := (← ReflectliteValue.parts v, ← ReflectliteValue.parts x)
      | unsupported (.noEntry "extern/(internal/reflectlite.Value).Set.zeroValue")
    if fl / ReflectliteValue.flagAddr % 2 == 0 then unsupported (.noEntry "extern/(internal/reflectlite.Value).Set.unaddressable")
    let val ← loadVar src b
    if ← Rtype.directlyAssignable dst src then storeVar dst a val
    else if ← Rtype.implements dst src then
      if (← Rtype.kind src) == 20 then
        match val with
        | .nilIface => unsupported (.noEntry "extern/reflectlite: a nil value of one interface type handed on as a value of another")
        | _ => storeVar dst a val
      else storeVar dst a (.iface src val)
    else panicString ("reflectlite.Set: value of type " ++ (← Rtype.spelt src) ++ " is not assignable to type " ++ (← Rtype.spelt dst))
    pure (.tuple #[])) := rfl
theorem as_parts25a (a : Addr) (w : World) : (ReflectliteValue.parts (.agg #[.pointer (some ⟨22, 85, none⟩), .pointer (some a), .int .u64 406])).run Tryz.prog w = .ok (some (85, a, 406)) w := by kernel_rfl
theorem as_parts25 (a : Addr) (w : World) : (ReflectliteValue.parts (.agg #[.pointer (some ⟨22, 85, none⟩), .pointer (some a), .int .u64 150])).run Tryz.prog w = .ok (some (85, a, 150)) w := by kernel_rfl
theorem as_direct25 (w : World) : (Rtype.directlyAssignable 85 85).run Tryz.prog w = .ok true w := by kernel_rfl
theorem as_set25 (ta b e : Addr) (old : Value) (W : World) (hb : W.cell? b = some (.pointer (some e))) (ht : W.cell? ta = some old) (hf : W.frozen? ta = false) :
    (ReflectliteValue.set #[.agg #[.pointer (some ⟨22, 85, none⟩), .pointer (some ta), .int .u64 406], .agg #[.pointer (some ⟨22, 85, none⟩), .pointer (some b), .int .u64 150]]).run Tryz.prog W
      = .ok (.tuple #[]) (W.setCell ta (.pointer (some e))) := by
  rw [rls]
  simp only [Sem.run_bind, as_parts25a, as_parts25, Result.andThen]
  simp [ReflectliteValue.flagAddr, loadVar, isAgg, underlying, Tryz.underlying85, hb, Result.andThen, as_direct25, storeVar, Value.cells, storeCells, Addr.add]
  rw [run_store Tryz.prog W ta _ _ (by rfl)]
  simp [ht, hf]
set_option maxHeartbeats 4000000 in
theorem as_hit (e t : Addr) (old : Value) (w : World) (hg : w.cell? ⟨21, 0, none⟩ = some (.iface 227 (.agg #[.pointer (some ⟨22, 47, none⟩)]))) (ht0 : w.cell? t = some old) (hf0 : w.frozen? t = false) :
    Calls Tryz.prog 147 #[.iface 85 (.pointer (some e)), .iface 188 (.pointer (some t))] w fun ev w' => ev = .returned (.bool true) ∧ w' = ((((w.alloc (.cells #[.pointer (some t)] 188)).alloc (.cells #[.pointer (some ⟨22, 188, none⟩), .pointer (some ⟨w.heap.size, 0, none⟩), .int .u64 150] 219)).alloc (.cells #[.pointer (some ⟨22, 188, none⟩), .pointer (some ⟨w.heap.size, 0, none⟩), .int .u64 150] 219)).alloc (.cells #[.pointer (some e)] 85)).setCell t (.pointer (some e)) := by
  have h6 := @run_callFunc_extern Tryz.prog 169 _ (fun args => ReflectliteValue.unpack (args.getD 0 (.tuple #[]))) Tryz.func169 (by kernel_rfl) (by kernel_rfl) (by kernel_rfl) (by kernel_rfl)
  have h7 := @run_callFunc_extern Tryz.prog 170 _ (ReflectliteValue.methodAny (ReflectliteValue.valueError "reflectlite.Value.Type" 0) (fun t _ _ _ => ReflectliteType.toType t)) Tryz.func170 (by kernel_rfl) (by kernel_rfl) (by kernel_rfl) (by kernel_rfl)
  have h8 := @run_callFunc_extern Tryz.prog 171 _ (ReflectliteValue.method (ReflectliteValue.valueError "reflectlite.Value.IsNil" 0) ReflectliteValue.isNil) Tryz.func171 (by kernel_rfl) (by kernel_rfl) (by kernel_rfl) (by kernel_rfl)
  have h27 := @run_callFunc_extern Tryz.prog 220 _ (ReflectliteType.abiMethod fun t => do pure (.int .u8 (← Rtype.kind t))) Tryz.func220 (by kernel_rfl) (by kernel_rfl) (by kernel_rfl) (by kernel_rfl)
  have h37 := @run_callFunc_extern Tryz.prog 233 _ (ReflectliteType.method ReflectliteType.elem) Tryz.func233 (by kernel_rfl) (by kernel_rfl) (by kernel_rfl) (by kernel_rfl)
  have h38 := @run_callFunc_extern Tryz.prog 234 _ (ReflectliteType.relation "Implements" ReflectliteType.implements_) Tryz.func234 (by kernel_rfl) (by kernel_rfl) (by kernel_rfl) (by kernel_rfl)
  have h10 := @run_callFunc_extern Tryz.prog 150 _ ReflectliteType.typeOf Tryz.func150 (by kernel_rfl) (by kernel_rfl) (by kernel_rfl) (by kernel_rfl)
  have h35 := @run_callFunc_extern Tryz.prog 231 _ (ReflectliteType.relation "AssignableTo" ReflectliteType.assignableTo) Tryz.func231 (by kernel_rfl) (by kernel_rfl) (by kernel_rfl) (by kernel_rfl)
  have h11 := @run_callFunc_extern Tryz.prog 191 _ (ReflectliteValue.method (ReflectliteValue.valueError "reflectlite.Value.Elem" 0) ReflectliteValue.elem) Tryz.func191 (by kernel_rfl) (by kernel_rfl) (by kernel_rfl) (by kernel_rfl)
  have h12 := @run_callFunc_extern Tryz.prog 192 _ ReflectliteValue.set Tryz.func192 (by kernel_rfl) (by kernel_rfl) (by kernel_rfl) (by kernel_rfl)
  have tO := as_typeOf25
  have mA := as_methodAssignableTo
  have a25 := as_assignable25
  have v25 := as_valueOf25
  have f6 := as_valueOf27
  have f7 := as_type27
  have mK := as_methodKind
  have mE := as_methodElem
  have mI := as_methodImplements
  have k27 := as_kind27
  have k25 := as_kind25
  have e27 := as_elem27
  have i25 := as_implements25
  have n8 := as_isNil27 ⟨w.heap.size, 0, none⟩ t ((w.alloc (.cells #[.pointer (some t)] 188)).alloc (.cells #[.pointer (some ⟨22, 188, none⟩), .pointer (some ⟨w.heap.size, 0, none⟩), .int .u64 150] 219)) (by simp)
  have hlt : 21 < w.heap.size := by
    rcases Nat.lt_or_ge 21 w.heap.size with h | h0
    · exact h
    · simp [World.cell?, Array.getElem?_eq_none h0] at hg
  have hg2 : ((w.alloc (.cells #[.pointer (some t)] 188)).alloc (.cells #[.pointer (some ⟨22, 188, none⟩), .pointer (some ⟨w.heap.size, 0, none⟩), .int .u64 150] 219)).cell? ⟨21, 0, none⟩ = some (.iface 227 (.agg #[.pointer (some ⟨22, 47, none⟩)])) := by
    rw [World.cell?_alloc_lt _ _ ⟨21, 0, none⟩ (by simp; omega), World.cell?_alloc_lt _ _ ⟨21, 0, none⟩ hlt]; exact hg
  have htl : t.block < w.heap.size := by
    rcases Nat.lt_or_ge t.block w.heap.size with h | h
    · exact h
    · simp [World.cell?, Array.getElem?_eq_none h] at ht0
  have el := as_elemV27 ⟨w.heap.size, 0, none⟩ t (((w.alloc (.cells #[.pointer (some t)] 188)).alloc (.cells #[.pointer (some ⟨22, 188, none⟩), .pointer (some ⟨w.heap.size, 0, none⟩), .int .u64 150] 219)).alloc (.cells #[.pointer (some ⟨22, 188, none⟩), .pointer (some ⟨w.heap.size, 0, none⟩), .int .u64 150] 219)) (by rw [World.cell?_alloc_lt _ _ ⟨w.heap.size, 0, none⟩ (by simp; omega)]; simp)
  have st := as_set25 t ⟨w.heap.size + 1 + 1 + 1, 0, none⟩ e old ((((w.alloc (.cells #[.pointer (some t)] 188)).alloc (.cells #[.pointer (some ⟨22, 188, none⟩), .pointer (some ⟨w.heap.size, 0, none⟩), .int .u64 150] 219)).alloc (.cells #[.pointer (some ⟨22, 188, none⟩), .pointer (some ⟨w.heap.size, 0, none⟩), .int .u64 150] 219)).alloc (.cells #[.pointer (some e)] 85))
    (by rw [World.cell?_alloc_at _ _ _ _ (by simp)]; rfl)
    (by rw [World.cell?_alloc_lt _ _ t (by simp; omega), World.cell?_alloc_lt _ _ t (by simp; omega), World.cell?_alloc_lt _ _ t (by simp; omega), World.cell?_alloc_lt _ _ t htl]; exact ht0)
    (by rw [World.frozen?_alloc_old _ _ t (by simp; omega), World.frozen?_alloc_old _ _ t (by simp; omega), World.frozen?_alloc_old _ _ t (by simp; omega), World.frozen?_alloc_old _ _ t (Nat.ne_of_lt htl)]; exact hf0)
  go_enter Tryz.func147, Tryz.ntmps147
  go_wp2
  refine wp_loop_rounds 1 ?_
  rw [rounds_succ]
  go_wp2
  go_ret
  exact ⟨rfl, rfl⟩
structure ErrType (w : World) : Prop where
  cell : w.cell? ⟨21, 0, none⟩ = some (.iface 227 (.agg #[.pointer (some ⟨22, 47, none⟩)]))
theorem ErrType.lt {w : World} (h : ErrType w) : 21 < w.heap.size := World.block_lt_of_cell? _ _ h.cell
theorem ErrType.below {w w' : World} (h : ErrType w) (hB : Below w.heap.size w w') : ErrType w' := ⟨by rw [hB.cell (p := ⟨21, 0, none⟩) h.lt]; exact h.cell⟩
theorem faultAt_any (s : ByteArray) (ty : TypeId) (v : Value) (l c : Int) (w : World) : Calls Tryz.prog 148 #[.string s, .iface ty v, .int .i64 l, .int .i64 c] w fun e w' =>
    e = .returned (.iface 85 (.pointer (some ⟨w.heap.size, 0, none⟩))) ∧ w' = w.alloc (.cells #[.string s, .int .i64 l, .int .i64 c, .iface ty v] 88) := by
  go_enter Tryz.func148, Tryz.ntmps148
  go_wp2
  go_ret
  exact ⟨rfl, rfl⟩
set_option maxRecDepth 100000 in
set_option maxHeartbeats 4000000 in
theorem faultAs_any (s : ByteArray) {w : World} {fb : Nat} {l : ByteArray} {inner : Value} (hT : ErrType w) (hF : w.heap[fb]? = some (.cells #[.string l, .int .i64 0, .int .i64 0, inner] 88 (0, 0))) :
    Calls Tryz.prog 99 #[.string s, .iface 85 (.pointer (some ⟨fb, 0, none⟩))] w fun e w' => ∃ v, e = .returned v ∧ FaultAt w' v s (.iface 85 (.pointer (some ⟨fb, 0, none⟩))) ∧ Below w.heap.size w w' := by
  have hB0 := (Below.refl w.heap.size w).alloc (Nat.le_refl _) (Obj.cells #[.pointer none] 85)
  have hT0 := hT.below hB0
  have hah := as_hit ⟨fb, 0, none⟩ ⟨w.heap.size, 0, none⟩ (.pointer none) (w.alloc (.cells #[.pointer none] 85)) hT0.cell (by simp) (by simp)
  have hfl : fb < w.heap.size := (Array.getElem?_eq_some_iff.1 hF).1
  have HAH := Lib.hid hah; have HF := Lib.hid hF; have HB0 := Lib.hid hB0
  clear hah hT0 hT hF hB0
  go_enter Tryz.func99, Tryz.ntmps99
  go_wp2_with fail
  refine HAH.out.mono ?_
  rintro e w2 ⟨rfl, hw2⟩
  have hb2 : Below w.heap.size w w2 := by
    rw [hw2]
    exact ((((HB0.out.alloc (by simp) _).alloc (by simp; omega) _).alloc (by simp; omega) _).alloc (by simp; omega) _).setCell (Nat.le_refl _) _
  have hs2 : w.heap.size < w2.heap.size := by rw [hw2]; simp [World.setCell]; omega
  have hc2 : w2.cell? ⟨w.heap.size, 0, none⟩ = some (.pointer (some ⟨fb, 0, none⟩)) := by rw [hw2]; simp [go_sem]
  have hf2 := (hb2.block fb hfl).trans HF.out
  have hfl2 : fb < w2.heap.size := by omega
  have g1 : w2.cell? ⟨fb, 1, none⟩ = some (.int .i64 0) := by simp [World.cell?, hf2]
  have g2 : w2.cell? ⟨fb, 2, none⟩ = some (.int .i64 0) := by simp [World.cell?, hf2]
  have HB2 := Lib.hid hb2
  clear hw2 hb2 hf2 HAH HF HB0 hfl
  obtain ⟨tb, htb⟩ : ∃ tb, tb = w.heap.size := ⟨_, rfl⟩
  rw [← htb] at hs2 hc2 ⊢
  have HTBB := Lib.hid htb
  clear htb
  go_wp2_with fail
  go_region_held3 (fun W => W.cell? ⟨tb, 0, none⟩ = some (.pointer (some ⟨fb, 0, none⟩)) ∧ W.cell? ⟨fb, 1, none⟩ = some (.int .i64 0) ∧ W.cell? ⟨fb, 2, none⟩ = some (.int .i64 0)) (go_keep)
    ((go_at_call 148; refine (faultAt_any _ _ _ _ _ _).mono ?_; rintro e w3 ⟨rfl, rfl⟩))
  all_goals
    go_wp2
    go_ret
    exact ⟨_, rfl, ⟨⟨w2.heap.size, rfl, heap_alloc_new w2.drew _⟩⟩, HB2.out.drew.alloc HB2.out.size _⟩
end Go.Proofs.YtbaccmlfnbgehaaGreatDoor

/-
  Lemmas.
-/
import Derived.Test.YtbaccmlfnbgehaaGreatDoorGMem
import Derived.Test.YtbaccmlfnbgehaaGreatDoorGPl1
import Derived.Deep.RegionHeld3
import Derived.Deep.Cut
import Derived.Deep.CutRange
import Derived.Deep.QuietTactic
import Derived.BigQuiet
import Derived.IntWalk
import Derived.Deep.DeepMust
open List renaming take_append_of_le_length → l0, take_of_length_le → l7, flatMap_append → l8, length_append → l9
open Go.Proofs.Tryz
namespace Go.Proofs.YtbaccmlfnbgehaaGreatDoor
open Go.RowKit Pl
theorem rowV : IsRow prog 262 272 3 24 (.agg #[.int .i64 0, .int .i64 0, .int .i64 0]) := k0h underlying262 (by kernel_rfl) rfl (by decide)
structure Blk (b0 B WB LB NB IB CB : Nat) : Prop where
  lo : b0 <= WB /\ b0 <= LB /\ b0 <= NB /\ b0 <= IB /\ b0 <= CB /\ b0 <= B
  hi : WB < B /\ LB < B /\ NB < B /\ IB < B /\ CB < B
  w : WB ≠ LB /\ WB ≠ NB /\ WB ≠ IB /\ WB ≠ CB
  l : LB ≠ NB /\ LB ≠ IB /\ LB ≠ CB
  n : NB ≠ IB /\ NB ≠ CB /\ IB ≠ CB
structure TW (w0 wr : World) (B WB LB NB IB CB n : Nat) (gp : Value) (low num cls : Nat -> Int) (iso : Nat -> Bool) (met found : Int) (ol : List Int) (sl : List E) (vo vs : Value) : Prop where
  blk : Blk w0.heap.size B WB LB NB IB CB
  bel : Below w0.heap.size w0 wr
  bsz : B <= wr.heap.size
  wb : wr.heap[WB]? = some (.cells #[gp, .slice (some ⟨LB, 0, none⟩) n n, .slice (some ⟨NB, 0, none⟩) n n, vo, .slice (some ⟨IB, 0, none⟩) n n, .slice (some ⟨CB, 0, none⟩) n n, .int .i64 met, .int .i64 found, vs] 264 (0, 0))
  low : wr.rowIs LB 3 n (fun j => .int .i64 (low j))
  num : wr.rowIs NB 3 n (fun j => .int .i64 (num j))
  iso : wr.rowIs IB 4 n (fun j => .bool (iso j))
  cls : wr.rowIs CB 3 n (fun j => .int .i64 (cls j))
  opn : wr.ownsRow B 3 1 vo ol.length (ol.flatMap encI)
  stk : wr.ownsRow B 272 3 vs sl.length (sl.flatMap encE)
  dis : ∀ g, vo.ownBlock = some g -> vs.ownBlock ≠ some g
theorem k0v {w w' : World} {base : Nat} {e : TypeId} {k n : Nat} {v : Value} {xs : List Value} (h : w.ownsRow base e k v n xs) (hb : ∀ g, v.ownBlock = some g -> w'.heap[g]? = w.heap[g]?) : w'.ownsRow base e k v n xs := by
 refine ⟨h.1, ?_⟩
 rcases h.2 with h2 | ⟨g, cap, cur, hv, hbg, hg, r⟩
 · exact .inl h2
 · exact .inr ⟨g, cap, cur, hv, hbg, by rw [hb g (by rw [hv]; rfl)]; exact hg, r⟩
theorem j0l {w : World} {base : Nat} {e : TypeId} {k n : Nat} {v : Value} {xs : List Value} (h : w.ownsRow base e k v n xs) {p : Addr} (hp : ∀ g, v.ownBlock = some g -> g ≠ p.block) (x : Value) : (w.setCell p x).ownsRow base e k v n xs :=
  k0v h (fun g hg => Below.heap_setCell _ _ _ _ (hp g hg))
theorem p2w {w : World} {base : Nat} {e : TypeId} {k n m : Nat} {a : Option Addr} {c : Nat} {xs ys : List Value} (h : w.ownsRow base e k (.slice a n c) n xs) (hm : m <= n) (hx : ys = xs.take (m * k)) (hl : ys.length = m * k) (hp : 0 < n) :
    w.ownsRow base e k (.slice a m c) m ys := by
 refine ⟨hl, ?_⟩
 rcases h.2 with ⟨h2, h3⟩ | ⟨g, cap, cur, hv, hbg, hg, hnc, hcm, hcs, ht⟩
 · omega
 · simp only [Value.slice.injEq] at hv
   obtain ⟨rfl, _, rfl⟩ := hv
   refine .inr ⟨g, c, cur, rfl, hbg, hg, by omega, hcm, hcs, ?_⟩
   rw [hx, <- ht, List.take_take, Nat.min_eq_left (Nat.mul_le_mul_right k hm)]
section
variable {w0 wr w' : World} {B WB LB NB IB CB n : Nat} {gp : Value} {low num cls : Nat -> Int} {iso : Nat -> Bool} {met found : Int} {ol : List Int} {sl : List E} {vo vs : Value}
theorem TW.lts (h : TW w0 wr B WB LB NB IB CB n gp low num cls iso met found ol sl vo vs) : WB < wr.heap.size /\ LB < wr.heap.size /\ NB < wr.heap.size /\ IB < wr.heap.size /\ CB < wr.heap.size /\ w0.heap.size <= wr.heap.size := by
 have := h.blk.hi; have := h.bsz; have := h.bel.size
 exact ⟨by omega, by omega, by omega, by omega, by omega, by omega⟩
theorem TW.call (h : TW w0 wr B WB LB NB IB CB n gp low num cls iso met found ol sl vo vs) (hB : Below wr.heap.size wr w') : TW w0 w' B WB LB NB IB CB n gp low num cls iso met found ol sl vo vs := by
 obtain ⟨l1, l2, l3, l4, l5, l6⟩ := h.lts
 exact ⟨h.blk, h.bel.trans (hB.mono l6), Nat.le_trans h.bsz hB.size, by rw [hB.block _ l1]; exact h.wb, h.low.of_block (hB.block _ l2), h.num.of_block (hB.block _ l3), h.iso.of_block (hB.block _ l4), h.cls.of_block (hB.block _ l5), own_below h.opn hB, own_below h.stk hB, h.dis⟩
theorem TW.alloc (h : TW w0 wr B WB LB NB IB CB n gp low num cls iso met found ol sl vo vs) (o : Obj) : TW w0 (wr.alloc o) B WB LB NB IB CB n gp low num cls iso met found ol sl vo vs := h.call ((Below.refl _ _).alloc (Nat.le_refl _) o)
theorem TW.drewN (h : TW w0 wr B WB LB NB IB CB n gp low num cls iso met found ol sl vo vs) (m : Nat) : TW w0 (wr.drewN m) B WB LB NB IB CB n gp low num cls iso met found ol sl vo vs := h.call (j0q (Below.refl _ _))
theorem TW.drew (h : TW w0 wr B WB LB NB IB CB n gp low num cls iso met found ol sl vo vs) : TW w0 wr.drew B WB LB NB IB CB n gp low num cls iso met found ol sl vo vs := h.call (Below.refl _ _).drew
theorem TW.ogt (h : TW w0 wr B WB LB NB IB CB n gp low num cls iso met found ol sl vo vs) : ∀ g, vo.ownBlock = some g -> B <= g := fun g hg => (h.opn.lt g hg).1
theorem TW.sgt (h : TW w0 wr B WB LB NB IB CB n gp low num cls iso met found ol sl vo vs) : ∀ g, vs.ownBlock = some g -> B <= g := fun g hg => (h.stk.lt g hg).1
theorem TW.setW (h : TW w0 wr B WB LB NB IB CB n gp low num cls iso met found ol sl vo vs) (j : Nat) (x : Value) {gp' : Value} {met' found' : Int} {vo' vs' : Value} {ol' : List Int} {sl' : List E}
    (he : (#[gp, .slice (some ⟨LB, 0, none⟩) n n, .slice (some ⟨NB, 0, none⟩) n n, vo, .slice (some ⟨IB, 0, none⟩) n n, .slice (some ⟨CB, 0, none⟩) n n, .int .i64 met, .int .i64 found, vs] : Array Value).setIfInBounds j x =
      #[gp', .slice (some ⟨LB, 0, none⟩) n n, .slice (some ⟨NB, 0, none⟩) n n, vo', .slice (some ⟨IB, 0, none⟩) n n, .slice (some ⟨CB, 0, none⟩) n n, .int .i64 met', .int .i64 found', vs'])
    (ho : wr.ownsRow B 3 1 vo' ol'.length (ol'.flatMap encI)) (hs : wr.ownsRow B 272 3 vs' sl'.length (sl'.flatMap encE)) (hd : ∀ g, vo'.ownBlock = some g -> vs'.ownBlock ≠ some g) :
    TW w0 (wr.setCell ⟨WB, j, none⟩ x) B WB LB NB IB CB n gp' low num cls iso met' found' ol' sl' vo' vs' := by
 have hb := h.blk
 obtain ⟨n1, n2, n3, n4⟩ := hb.w
 have hh := hb.hi
 refine ⟨hb, h.bel.setCell hb.lo.1 _, by rw [size_setCell]; exact h.bsz, ?_, h.low.setOther (fun e => n1 e.symm) _, h.num.setOther (fun e => n2 e.symm) _, h.iso.setOther (fun e => n3 e.symm) _, h.cls.setOther (fun e => n4 e.symm) _, j0l ho (fun g hg => ?_) _, j0l hs (fun g hg => ?_) _, hd⟩
 · rw [<- he]; exact heap_setCell_same _ WB j _ _ _ h.wb
 · have := (ho.lt g hg).1; show g ≠ WB; omega
 · have := (hs.lt g hg).1; show g ≠ WB; omega
theorem TW.setMet (h : TW w0 wr B WB LB NB IB CB n gp low num cls iso met found ol sl vo vs) (x : Int) : TW w0 (wr.setCell ⟨WB, 6, none⟩ (.int .i64 x)) B WB LB NB IB CB n gp low num cls iso x found ol sl vo vs := h.setW 6 _ rfl h.opn h.stk h.dis
theorem TW.setFound (h : TW w0 wr B WB LB NB IB CB n gp low num cls iso met found ol sl vo vs) (x : Int) : TW w0 (wr.setCell ⟨WB, 7, none⟩ (.int .i64 x)) B WB LB NB IB CB n gp low num cls iso met x ol sl vo vs := h.setW 7 _ rfl h.opn h.stk h.dis
theorem TW.setLow (h : TW w0 wr B WB LB NB IB CB n gp low num cls iso met found ol sl vo vs) (j : Nat) (x : Int) : TW w0 (wr.setCell ⟨LB, j, none⟩ (.int .i64 x)) B WB LB NB IB CB n gp (upd low j x) num cls iso met found ol sl vo vs := by
 have hb := h.blk; have hh := hb.hi; obtain ⟨n1, n2, n3, n4⟩ := hb.w; obtain ⟨l1, l2, l3⟩ := hb.l
 refine ⟨hb, h.bel.setCell hb.lo.2.1 _, by rw [size_setCell]; exact h.bsz, ?_, (h.low.set j _).congr (fun i _ => ?_), h.num.setOther (fun e => l1 e.symm) _, h.iso.setOther (fun e => l2 e.symm) _, h.cls.setOther (fun e => l3 e.symm) _, j0l h.opn (fun g hg => ?_) _, j0l h.stk (fun g hg => ?_) _, h.dis⟩
 · rw [Below.heap_setCell _ _ _ _ (show WB ≠ LB from n1)]; exact h.wb
 · unfold upd; split <;> rfl
 · have := h.ogt g hg; show g ≠ LB; omega
 · have := h.sgt g hg; show g ≠ LB; omega
theorem TW.setNum (h : TW w0 wr B WB LB NB IB CB n gp low num cls iso met found ol sl vo vs) (j : Nat) (x : Int) : TW w0 (wr.setCell ⟨NB, j, none⟩ (.int .i64 x)) B WB LB NB IB CB n gp low (upd num j x) cls iso met found ol sl vo vs := by
 have hb := h.blk; have hh := hb.hi; obtain ⟨n1, n2, n3, n4⟩ := hb.w; obtain ⟨l1, l2, l3⟩ := hb.l; obtain ⟨m1, m2, m3⟩ := hb.n
 refine ⟨hb, h.bel.setCell hb.lo.2.2.1 _, by rw [size_setCell]; exact h.bsz, ?_, h.low.setOther l1 _, (h.num.set j _).congr (fun i _ => ?_), h.iso.setOther (fun e => m1 e.symm) _, h.cls.setOther (fun e => m2 e.symm) _, j0l h.opn (fun g hg => ?_) _, j0l h.stk (fun g hg => ?_) _, h.dis⟩
 · rw [Below.heap_setCell _ _ _ _ (show WB ≠ NB from n2)]; exact h.wb
 · unfold upd; split <;> rfl
 · have := h.ogt g hg; show g ≠ NB; omega
 · have := h.sgt g hg; show g ≠ NB; omega
theorem TW.setIso (h : TW w0 wr B WB LB NB IB CB n gp low num cls iso met found ol sl vo vs) (j : Nat) (x : Bool) : TW w0 (wr.setCell ⟨IB, j, none⟩ (.bool x)) B WB LB NB IB CB n gp low num cls (upd iso j x) met found ol sl vo vs := by
 have hb := h.blk; have hh := hb.hi; obtain ⟨n1, n2, n3, n4⟩ := hb.w; obtain ⟨l1, l2, l3⟩ := hb.l; obtain ⟨m1, m2, m3⟩ := hb.n
 refine ⟨hb, h.bel.setCell hb.lo.2.2.2.1 _, by rw [size_setCell]; exact h.bsz, ?_, h.low.setOther l2 _, h.num.setOther m1 _, (h.iso.set j _).congr (fun i _ => ?_), h.cls.setOther (fun e => m3 e.symm) _, j0l h.opn (fun g hg => ?_) _, j0l h.stk (fun g hg => ?_) _, h.dis⟩
 · rw [Below.heap_setCell _ _ _ _ (show WB ≠ IB from n3)]; exact h.wb
 · unfold upd; split <;> rfl
 · have := h.ogt g hg; show g ≠ IB; omega
 · have := h.sgt g hg; show g ≠ IB; omega
theorem TW.setCls (h : TW w0 wr B WB LB NB IB CB n gp low num cls iso met found ol sl vo vs) (j : Nat) (x : Int) : TW w0 (wr.setCell ⟨CB, j, none⟩ (.int .i64 x)) B WB LB NB IB CB n gp low num (upd cls j x) iso met found ol sl vo vs := by
 have hb := h.blk; have hh := hb.hi; obtain ⟨n1, n2, n3, n4⟩ := hb.w; obtain ⟨l1, l2, l3⟩ := hb.l; obtain ⟨m1, m2, m3⟩ := hb.n
 refine ⟨hb, h.bel.setCell hb.lo.2.2.2.2.1 _, by rw [size_setCell]; exact h.bsz, ?_, h.low.setOther l3 _, h.num.setOther m2 _, h.iso.setOther m3 _, (h.cls.set j _).congr (fun i _ => ?_), j0l h.opn (fun g hg => ?_) _, j0l h.stk (fun g hg => ?_) _, h.dis⟩
 · rw [Below.heap_setCell _ _ _ _ (show WB ≠ CB from n4)]; exact h.wb
 · unfold upd; split <;> rfl
 · have := h.ogt g hg; show g ≠ CB; omega
 · have := h.sgt g hg; show g ≠ CB; omega
theorem TW.grownO (h : TW w0 wr B WB LB NB IB CB n gp low num cls iso met found ol sl vo vs) {w1 : World} (hg : wr.grownBy w1 vo.ownBlock) :
    w1.heap[WB]? = wr.heap[WB]? /\ w1.heap[LB]? = wr.heap[LB]? /\ w1.heap[NB]? = wr.heap[NB]? /\ w1.heap[IB]? = wr.heap[IB]? /\ w1.heap[CB]? = wr.heap[CB]? /\ w1.ownsRow B 272 3 vs sl.length (sl.flatMap encE) /\ Below w0.heap.size w0 w1 /\ B <= w1.heap.size := by
 have hb := h.blk; have hh := hb.hi; obtain ⟨l1, l2, l3, l4, l5, l6⟩ := h.lts
 have key : ∀ b, b < B -> some b ≠ vo.ownBlock := fun b hb' e => by have := h.ogt b e.symm; omega
 exact ⟨hg.block _ l1 (key _ hh.1), hg.block _ l2 (key _ hh.2.1), hg.block _ l3 (key _ hh.2.2.1), hg.block _ l4 (key _ hh.2.2.2.1), hg.block _ l5 (key _ hh.2.2.2.2),
   k0v h.stk (fun g hgv => hg.block g (h.stk.lt g hgv).2 (fun e => h.dis g e.symm hgv)), h.bel.grown hg l6 (fun k hk => by have := h.ogt k hk; have := hb.lo; omega), Nat.le_trans h.bsz hg.size⟩
theorem TW.grownS (h : TW w0 wr B WB LB NB IB CB n gp low num cls iso met found ol sl vo vs) {w1 : World} (hg : wr.grownBy w1 vs.ownBlock) :
    w1.heap[WB]? = wr.heap[WB]? /\ w1.heap[LB]? = wr.heap[LB]? /\ w1.heap[NB]? = wr.heap[NB]? /\ w1.heap[IB]? = wr.heap[IB]? /\ w1.heap[CB]? = wr.heap[CB]? /\ w1.ownsRow B 3 1 vo ol.length (ol.flatMap encI) /\ Below w0.heap.size w0 w1 /\ B <= w1.heap.size := by
 have hb := h.blk; have hh := hb.hi; obtain ⟨l1, l2, l3, l4, l5, l6⟩ := h.lts
 have key : ∀ b, b < B -> some b ≠ vs.ownBlock := fun b hb' e => by have := h.sgt b e.symm; omega
 exact ⟨hg.block _ l1 (key _ hh.1), hg.block _ l2 (key _ hh.2.1), hg.block _ l3 (key _ hh.2.2.1), hg.block _ l4 (key _ hh.2.2.2.1), hg.block _ l5 (key _ hh.2.2.2.2),
   k0v h.opn (fun g hgv => hg.block g (h.opn.lt g hgv).2 (fun e => h.dis g hgv e.symm)), h.bel.grown hg l6 (fun k hk => by have := h.sgt k hk; have := hb.lo; omega), Nat.le_trans h.bsz hg.size⟩
theorem TW.wcells {gp0 : Value} {W : World} {a3 a8 : Value} {m6 m7 : Int} (h : W.heap[WB]? = some (.cells #[gp0, .slice (some ⟨LB, 0, none⟩) n n, .slice (some ⟨NB, 0, none⟩) n n, a3, .slice (some ⟨IB, 0, none⟩) n n, .slice (some ⟨CB, 0, none⟩) n n, .int .i64 m6, .int .i64 m7, a8] 264 (0, 0))) :
    WB < W.heap.size /\ W.cell? ⟨WB, 0, none⟩ = some gp0 /\ W.cell? ⟨WB, 1, none⟩ = some (.slice (some ⟨LB, 0, none⟩) n n) /\ W.cell? ⟨WB, 2, none⟩ = some (.slice (some ⟨NB, 0, none⟩) n n) /\ W.cell? ⟨WB, 3, none⟩ = some a3 /\ W.cell? ⟨WB, 4, none⟩ = some (.slice (some ⟨IB, 0, none⟩) n n) /\
    W.cell? ⟨WB, 5, none⟩ = some (.slice (some ⟨CB, 0, none⟩) n n) /\ W.cell? ⟨WB, 6, none⟩ = some (.int .i64 m6) /\ W.cell? ⟨WB, 7, none⟩ = some (.int .i64 m7) /\ W.cell? ⟨WB, 8, none⟩ = some a8 /\ W.frozen? ⟨WB, 3, none⟩ = false /\ W.frozen? ⟨WB, 8, none⟩ = false := by
 refine ⟨(Array.getElem?_eq_some_iff.1 h).1, ?_, ?_, ?_, ?_, ?_, ?_, ?_, ?_, ?_, ?_, ?_⟩ <;> simp [World.cell?, World.frozen?, h]
theorem TW.pushO (h : TW w0 wr B WB LB NB IB CB n gp low num cls iso met found ol sl vo vs) {w1 : World} {g m c : Nat} {ol' : List Int} (hown : w1.ownsRow B 3 1 (.slice (some ⟨g, 0, none⟩) m c) ol'.length (ol'.flatMap encI)) (hg : wr.grownBy w1 vo.ownBlock) (hl : vo.ownBlock = some g ∨ wr.heap.size <= g) :
    TW w0 (w1.setCell ⟨WB, 3, none⟩ (.slice (some ⟨g, 0, none⟩) m c)) B WB LB NB IB CB n gp low num cls iso met found ol' sl (.slice (some ⟨g, 0, none⟩) m c) vs := by
 obtain ⟨e1, e2, e3, e4, e5, e6, e7, e8⟩ := h.grownO hg
 have h1 : TW w0 w1 B WB LB NB IB CB n gp low num cls iso met found [] sl (.slice none 0 0) vs -> True := fun _ => trivial
 have hb := h.blk; have hh := hb.hi; obtain ⟨n1, n2, n3, n4⟩ := hb.w
 refine ⟨hb, e7.setCell hb.lo.1 _, by rw [size_setCell]; exact e8, ?_, (h.low.of_block e2).setOther (fun e => n1 e.symm) _, (h.num.of_block e3).setOther (fun e => n2 e.symm) _, (h.iso.of_block e4).setOther (fun e => n3 e.symm) _, (h.cls.of_block e5).setOther (fun e => n4 e.symm) _, j0l hown (fun g' hg' => ?_) _, j0l e6 (fun g' hg' => ?_) _, fun g' hg' => ?_⟩
 · exact heap_setCell_same _ WB 3 _ _ _ (e1.trans h.wb)
 · have := (hown.lt g' hg').1; show g' ≠ WB; omega
 · have := h.sgt g' hg'; show g' ≠ WB; omega
 · simp only [Value.ownBlock, Option.some.injEq] at hg'
   subst hg'
   rcases hl with h2 | h2
   · exact h.dis g h2
   · intro e; have := (h.stk.lt g e).2; omega
theorem TW.pushS (h : TW w0 wr B WB LB NB IB CB n gp low num cls iso met found ol sl vo vs) {w1 : World} {g m c : Nat} {sl' : List E} (hown : w1.ownsRow B 272 3 (.slice (some ⟨g, 0, none⟩) m c) sl'.length (sl'.flatMap encE)) (hg : wr.grownBy w1 vs.ownBlock) (hl : vs.ownBlock = some g ∨ wr.heap.size <= g) :
    TW w0 (w1.setCell ⟨WB, 8, none⟩ (.slice (some ⟨g, 0, none⟩) m c)) B WB LB NB IB CB n gp low num cls iso met found ol sl' vo (.slice (some ⟨g, 0, none⟩) m c) := by
 obtain ⟨e1, e2, e3, e4, e5, e6, e7, e8⟩ := h.grownS hg
 have hb := h.blk; have hh := hb.hi; obtain ⟨n1, n2, n3, n4⟩ := hb.w
 refine ⟨hb, e7.setCell hb.lo.1 _, by rw [size_setCell]; exact e8, ?_, (h.low.of_block e2).setOther (fun e => n1 e.symm) _, (h.num.of_block e3).setOther (fun e => n2 e.symm) _, (h.iso.of_block e4).setOther (fun e => n3 e.symm) _, (h.cls.of_block e5).setOther (fun e => n4 e.symm) _, j0l e6 (fun g' hg' => ?_) _, j0l hown (fun g' hg' => ?_) _, fun g' hg' e => ?_⟩
 · exact heap_setCell_same _ WB 8 _ _ _ (e1.trans h.wb)
 · have := h.ogt g' hg'; show g' ≠ WB; omega
 · have := (hown.lt g' hg').1; show g' ≠ WB; omega
 · simp only [Value.ownBlock, Option.some.injEq] at e
   subst e
   rcases hl with h2 | h2
   · exact h.dis g hg' h2
   · have := (h.opn.lt g hg').2; omega
theorem u0u {xs : List E} {x : E} : ((xs ++ [x]).flatMap encE).take (xs.length * 3) = xs.flatMap encE := by
 rw [l8, l0 (by rw [j0b k0q]; omega), l7 (by rw [j0b k0q]; omega)]
theorem v0w {xs : List Int} {x : Int} : ((xs ++ [x]).flatMap encI).take (xs.length * 1) = xs.flatMap encI := by
 rw [l8, l0 (by rw [j0b p0v]; omega), l7 (by rw [j0b p0v]; omega)]
theorem TW.popO {a : Option Addr} {m c : Nat} {xs : List Int} {x : Int} (h : TW w0 wr B WB LB NB IB CB n gp low num cls iso met found (xs ++ [x]) sl (.slice a m c) vs) (hm : m = xs.length + 1) :
    TW w0 (wr.setCell ⟨WB, 3, none⟩ (.slice a xs.length c)) B WB LB NB IB CB n gp low num cls iso met found xs sl (.slice a xs.length c) vs := by
 have ho := h.opn
 rw [l9] at ho
 subst hm
 exact h.setW 3 _ rfl (p2w (n := xs.length + 1) ho (Nat.le_succ _) v0w.symm (j0b p0v _) (by omega)) h.stk (fun g hg => h.dis g (by cases a <;> exact hg))
theorem TW.popS {a : Option Addr} {m c : Nat} {xs : List E} {x : E} (h : TW w0 wr B WB LB NB IB CB n gp low num cls iso met found ol (xs ++ [x]) vo (.slice a m c)) (hm : m = xs.length + 1) :
    TW w0 (wr.setCell ⟨WB, 8, none⟩ (.slice a xs.length c)) B WB LB NB IB CB n gp low num cls iso met found ol xs vo (.slice a xs.length c) := by
 have ho := h.stk
 rw [l9] at ho
 subst hm
 exact h.setW 8 _ rfl h.opn (p2w (n := xs.length + 1) ho (Nat.le_succ _) u0u.symm (j0b k0q _) (by omega)) (fun g hg e => h.dis g hg (by cases a <;> exact e))
theorem TW.setV {g m c : Nat} (h : TW w0 wr B WB LB NB IB CB n gp low num cls iso met found ol sl vo (.slice (some ⟨g, 0, none⟩) m c)) (j : Nat) (v : Value) {sl' : List E} (hl : sl'.length = sl.length) (he : (sl.flatMap encE).set j v = sl'.flatMap encE) :
    TW w0 (wr.setCell ⟨g, j, none⟩ v) B WB LB NB IB CB n gp low num cls iso met found ol sl' vo (.slice (some ⟨g, 0, none⟩) m c) := by
 have hb := h.blk; have hh := hb.hi
 have hgB := h.sgt g rfl
 have hs := h.stk
 have hm : m = sl.length := by (
 rcases hs.2 with ⟨h2, _⟩ | ⟨g', cap', cur, hv, _⟩
 · simp at h2
 · simp only [Value.slice.injEq] at hv; exact hv.2.1)
 subst hm
 have h1 := (hs.stored j v).1
 rw [he] at h1
 have hne : ∀ b, b < B -> b ≠ g := fun b hb' e => by omega
 refine ⟨hb, h.bel.setCell (by show w0.heap.size <= g; have := hb.lo; omega) _, by rw [size_setCell]; exact h.bsz, ?_, h.low.setOther (hne _ hh.2.1) _, h.num.setOther (hne _ hh.2.2.1) _, h.iso.setOther (hne _ hh.2.2.2.1) _, h.cls.setOther (hne _ hh.2.2.2.2) _, j0l h.opn (fun g' hg' e => ?_) _, by rw [hl]; exact h1, h.dis⟩
 · rw [Below.heap_setCell _ _ _ _ (hne WB hh.1)]; exact h.wb
 · have e : g' = g := e
   subst e; exact h.dis g' hg' rfl
theorem TW.cells (h : TW w0 wr B WB LB NB IB CB n gp low num cls iso met found ol sl vo vs) :
    wr.cell? ⟨WB, 0, none⟩ = some gp /\ wr.cell? ⟨WB, 1, none⟩ = some (.slice (some ⟨LB, 0, none⟩) n n) /\ wr.cell? ⟨WB, 2, none⟩ = some (.slice (some ⟨NB, 0, none⟩) n n) /\ wr.cell? ⟨WB, 3, none⟩ = some vo /\ wr.cell? ⟨WB, 4, none⟩ = some (.slice (some ⟨IB, 0, none⟩) n n) /\
    wr.cell? ⟨WB, 5, none⟩ = some (.slice (some ⟨CB, 0, none⟩) n n) /\ wr.cell? ⟨WB, 6, none⟩ = some (.int .i64 met) /\ wr.cell? ⟨WB, 7, none⟩ = some (.int .i64 found) /\ wr.cell? ⟨WB, 8, none⟩ = some vs := by
 have := h.wb
 refine ⟨?_, ?_, ?_, ?_, ?_, ?_, ?_, ?_, ?_⟩ <;> simp [World.cell?, this]
theorem TW.fz (h : TW w0 wr B WB LB NB IB CB n gp low num cls iso met found ol sl vo vs) (j : Nat) : wr.frozen? ⟨WB, j, none⟩ = false := by
 have := h.wb
 simp [World.frozen?, this]
end
end Go.Proofs.YtbaccmlfnbgehaaGreatDoor

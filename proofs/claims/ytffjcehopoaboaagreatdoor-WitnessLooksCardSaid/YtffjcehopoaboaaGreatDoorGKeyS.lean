/-
  Lemmas.
-/
import Derived.Test.YtffjcehopoaboaaGreatDoorGFault
import Derived.Test.YtffjcehopoaboaaGreatDoorOMap
import Derived.Lib.SmallJoins
import Derived.MapViews
import Derived.Test.YtffjcehopoaboaaGreatDoorGLent
import Derived.Test.YtffjcehopoaboaaGreatDoorGTauJ
import Derived.Test.YtffjcehopoaboaaGreatDoorGPl4
import Derived.Laws.BitsAllLaws
import Derived.IntWalk
import Derived.BigRegion
import Derived.Deep.QuietTactic
import Derived.BigQuiet
import Derived.Outline
import Derived.Deep.Cut
namespace Go.Proofs.YtffjcehopoaboaaGreatDoor
open Go.RowKit Go.ChangeShapes Pl
def encSv (x : S) : Value := .agg #[.int .i64 x.1, .int .i64 x.2]
def okS (x : S) : Prop := (Lit.int .i64 x.1).wf = true ∧ (Lit.int .i64 x.2).wf = true
theorem laidOutK : laidOutB Tryz.prog = true := by kernel_rfl
theorem rowStep : (131 : TypeId) < Tryz.prog.types.size := of_decide_eq_true (by kernel_rfl)
theorem wideStep : (match Tryz.prog.underlying 131 with | some (.array _ _) | some (.struct _) => true | _ => false) = true := by rw [Tryz.underlying131]
set_option maxRecDepth 100000 in
theorem lawStep : Go.WideMaps.KeyLaw Tryz.prog 131 := deep_law_laid laidOutK (m := 2) (by omega) rowStep (by kernel_rfl) wideStep
theorem deepStep : Tryz.prog.keyTypeAt (Tryz.prog.types.size + 1) 131 = true := by kernel_rfl
theorem cellsStep : Tryz.prog.cellsOf 131 = 2 := by kernel_rfl
theorem formedStep (c0 c1 : Value) : (Value.agg #[c0, c1]).formed Tryz.prog 131 = true := by simp [Value.formed, Tryz.underlying131, cellsStep]
set_option maxRecDepth 100000 in
theorem keyStep (x : S) (h : okS x) : ∃ l, keyOf Tryz.prog 131 (encSv x) = some l := by
  have t0 := shut_int (H := Unit) (enc := fun _ => ()) (P := Tryz.prog) (w := default) (base := 0) (spare := fun _ => true) (held := true) Tryz.underlying3 h.1
  have t1 := shut_int (H := Unit) (enc := fun _ => ()) (P := Tryz.prog) (w := default) (base := 0) (spare := fun _ => true) (held := true) Tryz.underlying3 h.2
  have h2 := Go.Joins.shut_agg2 (y0 := (.lit (.int .i64 x.1), [])) (y1 := (.lit (.int .i64 x.2), [])) Tryz.underlying131 (by kernel_rfl) cellsStep t0 t1
  exact ⟨_, (keyOf_asKey deepStep wideStep (formedStep _ _) h2).1⟩
theorem encStep : KeyEnc Tryz.prog 131 encSv okS where
  K := Go.Maps.Keyed.of_law lawStep
  key := keyStep
  inj x y h := by
    obtain ⟨x1, x2⟩ := x; obtain ⟨y1, y2⟩ := y
    unfold encSv at h
    simp only [Value.agg.injEq, Array.mk.injEq, List.cons.injEq, Value.int.injEq, true_and, and_true] at h
    rw [h.1, h.2]
def encU (_ : Unit) : Value := .agg #[]
theorem zeroUnit (w : World) : (zeroValue 190).run Tryz.prog w = .ok (.agg #[]) w := by kernel_rfl
end Go.Proofs.YtffjcehopoaboaaGreatDoor
namespace Go.Proofs.YtffjcehopoaboaaGreatDoor
open Go.RowKit Go.ChangeShapes Pl
def encEv (x : E) : Value := .agg #[.int .i64 x.1, .int .i64 x.2.1, .int .i64 x.2.2]
def okE (x : E) : Prop := (Lit.int .i64 x.1).wf = true ∧ (Lit.int .i64 x.2.1).wf = true ∧ (Lit.int .i64 x.2.2).wf = true
def encNv (x : Int) : Value := .int .i64 x
def okN (x : Int) : Prop := (Lit.int .i64 x).wf = true
end Go.Proofs.YtffjcehopoaboaaGreatDoor
namespace Go.Proofs.YtffjcehopoaboaaGreatDoor
open Go.RowKit Pl
def plc (D : List Nat) (i j : Nat) : Int := if j ∈ D.take i then (D.idxOf j : Int) + 1 else 0
end Go.Proofs.YtffjcehopoaboaaGreatDoor
namespace Go.Proofs.YtffjcehopoaboaaGreatDoor
namespace Pl
theorem nodup_subG {α : Type} [DecidableEq α] : ∀ (L M : List α), L.Nodup → (∀ x ∈ L, x ∈ M) → L.length ≤ M.length
  | [], M, _, _ => Nat.zero_le _
  | x :: L, M, hn, hs => by
    rw [List.nodup_cons] at hn
    have ih := nodup_subG L (M.erase x) hn.2 (fun y hy => (List.mem_erase_of_ne (fun e : y = x => hn.1 (e ▸ hy))).2 (hs y (List.mem_cons_of_mem _ hy)))
    have h1 := List.length_erase_of_mem (hs x (by simp))
    have h2 := List.length_pos_of_mem (hs x (by simp))
    rw [List.length_cons]; omega
theorem srtS_nodup {L : List S} (h : Srt ltS L) : L.Nodup := List.Pairwise.imp (fun {a b} hab e => by subst e; rw [stoS.irrefl] at hab; cases hab) h
theorem SigOk.len {s : Lts} {C : Nat → Int} {p : Nat} {L : List S} (h : SigOk s C p L) : L.length ≤ s.es.length := by
  have h1 := nodup_subG L (s.es.map (fun e => (e.2.1, C e.2.2.toNat))) (srtS_nodup h.srt) (fun x hx => by
    obtain ⟨l, e⟩ := x
    obtain ⟨q, t, _, h2, h3, _⟩ := ((h.mem l e).1 hx).way
    exact List.mem_map.2 ⟨((q : Int), l, (t : Int)), h2, by simp only [Int.toNat_natCast]; rw [h3]⟩)
  rwa [List.length_map] at h1
theorem SigOk.rng {s : Lts} (hr : s.Right) {n : Nat} (hn : s.st = (n : Int)) {C : Nat → Int} {p : Nat} {L : List S} (h : SigOk s C p L) {x : S} (hx : x ∈ L) : 0 ≤ x.1 ∧ x.1 < s.lb ∧ ∃ t, t < n ∧ x.2 = C t := by
  obtain ⟨l, e⟩ := x
  obtain ⟨q, t, _, h2, h3, _⟩ := ((h.mem l e).1 hx).way
  have h4 := stp_lt hr hn h2
  exact ⟨h4.2.2.1, h4.2.2.2, t, h4.2.1, h3.symm⟩
/-! the numbers of texts -/
def codeT (T : List (List UInt8)) (z : List UInt8) : Int := (T.idxOf z : Int)
def numT (T : List (List UInt8)) (D : List Int) (z : List UInt8) : Option Int := if z ∈ T ∧ codeT T z ∈ D then some (D.idxOf (codeT T z) : Int) else none
def txtL (n : Nat) (C : Nat → Int) (F : Nat → List S) : List (List UInt8) := (List.range n).map (fun p => textB (C p) (F p))
def cdG (n : Nat) (C : Nat → Int) (F : Nat → List S) (p : Nat) : Int := codeT (txtL n C F) (textB (C p) (F p))
end Pl
end Go.Proofs.YtffjcehopoaboaaGreatDoor
namespace Go.Proofs.YtffjcehopoaboaaGreatDoor
namespace Pl
def one (s : Lts) (m : Nat) (l : Int) (t : Nat) : Prop := (l = 0 ∧ t = m) ∨ (l ≠ 0 ∧ stp s m l t)
def wst (s : Lts) (p : Nat) (l : Int) (q : Nat) : Prop := ∃ m t, TR s p m ∧ one s m l t ∧ TR s t q
section
variable {s : Lts} {n : Nat}
theorem wst_zero {p q : Nat} : wst s p 0 q ↔ TR s p q := by
  constructor
  · rintro ⟨m, t, h1, h2, h3⟩
    rcases h2 with ⟨_, rfl⟩ | ⟨h, _⟩
    · exact h1.trans h3
    · exact absurd rfl h
  · intro h
    exact ⟨p, p, .refl, .inl ⟨rfl, rfl⟩, h⟩
theorem wst_ne {p q : Nat} {l : Int} (hl : l ≠ 0) : wst s p l q ↔ ∃ m t, TR s p m ∧ stp s m l t ∧ TR s t q := by
  constructor
  · rintro ⟨m, t, h1, h2, h3⟩
    rcases h2 with ⟨h, _⟩ | ⟨_, h⟩
    · exact absurd h hl
    · exact ⟨m, t, h1, h, h3⟩
  · rintro ⟨m, t, h1, h2, h3⟩
    exact ⟨m, t, h1, .inr ⟨hl, h2⟩, h3⟩
theorem wst_pre {p m q : Nat} {l : Int} (h : TR s p m) (h2 : wst s m l q) : wst s p l q := by
  obtain ⟨a, b, h3, h4, h5⟩ := h2
  exact ⟨a, b, h.trans h3, h4, h5⟩
theorem wst_post {p q r : Nat} {l : Int} (h : wst s p l q) (h2 : TR s q r) : wst s p l r := by
  obtain ⟨a, b, h3, h4, h5⟩ := h
  exact ⟨a, b, h3, h4, h5.trans h2⟩
theorem TR.ltW (hr : s.Right) (hn : s.st = (n : Int)) {p q : Nat} (h : TR s p q) (hp : p < n) : q < n := by
  cases h with
  | refl => exact hp
  | tail _ h2 => exact (tau_lt hr hn h2).2
theorem wst_lt (hr : s.Right) (hn : s.st = (n : Int)) {p q : Nat} {l : Int} (h : wst s p l q) (hp : p < n) : q < n ∧ 0 ≤ l ∧ l < s.lb := by
  obtain ⟨a, b, h3, h4, h5⟩ := h
  rcases h4 with ⟨rfl, rfl⟩ | ⟨_, h4⟩
  · have := hr.st0
    exact ⟨h5.ltW hr hn (h3.ltW hr hn hp), by omega, by omega⟩
  · have := stp_lt hr hn h4
    exact ⟨h5.ltW hr hn this.2.1, this.2.2.1, this.2.2.2⟩
end
/-! the saturated system -/
def KOk (s : Lts) (n lb : Nat) (K : Nat → Nat → Nat → Bool) : Prop := ∀ p l q, p < n → l < lb → q < n → (K p l q = true ↔ wst s p (l : Int) q)
def satE (n lb : Nat) (K : Nat → Nat → Nat → Bool) : List E := (List.range n).flatMap fun p => (List.range lb).flatMap fun l => (idsN (K p l) n).map fun q : Nat => ((p : Int), (l : Int), (q : Int))
def satS (s : Lts) (n lb : Nat) (K : Nat → Nat → Nat → Bool) : Lts := ⟨s.st, s.lb, s.s0, satE n lb K⟩
section
variable {s : Lts} {n lb : Nat} {K : Nat → Nat → Nat → Bool}
end
/-! strong bisimilarity by rounds -/
def NextS (u : Nat → Int → Nat → Prop) (n : Nat) (C D : Nat → Int) : Prop :=
  ∀ p q, p < n → q < n → (D p = D q ↔ C p = C q ∧ ∀ l e, (∃ t, t < n ∧ u p l t ∧ C t = e) ↔ (∃ t, t < n ∧ u q l t ∧ C t = e))
def HoldsS (s : Lts) (n : Nat) (C : Nat → Int) : Prop := ∀ R, IsBis s n R → ∀ p q, p < n → q < n → R p q → C p = C q
section
variable {s : Lts} {n : Nat} {C D : Nat → Int}
theorem HoldsS.zero : HoldsS s n (fun _ => 0) := fun _ _ _ _ _ _ _ => rfl
theorem HoldsS.next (h : HoldsS s n C) (hd : NextS (stp s) n C D) : HoldsS s n D := fun R hR p q hp hq e => by
  refine (hd p q hp hq).2 ⟨h R hR p q hp hq e, fun l c => ?_⟩
  obtain ⟨h1, h2⟩ := hR p q hp hq e
  constructor
  · rintro ⟨t, ht, hs, rfl⟩
    obtain ⟨u, hu, h3, h4⟩ := h1 l t ht hs
    exact ⟨u, hu, h3, (h R hR t u ht hu h4).symm⟩
  · rintro ⟨t, ht, hs, rfl⟩
    obtain ⟨u, hu, h3, h4⟩ := h2 l t ht hs
    exact ⟨u, hu, h3, h R hR u t hu ht h4⟩
theorem HoldsS.done (h : HoldsS s n C) (hd : NextS (stp s) n C D) (he : ∀ p, p < n → D p = C p) : Big s n C where
  bis p q hp hq e := by
    have h1 := ((hd p q hp hq).1 (by rw [he p hp, he q hq]; exact e)).2
    refine ⟨fun l t ht hs => ?_, fun l u hu hs => ?_⟩
    · obtain ⟨u, hu, h2, h3⟩ := (h1 l (C t)).1 ⟨t, ht, hs, rfl⟩
      exact ⟨u, hu, h2, h3.symm⟩
    · obtain ⟨t, ht, h2, h3⟩ := (h1 l (C u)).2 ⟨u, hu, hs, rfl⟩
      exact ⟨t, ht, h2, h3⟩
  all := h
end
/-! branching bisimilarity lies within it -/
section
variable {s : Lts} {n lb : Nat} {K : Nat → Nat → Nat → Bool} {C : Nat → Int}
end
end Pl
end Go.Proofs.YtffjcehopoaboaaGreatDoor
namespace Go.Proofs.YtffjcehopoaboaaGreatDoor
namespace Pl
/-! words as bytes -/
def by8 (x : Nat) : List UInt8 := (List.range 8).map fun k => UInt8.ofNat (x >>> (8 * k))
def bytesW (F : Nat → Bool) (W : Nat) : List UInt8 := (List.range W).flatMap fun j => by8 (wj F j)
/-! keys -/
def keyS (W : Nat) (R : Nat → Option (Nat → Bool)) (l : Nat) : List UInt8 := match R l with | none => [] | some F => UInt8.ofNat l :: bytesW F W
def wkey (W c lb : Nat) (R : Nat → Option (Nat → Bool)) : List UInt8 := bytesW (fun x => decide (x = c)) W ++ (List.range lb).flatMap (keyS W R)
def AgreeR (W : Nat) : Option (Nat → Bool) → Option (Nat → Bool) → Prop
  | none, none => True
  | some F, some G => ∀ x, x < 64 * W → F x = G x
  | _, _ => False
/-! what weak's ends tells -/
def EndsOk (s : Lts) (G : Nat → Nat → Bool) (p : Nat) (l : Int) : Option (Nat → Bool) → Prop
  | none => ¬ ∃ m t, TR s p m ∧ one s m l t
  | some F => (∃ m t, TR s p m ∧ one s m l t) ∧ ∀ x, F x = true ↔ ∃ m t, TR s p m ∧ one s m l t ∧ G t x = true
def EndC (s : Lts) (C : Nat → Int) (G : Nat → Nat → Bool) : Prop := ∀ t x, G t x = true ↔ ∃ q, TR s t q ∧ C q = (x : Int)
/-! the numbers of texts -/
def txtW (n : Nat) (X : Nat → List UInt8) : List (List UInt8) := (List.range n).map X
def cdW (n : Nat) (X : Nat → List UInt8) (p : Nat) : Int := codeT (txtW n X) (X p)
end Pl
end Go.Proofs.YtffjcehopoaboaaGreatDoor
namespace Go.Proofs.YtffjcehopoaboaaGreatDoor
open Go.RowKit Pl
namespace Pl
def orF (F G : Nat → Bool) (x : Nat) : Bool := F x || G x
def wds (n : Nat) : Nat := (n + 63) / 64
end Pl
def BitRow (w : World) (b W : Nat) (F : Nat → Bool) : Prop := w.rowIs b 89 W (fun j => .int .u64 (wj F j : Nat))
section
variable {w w' : World} {b W : Nat} {F G : Nat → Bool}
theorem BitRow.lt (h : BitRow w b W F) : b < w.heap.size := World.rowIs.lt h
theorem BitRow.cell (h : BitRow w b W F) {j : Nat} (hj : j < W) : w.cell? ⟨b, j, none⟩ = some (.int .u64 (wj F j : Nat)) := World.rowIs.cell h hj
theorem BitRow.frozen (h : BitRow w b W F) (j : Nat) : w.frozen? ⟨b, j, none⟩ = false := World.rowIs.frozen h j
theorem BitRow.of_block (h : BitRow w b W F) (e : w'.heap[b]? = w.heap[b]?) : BitRow w' b W F := World.rowIs.of_block h e
theorem BitRow.below (h : BitRow w b W F) (hB : Below w.heap.size w w') : BitRow w' b W F := h.of_block (hB.block b h.lt)
theorem BitRow.congr (h : BitRow w b W F) (e : ∀ x, x < 64 * W → F x = G x) : BitRow w b W G :=
  World.rowIs.congr h (fun j hj => by rw [wj_ext (fun k hk => e (64 * j + k) (by omega))])
theorem BitRow.put (h : BitRow w b W F) (i : Nat) : BitRow (w.setCell ⟨b, i / 64, none⟩ (.int .u64 (wj (putF F i) (i / 64) : Nat))) b W (putF F i) :=
  (World.rowIs.set h (i / 64) _).congr (fun j _ => by
    by_cases e : j = i / 64
    · subst e; rw [if_pos rfl]
    · rw [if_neg e, wj_put_ne F e])
theorem BitRow.made (w : World) (W : Nat) : BitRow (w.alloc (.cells (madeCells #[.int .u64 0] W) 89)) w.heap.size W (fun _ => false) :=
  (World.rowIs_made w (.int .u64 0) W 89).congr (fun j _ => by rw [wj_none]; rfl)
end
structure Chg (w w' : World) (b : Nat) : Prop where
  oth : ∀ g, g ≠ b → g < w.heap.size → w'.heap[g]? = w.heap[g]?
  size : w'.heap.size = w.heap.size
  bel : ∀ B, B ≤ b → Below B w w'
section
variable {w w' w'' : World} {b : Nat}
theorem Chg.refl (w : World) (b : Nat) : Chg w w b := ⟨fun _ _ _ => rfl, rfl, fun _ _ => Below.refl _ _⟩
theorem Chg.trans (h : Chg w w' b) (h' : Chg w' w'' b) : Chg w w'' b :=
  ⟨fun g hg hl => (h'.oth g hg (by rw [h.size]; exact hl)).trans (h.oth g hg hl), h'.size.trans h.size, fun B hB => (h.bel B hB).trans (h'.bel B hB)⟩
theorem Chg.set (h : Chg w w' b) (j : Nat) (v : Value) : Chg w (w'.setCell ⟨b, j, none⟩ v) b :=
  ⟨fun g hg hl => (Below.heap_setCell _ _ _ _ hg).trans (h.oth g hg hl), by rw [size_setCell]; exact h.size, fun B hB => (h.bel B hB).setCell hB _⟩
theorem Chg.drewN (h : Chg w w' b) (m : Nat) : Chg w (w'.drewN m) b := ⟨h.oth, h.size, fun B hB => bdrew (h.bel B hB)⟩
theorem Chg.drew (h : Chg w w' b) : Chg w w'.drew b := ⟨h.oth, h.size, fun B hB => (h.bel B hB).drew⟩
end
end Go.Proofs.YtffjcehopoaboaaGreatDoor
namespace Go.Proofs.YtffjcehopoaboaaGreatDoor
open Go.RowKit Pl
def joinG (F G : Nat → Bool) (k j : Nat) : Nat := if j < k then wj (orF F G) j else wj F j
def IdsW (w : World) (F : Nat → Bool) (W : Nat) (e : Ending) (w' : World) : Prop := ∃ v, e = .returned v ∧ w'.ownsRow w.heap.size 3 1 v (intsOf (idsN F (64 * W))).length ((intsOf (idsN F (64 * W))).flatMap encI) ∧ Below w.heap.size w w'
end Go.Proofs.YtffjcehopoaboaaGreatDoor

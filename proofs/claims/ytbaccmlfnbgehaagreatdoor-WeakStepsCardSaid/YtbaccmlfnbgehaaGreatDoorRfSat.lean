/-
  Lemmas.
-/
import Derived.Test.YtbaccmlfnbgehaaGreatDoorGOMap
import Derived.Test.YtbaccmlfnbgehaaGreatDoorRefSteps
import Derived.Test.YtbaccmlfnbgehaaGreatDoorGRefRight
import Derived.Test.YtbaccmlfnbgehaaGreatDoorGLentS
import Derived.Test.YtbaccmlfnbgehaaGreatDoorGWkQ
import Derived.Test.YtbaccmlfnbgehaaGreatDoorGRowTwo
import Derived.Deep.RegionHeldLaw
import Derived.Deep.QuietTactic
import Derived.BigQuiet
import Derived.IntWalk
open List renaming getElem_toArray -> qga, getElem_cons_zero -> qgz, getElem_cons_succ -> qgs, setIfInBounds_toArray -> qgt, set_cons_zero -> qgx, set_cons_succ -> qgy
set_option maxHeartbeats 16000000
set_option maxRecDepth 100000
open Array renaming getElem?_eq_some_iff → l0
open Nat renaming le_refl → l1, zero_le → l4
open List renaming length_append → l2, length_map → l3
open Go.Proofs.Tryz
namespace Go.Proofs.YtbaccmlfnbgehaaGreatDoor
open Go.RowKit Pl
open Lib (hid)
namespace Pl
noncomputable def kRef (s : Lts) (n : Nat) (p l q : Nat) : Bool := kZ (silG s) p (visZ s.norm (silG s) p n) l q
theorem j3r {s : Lts} {n lb : Nat} (hr : s.Right) (hn : s.st = (n : Int)) : KOk s n lb (kRef s n) := fun p l q hp hl hq => by
  have h := k3w (s := s.norm) (G := silG s) (n := n) hr.norm (show s.norm.st = (n : Int) from hn) (fun p q hp => by rw [p2m hr hn hp, j1r]) (p := p) (q := q) (l := l) hp hq
  unfold kRef
  rw [h, k2k]
def edS (i : Nat) (x : S) : E := ((i : Int), x.1, x.2)
theorem u2x (s : Lts) (n lb i : Nat) : rowE' n lb (kRef s n) i = (stpL s n lb i).map (edS i) := by
 unfold rowE' stpL rowsL labE
 rw [List.map_flatMap]
 refine congrArg (fun f => (List.range lb).flatMap f) ?_
 funext l
 rw [List.map_map]
 rfl
end Pl
theorem p0s {w : World} {R b : Nat} (x0 x1 x2 x3 : Value) (h : b ≠ R) : ((((w.setCell ⟨R, 0, none⟩ x0).setCell ⟨R, 1, none⟩ x1).setCell ⟨R, 2, none⟩ x2).setCell ⟨R, 3, none⟩ x3).heap[b]? = w.heap[b]? := by
 rw [Below.heap_setCell _ _ _ _ h, Below.heap_setCell _ _ _ _ h, Below.heap_setCell _ _ _ _ h, Below.heap_setCell _ _ _ _ h]
theorem p3e (X : World) : X.drew.heap = X.heap := rfl
theorem p1t {w : World} {R : Nat} {T : TypeId} {a b c d : Value} (x0 x1 x2 x3 : Value) (h : w.heap[R]? = some (.cells #[a, b, c, d] T (0, 0))) : ((((w.setCell ⟨R, 0, none⟩ x0).setCell ⟨R, 1, none⟩ x1).setCell ⟨R, 2, none⟩ x2).setCell ⟨R, 3, none⟩ x3).heap[R]? = some (.cells #[x0, x1, x2, x3] T (0, 0)) :=
  heap_setCell_same _ _ 3 _ _ _ (heap_setCell_same _ _ 2 _ _ _ (heap_setCell_same _ _ 1 _ _ _ (heap_setCell_same _ _ 0 _ _ _ h)))
theorem j1l {w w' : World} {B R : Nat} (h : Below B w w') (hR : B <= R) (x0 x1 x2 x3 : Value) : Below B w ((((w'.setCell ⟨R, 0, none⟩ x0).setCell ⟨R, 1, none⟩ x1).setCell ⟨R, 2, none⟩ x2).setCell ⟨R, 3, none⟩ x3) :=
  (((h.setCell hR _).setCell hR _).setCell hR _).setCell hR _
theorem j2u {w : World} {B : Nat} {x y z : Int} {u : ByteArray} (h : w.heap[B]? = some (.cells #[.int .i64 x, .int .i64 y, .int .i64 z, .string u] 29 (0, 0))) :
    (w.cell? ⟨B, 0, none⟩ = some (.int .i64 x) /\ w.cell? ⟨B, 1, none⟩ = some (.int .i64 y) /\ w.cell? ⟨B, 2, none⟩ = some (.int .i64 z) /\ w.cell? ⟨B, 3, none⟩ = some (.string u)) /\ (w.frozen? ⟨B, 0, none⟩ = false /\ w.frozen? ⟨B, 1, none⟩ = false /\ w.frozen? ⟨B, 2, none⟩ = false /\ w.frozen? ⟨B, 3, none⟩ = false) /\ B < w.heap.size := by
 refine ⟨⟨?_, ?_, ?_, ?_⟩, ⟨?_, ?_, ?_, ?_⟩, (l0.1 h).1⟩ <;> simp [World.cell?, World.frozen?, h]
theorem u0g {w : World} {B : Nat} {x y z : Int} {u : Value} (h : w.heap[B]? = some (.cells #[.int .i64 x, .int .i64 y, .int .i64 z, u] 24 (0, 0))) :
    (w.cell? ⟨B, 0, none⟩ = some (.int .i64 x) /\ w.cell? ⟨B, 1, none⟩ = some (.int .i64 y) /\ w.cell? ⟨B, 2, none⟩ = some (.int .i64 z) /\ w.cell? ⟨B, 3, none⟩ = some u) /\ (w.frozen? ⟨B, 0, none⟩ = false /\ w.frozen? ⟨B, 1, none⟩ = false /\ w.frozen? ⟨B, 2, none⟩ = false /\ w.frozen? ⟨B, 3, none⟩ = false) /\ B < w.heap.size := by
 refine ⟨⟨?_, ?_, ?_, ?_⟩, ⟨?_, ?_, ?_, ?_⟩, (l0.1 h).1⟩ <;> simp [World.cell?, World.frozen?, h]
theorem p1u (w : World) (o : Obj) : ∃ W, W = ((w.alloc o).alloc (Obj.cells #[.int .i64 0, .int .i64 0, .int .i64 0, .slice none 0 0] 24)).alloc (Obj.cells #[.int .i64 0, .int .i64 0, .int .i64 0, .string ⟨#[]⟩] 29) /\ Below w.heap.size w W /\ W.heap.size = w.heap.size + 3 /\
    (∀ cs T, o = .cells cs T (0, 0) -> W.heap[w.heap.size]? = some (.cells cs T (0, 0))) /\ W.heap[w.heap.size + 1]? = some (.cells #[.int .i64 0, .int .i64 0, .int .i64 0, .slice none 0 0] 24 (0, 0)) /\ W.heap[w.heap.size + 1 + 1]? = some (.cells #[.int .i64 0, .int .i64 0, .int .i64 0, .string ⟨#[]⟩] 29 (0, 0)) := by
 refine ⟨_, rfl, (((Below.refl _ _).alloc (l1 _) _).alloc (by simp) _).alloc (by simp; omega) _, by simp, fun cs T h => ?_, ?_, ?_⟩
 · rw [Below.heap_alloc _ _ _ (by simp; omega), Below.heap_alloc _ _ _ (by simp), h]
   exact heap_alloc_new w _
 · rw [Below.heap_alloc _ _ _ (by simp)]
   have h := heap_alloc_new (w.alloc o) (Obj.cells #[.int .i64 0, .int .i64 0, .int .i64 0, .slice none 0 0] 24)
   rw [show (w.alloc o).heap.size = w.heap.size + 1 by simp] at h
   exact h
 · have h := heap_alloc_new ((w.alloc o).alloc (Obj.cells #[.int .i64 0, .int .i64 0, .int .i64 0, .slice none 0 0] 24)) (Obj.cells #[.int .i64 0, .int .i64 0, .int .i64 0, .string ⟨#[]⟩] 29)
   rw [show ((w.alloc o).alloc (Obj.cells #[.int .i64 0, .int .i64 0, .int .i64 0, .slice none 0 0] 24)).heap.size = w.heap.size + 2 by simp] at h
   exact h
theorem q1c {w : World} {st lb s0 : Int} {a : Option Addr} {n c : Nat} {k : Int} {x : ByteArray} (hk : k ≠ 0)
    (hGd : ∀ V, Below w.heap.size w V -> Calls prog 24 #[.agg #[.int .i64 st, .int .i64 lb, .int .i64 s0, .slice a n c]] V fun e w' => e = .returned (.agg #[.int .i64 k, .int .i64 0, .int .i64 0, .string x]) /\ Below V.heap.size V w') :
    Calls prog 25 #[.agg #[.int .i64 st, .int .i64 lb, .int .i64 s0, .slice a n c]] w fun e w' => e = .returned (.tuple #[.agg #[.int .i64 0, .int .i64 0, .int .i64 0, .slice none 0 0], .agg #[.int .i64 k, .int .i64 0, .int .i64 0, .string x]]) /\ Below w.heap.size w w' := by
 obtain ⟨W, hW, hB0, hsz, h0, h1, h2⟩ := p1u w (Obj.cells #[.int .i64 st, .int .i64 lb, .int .i64 s0, .slice a n c] 24)
 replace h0 := h0 _ _ rfl
 have hg := hGd W hB0
 have HW := hid hW; have HB0 := hid hB0; have H1 := hid h1; have H2 := hid h2; have HG := hid hg; have HSZ := hid hsz
 obtain ⟨⟨x0, x1, x2, x3⟩, _, xl⟩ := u0g h0
 clear hGd hW hB0 h1 h2 hg h0 hsz
 go_enter func25, ntmps25
 go_upto_region 1 with fail
 rw [<- HW.out]
 go_wp2_with fail
 refine HG.out.mono ?_
 rintro e w1 ⟨rfl, hB1⟩
 obtain ⟨w2, hw2⟩ : ∃ w2, w2 = w1.alloc (Obj.cells #[.int .i64 k, .int .i64 0, .int .i64 0, .string x] 29) := ⟨_, rfl⟩
 have hb2 : Below w1.heap.size w1 w2 := by rw [hw2]; exact (Below.refl _ _).alloc (l1 _) _
 have hE := heap_alloc_new w1 (Obj.cells #[.int .i64 k, .int .i64 0, .int .i64 0, .string x] 29)
 rw [<- hw2] at hE
 have hb02 := hB1.trans (hb2.mono hB1.size)
 have HAD : Hid (w2.heap[w.heap.size + 1]? = some (.cells #[.int .i64 0, .int .i64 0, .int .i64 0, .slice none 0 0] 24 (0, 0))) := hid ((hb02.block _ (l0.1 H1.out).1).trans H1.out)
 have HBD2 : Hid (w2.heap[w.heap.size + 1 + 1]? = some (.cells #[.int .i64 0, .int .i64 0, .int .i64 0, .string ⟨#[]⟩] 29 (0, 0))) := hid ((hb02.block _ (l0.1 H2.out).1).trans H2.out)
 have HBW : Hid (Below w.heap.size w w2) := hid (HB0.out.trans (hb02.mono HB0.out.size))
 have hlo : W.heap.size <= w1.heap.size := hB1.size
 have hsz := HSZ.out
 obtain ⟨eb, heb⟩ : ∃ eb, eb = w1.heap.size := ⟨_, rfl⟩
 rw [<- heb] at hE hlo
 have HKE : Hid (∀ V : World, (∀ b, b ≠ w.heap.size + 1 -> b ≠ w.heap.size + 1 + 1 -> V.heap[b]? = w2.heap[b]?) -> (V.cell? ⟨eb, 0, none⟩ = some (.int .i64 k) /\ V.cell? ⟨eb, 1, none⟩ = some (.int .i64 0) /\ V.cell? ⟨eb, 2, none⟩ = some (.int .i64 0) /\ V.cell? ⟨eb, 3, none⟩ = some (.string x)) /\ eb < V.heap.size) := hid (fun V hV => by
   obtain ⟨h1, _, h3⟩ := j2u ((hV eb (by omega) (by omega)).trans hE)
   exact ⟨h1, h3⟩)
 have HW2 := hid hw2; have HEB := hid heb
 obtain ⟨⟨g0, g1, g2, g3⟩, gl⟩ := HKE.out w2 (fun _ _ _ => rfl)
 have hkb : (k != 0) = true := by simp [hk]
 clear hw2 hb2 hE hb02 hlo hsz heb hB1 x0 x1 x2 x3 xl HG HB0 H1 H2 HW HSZ
 go_upto_region 2 with fail
 rw [<- HW2.out, <- HEB.out]
 go_upto_region 3 with fail
 clear g0 g1 g2 g3 gl
 refine wp_region_held_drew (S := (fun V => (V.cell? ⟨eb, 0, none⟩ = some (.int .i64 k) /\ V.cell? ⟨eb, 1, none⟩ = some (.int .i64 0) /\ V.cell? ⟨eb, 2, none⟩ = some (.int .i64 0) /\ V.cell? ⟨eb, 3, none⟩ = some (.string x)) /\ eb < V.heap.size)) (by kernel_rfl) (by (try dsimp only); exact HKE.out _ (fun b h1 h2 => rfl)) (fun hHeld => ?_)
 refine qT 0 (v := ?_) ?_ ?_
 rotate_left
 · intro w hSw; (try dsimp only at hSw); go_simp; try with_reducible rfl
 try simp only [qga, qgz, Act.put, qgt, qgx, qgy]
 refine qT 1 (v := ?_) ?_ ?_
 rotate_left
 · intro w hSw; (try dsimp only at hSw); go_simp; try with_reducible rfl
 try simp only [qga, qgz, qgs, Act.put, qgt, qgx, qgy]
 refine wpAnyH_ready (rs := [2]) (by kernel_rfl) (by simp) ?_
 refine AllReadyH.cons rfl (fun K hK => ?_) AllReadyH.nil
 obtain ⟨⟨z0, z1, z2, z3⟩, ⟨f0, f1, f2, f3⟩, zl⟩ := u0g (w := w2) HAD.out
 go_simp
 clear z0 z1 z2 z3 f0 f1 f2 f3 zl
 refine hK.out _ _ (by (try dsimp only); exact HKE.out _ (fun b h1 h2 => by rw [p3e, p0s _ _ _ _ h1])) (fun hHeld => ?_)
 clear hK K
 try simp only [qga, qgz, qgs, Act.put, qgt, qgx, qgy]
 refine wpAnyH_ready (rs := [3]) (by kernel_rfl) (by simp) ?_
 refine AllReadyH.cons rfl (fun K hK => ?_) AllReadyH.nil
 obtain ⟨⟨z0, z1, z2, z3⟩, ⟨f0, f1, f2, f3⟩, zl⟩ := j2u (w := w2) HBD2.out
 go_simp
 clear z0 z1 z2 z3 f0 f1 f2 f3 zl
 refine hK.out _ _ (by (try dsimp only); exact HKE.out _ (fun b h1 h2 => by rw [p3e, p0s _ _ _ _ h2, p0s _ _ _ _ h1])) (fun hHeld => ?_)
 clear hK K
 try simp only [qga, qgz, qgs, Act.put, qgt, qgx, qgy]
 refine wpAnyH_done (by kernel_rfl) ?_ _
 have HFA := hid ((p0s (.int .i64 k) (.int .i64 0) (.int .i64 0) (.string x) (by omega : w.heap.size + 1 ≠ w.heap.size + 1 + 1)).trans (p1t (.int .i64 0) (.int .i64 0) (.int .i64 0) (.slice none 0 0) HAD.out))
 have HFB := hid (p1t (.int .i64 k) (.int .i64 0) (.int .i64 0) (.string x) ((p0s (.int .i64 0) (.int .i64 0) (.int .i64 0) (.slice none 0 0) (by omega : w.heap.size + 1 + 1 ≠ w.heap.size + 1)).trans HBD2.out))
 have HFW := hid (j1l (R := w.heap.size + 1 + 1) (j1l (R := w.heap.size + 1) HBW.out (by omega) (.int .i64 0) (.int .i64 0) (.int .i64 0) (.slice none 0 0)) (by omega) (.int .i64 k) (.int .i64 0) (.int .i64 0) (.string x))
 obtain ⟨⟨y0, y1, y2, y3⟩, _, yl⟩ := u0g HFA.out
 obtain ⟨⟨e0, e1, e2, e3⟩, _, el'⟩ := j2u HFB.out
 go_wp2_with fail
 refine bodyPost_ret (v := .tuple #[.agg #[.int .i64 0, .int .i64 0, .int .i64 0, .slice none 0 0], .agg #[.int .i64 k, .int .i64 0, .int .i64 0, .string x]]) (by simp [results, results25, go_sem, y0, y1, y2, y3, e0, e1, e2, e3]) rfl ⟨rfl, HFW.out.drew⟩
theorem KW.sizeR {w3 wr : World} {O : Nat} {st lb s0 : Int} {v : Value} {es : List E} (h : KW w3 wr O st lb s0 v es) : w3.heap.size <= wr.heap.size := by
 have hl := h.lt
 refine Nat.le_of_not_lt (fun hc => ?_)
 by_cases e : w3.heap.size - 1 = O
 · have := (l0.1 h.oo).1; omega
 · have h1 := h.oth (w3.heap.size - 1) (by omega) e
   rw [Array.getElem?_eq_none (by omega), Array.getElem?_eq_getElem (by omega)] at h1
   cases h1
def RSat (s : Lts) (n lb : Nat) (w : World) (e : Ending) (w' : World) : Prop :=
  Below w.heap.size w w' /\ (((satE n lb (kRef s n)).length <= 10000 /\ ∃ (ea : Option Addr) (eb ec : Nat), e = .returned (.tuple #[.agg #[.int .i64 n, .int .i64 s.lb, .int .i64 s.s0, .slice ea (satE n lb (kRef s n)).length ec], .agg #[.int .i64 0, .int .i64 0, .int .i64 0, .string ⟨#[]⟩]]) /\ SlAt encE 3 w' ea eb 0 (satE n lb (kRef s n))) ∨
    (10000 < (satE n lb (kRef s n)).length /\ e = .returned (.tuple #[.agg #[.int .i64 0, .int .i64 0, .int .i64 0, .slice none 0 0], .agg #[.int .i64 13, .int .i64 0, .int .i64 0, .string (weakName ++ ⟨#[32]⟩)]])))
theorem u0x {s : Lts} {n lb : Nat} (hr : s.Right) (hn : s.st = (n : Int)) (hlb : s.lb = (lb : Int)) (hn3 : n <= 300) {a : Option Addr} {b off c : Nat} {w : World} (hS : SlAt encE 3 w a b off s.es) (hc : s.es.length <= c) (hcm : c <= maxLen) :
    Calls prog 25 #[.agg #[.int .i64 s.st, .int .i64 s.lb, .int .i64 s.s0, .slice a s.es.length c]] w (RSat s n lb w) := by
 unfold RSat
 obtain ⟨W, hW, hB0, hsz, h0, h1, h2⟩ := p1u w (Obj.cells #[.int .i64 s.st, .int .i64 s.lb, .int .i64 s.s0, .slice a s.es.length c] 24)
 replace h0 := h0 _ _ rfl
 have hg := q0o (c := c) hr (hS.below hB0 (l1 _))
 rw [if_neg (by omega)] at hg
 have hst : ∀ V, Below w.heap.size w V -> Calls prog 89 #[.agg #[.int .i64 s.st, .int .i64 s.lb, .int .i64 s.s0, .slice a s.es.length c]] V fun e w' => ∃ ob, e = .returned (.slice (some ⟨ob, 0, none⟩) n n) /\ StepsIn w' ob n (stpL s n lb) /\ V.heap.size <= ob /\ Below V.heap.size V w' := fun V hV => q1b hr hn hlb hn3 (hS.below hV (l1 _)) hc hcm
 have hbd := z1j weakName (by decide) 13
 obtain ⟨wn, hwn⟩ : ∃ wn, wn = weakName ++ ⟨#[32]⟩ := ⟨_, rfl⟩
 rw [<- hwn] at hbd ⊢
 unfold weakName at hbd
 obtain ⟨el, hel⟩ : ∃ el, el = s.es.length := ⟨_, rfl⟩
 rw [hn, <- hel] at hg hst hW h0
 rw [hn, <- hel]
 have hlb1 : lb <= 201 := by have := hr.st0; omega
 have hrl : ∀ i, (stpL s n lb i).length <= 60300 := fun i => by (
 have h1 := p1x lb n (kZ (silG s) i (visZ s.norm (silG s) i n))
 have h2 : lb * n <= 201 * 300 := Nat.mul_le_mul hlb1 hn3
 have h3 : (stpL s n lb i).length <= lb * n := h1
 omega)
 have HW := hid hW; have HB0 := hid hB0; have H0 := hid h0; have H1 := hid h1; have H2 := hid h2; have HG := hid hg; have HSZ := hid hsz; have HST := hid hst; have HBD := hid hbd; have HRL := hid hrl
 obtain ⟨⟨x0, x1, x2, x3⟩, _, xl⟩ := u0g h0
 clear hW hB0 h1 h2 hg h0 hsz hst hbd hr hn hlb hS hc hcm hwn hel hlb1 hrl
 go_enter func25, ntmps25
 go_upto_region 1 with fail
 rw [<- HW.out]
 go_wp2_with fail
 refine HG.out.mono ?_
 rintro e w1 ⟨rfl, hB1⟩
 obtain ⟨w2, hw2⟩ : ∃ w2, w2 = w1.alloc (Obj.cells #[.int .i64 0, .int .i64 0, .int .i64 0, .string ⟨#[]⟩] 29) := ⟨_, rfl⟩
 have hb2 : Below w1.heap.size w1 w2 := by rw [hw2]; exact (Below.refl _ _).alloc (l1 _) _
 have hE := heap_alloc_new w1 (Obj.cells #[.int .i64 0, .int .i64 0, .int .i64 0, .string ⟨#[]⟩] 29)
 rw [<- hw2] at hE
 have hb02 := hB1.trans (hb2.mono hB1.size)
 obtain ⟨⟨g0, g1, g2, g3⟩, _, gl⟩ := j2u hE
 have HB02 := hid hb02; have HW2 := hid hw2
 have hst2 := HST.out w2 (HB0.out.trans (hb02.mono HB0.out.size))
 have HST2 := hid hst2
 clear hw2 hb2 hE hb02 hB1 x0 x1 x2 x3 xl HG HST hst2
 go_upto_region 2 with fail
 rw [<- HW2.out]
 go_upto_region 4 with fail
 clear g0 g1 g2 g3 gl
 obtain ⟨⟨x0, x1, x2, x3⟩, _, xl⟩ := u0g ((HB02.out.block _ (l0.1 H0.out).1).trans H0.out)
 go_wp2_with fail
 refine HST2.out.mono ?_
 rintro e v3 ⟨ob, rfl, hsi, _, hB3⟩
 have hb03 := HB02.out.trans (hB3.mono HB02.out.size)
 have HB03 := hid hb03; have HSI := hid hsi
 clear hsi hB3 x0 x1 x2 x3 xl HST2 HW2 HB02
 obtain ⟨⟨x0, x1, x2, x3⟩, _, xl⟩ := u0g ((hb03.block _ (l0.1 H0.out).1).trans H0.out)
 obtain ⟨w3, hw3⟩ : ∃ w3, w3 = v3.alloc (Obj.cells #[.int .i64 n, .int .i64 s.lb, .int .i64 s.s0, .slice none 0 0] 24) := ⟨_, rfl⟩
 have hb3 : Below v3.heap.size v3 w3 := by rw [hw3]; exact (Below.refl _ _).alloc (l1 _) _
 have hoo := heap_alloc_new v3 (Obj.cells #[.int .i64 n, .int .i64 s.lb, .int .i64 s.s0, .slice none 0 0] 24)
 have hs3 : w3.heap.size = v3.heap.size + 1 := by rw [hw3]; simp
 rw [<- hw3] at hoo
 obtain ⟨O, hO⟩ : ∃ O, O = v3.heap.size := ⟨_, rfl⟩
 rw [<- hO] at hoo hs3 hb3
 have hszO : w.heap.size + 3 <= O := by have := hb03.size; have := HSZ.out; omega
 have hk3 : KW w3 w3 O n s.lb s.s0 (.slice none 0 0) (preE n lb (kRef s n) 0) := ⟨fun _ _ _ => rfl, Below.refl _ _, hoo, World.ownsRow_nil _ _ _ _, by omega⟩
 have hobO : ob < O := by rw [hO]; exact HSI.out.lt
 have HW3 := hid hw3; have HOE := hid hO; have HK3 := hid hk3; have HBO := hid hb3
 -- what stays, whatever becomes of the new system
 have HOT : Hid (∀ V v es, KW w3 V O n s.lb s.s0 v es -> Below O v3 V /\ (V.heap[w.heap.size]? = some (.cells #[.int .i64 n, .int .i64 s.lb, .int .i64 s.s0, .slice a el c] 24 (0, 0))) /\ (V.heap[w.heap.size + 1]? = some (.cells #[.int .i64 0, .int .i64 0, .int .i64 0, .slice none 0 0] 24 (0, 0))) /\ (V.heap[w.heap.size + 1 + 1]? = some (.cells #[.int .i64 0, .int .i64 0, .int .i64 0, .string ⟨#[]⟩] 29 (0, 0))) /\ Below w.heap.size w V) := hid (fun V v es h => by (
 have hbv := hb3.trans h.bel
 have h03 := hb03.trans (by rw [hO] at hbv; exact hbv.mono hb03.size)
 exact ⟨hbv, (h03.block _ (l0.1 H0.out).1).trans H0.out, (h03.block _ (l0.1 H1.out).1).trans H1.out, (h03.block _ (l0.1 H2.out).1).trans H2.out, HB0.out.trans (h03.mono HB0.out.size)⟩))
 clear hw3 hb3 hoo hO hk3 hb03
 go_wp2_with fail
 rw [<- HW3.out, <- HOE.out]
 clear x0 x1 x2 x3 xl
 go_loopw [7, 8] (fun v7 _ wx => ∃ (i : Nat) (v : Value), v7 = .int .i64 i /\ i <= n /\ KW w3 wx O n s.lb s.s0 v (preE n lb (kRef s n) i) /\ (preE n lb (kRef s n) i).length <= 10000) (fun v7 _ _ => n - (intOf v7).toNat)
 case atStart => exact ⟨0, _, rfl, l4 _, HK3.out, l4 _⟩
 case round => (
 obtain ⟨i, v, rfl, hi, hkw, hle⟩ := hrel
 have HKW := hid hkw
 obtain ⟨hbv, hx, hA, hB, hbw⟩ := HOT.out _ _ _ hkw
 obtain ⟨⟨x0, x1, x2, x3⟩, _, xl⟩ := u0g hx
 have HBV := hid hbv; have HA := hid hA; have HB := hid hB; have HBW0 := hid hbw
 clear hx hA hB hbw hbv
 by_cases hin : i < n
 · (
 have hiI : (i : Int) < (n : Int) := by omega
 obtain ⟨ra, rc, rb, ro, c0', hrs'⟩ := HSI.out.at_ i hin
 have hrow := u2x s n lb i
 have hsucc := x0r n lb (kRef s n) i
 have hall := Pl.flat_le (rowE' n lb (kRef s n)) (r := i + 1) (m := n) hin
 have hall2 : (preE n lb (kRef s n) (i + 1)).length <= (satE n lb (kRef s n)).length := hall
 rw [hrow] at hsucc
 obtain ⟨L, hL⟩ : ∃ L, L = stpL s n lb i := ⟨_, rfl⟩
 have HLE0 := hid hL
 have hll0 := HRL.out i
 rw [<- hL] at hsucc c0' hrs' hll0
 obtain ⟨ll, hll⟩ : ∃ ll, ll = L.length := ⟨_, rfl⟩
 have hrbO : 0 < ll -> rb < O := fun h => by rw [HOE.out]; exact hrs'.lt (by omega)
 have HRB : Hid (∀ rb2 ro2, 0 < ll -> ra = some ⟨rb2, ro2, none⟩ -> rb2 < O) := hid (fun rb2 ro2 h e => by (
 have h1 := hrs'.ad (by omega)
 rw [h1] at e
 simp only [Option.some.injEq, Addr.mk.injEq] at e
 have := hrbO h
 omega))
 have hrs := hrs'.below (by rw [HOE.out] at hrbO; have h := HBV.out; rw [HOE.out] at h; exact h) (l1 _)
 have c0 : wr.cell? ⟨ob, i, none⟩ = some (.slice ra ll rc) := by
   have h := HBV.out; rw [HOE.out] at h
   rw [h.cell (p := ⟨ob, i, none⟩) HSI.out.lt, hll]; exact c0'
 have cl := World.block_lt_of_cell? _ _ c0
 obtain ⟨P, hP⟩ : ∃ P, P = preE n lb (kRef s n) i := ⟨_, rfl⟩
 rw [<- hP] at HKW hle hkw hsucc
 have hpl2 : P.length + ll <= (satE n lb (kRef s n)).length := by rw [hsucc, l2, l3] at hall2; omega
 have hown := hkw.own
 obtain ⟨va, vc, vb, rfl, _, _, _, _⟩ := j0d k0q hown
 obtain ⟨pl, hpl⟩ : ∃ pl, pl = P.length := ⟨_, rfl⟩
 rw [<- hpl] at hle hpl2
 have hkw5 := HKW.out
 rw [<- hpl] at hkw5
 obtain ⟨o0, o1, o2, o3, of3⟩ := hkw5.cells
 have ol := World.block_lt_of_cell? _ _ o0
 have HSU := hid hsucc; have HRS := hid hrs; have HKW5 := hid hkw5; have HPL := hid hpl; have HLL := hid hll; have HC0' := hid c0'
 have hwrap : IntKind.i64.wrap ((pl : Int) + (ll : Int)) = (pl : Int) + (ll : Int) := IntWalk.i64_in _ (by omega)
 rw [<- hll] at hll0
 clear hrs hrs' hrow hall hall2 hL hll hP hown hpl hkw hkw5 hsucc c0' HKW
 by_cases hbig : 10000 < pl + ll
 · (
 have hd : decide ((10000 : Int) < (pl : Int) + (ll : Int)) = true := by simp; omega
 go_wp2_with fail
 go_quiet (fail)
 obtain ⟨wq, hwq⟩ : ∃ wq, wq = wr.drewN nq := ⟨_, rfl⟩
 have HWQ := hid hwq
 rw [<- hwq]
 clear hwq x0 x1 x2 x3 xl o0 o1 o2 o3 of3 ol c0 cl
 go_wp2_with fail
 refine (HBD.out _).mono ?_
 rintro e w9 ⟨rfl, hB9⟩
 rw [HWQ.out] at hB9
 have hB9' : Below wr.heap.size wr w9 := (j0q (Below.refl _ _)).trans hB9
 have hA9 := (hB9'.block _ (l0.1 HA.out).1).trans HA.out
 have hE9 := (hB9'.block _ (l0.1 HB.out).1).trans HB.out
 obtain ⟨⟨z0, z1, z2, z3⟩, ⟨f0, f1, f2, f3⟩, zl⟩ := u0g hA9
 obtain ⟨⟨e0, e1, e2, e3⟩, ⟨k0, k1, k2, k3⟩, el'⟩ := j2u hE9
 have HB9 := hid (HBW0.out.trans (hB9'.mono HBW0.out.size))
 have h11 : 10000 < (satE n lb (kRef s n)).length := by omega
 clear hB9 hB9' hA9 hE9
 go_wp2_with fail
 refine bodyPost_ret (v := .tuple #[.agg #[.int .i64 0, .int .i64 0, .int .i64 0, .slice none 0 0], .agg #[.int .i64 13, .int .i64 0, .int .i64 0, .string wn]]) (by simp [results, results25, go_sem, z0, z1, z2, z3, e0, e1, e2, e3]) rfl ⟨j1l (j1l HB9.out (by omega) _ _ _ _) (by omega) _ _ _ _, .inr ⟨h11, rfl⟩⟩)
 · (
 have hd : decide ((10000 : Int) < (pl : Int) + (ll : Int)) = false := by simp; omega
 have hple : pl + ll <= 10000 := by omega
 go_wp2_with fail
 go_quiet (fail)
 obtain ⟨wq, hwq⟩ : ∃ wq, wq = wr.drewN nq := ⟨_, rfl⟩
 have hkq : KW w3 wq O n s.lb s.s0 (.slice va pl vc) (P ++ (L.map (edS i)).take 0) := by
   rw [hwq, List.take_zero, List.append_nil]
   exact HKW5.out.call (j0q (Below.refl _ _))
 have HKQ := hid hkq
 rw [<- hwq]
 clear hwq hkq x0 x1 x2 x3 xl o0 o1 o2 o3 of3 ol c0 cl hbig hd
 go_wp2_with fail
 go_loopw [8] (fun v8 wx => ∃ (k : Nat) (v : Value), v8 = .int .i64 k /\ k <= ll /\ KW w3 wx O n s.lb s.s0 v (P ++ (L.map (edS i)).take k)) (fun v8 _ => ll - (intOf v8).toNat)
 case atStart => exact ⟨0, _, rfl, l4 _, HKQ.out⟩
 case round => (
 obtain ⟨k, v, rfl, hk, hkw⟩ := hrel
 have hbv := (HOT.out _ _ _ hkw).1
 have hbv3 : Below v3.heap.size v3 wr := by rw [HOE.out] at hbv; exact hbv
 have c0 : wr.cell? ⟨ob, i, none⟩ = some (.slice ra ll rc) := by rw [hbv3.cell (p := ⟨ob, i, none⟩) HSI.out.lt, HLL.out]; exact HC0'.out
 have cl := World.block_lt_of_cell? _ _ c0
 by_cases hkl : k < ll
 · (
 have hkI : (k : Int) < (ll : Int) := by omega
 obtain ⟨y, hy⟩ := j0a (xs := L) (i := k) (by rw [<- HLL.out]; exact hkl)
 obtain ⟨ra2, rc2, rb2, ro2, c02, hrs2⟩ := (HSI.out.below hbv3).at_ i hin
 have hle2 : (P ++ (L.map (edS i)).take k).length <= 10000 := by rw [l2, List.length_take, l3, <- HPL.out, <- HLL.out]; omega
 have hsn : P ++ (L.map (edS i)).take (k + 1) = (P ++ (L.map (edS i)).take k) ++ [edS i y] := by rw [take_snoc (by rw [List.getElem?_map, hy]; rfl), List.append_assoc]
 have hrow2 : ra2 = ra /\ rc2 = rc := by (
 rw [<- HLE0.out, <- HLL.out] at c02
 rw [c02] at c0
 simp only [Option.some.injEq, Value.slice.injEq] at c0
 exact ⟨c0.1, c0.2.2⟩)
 obtain ⟨rfl, rfl⟩ := hrow2
 rw [<- HLE0.out] at hrs2
 obtain rfl := hrs2.ad (by rw [<- HLL.out]; omega)
 have d0 := hrs2.s0 hy; have d1 := hrs2.s1 hy
 have dl := hrs2.lt (by rw [<- HLL.out]; omega)
 obtain ⟨y1, y2⟩ := y
 simp only at d0 d1
 have hrbO : rb2 < O := HRB.out rb2 ro2 (by omega) rfl
 obtain ⟨rb, hrbE⟩ : ∃ rb, rb = rb2 := ⟨_, rfl⟩
 obtain ⟨ro, hroE⟩ : ∃ ro, ro = ro2 := ⟨_, rfl⟩
 rw [<- hrbE] at c0 d0 d1 dl hrbO
 rw [<- hroE] at c0 d0 d1
 obtain ⟨Q, hQ⟩ : ∃ Q, Q = P ++ (L.map (edS i)).take k := ⟨_, rfl⟩
 rw [<- hQ] at hkw hle2 hsn
 have hown := hkw.own
 obtain ⟨qa, qc, qb, rfl, _, _, _, _⟩ := j0d k0q hown
 obtain ⟨ql, hql⟩ : ∃ ql, ql = Q.length := ⟨_, rfl⟩
 have hkw6 := hkw
 rw [<- hql] at hkw6 hown hle2
 obtain ⟨o0, o1, o2, o3, of3⟩ := hkw6.cells
 have ol := World.block_lt_of_cell? _ _ o0
 have hs3 : w3.heap.size <= wr.heap.size := KW.sizeR hkw6
 have hobO : ob < O := by rw [HOE.out]; exact HSI.out.lt
 have HKP : Hid (∀ V, Below O wr V -> (V.cell? ⟨ob, i, none⟩ = some (.slice (some ⟨rb, ro, none⟩) ll rc2) /\ ob < V.heap.size /\ V.cell? ⟨rb, ro + k * 2, none⟩ = some (.int .i64 y1) /\ V.cell? ⟨rb, ro + k * 2 + 1, none⟩ = some (.int .i64 y2) /\ rb < V.heap.size) /\ Below O wr V) := hid (fun V hV =>
   ⟨⟨by rw [World.cell?_of_block (w := wr) (a := ⟨ob, i, none⟩) (hV.block ob hobO)]; exact c0, by have := hV.size; omega, by rw [World.cell?_of_block (w := wr) (a := ⟨rb, ro + k * 2, none⟩) (hV.block rb hrbO)]; exact d0, by rw [World.cell?_of_block (w := wr) (a := ⟨rb, ro + k * 2 + 1, none⟩) (hV.block rb hrbO)]; exact d1, by have := hV.size; omega⟩, hV⟩)
 have HNX : Hid (∀ (w6 : World) (g cap : Nat), w6.ownsRow w3.heap.size 71 3 (.slice (some ⟨g, 0, none⟩) (ql + 1) cap) (ql + 1) (Q.flatMap encE ++ [.int .i64 (i : Int), .int .i64 y1, .int .i64 y2]) -> ((wr.alloc (.cells #[.int .i64 (i : Int), .int .i64 y1, .int .i64 y2] 71)).drew).grownBy w6 (Value.slice qa ql qc).ownBlock ->
     w6.cell? ⟨O, 3, none⟩ = some (.slice qa ql qc) /\ w6.frozen? ⟨O, 3, none⟩ = false /\ O < w6.heap.size /\ Below O wr w6 /\ KW w3 (w6.setCell ⟨O, 3, none⟩ (.slice (some ⟨g, 0, none⟩) (ql + 1) cap)) O n s.lb s.s0 (.slice (some ⟨g, 0, none⟩) (ql + 1) cap) (P ++ (L.map (edS i)).take (k + 1))) := hid (fun w6 g cap ho hg => by
   have hba := ((Below.refl wr.heap.size wr).alloc (l1 _) (.cells #[.int .i64 (i : Int), .int .i64 y1, .int .i64 y2] 71)).drew
   have hkb := hkw6.call hba
   obtain ⟨m0, m1⟩ := KW.keepc hkb hg
   refine ⟨m0, m1, World.block_lt_of_cell? _ _ m0, (hba.mono (by omega)).grown hg (by have := hba.size; omega) (fun q hq => by have := (hown.lt q hq).1; omega), ?_⟩
   rw [hsn]
   refine KW.setEs hkb ?_ hg
   rw [l2, List.flatMap_append, <- hql]
   exact ho)
 have HOWN := hid hown
 have HBD : Hid (Below O wr wr.drew) := hid (Below.refl _ _).drew
 have HBA : Hid (Below O wr (wr.drew.alloc (.cells #[.int .i64 (i : Int), .int .i64 y1, .int .i64 y2] 71))) := hid ((Below.refl _ _).drew.alloc (by show O <= wr.heap.size; omega) _)
 clear hy hbv hbv3 hrs2 hsn hkw hkw6 hown hQ hql d0 d1 hrbE hroE c02
 go_wp2_with fail
 clear c0 cl
 refine wp_region_held_drew (S := (fun V => (V.cell? ⟨ob, i, none⟩ = some (.slice (some ⟨rb, ro, none⟩) ll rc2) /\ ob < V.heap.size /\ V.cell? ⟨rb, ro + k * 2, none⟩ = some (.int .i64 y1) /\ V.cell? ⟨rb, ro + k * 2 + 1, none⟩ = some (.int .i64 y2) /\ rb < V.heap.size) /\ Below O wr V)) (by kernel_rfl) (by (try dsimp only); exact HKP.out _ HBD.out) (fun hHeld => ?_)
 refine qT 0 (v := ?_) ?_ ?_
 rotate_left
 · intro w hSw; (try dsimp only at hSw); go_simp; try with_reducible rfl
 try simp only [qga, qgz, Act.put, qgt, qgx, qgy]
 refine qT 2 (v := ?_) ?_ ?_
 rotate_left
 · intro w hSw; (try dsimp only at hSw); go_simp; try with_reducible rfl
 try simp only [qga, qgz, qgs, Act.put, qgt, qgx, qgy]
 refine qT 3 (v := ?_) ?_ ?_
 rotate_left
 · intro w hSw; (try dsimp only at hSw); go_simp; try with_reducible rfl
 try simp only [qga, qgz, qgs, Act.put, qgt, qgx, qgy]
 refine qT 4 (v := ?_) ?_ ?_
 rotate_left
 · intro w hSw; (try dsimp only at hSw); go_simp; try with_reducible rfl
 try simp only [qga, qgz, qgs, Act.put, qgt, qgx, qgy]
 refine qT 5 (v := ?_) ?_ ?_
 rotate_left
 · intro w hSw; (try dsimp only at hSw); go_simp; try with_reducible rfl
 try simp only [qga, qgz, qgs, Act.put, qgt, qgx, qgy]
 refine qT 6 (v := ?_) ?_ ?_
 rotate_left
 · intro w hSw; (try dsimp only at hSw); go_simp; try with_reducible rfl
 try simp only [qga, qgz, qgs, Act.put, qgt, qgx, qgy]
 refine qT 7 (v := ?_) ?_ ?_
 rotate_left
 · intro w hSw; (try dsimp only at hSw); go_simp; try with_reducible rfl
 try simp only [qga, qgz, qgs, Act.put, qgt, qgx, qgy]
 refine qT 8 (v := ?_) ?_ ?_
 rotate_left
 · intro w hSw; (try dsimp only at hSw); go_simp; try with_reducible rfl
 try simp only [qga, qgz, qgs, Act.put, qgt, qgx, qgy]
 refine qT 9 (v := ?_) ?_ ?_
 rotate_left
 · intro w hSw; (try dsimp only at hSw); go_simp; try with_reducible rfl
 try simp only [qga, qgz, qgs, Act.put, qgt, qgx, qgy]
 refine qT 10 (v := ?_) ?_ ?_
 rotate_left
 · intro w hSw; (try dsimp only at hSw); go_simp; try with_reducible rfl
 try simp only [qga, qgz, qgs, Act.put, qgt, qgx, qgy]
 refine qT 11 (v := ?_) ?_ ?_
 rotate_left
 · intro w hSw; (try dsimp only at hSw); go_simp; try with_reducible rfl
 try simp only [qga, qgz, qgs, Act.put, qgt, qgx, qgy]
 refine qT 12 (v := ?_) ?_ ?_
 rotate_left
 · intro w hSw; (try dsimp only at hSw); go_simp; try with_reducible rfl
 try simp only [qga, qgz, qgs, Act.put, qgt, qgx, qgy]
 refine qT 13 (v := ?_) ?_ ?_
 rotate_left
 · intro w hSw; (try dsimp only at hSw); go_simp; try with_reducible rfl
 try simp only [qga, qgz, qgs, Act.put, qgt, qgx, qgy]
 refine qT 14 (v := ?_) ?_ ?_
 rotate_left
 · intro w hSw; (try dsimp only at hSw); go_simp; try with_reducible rfl
 try simp only [qga, qgz, qgs, Act.put, qgt, qgx, qgy]
 refine qT 15 (v := ?_) ?_ ?_
 rotate_left
 · intro w hSw; (try dsimp only at hSw); go_simp; try with_reducible rfl
 try simp only [qga, qgz, qgs, Act.put, qgt, qgx, qgy]
 refine qT 16 (v := ?_) ?_ ?_
 rotate_left
 · intro w hSw; (try dsimp only at hSw); go_simp; try with_reducible rfl
 try simp only [qga, qgz, qgs, Act.put, qgt, qgx, qgy]
 refine qT 17 (v := ?_) ?_ ?_
 rotate_left
 · intro w hSw; (try dsimp only at hSw); go_simp; try with_reducible rfl
 try simp only [qga, qgz, qgs, Act.put, qgt, qgx, qgy]
 refine qT 18 (v := ?_) ?_ ?_
 rotate_left
 · intro w hSw; (try dsimp only at hSw); go_simp; try with_reducible rfl
 try simp only [qga, qgz, qgs, Act.put, qgt, qgx, qgy]
 refine qT 19 (v := ?_) ?_ ?_
 rotate_left
 · intro w hSw; (try dsimp only at hSw); go_simp; try with_reducible rfl
 try simp only [qga, qgz, qgs, Act.put, qgt, qgx, qgy]
 refine wpAnyH_ready (rs := [1, 20]) (by kernel_rfl) (by simp) ?_
 refine AllReadyH.cons rfl (fun K hK => ?_) (AllReadyH.cons rfl (fun K hK => ?_) AllReadyH.nil)
 go_simp
 refine hK.out _ _ (by (try dsimp only); exact HKP.out _ (by first | exact HBD.out | exact HBA.out)) (fun hHeld => ?_)
 clear hK K
 try simp only [qga, qgz, qgs, Act.put, qgt, qgx, qgy]
 refine wpAnyH_ready (rs := [20]) (by kernel_rfl) (by simp) ?_
 refine AllReadyH.cons rfl (fun K hK => ?_) AllReadyH.nil
 go_simp
 refine hK.out _ _ (by (try dsimp only); exact HKP.out _ (by first | exact HBA.out | exact HBA.out)) (fun hHeld => ?_)
 clear hK K
 try simp only [qga, qgz, qgs, Act.put, qgt, qgx, qgy]
 refine wpAnyH_ready (rs := [21]) (by kernel_rfl) (by simp) ?_
 refine AllReadyH.cons rfl (fun K hK => ?_) AllReadyH.nil
 refine x0m rfl _ _ _ (by rfl) x1s (by simp; omega) (by rfl) (World.ownsRow.drew (HOWN.out.alloc _)) ⟨wr.heap.size, 0, none⟩ 1 1 [.int .i64 (i : Int), .int .i64 y1, .int .i64 y2] (by rfl) (by rfl) (cells3 (by simp [go_sem]) (by simp [go_sem]) (by simp [go_sem])) (by simp [Value.oneCell']) (by decide) (by omega) (by unfold maxLen; omega) wr.heap.size (by simp) ?_
 intro g cap w6 hown6 hg6 hat6 hlt6
 obtain ⟨k0, k1, k2, hb6, hnx6⟩ := HNX.out w6 g cap hown6 hg6
 have HB6 := hid hb6
 have HNO := hid hnx6
 clear hb6 hnx6 hown6 hg6 hat6
 refine hK.out _ _ (by (try dsimp only); exact HKP.out _ HB6.out) (fun hHeld => ?_)
 clear hK K
 try simp only [qga, qgz, qgs, Act.put, qgt, qgx, qgy]
 refine qT 22 (v := ?_) ?_ ?_
 rotate_left
 · intro w hSw; (try dsimp only at hSw); go_simp; try with_reducible rfl
 try simp only [qga, qgz, qgs, Act.put, qgt, qgx, qgy]
 refine wpAnyH_ready (rs := [23]) (by kernel_rfl) (by simp) ?_
 refine AllReadyH.cons rfl (fun K hK => ?_) AllReadyH.nil
 go_simp
 refine hK.out _ _ (by (try dsimp only); exact HKP.out _ (HB6.out.setCell (l1 _) _)) (fun hHeld => ?_)
 clear hK K
 try simp only [qga, qgz, qgs, Act.put, qgt, qgx, qgy]
 refine wpAnyH_done (by kernel_rfl) ?_ _
 rotate_left
 go_simp
 refine hK.out _ _ (by (try dsimp only); exact HKP.out _ (by first | exact HBA.out | exact HBA.out)) (fun hHeld => ?_)
 clear hK K
 try simp only [qga, qgz, qgs, Act.put, qgt, qgx, qgy]
 refine wpAnyH_ready (rs := [1]) (by kernel_rfl) (by simp) ?_
 refine AllReadyH.cons rfl (fun K hK => ?_) AllReadyH.nil
 go_simp
 refine hK.out _ _ (by (try dsimp only); exact HKP.out _ (by first | exact HBD.out | exact HBA.out)) (fun hHeld => ?_)
 clear hK K
 try simp only [qga, qgz, qgs, Act.put, qgt, qgx, qgy]
 refine wpAnyH_ready (rs := [21]) (by kernel_rfl) (by simp) ?_
 refine AllReadyH.cons rfl (fun K hK => ?_) AllReadyH.nil
 refine x0m rfl _ _ _ (by rfl) x1s (by simp; omega) (by rfl) (World.ownsRow.drew (HOWN.out.alloc _)) ⟨wr.heap.size, 0, none⟩ 1 1 [.int .i64 (i : Int), .int .i64 y1, .int .i64 y2] (by rfl) (by rfl) (cells3 (by simp [go_sem]) (by simp [go_sem]) (by simp [go_sem])) (by simp [Value.oneCell']) (by decide) (by omega) (by unfold maxLen; omega) wr.heap.size (by simp) ?_
 intro g cap w6 hown6 hg6 hat6 hlt6
 obtain ⟨k0, k1, k2, hb6, hnx6⟩ := HNX.out w6 g cap hown6 hg6
 have HB6 := hid hb6
 have HNO := hid hnx6
 clear hb6 hnx6 hown6 hg6 hat6
 refine hK.out _ _ (by (try dsimp only); exact HKP.out _ HB6.out) (fun hHeld => ?_)
 clear hK K
 try simp only [qga, qgz, qgs, Act.put, qgt, qgx, qgy]
 refine qT 22 (v := ?_) ?_ ?_
 rotate_left
 · intro w hSw; (try dsimp only at hSw); go_simp; try with_reducible rfl
 try simp only [qga, qgz, qgs, Act.put, qgt, qgx, qgy]
 refine wpAnyH_ready (rs := [23]) (by kernel_rfl) (by simp) ?_
 refine AllReadyH.cons rfl (fun K hK => ?_) AllReadyH.nil
 go_simp
 refine hK.out _ _ (by (try dsimp only); exact HKP.out _ (HB6.out.setCell (l1 _) _)) (fun hHeld => ?_)
 clear hK K
 try simp only [qga, qgz, qgs, Act.put, qgt, qgx, qgy]
 refine wpAnyH_done (by kernel_rfl) ?_ _
 all_goals (
 go_wp2_with fail
 go_roundw
 case rel => exact ⟨k + 1, _, by go_num, by omega, HNO.out⟩
 case measure => simp [intOf]; omega))
 · (
 obtain rfl : ll = k := by omega
 have hkw4 : KW w3 wr O n s.lb s.s0 v (preE n lb (kRef s n) (i + 1)) := by
   rw [List.take_of_length_le (by rw [l3, <- HLL.out]; exact l1 _), <- HSU.out] at hkw
   exact hkw
 have hle4 : (preE n lb (kRef s n) (i + 1)).length <= 10000 := by rw [HSU.out, l2, l3, <- HPL.out, <- HLL.out]; exact hple
 have HKW4 := hid hkw4
 clear hkw hkw4 hbv hbv3
 go_wp2_with fail
 go_roundw
 case rel => exact ⟨i + 1, v, by go_num, by omega, HKW4.out, hle4⟩
 case measure => simp [intOf]; omega))))
 · (
 obtain rfl : n = i := by omega
 rw [v1a] at hkw hle
 have hown := hkw.own
 obtain ⟨ta, tc, tb, rfl, _, _, hts, htb⟩ := j0d k0q hown
 obtain ⟨tl, htl⟩ : ∃ tl, tl = (satE n lb (kRef s n)).length := ⟨_, rfl⟩
 have hoo := hkw.oo
 rw [<- htl] at hoo
 have hw3s := HOE.out
 have hlt3 : O < w3.heap.size := hkw.lt
 have HNE : Hid ((0 < (satE n lb (kRef s n)).length -> tb ≠ w.heap.size + 1) /\ (0 < (satE n lb (kRef s n)).length -> tb ≠ w.heap.size + 1 + 1)) := hid ⟨fun h => by have := htb h; omega, fun h => by have := htb h; omega⟩
 have HTS := hid hts
 have HTL := hid htl
 obtain ⟨⟨o0, o1, o2, o3⟩, _, ol⟩ := u0g hoo
 obtain ⟨⟨z0, z1, z2, z3⟩, ⟨f0, f1, f2, f3⟩, zl⟩ := u0g HA.out
 obtain ⟨⟨e0, e1, e2, e3⟩, ⟨k0, k1, k2, k3⟩, el'⟩ := j2u HB.out
 clear hown hts htb htl hoo hw3s hkw HKW HBV hlt3
 go_wp2_with fail
 refine bodyPost_ret (v := .tuple #[.agg #[.int .i64 n, .int .i64 s.lb, .int .i64 s.s0, .slice ta tl tc], .agg #[.int .i64 0, .int .i64 0, .int .i64 0, .string ⟨#[]⟩]]) (by simp [results, results25, go_sem, z0, z1, z2, z3, e0, e1, e2, e3]) rfl ⟨j1l (j1l HBW0.out (by omega) _ _ _ _) (by omega) _ _ _ _, .inl ⟨hle, ta, tb, tc, by rw [<- HTL.out], ((((((((HTS.out.setOther HNE.out.1 _).setOther HNE.out.1 _).setOther HNE.out.1 _).setOther HNE.out.1 _).setOther HNE.out.2 _).setOther HNE.out.2 _).setOther HNE.out.2 _).setOther HNE.out.2 _)⟩⟩))
end Go.Proofs.YtbaccmlfnbgehaaGreatDoor

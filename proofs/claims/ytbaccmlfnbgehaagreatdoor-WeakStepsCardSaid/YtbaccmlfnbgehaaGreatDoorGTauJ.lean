/-
  Lemmas.
-/
import Derived.Test.YtbaccmlfnbgehaaGreatDoorTauI
import Derived.Test.YtbaccmlfnbgehaaGreatDoorGPl5
import Derived.Test.YtbaccmlfnbgehaaGreatDoorGTold
import Derived.Test.YtbaccmlfnbgehaaGreatDoorGRws
open Nat renaming le_refl → l0, zero_le → l9, zero_add → m7
open List renaming length_map → l1, length_append → l2, flatMap_append → l3, length_filter_le → l4, length_range → l5, length_pos_of_mem → l6, mem_filter → l7, takeWhile_cons → l8, range → m0, flatMap_cons → m1, filter_cons → m2, nodup_range → m3, mem_flatMap → m4, map_append → m5, mem_range → m6
open Go.Proofs.Tryz
namespace Go.Proofs.YtbaccmlfnbgehaaGreatDoor
open Go.RowKit Pl
structure OG (w1 wr : World) (ob n : Nat) (f : Nat -> List Int) : Prop where
  rows : OwnRows encI 1 3 50 wr w1.heap.size ob n f
  bel : Below ob w1 wr
  oth : ∀ b, b < w1.heap.size -> b ≠ ob -> wr.heap[b]? = w1.heap[b]?
theorem OG.sl {α : Type} {enc : α -> List Value} {m : Nat} {w1 wr : World} {ob n : Nat} {f : Nat -> List Int} {a : Option Addr} {b off : Nat} {xs : List α} (h : OG w1 wr ob n f) (hS : SlAt enc m w1 a b off xs) (hb : 0 < xs.length -> b ≠ ob) : SlAt enc m wr a b off xs :=
  ⟨hS.ad, fun hp => Nat.lt_of_lt_of_le (hS.lt hp) h.bel.size, fun i x hx j u hu => by
    have hp : 0 < xs.length := by have := (List.getElem?_eq_some_iff.1 hx).1; omega
    rw [World.cell?_of_block (w := w1) (a := ⟨b, off + i * m + j, none⟩) (h.oth b (hS.lt hp) (hb hp))]
    exact hS.cell i x hx j u hu⟩
theorem OG.congr {w1 wr : World} {ob n : Nat} {f f' : Nat -> List Int} (h : OG w1 wr ob n f) (e : ∀ i, f i = f' i) : OG w1 wr ob n f' := by
 have : f = f' := funext e
 rw [<- this]; exact h
theorem OG.open {w1 wr : World} {ob n : Nat} {f : Nat -> List Int} (h : OG w1 wr ob n f) {p : Nat} (hp : p < n) : ∃ v, wr.cell? ⟨ob, p, none⟩ = some v /\ wr.frozen? ⟨ob, p, none⟩ = false /\ wr.ownsRow w1.heap.size 3 1 v (f p).length ((f p).flatMap encI) /\
    ∀ (w2 w3 : World) (g cap : Nat) (ys : List Int), Below wr.heap.size wr w2 -> w3.ownsRow w1.heap.size 3 1 (.slice (some ⟨g, 0, none⟩) ys.length cap) ys.length (ys.flatMap encI) -> w2.grownBy w3 v.ownBlock -> (v.ownBlock = some g ∨ wr.heap.size <= g) ->
      w3.cell? ⟨ob, p, none⟩ = some v /\ w3.frozen? ⟨ob, p, none⟩ = false /\
      OG w1 (w3.setCell ⟨ob, p, none⟩ (.slice (some ⟨g, 0, none⟩) ys.length cap)) ob n (fun i => if i = p then ys else f i) := by
 obtain ⟨v, h1, h2, h3, h4⟩ := h.rows.open hp
 refine ⟨v, h1, h2, h3, fun w2 w3 g cap ys hB hown hg hgg => ?_⟩
 have hs := h.bel.size
 have hob := h.rows.lt
 obtain ⟨h5, h6, h7⟩ := h4 w2 w3 g cap ys hB (Nat.le_trans hs hB.size) hown hg hgg
 have hv : ∀ b, b < w1.heap.size -> some b ≠ v.ownBlock := fun b hb e => by have := (h3.lt b e.symm).1; omega
 refine ⟨h5, h6, h7, ((h.bel.trans (hB.mono (by omega))).grown hg (by have := hB.size; omega) (fun k hk => by have := (h3.lt k hk).1; omega)).setCell (l0 _) _, fun b hb hne => ?_⟩
 rw [Below.heap_setCell _ _ _ _ hne, hg.block b (by have := hB.size; omega) (hv b hb), hB.block b (by omega)]
 exact h.oth b hb hne
def memK (C : List Int) (k : Nat) (c : Int) : List Int := ((m0 k).filter (fun x => decide (C[x]? = some c))).map Int.ofNat
theorem q2n {C : List Int} {k : Nat} {x : Int} (hx : C[k]? = some x) (c : Int) : memK C (k + 1) c = if x = c then memK C k c ++ [(k : Int)] else memK C k c := by
 unfold memK
 rw [List.range_succ, List.filter_append, m5]
 by_cases h : x = c
 · subst h; rw [if_pos rfl]; simp [hx]
 · rw [if_neg h]; simp [hx, h]
theorem v1s (C : List Int) (k : Nat) (c : Int) : (memK C k c).length <= k := by
 unfold memK
 rw [l1]
 have := l4 (fun x => decide (C[x]? = some c)) (m0 k)
 rwa [l5] at this
end Go.Proofs.YtbaccmlfnbgehaaGreatDoor
namespace Go.Proofs.YtbaccmlfnbgehaaGreatDoor
open Go.RowKit Pl
end Go.Proofs.YtbaccmlfnbgehaaGreatDoor
namespace Go.Proofs.YtbaccmlfnbgehaaGreatDoor
open Go.RowKit Pl
theorem z0u : ∀ (l : List S), Srt ltS l -> (∀ y ∈ l, 0 <= y.1) -> l.takeWhile (fun y => y.1 == 0) = l.filter (fun y => y.1 == 0)
  | [], _, _ => rfl
  | x :: l, h, h0 => by
    have hh := List.pairwise_cons.1 h
    by_cases e : x.1 = 0
    · have e2 : (x.1 == 0) = true := by simp [e]
      rw [l8, m2, e2]
      simp only [if_true]
      rw [z0u l hh.2 (fun y hy => h0 y (List.mem_cons_of_mem _ hy))]
    · have e2 : (x.1 == 0) = false := by simp [e]
      rw [l8, m2, e2]
      simp only [Bool.false_eq_true, if_false]
      symm
      rw [List.filter_eq_nil_iff]
      intro y hy
      have h1 := hh.1 y hy
      rw [x0g] at h1
      have h2 := h0 x List.mem_cons_self
      simp; omega
section
variable {t : Lts}
theorem k1f (hr : t.Right) (hs : Srt ltE t.es) (k : Nat) : (withL 0 (t.outs (k : Int))).length = Wt t [] k := by
 rw [p3o]
 unfold withL taus
 rw [z0u _ (x0s hs _) (fun z hz => (j0g.1 (hr.edges _ (j0s.1 hz))).2.2.1)]
 simp
theorem v1p {k : Nat} {x : Int} : x ∈ withL 0 (t.ins (k : Int)) ↔ (x, 0, (k : Int)) ∈ t.es := by
 unfold withL Lts.ins
 simp only [List.mem_map, l7, beq_iff_eq]
 constructor
 · rintro ⟨y, ⟨⟨z, ⟨h1, h2⟩, rfl⟩, h3⟩, rfl⟩
   obtain ⟨z1, z2, z3⟩ := z
   simp only at h2 h3 ⊢
   subst h2 h3
   exact (p0j x2z _ t.es).1 h1
 · intro h
   exact ⟨(0, x), ⟨⟨(x, 0, (k : Int)), ⟨(p0j x2z _ t.es).2 h, rfl⟩, rfl⟩, rfl⟩, rfl⟩
theorem z0k {k j : Nat} : (j : Int) ∈ withL 0 (t.ins (k : Int)) ↔ tau t j k := v1p
theorem j2s (k : Nat) : (withL 0 (t.ins (k : Int))).Nodup := by
 unfold withL List.Nodup
 rw [List.pairwise_map]
 refine List.Pairwise.imp_of_mem ?_ (List.Pairwise.filter (fun y : S => y.1 == 0) (j3s (s := t) (k : Int)))
 intro a b ha hb hab e
 have h1 := (l7.1 ha).2; have h2 := (l7.1 hb).2
 simp only [beq_iff_eq] at h1 h2
 rw [x0g] at hab
 omega
theorem v2d (hr : t.Right) {m : Nat} (hm : t.st = (m : Int)) {k : Nat} {x : Int} (h : x ∈ withL 0 (t.ins (k : Int))) : ∃ j : Nat, x = (j : Int) /\ j < m := by
 have h1 := j0g.1 (hr.edges _ (v1p.1 h))
 simp only at h1
 exact ⟨x.toNat, by omega, by omega⟩
def W8 (t : Lts) (D : List Nat) (j : Nat) : Int := if j ∈ D then -1 else (Wt t D j : Int)
def W9 (t : Lts) (D : List Nat) (k : Nat) (L : List Int) (j : Nat) : Int := (if j = k then -1 else W8 t D j) - (L.count (j : Int) : Int)
theorem p3r (D : List Nat) (k : Nat) (j : Nat) : W9 t D k [] j = if j = k then -1 else W8 t D j := by simp [W9]
theorem k3f (D : List Nat) (k : Nat) (L : List Int) (x j : Nat) : W9 t D k (L ++ [(x : Int)]) j = if j = x then W9 t D k L x - 1 else W9 t D k L j := by
 unfold W9
 rw [List.count_append]
 by_cases h : j = x
 · subst h; rw [if_pos rfl]; simp; omega
 · rw [if_neg h]
   have : ¬ ((x : Int) = (j : Int)) := by omega
   simp [this]
theorem p3s (hr : t.Right) (hs : Srt ltE t.es) {m : Nat} {D : List Nat} {k : Nat} (hD : OrdL t m D) (hk : IsNext t m D k) (j : Nat) : W9 t D k (withL 0 (t.ins (k : Int))) j = W8 t (D ++ [k]) j := by
 have hc : ((withL 0 (t.ins (k : Int))).count (j : Int)) = if (j : Int) ∈ withL 0 (t.ins (k : Int)) then 1 else 0 := List.Nodup.count (j2s k)
 have hz := (z1p hr hs).1 hk.all
 unfold W9
 rw [hc]
 by_cases hj : j = k
 · subst hj
   rw [if_pos rfl]
   have h1 : ¬ (j : Int) ∈ withL 0 (t.ins (j : Int)) := fun h => hk.new (hz j (z0k.1 h))
   rw [if_neg h1]
   unfold W8; rw [if_pos (by simp)]; rfl
 · (
 rw [if_neg hj]
 unfold W8
 by_cases hjD : j ∈ D
 · have h1 : ¬ (j : Int) ∈ withL 0 (t.ins (k : Int)) := fun h => hk.new (hD.closed hr hs hjD (z0k.1 h))
   rw [if_neg h1, if_pos hjD, if_pos (show j ∈ D ++ [k] by simp [hjD])]; rfl
 · (
 rw [if_neg hjD, if_neg (show ¬ j ∈ D ++ [k] by simp [hjD, hj])]
 haveI : Decidable (tau t j k) := Classical.propDecidable _
 have h2 := p3p hr hs hk.new j
 by_cases h3 : tau t j k
 · rw [if_pos (z0k.2 h3)]; rw [if_pos h3] at h2; rw [h2]; omega
 · rw [if_neg (fun h => h3 (z0k.1 h))]; rw [if_neg h3] at h2; rw [h2]; omega))
theorem x2x (D : List Nat) (j : Nat) : W8 t D j = 0 ↔ j ∉ D /\ Wt t D j = 0 := by
 unfold W8
 by_cases h : j ∈ D
 · rw [if_pos h]; simp [h]
 · rw [if_neg h]; simp [h]
theorem Wt_le (hr : t.Right) (D : List Nat) (j : Nat) : Wt t D j <= 10000 := by
 unfold Wt taus
 have h1 := q0c hr (j : Int)
 have h2 := l4 (fun y => !decide (y ∈ D)) (((t.outs (j : Int)).takeWhile (fun y => y.1 == 0)).map (fun y => y.2.toNat))
 rw [l1] at h2
 have h3 := (List.takeWhile_sublist (fun y : S => y.1 == 0) (l := t.outs (j : Int))).length_le
 omega
theorem p3t (hr : t.Right) (D : List Nat) (j : Nat) : -1 <= W8 t D j /\ W8 t D j <= 10000 := by
 have := Wt_le hr D j
 unfold W8; split <;> omega
theorem p3q (hr : t.Right) (D : List Nat) (k : Nat) (L : List Int) (hL : L.length <= 10000) (j : Nat) : -10001 <= W9 t D k L j /\ W9 t D k L j <= 10000 := by
 have h1 := p3t hr D j
 have h2 := List.count_le_length (a := (j : Int)) (l := L)
 unfold W9; split <;> omega
end
structure OQ (W wr : World) (M : Nat) (f : Nat -> Int) : Prop where
  rows : wr.rowIs W.heap.size 3 M (fun j => .int .i64 (f j))
  bel : Below W.heap.size W wr
theorem OQ.call {W wr w' : World} {M : Nat} {f : Nat -> Int} (h : OQ W wr M f) (hB : Below wr.heap.size wr w') : OQ W w' M f :=
  ⟨h.rows.of_block (hB.block _ h.rows.lt), h.bel.trans (hB.mono h.bel.size)⟩
theorem OQ.set {W wr : World} {M : Nat} {f : Nat -> Int} (h : OQ W wr M f) (i : Nat) (x : Int) : OQ W (wr.setCell ⟨W.heap.size, i, none⟩ (.int .i64 x)) M (fun j => if j = i then x else f j) :=
  ⟨(h.rows.set i (.int .i64 x)).congr (fun j _ => by by_cases e : j = i <;> simp [e]), h.bel.setCell (l0 _) _⟩
theorem OQ.congr {W wr : World} {M : Nat} {f g : Nat -> Int} (h : OQ W wr M f) (e : ∀ j, j < M -> f j = g j) : OQ W wr M g :=
  ⟨h.rows.congr (fun j hj => by rw [e j hj]), h.bel⟩
theorem OQ.grown {W wr w' : World} {M : Nat} {f : Nat -> Int} {v : Value} {e : TypeId} {k n : Nat} {xs : List Value} (h : OQ W wr M f) (ho : wr.ownsRow (W.heap.size + 1) e k v n xs) (hg : wr.grownBy w' v.ownBlock) : OQ W w' M f :=
  ⟨h.rows.of_block (hg.block _ h.rows.lt (fun e => by have := (ho.lt _ e.symm).1; omega)), h.bel.grown hg h.bel.size (fun k hk => by have := (ho.lt k hk).1; omega)⟩
def clsM (C : List Int) (n : Nat) (k : Nat) : List Nat := (m0 n).filter (fun x => decide (C[x]? = some (k : Int)))
theorem v1t (C : List Int) (n k : Nat) : memK C n (k : Int) = (clsM C n k).map Int.ofNat := rfl
theorem q0f {C : List Int} {n k x : Nat} : x ∈ clsM C n k ↔ x < n /\ C[x]? = some (k : Int) := by simp [clsM]
theorem x2d (C : List Int) (n : Nat) (D : List Nat) : (D.flatMap fun k : Nat => memK C n (k : Int)) = (D.flatMap (clsM C n)).map Int.ofNat := by
 induction D with
 | nil => rfl
 | cons k D ih => rw [m1, m1, m5, ih, v1t]
theorem y1x (C : List Int) (n : Nat) {D : List Nat} (h : D.Nodup) : (D.flatMap (clsM C n)).Nodup := by
 unfold List.Nodup
 rw [List.pairwise_flatMap]
 refine ⟨fun k _ => List.Nodup.sublist List.filter_sublist m3, List.Pairwise.imp ?_ h⟩
 intro a b hab x hx y hy e
 subst e
 have h1 := (q0f.1 hx).2; have h2 := (q0f.1 hy).2
 rw [h1] at h2
 simp only [Option.some.injEq] at h2
 exact hab (by omega)
theorem flat_le (C : List Int) (n : Nat) {D : List Nat} (h : D.Nodup) : (D.flatMap fun k : Nat => memK C n (k : Int)).length <= n := by
 rw [x2d, l1]
 have := x0t _ (m0 n) (y1x C n h) (fun x hx => by
   obtain ⟨k, _, hk⟩ := m4.1 hx
   exact m6.2 (q0f.1 hk).1)
 rwa [l5] at this
theorem u1d {C : List Int} {n M : Nat} (hC : ∀ x, x < n -> ∃ k : Nat, k < M /\ C[x]? = some (k : Int)) {D : List Nat} (hD : ∀ k, k < M -> k ∈ D) : n <= (D.flatMap fun k : Nat => memK C n (k : Int)).length := by
 rw [x2d, l1]
 have := x0t (m0 n) (D.flatMap (clsM C n)) m3 (fun x hx => by (
 have hx := m6.1 hx
 obtain ⟨k, hk, hc⟩ := hC x hx
 exact m4.2 ⟨k, hD k hk, q0f.2 ⟨hx, hc⟩⟩))
 rwa [l5] at this
theorem x2b {C : List Int} {n M : Nat} (hC : ∀ x, x < n -> ∃ k : Nat, k < M /\ C[x]? = some (k : Int)) {D : List Nat} (h : (D.flatMap fun k : Nat => memK C n (k : Int)).length < n) : ∃ k, k < M /\ k ∉ D := by
 refine Classical.byContradiction fun hc => ?_
 have := u1d hC (D := D) (fun k hk => Classical.byContradiction fun h2 => hc ⟨k, hk, h2⟩)
 omega
theorem x2c {C : List Int} {n M : Nat} (hs : ∀ k, k < M -> ∃ x, x < n /\ C[x]? = some (k : Int)) {D : List Nat} (hn : D.Nodup) (h : n <= (D.flatMap fun k : Nat => memK C n (k : Int)).length) : ∀ k, k < M -> k ∈ D := by
 intro k hk
 refine Classical.byContradiction fun hkD => ?_
 have h1 := flat_le C n (D := D ++ [k]) (by
   rw [List.nodup_append]
   exact ⟨hn, by simp, fun a ha b hb e => by simp at hb; subst hb; subst e; exact hkD ha⟩)
 rw [l3, l2] at h1
 obtain ⟨x, hx, hc⟩ := hs k hk
 have h2 : 0 < (memK C n (k : Int)).length := by
   rw [v1t, l1]
   exact l6 (q0f.2 ⟨hx, hc⟩)
 rw [show ([k].flatMap fun k : Nat => memK C n (k : Int)) = memK C n (k : Int) by simp] at h1
 omega
theorem v1r {C : List Int} {n k : Nat} (h : ∃ x, x < n /\ C[x]? = some (k : Int)) : 0 < (memK C n (k : Int)).length := by
 obtain ⟨x, hx, hc⟩ := h
 rw [v1t, l1]
 exact l6 (q0f.2 ⟨hx, hc⟩)
theorem u1j {n : Nat} {f : Nat -> Int} {k : Nat} (hk : k < (dist (fl n f)).length) : ∃ x, x < n /\ (fl n (clf n f))[x]? = some (k : Int) := by
 obtain ⟨x, hx, h⟩ := v2n hk
 exact ⟨x, hx, by rw [j0t _ hx, h]⟩
theorem u2o {n : Nat} {f : Nat -> Int} {x : Nat} (hx : x < n) : ∃ k : Nat, k < (dist (fl n f)).length /\ (fl n (clf n f))[x]? = some (k : Int) := by
 have h := q0g (f := f) hx
 obtain ⟨k, hk⟩ := Int.eq_ofNat_of_zero_le h.1
 exact ⟨k, by omega, by rw [j0t _ hx, hk]⟩
end Go.Proofs.YtbaccmlfnbgehaaGreatDoor
namespace Go.Proofs.YtbaccmlfnbgehaaGreatDoor
open Go.RowKit Pl
open Lib (hid)
def OrdPost (s : Lts) (n : Nat) (w : World) (e : Ending) (w' : World) : Prop :=
  ∃ (f : Nat -> Int) (D : List Nat) (v : Value), Cyc s n f /\ OrdL (col s (fl n (clf n f))) (dist (fl n (clf n f))).length D /\ (∀ k, k < (dist (fl n (clf n f))).length -> k ∈ D) /\ e = .returned (.tuple #[v, .nilIface]) /\
    w'.ownsRow w.heap.size 3 1 v n ((D.flatMap fun k : Nat => memK (fl n (clf n f)) n (k : Int)).flatMap encI) /\ Below w.heap.size w w'
set_option maxRecDepth 100000 in
set_option maxHeartbeats 8000000 in
theorem q1l {p : Addr} {s : Lts} {n : Nat} (h : s.Right) (hn : s.st = (n : Int)) {a : Option Addr} {b off c : Nat} {w : World} (hG : GErr 15 p w) (hS : SlAt encE 3 w a b off s.es) :
    Calls prog 159 #[.agg #[.int .i64 s.st, .int .i64 s.lb, .int .i64 s.s0, .slice a s.es.length c]] w (OrdPost s n w) := by
 have hst := h.st0
 have hn1 : n <= 1000 := by omega
 have hB0 := (Below.refl w.heap.size w).alloc (l0 _) (Obj.cells #[.int .i64 s.st, .int .i64 s.lb, .int .i64 s.s0, .slice a s.es.length c] 24)
 have hX0 := heap_alloc_new w (Obj.cells #[.int .i64 s.st, .int .i64 s.lb, .int .i64 s.s0, .slice a s.es.length c] 24)
 have hN := u0a (c := c) h hn (hG.below hB0) (hS.below hB0 (l0 _))
 rw [hn] at hN hB0 hX0
 have HN := hid hN; have HB0 := hid hB0; have HR := hid h; have HNN := hid hn; have HST := hid hst; have HX0 := hid hX0; have HG := hid hG
 rw [hn]
 clear hN hB0 hS hG h hn hst hX0
 obtain ⟨el, hel⟩ : ∃ el, el = s.es.length := ⟨_, rfl⟩
 rw [<- hel] at HN HB0 HX0 ⊢
 clear hel
 go_enter func159, ntmps159
 go_wp2_with fail
 refine HN.out.mono ?_
 rintro e w1 ⟨f, v, ve, hcyc, rfl, hown, howne, hB1⟩
 obtain ⟨C, hC⟩ : ∃ C, C = fl n (clf n f) := ⟨_, rfl⟩
 have hCl : C.length = n := by rw [hC, j0v]
 have htr : (col s C).Right := by rw [hC]; exact x1c HR.out HNN.out
 rw [<- hC] at hown howne ⊢
 obtain ⟨t, ht⟩ : ∃ t, t = col s C := ⟨_, rfl⟩
 rw [<- ht] at htr howne ⊢
 obtain ⟨M, hM⟩ : ∃ M, M = (dist C).length := ⟨_, rfl⟩
 have htst : t.st = (M : Int) := by rw [ht, hM]; rfl
 have hMn : M <= n := by rw [hM, hC]; have := y0r n (clf n f); exact this
 have hown' : w1.ownsRow (w.alloc (Obj.cells #[.int .i64 n, .int .i64 s.lb, .int .i64 s.s0, .slice a el c] 24)).heap.size 3 1 v C.length (C.flatMap encI) := by rw [hCl]; exact hown
 obtain ⟨ca, cc, cb, rfl, _, _, hcs, hcb⟩ := j0d p0v hown'
 obtain ⟨ea, ec, eb, rfl, _, _, hes, _⟩ := j0d k0q howne
 rw [hCl] at hcb hown ⊢
 have hnorm : t.norm = t := by
   have h1 : nf ltE t.es = t.es := by rw [ht]; exact q2h y0k (p1g s C)
   unfold Lts.norm; rw [h1]
 have hB1' := HB0.out.trans (hB1.mono (by simp))
 have hBe := y0j (Below.refl w1.heap.size w1) (Obj.cells #[.int .i64 t.st, .int .i64 t.lb, .int .i64 t.s0, .slice ea t.es.length ec] 24)
 have hN := v1k (c := ec) htr ((HG.out.below hB1').below hBe) (hes.below hBe (l0 _))
 rw [hnorm] at hN
 have hX1 := (hB1.block w.heap.size (by simp)).trans HX0.out
 have hC1 := heap_alloc_new w1 (Obj.cells #[.int .i64 t.st, .int .i64 t.lb, .int .i64 t.s0, .slice ea t.es.length ec] 24)
 have hX1' := (Below.heap_alloc w1 (Obj.cells #[.int .i64 t.st, .int .i64 t.lb, .int .i64 t.s0, .slice ea t.es.length ec] 24) w.heap.size (by have := hB1.size; simp at this; omega)).trans hX1
 have hcs1 := hcs.below hBe (l0 _)
 have hs1 := hB1.size
 simp at hs1
 rw [htst] at hN hC1 hX1' hBe hcs1 ⊢
 obtain ⟨tl, htl⟩ : ∃ tl, tl = t.es.length := ⟨_, rfl⟩
 rw [<- htl] at hN hC1 hX1' hBe hcs1 ⊢
 have HN := hid hN; have HC1 := hid hC1; have HX1 := hid hX1'; have HB1 := hid (hB1'.trans (hBe.mono (by omega))); have HCS := hid hcs1; have HCB := hid hcb
 have HCYC := hid hcyc; have HC := hid hC; have HT := hid ht; have HM := hid hM; have HTR := hid htr; have HCL := hid hCl; have HTST := hid htst
 clear hN hC1 hX1 hX1' hBe hcs1 hcs hcb hcyc hC ht hM htr hCl htst hnorm hB1 hB1' hown hown' howne hes htl HX0 HB0 HG
 go_wp2_with fail
 refine HN.out.mono ?_
 rintro e w2 ⟨gb, rfl, hgr, hB2, _⟩
 have hs2 := hB2.size
 simp at hs2
 have hX2 := (hB2.block w.heap.size (by simp; omega)).trans HX1.out
 have hC2 := (hB2.block w1.heap.size (by simp)).trans HC1.out
 have hcs2 := HCS.out.below hB2 (l0 _)
 have hBw := HB1.out.trans (hB2.mono (by simp; omega))
 have HX2 := hid hX2; have HC2 := hid hC2; have HCS2 := hid hcs2; have HBW := hid hBw; have HGR := hid hgr
 clear hX2 hC2 hcs2 hBw hgr hB2 HN HCS HX1 HC1 HB1
 obtain ⟨x0, x1, x2, x3, x4⟩ := q0j HX2.out
 obtain ⟨y0, y1, y2, y3, y4⟩ := q0j HC2.out
 clear x1 x2 x3 y1 y2 y3
 have hmk := run_make_row' (P := prog) 34 50 (.slice none 0 0) 24 underlying34 (by kernel_rfl) rfl .i64 .i64 M (by omega) (by omega)
 go_wp2_with fail
 obtain ⟨U, hU⟩ : ∃ U, U = w2.alloc (Obj.cells (madeCells #[.slice none 0 0] M) 50) := ⟨_, rfl⟩
 have hBU : Below w2.heap.size w2 U := by rw [hU]; exact y0j (Below.refl _ _) _
 have hUs : U.heap.size = w2.heap.size + 1 := by rw [hU]; simp
 have hOG : OG U U w2.heap.size M (fun k => memK C 0 (k : Int)) := by (
 refine ⟨?_, Below.refl _ _, fun _ _ _ => rfl⟩
 have h := OwnRows.made (enc := encI) (k := 1) (e := 3) (T := 50) (w := w2) (n := M)
 rw [<- hU, <- hUs] at h
 simpa [memK] using h)
 have hcsu := HCS2.out.below hBU (l0 _)
 have hcbn : 0 < C.length -> cb ≠ w2.heap.size := fun h => by have := HCS2.out.lt h; omega
 have HOG := hid hOG; have HBU := hid hBU; have HCSU := hid hcsu; have HCBN := hid hcbn; have HUS := hid hUs
 rw [<- hU]
 clear hmk hOG hBU hcsu hcbn hU x0 x4 y0 y4
 go_loopw [37] (fun v37 wr => ∃ k : Nat, v37 = .int .i64 k /\ k <= n /\ OG U wr w2.heap.size M (fun i => memK C k (i : Int)))
   (fun v37 _ => n - (intOf v37).toNat)
 case atStart => exact ⟨0, rfl, l9 _, HOG.out⟩
 case round => (
 obtain ⟨k, rfl, hk, hog⟩ := hrel
 have HO := hid hog
 have hszr := hog.bel.size
 clear hog HOG
 by_cases hlt : k < n
 · (
 have hx : C[k]? = some (clf n f k) := by rw [HC.out]; exact j0t _ hlt
 have hrng := q0g (f := f) hlt
 have hdl := p0o n f
 rw [<- HC.out, <- HM.out] at hdl
 obtain ⟨cn, hcn⟩ := Int.eq_ofNat_of_zero_le hrng.1
 have hcnM : cn < M := by omega
 rw [hcn] at hx
 have hslr := HO.out.sl HCSU.out HCBN.out
 have hClen := HCL.out
 obtain rfl := hslr.ad (by omega)
 have e0 := hslr.ci hx
 have gl := hslr.lt (by omega)
 simp only [m7] at e0
 have hki : (k : Int) < (n : Int) := by omega
 have hcM2 : (cn : Int) < (M : Int) := by omega
 obtain ⟨v, hcv, hfv, hown, hgo⟩ := HO.out.open hcnM
 have hml := v1s C k (cn : Int)
 have HX := hid hx; have HOWN := hid hown; have HGO := hid hgo
 have hobr : w2.heap.size < wr.heap.size := by have := HUS.out; omega
 obtain ⟨ml, hmll⟩ : ∃ ml, ml = (memK C k (cn : Int)).length := ⟨_, rfl⟩
 rw [<- hmll] at hml HOWN
 have HML := hid hmll
 clear hx hrng hdl hcn hslr hown hgo hClen hmll
 go_wp2_with (at_builtin; go_must (refine j0u rfl _ _ _ rfl p2q (by simp; omega) (by rfl) (HOWN.out.alloc _) ⟨wr.heap.size, 0, none⟩ 1 1 [.int .i64 k] rfl rfl (k0c (by simp [go_sem])) (by simp [Value.oneCell']) (by decide) (by omega) (by unfold maxLen; omega) (wr.heap.size + 1) (by simp) ?_); intro g cap w8 hown8 hg8 hat8 hlt8; have kp := HGO.out _ w8 g cap (memK C k (cn : Int) ++ [(k : Int)]) ((Below.refl _ _).alloc (l0 _) _) (by rw [l2, l3, <- HML.out]; exact hown8) hg8 (hat8.imp_right (fun e => by omega)); have kp0 := kp.1; have kp1 := kp.2.1; have KP := hid kp.2.2; clear kp)
 have hstep : ∀ i : Nat, (if i = cn then memK C k (cn : Int) ++ [(k : Int)] else memK C k (i : Int)) = memK C (k + 1) (i : Int) := fun i => by (
 rw [q2n HX.out]
 by_cases hi : i = cn
 · subst hi; rw [if_pos rfl, if_pos rfl]
 · rw [if_neg hi, if_neg (by omega)])
 have H1 := hid (KP.out.congr hstep)
 rw [l2, <- HML.out] at H1
 clear hstep KP hown8 hg8 hat8 hlt8 kp0 kp1
 go_roundw
 case rel => exact ⟨k + 1, by go_num, by omega, H1.out⟩
 case measure => simp [intOf]; omega)
 · (
 have hkn : n = k := by omega
 subst hkn
 obtain ⟨wm, hwm⟩ : ∃ wm, wm = wr := ⟨_, rfl⟩
 subst hwm
 have hb2m := HBU.out.trans (HO.out.bel.mono (l0 _))
 have hxm := (hb2m.block w.heap.size (by omega)).trans HX2.out
 have hcm := (hb2m.block w1.heap.size (by omega)).trans HC2.out
 have hgm := HGR.out.below hb2m
 obtain ⟨x0, x1, x2, x3, x4⟩ := q0j hxm
 obtain ⟨y0, y1, y2, y3, y4⟩ := q0j hcm
 have hsm := hb2m.size
 have HXM := hid hxm; have HGM := hid hgm; have HBM := hid (HBW.out.trans (hb2m.mono (by omega)))
 have hmk := run_make_row' (P := prog) 50 3 (.int .i64 0) 8 underlying50 (by kernel_rfl) rfl .i64 .i64 M (by omega) (by omega)
 clear x1 x2 x3 y1 y2 y3 hb2m hxm hcm hgm HX2 HC2 HGR HBW HCSU HCBN
 go_wp2_with fail
 have hOQ : OQ wm (wm.alloc (Obj.cells (madeCells #[.int .i64 0] M) 3)) M (fun j => if j < 0 then (Wt t [] j : Int) else 0) := by
   refine ⟨?_, y0j (Below.refl _ _) _⟩
   simpa using World.rowIs_made wm (.int .i64 0) M 3
 have HOQ := hid hOQ
 clear hmk hOQ x0 x4 y0 y4
 go_loopw [58] (fun v58 wr => ∃ k : Nat, v58 = .int .i64 k /\ k <= M /\ OQ wm wr M (fun j => if j < k then (Wt t [] j : Int) else 0))
   (fun v58 _ => M - (intOf v58).toNat)
 case atStart => exact ⟨0, rfl, l9 _, HOQ.out⟩
 case round => (
 obtain ⟨k, rfl, hk, hoq⟩ := hrel
 have HQ := hid hoq
 have hszr := hoq.bel.size
 clear hoq HOQ
 by_cases hlt : k < M
 · (
 have HBY := hid (q1x (HGM.out.below HQ.out.bel) (k : Int) 0)
 have hki : (k : Int) < (M : Int) := by omega
 go_wp2_with fail
 refine HBY.out.mono ?_
 rintro e w6 ⟨v6, rfl, hown6, hB6⟩
 obtain ⟨sa, sc, sb, rfl, _, _, _, _⟩ := j0d p0v hown6
 have hq6 := HQ.out.call hB6
 have hwt := k1f HTR.out (show Srt ltE t.es by rw [HT.out]; exact p1g s C) k
 rw [hwt]
 have g1 := hq6.rows.cell hlt
 have g2 := hq6.rows.frozen k
 have gl := hq6.rows.lt
 have HQ6 := hid hq6
 obtain ⟨wk, hwk⟩ : ∃ wk, wk = Wt t [] k := ⟨_, rfl⟩
 rw [<- hwk]
 have HWK := hid hwk
 clear hown6 hB6 hq6 hwt hwk HBY
 go_wp2_with fail
 have h7 : OQ wm (w6.setCell ⟨wm.heap.size, k, none⟩ (.int .i64 wk)) M (fun j => if j < k + 1 then (Wt t [] j : Int) else 0) := (HQ6.out.set k wk).congr (fun j _ => by (
 by_cases e : j = k
 · subst e; rw [if_pos rfl, if_pos (by omega), HWK.out]
 · rw [if_neg e]
   by_cases e2 : j < k
   · rw [if_pos e2, if_pos (by omega)]
   · rw [if_neg e2, if_neg (by omega)]))
 have H7 := hid h7
 clear h7 g1 g2 gl
 go_roundw
 case rel => exact ⟨k + 1, by go_num, by omega, H7.out⟩
 case measure => simp [intOf]; omega)
 · (
 have hkM : M = k := by omega
 subst hkM
 obtain ⟨wt, hwt⟩ : ∃ wt, wt = wr := ⟨_, rfl⟩
 subst hwt
 have hq : OQ wm wt M (W8 t []) := HQ.out.congr (fun j hj => by rw [if_pos hj]; unfold W8; rw [if_neg (by simp)])
 have hx3 := (hq.bel.block w.heap.size (by omega)).trans HXM.out
 have HQ3 := hid hq
 clear hq HQ
 obtain ⟨x0, x1, x2, x3, x4⟩ := q0j hx3
 have HX3 := hid hx3
 clear hx3 x1 x2 x3
 go_wp2_with fail
 have hdl := p0o n f
 rw [<- HC.out, <- HM.out] at hdl
 have hin : ∀ x, x < n -> ∃ k : Nat, k < M /\ C[x]? = some (k : Int) := fun x hx => by
   rw [hdl, HC.out]; exact u2o hx
 have hon : ∀ k, k < M -> ∃ x, x < n /\ C[x]? = some (k : Int) := fun k hk => by
   rw [hdl] at hk; rw [HC.out]; exact u1j hk
 have HIN := hid hin; have HON := hid hon
 have HSRT : Hid (Srt ltE t.es) := hid (by rw [HT.out]; exact p1g s C)
 have HF : Hid (∀ x y, tau t x y -> rank n f y < rank n f x) := hid (fun x y hxy => p2t HR.out HNN.out HCYC.out (by rw [<- HC.out, <- HT.out]; exact hxy))
 clear hdl hin hon x0 x4
 go_loopw [14] (fun v14 wr => ∃ (D : List Nat) (L : List Int), L = (D.flatMap fun k : Nat => memK C n (k : Int)) /\ OrdL t M D /\ OQ wm wr M (W8 t D) /\ wr.ownsRow (wm.heap.size + 1) 3 1 v14 L.length (L.flatMap encI))
   (fun v14 _ => match v14 with | .slice _ l _ => n - l | _ => 0)
 case atStart => exact ⟨[], [], rfl, .nil, HQ3.out, World.ownsRow_nil _ _ _ _⟩
 case round => (
 obtain ⟨D, L, hL, hD, hq, hown⟩ := hrel
 obtain ⟨oa, oc, ob, rfl, _, _, _, _⟩ := j0d p0v hown
 have hLn : L.length <= n := by rw [hL]; exact flat_le C n hD.nodup
 have hszr := hq.bel.size
 have hxr := (hq.bel.block w.heap.size (by omega)).trans HXM.out
 obtain ⟨x0, x1, x2, x3, x4⟩ := q0j hxr
 have HL := hid hL; have HD := hid hD; have HQ := hid hq; have HOWN := hid hown
 obtain ⟨ll, hll⟩ : ∃ ll, ll = L.length := ⟨_, rfl⟩
 rw [<- hll] at hLn HOWN ⊢
 have HLL := hid hll
 clear hL hD hq hown hxr x1 x2 x3 hll HQ3
 by_cases hlt : ll < n
 · (
 have hlt2 : (ll : Int) < (n : Int) := by omega
 obtain ⟨x, hxM, hxD⟩ := x2b HIN.out (D := D) (by rw [<- HL.out, <- HLL.out]; exact hlt)
 obtain ⟨K, hK⟩ := j3m HTR.out HSRT.out HTST.out HF.out hxM hxD
 have hKM := hK.lt
 have HK := hid hK
 clear hxM hxD hK
 go_wp2_with fail
 obtain ⟨wq, hwq⟩ : ∃ wq, wq = wr := ⟨_, rfl⟩
 subst hwq
 have gl := HQ.out.rows.lt
 go_loopw [15] (fun v15 wx => ∃ j : Nat, wq = wx /\ v15 = .int .i64 j /\ j <= K) (fun v15 _ => K - (intOf v15).toNat)
 case atStart => exact ⟨0, rfl, rfl, l9 _⟩
 case round => (
 obtain ⟨j, rfl, rfl, hj⟩ := hrel
 have hjM : j < M := by omega
 have hjM2 : (j : Int) < (M : Int) := by omega
 have g1 := HQ.out.rows.cell hjM
 obtain ⟨q, hq⟩ : ∃ q, q = W8 t D j := ⟨_, rfl⟩
 rw [<- hq] at g1
 by_cases hjK : j < K
 · (
 have hb : (q != 0) = true := by (
 have h1 := HK.out.first j hjK
 have h2 := x2x (t := t) D j
 rw [bne_iff_ne, hq]
 intro e
 obtain ⟨h3, h4⟩ := h2.1 e
 rcases h1 with h1 | h1
 · exact h3 h1
 · exact h1 h4)
 clear hq
 go_wp2_with fail
 go_roundw
 case rel => exact ⟨j + 1, by trivial, by go_num, by omega⟩
 case measure => simp [intOf]; omega)
 · (
 have hjj : K = j := by omega
 subst hjj
 have hb : (q != 0) = false := by
   rw [hq, (x2x (t := t) D K).2 ⟨HK.out.new, HK.out.all⟩]; rfl
 have g2 := HQ.out.rows.frozen K
 clear hq
 obtain ⟨vK, hv1, hv2, hv3⟩ := HO.out.rows.at hjM
 obtain ⟨ma, mc, mb, rfl, _, _, hms, hmb⟩ := j0d p0v hv3
 have hmp := v1r (HON.out K hjM)
 obtain ⟨ML, hML⟩ : ∃ ML, ML = memK C n (K : Int) := ⟨_, rfl⟩
 rw [<- hML] at hv1 hms hmb hmp
 have hmle : ML.length <= n := by rw [hML]; exact v1s C n _
 obtain rfl := hms.ad hmp
 have hqs : OQ wm (wq.setCell ⟨wm.heap.size, K, none⟩ (.int .i64 (-1))) M (W9 t D K []) := (HQ.out.set K (-1)).congr (fun j _ => (p3r D K j).symm)
 have hms2 := hms.below hqs.bel (l0 _)
 have hvm := (World.cell?_of_block (a := ⟨w2.heap.size, K, none⟩) (hqs.bel.block w2.heap.size (by omega))).trans hv1
 have hown2 : (wq.setCell ⟨wm.heap.size, K, none⟩ (.int .i64 (-1))).ownsRow (wm.heap.size + 1) 3 1 (.slice oa ll oc) ll (L.flatMap encI) := j0l HOWN.out (p := ⟨wm.heap.size, K, none⟩) (fun g hg => by have := (HOWN.out.lt g hg).1; show g ≠ wm.heap.size; omega) _
 obtain ⟨wz, hwz⟩ : ∃ wz, wz = wq.setCell ⟨wm.heap.size, K, none⟩ (.int .i64 (-1)) := ⟨_, rfl⟩
 have hszz : wz.heap.size = wq.heap.size := by rw [hwz, size_setCell]
 have HQS := hid hqs; have HMS := hid hms2; have HVM := hid hvm; have HOWN2 := hid hown2
 have HML := hid hML
 clear hv1 hv2 hv3 hms hqs hms2 hvm hown2 hmb hML
 go_upto_region 23 with fail
 rw [<- hwz] at HQS HMS HVM HOWN2 ⊢
 have gz := HQS.out.rows.lt
 have hvm := HVM.out
 obtain ⟨hn1', hn2', hn3'⟩ := j1f (ad := ⟨mb, 0, none⟩) p0v (fun x u hu => by simp [encI] at hu; subst hu; rfl) HMS.out rfl
 have HN1 := hid hn1'; have HN2 := hid hn2'; have HN3 := hid hn3'
 have hob2 : w2.heap.size < wz.heap.size := by omega
 obtain ⟨ml, hml⟩ : ∃ ml, ml = ML.length := ⟨_, rfl⟩
 rw [<- hml] at hvm HN3 hmp hmle
 have HMLL := hid hml
 clear hwz hn1' hn2' hn3' hml g1 g2
 go_upto_region 24 with (at_builtin; go_must (refine j0u rfl _ _ _ rfl p2q gz (by rfl) HOWN2.out ⟨mb, 0, none⟩ ml mc (ML.flatMap encI) rfl HN3.out HN1.out HN2.out hmp (by omega) (by unfold maxLen; omega) wz.heap.size rfl ?_); intro g cap w8 hown8 hg8 hat8 hlt8)
 have hq8 := HQS.out.grown HOWN2.out hg8
 have hown9 : w8.ownsRow (wm.heap.size + 1) 3 1 (.slice (some ⟨g, 0, none⟩) (ll + ml) cap) (L ++ ML).length ((L ++ ML).flatMap encI) := by
   rw [l2, l3, <- HLL.out, <- HMLL.out]; exact hown8
 have hfr := getFrom_any (HGM.out.below hq8.bel) (K : Int) 0
 have HQ8 := hid hq8; have HOWN9 := hid hown9; have HFR := hid hfr
 clear hq8 hown9 hfr hown8 hg8 hat8 hvm HN1 HN2 HN3 HQS HOWN2 HVM HMS
 go_wp2_with fail
 refine HFR.out.mono ?_
 rintro e w9 ⟨v9, rfl, hown10, hB9⟩
 obtain ⟨fa, fc, fb, rfl, _, _, hfs, hfb⟩ := j0d p0v hown10
 obtain ⟨F, hF⟩ : ∃ F, F = withL 0 (t.ins (K : Int)) := ⟨_, rfl⟩
 rw [<- hF] at hfs hfb ⊢
 have hFl : F.length <= 10000 := by (
 rw [hF]; unfold withL; rw [l1]
 have h1 := l4 (fun s : S => s.1 == 0) (t.ins (K : Int))
 have h2 := y1p HTR.out (K : Int)
 omega)
 have hq9 := HQ8.out.call hB9
 have hown11 := own_below HOWN9.out hB9
 have HQ9 := hid hq9; have HOWN11 := hid hown11; have HFS := hid hfs; have HFB := hid hfb; have HFF := hid hF
 clear hq9 hown11 hfs hfb hF hown10 hB9
 go_wp2_with fail
 obtain ⟨Fl, hFl2⟩ : ∃ Fl, Fl = F.length := ⟨_, rfl⟩
 rw [<- hFl2] at hFl ⊢
 have HFL := hid hFl2
 clear hFl2
 go_loopw [94] (fun v94 wx => ∃ m : Nat, v94 = .int .i64 m /\ m <= Fl /\ OQ wm wx M (W9 t D K (F.take m)) /\ (∀ b, b ≠ wm.heap.size -> wx.heap[b]? = w9.heap[b]?) /\ wx.heap.size = w9.heap.size)
   (fun v94 _ => Fl - (intOf v94).toNat)
 case atStart => exact ⟨0, rfl, l9 _, by rw [List.take_zero]; exact HQ9.out, fun _ _ => rfl, rfl⟩
 case round => (
 obtain ⟨m, rfl, hm, hq, hoth, hsz⟩ := hrel
 have HQX := hid hq; have HOTH := hid hoth
 have gq := hq.rows.lt
 have g9 := HQ9.out.rows.lt
 clear hq hoth
 by_cases hmF : m < Fl
 · (
 obtain ⟨x, hx⟩ := j0a (xs := F) (i := m) (by have := HFL.out; omega)
 obtain ⟨up, rfl, hup⟩ := v2d HTR.out HTST.out (k := K) (x := x) (by rw [<- HFF.out]; exact List.mem_of_getElem? hx)
 have hfp : 0 < F.length := by have := HFL.out; omega
 have hfsx : SlAt encI 1 wr fa fb 0 F := ⟨HFS.out.ad, fun hp => by rw [hsz]; exact HFS.out.lt hp, fun i y hy j u hu => by
   rw [World.cell?_of_block (w := w9) (a := ⟨fb, 0 + i * 1 + j, none⟩) (HOTH.out fb (by have := HFB.out hfp; have := HQ8.out.rows.lt; omega))]
   exact HFS.out.cell i y hy j u hu⟩
 obtain rfl := hfsx.ad hfp
 have e0 := hfsx.ci hx
 have fl := hfsx.lt hfp
 simp only [m7] at e0
 have g1 := HQX.out.rows.cell hup
 have g2 := HQX.out.rows.frozen up
 have hr9 := p3q HTR.out D K (F.take m) (by rw [List.length_take]; have := HFL.out; omega) up
 obtain ⟨q, hq⟩ : ∃ q, q = W9 t D K (F.take m) up := ⟨_, rfl⟩
 rw [<- hq] at g1 hr9
 have hmF2 : (m : Int) < (Fl : Int) := by omega
 have hup2 : (up : Int) < (M : Int) := by omega
 obtain ⟨hq1, hq2⟩ := hr9
 have h7 : OQ wm (wr.setCell ⟨wm.heap.size, up, none⟩ (.int .i64 (q - 1))) M (W9 t D K (F.take (m + 1))) := (HQX.out.set up (q - 1)).congr (fun j _ => by
   rw [take_snoc hx, k3f, hq])
 have H7 := hid h7
 clear h7 hq hfsx hx
 go_wp2_with fail
 go_roundw
 case rel => exact ⟨m + 1, by go_num, by omega, H7.out, fun b hb => by rw [Below.heap_setCell _ _ _ _ hb]; exact HOTH.out b hb, by rw [size_setCell]; exact hsz⟩
 case measure => simp [intOf]; omega)
 · (
 have hmm : Fl = m := by omega
 subst hmm
 have hqe : OQ wm wr M (W8 t (D ++ [K])) := HQX.out.congr (fun j _ => by
   rw [HFL.out, List.take_length, HFF.out]
   exact p3s HTR.out HSRT.out HD.out HK.out j)
 have howne := k0v HOWN11.out (w' := wr) (fun g hg => HOTH.out g (by have := (HOWN11.out.lt g hg).1; omega))
 have HQE := hid hqe; have HOE := hid howne
 have HLE : Hid (L ++ ML = ((D ++ [K]).flatMap fun k : Nat => memK C n (k : Int))) := hid (by
   rw [l3, HL.out, HML.out]; simp)
 clear hqe howne HQX HOTH
 go_wp2_with fail
 go_roundw
 case rel => exact ⟨D ++ [K], L ++ ML, HLE.out, .step HD.out HK.out, HQE.out, HOE.out⟩
 case measure => (
 have h1 := flat_le C n (OrdL.step HD.out HK.out).nodup
 rw [<- HLE.out, l2, <- HLL.out, <- HMLL.out] at h1
 simp
 omega))))))
 · (
 have hge : n <= (D.flatMap fun k : Nat => memK C n (k : Int)).length := by rw [<- HL.out, <- HLL.out]; omega
 have hlle : n = ll := by omega
 subst hlle
 have hall := x2c HON.out HD.out.nodup hge
 have hbelow : Below w.heap.size w wr := HBM.out.trans (HQ.out.bel.mono (by omega))
 have hownf : wr.ownsRow w.heap.size 3 1 (.slice oa n oc) n ((D.flatMap fun k : Nat => memK C n (k : Int)).flatMap encI) := by rw [<- HL.out]; exact j0r HOWN.out (by omega)
 have HALL := hid hall; have HBF := hid hbelow; have HOF := hid hownf
 clear hall hbelow hownf hge
 go_wp2_with fail
 go_ret2
 exact ⟨f, D, .slice oa n oc, HCYC.out, by rw [<- HC.out, <- HT.out, <- HM.out]; exact HD.out, by rw [<- HC.out, <- HM.out]; exact HALL.out, rfl, by rw [<- HC.out]; exact HOF.out, HBF.out⟩))))))
end Go.Proofs.YtbaccmlfnbgehaaGreatDoor

/-
  Lemmas.
-/
import Derived.Test.YtbaccmlfnbgehaaGreatDoorGBkB
import Derived.Test.YtbaccmlfnbgehaaGreatDoorGBkIg
import Derived.Test.YtbaccmlfnbgehaaGreatDoorGBkBo
import Derived.Test.YtbaccmlfnbgehaaGreatDoorGBkSg
import Derived.Test.YtbaccmlfnbgehaaGreatDoorGBkEg
import Derived.Test.YtbaccmlfnbgehaaGreatDoorGBkRp
import Derived.Test.YtbaccmlfnbgehaaGreatDoorGBkR
import Derived.Test.YtbaccmlfnbgehaaGreatDoorGBkWg
open List renaming getElem?_eq_some_iff → l0, mem_of_getElem? → l1, getElem?_map → l2, mem_append_right → l3, mem_append_left → l4, length_map → l5
open Nat renaming zero_add → l6
open Go.Proofs.Tryz
namespace Go.Proofs.YtbaccmlfnbgehaaGreatDoor
open Go.RowKit Pl
section
variable {w0 w : World} {kds : List Kd} {bb : Nat} {D L : List Rw} {K : KS}
theorem k2w (h : Rws w0 w (bkRows bb kds D)) (hj : kds[0]? = some (K.kd 50)) (hf : FlOk 3 1 encI K) :
    Calls prog 44 #[.pointer (some ⟨bb, 0, none⟩)] w fun e w' => e = .returned (.bool true) /\ ∃ m, w' = w.drewN m := by
 obtain ⟨m1, m2, m3⟩ := y0z (bb := bb) (D := D) hj
 obtain ⟨c0, c1⟩ := h.bkCell hj
 obtain ⟨a, b, c, e1, e2, e3⟩ := h.outer m1
 obtain ⟨a', b', c', f1, f2, f3⟩ := h.outer m2
 rw [e1] at c0; rw [f1] at c1
 have hll := hf.hl; have h4 := hf.h4
 simp only [KS.kd, l5] at c0 c1 e2 e3 f2 f3
 rw [<- hll] at c1
 refine u1t c0 c1 e2 f2 (by simp) (by simp [hll]) h4 (fun i v u hv hu => ?_)
 rw [l2] at hv hu
 cases hr : K.ks[i]? with
 | none => rw [hr] at hv; cases hv
 | some r => (
 cases hr' : K.ws[i]? with
 | none => rw [hr'] at hu; cases hu
 | some r' => (
 rw [hr] at hv; rw [hr'] at hu
 cases hv; cases hu
 obtain ⟨g1, g2, g3, g4, ys, g5, g6, g7, g8, g9⟩ := hf.at_ i r r' hr hr'
 obtain ⟨a1, b1, q1, x1, y1⟩ := h.reads p0v (m3 r (l4 _ (l1 hr))) g2 g6 g8
 obtain ⟨a2, b2, q2, x2, y2⟩ := h.reads p0v (m3 r' (l3 _ (l1 hr'))) g4 g7 g9
 exact ⟨ys, a1, b1, q1, a2, b2, q2, x1, x2, y1, y2, by omega⟩))
theorem j3c (h : Rws w0 w (bkRows bb kds D)) (hj : kds[0]? = some (K.kd 50)) (hf : FlOk 3 1 encI K) :
    Calls prog 55 #[.pointer (some ⟨bb, 0, none⟩)] w fun e w' => e = .returned (.tuple #[]) /\ Rws w0 w' (bkRows bb (kds.set 0 ((KS.mk K.o K.p (mkAll mI encI K.ks) K.ws).kd 50)) D) := by
 refine (y2x (h.bkFront hj) (j0m hj).1 (fun r hr => hf.ks_at hr) hf.h4).mono ?_
 rintro e w' ⟨rfl, h2⟩
 refine ⟨rfl, h2.bkBack hj ?_⟩
 simp [KS.kd, k1k]
theorem mkdI (hf : FlOk 3 1 encI K) : ∀ (i : Nat) (r : Rw), (mkAll mI encI K.ks)[i]? = some r -> r.T = 3 /\ r.k = 1 /\ r.n <= 500000 /\ r.xs = (mkG mI i 0 r.n).flatMap encI := fun i r hr => by
  have hl := (l0.1 hr).1
  rw [k0w] at hl
  obtain ⟨x, hx⟩ := j0a hl
  rw [x0x hx] at hr
  cases hr
  obtain ⟨a, b, c⟩ := hf.ks_at (l1 hx)
  exact ⟨a, b, c, rfl⟩
theorem v2a (h : Rws w0 w (bkRows bb kds D)) (hj : kds[0]? = some (K.kd 50)) (hK : ∀ (i : Nat) (r : Rw), K.ks[i]? = some r -> r.T = 3 /\ r.k = 1 /\ r.n <= 500000 /\ r.xs = (mkG mI i 0 r.n).flatMap encI) (h4 : K.ks.length <= 400) :
    Calls prog 66 #[.pointer (some ⟨bb, 0, none⟩)] w fun e w' => ∃ (gv : Value) (gs : List Value) (G : List Rw), e = .returned gv /\ gs.length = K.ks.length /\ GrowOk 1 mI encI K.ks gs G K.ks.length /\
      Rws w0 w' (bkRows bb (kds.set 0 ⟨50, K.o, K.p, K.ks.map (·.v), K.ws.map (·.v), G ++ K.ws⟩) (⟨50, 1, gv, K.ks.length, gs⟩ :: D)) := by
 refine (q2x (h.bkFront hj) (j0m hj).1 hK h4).mono ?_
 rintro e w' ⟨gv, gs, G, rfl, h1, h2, h3⟩
 refine ⟨gv, gs, G, rfl, h1, h3, Rws.bkBack hj rfl (h2.perm ?_)⟩
 exact q0w ..
theorem y1c {ks : List Rw} {gs : List Value} {gv : Value} {G : List Rw} {n : Nat} (h : Rws w0 w L) (h1 : (⟨50, 1, gv, n, gs⟩ : Rw) ∈ L) (hn : ks.length = n) (h4 : n <= 400) (h2 : GrowOk 1 mI encI ks gs G n) (hG : ∀ r ∈ G, r ∈ L) (hK : ∀ (i : Nat) (r : Rw), ks[i]? = some r -> r.n <= 500000) :
    Calls prog 77 #[gv] w fun e w' => e = .returned (.bool true) /\ Below w.heap.size w w' := by
 obtain ⟨a, b, c, e1, e2, e3⟩ := h.outer h1
 rw [e1]
 refine v0m e2 e3 h4 (fun i v hv => ?_)
 have hi := (l0.1 hv).1
 obtain ⟨r, hr⟩ := j0a (xs := ks) (i := i) (by omega)
 obtain ⟨⟨v', g1, g2⟩, _⟩ := h2 i r (by omega) hr
 rw [hv] at g1
 cases g1
 obtain ⟨a1, c1, b1, x1, x2⟩ := h.pre hG p0v g2 (by rw [j0f])
 rw [j0f] at x1
 exact ⟨_, a1, b1, c1, x1, x2, by have := hK i r hr; omega⟩
theorem y1i {ks : List Rw} {gs : List Value} {o : Value} {G : List Rw} {n : Nat} (h : Rws w0 w L) (h1 : (⟨50, 1, o, n, ks.map (·.v)⟩ : Rw) ∈ L) (hn : ks.length = n) (h4 : n <= 400) (h2 : GrowOk 1 mI encI ks gs G n) (hG : ∀ r ∈ G, r ∈ L) (hK : ∀ (i : Nat) (r : Rw), ks[i]? = some r -> r.T = 3 /\ r.k = 1 /\ r.n <= 500000 /\ r.xs = (mkG mI i 0 r.n).flatMap encI) :
    Calls prog 77 #[o] w fun e w' => e = .returned (.bool true) /\ Below w.heap.size w w' := by
 obtain ⟨a, b, c, e1, e2, e3⟩ := h.outer h1
 rw [e1]
 refine v0m e2 e3 h4 (fun i v hv => ?_)
 rw [l2] at hv
 cases hr : ks[i]? with
 | none => rw [hr] at hv; cases hv
 | some r => (
 rw [hr] at hv
 cases hv
 have hi := (l0.1 hr).1
 obtain ⟨_, g2⟩ := h2 i r (by omega) hr
 obtain ⟨_, _, g3, g4⟩ := hK i r hr
 rw [g4] at g2
 obtain ⟨a1, c1, b1, x1, x2⟩ := h.pre hG p0v g2 (by rw [j0f])
 rw [j0f] at x1
 exact ⟨_, a1, b1, c1, x1, x2, by omega⟩)
theorem k2y (h : Rws w0 w (bkRows bb kds D)) (hj : kds[3]? = some (K.kd 57)) (hf : FlOk 4 1 encB K) :
    Calls prog 47 #[.pointer (some ⟨bb, 0, none⟩)] w fun e w' => e = .returned (.bool true) /\ ∃ m, w' = w.drewN m := by
 obtain ⟨m1, m2, m3⟩ := y0z (bb := bb) (D := D) hj
 obtain ⟨c0, c1⟩ := h.bkCell hj
 obtain ⟨a, b, c, e1, e2, e3⟩ := h.outer m1
 obtain ⟨a', b', c', f1, f2, f3⟩ := h.outer m2
 rw [e1] at c0; rw [f1] at c1
 have hll := hf.hl; have h4 := hf.h4
 simp only [KS.kd, l5] at c0 c1 e2 e3 f2 f3
 rw [<- hll] at c1
 refine u1v c0 c1 e2 f2 (by simp) (by simp [hll]) h4 (fun i v u hv hu => ?_)
 rw [l2] at hv hu
 cases hr : K.ks[i]? with
 | none => rw [hr] at hv; cases hv
 | some r => (
 cases hr' : K.ws[i]? with
 | none => rw [hr'] at hu; cases hu
 | some r' => (
 rw [hr] at hv; rw [hr'] at hu
 cases hv; cases hu
 obtain ⟨g1, g2, g3, g4, ys, g5, g6, g7, g8, g9⟩ := hf.at_ i r r' hr hr'
 obtain ⟨a1, b1, q1, x1, y1⟩ := h.reads q2o (m3 r (l4 _ (l1 hr))) g2 g6 g8
 obtain ⟨a2, b2, q2, x2, y2⟩ := h.reads q2o (m3 r' (l3 _ (l1 hr'))) g4 g7 g9
 exact ⟨ys, a1, b1, q1, a2, b2, q2, x1, x2, y1, y2, by omega⟩))
theorem j3e (h : Rws w0 w (bkRows bb kds D)) (hj : kds[3]? = some (K.kd 57)) (hf : FlOk 4 1 encB K) :
    Calls prog 58 #[.pointer (some ⟨bb, 0, none⟩)] w fun e w' => e = .returned (.tuple #[]) /\ Rws w0 w' (bkRows bb (kds.set 3 ((KS.mk K.o K.p (mkAll mB encB K.ks) K.ws).kd 57)) D) := by
 refine (y2z (h.bkFront hj) (j0m hj).1 (fun r hr => hf.ks_at hr) hf.h4).mono ?_
 rintro e w' ⟨rfl, h2⟩
 refine ⟨rfl, h2.bkBack hj ?_⟩
 simp [KS.kd, k1k]
theorem mkdB (hf : FlOk 4 1 encB K) : ∀ (i : Nat) (r : Rw), (mkAll mB encB K.ks)[i]? = some r -> r.T = 4 /\ r.k = 1 /\ r.n <= 500000 /\ r.xs = (mkG mB i 0 r.n).flatMap encB := fun i r hr => by
  have hl := (l0.1 hr).1
  rw [k0w] at hl
  obtain ⟨x, hx⟩ := j0a hl
  rw [x0x hx] at hr
  cases hr
  obtain ⟨a, b, c⟩ := hf.ks_at (l1 hx)
  exact ⟨a, b, c, rfl⟩
theorem v2c (h : Rws w0 w (bkRows bb kds D)) (hj : kds[3]? = some (K.kd 57)) (hK : ∀ (i : Nat) (r : Rw), K.ks[i]? = some r -> r.T = 4 /\ r.k = 1 /\ r.n <= 500000 /\ r.xs = (mkG mB i 0 r.n).flatMap encB) (h4 : K.ks.length <= 400) :
    Calls prog 69 #[.pointer (some ⟨bb, 0, none⟩)] w fun e w' => ∃ (gv : Value) (gs : List Value) (G : List Rw), e = .returned gv /\ gs.length = K.ks.length /\ GrowOk 1 mB encB K.ks gs G K.ks.length /\
      Rws w0 w' (bkRows bb (kds.set 3 ⟨57, K.o, K.p, K.ks.map (·.v), K.ws.map (·.v), G ++ K.ws⟩) (⟨57, 1, gv, K.ks.length, gs⟩ :: D)) := by
 refine (q2z (h.bkFront hj) (j0m hj).1 hK h4).mono ?_
 rintro e w' ⟨gv, gs, G, rfl, h1, h2, h3⟩
 refine ⟨gv, gs, G, rfl, h1, h3, Rws.bkBack hj rfl (h2.perm ?_)⟩
 exact q0w ..
theorem y1e {ks : List Rw} {gs : List Value} {gv : Value} {G : List Rw} {n : Nat} (h : Rws w0 w L) (h1 : (⟨57, 1, gv, n, gs⟩ : Rw) ∈ L) (hn : ks.length = n) (h4 : n <= 400) (h2 : GrowOk 1 mB encB ks gs G n) (hG : ∀ r ∈ G, r ∈ L) (hK : ∀ (i : Nat) (r : Rw), ks[i]? = some r -> r.n <= 500000) :
    Calls prog 80 #[gv] w fun e w' => e = .returned (.bool true) /\ Below w.heap.size w w' := by
 obtain ⟨a, b, c, e1, e2, e3⟩ := h.outer h1
 rw [e1]
 refine v0o e2 e3 h4 (fun i v hv => ?_)
 have hi := (l0.1 hv).1
 obtain ⟨r, hr⟩ := j0a (xs := ks) (i := i) (by omega)
 obtain ⟨⟨v', g1, g2⟩, _⟩ := h2 i r (by omega) hr
 rw [hv] at g1
 cases g1
 obtain ⟨a1, c1, b1, x1, x2⟩ := h.pre hG q2o g2 (by rw [j0f])
 rw [j0f] at x1
 exact ⟨_, a1, b1, c1, x1, x2, by have := hK i r hr; omega⟩
theorem y1k {ks : List Rw} {gs : List Value} {o : Value} {G : List Rw} {n : Nat} (h : Rws w0 w L) (h1 : (⟨57, 1, o, n, ks.map (·.v)⟩ : Rw) ∈ L) (hn : ks.length = n) (h4 : n <= 400) (h2 : GrowOk 1 mB encB ks gs G n) (hG : ∀ r ∈ G, r ∈ L) (hK : ∀ (i : Nat) (r : Rw), ks[i]? = some r -> r.T = 4 /\ r.k = 1 /\ r.n <= 500000 /\ r.xs = (mkG mB i 0 r.n).flatMap encB) :
    Calls prog 80 #[o] w fun e w' => e = .returned (.bool true) /\ Below w.heap.size w w' := by
 obtain ⟨a, b, c, e1, e2, e3⟩ := h.outer h1
 rw [e1]
 refine v0o e2 e3 h4 (fun i v hv => ?_)
 rw [l2] at hv
 cases hr : ks[i]? with
 | none => rw [hr] at hv; cases hv
 | some r => (
 rw [hr] at hv
 cases hv
 have hi := (l0.1 hr).1
 obtain ⟨_, g2⟩ := h2 i r (by omega) hr
 obtain ⟨_, _, g3, g4⟩ := hK i r hr
 rw [g4] at g2
 obtain ⟨a1, c1, b1, x1, x2⟩ := h.pre hG q2o g2 (by rw [j0f])
 rw [j0f] at x1
 exact ⟨_, a1, b1, c1, x1, x2, by omega⟩)
theorem k2u (h : Rws w0 w (bkRows bb kds D)) (hj : kds[4]? = some (K.kd 113)) (hf : FlOk 115 2 encS K) :
    Calls prog 48 #[.pointer (some ⟨bb, 0, none⟩)] w fun e w' => e = .returned (.bool true) /\ ∃ m, w' = w.drewN m := by
 obtain ⟨m1, m2, m3⟩ := y0z (bb := bb) (D := D) hj
 obtain ⟨c0, c1⟩ := h.bkCell hj
 obtain ⟨a, b, c, e1, e2, e3⟩ := h.outer m1
 obtain ⟨a', b', c', f1, f2, f3⟩ := h.outer m2
 rw [e1] at c0; rw [f1] at c1
 have hll := hf.hl; have h4 := hf.h4
 simp only [KS.kd, l5] at c0 c1 e2 e3 f2 f3
 rw [<- hll] at c1
 refine u1r c0 c1 e2 f2 (by simp) (by simp [hll]) h4 (fun i v u hv hu => ?_)
 rw [l2] at hv hu
 cases hr : K.ks[i]? with
 | none => rw [hr] at hv; cases hv
 | some r => (
 cases hr' : K.ws[i]? with
 | none => rw [hr'] at hu; cases hu
 | some r' => (
 rw [hr] at hv; rw [hr'] at hu
 cases hv; cases hu
 obtain ⟨g1, g2, g3, g4, ys, g5, g6, g7, g8, g9⟩ := hf.at_ i r r' hr hr'
 obtain ⟨a1, b1, q1, x1, y1⟩ := h.reads k1p (m3 r (l4 _ (l1 hr))) g2 g6 g8
 obtain ⟨a2, b2, q2, x2, y2⟩ := h.reads k1p (m3 r' (l3 _ (l1 hr'))) g4 g7 g9
 exact ⟨ys, a1, b1, q1, a2, b2, q2, x1, x2, y1, y2, by omega⟩))
theorem j3a (h : Rws w0 w (bkRows bb kds D)) (hj : kds[4]? = some (K.kd 113)) (hf : FlOk 115 2 encS K) :
    Calls prog 59 #[.pointer (some ⟨bb, 0, none⟩)] w fun e w' => e = .returned (.tuple #[]) /\ Rws w0 w' (bkRows bb (kds.set 4 ((KS.mk K.o K.p (mkAll mS encS K.ks) K.ws).kd 113)) D) := by
 refine (y2v (h.bkFront hj) (j0m hj).1 (fun r hr => hf.ks_at hr) hf.h4).mono ?_
 rintro e w' ⟨rfl, h2⟩
 refine ⟨rfl, h2.bkBack hj ?_⟩
 simp [KS.kd, k1k]
theorem mkdS (hf : FlOk 115 2 encS K) : ∀ (i : Nat) (r : Rw), (mkAll mS encS K.ks)[i]? = some r -> r.T = 115 /\ r.k = 2 /\ r.n <= 500000 /\ r.xs = (mkG mS i 0 r.n).flatMap encS := fun i r hr => by
  have hl := (l0.1 hr).1
  rw [k0w] at hl
  obtain ⟨x, hx⟩ := j0a hl
  rw [x0x hx] at hr
  cases hr
  obtain ⟨a, b, c⟩ := hf.ks_at (l1 hx)
  exact ⟨a, b, c, rfl⟩
theorem z2y (h : Rws w0 w (bkRows bb kds D)) (hj : kds[4]? = some (K.kd 113)) (hK : ∀ (i : Nat) (r : Rw), K.ks[i]? = some r -> r.T = 115 /\ r.k = 2 /\ r.n <= 500000 /\ r.xs = (mkG mS i 0 r.n).flatMap encS) (h4 : K.ks.length <= 400) :
    Calls prog 70 #[.pointer (some ⟨bb, 0, none⟩)] w fun e w' => ∃ (gv : Value) (gs : List Value) (G : List Rw), e = .returned gv /\ gs.length = K.ks.length /\ GrowOk 2 mS encS K.ks gs G K.ks.length /\
      Rws w0 w' (bkRows bb (kds.set 4 ⟨113, K.o, K.p, K.ks.map (·.v), K.ws.map (·.v), G ++ K.ws⟩) (⟨113, 1, gv, K.ks.length, gs⟩ :: D)) := by
 refine (q2v (h.bkFront hj) (j0m hj).1 hK h4).mono ?_
 rintro e w' ⟨gv, gs, G, rfl, h1, h2, h3⟩
 refine ⟨gv, gs, G, rfl, h1, h3, Rws.bkBack hj rfl (h2.perm ?_)⟩
 exact q0w ..
theorem y1a {ks : List Rw} {gs : List Value} {gv : Value} {G : List Rw} {n : Nat} (h : Rws w0 w L) (h1 : (⟨113, 1, gv, n, gs⟩ : Rw) ∈ L) (hn : ks.length = n) (h4 : n <= 400) (h2 : GrowOk 2 mS encS ks gs G n) (hG : ∀ r ∈ G, r ∈ L) (hK : ∀ (i : Nat) (r : Rw), ks[i]? = some r -> r.n <= 500000) :
    Calls prog 81 #[gv] w fun e w' => e = .returned (.bool true) /\ Below w.heap.size w w' := by
 obtain ⟨a, b, c, e1, e2, e3⟩ := h.outer h1
 rw [e1]
 refine v0k e2 e3 h4 (fun i v hv => ?_)
 have hi := (l0.1 hv).1
 obtain ⟨r, hr⟩ := j0a (xs := ks) (i := i) (by omega)
 obtain ⟨⟨v', g1, g2⟩, _⟩ := h2 i r (by omega) hr
 rw [hv] at g1
 cases g1
 obtain ⟨a1, c1, b1, x1, x2⟩ := h.pre hG k1p g2 (by rw [j0f])
 rw [j0f] at x1
 exact ⟨_, a1, b1, c1, x1, x2, by have := hK i r hr; omega⟩
theorem y1g {ks : List Rw} {gs : List Value} {o : Value} {G : List Rw} {n : Nat} (h : Rws w0 w L) (h1 : (⟨113, 1, o, n, ks.map (·.v)⟩ : Rw) ∈ L) (hn : ks.length = n) (h4 : n <= 400) (h2 : GrowOk 2 mS encS ks gs G n) (hG : ∀ r ∈ G, r ∈ L) (hK : ∀ (i : Nat) (r : Rw), ks[i]? = some r -> r.T = 115 /\ r.k = 2 /\ r.n <= 500000 /\ r.xs = (mkG mS i 0 r.n).flatMap encS) :
    Calls prog 81 #[o] w fun e w' => e = .returned (.bool true) /\ Below w.heap.size w w' := by
 obtain ⟨a, b, c, e1, e2, e3⟩ := h.outer h1
 rw [e1]
 refine v0k e2 e3 h4 (fun i v hv => ?_)
 rw [l2] at hv
 cases hr : ks[i]? with
 | none => rw [hr] at hv; cases hv
 | some r => (
 rw [hr] at hv
 cases hv
 have hi := (l0.1 hr).1
 obtain ⟨_, g2⟩ := h2 i r (by omega) hr
 obtain ⟨_, _, g3, g4⟩ := hK i r hr
 rw [g4] at g2
 obtain ⟨a1, c1, b1, x1, x2⟩ := h.pre hG k1p g2 (by rw [j0f])
 rw [j0f] at x1
 exact ⟨_, a1, b1, c1, x1, x2, by omega⟩)
theorem k2x (h : Rws w0 w (bkRows bb kds D)) (hj : kds[5]? = some (K.kd 22)) (hf : FlOk 71 3 encE K) :
    Calls prog 49 #[.pointer (some ⟨bb, 0, none⟩)] w fun e w' => e = .returned (.bool true) /\ ∃ m, w' = w.drewN m := by
 obtain ⟨m1, m2, m3⟩ := y0z (bb := bb) (D := D) hj
 obtain ⟨c0, c1⟩ := h.bkCell hj
 obtain ⟨a, b, c, e1, e2, e3⟩ := h.outer m1
 obtain ⟨a', b', c', f1, f2, f3⟩ := h.outer m2
 rw [e1] at c0; rw [f1] at c1
 have hll := hf.hl; have h4 := hf.h4
 simp only [KS.kd, l5] at c0 c1 e2 e3 f2 f3
 rw [<- hll] at c1
 refine u1u c0 c1 e2 f2 (by simp) (by simp [hll]) h4 (fun i v u hv hu => ?_)
 rw [l2] at hv hu
 cases hr : K.ks[i]? with
 | none => rw [hr] at hv; cases hv
 | some r => (
 cases hr' : K.ws[i]? with
 | none => rw [hr'] at hu; cases hu
 | some r' => (
 rw [hr] at hv; rw [hr'] at hu
 cases hv; cases hu
 obtain ⟨g1, g2, g3, g4, ys, g5, g6, g7, g8, g9⟩ := hf.at_ i r r' hr hr'
 obtain ⟨a1, b1, q1, x1, y1⟩ := h.reads k0q (m3 r (l4 _ (l1 hr))) g2 g6 g8
 obtain ⟨a2, b2, q2, x2, y2⟩ := h.reads k0q (m3 r' (l3 _ (l1 hr'))) g4 g7 g9
 exact ⟨ys, a1, b1, q1, a2, b2, q2, x1, x2, y1, y2, by omega⟩))
theorem j3d (h : Rws w0 w (bkRows bb kds D)) (hj : kds[5]? = some (K.kd 22)) (hf : FlOk 71 3 encE K) :
    Calls prog 60 #[.pointer (some ⟨bb, 0, none⟩)] w fun e w' => e = .returned (.tuple #[]) /\ Rws w0 w' (bkRows bb (kds.set 5 ((KS.mk K.o K.p (mkAll mE encE K.ks) K.ws).kd 22)) D) := by
 refine (y2y (h.bkFront hj) (j0m hj).1 (fun r hr => hf.ks_at hr) hf.h4).mono ?_
 rintro e w' ⟨rfl, h2⟩
 refine ⟨rfl, h2.bkBack hj ?_⟩
 simp [KS.kd, k1k]
theorem mkdE (hf : FlOk 71 3 encE K) : ∀ (i : Nat) (r : Rw), (mkAll mE encE K.ks)[i]? = some r -> r.T = 71 /\ r.k = 3 /\ r.n <= 500000 /\ r.xs = (mkG mE i 0 r.n).flatMap encE := fun i r hr => by
  have hl := (l0.1 hr).1
  rw [k0w] at hl
  obtain ⟨x, hx⟩ := j0a hl
  rw [x0x hx] at hr
  cases hr
  obtain ⟨a, b, c⟩ := hf.ks_at (l1 hx)
  exact ⟨a, b, c, rfl⟩
theorem v2b (h : Rws w0 w (bkRows bb kds D)) (hj : kds[5]? = some (K.kd 22)) (hK : ∀ (i : Nat) (r : Rw), K.ks[i]? = some r -> r.T = 71 /\ r.k = 3 /\ r.n <= 500000 /\ r.xs = (mkG mE i 0 r.n).flatMap encE) (h4 : K.ks.length <= 400) :
    Calls prog 71 #[.pointer (some ⟨bb, 0, none⟩)] w fun e w' => ∃ (gv : Value) (gs : List Value) (G : List Rw), e = .returned gv /\ gs.length = K.ks.length /\ GrowOk 3 mE encE K.ks gs G K.ks.length /\
      Rws w0 w' (bkRows bb (kds.set 5 ⟨22, K.o, K.p, K.ks.map (·.v), K.ws.map (·.v), G ++ K.ws⟩) (⟨22, 1, gv, K.ks.length, gs⟩ :: D)) := by
 refine (q2y (h.bkFront hj) (j0m hj).1 hK h4).mono ?_
 rintro e w' ⟨gv, gs, G, rfl, h1, h2, h3⟩
 refine ⟨gv, gs, G, rfl, h1, h3, Rws.bkBack hj rfl (h2.perm ?_)⟩
 exact q0w ..
theorem y1d {ks : List Rw} {gs : List Value} {gv : Value} {G : List Rw} {n : Nat} (h : Rws w0 w L) (h1 : (⟨22, 1, gv, n, gs⟩ : Rw) ∈ L) (hn : ks.length = n) (h4 : n <= 400) (h2 : GrowOk 3 mE encE ks gs G n) (hG : ∀ r ∈ G, r ∈ L) (hK : ∀ (i : Nat) (r : Rw), ks[i]? = some r -> r.n <= 500000) :
    Calls prog 82 #[gv] w fun e w' => e = .returned (.bool true) /\ Below w.heap.size w w' := by
 obtain ⟨a, b, c, e1, e2, e3⟩ := h.outer h1
 rw [e1]
 refine v0n e2 e3 h4 (fun i v hv => ?_)
 have hi := (l0.1 hv).1
 obtain ⟨r, hr⟩ := j0a (xs := ks) (i := i) (by omega)
 obtain ⟨⟨v', g1, g2⟩, _⟩ := h2 i r (by omega) hr
 rw [hv] at g1
 cases g1
 obtain ⟨a1, c1, b1, x1, x2⟩ := h.pre hG k0q g2 (by rw [j0f])
 rw [j0f] at x1
 exact ⟨_, a1, b1, c1, x1, x2, by have := hK i r hr; omega⟩
theorem y1j {ks : List Rw} {gs : List Value} {o : Value} {G : List Rw} {n : Nat} (h : Rws w0 w L) (h1 : (⟨22, 1, o, n, ks.map (·.v)⟩ : Rw) ∈ L) (hn : ks.length = n) (h4 : n <= 400) (h2 : GrowOk 3 mE encE ks gs G n) (hG : ∀ r ∈ G, r ∈ L) (hK : ∀ (i : Nat) (r : Rw), ks[i]? = some r -> r.T = 71 /\ r.k = 3 /\ r.n <= 500000 /\ r.xs = (mkG mE i 0 r.n).flatMap encE) :
    Calls prog 82 #[o] w fun e w' => e = .returned (.bool true) /\ Below w.heap.size w w' := by
 obtain ⟨a, b, c, e1, e2, e3⟩ := h.outer h1
 rw [e1]
 refine v0n e2 e3 h4 (fun i v hv => ?_)
 rw [l2] at hv
 cases hr : ks[i]? with
 | none => rw [hr] at hv; cases hv
 | some r => (
 rw [hr] at hv
 cases hv
 have hi := (l0.1 hr).1
 obtain ⟨_, g2⟩ := h2 i r (by omega) hr
 obtain ⟨_, _, g3, g4⟩ := hK i r hr
 rw [g4] at g2
 obtain ⟨a1, c1, b1, x1, x2⟩ := h.pre hG k0q g2 (by rw [j0f])
 rw [j0f] at x1
 exact ⟨_, a1, b1, c1, x1, x2, by omega⟩)
theorem k2v {A : List Rw} (h : Rws w0 w (bkRows bb kds D)) (hj : kds[8]? = some (K.kd 34)) (hf : NeOk 3 50 1 encI A K) (hA : ∀ r ∈ A, r ∈ bkRows bb kds D) :
    Calls prog 52 #[.pointer (some ⟨bb, 0, none⟩)] w fun e w' => e = .returned (.bool true) /\ ∃ m, w' = w.drewN m := by
 obtain ⟨m1, m2, m3⟩ := y0z (bb := bb) (D := D) hj
 obtain ⟨c0, c1⟩ := h.bkCell hj
 obtain ⟨a, b, c, e1, e2, e3⟩ := h.outer m1
 obtain ⟨a', b', c', f1, f2, f3⟩ := h.outer m2
 rw [e1] at c0; rw [f1] at c1
 have hll := hf.hl; have h4 := hf.h4
 simp only [KS.kd, l5] at c0 c1 e2 e3 f2 f3
 rw [<- hll] at c1
 refine u1s c0 c1 e2 f2 (by simp) (by simp [hll]) h4 (fun i v u hv hu => ?_)
 rw [l2] at hv hu
 cases hr : K.ks[i]? with
 | none => rw [hr] at hv; cases hv
 | some r => (
 cases hr' : K.ws[i]? with
 | none => rw [hr'] at hu; cases hu
 | some r' => (
 rw [hr] at hv; rw [hr'] at hu
 cases hv; cases hu
 obtain ⟨g1, g2, g3, g4, g5, g6, g7, g8⟩ := hf.at_ i r r' hr hr'
 have hm1 := m3 r (l4 _ (l1 hr))
 have hl := (h.own r hm1).1
 rw [g2] at hl
 obtain ⟨a1, b1, q1, x1, y1⟩ := h.reads (enc := encV) (ys := r.xs) lenV hm1 g2 (by omega) (by rw [y0f])
 obtain ⟨a2, b2, q2, x2, y2⟩ := h.reads (enc := encV) (ys := r.xs) lenV (m3 r' (l3 _ (l1 hr'))) g4 (by omega) (by rw [y0f, g6])
 refine ⟨r.xs, a1, b1, q1, a2, b2, q2, x1, x2, y1, y2, by omega, fun j x hx => ?_⟩
 obtain ⟨q, z1, rfl, z3, z4, ys, z5, z6, z7⟩ := g8 x (l1 hx)
 obtain ⟨a3, b3, q3, x3, y3⟩ := h.reads p0v (hA q z1) z4 z6 z7
 exact ⟨ys, a3, b3, 0, q3, x3, y3, by omega⟩))
theorem j3b {A : List Rw} (h : Rws w0 w (bkRows bb kds D)) (hj : kds[8]? = some (K.kd 34)) (hf : NeOk 3 50 1 encI A K) :
    Calls prog 63 #[.pointer (some ⟨bb, 0, none⟩)] w fun e w' => ∃ (F : Nat -> List Value) (N : List Rw), e = .returned (.tuple #[]) /\ Rws w0 w' (bkRows bb (kds.set 8 ((KS.mk K.o K.p (mkFin F K.ks) K.ws).kd 34)) (N ++ D)) /\ ∀ (i : Nat) (r : Rw), (mkFin F K.ks)[i]? = some r -> r.T = 50 /\ r.k = 1 /\ r.n <= 500000 /\ r.xs.length = r.n /\ MkInR N i 0 r.xs := by
 refine (y2w (h.bkFront hj) (j0m hj).1 (fun r hr => hf.ks_at hr) hf.h4).mono ?_
 rintro e w' ⟨F, N, rfl, h2, h3⟩
 refine ⟨F, N, rfl, Rws.bkBack (K' := (KS.mk K.o K.p (mkFin F K.ks) K.ws).kd 34) (G := mkFin F K.ks) hj (by simp [KS.kd, q2j]) (h2.perm (k1c ..)), fun i r hr => ?_⟩
 have hl := (l0.1 hr).1
 rw [x0u] at hl
 obtain ⟨x, hx⟩ := j0a hl
 rw [q1q hx] at hr
 cases hr
 obtain ⟨a, b, c⟩ := hf.ks_at (l1 hx)
 exact ⟨a, b, c, (h3 i x hx).1, (h3 i x hx).2⟩
theorem z2z {M : List Rw} (h : Rws w0 w (bkRows bb kds D)) (hj : kds[8]? = some (K.kd 34)) (hK : ∀ (i : Nat) (r : Rw), K.ks[i]? = some r -> r.T = 50 /\ r.k = 1 /\ r.n <= 500000 /\ MkInR M i 0 r.xs) (h4 : K.ks.length <= 400) :
    Calls prog 74 #[.pointer (some ⟨bb, 0, none⟩)] w fun e w' => ∃ (gv : Value) (gs : List Value) (G N : List Rw), e = .returned gv /\ gs.length = K.ks.length /\ GrowOkR (M ++ N) K.ks gs G K.ks.length /\
      Rws w0 w' (bkRows bb (kds.set 8 ⟨34, K.o, K.p, K.ks.map (·.v), K.ws.map (·.v), G ++ K.ws⟩) (⟨34, 1, gv, K.ks.length, gs⟩ :: (N ++ D))) := by
 refine (q2w (h.bkFront hj) (j0m hj).1 hK h4).mono ?_
 rintro e w' ⟨gv, gs, G, N, rfl, h1, h2, h3⟩
 exact ⟨gv, gs, G, N, rfl, h1, h3, Rws.bkBack hj rfl (h2.perm (j1e ..))⟩
theorem y1b {ks M : List Rw} {gs : List Value} {gv : Value} {G : List Rw} {n : Nat} (h : Rws w0 w L) (h1 : (⟨34, 1, gv, n, gs⟩ : Rw) ∈ L) (hn : ks.length = n) (h4 : n <= 400) (h2 : GrowOkR M ks gs G n) (hG : ∀ r ∈ G, r ∈ L) (hM : ∀ r ∈ M, r ∈ L) (hK : ∀ (i : Nat) (r : Rw), ks[i]? = some r -> r.n <= 500000) :
    Calls prog 85 #[gv] w fun e w' => e = .returned (.bool true) /\ Below w.heap.size w w' := by
 obtain ⟨a, b, c, e1, e2, e3⟩ := h.outer h1
 rw [e1]
 refine v0l e2 e3 h4 (fun i v hv => ?_)
 have hi := (l0.1 hv).1
 obtain ⟨r, hr⟩ := j0a (xs := ks) (i := i) (by omega)
 obtain ⟨⟨v', cs, g1, g0, g2, g3⟩, _⟩ := h2 i r (by omega) hr
 rw [hv] at g1
 cases g1
 rw [<- y0f cs] at g2
 obtain ⟨a1, c1, b1, x1, x2⟩ := h.pre hG lenV g2 g0.symm
 rw [g0] at x1
 exact ⟨_, a1, b1, c1, cs, x1, x2, g0, by have := hK i r hr; omega, fun j x hx => by have := g3.rd h hM hx; rwa [l6] at this⟩
theorem y1h {ks M : List Rw} {gs : List Value} {o : Value} {G : List Rw} {n : Nat} (h : Rws w0 w L) (h1 : (⟨34, 1, o, n, ks.map (·.v)⟩ : Rw) ∈ L) (hn : ks.length = n) (h4 : n <= 400) (h2 : GrowOkR M ks gs G n) (hG : ∀ r ∈ G, r ∈ L) (hM : ∀ r ∈ M, r ∈ L) (hK : ∀ (i : Nat) (r : Rw), ks[i]? = some r -> r.T = 50 /\ r.k = 1 /\ r.n <= 500000 /\ r.xs.length = r.n /\ MkInR M i 0 r.xs) :
    Calls prog 85 #[o] w fun e w' => e = .returned (.bool true) /\ Below w.heap.size w w' := by
 obtain ⟨a, b, c, e1, e2, e3⟩ := h.outer h1
 rw [e1]
 refine v0l e2 e3 h4 (fun i v hv => ?_)
 rw [l2] at hv
 cases hr : ks[i]? with
 | none => rw [hr] at hv; cases hv
 | some r => (
 rw [hr] at hv
 cases hv
 have hi := (l0.1 hr).1
 obtain ⟨_, g2⟩ := h2 i r (by omega) hr
 obtain ⟨_, _, g3, g0, g4⟩ := hK i r hr
 rw [<- y0f r.xs] at g2
 obtain ⟨a1, c1, b1, x1, x2⟩ := h.pre hG lenV g2 g0.symm
 rw [g0] at x1
 exact ⟨_, a1, b1, c1, r.xs, x1, x2, g0, by omega, fun j x hx => by have := g4.rd h hM hx; rwa [l6] at this⟩)
theorem k2t {A : List Rw} (h : Rws w0 w (bkRows bb kds D)) (hj : kds[10]? = some (K.kd 37)) (hf : NeOk 115 113 2 encS A K) (hA : ∀ r ∈ A, r ∈ bkRows bb kds D) :
    Calls prog 54 #[.pointer (some ⟨bb, 0, none⟩)] w fun e w' => e = .returned (.bool true) /\ ∃ m, w' = w.drewN m := by
 obtain ⟨m1, m2, m3⟩ := y0z (bb := bb) (D := D) hj
 obtain ⟨c0, c1⟩ := h.bkCell hj
 obtain ⟨a, b, c, e1, e2, e3⟩ := h.outer m1
 obtain ⟨a', b', c', f1, f2, f3⟩ := h.outer m2
 rw [e1] at c0; rw [f1] at c1
 have hll := hf.hl; have h4 := hf.h4
 simp only [KS.kd, l5] at c0 c1 e2 e3 f2 f3
 rw [<- hll] at c1
 refine u1q c0 c1 e2 f2 (by simp) (by simp [hll]) h4 (fun i v u hv hu => ?_)
 rw [l2] at hv hu
 cases hr : K.ks[i]? with
 | none => rw [hr] at hv; cases hv
 | some r => (
 cases hr' : K.ws[i]? with
 | none => rw [hr'] at hu; cases hu
 | some r' => (
 rw [hr] at hv; rw [hr'] at hu
 cases hv; cases hu
 obtain ⟨g1, g2, g3, g4, g5, g6, g7, g8⟩ := hf.at_ i r r' hr hr'
 have hm1 := m3 r (l4 _ (l1 hr))
 have hl := (h.own r hm1).1
 rw [g2] at hl
 obtain ⟨a1, b1, q1, x1, y1⟩ := h.reads (enc := encV) (ys := r.xs) lenV hm1 g2 (by omega) (by rw [y0f])
 obtain ⟨a2, b2, q2, x2, y2⟩ := h.reads (enc := encV) (ys := r.xs) lenV (m3 r' (l3 _ (l1 hr'))) g4 (by omega) (by rw [y0f, g6])
 refine ⟨r.xs, a1, b1, q1, a2, b2, q2, x1, x2, y1, y2, by omega, fun j x hx => ?_⟩
 obtain ⟨q, z1, rfl, z3, z4, ys, z5, z6, z7⟩ := g8 x (l1 hx)
 obtain ⟨a3, b3, q3, x3, y3⟩ := h.reads k1p (hA q z1) z4 z6 z7
 exact ⟨ys, a3, b3, 0, q3, x3, y3, by omega⟩))
theorem u2z {A : List Rw} (h : Rws w0 w (bkRows bb kds D)) (hj : kds[10]? = some (K.kd 37)) (hf : NeOk 115 113 2 encS A K) :
    Calls prog 65 #[.pointer (some ⟨bb, 0, none⟩)] w fun e w' => ∃ (F : Nat -> List Value) (N : List Rw), e = .returned (.tuple #[]) /\ Rws w0 w' (bkRows bb (kds.set 10 ((KS.mk K.o K.p (mkFin F K.ks) K.ws).kd 37)) (N ++ D)) /\ ∀ (i : Nat) (r : Rw), (mkFin F K.ks)[i]? = some r -> r.T = 113 /\ r.k = 1 /\ r.n <= 500000 /\ r.xs.length = r.n /\ MkInW N i 0 r.xs := by
 refine (y2u (h.bkFront hj) (j0m hj).1 (fun r hr => hf.ks_at hr) hf.h4).mono ?_
 rintro e w' ⟨F, N, rfl, h2, h3⟩
 refine ⟨F, N, rfl, Rws.bkBack (K' := (KS.mk K.o K.p (mkFin F K.ks) K.ws).kd 37) (G := mkFin F K.ks) hj (by simp [KS.kd, q2j]) (h2.perm (k1c ..)), fun i r hr => ?_⟩
 have hl := (l0.1 hr).1
 rw [x0u] at hl
 obtain ⟨x, hx⟩ := j0a hl
 rw [q1q hx] at hr
 cases hr
 obtain ⟨a, b, c⟩ := hf.ks_at (l1 hx)
 exact ⟨a, b, c, (h3 i x hx).1, (h3 i x hx).2⟩
theorem z2x {M : List Rw} (h : Rws w0 w (bkRows bb kds D)) (hj : kds[10]? = some (K.kd 37)) (hK : ∀ (i : Nat) (r : Rw), K.ks[i]? = some r -> r.T = 113 /\ r.k = 1 /\ r.n <= 500000 /\ MkInW M i 0 r.xs) (h4 : K.ks.length <= 400) :
    Calls prog 76 #[.pointer (some ⟨bb, 0, none⟩)] w fun e w' => ∃ (gv : Value) (gs : List Value) (G N : List Rw), e = .returned gv /\ gs.length = K.ks.length /\ GrowOkW (M ++ N) K.ks gs G K.ks.length /\
      Rws w0 w' (bkRows bb (kds.set 10 ⟨37, K.o, K.p, K.ks.map (·.v), K.ws.map (·.v), G ++ K.ws⟩) (⟨37, 1, gv, K.ks.length, gs⟩ :: (N ++ D))) := by
 refine (q2u (h.bkFront hj) (j0m hj).1 hK h4).mono ?_
 rintro e w' ⟨gv, gs, G, N, rfl, h1, h2, h3⟩
 exact ⟨gv, gs, G, N, rfl, h1, h3, Rws.bkBack hj rfl (h2.perm (j1e ..))⟩
theorem x1z {ks M : List Rw} {gs : List Value} {gv : Value} {G : List Rw} {n : Nat} (h : Rws w0 w L) (h1 : (⟨37, 1, gv, n, gs⟩ : Rw) ∈ L) (hn : ks.length = n) (h4 : n <= 400) (h2 : GrowOkW M ks gs G n) (hG : ∀ r ∈ G, r ∈ L) (hM : ∀ r ∈ M, r ∈ L) (hK : ∀ (i : Nat) (r : Rw), ks[i]? = some r -> r.n <= 500000) :
    Calls prog 87 #[gv] w fun e w' => e = .returned (.bool true) /\ Below w.heap.size w w' := by
 obtain ⟨a, b, c, e1, e2, e3⟩ := h.outer h1
 rw [e1]
 refine v0j e2 e3 h4 (fun i v hv => ?_)
 have hi := (l0.1 hv).1
 obtain ⟨r, hr⟩ := j0a (xs := ks) (i := i) (by omega)
 obtain ⟨⟨v', cs, g1, g0, g2, g3⟩, _⟩ := h2 i r (by omega) hr
 rw [hv] at g1
 cases g1
 rw [<- y0f cs] at g2
 obtain ⟨a1, c1, b1, x1, x2⟩ := h.pre hG lenV g2 g0.symm
 rw [g0] at x1
 exact ⟨_, a1, b1, c1, cs, x1, x2, g0, by have := hK i r hr; omega, fun j x hx => by have := g3.rd h hM hx; rwa [l6] at this⟩
theorem y1f {ks M : List Rw} {gs : List Value} {o : Value} {G : List Rw} {n : Nat} (h : Rws w0 w L) (h1 : (⟨37, 1, o, n, ks.map (·.v)⟩ : Rw) ∈ L) (hn : ks.length = n) (h4 : n <= 400) (h2 : GrowOkW M ks gs G n) (hG : ∀ r ∈ G, r ∈ L) (hM : ∀ r ∈ M, r ∈ L) (hK : ∀ (i : Nat) (r : Rw), ks[i]? = some r -> r.T = 113 /\ r.k = 1 /\ r.n <= 500000 /\ r.xs.length = r.n /\ MkInW M i 0 r.xs) :
    Calls prog 87 #[o] w fun e w' => e = .returned (.bool true) /\ Below w.heap.size w w' := by
 obtain ⟨a, b, c, e1, e2, e3⟩ := h.outer h1
 rw [e1]
 refine v0j e2 e3 h4 (fun i v hv => ?_)
 rw [l2] at hv
 cases hr : ks[i]? with
 | none => rw [hr] at hv; cases hv
 | some r => (
 rw [hr] at hv
 cases hv
 have hi := (l0.1 hr).1
 obtain ⟨_, g2⟩ := h2 i r (by omega) hr
 obtain ⟨_, _, g3, g0, g4⟩ := hK i r hr
 rw [<- y0f r.xs] at g2
 obtain ⟨a1, c1, b1, x1, x2⟩ := h.pre hG lenV g2 g0.symm
 rw [g0] at x1
 exact ⟨_, a1, b1, c1, r.xs, x1, x2, g0, by omega, fun j x hx => by have := g4.rd h hM hx; rwa [l6] at this⟩)
end
end Go.Proofs.YtbaccmlfnbgehaaGreatDoor

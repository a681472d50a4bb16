/-
  Lemmas.
-/
import Derived.Test.YtgikimbafakmcaaGreatDoorGBkB
import Derived.Test.YtgikimbafakmcaaGreatDoorGBkEp
import Derived.Test.YtgikimbafakmcaaGreatDoorGBkBop
import Derived.Test.YtgikimbafakmcaaGreatDoorGBkBo
import Derived.Test.YtgikimbafakmcaaGreatDoorGBkSg
import Derived.Test.YtgikimbafakmcaaGreatDoorGBkRg
import Derived.Test.YtgikimbafakmcaaGreatDoorGBkWg
import Derived.Test.YtgikimbafakmcaaGreatDoorGBkN
namespace Go.Proofs.YtgikimbafakmcaaGreatDoor
open Go.RowKit Pl
section
variable {w0 w : World} {kds : List Kd} {bb : Nat} {D L : List Rw} {K : KS}
theorem stillI_bk (h : Rws w0 w (bkRows bb kds D)) (hj : kds[0]? = some (K.kd 58)) (hf : FlOk 3 1 encI K) :
    Calls Tryz.prog 25 #[.pointer (some ⟨bb, 0, none⟩)] w fun e w' => e = .returned (.bool true) /\ ∃ m, w' = w.drewN m := by
 obtain ⟨m1, m2, m3⟩ := mem_bk (bb := bb) (D := D) hj
 obtain ⟨c0, c1⟩ := h.bkCell hj
 obtain ⟨a, b, c, e1, e2, e3⟩ := h.outer m1
 obtain ⟨a', b', c', f1, f2, f3⟩ := h.outer m2
 rw [e1] at c0; rw [f1] at c1
 have hll := hf.hl; have h4 := hf.h4
 simp only [KS.kd, List.length_map] at c0 c1 e2 e3 f2 f3
 rw [<- hll] at c1
 refine stillI_any c0 c1 e2 f2 (by simp) (by simp [hll]) h4 (fun i v u hv hu => ?_)
 rw [List.getElem?_map] at hv hu
 cases hr : K.ks[i]? with
 | none => rw [hr] at hv; cases hv
 | some r => (
 cases hr' : K.ws[i]? with
 | none => rw [hr'] at hu; cases hu
 | some r' => (
 rw [hr] at hv; rw [hr'] at hu
 cases hv; cases hu
 obtain ⟨g1, g2, g3, g4, ys, g5, g6, g7, g8, g9⟩ := hf.at_ i r r' hr hr'
 obtain ⟨a1, b1, q1, x1, y1⟩ := h.reads lenI (m3 r (List.mem_append_left _ (List.mem_of_getElem? hr))) g2 g6 g8
 obtain ⟨a2, b2, q2, x2, y2⟩ := h.reads lenI (m3 r' (List.mem_append_right _ (List.mem_of_getElem? hr'))) g4 g7 g9
 exact ⟨ys, a1, b1, q1, a2, b2, q2, x1, x2, y1, y2, by omega⟩))
theorem putI_bk (h : Rws w0 w (bkRows bb kds D)) (hj : kds[0]? = some (K.kd 58)) (hf : FlOk 3 1 encI K) :
    Calls Tryz.prog 36 #[.pointer (some ⟨bb, 0, none⟩)] w fun e w' => e = .returned (.tuple #[]) /\ Rws w0 w' (bkRows bb (kds.set 0 ((KS.mk K.o K.p (mkAll mI encI K.ks) K.ws).kd 58)) D) := by
 refine (putI_any (h.bkFront hj) (bkCells_at hj).1 (fun r hr => hf.ks_at hr) hf.h4).mono ?_
 rintro e w' ⟨rfl, h2⟩
 refine ⟨rfl, h2.bkBack hj ?_⟩
 simp [KS.kd, mkAll_v]
theorem mkdI (hf : FlOk 3 1 encI K) : ∀ (i : Nat) (r : Rw), (mkAll mI encI K.ks)[i]? = some r -> r.T = 3 /\ r.k = 1 /\ r.n <= 500000 /\ r.xs = (mkG mI i 0 r.n).flatMap encI := fun i r hr => by
  have hl := (List.getElem?_eq_some_iff.1 hr).1
  rw [mkAll_len] at hl
  obtain ⟨x, hx⟩ := getElem?_of_lt hl
  rw [mkAll_get hx] at hr
  cases hr
  obtain ⟨a, b, c⟩ := hf.ks_at (List.mem_of_getElem? hx)
  exact ⟨a, b, c, rfl⟩
theorem growI_bk (h : Rws w0 w (bkRows bb kds D)) (hj : kds[0]? = some (K.kd 58)) (hK : ∀ (i : Nat) (r : Rw), K.ks[i]? = some r -> r.T = 3 /\ r.k = 1 /\ r.n <= 500000 /\ r.xs = (mkG mI i 0 r.n).flatMap encI) (h4 : K.ks.length <= 400) :
    Calls Tryz.prog 47 #[.pointer (some ⟨bb, 0, none⟩)] w fun e w' => ∃ (gv : Value) (gs : List Value) (G : List Rw), e = .returned gv /\ gs.length = K.ks.length /\ GrowOk 1 mI encI K.ks gs G K.ks.length /\
      Rws w0 w' (bkRows bb (kds.set 0 ⟨58, K.o, K.p, K.ks.map (·.v), K.ws.map (·.v), G ++ K.ws⟩) (⟨58, 1, gv, K.ks.length, gs⟩ :: D)) := by
 refine (growI_any (h.bkFront hj) (bkCells_at hj).1 hK h4).mono ?_
 rintro e w' ⟨gv, gs, G, rfl, h1, h2, h3⟩
 refine ⟨gv, gs, G, rfl, h1, h3, Rws.bkBack hj rfl (h2.perm ?_)⟩
 exact grow_perm ..
theorem markedGI_bk {ks : List Rw} {gs : List Value} {gv : Value} {G : List Rw} {n : Nat} (h : Rws w0 w L) (h1 : (⟨58, 1, gv, n, gs⟩ : Rw) ∈ L) (hn : ks.length = n) (h4 : n <= 400) (h2 : GrowOk 1 mI encI ks gs G n) (hG : ∀ r ∈ G, r ∈ L) (hK : ∀ (i : Nat) (r : Rw), ks[i]? = some r -> r.n <= 500000) :
    Calls Tryz.prog 58 #[gv] w fun e w' => e = .returned (.bool true) /\ Below w.heap.size w w' := by
 obtain ⟨a, b, c, e1, e2, e3⟩ := h.outer h1
 rw [e1]
 refine markedI_any e2 e3 h4 (fun i v hv => ?_)
 have hi := (List.getElem?_eq_some_iff.1 hv).1
 obtain ⟨r, hr⟩ := getElem?_of_lt (xs := ks) (i := i) (by omega)
 obtain ⟨⟨v', g1, g2⟩, _⟩ := h2 i r (by omega) hr
 rw [hv] at g1
 cases g1
 obtain ⟨a1, c1, b1, x1, x2⟩ := h.pre hG lenI g2 (by rw [mkG_len])
 rw [mkG_len] at x1
 exact ⟨_, a1, b1, c1, x1, x2, by have := hK i r hr; omega⟩
theorem markedBI_bk {ks : List Rw} {gs : List Value} {o : Value} {G : List Rw} {n : Nat} (h : Rws w0 w L) (h1 : (⟨58, 1, o, n, ks.map (·.v)⟩ : Rw) ∈ L) (hn : ks.length = n) (h4 : n <= 400) (h2 : GrowOk 1 mI encI ks gs G n) (hG : ∀ r ∈ G, r ∈ L) (hK : ∀ (i : Nat) (r : Rw), ks[i]? = some r -> r.T = 3 /\ r.k = 1 /\ r.n <= 500000 /\ r.xs = (mkG mI i 0 r.n).flatMap encI) :
    Calls Tryz.prog 58 #[o] w fun e w' => e = .returned (.bool true) /\ Below w.heap.size w w' := by
 obtain ⟨a, b, c, e1, e2, e3⟩ := h.outer h1
 rw [e1]
 refine markedI_any e2 e3 h4 (fun i v hv => ?_)
 rw [List.getElem?_map] at hv
 cases hr : ks[i]? with
 | none => rw [hr] at hv; cases hv
 | some r => (
 rw [hr] at hv
 cases hv
 have hi := (List.getElem?_eq_some_iff.1 hr).1
 obtain ⟨_, g2⟩ := h2 i r (by omega) hr
 obtain ⟨_, _, g3, g4⟩ := hK i r hr
 rw [g4] at g2
 obtain ⟨a1, c1, b1, x1, x2⟩ := h.pre hG lenI g2 (by rw [mkG_len])
 rw [mkG_len] at x1
 exact ⟨_, a1, b1, c1, x1, x2, by omega⟩)
theorem stillB_bk (h : Rws w0 w (bkRows bb kds D)) (hj : kds[3]? = some (K.kd 111)) (hf : FlOk 4 1 encB K) :
    Calls Tryz.prog 28 #[.pointer (some ⟨bb, 0, none⟩)] w fun e w' => e = .returned (.bool true) /\ ∃ m, w' = w.drewN m := by
 obtain ⟨m1, m2, m3⟩ := mem_bk (bb := bb) (D := D) hj
 obtain ⟨c0, c1⟩ := h.bkCell hj
 obtain ⟨a, b, c, e1, e2, e3⟩ := h.outer m1
 obtain ⟨a', b', c', f1, f2, f3⟩ := h.outer m2
 rw [e1] at c0; rw [f1] at c1
 have hll := hf.hl; have h4 := hf.h4
 simp only [KS.kd, List.length_map] at c0 c1 e2 e3 f2 f3
 rw [<- hll] at c1
 refine stillB_any c0 c1 e2 f2 (by simp) (by simp [hll]) h4 (fun i v u hv hu => ?_)
 rw [List.getElem?_map] at hv hu
 cases hr : K.ks[i]? with
 | none => rw [hr] at hv; cases hv
 | some r => (
 cases hr' : K.ws[i]? with
 | none => rw [hr'] at hu; cases hu
 | some r' => (
 rw [hr] at hv; rw [hr'] at hu
 cases hv; cases hu
 obtain ⟨g1, g2, g3, g4, ys, g5, g6, g7, g8, g9⟩ := hf.at_ i r r' hr hr'
 obtain ⟨a1, b1, q1, x1, y1⟩ := h.reads lenB (m3 r (List.mem_append_left _ (List.mem_of_getElem? hr))) g2 g6 g8
 obtain ⟨a2, b2, q2, x2, y2⟩ := h.reads lenB (m3 r' (List.mem_append_right _ (List.mem_of_getElem? hr'))) g4 g7 g9
 exact ⟨ys, a1, b1, q1, a2, b2, q2, x1, x2, y1, y2, by omega⟩))
theorem putB_bk (h : Rws w0 w (bkRows bb kds D)) (hj : kds[3]? = some (K.kd 111)) (hf : FlOk 4 1 encB K) :
    Calls Tryz.prog 39 #[.pointer (some ⟨bb, 0, none⟩)] w fun e w' => e = .returned (.tuple #[]) /\ Rws w0 w' (bkRows bb (kds.set 3 ((KS.mk K.o K.p (mkAll mB encB K.ks) K.ws).kd 111)) D) := by
 refine (putB_any (h.bkFront hj) (bkCells_at hj).1 (fun r hr => hf.ks_at hr) hf.h4).mono ?_
 rintro e w' ⟨rfl, h2⟩
 refine ⟨rfl, h2.bkBack hj ?_⟩
 simp [KS.kd, mkAll_v]
theorem mkdB (hf : FlOk 4 1 encB K) : ∀ (i : Nat) (r : Rw), (mkAll mB encB K.ks)[i]? = some r -> r.T = 4 /\ r.k = 1 /\ r.n <= 500000 /\ r.xs = (mkG mB i 0 r.n).flatMap encB := fun i r hr => by
  have hl := (List.getElem?_eq_some_iff.1 hr).1
  rw [mkAll_len] at hl
  obtain ⟨x, hx⟩ := getElem?_of_lt hl
  rw [mkAll_get hx] at hr
  cases hr
  obtain ⟨a, b, c⟩ := hf.ks_at (List.mem_of_getElem? hx)
  exact ⟨a, b, c, rfl⟩
theorem growB_bk (h : Rws w0 w (bkRows bb kds D)) (hj : kds[3]? = some (K.kd 111)) (hK : ∀ (i : Nat) (r : Rw), K.ks[i]? = some r -> r.T = 4 /\ r.k = 1 /\ r.n <= 500000 /\ r.xs = (mkG mB i 0 r.n).flatMap encB) (h4 : K.ks.length <= 400) :
    Calls Tryz.prog 50 #[.pointer (some ⟨bb, 0, none⟩)] w fun e w' => ∃ (gv : Value) (gs : List Value) (G : List Rw), e = .returned gv /\ gs.length = K.ks.length /\ GrowOk 1 mB encB K.ks gs G K.ks.length /\
      Rws w0 w' (bkRows bb (kds.set 3 ⟨111, K.o, K.p, K.ks.map (·.v), K.ws.map (·.v), G ++ K.ws⟩) (⟨111, 1, gv, K.ks.length, gs⟩ :: D)) := by
 refine (growB_any (h.bkFront hj) (bkCells_at hj).1 hK h4).mono ?_
 rintro e w' ⟨gv, gs, G, rfl, h1, h2, h3⟩
 refine ⟨gv, gs, G, rfl, h1, h3, Rws.bkBack hj rfl (h2.perm ?_)⟩
 exact grow_perm ..
theorem markedGB_bk {ks : List Rw} {gs : List Value} {gv : Value} {G : List Rw} {n : Nat} (h : Rws w0 w L) (h1 : (⟨111, 1, gv, n, gs⟩ : Rw) ∈ L) (hn : ks.length = n) (h4 : n <= 400) (h2 : GrowOk 1 mB encB ks gs G n) (hG : ∀ r ∈ G, r ∈ L) (hK : ∀ (i : Nat) (r : Rw), ks[i]? = some r -> r.n <= 500000) :
    Calls Tryz.prog 61 #[gv] w fun e w' => e = .returned (.bool true) /\ Below w.heap.size w w' := by
 obtain ⟨a, b, c, e1, e2, e3⟩ := h.outer h1
 rw [e1]
 refine markedB_any e2 e3 h4 (fun i v hv => ?_)
 have hi := (List.getElem?_eq_some_iff.1 hv).1
 obtain ⟨r, hr⟩ := getElem?_of_lt (xs := ks) (i := i) (by omega)
 obtain ⟨⟨v', g1, g2⟩, _⟩ := h2 i r (by omega) hr
 rw [hv] at g1
 cases g1
 obtain ⟨a1, c1, b1, x1, x2⟩ := h.pre hG lenB g2 (by rw [mkG_len])
 rw [mkG_len] at x1
 exact ⟨_, a1, b1, c1, x1, x2, by have := hK i r hr; omega⟩
theorem markedBB_bk {ks : List Rw} {gs : List Value} {o : Value} {G : List Rw} {n : Nat} (h : Rws w0 w L) (h1 : (⟨111, 1, o, n, ks.map (·.v)⟩ : Rw) ∈ L) (hn : ks.length = n) (h4 : n <= 400) (h2 : GrowOk 1 mB encB ks gs G n) (hG : ∀ r ∈ G, r ∈ L) (hK : ∀ (i : Nat) (r : Rw), ks[i]? = some r -> r.T = 4 /\ r.k = 1 /\ r.n <= 500000 /\ r.xs = (mkG mB i 0 r.n).flatMap encB) :
    Calls Tryz.prog 61 #[o] w fun e w' => e = .returned (.bool true) /\ Below w.heap.size w w' := by
 obtain ⟨a, b, c, e1, e2, e3⟩ := h.outer h1
 rw [e1]
 refine markedB_any e2 e3 h4 (fun i v hv => ?_)
 rw [List.getElem?_map] at hv
 cases hr : ks[i]? with
 | none => rw [hr] at hv; cases hv
 | some r => (
 rw [hr] at hv
 cases hv
 have hi := (List.getElem?_eq_some_iff.1 hr).1
 obtain ⟨_, g2⟩ := h2 i r (by omega) hr
 obtain ⟨_, _, g3, g4⟩ := hK i r hr
 rw [g4] at g2
 obtain ⟨a1, c1, b1, x1, x2⟩ := h.pre hG lenB g2 (by rw [mkG_len])
 rw [mkG_len] at x1
 exact ⟨_, a1, b1, c1, x1, x2, by omega⟩)
theorem stillS_bk (h : Rws w0 w (bkRows bb kds D)) (hj : kds[4]? = some (K.kd 113)) (hf : FlOk 129 2 encS K) :
    Calls Tryz.prog 29 #[.pointer (some ⟨bb, 0, none⟩)] w fun e w' => e = .returned (.bool true) /\ ∃ m, w' = w.drewN m := by
 obtain ⟨m1, m2, m3⟩ := mem_bk (bb := bb) (D := D) hj
 obtain ⟨c0, c1⟩ := h.bkCell hj
 obtain ⟨a, b, c, e1, e2, e3⟩ := h.outer m1
 obtain ⟨a', b', c', f1, f2, f3⟩ := h.outer m2
 rw [e1] at c0; rw [f1] at c1
 have hll := hf.hl; have h4 := hf.h4
 simp only [KS.kd, List.length_map] at c0 c1 e2 e3 f2 f3
 rw [<- hll] at c1
 refine stillS_any c0 c1 e2 f2 (by simp) (by simp [hll]) h4 (fun i v u hv hu => ?_)
 rw [List.getElem?_map] at hv hu
 cases hr : K.ks[i]? with
 | none => rw [hr] at hv; cases hv
 | some r => (
 cases hr' : K.ws[i]? with
 | none => rw [hr'] at hu; cases hu
 | some r' => (
 rw [hr] at hv; rw [hr'] at hu
 cases hv; cases hu
 obtain ⟨g1, g2, g3, g4, ys, g5, g6, g7, g8, g9⟩ := hf.at_ i r r' hr hr'
 obtain ⟨a1, b1, q1, x1, y1⟩ := h.reads lenS (m3 r (List.mem_append_left _ (List.mem_of_getElem? hr))) g2 g6 g8
 obtain ⟨a2, b2, q2, x2, y2⟩ := h.reads lenS (m3 r' (List.mem_append_right _ (List.mem_of_getElem? hr'))) g4 g7 g9
 exact ⟨ys, a1, b1, q1, a2, b2, q2, x1, x2, y1, y2, by omega⟩))
theorem putS_bk (h : Rws w0 w (bkRows bb kds D)) (hj : kds[4]? = some (K.kd 113)) (hf : FlOk 129 2 encS K) :
    Calls Tryz.prog 40 #[.pointer (some ⟨bb, 0, none⟩)] w fun e w' => e = .returned (.tuple #[]) /\ Rws w0 w' (bkRows bb (kds.set 4 ((KS.mk K.o K.p (mkAll mS encS K.ks) K.ws).kd 113)) D) := by
 refine (putS_any (h.bkFront hj) (bkCells_at hj).1 (fun r hr => hf.ks_at hr) hf.h4).mono ?_
 rintro e w' ⟨rfl, h2⟩
 refine ⟨rfl, h2.bkBack hj ?_⟩
 simp [KS.kd, mkAll_v]
theorem mkdS (hf : FlOk 129 2 encS K) : ∀ (i : Nat) (r : Rw), (mkAll mS encS K.ks)[i]? = some r -> r.T = 129 /\ r.k = 2 /\ r.n <= 500000 /\ r.xs = (mkG mS i 0 r.n).flatMap encS := fun i r hr => by
  have hl := (List.getElem?_eq_some_iff.1 hr).1
  rw [mkAll_len] at hl
  obtain ⟨x, hx⟩ := getElem?_of_lt hl
  rw [mkAll_get hx] at hr
  cases hr
  obtain ⟨a, b, c⟩ := hf.ks_at (List.mem_of_getElem? hx)
  exact ⟨a, b, c, rfl⟩
theorem growS_bk (h : Rws w0 w (bkRows bb kds D)) (hj : kds[4]? = some (K.kd 113)) (hK : ∀ (i : Nat) (r : Rw), K.ks[i]? = some r -> r.T = 129 /\ r.k = 2 /\ r.n <= 500000 /\ r.xs = (mkG mS i 0 r.n).flatMap encS) (h4 : K.ks.length <= 400) :
    Calls Tryz.prog 51 #[.pointer (some ⟨bb, 0, none⟩)] w fun e w' => ∃ (gv : Value) (gs : List Value) (G : List Rw), e = .returned gv /\ gs.length = K.ks.length /\ GrowOk 2 mS encS K.ks gs G K.ks.length /\
      Rws w0 w' (bkRows bb (kds.set 4 ⟨113, K.o, K.p, K.ks.map (·.v), K.ws.map (·.v), G ++ K.ws⟩) (⟨113, 1, gv, K.ks.length, gs⟩ :: D)) := by
 refine (growS_any (h.bkFront hj) (bkCells_at hj).1 hK h4).mono ?_
 rintro e w' ⟨gv, gs, G, rfl, h1, h2, h3⟩
 refine ⟨gv, gs, G, rfl, h1, h3, Rws.bkBack hj rfl (h2.perm ?_)⟩
 exact grow_perm ..
theorem markedGS_bk {ks : List Rw} {gs : List Value} {gv : Value} {G : List Rw} {n : Nat} (h : Rws w0 w L) (h1 : (⟨113, 1, gv, n, gs⟩ : Rw) ∈ L) (hn : ks.length = n) (h4 : n <= 400) (h2 : GrowOk 2 mS encS ks gs G n) (hG : ∀ r ∈ G, r ∈ L) (hK : ∀ (i : Nat) (r : Rw), ks[i]? = some r -> r.n <= 500000) :
    Calls Tryz.prog 62 #[gv] w fun e w' => e = .returned (.bool true) /\ Below w.heap.size w w' := by
 obtain ⟨a, b, c, e1, e2, e3⟩ := h.outer h1
 rw [e1]
 refine markedS_any e2 e3 h4 (fun i v hv => ?_)
 have hi := (List.getElem?_eq_some_iff.1 hv).1
 obtain ⟨r, hr⟩ := getElem?_of_lt (xs := ks) (i := i) (by omega)
 obtain ⟨⟨v', g1, g2⟩, _⟩ := h2 i r (by omega) hr
 rw [hv] at g1
 cases g1
 obtain ⟨a1, c1, b1, x1, x2⟩ := h.pre hG lenS g2 (by rw [mkG_len])
 rw [mkG_len] at x1
 exact ⟨_, a1, b1, c1, x1, x2, by have := hK i r hr; omega⟩
theorem markedBS_bk {ks : List Rw} {gs : List Value} {o : Value} {G : List Rw} {n : Nat} (h : Rws w0 w L) (h1 : (⟨113, 1, o, n, ks.map (·.v)⟩ : Rw) ∈ L) (hn : ks.length = n) (h4 : n <= 400) (h2 : GrowOk 2 mS encS ks gs G n) (hG : ∀ r ∈ G, r ∈ L) (hK : ∀ (i : Nat) (r : Rw), ks[i]? = some r -> r.T = 129 /\ r.k = 2 /\ r.n <= 500000 /\ r.xs = (mkG mS i 0 r.n).flatMap encS) :
    Calls Tryz.prog 62 #[o] w fun e w' => e = .returned (.bool true) /\ Below w.heap.size w w' := by
 obtain ⟨a, b, c, e1, e2, e3⟩ := h.outer h1
 rw [e1]
 refine markedS_any e2 e3 h4 (fun i v hv => ?_)
 rw [List.getElem?_map] at hv
 cases hr : ks[i]? with
 | none => rw [hr] at hv; cases hv
 | some r => (
 rw [hr] at hv
 cases hv
 have hi := (List.getElem?_eq_some_iff.1 hr).1
 obtain ⟨_, g2⟩ := h2 i r (by omega) hr
 obtain ⟨_, _, g3, g4⟩ := hK i r hr
 rw [g4] at g2
 obtain ⟨a1, c1, b1, x1, x2⟩ := h.pre hG lenS g2 (by rw [mkG_len])
 rw [mkG_len] at x1
 exact ⟨_, a1, b1, c1, x1, x2, by omega⟩)
theorem stillE_bk (h : Rws w0 w (bkRows bb kds D)) (hj : kds[5]? = some (K.kd 22)) (hf : FlOk 57 3 encE K) :
    Calls Tryz.prog 30 #[.pointer (some ⟨bb, 0, none⟩)] w fun e w' => e = .returned (.bool true) /\ ∃ m, w' = w.drewN m := by
 obtain ⟨m1, m2, m3⟩ := mem_bk (bb := bb) (D := D) hj
 obtain ⟨c0, c1⟩ := h.bkCell hj
 obtain ⟨a, b, c, e1, e2, e3⟩ := h.outer m1
 obtain ⟨a', b', c', f1, f2, f3⟩ := h.outer m2
 rw [e1] at c0; rw [f1] at c1
 have hll := hf.hl; have h4 := hf.h4
 simp only [KS.kd, List.length_map] at c0 c1 e2 e3 f2 f3
 rw [<- hll] at c1
 refine stillE_any c0 c1 e2 f2 (by simp) (by simp [hll]) h4 (fun i v u hv hu => ?_)
 rw [List.getElem?_map] at hv hu
 cases hr : K.ks[i]? with
 | none => rw [hr] at hv; cases hv
 | some r => (
 cases hr' : K.ws[i]? with
 | none => rw [hr'] at hu; cases hu
 | some r' => (
 rw [hr] at hv; rw [hr'] at hu
 cases hv; cases hu
 obtain ⟨g1, g2, g3, g4, ys, g5, g6, g7, g8, g9⟩ := hf.at_ i r r' hr hr'
 obtain ⟨a1, b1, q1, x1, y1⟩ := h.reads lenE (m3 r (List.mem_append_left _ (List.mem_of_getElem? hr))) g2 g6 g8
 obtain ⟨a2, b2, q2, x2, y2⟩ := h.reads lenE (m3 r' (List.mem_append_right _ (List.mem_of_getElem? hr'))) g4 g7 g9
 exact ⟨ys, a1, b1, q1, a2, b2, q2, x1, x2, y1, y2, by omega⟩))
theorem putE_bk (h : Rws w0 w (bkRows bb kds D)) (hj : kds[5]? = some (K.kd 22)) (hf : FlOk 57 3 encE K) :
    Calls Tryz.prog 41 #[.pointer (some ⟨bb, 0, none⟩)] w fun e w' => e = .returned (.tuple #[]) /\ Rws w0 w' (bkRows bb (kds.set 5 ((KS.mk K.o K.p (mkAll mE encE K.ks) K.ws).kd 22)) D) := by
 refine (putE_any (h.bkFront hj) (bkCells_at hj).1 (fun r hr => hf.ks_at hr) hf.h4).mono ?_
 rintro e w' ⟨rfl, h2⟩
 refine ⟨rfl, h2.bkBack hj ?_⟩
 simp [KS.kd, mkAll_v]
theorem mkdE (hf : FlOk 57 3 encE K) : ∀ (i : Nat) (r : Rw), (mkAll mE encE K.ks)[i]? = some r -> r.T = 57 /\ r.k = 3 /\ r.n <= 500000 /\ r.xs = (mkG mE i 0 r.n).flatMap encE := fun i r hr => by
  have hl := (List.getElem?_eq_some_iff.1 hr).1
  rw [mkAll_len] at hl
  obtain ⟨x, hx⟩ := getElem?_of_lt hl
  rw [mkAll_get hx] at hr
  cases hr
  obtain ⟨a, b, c⟩ := hf.ks_at (List.mem_of_getElem? hx)
  exact ⟨a, b, c, rfl⟩
theorem growE_bk (h : Rws w0 w (bkRows bb kds D)) (hj : kds[5]? = some (K.kd 22)) (hK : ∀ (i : Nat) (r : Rw), K.ks[i]? = some r -> r.T = 57 /\ r.k = 3 /\ r.n <= 500000 /\ r.xs = (mkG mE i 0 r.n).flatMap encE) (h4 : K.ks.length <= 400) :
    Calls Tryz.prog 52 #[.pointer (some ⟨bb, 0, none⟩)] w fun e w' => ∃ (gv : Value) (gs : List Value) (G : List Rw), e = .returned gv /\ gs.length = K.ks.length /\ GrowOk 3 mE encE K.ks gs G K.ks.length /\
      Rws w0 w' (bkRows bb (kds.set 5 ⟨22, K.o, K.p, K.ks.map (·.v), K.ws.map (·.v), G ++ K.ws⟩) (⟨22, 1, gv, K.ks.length, gs⟩ :: D)) := by
 refine (growE_any (h.bkFront hj) (bkCells_at hj).1 hK h4).mono ?_
 rintro e w' ⟨gv, gs, G, rfl, h1, h2, h3⟩
 refine ⟨gv, gs, G, rfl, h1, h3, Rws.bkBack hj rfl (h2.perm ?_)⟩
 exact grow_perm ..
theorem markedGE_bk {ks : List Rw} {gs : List Value} {gv : Value} {G : List Rw} {n : Nat} (h : Rws w0 w L) (h1 : (⟨22, 1, gv, n, gs⟩ : Rw) ∈ L) (hn : ks.length = n) (h4 : n <= 400) (h2 : GrowOk 3 mE encE ks gs G n) (hG : ∀ r ∈ G, r ∈ L) (hK : ∀ (i : Nat) (r : Rw), ks[i]? = some r -> r.n <= 500000) :
    Calls Tryz.prog 63 #[gv] w fun e w' => e = .returned (.bool true) /\ Below w.heap.size w w' := by
 obtain ⟨a, b, c, e1, e2, e3⟩ := h.outer h1
 rw [e1]
 refine markedE_any e2 e3 h4 (fun i v hv => ?_)
 have hi := (List.getElem?_eq_some_iff.1 hv).1
 obtain ⟨r, hr⟩ := getElem?_of_lt (xs := ks) (i := i) (by omega)
 obtain ⟨⟨v', g1, g2⟩, _⟩ := h2 i r (by omega) hr
 rw [hv] at g1
 cases g1
 obtain ⟨a1, c1, b1, x1, x2⟩ := h.pre hG lenE g2 (by rw [mkG_len])
 rw [mkG_len] at x1
 exact ⟨_, a1, b1, c1, x1, x2, by have := hK i r hr; omega⟩
theorem markedBE_bk {ks : List Rw} {gs : List Value} {o : Value} {G : List Rw} {n : Nat} (h : Rws w0 w L) (h1 : (⟨22, 1, o, n, ks.map (·.v)⟩ : Rw) ∈ L) (hn : ks.length = n) (h4 : n <= 400) (h2 : GrowOk 3 mE encE ks gs G n) (hG : ∀ r ∈ G, r ∈ L) (hK : ∀ (i : Nat) (r : Rw), ks[i]? = some r -> r.T = 57 /\ r.k = 3 /\ r.n <= 500000 /\ r.xs = (mkG mE i 0 r.n).flatMap encE) :
    Calls Tryz.prog 63 #[o] w fun e w' => e = .returned (.bool true) /\ Below w.heap.size w w' := by
 obtain ⟨a, b, c, e1, e2, e3⟩ := h.outer h1
 rw [e1]
 refine markedE_any e2 e3 h4 (fun i v hv => ?_)
 rw [List.getElem?_map] at hv
 cases hr : ks[i]? with
 | none => rw [hr] at hv; cases hv
 | some r => (
 rw [hr] at hv
 cases hv
 have hi := (List.getElem?_eq_some_iff.1 hr).1
 obtain ⟨_, g2⟩ := h2 i r (by omega) hr
 obtain ⟨_, _, g3, g4⟩ := hK i r hr
 rw [g4] at g2
 obtain ⟨a1, c1, b1, x1, x2⟩ := h.pre hG lenE g2 (by rw [mkG_len])
 rw [mkG_len] at x1
 exact ⟨_, a1, b1, c1, x1, x2, by omega⟩)
theorem stillR_bk {A : List Rw} (h : Rws w0 w (bkRows bb kds D)) (hj : kds[8]? = some (K.kd 32)) (hf : NeOk 3 58 1 encI A K) (hA : ∀ r ∈ A, r ∈ bkRows bb kds D) :
    Calls Tryz.prog 33 #[.pointer (some ⟨bb, 0, none⟩)] w fun e w' => e = .returned (.bool true) /\ ∃ m, w' = w.drewN m := by
 obtain ⟨m1, m2, m3⟩ := mem_bk (bb := bb) (D := D) hj
 obtain ⟨c0, c1⟩ := h.bkCell hj
 obtain ⟨a, b, c, e1, e2, e3⟩ := h.outer m1
 obtain ⟨a', b', c', f1, f2, f3⟩ := h.outer m2
 rw [e1] at c0; rw [f1] at c1
 have hll := hf.hl; have h4 := hf.h4
 simp only [KS.kd, List.length_map] at c0 c1 e2 e3 f2 f3
 rw [<- hll] at c1
 refine stillR_any c0 c1 e2 f2 (by simp) (by simp [hll]) h4 (fun i v u hv hu => ?_)
 rw [List.getElem?_map] at hv hu
 cases hr : K.ks[i]? with
 | none => rw [hr] at hv; cases hv
 | some r => (
 cases hr' : K.ws[i]? with
 | none => rw [hr'] at hu; cases hu
 | some r' => (
 rw [hr] at hv; rw [hr'] at hu
 cases hv; cases hu
 obtain ⟨g1, g2, g3, g4, g5, g6, g7, g8⟩ := hf.at_ i r r' hr hr'
 have hm1 := m3 r (List.mem_append_left _ (List.mem_of_getElem? hr))
 have hl := (h.own r hm1).1
 rw [g2] at hl
 obtain ⟨a1, b1, q1, x1, y1⟩ := h.reads (enc := encV) (ys := r.xs) lenV hm1 g2 (by omega) (by rw [flatV])
 obtain ⟨a2, b2, q2, x2, y2⟩ := h.reads (enc := encV) (ys := r.xs) lenV (m3 r' (List.mem_append_right _ (List.mem_of_getElem? hr'))) g4 (by omega) (by rw [flatV, g6])
 refine ⟨r.xs, a1, b1, q1, a2, b2, q2, x1, x2, y1, y2, by omega, fun j x hx => ?_⟩
 obtain ⟨q, z1, rfl, z3, z4, ys, z5, z6, z7⟩ := g8 x (List.mem_of_getElem? hx)
 obtain ⟨a3, b3, q3, x3, y3⟩ := h.reads lenI (hA q z1) z4 z6 z7
 exact ⟨ys, a3, b3, 0, q3, x3, y3, by omega⟩))
theorem putR_bk {A : List Rw} (h : Rws w0 w (bkRows bb kds D)) (hj : kds[8]? = some (K.kd 32)) (hf : NeOk 3 58 1 encI A K) :
    Calls Tryz.prog 44 #[.pointer (some ⟨bb, 0, none⟩)] w fun e w' => ∃ (F : Nat -> List Value) (N : List Rw), e = .returned (.tuple #[]) /\ Rws w0 w' (bkRows bb (kds.set 8 ((KS.mk K.o K.p (mkFin F K.ks) K.ws).kd 32)) (N ++ D)) /\ ∀ (i : Nat) (r : Rw), (mkFin F K.ks)[i]? = some r -> r.T = 58 /\ r.k = 1 /\ r.n <= 500000 /\ r.xs.length = r.n /\ MkInR N i 0 r.xs := by
 refine (putR_any (h.bkFront hj) (bkCells_at hj).1 (fun r hr => hf.ks_at hr) hf.h4).mono ?_
 rintro e w' ⟨F, N, rfl, h2, h3⟩
 refine ⟨F, N, rfl, Rws.bkBack (K' := (KS.mk K.o K.p (mkFin F K.ks) K.ws).kd 32) (G := mkFin F K.ks) hj (by simp [KS.kd, mkFin_v]) (h2.perm (put_perm ..)), fun i r hr => ?_⟩
 have hl := (List.getElem?_eq_some_iff.1 hr).1
 rw [mkFin_len] at hl
 obtain ⟨x, hx⟩ := getElem?_of_lt hl
 rw [mkFin_get hx] at hr
 cases hr
 obtain ⟨a, b, c⟩ := hf.ks_at (List.mem_of_getElem? hx)
 exact ⟨a, b, c, (h3 i x hx).1, (h3 i x hx).2⟩
theorem growR_bk {M : List Rw} (h : Rws w0 w (bkRows bb kds D)) (hj : kds[8]? = some (K.kd 32)) (hK : ∀ (i : Nat) (r : Rw), K.ks[i]? = some r -> r.T = 58 /\ r.k = 1 /\ r.n <= 500000 /\ MkInR M i 0 r.xs) (h4 : K.ks.length <= 400) :
    Calls Tryz.prog 55 #[.pointer (some ⟨bb, 0, none⟩)] w fun e w' => ∃ (gv : Value) (gs : List Value) (G N : List Rw), e = .returned gv /\ gs.length = K.ks.length /\ GrowOkR (M ++ N) K.ks gs G K.ks.length /\
      Rws w0 w' (bkRows bb (kds.set 8 ⟨32, K.o, K.p, K.ks.map (·.v), K.ws.map (·.v), G ++ K.ws⟩) (⟨32, 1, gv, K.ks.length, gs⟩ :: (N ++ D))) := by
 refine (growR_any (h.bkFront hj) (bkCells_at hj).1 hK h4).mono ?_
 rintro e w' ⟨gv, gs, G, N, rfl, h1, h2, h3⟩
 exact ⟨gv, gs, G, N, rfl, h1, h3, Rws.bkBack hj rfl (h2.perm (grow_permN ..))⟩
theorem markedGR_bk {ks M : List Rw} {gs : List Value} {gv : Value} {G : List Rw} {n : Nat} (h : Rws w0 w L) (h1 : (⟨32, 1, gv, n, gs⟩ : Rw) ∈ L) (hn : ks.length = n) (h4 : n <= 400) (h2 : GrowOkR M ks gs G n) (hG : ∀ r ∈ G, r ∈ L) (hM : ∀ r ∈ M, r ∈ L) (hK : ∀ (i : Nat) (r : Rw), ks[i]? = some r -> r.n <= 500000) :
    Calls Tryz.prog 66 #[gv] w fun e w' => e = .returned (.bool true) /\ Below w.heap.size w w' := by
 obtain ⟨a, b, c, e1, e2, e3⟩ := h.outer h1
 rw [e1]
 refine markedR_any e2 e3 h4 (fun i v hv => ?_)
 have hi := (List.getElem?_eq_some_iff.1 hv).1
 obtain ⟨r, hr⟩ := getElem?_of_lt (xs := ks) (i := i) (by omega)
 obtain ⟨⟨v', cs, g1, g0, g2, g3⟩, _⟩ := h2 i r (by omega) hr
 rw [hv] at g1
 cases g1
 rw [<- flatV cs] at g2
 obtain ⟨a1, c1, b1, x1, x2⟩ := h.pre hG lenV g2 g0.symm
 rw [g0] at x1
 exact ⟨_, a1, b1, c1, cs, x1, x2, g0, by have := hK i r hr; omega, fun j x hx => by have := g3.rd h hM hx; rwa [Nat.zero_add] at this⟩
theorem markedBR_bk {ks M : List Rw} {gs : List Value} {o : Value} {G : List Rw} {n : Nat} (h : Rws w0 w L) (h1 : (⟨32, 1, o, n, ks.map (·.v)⟩ : Rw) ∈ L) (hn : ks.length = n) (h4 : n <= 400) (h2 : GrowOkR M ks gs G n) (hG : ∀ r ∈ G, r ∈ L) (hM : ∀ r ∈ M, r ∈ L) (hK : ∀ (i : Nat) (r : Rw), ks[i]? = some r -> r.T = 58 /\ r.k = 1 /\ r.n <= 500000 /\ r.xs.length = r.n /\ MkInR M i 0 r.xs) :
    Calls Tryz.prog 66 #[o] w fun e w' => e = .returned (.bool true) /\ Below w.heap.size w w' := by
 obtain ⟨a, b, c, e1, e2, e3⟩ := h.outer h1
 rw [e1]
 refine markedR_any e2 e3 h4 (fun i v hv => ?_)
 rw [List.getElem?_map] at hv
 cases hr : ks[i]? with
 | none => rw [hr] at hv; cases hv
 | some r => (
 rw [hr] at hv
 cases hv
 have hi := (List.getElem?_eq_some_iff.1 hr).1
 obtain ⟨_, g2⟩ := h2 i r (by omega) hr
 obtain ⟨_, _, g3, g0, g4⟩ := hK i r hr
 rw [<- flatV r.xs] at g2
 obtain ⟨a1, c1, b1, x1, x2⟩ := h.pre hG lenV g2 g0.symm
 rw [g0] at x1
 exact ⟨_, a1, b1, c1, r.xs, x1, x2, g0, by omega, fun j x hx => by have := g4.rd h hM hx; rwa [Nat.zero_add] at this⟩)
theorem stillW_bk {A : List Rw} (h : Rws w0 w (bkRows bb kds D)) (hj : kds[10]? = some (K.kd 36)) (hf : NeOk 129 113 2 encS A K) (hA : ∀ r ∈ A, r ∈ bkRows bb kds D) :
    Calls Tryz.prog 35 #[.pointer (some ⟨bb, 0, none⟩)] w fun e w' => e = .returned (.bool true) /\ ∃ m, w' = w.drewN m := by
 obtain ⟨m1, m2, m3⟩ := mem_bk (bb := bb) (D := D) hj
 obtain ⟨c0, c1⟩ := h.bkCell hj
 obtain ⟨a, b, c, e1, e2, e3⟩ := h.outer m1
 obtain ⟨a', b', c', f1, f2, f3⟩ := h.outer m2
 rw [e1] at c0; rw [f1] at c1
 have hll := hf.hl; have h4 := hf.h4
 simp only [KS.kd, List.length_map] at c0 c1 e2 e3 f2 f3
 rw [<- hll] at c1
 refine stillW_any c0 c1 e2 f2 (by simp) (by simp [hll]) h4 (fun i v u hv hu => ?_)
 rw [List.getElem?_map] at hv hu
 cases hr : K.ks[i]? with
 | none => rw [hr] at hv; cases hv
 | some r => (
 cases hr' : K.ws[i]? with
 | none => rw [hr'] at hu; cases hu
 | some r' => (
 rw [hr] at hv; rw [hr'] at hu
 cases hv; cases hu
 obtain ⟨g1, g2, g3, g4, g5, g6, g7, g8⟩ := hf.at_ i r r' hr hr'
 have hm1 := m3 r (List.mem_append_left _ (List.mem_of_getElem? hr))
 have hl := (h.own r hm1).1
 rw [g2] at hl
 obtain ⟨a1, b1, q1, x1, y1⟩ := h.reads (enc := encV) (ys := r.xs) lenV hm1 g2 (by omega) (by rw [flatV])
 obtain ⟨a2, b2, q2, x2, y2⟩ := h.reads (enc := encV) (ys := r.xs) lenV (m3 r' (List.mem_append_right _ (List.mem_of_getElem? hr'))) g4 (by omega) (by rw [flatV, g6])
 refine ⟨r.xs, a1, b1, q1, a2, b2, q2, x1, x2, y1, y2, by omega, fun j x hx => ?_⟩
 obtain ⟨q, z1, rfl, z3, z4, ys, z5, z6, z7⟩ := g8 x (List.mem_of_getElem? hx)
 obtain ⟨a3, b3, q3, x3, y3⟩ := h.reads lenS (hA q z1) z4 z6 z7
 exact ⟨ys, a3, b3, 0, q3, x3, y3, by omega⟩))
theorem putW_bk {A : List Rw} (h : Rws w0 w (bkRows bb kds D)) (hj : kds[10]? = some (K.kd 36)) (hf : NeOk 129 113 2 encS A K) :
    Calls Tryz.prog 46 #[.pointer (some ⟨bb, 0, none⟩)] w fun e w' => ∃ (F : Nat -> List Value) (N : List Rw), e = .returned (.tuple #[]) /\ Rws w0 w' (bkRows bb (kds.set 10 ((KS.mk K.o K.p (mkFin F K.ks) K.ws).kd 36)) (N ++ D)) /\ ∀ (i : Nat) (r : Rw), (mkFin F K.ks)[i]? = some r -> r.T = 113 /\ r.k = 1 /\ r.n <= 500000 /\ r.xs.length = r.n /\ MkInW N i 0 r.xs := by
 refine (putW_any (h.bkFront hj) (bkCells_at hj).1 (fun r hr => hf.ks_at hr) hf.h4).mono ?_
 rintro e w' ⟨F, N, rfl, h2, h3⟩
 refine ⟨F, N, rfl, Rws.bkBack (K' := (KS.mk K.o K.p (mkFin F K.ks) K.ws).kd 36) (G := mkFin F K.ks) hj (by simp [KS.kd, mkFin_v]) (h2.perm (put_perm ..)), fun i r hr => ?_⟩
 have hl := (List.getElem?_eq_some_iff.1 hr).1
 rw [mkFin_len] at hl
 obtain ⟨x, hx⟩ := getElem?_of_lt hl
 rw [mkFin_get hx] at hr
 cases hr
 obtain ⟨a, b, c⟩ := hf.ks_at (List.mem_of_getElem? hx)
 exact ⟨a, b, c, (h3 i x hx).1, (h3 i x hx).2⟩
theorem growW_bk {M : List Rw} (h : Rws w0 w (bkRows bb kds D)) (hj : kds[10]? = some (K.kd 36)) (hK : ∀ (i : Nat) (r : Rw), K.ks[i]? = some r -> r.T = 113 /\ r.k = 1 /\ r.n <= 500000 /\ MkInW M i 0 r.xs) (h4 : K.ks.length <= 400) :
    Calls Tryz.prog 57 #[.pointer (some ⟨bb, 0, none⟩)] w fun e w' => ∃ (gv : Value) (gs : List Value) (G N : List Rw), e = .returned gv /\ gs.length = K.ks.length /\ GrowOkW (M ++ N) K.ks gs G K.ks.length /\
      Rws w0 w' (bkRows bb (kds.set 10 ⟨36, K.o, K.p, K.ks.map (·.v), K.ws.map (·.v), G ++ K.ws⟩) (⟨36, 1, gv, K.ks.length, gs⟩ :: (N ++ D))) := by
 refine (growW_any (h.bkFront hj) (bkCells_at hj).1 hK h4).mono ?_
 rintro e w' ⟨gv, gs, G, N, rfl, h1, h2, h3⟩
 exact ⟨gv, gs, G, N, rfl, h1, h3, Rws.bkBack hj rfl (h2.perm (grow_permN ..))⟩
theorem markedGW_bk {ks M : List Rw} {gs : List Value} {gv : Value} {G : List Rw} {n : Nat} (h : Rws w0 w L) (h1 : (⟨36, 1, gv, n, gs⟩ : Rw) ∈ L) (hn : ks.length = n) (h4 : n <= 400) (h2 : GrowOkW M ks gs G n) (hG : ∀ r ∈ G, r ∈ L) (hM : ∀ r ∈ M, r ∈ L) (hK : ∀ (i : Nat) (r : Rw), ks[i]? = some r -> r.n <= 500000) :
    Calls Tryz.prog 68 #[gv] w fun e w' => e = .returned (.bool true) /\ Below w.heap.size w w' := by
 obtain ⟨a, b, c, e1, e2, e3⟩ := h.outer h1
 rw [e1]
 refine markedW_any e2 e3 h4 (fun i v hv => ?_)
 have hi := (List.getElem?_eq_some_iff.1 hv).1
 obtain ⟨r, hr⟩ := getElem?_of_lt (xs := ks) (i := i) (by omega)
 obtain ⟨⟨v', cs, g1, g0, g2, g3⟩, _⟩ := h2 i r (by omega) hr
 rw [hv] at g1
 cases g1
 rw [<- flatV cs] at g2
 obtain ⟨a1, c1, b1, x1, x2⟩ := h.pre hG lenV g2 g0.symm
 rw [g0] at x1
 exact ⟨_, a1, b1, c1, cs, x1, x2, g0, by have := hK i r hr; omega, fun j x hx => by have := g3.rd h hM hx; rwa [Nat.zero_add] at this⟩
theorem markedBW_bk {ks M : List Rw} {gs : List Value} {o : Value} {G : List Rw} {n : Nat} (h : Rws w0 w L) (h1 : (⟨36, 1, o, n, ks.map (·.v)⟩ : Rw) ∈ L) (hn : ks.length = n) (h4 : n <= 400) (h2 : GrowOkW M ks gs G n) (hG : ∀ r ∈ G, r ∈ L) (hM : ∀ r ∈ M, r ∈ L) (hK : ∀ (i : Nat) (r : Rw), ks[i]? = some r -> r.T = 113 /\ r.k = 1 /\ r.n <= 500000 /\ r.xs.length = r.n /\ MkInW M i 0 r.xs) :
    Calls Tryz.prog 68 #[o] w fun e w' => e = .returned (.bool true) /\ Below w.heap.size w w' := by
 obtain ⟨a, b, c, e1, e2, e3⟩ := h.outer h1
 rw [e1]
 refine markedW_any e2 e3 h4 (fun i v hv => ?_)
 rw [List.getElem?_map] at hv
 cases hr : ks[i]? with
 | none => rw [hr] at hv; cases hv
 | some r => (
 rw [hr] at hv
 cases hv
 have hi := (List.getElem?_eq_some_iff.1 hr).1
 obtain ⟨_, g2⟩ := h2 i r (by omega) hr
 obtain ⟨_, _, g3, g0, g4⟩ := hK i r hr
 rw [<- flatV r.xs] at g2
 obtain ⟨a1, c1, b1, x1, x2⟩ := h.pre hG lenV g2 g0.symm
 rw [g0] at x1
 exact ⟨_, a1, b1, c1, r.xs, x1, x2, g0, by omega, fun j x hx => by have := g4.rd h hM hx; rwa [Nat.zero_add] at this⟩)
end
end Go.Proofs.YtgikimbafakmcaaGreatDoor

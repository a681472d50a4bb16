/-
  semblancebook.Book as a law fills it: lists of its own are handed to it one by one.
-/
import Derived.Test.YtkmljelgogcobaaGreatDoorBkAp
import Derived.Test.YtkmljelgogcobaaGreatDoorBkIa
import Derived.Test.YtkmljelgogcobaaGreatDoorBkEa
import Derived.Test.YtkmljelgogcobaaGreatDoorGBkSp
namespace Go.Proofs.YtkmljelgogcobaaGreatDoor
open Go.RowKit Pl

def bkAll (I B S E N W : KS) (D : List Rw) : List Rw := I.ks ++ (B.ks ++ (S.ks ++ (E.ks ++ (N.ks ++ (W.ks ++ D)))))
/-- A book in memory; the rows Z have been handed to it, the rows R are the law's own. -/
def Bk (w0 w : World) (bb : Nat) (Z R : List Rw) : Prop :=
  ∃ (I B S E N W : KS) (D : List Rw), Rws w0 w (bkRows bb (bkL I B S E N W) (D ++ R)) ∧ FlOk 3 1 encI I ∧ FlOk 4 1 encB B ∧ FlOk 92 2 encS S ∧ FlOk 79 3 encE E ∧
    NeOk 3 49 1 encI (bkAll I B S E N W D) N ∧ NeOk 92 46 2 encS (bkAll I B S E N W D) W ∧ ∀ r ∈ Z, r ∈ bkAll I B S E N W D

section
variable {w0 w w' : World} {bb : Nat} {Z R : List Rw}
theorem mem_bkAll {I B S E N W : KS} {D R : List Rw} {r : Rw} (h : r ∈ bkAll I B S E N W D) : r ∈ bkRows bb (bkL I B S E N W) (D ++ R) := by
  have hk : ∀ {X : KS} {T : TypeId} {j : Nat}, (bkL I B S E N W)[j]? = some (X.kd T) → r ∈ X.ks → r ∈ bkRows bb (bkL I B S E N W) (D ++ R) := fun hj hr => (mem_bk hj).2.2 r (List.mem_append_left _ hr)
  unfold bkAll at h
  simp only [List.mem_append] at h
  rcases h with h | h | h | h | h | h | h
  · exact hk (j := 0) rfl h
  · exact hk (j := 3) rfl h
  · exact hk (j := 4) rfl h
  · exact hk (j := 5) rfl h
  · exact hk (j := 8) rfl h
  · exact hk (j := 10) rfl h
  · exact List.mem_cons_of_mem _ (List.mem_append_right _ (List.mem_append_left _ h))
theorem Bk.apart (h : Bk w0 w bb Z R) : Calls Tryz.prog 20 #[.pointer (some ⟨bb, 0, none⟩)] w fun e w' => e = .returned (.bool true) ∧ Below w0.heap.size w0 w' := by
  obtain ⟨I, B, S, E, N, W, D, h1, h2, h3, h4, h5, h6, h7, _⟩ := h
  exact apart_any h1 h2 h3 h4 h5 h6 h7 (fun r hr => mem_bkAll hr)
theorem Bk.bel (h : Bk w0 w bb Z R) : Below w0.heap.size w0 w := by
  obtain ⟨I, B, S, E, N, W, D, h1, _⟩ := h
  exact h1.bel
theorem Bk.call (h : Bk w0 w bb Z R) (hB : Below w.heap.size w w') : Bk w0 w' bb Z R := by
  obtain ⟨I, B, S, E, N, W, D, h1, h2⟩ := h
  exact ⟨I, B, S, E, N, W, D, h1.call hB, h2⟩
/-- What has been handed, and what has not yet, is owned. -/
theorem Bk.own (h : Bk w0 w bb Z R) {r : Rw} (hr : r ∈ Z ∨ r ∈ R) : w.ownsRow w0.heap.size r.T r.k r.v r.n r.xs := by
  obtain ⟨I, B, S, E, N, W, D, h1, _, _, _, _, _, _, h8⟩ := h
  rcases hr with hr | hr
  · exact h1.own r (mem_bkAll (h8 r hr))
  · exact h1.own r (List.mem_cons_of_mem _ (List.mem_append_right _ (List.mem_append_right _ hr)))
theorem bk_tail (I B S E N W : KS) (D : List Rw) {R R' : List Rw} (hp : R.Perm R') : (bkRows bb (bkL I B S E N W) (D ++ R)).Perm (bkRows bb (bkL I B S E N W) (D ++ R')) :=
  ((List.Perm.append_left _ (List.Perm.append_left _ hp))).cons _
theorem Bk.perm (h : Bk w0 w bb Z R) {R' : List Rw} (hp : R.Perm R') : Bk w0 w bb Z R' := by
  obtain ⟨I, B, S, E, N, W, D, h1, h2⟩ := h
  exact ⟨I, B, S, E, N, W, D, h1.perm (bk_tail I B S E N W D hp), h2⟩
/-- A new row of the law's own. -/
theorem Bk.add (h : Bk w0 w bb Z R) {T : TypeId} {k n : Nat} {v : Value} {xs : List Value} (hB : Below w.heap.size w w') (ho : w'.ownsRow w.heap.size T k v n xs) : Bk w0 w' bb Z (⟨T, k, v, n, xs⟩ :: R) := by
  obtain ⟨I, B, S, E, N, W, D, h1, h2⟩ := h
  refine ⟨I, B, S, E, N, W, D, (h1.add hB ho).perm ?_, h2⟩
  have hp := List.perm_middle (a := (⟨T, k, v, n, xs⟩ : Rw)) (l₁ := bkBox bb (bkL I B S E N W) :: ((bkL I B S E N W).flatMap Kd.rs ++ D)) (l₂ := R)
  unfold bkRows
  simp only [List.append_assoc, List.cons_append] at hp ⊢
  exact hp.symm
/-- Rows of a callee's own. -/
theorem Bk.join (h : Bk w0 w bb Z R) {N : List Rw} (hN : Rws w w' N) : Bk w0 w' bb Z (N ++ R) := by
  obtain ⟨I, B, S, E, M, W, D, h1, h2⟩ := h
  refine ⟨I, B, S, E, M, W, D, (h1.join hN).perm ?_, h2⟩
  have hp := perm_rot N (bkBox bb (bkL I B S E M W) :: (bkL I B S E M W).flatMap Kd.rs) D R
  have hq : ((D ++ N) ++ R).Perm (D ++ (N ++ R)) := by rw [List.append_assoc]
  unfold bkRows
  simp only [List.append_assoc, List.cons_append] at hp ⊢
  exact hp
/-- Rows forgotten. -/
theorem Bk.sub (h : Bk w0 w bb Z R) {R' : List Rw} (hs : R'.Sublist R) : Bk w0 w bb Z R' := by
  obtain ⟨I, B, S, E, N, W, D, h1, h2⟩ := h
  exact ⟨I, B, S, E, N, W, D, h1.sub ((List.Sublist.append_left (List.Sublist.append_left hs _) _).cons_cons _), h2⟩
/-- An empty book, just laid. -/
theorem Bk.start (w : World) : Bk w (w.alloc (.cells #[.slice none 0 0, .slice none 0 0, .slice none 0 0, .slice none 0 0, .slice none 0 0, .slice none 0 0, .slice none 0 0, .slice none 0 0, .slice none 0 0, .slice none 0 0, .slice none 0 0, .slice none 0 0, .slice none 0 0, .slice none 0 0, .slice none 0 0, .slice none 0 0, .slice none 0 0, .slice none 0 0, .slice none 0 0, .slice none 0 0, .slice none 0 0, .slice none 0 0] 44)) w.heap.size [] [] := by
  refine ⟨.zero, .zero, .zero, .zero, .zero, .zero, [], ?_, .zero, .zero, .zero, .zero, .zero, .zero, fun r hr => by cases hr⟩
  have h0 := Rws.nil (Below.refl w.heap.size w)
  have h1 := (((((((((((((((((((((h0.addNil 36 1).addNil 36 1).addNil 33 1).addNil 33 1).addNil 32 1).addNil 32 1).addNil 151 1).addNil 151 1).addNil 149 1).addNil 149 1).addNil 22 1).addNil 22 1).addNil 46 1).addNil 46 1).addNil 81 1).addNil 81 1).addNil 146 1).addNil 146 1).addNil 144 1).addNil 144 1).addNil 49 1).addNil 49 1
  have h2 := h1.addLit #[.slice none 0 0, .slice none 0 0, .slice none 0 0, .slice none 0 0, .slice none 0 0, .slice none 0 0, .slice none 0 0, .slice none 0 0, .slice none 0 0, .slice none 0 0, .slice none 0 0, .slice none 0 0, .slice none 0 0, .slice none 0 0, .slice none 0 0, .slice none 0 0, .slice none 0 0, .slice none 0 0, .slice none 0 0, .slice none 0 0, .slice none 0 0, .slice none 0 0] 44 (k := 22) (n := 1) (by decide) rfl
  exact h2
end

/-- A list ahead of its kind's rows. -/
theorem Rws.bkTake {w0 w : World} {kds : List Kd} {j bb : Nat} {D R : List Rw} {SL : TypeId} {K : KS} {r : Rw} (h : Rws w0 w (bkRows bb kds (D ++ r :: R))) (hj : kds[j]? = some (K.kd SL)) (hl : K.ks.length = K.ws.length) :
    Rws w0 w (bkBox bb kds :: ⟨SL, 1, K.o, K.ks.length, K.ks.map (·.v)⟩ :: ⟨SL, 1, K.p, K.ks.length, K.ws.map (·.v)⟩ :: r :: ((K.ks ++ K.ws) ++ bkX kds j (D ++ R))) := by
  refine (h.perm (bkRows_perm hj)).perm ?_
  unfold KS.kd Kd.rs bkX
  simp only [List.length_map, List.cons_append]
  rw [← hl]
  refine ((List.Perm.cons _ ?_).cons _).cons _
  have hp := List.perm_middle (a := r) (l₁ := (K.ks ++ K.ws) ++ ((kds.take j ++ kds.drop (j + 1)).flatMap Kd.rs ++ D)) (l₂ := R)
  simp only [List.append_assoc] at hp ⊢
  exact hp
theorem Rws.bkGive {w0 w : World} {kds : List Kd} {j bb : Nat} {D R : List Rw} {SL : TypeId} {K : KS} {r u : Rw} {o' p' : Value} {cs : List Value} {n : Nat} (hj : kds[j]? = some (K.kd SL)) (hl : K.ks.length = K.ws.length) (hc : cs = ((bkCells kds).set (j * 2) o').set (j * 2 + 1) p') (hn : n = K.ks.length + 1)
    (h : Rws w0 w (⟨44, 22, .slice (some ⟨bb, 0, none⟩) 1 1, 1, cs⟩ :: ⟨SL, 1, o', n, K.ks.map (·.v) ++ [r.v]⟩ :: ⟨SL, 1, p', n, K.ws.map (·.v) ++ [u.v]⟩ :: r :: u :: ((K.ks ++ K.ws) ++ bkX kds j (D ++ R)))) :
    Rws w0 w (bkRows bb (kds.set j ((KS.mk o' p' (K.ks ++ [r]) (K.ws ++ [u])).kd SL)) (D ++ R)) := by
  refine h.perm (List.Perm.trans ?_ (bkRows_perm' (bb := bb) (D := D ++ R) (K' := (KS.mk o' p' (K.ks ++ [r]) (K.ws ++ [u])).kd SL) hj).symm)
  have e : bkBox bb (kds.set j ((KS.mk o' p' (K.ks ++ [r]) (K.ws ++ [u])).kd SL)) = ⟨44, 22, .slice (some ⟨bb, 0, none⟩) 1 1, 1, cs⟩ := by
    unfold bkBox
    rw [bkCells_set hj, hc]
    rfl
  rw [e]
  unfold KS.kd Kd.rs
  simp only [List.map_append, List.map_cons, List.map_nil, List.length_append, List.length_map, List.length_cons, List.length_nil, List.cons_append]
  rw [hn, ← hl]
  refine ((List.Perm.cons _ ?_).cons _).cons _
  have h1 := List.perm_middle (a := r) (l₁ := K.ks) (l₂ := K.ws ++ (u :: bkX kds j (D ++ R)))
  have h2 := List.perm_middle (a := u) (l₁ := K.ks ++ K.ws) (l₂ := bkX kds j (D ++ R))
  simp only [List.append_assoc, List.cons_append, List.nil_append] at h1 h2 ⊢
  exact (h2.symm.cons r).trans h1.symm
theorem mem_dmono {I B S E N W : KS} {D : List Rw} {r x : Rw} (h : x ∈ bkAll I B S E N W D) : x ∈ bkAll I B S E N W (D ++ [r]) := by
  unfold bkAll at *
  simp only [List.mem_append] at *
  rcases h with h | h | h | h | h | h | h <;> simp [h]

theorem mem_monoI {I B S E N W : KS} {D : List Rw} {r u x : Rw} {o' p' : Value} (h : x ∈ bkAll I B S E N W D) : x ∈ bkAll (KS.mk o' p' (I.ks ++ [r]) (I.ws ++ [u])) B S E N W D := by
  unfold bkAll at *
  simp only [List.mem_append] at *
  rcases h with h | h | h | h | h | h | h <;> simp [h]
theorem mem_newI {I B S E N W : KS} {D : List Rw} {r u : Rw} {o' p' : Value} : r ∈ bkAll (KS.mk o' p' (I.ks ++ [r]) (I.ws ++ [u])) B S E N W D := by
  unfold bkAll
  simp
/-- A list of Ints is handed over. -/
theorem Bk.giveI {w0 w : World} {bb n : Nat} {Z R : List Rw} {v : Value} {ys : List Int} {xs : List Value} (h : Bk w0 w bb Z (⟨3, 1, v, n, xs⟩ :: R)) (hx : xs = ys.flatMap encI) (hn : n = ys.length) (hl : n ≤ 500000) :
    Calls Tryz.prog 11 #[.pointer (some ⟨bb, 0, none⟩), v] w fun e w' => e = .returned (.tuple #[]) ∧ Bk w0 w' bb (⟨3, 1, v, n, xs⟩ :: Z) R := by
  obtain ⟨I, B, S, E, N, W, D, h1, h2, h3, h4, h5, h6, h7, h8⟩ := h
  subst hx
  have hf : FlOk 3 1 encI I := by assumption
  have hj : (bkL I B S E N W)[0]? = some (I.kd 49) := rfl
  have ht := h1.bkTake hj hf.hl
  have hv1 : v.oneCell' = true := by
    obtain ⟨a, c, e, _⟩ := ht.shape (r := ⟨3, 1, v, n, ys.flatMap encI⟩) (by simp)
    dsimp only at e
    rw [e]; rfl
  obtain ⟨q1, q2⟩ := bkCells_at hj
  refine (addI_any ht (by rw [bkCells_len]; rfl) q1 q2 hn hl hf.h4 hv1).mono ?_
  rintro e w' ⟨rfl, hp⟩
  refine ⟨rfl, ?_⟩
  rcases hp with ⟨_, rfl⟩ | ⟨hm, o', p', u, hr⟩
  · refine ⟨I, B, S, E, N, W, D ++ [⟨3, 1, v, n, ys.flatMap encI⟩], by rw [List.append_assoc]; exact h1, h2, h3, h4, h5, h6.mono (fun x hx => mem_dmono hx), h7.mono (fun x hx => mem_dmono hx), fun x hx => ?_⟩
    rcases List.mem_cons.1 hx with rfl | hx
    · unfold bkAll; simp
    · exact mem_dmono (h8 x hx)
  · have hb := Rws.bkGive (r := ⟨3, 1, v, n, ys.flatMap encI⟩) (u := ⟨3, 1, u, n, ys.flatMap encI⟩) hj hf.hl rfl rfl hr
    have hfp : FlOk 3 1 encI ⟨o', p', I.ks ++ [⟨3, 1, v, n, ys.flatMap encI⟩], I.ws ++ [⟨3, 1, u, n, ys.flatMap encI⟩]⟩ := hf.push hm (ys := ys) rfl rfl rfl rfl (by omega) hn hn rfl rfl
    refine ⟨_, B, S, E, N, W, D, hb, hfp, h3, h4, h5, h6.mono (fun x hx => mem_monoI hx), h7.mono (fun x hx => mem_monoI hx), fun x hx => ?_⟩
    rcases List.mem_cons.1 hx with rfl | hx
    · exact mem_newI
    · exact mem_monoI (h8 x hx)

theorem mem_monoB {I B S E N W : KS} {D : List Rw} {r u x : Rw} {o' p' : Value} (h : x ∈ bkAll I B S E N W D) : x ∈ bkAll I (KS.mk o' p' (B.ks ++ [r]) (B.ws ++ [u])) S E N W D := by
  unfold bkAll at *
  simp only [List.mem_append] at *
  rcases h with h | h | h | h | h | h | h <;> simp [h]
theorem mem_newB {I B S E N W : KS} {D : List Rw} {r u : Rw} {o' p' : Value} : r ∈ bkAll I (KS.mk o' p' (B.ks ++ [r]) (B.ws ++ [u])) S E N W D := by
  unfold bkAll
  simp
theorem mem_monoS {I B S E N W : KS} {D : List Rw} {r u x : Rw} {o' p' : Value} (h : x ∈ bkAll I B S E N W D) : x ∈ bkAll I B (KS.mk o' p' (S.ks ++ [r]) (S.ws ++ [u])) E N W D := by
  unfold bkAll at *
  simp only [List.mem_append] at *
  rcases h with h | h | h | h | h | h | h <;> simp [h]
theorem mem_newS {I B S E N W : KS} {D : List Rw} {r u : Rw} {o' p' : Value} : r ∈ bkAll I B (KS.mk o' p' (S.ks ++ [r]) (S.ws ++ [u])) E N W D := by
  unfold bkAll
  simp
/-- A list of Steps is handed over. -/
theorem Bk.giveS {w0 w : World} {bb n : Nat} {Z R : List Rw} {v : Value} {ys : List S} {xs : List Value} (h : Bk w0 w bb Z (⟨92, 2, v, n, xs⟩ :: R)) (hx : xs = ys.flatMap encS) (hn : n = ys.length) (hl : n ≤ 500000) :
    Calls Tryz.prog 8 #[.pointer (some ⟨bb, 0, none⟩), v] w fun e w' => e = .returned (.tuple #[]) ∧ Bk w0 w' bb (⟨92, 2, v, n, xs⟩ :: Z) R := by
  obtain ⟨I, B, S, E, N, W, D, h1, h2, h3, h4, h5, h6, h7, h8⟩ := h
  subst hx
  have hf : FlOk 92 2 encS S := by assumption
  have hj : (bkL I B S E N W)[4]? = some (S.kd 46) := rfl
  have ht := h1.bkTake hj hf.hl
  have hv1 : v.oneCell' = true := by
    obtain ⟨a, c, e, _⟩ := ht.shape (r := ⟨92, 2, v, n, ys.flatMap encS⟩) (by simp)
    dsimp only at e
    rw [e]; rfl
  obtain ⟨q1, q2⟩ := bkCells_at hj
  refine (addS_any ht (by rw [bkCells_len]; rfl) q1 q2 hn hl hf.h4 hv1).mono ?_
  rintro e w' ⟨rfl, hp⟩
  refine ⟨rfl, ?_⟩
  rcases hp with ⟨_, rfl⟩ | ⟨hm, o', p', u, hr⟩
  · refine ⟨I, B, S, E, N, W, D ++ [⟨92, 2, v, n, ys.flatMap encS⟩], by rw [List.append_assoc]; exact h1, h2, h3, h4, h5, h6.mono (fun x hx => mem_dmono hx), h7.mono (fun x hx => mem_dmono hx), fun x hx => ?_⟩
    rcases List.mem_cons.1 hx with rfl | hx
    · unfold bkAll; simp
    · exact mem_dmono (h8 x hx)
  · have hb := Rws.bkGive (r := ⟨92, 2, v, n, ys.flatMap encS⟩) (u := ⟨92, 2, u, n, ys.flatMap encS⟩) hj hf.hl rfl rfl hr
    have hfp : FlOk 92 2 encS ⟨o', p', S.ks ++ [⟨92, 2, v, n, ys.flatMap encS⟩], S.ws ++ [⟨92, 2, u, n, ys.flatMap encS⟩]⟩ := hf.push hm (ys := ys) rfl rfl rfl rfl (by omega) hn hn rfl rfl
    refine ⟨I, B, _, E, N, W, D, hb, h2, h3, hfp, h5, h6.mono (fun x hx => mem_monoS hx), h7.mono (fun x hx => mem_monoS hx), fun x hx => ?_⟩
    rcases List.mem_cons.1 hx with rfl | hx
    · exact mem_newS
    · exact mem_monoS (h8 x hx)

theorem mem_monoE {I B S E N W : KS} {D : List Rw} {r u x : Rw} {o' p' : Value} (h : x ∈ bkAll I B S E N W D) : x ∈ bkAll I B S (KS.mk o' p' (E.ks ++ [r]) (E.ws ++ [u])) N W D := by
  unfold bkAll at *
  simp only [List.mem_append] at *
  rcases h with h | h | h | h | h | h | h <;> simp [h]
theorem mem_newE {I B S E N W : KS} {D : List Rw} {r u : Rw} {o' p' : Value} : r ∈ bkAll I B S (KS.mk o' p' (E.ks ++ [r]) (E.ws ++ [u])) N W D := by
  unfold bkAll
  simp
/-- A list of Edges is handed over. -/
theorem Bk.giveE {w0 w : World} {bb n : Nat} {Z R : List Rw} {v : Value} {ys : List E} {xs : List Value} (h : Bk w0 w bb Z (⟨79, 3, v, n, xs⟩ :: R)) (hx : xs = ys.flatMap encE) (hn : n = ys.length) (hl : n ≤ 500000) :
    Calls Tryz.prog 14 #[.pointer (some ⟨bb, 0, none⟩), v] w fun e w' => e = .returned (.tuple #[]) ∧ Bk w0 w' bb (⟨79, 3, v, n, xs⟩ :: Z) R := by
  obtain ⟨I, B, S, E, N, W, D, h1, h2, h3, h4, h5, h6, h7, h8⟩ := h
  subst hx
  have hf : FlOk 79 3 encE E := by assumption
  have hj : (bkL I B S E N W)[5]? = some (E.kd 22) := rfl
  have ht := h1.bkTake hj hf.hl
  have hv1 : v.oneCell' = true := by
    obtain ⟨a, c, e, _⟩ := ht.shape (r := ⟨79, 3, v, n, ys.flatMap encE⟩) (by simp)
    dsimp only at e
    rw [e]; rfl
  obtain ⟨q1, q2⟩ := bkCells_at hj
  refine (addE_any ht (by rw [bkCells_len]; rfl) q1 q2 hn hl hf.h4 hv1).mono ?_
  rintro e w' ⟨rfl, hp⟩
  refine ⟨rfl, ?_⟩
  rcases hp with ⟨_, rfl⟩ | ⟨hm, o', p', u, hr⟩
  · refine ⟨I, B, S, E, N, W, D ++ [⟨79, 3, v, n, ys.flatMap encE⟩], by rw [List.append_assoc]; exact h1, h2, h3, h4, h5, h6.mono (fun x hx => mem_dmono hx), h7.mono (fun x hx => mem_dmono hx), fun x hx => ?_⟩
    rcases List.mem_cons.1 hx with rfl | hx
    · unfold bkAll; simp
    · exact mem_dmono (h8 x hx)
  · have hb := Rws.bkGive (r := ⟨79, 3, v, n, ys.flatMap encE⟩) (u := ⟨79, 3, u, n, ys.flatMap encE⟩) hj hf.hl rfl rfl hr
    have hfp : FlOk 79 3 encE ⟨o', p', E.ks ++ [⟨79, 3, v, n, ys.flatMap encE⟩], E.ws ++ [⟨79, 3, u, n, ys.flatMap encE⟩]⟩ := hf.push hm (ys := ys) rfl rfl rfl rfl (by omega) hn hn rfl rfl
    refine ⟨I, B, S, _, N, W, D, hb, h2, h3, h4, hfp, h6.mono (fun x hx => mem_monoE hx), h7.mono (fun x hx => mem_monoE hx), fun x hx => ?_⟩
    rcases List.mem_cons.1 hx with rfl | hx
    · exact mem_newE
    · exact mem_monoE (h8 x hx)

theorem mem_monoN {I B S E N W : KS} {D : List Rw} {r u x : Rw} {o' p' : Value} (h : x ∈ bkAll I B S E N W D) : x ∈ bkAll I B S E (KS.mk o' p' (N.ks ++ [r]) (N.ws ++ [u])) W D := by
  unfold bkAll at *
  simp only [List.mem_append] at *
  rcases h with h | h | h | h | h | h | h <;> simp [h]
theorem mem_newN {I B S E N W : KS} {D : List Rw} {r u : Rw} {o' p' : Value} : r ∈ bkAll I B S E (KS.mk o' p' (N.ks ++ [r]) (N.ws ++ [u])) W D := by
  unfold bkAll
  simp
theorem mem_monoW {I B S E N W : KS} {D : List Rw} {r u x : Rw} {o' p' : Value} (h : x ∈ bkAll I B S E N W D) : x ∈ bkAll I B S E N (KS.mk o' p' (W.ks ++ [r]) (W.ws ++ [u])) D := by
  unfold bkAll at *
  simp only [List.mem_append] at *
  rcases h with h | h | h | h | h | h | h <;> simp [h]
theorem mem_newW {I B S E N W : KS} {D : List Rw} {r u : Rw} {o' p' : Value} : r ∈ bkAll I B S E N (KS.mk o' p' (W.ks ++ [r]) (W.ws ++ [u])) D := by
  unfold bkAll
  simp
end Go.Proofs.YtkmljelgogcobaaGreatDoor

/-
 Lemmas.
-/
import Derived.Test.YtebmlhaoeldhkaaGreatDoorBkAp
import Derived.Test.YtebmlhaoeldhkaaGreatDoorGBkN
import Derived.Test.YtebmlhaoeldhkaaGreatDoorGBkBoa
import Derived.Test.YtebmlhaoeldhkaaGreatDoorGBkSg
import Derived.Test.YtebmlhaoeldhkaaGreatDoorGTauJ
import Derived.Test.YtebmlhaoeldhkaaGreatDoorGBrP
namespace Go.Proofs.YtebmlhaoeldhkaaGreatDoor
open Go.RowKit Pl
def bkAll (I B S E N W : KS) (D : List Rw) : List Rw := I.ks ++ (B.ks ++ (S.ks ++ (E.ks ++ (N.ks ++ (W.ks ++ D)))))
def Bk (w0 w : World) (bb : Nat) (Z R : List Rw) : Prop :=
 ∃ (I B S E N W : KS) (D : List Rw), Rws w0 w (bkRows bb (bkL I B S E N W) (D ++ R)) /\ FlOk 3 1 encI I /\ FlOk 4 1 encB B /\ FlOk 117 2 encS S /\ FlOk 74 3 encE E /\
   NeOk 3 31 1 encI (bkAll I B S E N W D) N /\ NeOk 117 78 2 encS (bkAll I B S E N W D) W /\ ∀ r ∈ Z, r ∈ bkAll I B S E N W D
section
variable {w0 w w' : World} {bb : Nat} {Z R : List Rw}
theorem mem_bkAll {I B S E N W : KS} {D R : List Rw} {r : Rw} (h : r ∈ bkAll I B S E N W D) : r ∈ bkRows bb (bkL I B S E N W) (D ++ R) := by
 have hk : ∀ {X : KS} {T : TypeId} {j : Nat}, (bkL I B S E N W)[j]? = some (X.kd T) -> r ∈ X.ks -> r ∈ bkRows bb (bkL I B S E N W) (D ++ R) := fun hj hr => (mem_bk hj).2.2 r (List.mem_append_left _ hr)
 unfold bkAll at h
 simp only [List.mem_append] at h
 rcases h with h | h | h | h | h | h | h
 · exact hk (j := 0) rfl h
 · exact hk (j := 3) rfl h
 · exact hk (j := 4) rfl h
 · exact hk (j := 5) rfl h
 · exact hk (j := 8) rfl h
 · exact hk (j := 10) rfl h
 · exact List.mem_cons_of_mem _ (List.mem_append_right _ (List.mem_append_left _ h))
theorem Bk.apart (h : Bk w0 w bb Z R) : Calls Tryz.prog 16 #[.pointer (some ⟨bb, 0, none⟩)] w fun e w' => e = .returned (.bool true) /\ Below w0.heap.size w0 w' := by
 obtain ⟨I, B, S, E, N, W, D, h1, h2, h3, h4, h5, h6, h7, _⟩ := h
 exact apart_any h1 h2 h3 h4 h5 h6 h7 (fun r hr => mem_bkAll hr)
theorem Bk.bel (h : Bk w0 w bb Z R) : Below w0.heap.size w0 w := by
 obtain ⟨I, B, S, E, N, W, D, h1, _⟩ := h
 exact h1.bel
theorem Bk.call (h : Bk w0 w bb Z R) (hB : Below w.heap.size w w') : Bk w0 w' bb Z R := by
 obtain ⟨I, B, S, E, N, W, D, h1, h2⟩ := h
 exact ⟨I, B, S, E, N, W, D, h1.call hB, h2⟩
theorem Bk.own (h : Bk w0 w bb Z R) {r : Rw} (hr : r ∈ Z ∨ r ∈ R) : w.ownsRow w0.heap.size r.T r.k r.v r.n r.xs := by
 obtain ⟨I, B, S, E, N, W, D, h1, _, _, _, _, _, _, h8⟩ := h
 rcases hr with hr | hr
 · exact h1.own r (mem_bkAll (h8 r hr))
 · exact h1.own r (List.mem_cons_of_mem _ (List.mem_append_right _ (List.mem_append_right _ hr)))
theorem bk_tail (I B S E N W : KS) (D : List Rw) {R R' : List Rw} (hp : R.Perm R') : (bkRows bb (bkL I B S E N W) (D ++ R)).Perm (bkRows bb (bkL I B S E N W) (D ++ R')) :=
 ((List.Perm.append_left _ (List.Perm.append_left _ hp))).cons _
theorem Bk.perm (h : Bk w0 w bb Z R) {R' : List Rw} (hp : R.Perm R') : Bk w0 w bb Z R' := by
 obtain ⟨I, B, S, E, N, W, D, h1, h2⟩ := h
 exact ⟨I, B, S, E, N, W, D, h1.perm (bk_tail I B S E N W D hp), h2⟩
theorem Bk.add (h : Bk w0 w bb Z R) {T : TypeId} {k n : Nat} {v : Value} {xs : List Value} (hB : Below w.heap.size w w') (ho : w'.ownsRow w.heap.size T k v n xs) : Bk w0 w' bb Z (⟨T, k, v, n, xs⟩ :: R) := by
 obtain ⟨I, B, S, E, N, W, D, h1, h2⟩ := h
 refine ⟨I, B, S, E, N, W, D, (h1.add hB ho).perm ?_, h2⟩
 have hp := List.perm_middle (a := (⟨T, k, v, n, xs⟩ : Rw)) (l₁ := bkBox bb (bkL I B S E N W) :: ((bkL I B S E N W).flatMap Kd.rs ++ D)) (l₂ := R)
 unfold bkRows
 simp only [List.append_assoc, List.cons_append] at hp ⊢
 exact hp.symm
theorem Bk.join (h : Bk w0 w bb Z R) {N : List Rw} (hN : Rws w w' N) : Bk w0 w' bb Z (N ++ R) := by
 obtain ⟨I, B, S, E, M, W, D, h1, h2⟩ := h
 refine ⟨I, B, S, E, M, W, D, (h1.join hN).perm ?_, h2⟩
 have hp := perm_rot N (bkBox bb (bkL I B S E M W) :: (bkL I B S E M W).flatMap Kd.rs) D R
 have hq : ((D ++ N) ++ R).Perm (D ++ (N ++ R)) := by rw [List.append_assoc]
 unfold bkRows
 simp only [List.append_assoc, List.cons_append] at hp ⊢
 exact hp
theorem Bk.sub (h : Bk w0 w bb Z R) {R' : List Rw} (hs : R'.Sublist R) : Bk w0 w bb Z R' := by
 obtain ⟨I, B, S, E, N, W, D, h1, h2⟩ := h
 exact ⟨I, B, S, E, N, W, D, h1.sub ((List.Sublist.append_left (List.Sublist.append_left hs _) _).cons_cons _), h2⟩
theorem Bk.start (w : World) : Bk w (w.alloc (.cells #[.slice none 0 0, .slice none 0 0, .slice none 0 0, .slice none 0 0, .slice none 0 0, .slice none 0 0, .slice none 0 0, .slice none 0 0, .slice none 0 0, .slice none 0 0, .slice none 0 0, .slice none 0 0, .slice none 0 0, .slice none 0 0, .slice none 0 0, .slice none 0 0, .slice none 0 0, .slice none 0 0, .slice none 0 0, .slice none 0 0, .slice none 0 0, .slice none 0 0] 46)) w.heap.size [] [] := by
 refine ⟨.zero, .zero, .zero, .zero, .zero, .zero, [], ?_, .zero, .zero, .zero, .zero, .zero, .zero, fun r hr => by cases hr⟩
 have h0 := Rws.nil (Below.refl w.heap.size w)
 have h1 := (((((((((((((((((((((h0.addNil 38 1).addNil 38 1).addNil 35 1).addNil 35 1).addNil 34 1).addNil 34 1).addNil 161 1).addNil 161 1).addNil 159 1).addNil 159 1).addNil 22 1).addNil 22 1).addNil 78 1).addNil 78 1).addNil 58 1).addNil 58 1).addNil 157 1).addNil 157 1).addNil 155 1).addNil 155 1).addNil 31 1).addNil 31 1
 have h2 := h1.addLit #[.slice none 0 0, .slice none 0 0, .slice none 0 0, .slice none 0 0, .slice none 0 0, .slice none 0 0, .slice none 0 0, .slice none 0 0, .slice none 0 0, .slice none 0 0, .slice none 0 0, .slice none 0 0, .slice none 0 0, .slice none 0 0, .slice none 0 0, .slice none 0 0, .slice none 0 0, .slice none 0 0, .slice none 0 0, .slice none 0 0, .slice none 0 0, .slice none 0 0] 46 (k := 22) (n := 1) (by decide) rfl
 exact h2
end
theorem Rws.bkTake {w0 w : World} {kds : List Kd} {j bb : Nat} {D R : List Rw} {SL : TypeId} {K : KS} {r : Rw} (h : Rws w0 w (bkRows bb kds (D ++ r :: R))) (hj : kds[j]? = some (K.kd SL)) (hl : K.ks.length = K.ws.length) :
   Rws w0 w (bkBox bb kds :: ⟨SL, 1, K.o, K.ks.length, K.ks.map (·.v)⟩ :: ⟨SL, 1, K.p, K.ks.length, K.ws.map (·.v)⟩ :: r :: ((K.ks ++ K.ws) ++ bkX kds j (D ++ R))) := by
 refine (h.perm (bkRows_perm hj)).perm ?_
 unfold KS.kd Kd.rs bkX
 simp only [List.length_map, List.cons_append]
 rw [<- hl]
 refine ((List.Perm.cons _ ?_).cons _).cons _
 have hp := List.perm_middle (a := r) (l₁ := (K.ks ++ K.ws) ++ ((kds.take j ++ kds.drop (j + 1)).flatMap Kd.rs ++ D)) (l₂ := R)
 simp only [List.append_assoc] at hp ⊢
 exact hp
theorem Rws.bkGive {w0 w : World} {kds : List Kd} {j bb : Nat} {D R : List Rw} {SL : TypeId} {K : KS} {r u : Rw} {o' p' : Value} {cs : List Value} {n : Nat} (hj : kds[j]? = some (K.kd SL)) (hl : K.ks.length = K.ws.length) (hc : cs = ((bkCells kds).set (j * 2) o').set (j * 2 + 1) p') (hn : n = K.ks.length + 1)
   (h : Rws w0 w (⟨46, 22, .slice (some ⟨bb, 0, none⟩) 1 1, 1, cs⟩ :: ⟨SL, 1, o', n, K.ks.map (·.v) ++ [r.v]⟩ :: ⟨SL, 1, p', n, K.ws.map (·.v) ++ [u.v]⟩ :: r :: u :: ((K.ks ++ K.ws) ++ bkX kds j (D ++ R)))) :
   Rws w0 w (bkRows bb (kds.set j ((KS.mk o' p' (K.ks ++ [r]) (K.ws ++ [u])).kd SL)) (D ++ R)) := by
 refine h.perm (List.Perm.trans ?_ (bkRows_perm' (bb := bb) (D := D ++ R) (K' := (KS.mk o' p' (K.ks ++ [r]) (K.ws ++ [u])).kd SL) hj).symm)
 have e : bkBox bb (kds.set j ((KS.mk o' p' (K.ks ++ [r]) (K.ws ++ [u])).kd SL)) = ⟨46, 22, .slice (some ⟨bb, 0, none⟩) 1 1, 1, cs⟩ := by
   unfold bkBox
   rw [bkCells_set hj, hc]
   rfl
 rw [e]
 unfold KS.kd Kd.rs
 simp only [List.map_append, List.map_cons, List.map_nil, List.length_append, List.length_map, List.length_cons, List.length_nil, List.cons_append]
 rw [hn, <- hl]
 refine ((List.Perm.cons _ ?_).cons _).cons _
 have h1 := List.perm_middle (a := r) (l₁ := K.ks) (l₂ := K.ws ++ (u :: bkX kds j (D ++ R)))
 have h2 := List.perm_middle (a := u) (l₁ := K.ks ++ K.ws) (l₂ := bkX kds j (D ++ R))
 simp only [List.append_assoc, List.cons_append, List.nil_append] at h1 h2 ⊢
 exact (h2.symm.cons r).trans h1.symm
theorem mem_dmono {I B S E N W : KS} {D : List Rw} {r x : Rw} (h : x ∈ bkAll I B S E N W D) : x ∈ bkAll I B S E N W (D ++ [r]) := by
 unfold bkAll at *
 simp only [List.mem_append] at *
 rcases h with h | h | h | h | h | h | h <;> simp [h]
theorem mem_monoB {I B S E N W : KS} {D : List Rw} {r u x : Rw} {o' p' : Value} (h : x ∈ bkAll I B S E N W D) : x ∈ bkAll I (KS.mk o' p' (B.ks ++ [r]) (B.ws ++ [u])) S E N W D := by
 unfold bkAll at *
 simp only [List.mem_append] at *
 rcases h with h | h | h | h | h | h | h <;> simp [h]
theorem mem_newB {I B S E N W : KS} {D : List Rw} {r u : Rw} {o' p' : Value} : r ∈ bkAll I (KS.mk o' p' (B.ks ++ [r]) (B.ws ++ [u])) S E N W D := by
 unfold bkAll
 simp
theorem Bk.giveB {w0 w : World} {bb n : Nat} {Z R : List Rw} {v : Value} {ys : List Bool} {xs : List Value} (h : Bk w0 w bb Z (⟨4, 1, v, n, xs⟩ :: R)) (hx : xs = ys.flatMap encB) (hn : n = ys.length) (hl : n <= 500000) :
   Calls Tryz.prog 27 #[.pointer (some ⟨bb, 0, none⟩), v] w fun e w' => e = .returned (.tuple #[]) /\ Bk w0 w' bb (⟨4, 1, v, n, xs⟩ :: Z) R := by
 obtain ⟨I, B, S, E, N, W, D, h1, h2, h3, h4, h5, h6, h7, h8⟩ := h
 subst hx
 have hf : FlOk 4 1 encB B := by assumption
 have hj : (bkL I B S E N W)[3]? = some (B.kd 58) := rfl
 have ht := h1.bkTake hj hf.hl
 have hv1 : v.oneCell' = true := by
   obtain ⟨a, c, e, _⟩ := ht.shape (r := ⟨4, 1, v, n, ys.flatMap encB⟩) (by simp)
   dsimp only at e
   rw [e]; rfl
 obtain ⟨q1, q2⟩ := bkCells_at hj
 refine (addB_any ht (by rw [bkCells_len]; rfl) q1 q2 hn hl hf.h4 hv1).mono ?_
 rintro e w' ⟨rfl, hp⟩
 refine ⟨rfl, ?_⟩
 rcases hp with ⟨_, rfl⟩ | ⟨hm, o', p', u, hr⟩
 · refine ⟨I, B, S, E, N, W, D ++ [⟨4, 1, v, n, ys.flatMap encB⟩], by rw [List.append_assoc]; exact h1, h2, h3, h4, h5, h6.mono (fun x hx => mem_dmono hx), h7.mono (fun x hx => mem_dmono hx), fun x hx => ?_⟩
   rcases List.mem_cons.1 hx with rfl | hx
   · unfold bkAll; simp
   · exact mem_dmono (h8 x hx)
 · have hb := Rws.bkGive (r := ⟨4, 1, v, n, ys.flatMap encB⟩) (u := ⟨4, 1, u, n, ys.flatMap encB⟩) hj hf.hl rfl rfl hr
   have hfp : FlOk 4 1 encB ⟨o', p', B.ks ++ [⟨4, 1, v, n, ys.flatMap encB⟩], B.ws ++ [⟨4, 1, u, n, ys.flatMap encB⟩]⟩ := hf.push hm (ys := ys) rfl rfl rfl rfl (by omega) hn hn rfl rfl
   refine ⟨I, _, S, E, N, W, D, hb, h2, hfp, h4, h5, h6.mono (fun x hx => mem_monoB hx), h7.mono (fun x hx => mem_monoB hx), fun x hx => ?_⟩
   rcases List.mem_cons.1 hx with rfl | hx
   · exact mem_newB
   · exact mem_monoB (h8 x hx)
theorem mem_monoS {I B S E N W : KS} {D : List Rw} {r u x : Rw} {o' p' : Value} (h : x ∈ bkAll I B S E N W D) : x ∈ bkAll I B (KS.mk o' p' (S.ks ++ [r]) (S.ws ++ [u])) E N W D := by
 unfold bkAll at *
 simp only [List.mem_append] at *
 rcases h with h | h | h | h | h | h | h <;> simp [h]
theorem mem_newS {I B S E N W : KS} {D : List Rw} {r u : Rw} {o' p' : Value} : r ∈ bkAll I B (KS.mk o' p' (S.ks ++ [r]) (S.ws ++ [u])) E N W D := by
 unfold bkAll
 simp
theorem Bk.giveS {w0 w : World} {bb n : Nat} {Z R : List Rw} {v : Value} {ys : List S} {xs : List Value} (h : Bk w0 w bb Z (⟨117, 2, v, n, xs⟩ :: R)) (hx : xs = ys.flatMap encS) (hn : n = ys.length) (hl : n <= 500000) :
   Calls Tryz.prog 105 #[.pointer (some ⟨bb, 0, none⟩), v] w fun e w' => e = .returned (.tuple #[]) /\ Bk w0 w' bb (⟨117, 2, v, n, xs⟩ :: Z) R := by
 obtain ⟨I, B, S, E, N, W, D, h1, h2, h3, h4, h5, h6, h7, h8⟩ := h
 subst hx
 have hf : FlOk 117 2 encS S := by assumption
 have hj : (bkL I B S E N W)[4]? = some (S.kd 78) := rfl
 have ht := h1.bkTake hj hf.hl
 have hv1 : v.oneCell' = true := by
   obtain ⟨a, c, e, _⟩ := ht.shape (r := ⟨117, 2, v, n, ys.flatMap encS⟩) (by simp)
   dsimp only at e
   rw [e]; rfl
 obtain ⟨q1, q2⟩ := bkCells_at hj
 refine (addS_any ht (by rw [bkCells_len]; rfl) q1 q2 hn hl hf.h4 hv1).mono ?_
 rintro e w' ⟨rfl, hp⟩
 refine ⟨rfl, ?_⟩
 rcases hp with ⟨_, rfl⟩ | ⟨hm, o', p', u, hr⟩
 · refine ⟨I, B, S, E, N, W, D ++ [⟨117, 2, v, n, ys.flatMap encS⟩], by rw [List.append_assoc]; exact h1, h2, h3, h4, h5, h6.mono (fun x hx => mem_dmono hx), h7.mono (fun x hx => mem_dmono hx), fun x hx => ?_⟩
   rcases List.mem_cons.1 hx with rfl | hx
   · unfold bkAll; simp
   · exact mem_dmono (h8 x hx)
 · have hb := Rws.bkGive (r := ⟨117, 2, v, n, ys.flatMap encS⟩) (u := ⟨117, 2, u, n, ys.flatMap encS⟩) hj hf.hl rfl rfl hr
   have hfp : FlOk 117 2 encS ⟨o', p', S.ks ++ [⟨117, 2, v, n, ys.flatMap encS⟩], S.ws ++ [⟨117, 2, u, n, ys.flatMap encS⟩]⟩ := hf.push hm (ys := ys) rfl rfl rfl rfl (by omega) hn hn rfl rfl
   refine ⟨I, B, _, E, N, W, D, hb, h2, h3, hfp, h5, h6.mono (fun x hx => mem_monoS hx), h7.mono (fun x hx => mem_monoS hx), fun x hx => ?_⟩
   rcases List.mem_cons.1 hx with rfl | hx
   · exact mem_newS
   · exact mem_monoS (h8 x hx)
theorem mem_monoW {I B S E N W : KS} {D : List Rw} {r u x : Rw} {o' p' : Value} (h : x ∈ bkAll I B S E N W D) : x ∈ bkAll I B S E N (KS.mk o' p' (W.ks ++ [r]) (W.ws ++ [u])) D := by
 unfold bkAll at *
 simp only [List.mem_append] at *
 rcases h with h | h | h | h | h | h | h <;> simp [h]
theorem mem_newW {I B S E N W : KS} {D : List Rw} {r u : Rw} {o' p' : Value} : r ∈ bkAll I B S E N (KS.mk o' p' (W.ks ++ [r]) (W.ws ++ [u])) D := by
 unfold bkAll
 simp
theorem Bk.giveW {w0 w : World} {bb n : Nat} {Z R : List Rw} {v : Value} {xs : List Value} (h : Bk w0 w bb Z (⟨78, 1, v, n, xs⟩ :: R)) (hl : n <= 500000) (hin : ∀ x ∈ xs, ∃ q ∈ Z, q.v = x /\ q.T = 117 /\ q.k = 2 /\ ∃ ys : List S, ys.length <= 500000 /\ q.n = ys.length /\ q.xs = ys.flatMap encS) :
   Calls Tryz.prog 106 #[.pointer (some ⟨bb, 0, none⟩), v] w fun e w' => e = .returned (.tuple #[]) /\ Bk w0 w' bb (⟨78, 1, v, n, xs⟩ :: Z) R := by
 obtain ⟨I, B, S, E, N, W, D, h1, h2, h3, h4, h5, h6, h7, h8⟩ := h
 have hf : NeOk 117 78 2 encS (bkAll I B S E N W D) W := by assumption
 have hj : (bkL I B S E N W)[10]? = some (W.kd 38) := rfl
 have ht := h1.bkTake hj hf.hl
 obtain ⟨va, vc, hvv, _, _, _, _, hxl⟩ := ht.shape (r := ⟨78, 1, v, n, xs⟩) (by simp)
 dsimp only at hvv hxl
 have hv1 : v.oneCell' = true := by rw [hvv]; rfl
 have hone : ∀ x ∈ xs, x.oneCell' = true := fun x hx => by
   obtain ⟨q, hq, rfl, _⟩ := hin x hx
   obtain ⟨a, c, e, _⟩ := h1.shape (mem_bkAll (h8 q hq))
   rw [e]; rfl
 obtain ⟨q1, q2⟩ := bkCells_at hj
 refine (addW_any ht (by rw [bkCells_len]; rfl) q1 q2 (by omega) hl hf.h4 hv1 hone).mono ?_
 rintro e w' ⟨rfl, hp⟩
 refine ⟨rfl, ?_⟩
 rcases hp with ⟨_, rfl⟩ | ⟨hm, o', p', u, hr⟩
 · refine ⟨I, B, S, E, N, W, D ++ [⟨78, 1, v, n, xs⟩], by rw [List.append_assoc]; exact h1, h2, h3, h4, h5, h6.mono (fun x hx => mem_dmono hx), h7.mono (fun x hx => mem_dmono hx), fun x hx => ?_⟩
   rcases List.mem_cons.1 hx with rfl | hx
   · unfold bkAll; simp
   · exact mem_dmono (h8 x hx)
 · have hb := Rws.bkGive (r := ⟨78, 1, v, n, xs⟩) (u := ⟨78, 1, u, n, xs⟩) hj hf.hl rfl rfl hr
   have hfp : NeOk 117 78 2 encS (bkAll I B S E N W D) ⟨o', p', W.ks ++ [⟨78, 1, v, n, xs⟩], W.ws ++ [⟨78, 1, u, n, xs⟩]⟩ := hf.push hm rfl rfl rfl rfl rfl rfl hl (fun x hx => by
     obtain ⟨q, hq, y⟩ := hin x hx
     exact ⟨q, h8 q hq, y⟩)
   refine ⟨I, B, S, E, N, _, D, hb, h2, h3, h4, h5, h6.mono (fun x hx => mem_monoW hx), hfp.mono (fun x hx => mem_monoW hx), fun x hx => ?_⟩
   rcases List.mem_cons.1 hx with rfl | hx
   · exact mem_newW
   · exact mem_monoW (h8 x hx)
end Go.Proofs.YtebmlhaoeldhkaaGreatDoor
namespace Go.Proofs.YtebmlhaoeldhkaaGreatDoor
open Go.RowKit Pl
section
variable {s : Lts} {n : Nat} {f : Nat -> Int} {D : List Nat}
structure BlkO (s : Lts) (n : Nat) (f : Nat -> Int) (D : List Nat) : Prop where
 right : s.Right
 st : s.st = (n : Int)
 cyc : Cyc s n f
 ord : OrdL (col s (fl n (clf n f))) (dist (fl n f)).length D
 all : ∀ k, k < (dist (fl n f)).length -> k ∈ D
def blkO (n : Nat) (f : Nat -> Int) (k : Nat) : List Nat := clsM (fl n (clf n f)) n k
def ordO (n : Nat) (f : Nat -> Int) (D : List Nat) : List Nat := D.flatMap (blkO n f)
def offO (n : Nat) (f : Nat -> Int) (D : List Nat) (d : Nat) : Nat := (ordO n f (D.take d)).length
theorem mem_blkO {x k : Nat} : x ∈ blkO n f k ↔ x < n /\ asF n f x = k := by
 unfold blkO
 rw [mem_clsM]
 constructor
 · rintro ⟨h1, h2⟩
   rw [fl_get _ h1, asF_eq h1] at h2
   simp only [Option.some.injEq] at h2
   exact ⟨h1, by omega⟩
 · rintro ⟨h1, rfl⟩
   exact ⟨h1, by rw [fl_get _ h1, asF_eq h1]⟩
theorem mem_ordO {x : Nat} {L : List Nat} : x ∈ ordO n f L ↔ x < n /\ asF n f x ∈ L := by
 unfold ordO
 rw [List.mem_flatMap]
 constructor
 · rintro ⟨k, hk, hx⟩
   obtain ⟨h1, rfl⟩ := mem_blkO.1 hx
   exact ⟨h1, hk⟩
 · rintro ⟨h1, h2⟩
   exact ⟨_, h2, mem_blkO.2 ⟨h1, rfl⟩⟩
theorem ordO_K (n : Nat) (f : Nat -> Int) (D : List Nat) : (D.flatMap fun k : Nat => memK (fl n (clf n f)) n (k : Int)) = (ordO n f D).map Int.ofNat := flat_N _ _ _
theorem BlkO.nodup (h : BlkO s n f D) : D.Nodup := h.ord.nodup
theorem BlkO.rng (h : BlkO s n f D) {k : Nat} (hk : k ∈ D) : k < (dist (fl n f)).length := h.ord.rng k hk
theorem BlkO.len (h : BlkO s n f D) : (ordO n f D).length = n := by
 have h1 := flat_le (fl n (clf n f)) n h.nodup
 have h2 := flat_all (C := fl n (clf n f)) (n := n) (M := (dist (fl n f)).length) (fun x hx => cls_in hx) h.all
 rw [ordO_K, List.length_map] at h1 h2
 omega
theorem BlkO.blk_pos (h : BlkO s n f D) {k : Nat} (hk : k ∈ D) : 0 < (blkO n f k).length := by
 have := memK_pos (cls_onto (h.rng hk))
 rw [memK_N, List.length_map] at this
 exact this
theorem offO_zero : offO n f D 0 = 0 := by simp [offO, ordO]
theorem take_succ {d k : Nat} (hd : D[d]? = some k) : D.take (d + 1) = D.take d ++ [k] := by rw [List.take_add_one, hd]; rfl
theorem ordO_succ {d k : Nat} (hd : D[d]? = some k) : ordO n f (D.take (d + 1)) = ordO n f (D.take d) ++ blkO n f k := by
 rw [take_succ hd]; simp [ordO]
theorem offO_succ {d k : Nat} (hd : D[d]? = some k) : offO n f D (d + 1) = offO n f D d + (blkO n f k).length := by
 unfold offO; rw [ordO_succ hd, List.length_append]
theorem ordO_split {d k : Nat} (hd : D[d]? = some k) : ordO n f D = ordO n f (D.take d) ++ (blkO n f k ++ ordO n f (D.drop (d + 1))) := by
 have h2 : ordO n f D = ordO n f (D.take (d + 1)) ++ ordO n f (D.drop (d + 1)) := by
   unfold ordO
   rw [<- List.flatMap_append, List.take_append_drop]
 rw [h2, ordO_succ hd, List.append_assoc]
theorem ordO_at {d k j : Nat} (hd : D[d]? = some k) (hj : j < (blkO n f k).length) : (ordO n f D)[offO n f D d + j]? = (blkO n f k)[j]? := by
 rw [ordO_split hd]
 unfold offO
 rw [List.getElem?_append_right (by omega), Nat.add_sub_cancel_left, List.getElem?_append_left hj]
theorem BlkO.more (h : BlkO s n f D) {d : Nat} (hd : offO n f D d < n) : ∃ k, D[d]? = some k := by
 by_cases hl : d < D.length
 · exact ⟨D[d], List.getElem?_eq_getElem hl⟩
 · exfalso
   have := h.len
   unfold offO at hd
   rw [List.take_of_length_le (by omega)] at hd
   omega
theorem BlkO.off_le (h : BlkO s n f D) {d k : Nat} (hd : D[d]? = some k) : offO n f D d + (blkO n f k).length <= n := by
 have h1 := h.len
 rw [ordO_split hd, List.length_append, List.length_append] at h1
 unfold offO
 omega
theorem BlkO.next (h : BlkO s n f D) {d k y : Nat} (hd : D[d]? = some k) (hy : (ordO n f D)[offO n f D d + (blkO n f k).length]? = some y) : y < n /\ asF n f y ≠ k := by
 rw [ordO_split hd] at hy
 unfold offO at hy
 rw [List.getElem?_append_right (by omega), Nat.add_sub_cancel_left, List.getElem?_append_right (by omega), Nat.sub_self] at hy
 have h1 := mem_ordO.1 (List.mem_of_getElem? hy)
 refine ⟨h1.1, fun e => ?_⟩
 rw [e] at h1
 have h2 := h.nodup
 rw [show D = D.take (d + 1) ++ D.drop (d + 1) from (List.take_append_drop _ _).symm, List.nodup_append] at h2
 exact h2.2.2 k (by rw [take_succ hd]; simp) k h1.2 rfl
theorem BlkO.ahead (h : BlkO s n f D) {d k p t : Nat} (hd : D[d]? = some k) (hp : p < n) (hpk : asF n f p = k) (hs : tau s p t) (hne : asF n f t ≠ k) : t ∈ ordO n f (D.take d) := by
 have hl := stp_lt h.right h.st hs
 refine mem_ordO.2 ⟨hl.2.1, ?_⟩
 have h1 : tau (col s (fl n (clf n f))) k (asF n f t) := (stp_col h.right h.st).2 ⟨p, t, hp, hl.2.1, hs, hpk, rfl, fun e => hne e.2.symm⟩
 exact h.ord.ahead (col_right h.right h.st) (col_srt _ _) d k _ hd h1
theorem BlkO.same (h : BlkO s n f D) {x y : Nat} (hx : x < n) (hy : y < n) (e : asF n f x = asF n f y) : TR s x y /\ TR s y x := (asF_same h.cyc hx hy).1 e
theorem BlkO.of_ord {g : Nat -> Int} (hr : s.Right) (hn : s.st = (n : Int)) (hf : Cyc s n f) (hg : Cyc s n g) (hD : OrdL (col s (fl n (clf n g))) (dist (fl n (clf n g))).length D) (hall : ∀ k, k < (dist (fl n (clf n g))).length -> k ∈ D) :
   BlkO s n f D /\ fl n (clf n g) = fl n (clf n f) := by
 have e : fl n (clf n g) = fl n (clf n f) := by rw [<- canon_fl, <- canon_fl]; exact hg.unique hf
 rw [e, dist_clf_len] at hD hall
 exact ⟨⟨hr, hn, hf, hD, hall⟩, e⟩
end
theorem stp_normO {s : Lts} {p t : Nat} {l : Int} : stp s.norm p l t ↔ stp s p l t := by
 unfold stp Lts.norm
 simp only
 rw [mem_nf stoE]
end Go.Proofs.YtebmlhaoeldhkaaGreatDoor
namespace Go.Proofs.YtebmlhaoeldhkaaGreatDoor
open Go.RowKit Pl
namespace Pl
def inertE (C : Nat -> Int) (x : E) : Bool := decide (x.2.1 = 0) && decide (C x.2.2.toNat = C x.1.toNat)
def stillS (s : Lts) (C : Nat -> Int) : Lts := { s with es := s.es.filter (inertE C) }
theorem stillS_right {s : Lts} (h : s.Right) (C : Nat -> Int) : (stillS s C).Right := by
 have hr := h.st0
 refine ⟨?_, fun x hx => h.edges x (List.mem_filter.1 hx).1⟩
 have := List.length_filter_le (inertE C) s.es
 unfold HeadBad stillS
 simp only
 omega
theorem tau_still {s : Lts} {C : Nat -> Int} {x y : Nat} : tau (stillS s C) x y ↔ stp s x 0 y /\ C y = C x := by
 unfold tau stillS stp
 simp [List.mem_filter, inertE]
def shareC (C : Nat -> Int) (g : Nat -> Nat) (F : Nat -> List S) (p : Nat) (x : S) : List S :=
 if x.1 = 0 /\ C x.2.toNat = C p then (if g x.2.toNat = g p then [] else F x.2.toNat) else [(x.1, C x.2.toNat)]
def actC (s : Lts) (C : Nat -> Int) (g : Nat -> Nat) (F : Nat -> List S) (q : Nat) : List S := (s.outs (q : Int)).flatMap (shareC C g F q)
theorem sig_cyc {s t : Lts} {n : Nat} (hr : s.Right) (hn : s.st = (n : Int)) {C : Nat -> Int} {f : Nat -> Int} (ht : ∀ x y, tau t x y ↔ stp s x 0 y /\ C y = C x) (hc : Cyc t n f) {F : Nat -> List S} {k : Nat}
   (hF : ∀ p u, p < n -> asF n f p = k -> tau t p u -> asF n f u ≠ k -> SigOk s C u (F u)) {p : Nat} (hp : p < n) (hpk : asF n f p = k) :
   SigOk s C p (nf ltS ((blkO n f k).flatMap (actC s C (asF n f) F))) := by
 refine ⟨srt_nf stoS _, fun l e => ?_⟩
 rw [mem_nf stoS, List.mem_flatMap]
 constructor
 · rintro ⟨q, hq, h1⟩
   obtain ⟨hqn, hqk⟩ := mem_blkO.1 hq
   have hpq := (asF_same hc hp hqn).1 (by rw [hpk, hqk])
   have hvia : ∀ z, TR t p z -> Via s (fun x => C x = C p) p z := by
     intro z hz
     induction hz with
     | refl => exact .refl rfl
     | tail h3 h4 ih =>
       have h5 := (ht _ _).1 h4
       exact .tail ih h5.1 (by rw [h5.2, ih.last])
   refine Sg.via (hvia q hpq.1) ?_
   obtain ⟨⟨a, b⟩, h2, h3⟩ := List.mem_flatMap.1 h1
   have h4 : ((q : Int), a, b) ∈ s.es := mem_outs.1 h2
   have h5 := offB_false.1 (hr.edges _ h4)
   simp only at h5
   obtain ⟨u, rfl⟩ := Int.eq_ofNat_of_zero_le h5.2.2.2.2.1
   unfold shareC at h3
   simp only [Int.toNat_natCast] at h3
   split at h3
   · rename_i hi
     obtain ⟨rfl, hi⟩ := hi
     split at h3
     · cases h3
     · rename_i hne
       have htu := (ht q u).2 ⟨h4, hi⟩
       exact .on h4 hi (((hF q u hqn hqk htu (by rw [<- hqk]; exact hne)).mem l e).1 h3)
   · rename_i hi
     simp only [List.mem_singleton, Prod.mk.injEq] at h3
     obtain ⟨rfl, rfl⟩ := h3
     exact .here h4 hi
 · intro h
   induction h with
   | @here q u l h1 h2 =>
     refine ⟨q, mem_blkO.2 ⟨hp, hpk⟩, List.mem_flatMap.2 ⟨(l, (u : Int)), mem_outs.2 h1, ?_⟩⟩
     unfold shareC; simp only [Int.toNat_natCast]; rw [if_neg h2]; simp
   | @on q u l e h1 h2 h3 ih =>
     by_cases hk : asF n f u = k
     · exact ih (stp_lt hr hn h1).2.1 hk
     · refine ⟨q, mem_blkO.2 ⟨hp, hpk⟩, List.mem_flatMap.2 ⟨(0, (u : Int)), mem_outs.2 h1, ?_⟩⟩
       unfold shareC; simp only [Int.toNat_natCast]
       rw [if_pos ⟨trivial, h2⟩, if_neg (by rw [hpk]; exact hk)]
       exact ((hF q u hp hpk ((ht q u).2 ⟨h1, h2⟩) hk).mem l e).2 h3
/-! how long the lists get -/
theorem flat_take_le {α β : Type} (f : α -> List β) (L : List α) (r : Nat) : ((L.take r).flatMap f).length <= (L.flatMap f).length := by
 conv => rhs; rw [<- List.take_append_drop r L]
 rw [List.flatMap_append, List.length_append]; omega
theorem outs_cons (x : E) (es : List E) (a b c : Int) (q : Int) : (Lts.outs ⟨a, b, c, x :: es⟩ q).length = (Lts.outs ⟨a, b, c, es⟩ q).length + (if x.1 = q then 1 else 0) := by
 unfold Lts.outs
 simp only [List.length_map, List.filter_cons]
 by_cases h : x.1 = q
 · simp [h]
 · simp [h]
theorem flat_len_add (x : E) (es : List E) (a b c : Int) : ∀ L : List Nat, L.Nodup -> (L.flatMap (fun q : Nat => Lts.outs ⟨a, b, c, x :: es⟩ (q : Int))).length <= (L.flatMap (fun q : Nat => Lts.outs ⟨a, b, c, es⟩ (q : Int))).length + (if x.1.toNat ∈ L then 1 else 0)
 | [], _ => by simp
 | q :: L, hn => by
   have hn2 := List.nodup_cons.1 hn
   have ih := flat_len_add x es a b c L hn2.2
   rw [List.flatMap_cons, List.flatMap_cons, List.length_append, List.length_append, outs_cons]
   by_cases h : x.1 = (q : Int)
   · have e : x.1.toNat = q := by omega
     rw [e] at ih ⊢
     rw [if_neg hn2.1] at ih
     rw [if_pos h, if_pos (by simp)]
     omega
   · rw [if_neg h]
     by_cases h2 : x.1.toNat ∈ L
     · rw [if_pos h2] at ih; rw [if_pos (by simp [h2])]; omega
     · rw [if_neg h2] at ih; omega
theorem outs_blk_le (L : List Nat) (hn : L.Nodup) (a b c : Int) : ∀ es : List E, (L.flatMap (fun q : Nat => Lts.outs ⟨a, b, c, es⟩ (q : Int))).length <= es.length
 | [] => by
   have : L.flatMap (fun q : Nat => Lts.outs ⟨a, b, c, []⟩ (q : Int)) = [] := by
     rw [List.flatMap_eq_nil_iff]; intro q _; rfl
   rw [this]; simp
 | x :: es => by
   have h1 := flat_len_add x es a b c L hn
   have h2 := outs_blk_le L hn a b c es
   rw [List.length_cons]
   split at h1 <;> omega
theorem shareC_len {C : Nat -> Int} {g : Nat -> Nat} {F : Nat -> List S} {k : Nat} (hk : 1 <= k) (hF : ∀ t, (F t).length <= k) (p : Nat) : ∀ L : List S, (L.flatMap (shareC C g F p)).length <= L.length * k
 | [] => by simp
 | x :: L => by
   have ih := shareC_len (C := C) (g := g) hk hF p L
   have h1 : (shareC C g F p x).length <= k := by
     unfold shareC
     split
     · split
       · simp
       · exact hF _
     · simpa using hk
   rw [List.flatMap_cons, List.length_append, List.length_cons, Nat.succ_mul]; omega
theorem actC_len {s : Lts} {C : Nat -> Int} {g : Nat -> Nat} {F : Nat -> List S} {k : Nat} (hk : 1 <= k) (hF : ∀ t, (F t).length <= k) : ∀ L : List Nat, (L.flatMap (actC s C g F)).length <= (L.flatMap (fun q : Nat => s.outs (q : Int))).length * k
 | [] => by simp
 | q :: L => by
   have ih := actC_len (s := s) (C := C) (g := g) hk hF L
   have h1 := shareC_len (C := C) (g := g) hk hF q (s.outs (q : Int))
   rw [List.flatMap_cons, List.flatMap_cons, List.length_append, List.length_append, Nat.add_mul]
   unfold actC at ih ⊢
   omega
theorem blk_nodup {n : Nat} {f : Nat -> Int} (k : Nat) : (blkO n f k).Nodup := List.Nodup.sublist List.filter_sublist List.nodup_range
theorem actC_blk {s : Lts} {n : Nat} {f C : Nat -> Int} {g : Nat -> Nat} {F : Nat -> List S} (he : s.es.length <= 900) (hF : ∀ t, (F t).length <= 900) (k : Nat) : ((blkO n f k).flatMap (actC s C g F)).length <= 900 * 900 := by
 have h1 := actC_len (s := s) (C := C) (g := g) (by omega) hF (blkO n f k)
 have h2 := outs_blk_le (blkO n f k) (blk_nodup k) s.st s.lb s.s0 s.es
 refine Nat.le_trans h1 (Nat.mul_le_mul_right _ (Nat.le_trans h2 he))
end Pl
end Go.Proofs.YtebmlhaoeldhkaaGreatDoor

/-
  Lemmas.
-/
import Derived.Test.YtgikimbafakmcaaGreatDoorGBkBop
import Derived.BigRegion
import Derived.Test.YtgikimbafakmcaaGreatDoorGBkB
import Derived.Deep.RegionLaw
import Derived.Test.YtgikimbafakmcaaGreatDoorGBkLow
import Derived.Test.YtgikimbafakmcaaGreatDoorGBkN
import Derived.Test.YtgikimbafakmcaaGreatDoorBkAq
import Derived.Test.YtgikimbafakmcaaGreatDoorGLentS
namespace Go.Proofs.YtgikimbafakmcaaGreatDoor
open Go.RowKit Pl
open Lib (hid)
theorem oneE_bka (x : E) : ∀ u ∈ encE x, u.oneCell' = true := by intro u hu; simp [encE] at hu; first | (subst hu; rfl) | (rcases hu with rfl | rfl <;> rfl) | (rcases hu with rfl | rfl | rfl <;> rfl)
set_option maxRecDepth 100000 in
set_option maxHeartbeats 8000000 in
theorem addE_any {w0 w : World} {bb n m : Nat} {cs : List Value} {o p v : Value} {vs us : List Value} {ys : List E} {rest : List Rw}
    (h : Rws w0 w (⟨44, 22, .slice (some ⟨bb, 0, none⟩) 1 1, 1, cs⟩ :: ⟨22, 1, o, m, vs⟩ :: ⟨22, 1, p, m, us⟩ :: ⟨57, 3, v, n, ys.flatMap encE⟩ :: rest)) (hcl : cs.length = 22) (hc : cs[10]? = some o) (hc1 : cs[11]? = some p) (hn : n = ys.length) (hnm : n <= 500000) (hm : m <= 400) (hv1 : v.oneCell' = true) :
    Calls Tryz.prog 11 #[.pointer (some ⟨bb, 0, none⟩), v] w fun e w' => e = .returned (.tuple #[]) /\ AddP w0 w w' 57 22 3 bb 10 11 m n cs vs us v (ys.flatMap encE) rest := by
 obtain ⟨oa, oc, hov, _, _, _, _, _⟩ := h.shape (r := ⟨22, 1, o, m, vs⟩) (by simp)
 obtain ⟨pa, pc, hpv, _, _, _, _, _⟩ := h.shape (r := ⟨22, 1, p, m, us⟩) (by simp)
 dsimp only at hov hpv
 subst hov hpv
 have b0 := h.cell (i := 0) rfl hc
 have f0 := h.fz (i := 0) rfl 10
 have hbl := (h.lt (i := 0) rfl).2
 by_cases hlt : m < 400
 · have hltI : (m : Int) < 400 := by omega
   have hltB : decide ((m : Int) < 400) = true := by simp [hltI]
   obtain ⟨va, vc, hvv, _⟩ := h.shape (r := ⟨57, 3, v, n, ys.flatMap encE⟩) (by simp)
   dsimp only at hvv
   subst hvv
   have H := hid h; have HC1 := hid hc1; have HN := hid hn; have HC := hid hc; have HCL := hid hcl
   have hsz := h.bel.size
   clear h hc1 hn hc hv1 hcl
   go_enter Tryz.func11, Tryz.ntmps11
   go_wp2_with (at_builtin; refine wpList_lie rfl _ _ 37 rfl rowEE_bk (base := w0.heap.size) (by simp; omega) rfl ((H.out.alloc _).get (i := 1) rfl) ⟨w.heap.size, 0, none⟩ 1 1 [.slice va n vc] rfl rfl (cells1 (by simp [go_sem])) (by simp [Value.oneCell']) (by decide) (by dsimp only; omega) (by dsimp only; unfold maxLen; omega) w.heap.size (by simp) ?_; intro g cap w4 hown4 hg4 hgg4 hlt4; have hR4 := H.out.grown ((Below.refl w.heap.size w).alloc (Nat.le_refl _) _) 1 rfl hown4 hg4 (fun b hb => by simp only [Value.ownBlock, Option.some.injEq] at hb; subst hb; exact hgg4); have c0 := hR4.cell (i := 0) rfl HC.out; have c1 := hR4.fz (i := 0) rfl 10; have c2 := (hR4.lt (i := 0) rfl).2; have HR4 := hid hR4; clear hown4 hg4 hgg4 hlt4 hR4)
   obtain ⟨W, hW⟩ : ∃ W, W = w4.setCell ⟨bb, 10, none⟩ (.slice (some ⟨g, 0, none⟩) (m + 1) cap) := ⟨_, rfl⟩
   have HR5 : Hid (Rws w0 W (⟨44, 22, .slice (some ⟨bb, 0, none⟩) 1 1, 1, cs.set 10 (.slice (some ⟨g, 0, none⟩) (m + 1) cap)⟩ :: ⟨22, 1, .slice (some ⟨g, 0, none⟩) (m + 1) cap, m + 1, vs ++ [.slice va n vc]⟩ :: ⟨22, 1, .slice pa m pc, m, us⟩ :: ⟨57, 3, .slice va n vc, n, ys.flatMap encE⟩ :: rest)) := hid (by
     have := HR4.out.set 0 rfl 10 (.slice (some ⟨g, 0, none⟩) (m + 1) cap)
     rw [hW]; exact this)
   rw [<- hW]
   have d0 := HR5.out.cell (i := 0) (j := 11) (u := .slice pa m pc) rfl (by rw [List.getElem?_set, if_neg (by decide)]; exact HC1.out)
   have d1 := HR5.out.fz (i := 0) rfl 11
   have d2 := (HR5.out.lt (i := 0) rfl).2
   have hsW := HR5.out.bel.size
   obtain ⟨va2, vc2, vb2, hv2, _, _, hvs, _⟩ := HR5.out.sl (i := 3) rfl lenE HN.out
   simp only [Value.slice.injEq] at hv2
   obtain ⟨rfl, hnl, rfl⟩ := hv2
   have HVS := hid hvs
   clear hnl hW HR4 H hvs c0 c1 c2 b0 f0 hbl
   have KD : Hid (∀ V, Below W.heap.size W V -> V.cell? ⟨bb, 11, none⟩ = some (.slice pa m pc) /\ V.frozen? ⟨bb, 11, none⟩ = false /\ bb < V.heap.size) := hid (fun V hV => by
     have hb := hV.block bb d2
     exact ⟨by rw [hV.cell (p := ⟨bb, 11, none⟩) d2]; exact d0, by rw [World.frozen?_of_block (w := W) (a := ⟨bb, 11, none⟩) hb]; exact d1, Nat.lt_of_lt_of_le d2 hV.size⟩)
   go_wp2_with fail
   go_region_law (first
     | (refine step_appS rfl _ _ _ rfl rowE (base := W.heap.size) (by simp) rfl (World.ownsRow_nil _ _ _ _) (ys := ys) lenE (fun u hu => by obtain ⟨x, _, hx⟩ := List.mem_flatMap.1 hu; exact oneE_bka x u hx) (HVS.out.below (bdrew (n := 1) (Below.refl _ _)) (Nat.le_refl _)) (by rw [<- HN.out]; rfl) (by rw [<- HN.out]; omega) (by rw [<- HN.out]; unfold maxLen; omega) ?_; intro u w5 hown5 hg5; rw [<- HN.out] at hown5; obtain ⟨ua, uc, rfl⟩ := own_sl hown5; have hB5 : Below W.heap.size W w5 := (bdrew (n := 1) (Below.refl _ _)).grown hg5 (by simp) (fun k hk => by cases hk); obtain ⟨e0, e1, e2⟩ := KD.out _ hB5; have hs5 := hB5.size; have HR55 := hid (HR5.out.add hB5 (by rw [Nat.zero_add, List.nil_append] at hown5; exact hown5)); clear hown5 hg5 hB5)
     | (refine step_lie rfl _ _ _ rfl rowEE_bk (base := w0.heap.size) (by simp; omega) rfl ((HR55.out.alloc _).get (i := 3) rfl) ⟨w5.heap.size, 0, none⟩ 1 1 [.slice ua n uc] rfl rfl (cells1 (by simp [go_sem])) (by simp [Value.oneCell']) (by decide) (by dsimp only; omega) (by dsimp only; unfold maxLen; omega) w5.heap.size (by simp) ?_; intro g2 cap2 w6 hown6 hg6 hgg6 hlt6; have hR6 := HR55.out.grown ((Below.refl w5.heap.size w5).alloc (Nat.le_refl _) _) 3 rfl hown6 hg6 (fun b hb => by simp only [Value.ownBlock, Option.some.injEq] at hb; subst hb; exact hgg6); have e0 := hR6.cell (i := 1) (j := 11) (u := .slice pa m pc) rfl (by rw [List.getElem?_set, if_neg (by decide)]; exact HC1.out); have e1 := hR6.fz (i := 1) rfl 11; have e2 := (hR6.lt (i := 1) rfl).2; have HR6 := hid hR6; clear hown6 hg6 hgg6 hR6))
   all_goals
     have HR7 := hid (HR6.out.set 1 rfl 11 (.slice (some ⟨g2, 0, none⟩) (m + 1) cap2))
     clear e0 e1 e2 HR6 HR55 KD HVS HR5
     go_wp2_with fail
     go_end0
     refine ⟨rfl, .inr ⟨hlt, .slice (some ⟨g, 0, none⟩) (m + 1) cap, .slice (some ⟨g2, 0, none⟩) (m + 1) cap2, .slice ua n uc, ?_⟩⟩
     exact HR7.out.perm (List.perm_middle (a := (⟨57, 3, Value.slice ua n uc, n, ys.flatMap encE⟩ : Rw)) (l₁ := [⟨44, 22, Value.slice (some ⟨bb, 0, none⟩) 1 1, 1, (cs.set 10 (Value.slice (some ⟨g, 0, none⟩) (m + 1) cap)).set 11 (Value.slice (some ⟨g2, 0, none⟩) (m + 1) cap2)⟩, ⟨22, 1, Value.slice (some ⟨g, 0, none⟩) (m + 1) cap, m + 1, vs ++ [Value.slice va n vc]⟩, ⟨22, 1, Value.slice (some ⟨g2, 0, none⟩) (m + 1) cap2, m + 1, us ++ [Value.slice ua n uc]⟩, ⟨57, 3, Value.slice va n vc, n, ys.flatMap encE⟩]) (l₂ := rest)).symm
 · have hltI : ¬ (m : Int) < 400 := by omega
   go_enter Tryz.func11, Tryz.ntmps11
   go_wp2_with fail
   go_end0
   exact ⟨rfl, .inl ⟨hlt, rfl⟩⟩
end Go.Proofs.YtgikimbafakmcaaGreatDoor
namespace Go.Proofs.YtgikimbafakmcaaGreatDoor
open Go.RowKit Pl
def bkAll (I B S E N W : KS) (D : List Rw) : List Rw := I.ks ++ (B.ks ++ (S.ks ++ (E.ks ++ (N.ks ++ (W.ks ++ D)))))
def Bk (w0 w : World) (bb : Nat) (Z R : List Rw) : Prop :=
  ∃ (I B S E N W : KS) (D : List Rw), Rws w0 w (bkRows bb (bkL I B S E N W) (D ++ R)) /\ FlOk 3 1 encI I /\ FlOk 4 1 encB B /\ FlOk 129 2 encS S /\ FlOk 57 3 encE E /\
    NeOk 3 58 1 encI (bkAll I B S E N W D) N /\ NeOk 129 113 2 encS (bkAll I B S E N W D) W /\ ∀ r ∈ Z, r ∈ bkAll I B S E N W D
section
variable {w0 w w' : World} {bb : Nat} {Z R : List Rw}
theorem mem_bkAll {I B S E N W : KS} {D R : List Rw} {r : Rw} (h : r ∈ bkAll I B S E N W D) : r ∈ bkRows bb (bkL I B S E N W) (D ++ R) := by
 have hk : ∀ {X : KS} {T : TypeId} {j : Nat}, (bkL I B S E N W)[j]? = some (X.kd T) -> r ∈ X.ks -> r ∈ bkRows bb (bkL I B S E N W) (D ++ R) := fun hj hr => (mem_bk hj).2.2 r (List.mem_append_left _ hr)
 unfold bkAll at h
 simp only [List.mem_append] at h
 rcases h with h | h | h | h | h | h | h
 · exact hk (j := 0) rfl h
 · exact hk (j := 3) rfl h
 · exact hk (j := 4) rfl h
 · exact hk (j := 5) rfl h
 · exact hk (j := 8) rfl h
 · exact hk (j := 10) rfl h
 · exact List.mem_cons_of_mem _ (List.mem_append_right _ (List.mem_append_left _ h))
theorem Bk.apart (h : Bk w0 w bb Z R) : Calls Tryz.prog 12 #[.pointer (some ⟨bb, 0, none⟩)] w fun e w' => e = .returned (.bool true) /\ Below w0.heap.size w0 w' := by
 obtain ⟨I, B, S, E, N, W, D, h1, h2, h3, h4, h5, h6, h7, _⟩ := h
 exact apart_any h1 h2 h3 h4 h5 h6 h7 (fun r hr => mem_bkAll hr)
theorem Bk.bel (h : Bk w0 w bb Z R) : Below w0.heap.size w0 w := by
 obtain ⟨I, B, S, E, N, W, D, h1, _⟩ := h
 exact h1.bel
theorem Bk.call (h : Bk w0 w bb Z R) (hB : Below w.heap.size w w') : Bk w0 w' bb Z R := by
 obtain ⟨I, B, S, E, N, W, D, h1, h2⟩ := h
 exact ⟨I, B, S, E, N, W, D, h1.call hB, h2⟩
theorem Bk.own (h : Bk w0 w bb Z R) {r : Rw} (hr : r ∈ Z ∨ r ∈ R) : w.ownsRow w0.heap.size r.T r.k r.v r.n r.xs := by
 obtain ⟨I, B, S, E, N, W, D, h1, _, _, _, _, _, _, h8⟩ := h
 rcases hr with hr | hr
 · exact h1.own r (mem_bkAll (h8 r hr))
 · exact h1.own r (List.mem_cons_of_mem _ (List.mem_append_right _ (List.mem_append_right _ hr)))
theorem bk_tail (I B S E N W : KS) (D : List Rw) {R R' : List Rw} (hp : R.Perm R') : (bkRows bb (bkL I B S E N W) (D ++ R)).Perm (bkRows bb (bkL I B S E N W) (D ++ R')) :=
  ((List.Perm.append_left _ (List.Perm.append_left _ hp))).cons _
theorem Bk.perm (h : Bk w0 w bb Z R) {R' : List Rw} (hp : R.Perm R') : Bk w0 w bb Z R' := by
 obtain ⟨I, B, S, E, N, W, D, h1, h2⟩ := h
 exact ⟨I, B, S, E, N, W, D, h1.perm (bk_tail I B S E N W D hp), h2⟩
theorem Bk.add (h : Bk w0 w bb Z R) {T : TypeId} {k n : Nat} {v : Value} {xs : List Value} (hB : Below w.heap.size w w') (ho : w'.ownsRow w.heap.size T k v n xs) : Bk w0 w' bb Z (⟨T, k, v, n, xs⟩ :: R) := by
 obtain ⟨I, B, S, E, N, W, D, h1, h2⟩ := h
 refine ⟨I, B, S, E, N, W, D, (h1.add hB ho).perm ?_, h2⟩
 have hp := List.perm_middle (a := (⟨T, k, v, n, xs⟩ : Rw)) (l₁ := bkBox bb (bkL I B S E N W) :: ((bkL I B S E N W).flatMap Kd.rs ++ D)) (l₂ := R)
 unfold bkRows
 simp only [List.append_assoc, List.cons_append] at hp ⊢
 exact hp.symm
theorem Bk.join (h : Bk w0 w bb Z R) {N : List Rw} (hN : Rws w w' N) : Bk w0 w' bb Z (N ++ R) := by
 obtain ⟨I, B, S, E, M, W, D, h1, h2⟩ := h
 refine ⟨I, B, S, E, M, W, D, (h1.join hN).perm ?_, h2⟩
 have hp := perm_rot N (bkBox bb (bkL I B S E M W) :: (bkL I B S E M W).flatMap Kd.rs) D R
 have hq : ((D ++ N) ++ R).Perm (D ++ (N ++ R)) := by rw [List.append_assoc]
 unfold bkRows
 simp only [List.append_assoc, List.cons_append] at hp ⊢
 exact hp
theorem Bk.sub (h : Bk w0 w bb Z R) {R' : List Rw} (hs : R'.Sublist R) : Bk w0 w bb Z R' := by
 obtain ⟨I, B, S, E, N, W, D, h1, h2⟩ := h
 exact ⟨I, B, S, E, N, W, D, h1.sub ((List.Sublist.append_left (List.Sublist.append_left hs _) _).cons_cons _), h2⟩
theorem Bk.start (w : World) : Bk w (w.alloc (.cells #[.slice none 0 0, .slice none 0 0, .slice none 0 0, .slice none 0 0, .slice none 0 0, .slice none 0 0, .slice none 0 0, .slice none 0 0, .slice none 0 0, .slice none 0 0, .slice none 0 0, .slice none 0 0, .slice none 0 0, .slice none 0 0, .slice none 0 0, .slice none 0 0, .slice none 0 0, .slice none 0 0, .slice none 0 0, .slice none 0 0, .slice none 0 0, .slice none 0 0] 44)) w.heap.size [] [] := by
 refine ⟨.zero, .zero, .zero, .zero, .zero, .zero, [], ?_, .zero, .zero, .zero, .zero, .zero, .zero, fun r hr => by cases hr⟩
 have h0 := Rws.nil (Below.refl w.heap.size w)
 have h1 := (((((((((((((((((((((h0.addNil 36 1).addNil 36 1).addNil 33 1).addNil 33 1).addNil 32 1).addNil 32 1).addNil 117 1).addNil 117 1).addNil 115 1).addNil 115 1).addNil 22 1).addNil 22 1).addNil 113 1).addNil 113 1).addNil 111 1).addNil 111 1).addNil 109 1).addNil 109 1).addNil 107 1).addNil 107 1).addNil 58 1).addNil 58 1
 have h2 := h1.addLit #[.slice none 0 0, .slice none 0 0, .slice none 0 0, .slice none 0 0, .slice none 0 0, .slice none 0 0, .slice none 0 0, .slice none 0 0, .slice none 0 0, .slice none 0 0, .slice none 0 0, .slice none 0 0, .slice none 0 0, .slice none 0 0, .slice none 0 0, .slice none 0 0, .slice none 0 0, .slice none 0 0, .slice none 0 0, .slice none 0 0, .slice none 0 0, .slice none 0 0] 44 (k := 22) (n := 1) (by decide) rfl
 exact h2
end
theorem Rws.bkTake {w0 w : World} {kds : List Kd} {j bb : Nat} {D R : List Rw} {SL : TypeId} {K : KS} {r : Rw} (h : Rws w0 w (bkRows bb kds (D ++ r :: R))) (hj : kds[j]? = some (K.kd SL)) (hl : K.ks.length = K.ws.length) :
    Rws w0 w (bkBox bb kds :: ⟨SL, 1, K.o, K.ks.length, K.ks.map (·.v)⟩ :: ⟨SL, 1, K.p, K.ks.length, K.ws.map (·.v)⟩ :: r :: ((K.ks ++ K.ws) ++ bkX kds j (D ++ R))) := by
 refine (h.perm (bkRows_perm hj)).perm ?_
 unfold KS.kd Kd.rs bkX
 simp only [List.length_map, List.cons_append]
 rw [<- hl]
 refine ((List.Perm.cons _ ?_).cons _).cons _
 have hp := List.perm_middle (a := r) (l₁ := (K.ks ++ K.ws) ++ ((kds.take j ++ kds.drop (j + 1)).flatMap Kd.rs ++ D)) (l₂ := R)
 simp only [List.append_assoc] at hp ⊢
 exact hp
theorem Rws.bkGive {w0 w : World} {kds : List Kd} {j bb : Nat} {D R : List Rw} {SL : TypeId} {K : KS} {r u : Rw} {o' p' : Value} {cs : List Value} {n : Nat} (hj : kds[j]? = some (K.kd SL)) (hl : K.ks.length = K.ws.length) (hc : cs = ((bkCells kds).set (j * 2) o').set (j * 2 + 1) p') (hn : n = K.ks.length + 1)
    (h : Rws w0 w (⟨44, 22, .slice (some ⟨bb, 0, none⟩) 1 1, 1, cs⟩ :: ⟨SL, 1, o', n, K.ks.map (·.v) ++ [r.v]⟩ :: ⟨SL, 1, p', n, K.ws.map (·.v) ++ [u.v]⟩ :: r :: u :: ((K.ks ++ K.ws) ++ bkX kds j (D ++ R)))) :
    Rws w0 w (bkRows bb (kds.set j ((KS.mk o' p' (K.ks ++ [r]) (K.ws ++ [u])).kd SL)) (D ++ R)) := by
 refine h.perm (List.Perm.trans ?_ (bkRows_perm' (bb := bb) (D := D ++ R) (K' := (KS.mk o' p' (K.ks ++ [r]) (K.ws ++ [u])).kd SL) hj).symm)
 have e : bkBox bb (kds.set j ((KS.mk o' p' (K.ks ++ [r]) (K.ws ++ [u])).kd SL)) = ⟨44, 22, .slice (some ⟨bb, 0, none⟩) 1 1, 1, cs⟩ := by (
 unfold bkBox
 rw [bkCells_set hj, hc]
 rfl)
 rw [e]
 unfold KS.kd Kd.rs
 simp only [List.map_append, List.map_cons, List.map_nil, List.length_append, List.length_map, List.length_cons, List.length_nil, List.cons_append]
 rw [hn, <- hl]
 refine ((List.Perm.cons _ ?_).cons _).cons _
 have h1 := List.perm_middle (a := r) (l₁ := K.ks) (l₂ := K.ws ++ (u :: bkX kds j (D ++ R)))
 have h2 := List.perm_middle (a := u) (l₁ := K.ks ++ K.ws) (l₂ := bkX kds j (D ++ R))
 simp only [List.append_assoc, List.cons_append, List.nil_append] at h1 h2 ⊢
 exact (h2.symm.cons r).trans h1.symm
theorem mem_dmono {I B S E N W : KS} {D : List Rw} {r x : Rw} (h : x ∈ bkAll I B S E N W D) : x ∈ bkAll I B S E N W (D ++ [r]) := by
 unfold bkAll at *
 simp only [List.mem_append] at *
 rcases h with h | h | h | h | h | h | h <;> simp [h]
theorem mem_monoE {I B S E N W : KS} {D : List Rw} {r u x : Rw} {o' p' : Value} (h : x ∈ bkAll I B S E N W D) : x ∈ bkAll I B S (KS.mk o' p' (E.ks ++ [r]) (E.ws ++ [u])) N W D := by
 unfold bkAll at *
 simp only [List.mem_append] at *
 rcases h with h | h | h | h | h | h | h <;> simp [h]
theorem mem_newE {I B S E N W : KS} {D : List Rw} {r u : Rw} {o' p' : Value} : r ∈ bkAll I B S (KS.mk o' p' (E.ks ++ [r]) (E.ws ++ [u])) N W D := by
 unfold bkAll
 simp
theorem Bk.giveE {w0 w : World} {bb n : Nat} {Z R : List Rw} {v : Value} {ys : List E} {xs : List Value} (h : Bk w0 w bb Z (⟨57, 3, v, n, xs⟩ :: R)) (hx : xs = ys.flatMap encE) (hn : n = ys.length) (hl : n <= 500000) :
    Calls Tryz.prog 11 #[.pointer (some ⟨bb, 0, none⟩), v] w fun e w' => e = .returned (.tuple #[]) /\ Bk w0 w' bb (⟨57, 3, v, n, xs⟩ :: Z) R := by
 obtain ⟨I, B, S, E, N, W, D, h1, h2, h3, h4, h5, h6, h7, h8⟩ := h
 subst hx
 have hf : FlOk 57 3 encE E := by assumption
 have hj : (bkL I B S E N W)[5]? = some (E.kd 22) := rfl
 have ht := h1.bkTake hj hf.hl
 have hv1 : v.oneCell' = true := by (
 obtain ⟨a, c, e, _⟩ := ht.shape (r := ⟨57, 3, v, n, ys.flatMap encE⟩) (by simp)
 dsimp only at e
 rw [e]; rfl)
 obtain ⟨q1, q2⟩ := bkCells_at hj
 refine (addE_any ht (by rw [bkCells_len]; rfl) q1 q2 hn hl hf.h4 hv1).mono ?_
 rintro e w' ⟨rfl, hp⟩
 refine ⟨rfl, ?_⟩
 rcases hp with ⟨_, rfl⟩ | ⟨hm, o', p', u, hr⟩
 · refine ⟨I, B, S, E, N, W, D ++ [⟨57, 3, v, n, ys.flatMap encE⟩], by rw [List.append_assoc]; exact h1, h2, h3, h4, h5, h6.mono (fun x hx => mem_dmono hx), h7.mono (fun x hx => mem_dmono hx), fun x hx => ?_⟩
   rcases List.mem_cons.1 hx with rfl | hx
   · unfold bkAll; simp
   · exact mem_dmono (h8 x hx)
 · (
 have hb := Rws.bkGive (r := ⟨57, 3, v, n, ys.flatMap encE⟩) (u := ⟨57, 3, u, n, ys.flatMap encE⟩) hj hf.hl rfl rfl hr
 have hfp : FlOk 57 3 encE ⟨o', p', E.ks ++ [⟨57, 3, v, n, ys.flatMap encE⟩], E.ws ++ [⟨57, 3, u, n, ys.flatMap encE⟩]⟩ := hf.push hm (ys := ys) rfl rfl rfl rfl (by omega) hn hn rfl rfl
 refine ⟨I, B, S, _, N, W, D, hb, h2, h3, h4, hfp, h6.mono (fun x hx => mem_monoE hx), h7.mono (fun x hx => mem_monoE hx), fun x hx => ?_⟩
 rcases List.mem_cons.1 hx with rfl | hx
 · exact mem_newE
 · exact mem_monoE (h8 x hx))
end Go.Proofs.YtgikimbafakmcaaGreatDoor
namespace Go.Proofs.YtgikimbafakmcaaGreatDoor
open Go.RowKit Pl
def BkF (w0 w : World) (bb : Nat) (Z R : List Rw) : Prop :=
  ∃ (I B S E N W : KS) (D : List Rw), Rws w0 w (bkRows bb (bkL I B S E N W) (D ++ R)) /\ FlOk 3 1 encI I /\ FlOk 4 1 encB B /\ FlOk 129 2 encS S /\ FlOk 57 3 encE E /\
    NeOk 3 58 1 encI (bkAll I B S E N W D) N /\ NeOk 129 113 2 encS (bkAll I B S E N W D) W /\ (∀ r ∈ Z, r ∈ bkAll I B S E N W D) /\ ∀ r ∈ D, r.T ≠ 72
section
variable {w0 w w' : World} {bb : Nat} {Z R : List Rw}
theorem BkF.bk (h : BkF w0 w bb Z R) : Bk w0 w bb Z R := by
 obtain ⟨I, B, S, E, N, W, D, h1, h2, h3, h4, h5, h6, h7, h8, _⟩ := h
 exact ⟨I, B, S, E, N, W, D, h1, h2, h3, h4, h5, h6, h7, h8⟩
theorem BkF.bel (h : BkF w0 w bb Z R) : Below w0.heap.size w0 w := h.bk.bel
theorem BkF.own (h : BkF w0 w bb Z R) {r : Rw} (hr : r ∈ Z ∨ r ∈ R) : w.ownsRow w0.heap.size r.T r.k r.v r.n r.xs := h.bk.own hr
theorem BkF.call (h : BkF w0 w bb Z R) (hB : Below w.heap.size w w') : BkF w0 w' bb Z R := by
 obtain ⟨I, B, S, E, N, W, D, h1, h2⟩ := h
 exact ⟨I, B, S, E, N, W, D, h1.call hB, h2⟩
theorem BkF.perm (h : BkF w0 w bb Z R) {R' : List Rw} (hp : R.Perm R') : BkF w0 w bb Z R' := by
 obtain ⟨I, B, S, E, N, W, D, h1, h2⟩ := h
 exact ⟨I, B, S, E, N, W, D, h1.perm (bk_tail I B S E N W D hp), h2⟩
theorem BkF.add (h : BkF w0 w bb Z R) {T : TypeId} {k n : Nat} {v : Value} {xs : List Value} (hB : Below w.heap.size w w') (ho : w'.ownsRow w.heap.size T k v n xs) : BkF w0 w' bb Z (⟨T, k, v, n, xs⟩ :: R) := by
 obtain ⟨I, B, S, E, N, W, D, h1, h2⟩ := h
 refine ⟨I, B, S, E, N, W, D, (h1.add hB ho).perm ?_, h2⟩
 have hp := List.perm_middle (a := (⟨T, k, v, n, xs⟩ : Rw)) (l₁ := bkBox bb (bkL I B S E N W) :: ((bkL I B S E N W).flatMap Kd.rs ++ D)) (l₂ := R)
 unfold bkRows
 simp only [List.append_assoc, List.cons_append] at hp ⊢
 exact hp.symm
theorem BkF.join (h : BkF w0 w bb Z R) {N : List Rw} (hN : Rws w w' N) : BkF w0 w' bb Z (N ++ R) := by
 obtain ⟨I, B, S, E, M, W, D, h1, h2⟩ := h
 refine ⟨I, B, S, E, M, W, D, (h1.join hN).perm ?_, h2⟩
 have hp := perm_rot N (bkBox bb (bkL I B S E M W) :: (bkL I B S E M W).flatMap Kd.rs) D R
 have hq : ((D ++ N) ++ R).Perm (D ++ (N ++ R)) := by rw [List.append_assoc]
 unfold bkRows
 simp only [List.append_assoc, List.cons_append] at hp ⊢
 exact hp
theorem BkF.sub (h : BkF w0 w bb Z R) {R' : List Rw} (hs : R'.Sublist R) : BkF w0 w bb Z R' := by
 obtain ⟨I, B, S, E, N, W, D, h1, h2⟩ := h
 exact ⟨I, B, S, E, N, W, D, h1.sub ((List.Sublist.append_left (List.Sublist.append_left hs _) _).cons_cons _), h2⟩
theorem BkF.start (w : World) : BkF w (w.alloc (.cells #[.slice none 0 0, .slice none 0 0, .slice none 0 0, .slice none 0 0, .slice none 0 0, .slice none 0 0, .slice none 0 0, .slice none 0 0, .slice none 0 0, .slice none 0 0, .slice none 0 0, .slice none 0 0, .slice none 0 0, .slice none 0 0, .slice none 0 0, .slice none 0 0, .slice none 0 0, .slice none 0 0, .slice none 0 0, .slice none 0 0, .slice none 0 0, .slice none 0 0] 44)) w.heap.size [] [] := by
 refine ⟨.zero, .zero, .zero, .zero, .zero, .zero, [], ?_, .zero, .zero, .zero, .zero, .zero, .zero, fun r hr => (by cases hr), fun r hr => (by cases hr)⟩
 have h0 := Rws.nil (Below.refl w.heap.size w)
 have h1 := (((((((((((((((((((((h0.addNil 36 1).addNil 36 1).addNil 33 1).addNil 33 1).addNil 32 1).addNil 32 1).addNil 117 1).addNil 117 1).addNil 115 1).addNil 115 1).addNil 22 1).addNil 22 1).addNil 113 1).addNil 113 1).addNil 111 1).addNil 111 1).addNil 109 1).addNil 109 1).addNil 107 1).addNil 107 1).addNil 58 1).addNil 58 1
 have h2 := h1.addLit #[.slice none 0 0, .slice none 0 0, .slice none 0 0, .slice none 0 0, .slice none 0 0, .slice none 0 0, .slice none 0 0, .slice none 0 0, .slice none 0 0, .slice none 0 0, .slice none 0 0, .slice none 0 0, .slice none 0 0, .slice none 0 0, .slice none 0 0, .slice none 0 0, .slice none 0 0, .slice none 0 0, .slice none 0 0, .slice none 0 0, .slice none 0 0, .slice none 0 0] 44 (k := 22) (n := 1) (by decide) rfl
 exact h2
end
theorem BkF.giveE {w0 w : World} {bb n : Nat} {Z R : List Rw} {v : Value} {ys : List E} {xs : List Value} (h : BkF w0 w bb Z (⟨57, 3, v, n, xs⟩ :: R)) (hx : xs = ys.flatMap encE) (hn : n = ys.length) (hl : n <= 500000) :
    Calls Tryz.prog 11 #[.pointer (some ⟨bb, 0, none⟩), v] w fun e w' => e = .returned (.tuple #[]) /\ BkF w0 w' bb (⟨57, 3, v, n, xs⟩ :: Z) R := by
 obtain ⟨I, B, S, E, N, W, D, h1, h2, h3, h4, h5, h6, h7, h8, h9⟩ := h
 subst hx
 have hf : FlOk 57 3 encE E := by assumption
 have hj : (bkL I B S E N W)[5]? = some (E.kd 22) := rfl
 have ht := h1.bkTake hj hf.hl
 have hv1 : v.oneCell' = true := by (
 obtain ⟨a, c, e, _⟩ := ht.shape (r := ⟨57, 3, v, n, ys.flatMap encE⟩) (by simp)
 dsimp only at e
 rw [e]; rfl)
 obtain ⟨q1, q2⟩ := bkCells_at hj
 refine (addE_any ht (by rw [bkCells_len]; rfl) q1 q2 hn hl hf.h4 hv1).mono ?_
 rintro e w' ⟨rfl, hp⟩
 refine ⟨rfl, ?_⟩
 rcases hp with ⟨_, rfl⟩ | ⟨hm, o', p', u, hr⟩
 · (
 refine ⟨I, B, S, E, N, W, D ++ [⟨57, 3, v, n, ys.flatMap encE⟩], by rw [List.append_assoc]; exact h1, h2, h3, h4, h5, h6.mono (fun x hx => mem_dmono hx), h7.mono (fun x hx => mem_dmono hx), fun x hx => ?_, by (
 intro x hx
 rcases List.mem_append.1 hx with hx | hx
 · exact h9 x hx
 · simp only [List.mem_singleton] at hx
   subst hx
   show 57 ≠ 72
   decide)⟩
 rcases List.mem_cons.1 hx with rfl | hx
 · unfold bkAll; simp
 · exact mem_dmono (h8 x hx))
 · (
 have hb := Rws.bkGive (r := ⟨57, 3, v, n, ys.flatMap encE⟩) (u := ⟨57, 3, u, n, ys.flatMap encE⟩) hj hf.hl rfl rfl hr
 have hfp : FlOk 57 3 encE ⟨o', p', E.ks ++ [⟨57, 3, v, n, ys.flatMap encE⟩], E.ws ++ [⟨57, 3, u, n, ys.flatMap encE⟩]⟩ := hf.push hm (ys := ys) rfl rfl rfl rfl (by omega) hn hn rfl rfl
 refine ⟨I, B, S, _, N, W, D, hb, h2, h3, h4, hfp, h6.mono (fun x hx => mem_monoE hx), h7.mono (fun x hx => mem_monoE hx), fun x hx => ?_, h9⟩
 rcases List.mem_cons.1 hx with rfl | hx
 · exact mem_newE
 · exact mem_monoE (h8 x hx))
def fRow (k : Nat) (cs : Array Value) : Rw := ⟨72, 4, .slice (some ⟨k, 0, none⟩) 1 1, 1, cs.toList⟩
def isF (w : World) (k : Nat) (cs : Array Value) : Prop := w.heap[k]? = some (.cells cs 72 (0, 0)) /\ cs.size = 4
theorem fRow_own {w : World} {B k : Nat} {cs : Array Value} (h : isF w k cs) (hk : B <= k) : w.ownsRow B 72 4 (.slice (some ⟨k, 0, none⟩) 1 1) 1 cs.toList :=
  ⟨by rw [Array.length_toList, h.2], .inr ⟨k, 1, cs, rfl, hk, h.1, by omega, by unfold maxLen; omega, by rw [h.2], by rw [List.take_of_length_le (by rw [Array.length_toList, h.2]; omega)]⟩⟩
theorem fRow_back {w : World} {B k : Nat} {cs : Array Value} (h : w.ownsRow B 72 4 (.slice (some ⟨k, 0, none⟩) 1 1) 1 cs.toList) : w.heap[k]? = some (.cells cs 72 (0, 0)) := by
 rcases h.2 with ⟨e, _⟩ | ⟨g', cap, cur, e, _, hh, _, _, hs, ht⟩
 · cases e
 · (
 simp only [Value.slice.injEq, Option.some.injEq, Addr.mk.injEq, and_true] at e
 obtain ⟨rfl, _, rfl⟩ := e
 rw [hh]
 have : cur = cs := by
   apply Array.toList_inj.1
   rw [<- ht, List.take_of_length_le (by rw [Array.length_toList]; omega)]
 rw [this])
theorem faults_rows {w0 w : World} {L : List Rw} (h : Rws w0 w L) (hT : ∀ r ∈ L, r.T ≠ 72) : ∀ m : Nat, ∃ F : List Rw, Rws w0 w (F ++ L) /\ (∀ k cs, k < m -> w0.heap.size <= k -> isF w k cs -> fRow k cs ∈ F) /\ ∀ r ∈ F, ∃ k cs, k < m /\ isF w k cs /\ r = fRow k cs := by
 intro m
 induction m with
 | zero => exact ⟨[], h, fun k cs hk => by omega, fun r hr => by cases hr⟩
 | succ m ih => (
 obtain ⟨F, hF, h1, h2⟩ := ih
 by_cases hm : ∃ cs, w0.heap.size <= m /\ isF w m cs
 · (
 obtain ⟨cs, hmk, hcs⟩ := hm
 have ho := fRow_own hcs hmk
 refine ⟨fRow m cs :: F, ⟨hF.bel, fun r hr => ?_, ?_⟩, fun k cs' hk hk2 hf => ?_, fun r hr => ?_⟩
 · rcases List.mem_cons.1 hr with rfl | hr
   · exact ho
   · exact hF.own r hr
 · (
 refine List.Pairwise.cons (fun r hr g hg hg2 => ?_) hF.apart
 simp only [fRow, Value.ownBlock, Option.some.injEq] at hg
 subst hg
 rcases List.mem_append.1 hr with hr | hr
 · obtain ⟨k, cs2, hk, _, rfl⟩ := h2 r hr
   simp only [fRow, Value.ownBlock, Option.some.injEq] at hg2
   omega
 · exact own_unlike ho (h.own r hr) (fun e => hT r hr e.symm) m rfl hg2)
 · (
 rcases Nat.lt_or_ge k m with hkm | hkm
 · exact List.mem_cons_of_mem _ (h1 k cs' hkm hk2 hf)
 · obtain rfl : k = m := by omega
   have e := hf.1.symm.trans hcs.1
   simp only [Option.some.injEq, Obj.cells.injEq, and_true] at e
   subst e
   exact List.mem_cons_self ..)
 · rcases List.mem_cons.1 hr with rfl | hr
   · exact ⟨m, cs, by omega, hcs, rfl⟩
   · obtain ⟨k, cs2, hk, hf, he⟩ := h2 r hr
     exact ⟨k, cs2, by omega, hf, he⟩)
 · (
 refine ⟨F, hF, fun k cs hk hk2 hf => ?_, fun r hr => ?_⟩
 · rcases Nat.lt_or_ge k m with hkm | hkm
   · exact h1 k cs hkm hk2 hf
   · obtain rfl : k = m := by omega
     exact absurd ⟨cs, hk2, hf⟩ hm
 · obtain ⟨k, cs2, hk, hf, he⟩ := h2 r hr
   exact ⟨k, cs2, by omega, hf, he⟩))
theorem FlOk.ws_at {α : Type} {T : TypeId} {k : Nat} {enc : α -> List Value} {s : KS} (h : FlOk T k enc s) {r : Rw} (hr : r ∈ s.ks ++ s.ws) : r.T = T := by
 rcases List.mem_append.1 hr with hr | hr
 · exact (h.ks_at hr).1
 · obtain ⟨i, hi⟩ := List.getElem?_of_mem hr
   have hl := (List.getElem?_eq_some_iff.1 hi).1
   obtain ⟨r', hi'⟩ := getElem?_of_lt (xs := s.ks) (i := i) (by rw [h.hl]; exact hl)
   obtain ⟨_, _, a, _⟩ := h.at_ i r' r hi' hi
   exact a
theorem NeOk.ws_at {α : Type} {T IL : TypeId} {k : Nat} {enc : α -> List Value} {A : List Rw} {s : KS} (h : NeOk T IL k enc A s) {r : Rw} (hr : r ∈ s.ks ++ s.ws) : r.T = IL := by
 rcases List.mem_append.1 hr with hr | hr
 · exact (h.ks_at hr).1
 · obtain ⟨i, hi⟩ := List.getElem?_of_mem hr
   have hl := (List.getElem?_eq_some_iff.1 hi).1
   obtain ⟨r', hi'⟩ := getElem?_of_lt (xs := s.ks) (i := i) (by rw [h.hl]; exact hl)
   obtain ⟨_, _, a, _⟩ := h.at_ i r' r hi' hi
   exact a
theorem kd_tag {K : KS} {T U : TypeId} (hT : T ≠ 72) (hU : U ≠ 72) (h : ∀ r ∈ K.ks ++ K.ws, r.T = U) : ∀ r ∈ (K.kd T).rs, r.T ≠ 72 := by
 intro r hr
 unfold KS.kd Kd.rs at hr
 simp only [List.mem_cons] at hr
 rcases hr with rfl | rfl | hr
 · exact hT
 · exact hT
 · rw [h r hr]; exact hU
theorem kd_tag0 {T : TypeId} (hT : T ≠ 72) : ∀ r ∈ (KS.zero.kd T).rs, r.T ≠ 72 :=
  kd_tag hT hT (fun r hr => by simp [KS.zero] at hr)
theorem BkF.apartR {w0 w : World} {bb : Nat} {Z R : List Rw} (h : BkF w0 w bb Z R) (hR : ∀ r ∈ R, r.T ≠ 72) : Calls Tryz.prog 12 #[.pointer (some ⟨bb, 0, none⟩)] w fun e w' => e = .returned (.bool true) /\ Below w0.heap.size w0 w' /\ (∀ k cs, isF w k cs -> w'.heap[k]? = some (.cells cs 72 (0, 0))) /\ ∀ r ∈ R, w'.ownsRow w0.heap.size r.T r.k r.v r.n r.xs := by
 obtain ⟨I, B, S, E, N, W, D, h1, h2, h3, h4, h5, h6, h7, _, h9⟩ := h
 have hT : ∀ r ∈ bkRows bb (bkL I B S E N W) (D ++ R), r.T ≠ 72 := fun r hr => by (
 unfold bkRows at hr
 rcases List.mem_cons.1 hr with rfl | hr
 · show 44 ≠ 72; decide
 rcases List.mem_append.1 hr with hr | hr
 · (
 obtain ⟨K, hK, hr⟩ := List.mem_flatMap.1 hr
 unfold bkL at hK
 simp only [List.mem_cons, List.not_mem_nil, or_false] at hK
 rcases hK with rfl | rfl | rfl | rfl | rfl | rfl | rfl | rfl | rfl | rfl | rfl
 · exact kd_tag (by decide) (U := 3) (by decide) (fun r hr => h2.ws_at hr) r hr
 · exact kd_tag0 (by decide) r hr
 · exact kd_tag0 (by decide) r hr
 · exact kd_tag (by decide) (U := 4) (by decide) (fun r hr => h3.ws_at hr) r hr
 · exact kd_tag (by decide) (U := 129) (by decide) (fun r hr => h4.ws_at hr) r hr
 · exact kd_tag (by decide) (U := 57) (by decide) (fun r hr => h5.ws_at hr) r hr
 · exact kd_tag0 (by decide) r hr
 · exact kd_tag0 (by decide) r hr
 · exact kd_tag (by decide) (U := 58) (by decide) (fun r hr => h6.ws_at hr) r hr
 · exact kd_tag0 (by decide) r hr
 · exact kd_tag (by decide) (U := 113) (by decide) (fun r hr => h7.ws_at hr) r hr)
 · rcases List.mem_append.1 hr with hr | hr
   · exact h9 r hr
   · exact hR r hr)
 obtain ⟨F, hF, f1, _⟩ := faults_rows h1 hT w.heap.size
 have hp : Rws w0 w (bkRows bb (bkL I B S E N W) (D ++ (R ++ F))) := hF.perm (by (
 have h := List.perm_append_comm (l₁ := F) (l₂ := bkRows bb (bkL I B S E N W) (D ++ R))
 unfold bkRows at h ⊢
 simpa [List.append_assoc] using h))
 refine (apartQ_any (A := bkAll I B S E N W D) hp h2 h3 h4 h5 h6 h7 (fun r hr => mem_bkAll hr)).mono ?_
 rintro e w' ⟨rfl, hB, ho⟩
 refine ⟨rfl, hB, fun k cs hk => ?_, fun r hr => ho r (List.mem_append_right _ (List.mem_append_left _ hr))⟩
 rcases Nat.lt_or_ge k w0.heap.size with hk0 | hk0
 · rw [hB.block k hk0, <- h1.bel.block k hk0]; exact hk.1
 · exact fRow_back (ho _ (List.mem_append_right _ (List.mem_append_right _ (f1 k cs (Array.getElem?_eq_some_iff.1 hk.1).1 hk0 hk))))
theorem BkF.apartF {w0 w : World} {bb : Nat} {Z : List Rw} (h : BkF w0 w bb Z []) : Calls Tryz.prog 12 #[.pointer (some ⟨bb, 0, none⟩)] w fun e w' => e = .returned (.bool true) /\ Below w0.heap.size w0 w' /\ ∀ k cs, isF w k cs -> w'.heap[k]? = some (.cells cs 72 (0, 0)) :=
  (h.apartR (fun r hr => by cases hr)).mono (fun _ _ h => ⟨h.1, h.2.1, h.2.2.1⟩)
theorem BkF.low {w0 w : World} {bb : Nat} {Z R : List Rw} (h : BkF w0 w bb Z R) {p : Addr} (hp : p.block < w0.heap.size) (v : Value) : BkF (w0.setCell p v) (w.setCell p v) bb Z R := by
 obtain ⟨I, B, S, E, N, W, D, h1, h2⟩ := h
 exact ⟨I, B, S, E, N, W, D, h1.low hp v, h2⟩
end Go.Proofs.YtgikimbafakmcaaGreatDoor

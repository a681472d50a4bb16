/-
  Lemmas.
-/
import Derived.Test.YtbaccmlfnbgehaaGreatDoorGBkBop
import Derived.BigRegion
import Derived.Test.YtbaccmlfnbgehaaGreatDoorGRwsB
import Derived.Deep.RegionLaw
import Derived.Test.YtbaccmlfnbgehaaGreatDoorGBkR
import Derived.Test.YtbaccmlfnbgehaaGreatDoorBkAp
import Derived.Test.YtbaccmlfnbgehaaGreatDoorGBkN
import Derived.Test.YtbaccmlfnbgehaaGreatDoorGRws
namespace Go.Proofs.YtbaccmlfnbgehaaGreatDoor
open Go.RowKit Pl
end Go.Proofs.YtbaccmlfnbgehaaGreatDoor
namespace Go.Proofs.YtbaccmlfnbgehaaGreatDoor
open Go.RowKit Pl
open Lib (hid)
set_option maxRecDepth 100000 in
set_option maxHeartbeats 8000000 in
theorem addR_any {w0 w : World} {bb n m : Nat} {cs : List Value} {o p v : Value} {vs us : List Value} {ys : List Value} {rest : List Rw}
    (h : Rws w0 w (⟨45, 22, .slice (some ⟨bb, 0, none⟩) 1 1, 1, cs⟩ :: ⟨34, 1, o, m, vs⟩ :: ⟨34, 1, p, m, us⟩ :: ⟨50, 1, v, n, ys⟩ :: rest)) (hcl : cs.length = 22) (hc : cs[16]? = some o) (hc1 : cs[17]? = some p) (hn : n = ys.length) (hnm : n ≤ 500000) (hm : m ≤ 400) (hv1 : v.oneCell' = true) (hone : ∀ u ∈ ys, u.oneCell' = true) :
    Calls Tryz.prog 42 #[.pointer (some ⟨bb, 0, none⟩), v] w fun e w' => e = .returned (.tuple #[]) ∧ AddP w0 w w' 50 34 1 bb 16 17 m n cs vs us v (ys) rest := by
  obtain ⟨oa, oc, hov, _, _, _, _, _⟩ := h.shape (r := ⟨34, 1, o, m, vs⟩) (by simp)
  obtain ⟨pa, pc, hpv, _, _, _, _, _⟩ := h.shape (r := ⟨34, 1, p, m, us⟩) (by simp)
  dsimp only at hov hpv
  subst hov hpv
  have b0 := h.cell (i := 0) rfl hc
  have f0 := h.fz (i := 0) rfl 16
  have hbl := (h.lt (i := 0) rfl).2
  by_cases hlt : m < 400
  · have hltI : (m : Int) < 400 := by omega
    have hltB : decide ((m : Int) < 400) = true := by simp [hltI]
    obtain ⟨va, vc, hvv, _⟩ := h.shape (r := ⟨50, 1, v, n, ys⟩) (by simp)
    dsimp only at hvv
    subst hvv
    have H := hid h; have HC1 := hid hc1; have HN := hid hn; have HC := hid hc; have HCL := hid hcl
    have hsz := h.bel.size
    have HONE := hid hone
    clear hone
    clear h hc1 hn hc hv1 hcl
    go_enter Tryz.func42, Tryz.ntmps42
    go_wp2_with (at_builtin; refine wpList_lie rfl _ _ 41 rfl rowRO_bk (base := w0.heap.size) (by simp; omega) rfl ((H.out.alloc _).get (i := 1) rfl) ⟨w.heap.size, 0, none⟩ 1 1 [.slice va n vc] rfl rfl (cells1 (by simp [go_sem])) (by simp [Value.oneCell']) (by decide) (by dsimp only; omega) (by dsimp only; unfold maxLen; omega) w.heap.size (by simp) ?_; intro g cap w4 hown4 hg4 hgg4 hlt4; have hR4 := H.out.grown ((Below.refl w.heap.size w).alloc (Nat.le_refl _) _) 1 rfl hown4 hg4 (fun b hb => by simp only [Value.ownBlock, Option.some.injEq] at hb; subst hb; exact hgg4); have c0 := hR4.cell (i := 0) rfl HC.out; have c1 := hR4.fz (i := 0) rfl 16; have c2 := (hR4.lt (i := 0) rfl).2; have HR4 := hid hR4; clear hown4 hg4 hgg4 hlt4 hR4)
    obtain ⟨W, hW⟩ : ∃ W, W = w4.setCell ⟨bb, 16, none⟩ (.slice (some ⟨g, 0, none⟩) (m + 1) cap) := ⟨_, rfl⟩
    have HR5 : Hid (Rws w0 W (⟨45, 22, .slice (some ⟨bb, 0, none⟩) 1 1, 1, cs.set 16 (.slice (some ⟨g, 0, none⟩) (m + 1) cap)⟩ :: ⟨34, 1, .slice (some ⟨g, 0, none⟩) (m + 1) cap, m + 1, vs ++ [.slice va n vc]⟩ :: ⟨34, 1, .slice pa m pc, m, us⟩ :: ⟨50, 1, .slice va n vc, n, ys⟩ :: rest)) := hid (by
      have := HR4.out.set 0 rfl 16 (.slice (some ⟨g, 0, none⟩) (m + 1) cap)
      rw [hW]; exact this)
    rw [← hW]
    have d0 := HR5.out.cell (i := 0) (j := 17) (u := .slice pa m pc) rfl (by rw [List.getElem?_set, if_neg (by decide)]; exact HC1.out)
    have d1 := HR5.out.fz (i := 0) rfl 17
    have d2 := (HR5.out.lt (i := 0) rfl).2
    have hsW := HR5.out.bel.size
    obtain ⟨va2, vc2, vb2, hv2, _, _, hvs, _⟩ := HR5.out.sl (i := 3) (enc := encV) (ys := ys) (by rw [flatV]; rfl) lenV HN.out
    simp only [Value.slice.injEq] at hv2
    obtain ⟨rfl, hnl, rfl⟩ := hv2
    have HVS := hid hvs
    clear hnl hW HR4 H hvs c0 c1 c2 b0 f0 hbl
    have KD : Hid (∀ V, Below W.heap.size W V → V.cell? ⟨bb, 17, none⟩ = some (.slice pa m pc) ∧ V.frozen? ⟨bb, 17, none⟩ = false ∧ bb < V.heap.size) := hid (fun V hV => by
      have hb := hV.block bb d2
      exact ⟨by rw [hV.cell (p := ⟨bb, 17, none⟩) d2]; exact d0, by rw [World.frozen?_of_block (w := W) (a := ⟨bb, 17, none⟩) hb]; exact d1, Nat.lt_of_lt_of_le d2 hV.size⟩)
    go_wp2_with fail
    go_region_law (first
      | (refine step_appS rfl _ _ _ rfl rowII_bk (base := W.heap.size) (by simp) rfl (World.ownsRow_nil _ _ _ _) (ys := ys) lenV (by rw [flatV]; exact HONE.out) (HVS.out.below (bdrew (n := 1) (Below.refl _ _)) (Nat.le_refl _)) (by rw [← HN.out]; rfl) (by rw [← HN.out]; omega) (by rw [← HN.out]; unfold maxLen; omega) ?_; intro u w5 hown5 hg5; rw [← HN.out] at hown5; obtain ⟨ua, uc, rfl⟩ := own_sl hown5; have hB5 : Below W.heap.size W w5 := (bdrew (n := 1) (Below.refl _ _)).grown hg5 (by simp) (fun k hk => by cases hk); obtain ⟨e0, e1, e2⟩ := KD.out _ hB5; have hs5 := hB5.size; have HR55 := hid (HR5.out.add hB5 (by rw [Nat.zero_add, List.nil_append, flatV] at hown5; exact hown5)); clear hown5 hg5 hB5)
      | (refine step_lie rfl _ _ _ rfl rowRO_bk (base := w0.heap.size) (by simp; omega) rfl ((HR55.out.alloc _).get (i := 3) rfl) ⟨w5.heap.size, 0, none⟩ 1 1 [.slice ua n uc] rfl rfl (cells1 (by simp [go_sem])) (by simp [Value.oneCell']) (by decide) (by dsimp only; omega) (by dsimp only; unfold maxLen; omega) w5.heap.size (by simp) ?_; intro g2 cap2 w6 hown6 hg6 hgg6 hlt6; have hR6 := HR55.out.grown ((Below.refl w5.heap.size w5).alloc (Nat.le_refl _) _) 3 rfl hown6 hg6 (fun b hb => by simp only [Value.ownBlock, Option.some.injEq] at hb; subst hb; exact hgg6); have e0 := hR6.cell (i := 1) (j := 17) (u := .slice pa m pc) rfl (by rw [List.getElem?_set, if_neg (by decide)]; exact HC1.out); have e1 := hR6.fz (i := 1) rfl 17; have e2 := (hR6.lt (i := 1) rfl).2; have HR6 := hid hR6; clear hown6 hg6 hgg6 hR6))
    all_goals
      have HR7 := hid (HR6.out.set 1 rfl 17 (.slice (some ⟨g2, 0, none⟩) (m + 1) cap2))
      clear e0 e1 e2 HR6 HR55 KD HVS HR5
      go_wp2_with fail
      go_end0
      refine ⟨rfl, .inr ⟨hlt, .slice (some ⟨g, 0, none⟩) (m + 1) cap, .slice (some ⟨g2, 0, none⟩) (m + 1) cap2, .slice ua n uc, ?_⟩⟩
      exact HR7.out.perm (List.perm_middle (a := (⟨50, 1, Value.slice ua n uc, n, ys⟩ : Rw)) (l₁ := [⟨45, 22, Value.slice (some ⟨bb, 0, none⟩) 1 1, 1, (cs.set 16 (Value.slice (some ⟨g, 0, none⟩) (m + 1) cap)).set 17 (Value.slice (some ⟨g2, 0, none⟩) (m + 1) cap2)⟩, ⟨34, 1, Value.slice (some ⟨g, 0, none⟩) (m + 1) cap, m + 1, vs ++ [Value.slice va n vc]⟩, ⟨34, 1, Value.slice (some ⟨g2, 0, none⟩) (m + 1) cap2, m + 1, us ++ [Value.slice ua n uc]⟩, ⟨50, 1, Value.slice va n vc, n, ys⟩]) (l₂ := rest)).symm
  · have hltI : ¬ (m : Int) < 400 := by omega
    go_enter Tryz.func42, Tryz.ntmps42
    go_wp2_with fail
    go_end0
    exact ⟨rfl, .inl ⟨hlt, rfl⟩⟩
end Go.Proofs.YtbaccmlfnbgehaaGreatDoor
namespace Go.Proofs.YtbaccmlfnbgehaaGreatDoor
open Go.RowKit Pl
def bkAll (I B S E N W : KS) (D : List Rw) : List Rw := I.ks ++ (B.ks ++ (S.ks ++ (E.ks ++ (N.ks ++ (W.ks ++ D)))))
def Bk (w0 w : World) (bb : Nat) (Z R : List Rw) : Prop :=
  ∃ (I B S E N W : KS) (D : List Rw), Rws w0 w (bkRows bb (bkL I B S E N W) (D ++ R)) ∧ FlOk 3 1 encI I ∧ FlOk 4 1 encB B ∧ FlOk 115 2 encS S ∧ FlOk 71 3 encE E ∧
    NeOk 3 50 1 encI (bkAll I B S E N W D) N ∧ NeOk 115 113 2 encS (bkAll I B S E N W D) W ∧ ∀ r ∈ Z, r ∈ bkAll I B S E N W D
section
variable {w0 w w' : World} {bb : Nat} {Z R : List Rw}
theorem mem_bkAll {I B S E N W : KS} {D R : List Rw} {r : Rw} (h : r ∈ bkAll I B S E N W D) : r ∈ bkRows bb (bkL I B S E N W) (D ++ R) := by
  have hk : ∀ {X : KS} {T : TypeId} {j : Nat}, (bkL I B S E N W)[j]? = some (X.kd T) → r ∈ X.ks → r ∈ bkRows bb (bkL I B S E N W) (D ++ R) := fun hj hr => (mem_bk hj).2.2 r (List.mem_append_left _ hr)
  unfold bkAll at h
  simp only [List.mem_append] at h
  rcases h with h | h | h | h | h | h | h
  · exact hk (j := 0) rfl h
  · exact hk (j := 3) rfl h
  · exact hk (j := 4) rfl h
  · exact hk (j := 5) rfl h
  · exact hk (j := 8) rfl h
  · exact hk (j := 10) rfl h
  · exact List.mem_cons_of_mem _ (List.mem_append_right _ (List.mem_append_left _ h))
theorem Bk.apart (h : Bk w0 w bb Z R) : Calls Tryz.prog 21 #[.pointer (some ⟨bb, 0, none⟩)] w fun e w' => e = .returned (.bool true) ∧ Below w0.heap.size w0 w' := by
  obtain ⟨I, B, S, E, N, W, D, h1, h2, h3, h4, h5, h6, h7, _⟩ := h
  exact apart_any h1 h2 h3 h4 h5 h6 h7 (fun r hr => mem_bkAll hr)
theorem Bk.bel (h : Bk w0 w bb Z R) : Below w0.heap.size w0 w := by
  obtain ⟨I, B, S, E, N, W, D, h1, _⟩ := h
  exact h1.bel
theorem Bk.call (h : Bk w0 w bb Z R) (hB : Below w.heap.size w w') : Bk w0 w' bb Z R := by
  obtain ⟨I, B, S, E, N, W, D, h1, h2⟩ := h
  exact ⟨I, B, S, E, N, W, D, h1.call hB, h2⟩
theorem Bk.own (h : Bk w0 w bb Z R) {r : Rw} (hr : r ∈ Z ∨ r ∈ R) : w.ownsRow w0.heap.size r.T r.k r.v r.n r.xs := by
  obtain ⟨I, B, S, E, N, W, D, h1, _, _, _, _, _, _, h8⟩ := h
  rcases hr with hr | hr
  · exact h1.own r (mem_bkAll (h8 r hr))
  · exact h1.own r (List.mem_cons_of_mem _ (List.mem_append_right _ (List.mem_append_right _ hr)))
theorem bk_tail (I B S E N W : KS) (D : List Rw) {R R' : List Rw} (hp : R.Perm R') : (bkRows bb (bkL I B S E N W) (D ++ R)).Perm (bkRows bb (bkL I B S E N W) (D ++ R')) :=
  ((List.Perm.append_left _ (List.Perm.append_left _ hp))).cons _
theorem Bk.perm (h : Bk w0 w bb Z R) {R' : List Rw} (hp : R.Perm R') : Bk w0 w bb Z R' := by
  obtain ⟨I, B, S, E, N, W, D, h1, h2⟩ := h
  exact ⟨I, B, S, E, N, W, D, h1.perm (bk_tail I B S E N W D hp), h2⟩
theorem Bk.add (h : Bk w0 w bb Z R) {T : TypeId} {k n : Nat} {v : Value} {xs : List Value} (hB : Below w.heap.size w w') (ho : w'.ownsRow w.heap.size T k v n xs) : Bk w0 w' bb Z (⟨T, k, v, n, xs⟩ :: R) := by
  obtain ⟨I, B, S, E, N, W, D, h1, h2⟩ := h
  refine ⟨I, B, S, E, N, W, D, (h1.add hB ho).perm ?_, h2⟩
  have hp := List.perm_middle (a := (⟨T, k, v, n, xs⟩ : Rw)) (l₁ := bkBox bb (bkL I B S E N W) :: ((bkL I B S E N W).flatMap Kd.rs ++ D)) (l₂ := R)
  unfold bkRows
  simp only [List.append_assoc, List.cons_append] at hp ⊢
  exact hp.symm
theorem Bk.join (h : Bk w0 w bb Z R) {N : List Rw} (hN : Rws w w' N) : Bk w0 w' bb Z (N ++ R) := by
  obtain ⟨I, B, S, E, M, W, D, h1, h2⟩ := h
  refine ⟨I, B, S, E, M, W, D, (h1.join hN).perm ?_, h2⟩
  have hp := perm_rot N (bkBox bb (bkL I B S E M W) :: (bkL I B S E M W).flatMap Kd.rs) D R
  have hq : ((D ++ N) ++ R).Perm (D ++ (N ++ R)) := by rw [List.append_assoc]
  unfold bkRows
  simp only [List.append_assoc, List.cons_append] at hp ⊢
  exact hp
theorem Bk.sub (h : Bk w0 w bb Z R) {R' : List Rw} (hs : R'.Sublist R) : Bk w0 w bb Z R' := by
  obtain ⟨I, B, S, E, N, W, D, h1, h2⟩ := h
  exact ⟨I, B, S, E, N, W, D, h1.sub ((List.Sublist.append_left (List.Sublist.append_left hs _) _).cons_cons _), h2⟩
theorem Bk.start (w : World) : Bk w (w.alloc (.cells #[.slice none 0 0, .slice none 0 0, .slice none 0 0, .slice none 0 0, .slice none 0 0, .slice none 0 0, .slice none 0 0, .slice none 0 0, .slice none 0 0, .slice none 0 0, .slice none 0 0, .slice none 0 0, .slice none 0 0, .slice none 0 0, .slice none 0 0, .slice none 0 0, .slice none 0 0, .slice none 0 0, .slice none 0 0, .slice none 0 0, .slice none 0 0, .slice none 0 0] 45)) w.heap.size [] [] := by
  refine ⟨.zero, .zero, .zero, .zero, .zero, .zero, [], ?_, .zero, .zero, .zero, .zero, .zero, .zero, fun r hr => by cases hr⟩
  have h0 := Rws.nil (Below.refl w.heap.size w)
  have h1 := (((((((((((((((((((((h0.addNil 37 1).addNil 37 1).addNil 35 1).addNil 35 1).addNil 34 1).addNil 34 1).addNil 151 1).addNil 151 1).addNil 149 1).addNil 149 1).addNil 22 1).addNil 22 1).addNil 113 1).addNil 113 1).addNil 57 1).addNil 57 1).addNil 145 1).addNil 145 1).addNil 143 1).addNil 143 1).addNil 50 1).addNil 50 1
  have h2 := h1.addLit #[.slice none 0 0, .slice none 0 0, .slice none 0 0, .slice none 0 0, .slice none 0 0, .slice none 0 0, .slice none 0 0, .slice none 0 0, .slice none 0 0, .slice none 0 0, .slice none 0 0, .slice none 0 0, .slice none 0 0, .slice none 0 0, .slice none 0 0, .slice none 0 0, .slice none 0 0, .slice none 0 0, .slice none 0 0, .slice none 0 0, .slice none 0 0, .slice none 0 0] 45 (k := 22) (n := 1) (by decide) rfl
  exact h2
end
theorem Rws.bkTake {w0 w : World} {kds : List Kd} {j bb : Nat} {D R : List Rw} {SL : TypeId} {K : KS} {r : Rw} (h : Rws w0 w (bkRows bb kds (D ++ r :: R))) (hj : kds[j]? = some (K.kd SL)) (hl : K.ks.length = K.ws.length) :
    Rws w0 w (bkBox bb kds :: ⟨SL, 1, K.o, K.ks.length, K.ks.map (·.v)⟩ :: ⟨SL, 1, K.p, K.ks.length, K.ws.map (·.v)⟩ :: r :: ((K.ks ++ K.ws) ++ bkX kds j (D ++ R))) := by
  refine (h.perm (bkRows_perm hj)).perm ?_
  unfold KS.kd Kd.rs bkX
  simp only [List.length_map, List.cons_append]
  rw [← hl]
  refine ((List.Perm.cons _ ?_).cons _).cons _
  have hp := List.perm_middle (a := r) (l₁ := (K.ks ++ K.ws) ++ ((kds.take j ++ kds.drop (j + 1)).flatMap Kd.rs ++ D)) (l₂ := R)
  simp only [List.append_assoc] at hp ⊢
  exact hp
theorem Rws.bkGive {w0 w : World} {kds : List Kd} {j bb : Nat} {D R : List Rw} {SL : TypeId} {K : KS} {r u : Rw} {o' p' : Value} {cs : List Value} {n : Nat} (hj : kds[j]? = some (K.kd SL)) (hl : K.ks.length = K.ws.length) (hc : cs = ((bkCells kds).set (j * 2) o').set (j * 2 + 1) p') (hn : n = K.ks.length + 1)
    (h : Rws w0 w (⟨45, 22, .slice (some ⟨bb, 0, none⟩) 1 1, 1, cs⟩ :: ⟨SL, 1, o', n, K.ks.map (·.v) ++ [r.v]⟩ :: ⟨SL, 1, p', n, K.ws.map (·.v) ++ [u.v]⟩ :: r :: u :: ((K.ks ++ K.ws) ++ bkX kds j (D ++ R)))) :
    Rws w0 w (bkRows bb (kds.set j ((KS.mk o' p' (K.ks ++ [r]) (K.ws ++ [u])).kd SL)) (D ++ R)) := by
  refine h.perm (List.Perm.trans ?_ (bkRows_perm' (bb := bb) (D := D ++ R) (K' := (KS.mk o' p' (K.ks ++ [r]) (K.ws ++ [u])).kd SL) hj).symm)
  have e : bkBox bb (kds.set j ((KS.mk o' p' (K.ks ++ [r]) (K.ws ++ [u])).kd SL)) = ⟨45, 22, .slice (some ⟨bb, 0, none⟩) 1 1, 1, cs⟩ := by
    unfold bkBox
    rw [bkCells_set hj, hc]
    rfl
  rw [e]
  unfold KS.kd Kd.rs
  simp only [List.map_append, List.map_cons, List.map_nil, List.length_append, List.length_map, List.length_cons, List.length_nil, List.cons_append]
  rw [hn, ← hl]
  refine ((List.Perm.cons _ ?_).cons _).cons _
  have h1 := List.perm_middle (a := r) (l₁ := K.ks) (l₂ := K.ws ++ (u :: bkX kds j (D ++ R)))
  have h2 := List.perm_middle (a := u) (l₁ := K.ks ++ K.ws) (l₂ := bkX kds j (D ++ R))
  simp only [List.append_assoc, List.cons_append, List.nil_append] at h1 h2 ⊢
  exact (h2.symm.cons r).trans h1.symm
theorem mem_dmono {I B S E N W : KS} {D : List Rw} {r x : Rw} (h : x ∈ bkAll I B S E N W D) : x ∈ bkAll I B S E N W (D ++ [r]) := by
  unfold bkAll at *
  simp only [List.mem_append] at *
  rcases h with h | h | h | h | h | h | h <;> simp [h]
theorem mem_monoI {I B S E N W : KS} {D : List Rw} {r u x : Rw} {o' p' : Value} (h : x ∈ bkAll I B S E N W D) : x ∈ bkAll (KS.mk o' p' (I.ks ++ [r]) (I.ws ++ [u])) B S E N W D := by
  unfold bkAll at *
  simp only [List.mem_append] at *
  rcases h with h | h | h | h | h | h | h <;> simp [h]
theorem mem_newI {I B S E N W : KS} {D : List Rw} {r u : Rw} {o' p' : Value} : r ∈ bkAll (KS.mk o' p' (I.ks ++ [r]) (I.ws ++ [u])) B S E N W D := by
  unfold bkAll
  simp
theorem Bk.giveI {w0 w : World} {bb n : Nat} {Z R : List Rw} {v : Value} {ys : List Int} {xs : List Value} (h : Bk w0 w bb Z (⟨3, 1, v, n, xs⟩ :: R)) (hx : xs = ys.flatMap encI) (hn : n = ys.length) (hl : n ≤ 500000) :
    Calls Tryz.prog 18 #[.pointer (some ⟨bb, 0, none⟩), v] w fun e w' => e = .returned (.tuple #[]) ∧ Bk w0 w' bb (⟨3, 1, v, n, xs⟩ :: Z) R := by
  obtain ⟨I, B, S, E, N, W, D, h1, h2, h3, h4, h5, h6, h7, h8⟩ := h
  subst hx
  have hf : FlOk 3 1 encI I := by assumption
  have hj : (bkL I B S E N W)[0]? = some (I.kd 50) := rfl
  have ht := h1.bkTake hj hf.hl
  have hv1 : v.oneCell' = true := by
    obtain ⟨a, c, e, _⟩ := ht.shape (r := ⟨3, 1, v, n, ys.flatMap encI⟩) (by simp)
    dsimp only at e
    rw [e]; rfl
  obtain ⟨q1, q2⟩ := bkCells_at hj
  refine (addI_any ht (by rw [bkCells_len]; rfl) q1 q2 hn hl hf.h4 hv1).mono ?_
  rintro e w' ⟨rfl, hp⟩
  refine ⟨rfl, ?_⟩
  rcases hp with ⟨_, rfl⟩ | ⟨hm, o', p', u, hr⟩
  · refine ⟨I, B, S, E, N, W, D ++ [⟨3, 1, v, n, ys.flatMap encI⟩], by rw [List.append_assoc]; exact h1, h2, h3, h4, h5, h6.mono (fun x hx => mem_dmono hx), h7.mono (fun x hx => mem_dmono hx), fun x hx => ?_⟩
    rcases List.mem_cons.1 hx with rfl | hx
    · unfold bkAll; simp
    · exact mem_dmono (h8 x hx)
  · have hb := Rws.bkGive (r := ⟨3, 1, v, n, ys.flatMap encI⟩) (u := ⟨3, 1, u, n, ys.flatMap encI⟩) hj hf.hl rfl rfl hr
    have hfp : FlOk 3 1 encI ⟨o', p', I.ks ++ [⟨3, 1, v, n, ys.flatMap encI⟩], I.ws ++ [⟨3, 1, u, n, ys.flatMap encI⟩]⟩ := hf.push hm (ys := ys) rfl rfl rfl rfl (by omega) hn hn rfl rfl
    refine ⟨_, B, S, E, N, W, D, hb, hfp, h3, h4, h5, h6.mono (fun x hx => mem_monoI hx), h7.mono (fun x hx => mem_monoI hx), fun x hx => ?_⟩
    rcases List.mem_cons.1 hx with rfl | hx
    · exact mem_newI
    · exact mem_monoI (h8 x hx)
theorem mem_monoN {I B S E N W : KS} {D : List Rw} {r u x : Rw} {o' p' : Value} (h : x ∈ bkAll I B S E N W D) : x ∈ bkAll I B S E (KS.mk o' p' (N.ks ++ [r]) (N.ws ++ [u])) W D := by
  unfold bkAll at *
  simp only [List.mem_append] at *
  rcases h with h | h | h | h | h | h | h <;> simp [h]
theorem mem_newN {I B S E N W : KS} {D : List Rw} {r u : Rw} {o' p' : Value} : r ∈ bkAll I B S E (KS.mk o' p' (N.ks ++ [r]) (N.ws ++ [u])) W D := by
  unfold bkAll
  simp
theorem Bk.giveN {w0 w : World} {bb n : Nat} {Z R : List Rw} {v : Value} {xs : List Value} (h : Bk w0 w bb Z (⟨50, 1, v, n, xs⟩ :: R)) (hl : n ≤ 500000) (hin : ∀ x ∈ xs, ∃ q ∈ Z, q.v = x ∧ q.T = 3 ∧ q.k = 1 ∧ ∃ ys : List Int, ys.length ≤ 500000 ∧ q.n = ys.length ∧ q.xs = ys.flatMap encI) :
    Calls Tryz.prog 42 #[.pointer (some ⟨bb, 0, none⟩), v] w fun e w' => e = .returned (.tuple #[]) ∧ Bk w0 w' bb (⟨50, 1, v, n, xs⟩ :: Z) R := by
  obtain ⟨I, B, S, E, N, W, D, h1, h2, h3, h4, h5, h6, h7, h8⟩ := h
  have hf : NeOk 3 50 1 encI (bkAll I B S E N W D) N := by assumption
  have hj : (bkL I B S E N W)[8]? = some (N.kd 34) := rfl
  have ht := h1.bkTake hj hf.hl
  obtain ⟨va, vc, hvv, _, _, _, _, hxl⟩ := ht.shape (r := ⟨50, 1, v, n, xs⟩) (by simp)
  dsimp only at hvv hxl
  have hv1 : v.oneCell' = true := by rw [hvv]; rfl
  have hone : ∀ x ∈ xs, x.oneCell' = true := fun x hx => by
    obtain ⟨q, hq, rfl, _⟩ := hin x hx
    obtain ⟨a, c, e, _⟩ := h1.shape (mem_bkAll (h8 q hq))
    rw [e]; rfl
  obtain ⟨q1, q2⟩ := bkCells_at hj
  refine (addR_any ht (by rw [bkCells_len]; rfl) q1 q2 (by omega) hl hf.h4 hv1 hone).mono ?_
  rintro e w' ⟨rfl, hp⟩
  refine ⟨rfl, ?_⟩
  rcases hp with ⟨_, rfl⟩ | ⟨hm, o', p', u, hr⟩
  · refine ⟨I, B, S, E, N, W, D ++ [⟨50, 1, v, n, xs⟩], by rw [List.append_assoc]; exact h1, h2, h3, h4, h5, h6.mono (fun x hx => mem_dmono hx), h7.mono (fun x hx => mem_dmono hx), fun x hx => ?_⟩
    rcases List.mem_cons.1 hx with rfl | hx
    · unfold bkAll; simp
    · exact mem_dmono (h8 x hx)
  · have hb := Rws.bkGive (r := ⟨50, 1, v, n, xs⟩) (u := ⟨50, 1, u, n, xs⟩) hj hf.hl rfl rfl hr
    have hfp : NeOk 3 50 1 encI (bkAll I B S E N W D) ⟨o', p', N.ks ++ [⟨50, 1, v, n, xs⟩], N.ws ++ [⟨50, 1, u, n, xs⟩]⟩ := hf.push hm rfl rfl rfl rfl rfl rfl hl (fun x hx => by
      obtain ⟨q, hq, y⟩ := hin x hx
      exact ⟨q, h8 q hq, y⟩)
    refine ⟨I, B, S, E, _, W, D, hb, h2, h3, h4, h5, hfp.mono (fun x hx => mem_monoN hx), h7.mono (fun x hx => mem_monoN hx), fun x hx => ?_⟩
    rcases List.mem_cons.1 hx with rfl | hx
    · exact mem_newN
    · exact mem_monoN (h8 x hx)
end Go.Proofs.YtbaccmlfnbgehaaGreatDoor
namespace Go.Proofs.YtbaccmlfnbgehaaGreatDoor
open Go.RowKit Pl
theorem sysG {w : World} {B : Nat} {x y z : Int} {v : Value} (h : w.heap[B]? = some (.cells #[.int .i64 x, .int .i64 y, .int .i64 z, v] 24 (0, 0))) :
    w.cell? ⟨B, 0, none⟩ = some (.int .i64 x) ∧ w.cell? ⟨B, 1, none⟩ = some (.int .i64 y) ∧ w.cell? ⟨B, 2, none⟩ = some (.int .i64 z) ∧ w.cell? ⟨B, 3, none⟩ = some v := by
  refine ⟨?_, ?_, ?_, ?_⟩ <;> simp [World.cell?, h]
theorem at_world {P : Program} {c : Code} {Q : Exit → Act → World → Prop} {a : Act} {w : World} (R : World → Prop) (h0 : R w) (h : ∀ W, R W → c.wp P Q a W) : c.wp P Q a w := h w h0
theorem own_unlike {w : World} {b1 b2 : Nat} {t1 t2 : TypeId} {k1 k2 n1 n2 : Nat} {v1 v2 : Value} {x1 x2 : List Value} (h1 : w.ownsRow b1 t1 k1 v1 n1 x1) (h2 : w.ownsRow b2 t2 k2 v2 n2 x2) (hne : t1 ≠ t2) : ∀ g, v1.ownBlock = some g → v2.ownBlock ≠ some g := fun g hg hg2 => by
  rcases h1.2 with ⟨e, _⟩ | ⟨g1, c1, cur1, e1, _, hh1, _⟩
  · rw [e] at hg; cases hg
  · rcases h2.2 with ⟨e, _⟩ | ⟨g2, c2, cur2, e2, _, hh2, _⟩
    · rw [e] at hg2; cases hg2
    · rw [e1] at hg; rw [e2] at hg2
      simp only [Value.ownBlock, Option.some.injEq] at hg hg2
      subst hg
      subst hg2
      rw [hh1] at hh2
      simp only [Option.some.injEq, Obj.cells.injEq] at hh2
      exact hne hh2.2.1
end Go.Proofs.YtbaccmlfnbgehaaGreatDoor

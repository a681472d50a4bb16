/-
  Lemmas.
-/
import Derived.Test.YtbaccmlfnbgehaaGreatDoorGBkEa
import Derived.Test.YtbaccmlfnbgehaaGreatDoorBkAq
import Derived.Test.YtbaccmlfnbgehaaGreatDoorGRws
namespace Go.Proofs.YtbaccmlfnbgehaaGreatDoor
open Go.RowKit Pl
def BkF (w0 w : World) (bb : Nat) (Z R : List Rw) : Prop :=
  ∃ (I B S E N W : KS) (D : List Rw), Rws w0 w (bkRows bb (bkL I B S E N W) (D ++ R)) ∧ FlOk 3 1 encI I ∧ FlOk 4 1 encB B ∧ FlOk 115 2 encS S ∧ FlOk 71 3 encE E ∧
    NeOk 3 50 1 encI (bkAll I B S E N W D) N ∧ NeOk 115 113 2 encS (bkAll I B S E N W D) W ∧ (∀ r ∈ Z, r ∈ bkAll I B S E N W D) ∧ ∀ r ∈ D, r.T ≠ 88
section
variable {w0 w w' : World} {bb : Nat} {Z R : List Rw}
theorem BkF.bk (h : BkF w0 w bb Z R) : Bk w0 w bb Z R := by
  obtain ⟨I, B, S, E, N, W, D, h1, h2, h3, h4, h5, h6, h7, h8, _⟩ := h
  exact ⟨I, B, S, E, N, W, D, h1, h2, h3, h4, h5, h6, h7, h8⟩
theorem BkF.bel (h : BkF w0 w bb Z R) : Below w0.heap.size w0 w := h.bk.bel
theorem BkF.own (h : BkF w0 w bb Z R) {r : Rw} (hr : r ∈ Z ∨ r ∈ R) : w.ownsRow w0.heap.size r.T r.k r.v r.n r.xs := h.bk.own hr
theorem BkF.call (h : BkF w0 w bb Z R) (hB : Below w.heap.size w w') : BkF w0 w' bb Z R := by
  obtain ⟨I, B, S, E, N, W, D, h1, h2⟩ := h
  exact ⟨I, B, S, E, N, W, D, h1.call hB, h2⟩
theorem BkF.perm (h : BkF w0 w bb Z R) {R' : List Rw} (hp : R.Perm R') : BkF w0 w bb Z R' := by
  obtain ⟨I, B, S, E, N, W, D, h1, h2⟩ := h
  exact ⟨I, B, S, E, N, W, D, h1.perm (bk_tail I B S E N W D hp), h2⟩
theorem BkF.add (h : BkF w0 w bb Z R) {T : TypeId} {k n : Nat} {v : Value} {xs : List Value} (hB : Below w.heap.size w w') (ho : w'.ownsRow w.heap.size T k v n xs) : BkF w0 w' bb Z (⟨T, k, v, n, xs⟩ :: R) := by
  obtain ⟨I, B, S, E, N, W, D, h1, h2⟩ := h
  refine ⟨I, B, S, E, N, W, D, (h1.add hB ho).perm ?_, h2⟩
  have hp := List.perm_middle (a := (⟨T, k, v, n, xs⟩ : Rw)) (l₁ := bkBox bb (bkL I B S E N W) :: ((bkL I B S E N W).flatMap Kd.rs ++ D)) (l₂ := R)
  unfold bkRows
  simp only [List.append_assoc, List.cons_append] at hp ⊢
  exact hp.symm
theorem BkF.join (h : BkF w0 w bb Z R) {N : List Rw} (hN : Rws w w' N) : BkF w0 w' bb Z (N ++ R) := by
  obtain ⟨I, B, S, E, M, W, D, h1, h2⟩ := h
  refine ⟨I, B, S, E, M, W, D, (h1.join hN).perm ?_, h2⟩
  have hp := perm_rot N (bkBox bb (bkL I B S E M W) :: (bkL I B S E M W).flatMap Kd.rs) D R
  have hq : ((D ++ N) ++ R).Perm (D ++ (N ++ R)) := by rw [List.append_assoc]
  unfold bkRows
  simp only [List.append_assoc, List.cons_append] at hp ⊢
  exact hp
theorem BkF.sub (h : BkF w0 w bb Z R) {R' : List Rw} (hs : R'.Sublist R) : BkF w0 w bb Z R' := by
  obtain ⟨I, B, S, E, N, W, D, h1, h2⟩ := h
  exact ⟨I, B, S, E, N, W, D, h1.sub ((List.Sublist.append_left (List.Sublist.append_left hs _) _).cons_cons _), h2⟩
theorem BkF.start (w : World) : BkF w (w.alloc (.cells #[.slice none 0 0, .slice none 0 0, .slice none 0 0, .slice none 0 0, .slice none 0 0, .slice none 0 0, .slice none 0 0, .slice none 0 0, .slice none 0 0, .slice none 0 0, .slice none 0 0, .slice none 0 0, .slice none 0 0, .slice none 0 0, .slice none 0 0, .slice none 0 0, .slice none 0 0, .slice none 0 0, .slice none 0 0, .slice none 0 0, .slice none 0 0, .slice none 0 0] 45)) w.heap.size [] [] := by
  refine ⟨.zero, .zero, .zero, .zero, .zero, .zero, [], ?_, .zero, .zero, .zero, .zero, .zero, .zero, fun r hr => (by cases hr), fun r hr => (by cases hr)⟩
  have h0 := Rws.nil (Below.refl w.heap.size w)
  have h1 := (((((((((((((((((((((h0.addNil 37 1).addNil 37 1).addNil 35 1).addNil 35 1).addNil 34 1).addNil 34 1).addNil 151 1).addNil 151 1).addNil 149 1).addNil 149 1).addNil 22 1).addNil 22 1).addNil 113 1).addNil 113 1).addNil 57 1).addNil 57 1).addNil 145 1).addNil 145 1).addNil 143 1).addNil 143 1).addNil 50 1).addNil 50 1
  have h2 := h1.addLit #[.slice none 0 0, .slice none 0 0, .slice none 0 0, .slice none 0 0, .slice none 0 0, .slice none 0 0, .slice none 0 0, .slice none 0 0, .slice none 0 0, .slice none 0 0, .slice none 0 0, .slice none 0 0, .slice none 0 0, .slice none 0 0, .slice none 0 0, .slice none 0 0, .slice none 0 0, .slice none 0 0, .slice none 0 0, .slice none 0 0, .slice none 0 0, .slice none 0 0] 45 (k := 22) (n := 1) (by decide) rfl
  exact h2
end
theorem BkF.giveI {w0 w : World} {bb n : Nat} {Z R : List Rw} {v : Value} {ys : List Int} {xs : List Value} (h : BkF w0 w bb Z (⟨3, 1, v, n, xs⟩ :: R)) (hx : xs = ys.flatMap encI) (hn : n = ys.length) (hl : n ≤ 500000) :
    Calls Tryz.prog 18 #[.pointer (some ⟨bb, 0, none⟩), v] w fun e w' => e = .returned (.tuple #[]) ∧ BkF w0 w' bb (⟨3, 1, v, n, xs⟩ :: Z) R := by
  obtain ⟨I, B, S, E, N, W, D, h1, h2, h3, h4, h5, h6, h7, h8, h9⟩ := h
  subst hx
  have hf : FlOk 3 1 encI I := by assumption
  have hj : (bkL I B S E N W)[0]? = some (I.kd 50) := rfl
  have ht := h1.bkTake hj hf.hl
  have hv1 : v.oneCell' = true := by
    obtain ⟨a, c, e, _⟩ := ht.shape (r := ⟨3, 1, v, n, ys.flatMap encI⟩) (by simp)
    dsimp only at e
    rw [e]; rfl
  obtain ⟨q1, q2⟩ := bkCells_at hj
  refine (addI_any ht (by rw [bkCells_len]; rfl) q1 q2 hn hl hf.h4 hv1).mono ?_
  rintro e w' ⟨rfl, hp⟩
  refine ⟨rfl, ?_⟩
  rcases hp with ⟨_, rfl⟩ | ⟨hm, o', p', u, hr⟩
  · refine ⟨I, B, S, E, N, W, D ++ [⟨3, 1, v, n, ys.flatMap encI⟩], by rw [List.append_assoc]; exact h1, h2, h3, h4, h5, h6.mono (fun x hx => mem_dmono hx), h7.mono (fun x hx => mem_dmono hx), fun x hx => ?_, by
      intro x hx
      rcases List.mem_append.1 hx with hx | hx
      · exact h9 x hx
      · simp only [List.mem_singleton] at hx
        subst hx
        show 3 ≠ 88
        decide⟩
    rcases List.mem_cons.1 hx with rfl | hx
    · unfold bkAll; simp
    · exact mem_dmono (h8 x hx)
  · have hb := Rws.bkGive (r := ⟨3, 1, v, n, ys.flatMap encI⟩) (u := ⟨3, 1, u, n, ys.flatMap encI⟩) hj hf.hl rfl rfl hr
    have hfp : FlOk 3 1 encI ⟨o', p', I.ks ++ [⟨3, 1, v, n, ys.flatMap encI⟩], I.ws ++ [⟨3, 1, u, n, ys.flatMap encI⟩]⟩ := hf.push hm (ys := ys) rfl rfl rfl rfl (by omega) hn hn rfl rfl
    refine ⟨_, B, S, E, N, W, D, hb, hfp, h3, h4, h5, h6.mono (fun x hx => mem_monoI hx), h7.mono (fun x hx => mem_monoI hx), fun x hx => ?_, h9⟩
    rcases List.mem_cons.1 hx with rfl | hx
    · exact mem_newI
    · exact mem_monoI (h8 x hx)
theorem BkF.giveN {w0 w : World} {bb n : Nat} {Z R : List Rw} {v : Value} {xs : List Value} (h : BkF w0 w bb Z (⟨50, 1, v, n, xs⟩ :: R)) (hl : n ≤ 500000) (hin : ∀ x ∈ xs, ∃ q ∈ Z, q.v = x ∧ q.T = 3 ∧ q.k = 1 ∧ ∃ ys : List Int, ys.length ≤ 500000 ∧ q.n = ys.length ∧ q.xs = ys.flatMap encI) :
    Calls Tryz.prog 42 #[.pointer (some ⟨bb, 0, none⟩), v] w fun e w' => e = .returned (.tuple #[]) ∧ BkF w0 w' bb (⟨50, 1, v, n, xs⟩ :: Z) R := by
  obtain ⟨I, B, S, E, N, W, D, h1, h2, h3, h4, h5, h6, h7, h8, h9⟩ := h
  have hf : NeOk 3 50 1 encI (bkAll I B S E N W D) N := by assumption
  have hj : (bkL I B S E N W)[8]? = some (N.kd 34) := rfl
  have ht := h1.bkTake hj hf.hl
  obtain ⟨va, vc, hvv, _, _, _, _, hxl⟩ := ht.shape (r := ⟨50, 1, v, n, xs⟩) (by simp)
  dsimp only at hvv hxl
  have hv1 : v.oneCell' = true := by rw [hvv]; rfl
  have hone : ∀ x ∈ xs, x.oneCell' = true := fun x hx => by
    obtain ⟨q, hq, rfl, _⟩ := hin x hx
    obtain ⟨a, c, e, _⟩ := h1.shape (mem_bkAll (h8 q hq))
    rw [e]; rfl
  obtain ⟨q1, q2⟩ := bkCells_at hj
  refine (addR_any ht (by rw [bkCells_len]; rfl) q1 q2 (by omega) hl hf.h4 hv1 hone).mono ?_
  rintro e w' ⟨rfl, hp⟩
  refine ⟨rfl, ?_⟩
  rcases hp with ⟨_, rfl⟩ | ⟨hm, o', p', u, hr⟩
  · refine ⟨I, B, S, E, N, W, D ++ [⟨50, 1, v, n, xs⟩], by rw [List.append_assoc]; exact h1, h2, h3, h4, h5, h6.mono (fun x hx => mem_dmono hx), h7.mono (fun x hx => mem_dmono hx), fun x hx => ?_, by
      intro x hx
      rcases List.mem_append.1 hx with hx | hx
      · exact h9 x hx
      · simp only [List.mem_singleton] at hx
        subst hx
        show 50 ≠ 88
        decide⟩
    rcases List.mem_cons.1 hx with rfl | hx
    · unfold bkAll; simp
    · exact mem_dmono (h8 x hx)
  · have hb := Rws.bkGive (r := ⟨50, 1, v, n, xs⟩) (u := ⟨50, 1, u, n, xs⟩) hj hf.hl rfl rfl hr
    have hfp : NeOk 3 50 1 encI (bkAll I B S E N W D) ⟨o', p', N.ks ++ [⟨50, 1, v, n, xs⟩], N.ws ++ [⟨50, 1, u, n, xs⟩]⟩ := hf.push hm rfl rfl rfl rfl rfl rfl hl (fun x hx => by
      obtain ⟨q, hq, y⟩ := hin x hx
      exact ⟨q, h8 q hq, y⟩)
    refine ⟨I, B, S, E, _, W, D, hb, h2, h3, h4, h5, hfp.mono (fun x hx => mem_monoN hx), h7.mono (fun x hx => mem_monoN hx), fun x hx => ?_, h9⟩
    rcases List.mem_cons.1 hx with rfl | hx
    · exact mem_newN
    · exact mem_monoN (h8 x hx)
def fRow (k : Nat) (cs : Array Value) : Rw := ⟨88, 4, .slice (some ⟨k, 0, none⟩) 1 1, 1, cs.toList⟩
def isF (w : World) (k : Nat) (cs : Array Value) : Prop := w.heap[k]? = some (.cells cs 88 (0, 0)) ∧ cs.size = 4
theorem fRow_own {w : World} {B k : Nat} {cs : Array Value} (h : isF w k cs) (hk : B ≤ k) : w.ownsRow B 88 4 (.slice (some ⟨k, 0, none⟩) 1 1) 1 cs.toList :=
  ⟨by rw [Array.length_toList, h.2], .inr ⟨k, 1, cs, rfl, hk, h.1, by omega, by unfold maxLen; omega, by rw [h.2], by rw [List.take_of_length_le (by rw [Array.length_toList, h.2]; omega)]⟩⟩
theorem fRow_back {w : World} {B k : Nat} {cs : Array Value} (h : w.ownsRow B 88 4 (.slice (some ⟨k, 0, none⟩) 1 1) 1 cs.toList) : w.heap[k]? = some (.cells cs 88 (0, 0)) := by
  rcases h.2 with ⟨e, _⟩ | ⟨g', cap, cur, e, _, hh, _, _, hs, ht⟩
  · cases e
  · simp only [Value.slice.injEq, Option.some.injEq, Addr.mk.injEq, and_true] at e
    obtain ⟨rfl, _, rfl⟩ := e
    rw [hh]
    have : cur = cs := by
      apply Array.toList_inj.1
      rw [← ht, List.take_of_length_le (by rw [Array.length_toList]; omega)]
    rw [this]
theorem faults_rows {w0 w : World} {L : List Rw} (h : Rws w0 w L) (hT : ∀ r ∈ L, r.T ≠ 88) : ∀ m : Nat, ∃ F : List Rw, Rws w0 w (F ++ L) ∧ (∀ k cs, k < m → w0.heap.size ≤ k → isF w k cs → fRow k cs ∈ F) ∧ ∀ r ∈ F, ∃ k cs, k < m ∧ isF w k cs ∧ r = fRow k cs := by
  intro m
  induction m with
  | zero => exact ⟨[], h, fun k cs hk => by omega, fun r hr => by cases hr⟩
  | succ m ih =>
    obtain ⟨F, hF, h1, h2⟩ := ih
    by_cases hm : ∃ cs, w0.heap.size ≤ m ∧ isF w m cs
    · obtain ⟨cs, hmk, hcs⟩ := hm
      have ho := fRow_own hcs hmk
      refine ⟨fRow m cs :: F, ⟨hF.bel, fun r hr => ?_, ?_⟩, fun k cs' hk hk2 hf => ?_, fun r hr => ?_⟩
      · rcases List.mem_cons.1 hr with rfl | hr
        · exact ho
        · exact hF.own r hr
      · refine List.Pairwise.cons (fun r hr g hg hg2 => ?_) hF.apart
        simp only [fRow, Value.ownBlock, Option.some.injEq] at hg
        subst hg
        rcases List.mem_append.1 hr with hr | hr
        · obtain ⟨k, cs2, hk, _, rfl⟩ := h2 r hr
          simp only [fRow, Value.ownBlock, Option.some.injEq] at hg2
          omega
        · exact own_unlike ho (h.own r hr) (fun e => hT r hr e.symm) m rfl hg2
      · rcases Nat.lt_or_ge k m with hkm | hkm
        · exact List.mem_cons_of_mem _ (h1 k cs' hkm hk2 hf)
        · obtain rfl : k = m := by omega
          have e := hf.1.symm.trans hcs.1
          simp only [Option.some.injEq, Obj.cells.injEq, and_true] at e
          subst e
          exact List.mem_cons_self ..
      · rcases List.mem_cons.1 hr with rfl | hr
        · exact ⟨m, cs, by omega, hcs, rfl⟩
        · obtain ⟨k, cs2, hk, hf, he⟩ := h2 r hr
          exact ⟨k, cs2, by omega, hf, he⟩
    · refine ⟨F, hF, fun k cs hk hk2 hf => ?_, fun r hr => ?_⟩
      · rcases Nat.lt_or_ge k m with hkm | hkm
        · exact h1 k cs hkm hk2 hf
        · obtain rfl : k = m := by omega
          exact absurd ⟨cs, hk2, hf⟩ hm
      · obtain ⟨k, cs2, hk, hf, he⟩ := h2 r hr
        exact ⟨k, cs2, by omega, hf, he⟩
theorem FlOk.ws_at {α : Type} {T : TypeId} {k : Nat} {enc : α → List Value} {s : KS} (h : FlOk T k enc s) {r : Rw} (hr : r ∈ s.ks ++ s.ws) : r.T = T := by
  rcases List.mem_append.1 hr with hr | hr
  · exact (h.ks_at hr).1
  · obtain ⟨i, hi⟩ := List.getElem?_of_mem hr
    have hl := (List.getElem?_eq_some_iff.1 hi).1
    obtain ⟨r', hi'⟩ := getElem?_of_lt (xs := s.ks) (i := i) (by rw [h.hl]; exact hl)
    obtain ⟨_, _, a, _⟩ := h.at_ i r' r hi' hi
    exact a
theorem NeOk.ws_at {α : Type} {T IL : TypeId} {k : Nat} {enc : α → List Value} {A : List Rw} {s : KS} (h : NeOk T IL k enc A s) {r : Rw} (hr : r ∈ s.ks ++ s.ws) : r.T = IL := by
  rcases List.mem_append.1 hr with hr | hr
  · exact (h.ks_at hr).1
  · obtain ⟨i, hi⟩ := List.getElem?_of_mem hr
    have hl := (List.getElem?_eq_some_iff.1 hi).1
    obtain ⟨r', hi'⟩ := getElem?_of_lt (xs := s.ks) (i := i) (by rw [h.hl]; exact hl)
    obtain ⟨_, _, a, _⟩ := h.at_ i r' r hi' hi
    exact a
theorem kd_tag {K : KS} {T U : TypeId} (hT : T ≠ 88) (hU : U ≠ 88) (h : ∀ r ∈ K.ks ++ K.ws, r.T = U) : ∀ r ∈ (K.kd T).rs, r.T ≠ 88 := by
  intro r hr
  unfold KS.kd Kd.rs at hr
  simp only [List.mem_cons] at hr
  rcases hr with rfl | rfl | hr
  · exact hT
  · exact hT
  · rw [h r hr]; exact hU
theorem kd_tag0 {T : TypeId} (hT : T ≠ 88) : ∀ r ∈ (KS.zero.kd T).rs, r.T ≠ 88 :=
  kd_tag hT hT (fun r hr => by simp [KS.zero] at hr)
theorem BkF.apartF {w0 w : World} {bb : Nat} {Z : List Rw} (h : BkF w0 w bb Z []) : Calls Tryz.prog 21 #[.pointer (some ⟨bb, 0, none⟩)] w fun e w' => e = .returned (.bool true) ∧ Below w0.heap.size w0 w' ∧ ∀ k cs, isF w k cs → w'.heap[k]? = some (.cells cs 88 (0, 0)) := by
  obtain ⟨I, B, S, E, N, W, D, h1, h2, h3, h4, h5, h6, h7, _, h9⟩ := h
  rw [List.append_nil] at h1
  have hT : ∀ r ∈ bkRows bb (bkL I B S E N W) D, r.T ≠ 88 := fun r hr => by
    unfold bkRows at hr
    rcases List.mem_cons.1 hr with rfl | hr
    · show 45 ≠ 88; decide
    rcases List.mem_append.1 hr with hr | hr
    · obtain ⟨K, hK, hr⟩ := List.mem_flatMap.1 hr
      unfold bkL at hK
      simp only [List.mem_cons, List.not_mem_nil, or_false] at hK
      rcases hK with rfl | rfl | rfl | rfl | rfl | rfl | rfl | rfl | rfl | rfl | rfl
      · exact kd_tag (by decide) (U := 3) (by decide) (fun r hr => h2.ws_at hr) r hr
      · exact kd_tag0 (by decide) r hr
      · exact kd_tag0 (by decide) r hr
      · exact kd_tag (by decide) (U := 4) (by decide) (fun r hr => h3.ws_at hr) r hr
      · exact kd_tag (by decide) (U := 115) (by decide) (fun r hr => h4.ws_at hr) r hr
      · exact kd_tag (by decide) (U := 71) (by decide) (fun r hr => h5.ws_at hr) r hr
      · exact kd_tag0 (by decide) r hr
      · exact kd_tag0 (by decide) r hr
      · exact kd_tag (by decide) (U := 50) (by decide) (fun r hr => h6.ws_at hr) r hr
      · exact kd_tag0 (by decide) r hr
      · exact kd_tag (by decide) (U := 113) (by decide) (fun r hr => h7.ws_at hr) r hr
    · exact h9 r hr
  obtain ⟨F, hF, f1, _⟩ := faults_rows h1 hT w.heap.size
  have hp : Rws w0 w (bkRows bb (bkL I B S E N W) (D ++ F)) := hF.perm (by
    have h := List.perm_append_comm (l₁ := F) (l₂ := bkRows bb (bkL I B S E N W) D)
    unfold bkRows at h ⊢
    simpa [List.append_assoc] using h)
  refine (apartQ_any (A := bkAll I B S E N W D) hp h2 h3 h4 h5 h6 h7 (fun r hr => mem_bkAll hr)).mono ?_
  rintro e w' ⟨rfl, hB, ho⟩
  refine ⟨rfl, hB, fun k cs hk => ?_⟩
  rcases Nat.lt_or_ge k w0.heap.size with hk0 | hk0
  · rw [hB.block k hk0, ← h1.bel.block k hk0]; exact hk.1
  · exact fRow_back (ho _ (List.mem_append_right _ (f1 k cs (Array.getElem?_eq_some_iff.1 hk.1).1 hk0 hk)))
theorem BkF.low {w0 w : World} {bb : Nat} {Z R : List Rw} (h : BkF w0 w bb Z R) {p : Addr} (hp : p.block < w0.heap.size) (v : Value) : BkF (w0.setCell p v) (w.setCell p v) bb Z R := by
  obtain ⟨I, B, S, E, N, W, D, h1, h2⟩ := h
  exact ⟨I, B, S, E, N, W, D, h1.low hp v, h2⟩
end Go.Proofs.YtbaccmlfnbgehaaGreatDoor

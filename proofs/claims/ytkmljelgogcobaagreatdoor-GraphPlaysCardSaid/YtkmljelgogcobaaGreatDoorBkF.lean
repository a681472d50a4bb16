/-
  Rows whose cells are put one by one out of lists (the book's nested kinds); rows joined.
-/
import Derived.Test.YtkmljelgogcobaaGreatDoorBkB
import Derived.Test.YtkmljelgogcobaaGreatDoorGRwsB
import Derived.Test.YtkmljelgogcobaaGreatDoorPl8
namespace Go.Proofs.YtkmljelgogcobaaGreatDoor
open Go.RowKit Pl

/-- The rows ks, the cells F p put up to the q-th of list i. -/
def mkF (F : Nat → List Value) (ks : List Rw) (i q : Nat) : List Rw :=
  ks.mapIdx (fun p r => ⟨r.T, r.k, r.v, r.n, if p < i then F p else if p = i then (F p).take q ++ r.xs.drop q else r.xs⟩)
def mkFin (F : Nat → List Value) (ks : List Rw) : List Rw := ks.mapIdx (fun p r => ⟨r.T, r.k, r.v, r.n, F p⟩)
section
variable {F : Nat → List Value} {ks rest : List Rw} {i q n g c : Nat} {r : Rw} {xs ms : List Value} {w0 w w1 : World} {T : TypeId} {M B O : Rw}
theorem mkF_len : (mkF F ks i q).length = ks.length := by simp [mkF]
theorem mkFin_len : (mkFin F ks).length = ks.length := by simp [mkFin]
theorem mkFin_v : (mkFin F ks).map (·.v) = ks.map (·.v) := by
  apply List.ext_getElem?
  intro j
  simp [mkFin, List.getElem?_mapIdx]
  cases ks[j]? <;> simp
theorem mkFin_get (h : ks[i]? = some r) : (mkFin F ks)[i]? = some ⟨r.T, r.k, r.v, r.n, F i⟩ := by simp [mkFin, List.getElem?_mapIdx, h]
theorem mkF_get (h : ks[i]? = some r) : (mkF F ks i q)[i]? = some ⟨r.T, r.k, r.v, r.n, (F i).take q ++ r.xs.drop q⟩ := by simp [mkF, List.getElem?_mapIdx, h]
theorem mkF_zero : mkF F ks 0 0 = ks := by
  apply List.ext_getElem?
  intro j
  rw [mkF, List.getElem?_mapIdx]
  cases h : ks[j]? with
  | none => rfl
  | some r => by_cases e : j = 0 <;> simp [e]
theorem mkF_upd : mkF (upd F i ms) ks i 0 = mkF F ks i 0 := by
  apply List.ext_getElem?
  intro j
  rw [mkF, mkF, List.getElem?_mapIdx, List.getElem?_mapIdx]
  cases h : ks[j]? with
  | none => rfl
  | some r =>
    by_cases e : j = i
    · simp [e]
    · simp [upd_other _ _ e, e]
theorem mkF_next (h : ks[i]? = some r) (hl : r.xs.length = r.n * 1) (hF : (F i).length = r.n) : mkF F ks i r.n = mkF F ks (i + 1) 0 := by
  apply List.ext_getElem?
  intro j
  rw [mkF, mkF, List.getElem?_mapIdx, List.getElem?_mapIdx]
  cases h2 : ks[j]? with
  | none => rfl
  | some r2 =>
    by_cases e : j = i
    · subst e
      rw [h] at h2
      cases h2
      simp [List.take_of_length_le (Nat.le_of_eq hF), List.drop_of_length_le (show r.xs.length ≤ r.n by omega)]
    · by_cases e2 : j < i
      · simp [e2, show j < i + 1 by omega]
      · by_cases e3 : j = i + 1
        · subst e3; simp [show ¬ i + 1 < i by omega]
        · simp [e, e2, e3, show ¬ j < i + 1 by omega]
theorem mkF_end (h : ks.length ≤ i) : mkF F ks i q = mkFin F ks := by
  apply List.ext_getElem?
  intro j
  rw [mkF, mkFin, List.getElem?_mapIdx, List.getElem?_mapIdx]
  cases h2 : ks[j]? with
  | none => rfl
  | some r2 =>
    have := (List.getElem?_eq_some_iff.1 h2).1
    simp [show j < i by omega]
theorem mkF_at (hr : ks[i]? = some r) : (M :: B :: O :: (mkF F ks i q ++ rest))[3 + i]? = some ⟨r.T, r.k, r.v, r.n, (F i).take q ++ r.xs.drop q⟩ := by
  have hl := (List.getElem?_eq_some_iff.1 hr).1
  rw [show 3 + i = i + 1 + 1 + 1 by omega, List.getElem?_cons_succ, List.getElem?_cons_succ, List.getElem?_cons_succ, List.getElem?_append_left (by rw [mkF_len]; exact hl), mkF_get hr]
theorem mkF_set (h : ks[i]? = some r) : (mkF F ks i q).set i ⟨r.T, r.k, r.v, r.n, (F i).take (q + 1) ++ r.xs.drop (q + 1)⟩ = mkF F ks i (q + 1) := by
  apply List.ext_getElem?
  intro j
  rw [List.getElem?_set]
  by_cases e : i = j
  · subst e
    rw [if_pos rfl, if_pos (by rw [mkF_len]; exact (List.getElem?_eq_some_iff.1 h).1), mkF_get h]
  · rw [if_neg e, mkF, mkF, List.getElem?_mapIdx, List.getElem?_mapIdx]
    simp [show ¬ j = i from fun e2 => e e2.symm]
theorem mkF_put {r' : Rw} (hr : ks[i]? = some r) : (M :: B :: O :: (mkF F ks i q ++ rest)).set (3 + i) r' = M :: B :: O :: ((mkF F ks i q).set i r' ++ rest) := by
  have hl := (List.getElem?_eq_some_iff.1 hr).1
  rw [show 3 + i = i + 1 + 1 + 1 by omega, List.set_cons_succ, List.set_cons_succ, List.set_cons_succ, List.set_append_left _ _ (by rw [mkF_len]; exact hl)]
theorem Rws.putOldF (h : Rws w0 w (M :: B :: O :: (mkF F ks i q ++ rest))) (hr : ks[i]? = some ⟨T, 1, .slice (some ⟨g, 0, none⟩) n c, n, xs⟩) (hX : xs.length = n * 1) (hq : q < n) (hF : (F i).length = n) :
    (∃ u, w.cell? ⟨g, q, none⟩ = some u) ∧ w.frozen? ⟨g, q, none⟩ = false ∧ g < w.heap.size := by
  have h1 := mkF_at (M := M) (B := B) (O := O) (rest := rest) (F := F) (q := q) hr
  refine ⟨?_, h.fz h1 _, (h.lt h1).2⟩
  obtain ⟨u, hu⟩ := getElem?_of_lt (xs := (F i).take q ++ xs.drop q) (i := q) (by simp; omega)
  exact ⟨u, h.cell h1 hu⟩
theorem Rws.putF (h : Rws w0 w (M :: B :: O :: (mkF F ks i q ++ rest))) (hr : ks[i]? = some ⟨T, 1, .slice (some ⟨g, 0, none⟩) n c, n, xs⟩) (hX : xs.length = n * 1) (hq : q < n) {x : Value} (hx : (F i)[q]? = some x) :
    Rws w0 (w.setCell ⟨g, q, none⟩ x) (M :: B :: O :: (mkF F ks i (q + 1) ++ rest)) := by
  have h1 := h.set (3 + i) (mkF_at hr) q x
  rw [mkF_put hr] at h1
  rw [← mkF_set hr]
  have hql := (List.getElem?_eq_some_iff.1 hx).1
  have e : ((F i).take q ++ xs.drop q).set q x = (F i).take (q + 1) ++ xs.drop (q + 1) := by
    rw [List.set_append_right _ _ (by rw [List.length_take]; omega), List.length_take, show q - min q (F i).length = 0 by omega, List.drop_eq_getElem_cons (by omega), List.set_cons_zero, take_snoc hx]
    simp
  rw [e] at h1
  exact h1
/-- Rows of a callee's own, beside those of the caller. -/
theorem Rws.join {L N : List Rw} (h : Rws w0 w L) (h2 : Rws w w1 N) : Rws w0 w1 (N ++ L) where
  bel := h.bel.trans (h2.bel.mono h.bel.size)
  own r hr := by
    rcases List.mem_append.1 hr with hr | hr
    · exact own_mono (h2.own r hr) h.bel.size
    · exact own_below (h.own r hr) h2.bel
  apart := by
    rw [List.pairwise_append]
    refine ⟨h2.apart, h.apart, fun a ha b hb g hg hg2 => ?_⟩
    have := ((h2.own a ha).lt g hg).1
    have := ((h.own b hb).lt g hg2).2
    omega
end

theorem flatV (L : List Value) : L.flatMap encV = L := by
  induction L with
  | nil => rfl
  | cons x l ih => rw [List.flatMap_cons, ih]; rfl
theorem own_sl {w : World} {base : Nat} {e : TypeId} {k n : Nat} {v : Value} {xs : List Value} (h : w.ownsRow base e k v n xs) : ∃ a c, v = .slice a n c := by
  rcases h.2 with ⟨rfl, rfl⟩ | ⟨g, c, _, rfl, _⟩
  · exact ⟨_, _, rfl⟩
  · exact ⟨_, _, rfl⟩
/-- What handing a list to the book leaves. -/
def AddP (w0 w w' : World) (T SL : TypeId) (k bb c0 c1 m n : Nat) (cs vs us : List Value) (v : Value) (xs : List Value) (rest : List Rw) : Prop :=
  (¬ m < 400 ∧ w' = w) ∨ (m < 400 ∧ ∃ o' p' u, Rws w0 w' (⟨44, 22, .slice (some ⟨bb, 0, none⟩) 1 1, 1, (cs.set c0 o').set c1 p'⟩ :: ⟨SL, 1, o', m + 1, vs ++ [v]⟩ :: ⟨SL, 1, p', m + 1, us ++ [u]⟩ :: ⟨T, k, v, n, xs⟩ :: ⟨T, k, u, n, xs⟩ :: rest))

/-- An append of a whole list that is read, nil or not, in a region that draws its order. -/
theorem step_appS {P : Program} {w : World} {ops : Array Oper} {o : Oper} {a : Act} {K : Act → World → Prop} {Q : Exit → Act → World → Prop} {E : Prop} (hgd : o.guard = none) (s x : Operand) (t : TypeId)
    (ho : o.op = .call { callee := .builtin .append, args := #[s, x], argTypes := #[t, t] })
    {e : TypeId} {size bytes : Nat} {z : Value} (R : IsRow P t e size bytes z) {base : Nat} (hb0 : base ≤ w.heap.size)
    {v : Value} {n : Nat} {xs : List Value} (hs : a.eval s = v) (hown : w.ownsRow base e size v n xs)
    {α : Type} {enc : α → List Value} {ys : List α} {sa : Option Addr} {b off c : Nat} (hk : ∀ x, (enc x).length = size) (h1 : ∀ u ∈ ys.flatMap enc, u.oneCell' = true) (hS : SlAt enc size w sa b off ys) (hx : a.eval x = .slice sa ys.length c)
    (hbytes : (n + ys.length) * bytes ≤ 140737488355328) (hmax : n + ys.length ≤ maxLen)
    (h : ∀ v' w', w'.ownsRow base e size v' (n + ys.length) (xs ++ ys.flatMap enc) → w.grownBy w' v.ownBlock → K (a.put o.dst v') w') :
    if Region.wanted o (yielded ops a.tmps) = true then Oper.wp P o a w K Q else E := by
  cases sa with
  | some ad =>
    have g1 : ∀ j u, (ys.flatMap enc)[j]? = some u → w.cell? (ad.add j) = some u := fun j u hu => by
      have hp : 0 < ys.length := by
        rcases Nat.eq_zero_or_pos ys.length with h | h
        · rw [List.eq_nil_of_length_eq_zero h] at hu; simp at hu
        · exact h
      have had := hS.ad hp
      cases had
      exact slAt_flat hk hS j u hu
    exact step_app hgd s x t ho R hs hown ad ys.length c _ hx (length_flatMap hk ys) g1 h1 hbytes hmax hb0 (fun v' w' h2 h3 => h v' w' h2 h3)
  | none =>
    have h0 : ys = [] := by
      rcases Nat.eq_zero_or_pos ys.length with h | h
      · exact List.eq_nil_of_length_eq_zero h
      · have := hS.ad h; cases this
    subst h0
    have hw : Region.wanted o (yielded ops a.tmps) = true := by simp [Region.wanted, hgd]
    rw [if_pos hw]
    obtain ⟨i, hi, _⟩ := R.info
    have hrun : (Builtin.append_ #[t, t] o.type #[v, .slice none 0 c]).run P w = .ok v w := by
      rcases hown.2 with ⟨rfl, rfl⟩ | ⟨g, cap, cur, rfl, _, _, hnc, _⟩
      · simp [Builtin.append_, run_underlying R.ht, sizeOf, typeInfo, hi, Builtin.lenOf, Builtin.firstCells]
      · simp [Builtin.append_, run_underlying R.ht, sizeOf, typeInfo, hi, Builtin.lenOf, Builtin.firstCells, hnc, storeCells]
    have hx' : a.eval x = .slice none 0 c := hx
    unfold Oper.wp
    simp [execOp, ho, resolve, invoke, builtin, hs, hx', hrun, Result.andThen]
    exact h v w (by simpa using hown) ⟨rfl, rfl, rfl, Nat.le_refl _, fun _ _ _ => rfl⟩
end Go.Proofs.YtkmljelgogcobaaGreatDoor

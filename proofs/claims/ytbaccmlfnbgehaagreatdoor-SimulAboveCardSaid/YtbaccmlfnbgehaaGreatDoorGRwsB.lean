/-
  Lemmas.
-/
import Derived.Test.YtbaccmlfnbgehaaGreatDoorGRws
import Derived.Test.YtbaccmlfnbgehaaGreatDoorGClone
import Derived.Laws.AppendOwnNone
import Derived.Test.YtbaccmlfnbgehaaGreatDoorBkB
import Derived.Test.YtbaccmlfnbgehaaGreatDoorGPl1
import Derived.Test.YtbaccmlfnbgehaaGreatDoorGKit
import Derived.Outline
import Derived.Deep.QuietTactic
import Derived.BigQuiet
namespace Go.Proofs.YtbaccmlfnbgehaaGreatDoor
open Go.RowKit Pl
theorem flat_slice {α : Type} {enc : α → List Value} {k : Nat} {w : World} {a : Option Addr} {ad : Addr} {b off : Nat} {xs : List α} (hk : ∀ x, (enc x).length = k) (h1 : ∀ x, ∀ u ∈ enc x, u.oneCell' = true) (hS : SlAt enc k w a b off xs) (ha : a = some ad) :
    (∀ j u, (xs.flatMap enc)[j]? = some u → w.cell? (ad.add j) = some u) ∧ (∀ u ∈ xs.flatMap enc, u.oneCell' = true) ∧ (xs.flatMap enc).length = xs.length * k := by
  refine ⟨fun j u hu => ?_, fun u hu => ?_, length_flatMap hk xs⟩
  · have hp : 0 < xs.length := by
      rcases Nat.eq_zero_or_pos xs.length with h | h
      · rw [List.eq_nil_of_length_eq_zero h] at hu; simp at hu
      · exact h
    have had := hS.ad hp
    rw [ha] at had
    cases had
    exact slAt_flat hk hS j u hu
  · obtain ⟨y, _, hy⟩ := List.mem_flatMap.1 hu
    exact h1 y u hy
theorem wpList_appS {P : Program} {w : World} {ops : Array Oper} {rest : List Oper} {o : Oper} {a : Act} {Q : Exit → Act → World → Prop} (hgd : o.guard = none) (s x : Operand) (t : TypeId)
    (ho : o.op = .call { callee := .builtin .append, args := #[s, x], argTypes := #[t, t] })
    {e : TypeId} {size bytes : Nat} {z : Value} (R : IsRow P t e size bytes z) {base : Nat} (hb0 : base ≤ w.heap.size)
    {v : Value} {n : Nat} {xs : List Value} (hs : a.eval s = v) (hown : w.ownsRow base e size v n xs)
    {α : Type} {enc : α → List Value} {ys : List α} {sa : Option Addr} {b off c : Nat} (hk : ∀ x, (enc x).length = size) (h1 : ∀ x, ∀ u ∈ enc x, u.oneCell' = true) (hS : SlAt enc size w sa b off ys) (hx : a.eval x = .slice sa ys.length c)
    (hbytes : (n + ys.length) * bytes ≤ 140737488355328) (hmax : n + ys.length ≤ maxLen)
    (h : ∀ v' w', w'.ownsRow base e size v' (n + ys.length) (xs ++ ys.flatMap enc) → w.grownBy w' v.ownBlock → wpList P ops Q rest (a.put o.dst v') w') : wpList P ops Q (o :: rest) a w := by
  cases sa with
  | some ad =>
    obtain ⟨g1, g2, g3⟩ := flat_slice hk h1 hS rfl
    exact wpList_app (w0 := w) hgd s x t ho R (Below.refl base w) hb0 hs hown ad ys.length c _ hx g3 g1 g2 hbytes hmax (fun v' w' h2 _ h3 => h v' w' h2 h3)
  | none =>
    have h0 : ys = [] := by
      rcases Nat.eq_zero_or_pos ys.length with h | h
      · exact List.eq_nil_of_length_eq_zero h
      · have := hS.ad h; cases this
    subst h0
    obtain ⟨i, hi, _⟩ := R.info
    refine wpList_plain hgd fun K hK => ?_
    have hrun : (Builtin.append_ #[t, t] o.type #[v, .slice none 0 c]).run P w = .ok v w := by
      rcases hown.2 with ⟨rfl, rfl⟩ | ⟨g, cap, cur, rfl, _, _, hnc, _⟩
      · simp [Builtin.append_, run_underlying R.ht, sizeOf, typeInfo, hi, Builtin.lenOf, Builtin.firstCells]
      · simp [Builtin.append_, run_underlying R.ht, sizeOf, typeInfo, hi, Builtin.lenOf, Builtin.firstCells, hnc, storeCells]
    have hx' : a.eval x = .slice none 0 c := hx
    unfold Oper.wp
    simp [execOp, ho, resolve, invoke, builtin, hs, hx', hrun, Result.andThen]
    exact hK _ _ (h v w (by simpa using hown) ⟨rfl, rfl, rfl, Nat.le_refl _, fun _ _ _ => rfl⟩)
end Go.Proofs.YtbaccmlfnbgehaaGreatDoor
namespace Go.Proofs.YtbaccmlfnbgehaaGreatDoor
open Go.RowKit Pl
def mkF (F : Nat → List Value) (ks : List Rw) (i q : Nat) : List Rw :=
  ks.mapIdx (fun p r => ⟨r.T, r.k, r.v, r.n, if p < i then F p else if p = i then (F p).take q ++ r.xs.drop q else r.xs⟩)
def mkFin (F : Nat → List Value) (ks : List Rw) : List Rw := ks.mapIdx (fun p r => ⟨r.T, r.k, r.v, r.n, F p⟩)
section
variable {F : Nat → List Value} {ks rest : List Rw} {i q n g c : Nat} {r : Rw} {xs ms : List Value} {w0 w w1 : World} {T : TypeId} {M B O : Rw}
theorem mkF_len : (mkF F ks i q).length = ks.length := by simp [mkF]
theorem mkFin_len : (mkFin F ks).length = ks.length := by simp [mkFin]
theorem mkFin_v : (mkFin F ks).map (·.v) = ks.map (·.v) := by
  apply List.ext_getElem?
  intro j
  simp [mkFin, List.getElem?_mapIdx]
  cases ks[j]? <;> simp
theorem mkFin_get (h : ks[i]? = some r) : (mkFin F ks)[i]? = some ⟨r.T, r.k, r.v, r.n, F i⟩ := by simp [mkFin, List.getElem?_mapIdx, h]
theorem mkF_get (h : ks[i]? = some r) : (mkF F ks i q)[i]? = some ⟨r.T, r.k, r.v, r.n, (F i).take q ++ r.xs.drop q⟩ := by simp [mkF, List.getElem?_mapIdx, h]
theorem mkF_zero : mkF F ks 0 0 = ks := by
  apply List.ext_getElem?
  intro j
  rw [mkF, List.getElem?_mapIdx]
  cases h : ks[j]? with
  | none => rfl
  | some r => by_cases e : j = 0 <;> simp [e]
theorem mkF_upd : mkF (upd F i ms) ks i 0 = mkF F ks i 0 := by
  apply List.ext_getElem?
  intro j
  rw [mkF, mkF, List.getElem?_mapIdx, List.getElem?_mapIdx]
  cases h : ks[j]? with
  | none => rfl
  | some r =>
    by_cases e : j = i
    · simp [e]
    · simp [upd_other _ _ e, e]
theorem mkF_next (h : ks[i]? = some r) (hl : r.xs.length = r.n * 1) (hF : (F i).length = r.n) : mkF F ks i r.n = mkF F ks (i + 1) 0 := by
  apply List.ext_getElem?
  intro j
  rw [mkF, mkF, List.getElem?_mapIdx, List.getElem?_mapIdx]
  cases h2 : ks[j]? with
  | none => rfl
  | some r2 =>
    by_cases e : j = i
    · subst e
      rw [h] at h2
      cases h2
      simp [List.take_of_length_le (Nat.le_of_eq hF), List.drop_of_length_le (show r.xs.length ≤ r.n by omega)]
    · by_cases e2 : j < i
      · simp [e2, show j < i + 1 by omega]
      · by_cases e3 : j = i + 1
        · subst e3; simp [show ¬ i + 1 < i by omega]
        · simp [e, e2, e3, show ¬ j < i + 1 by omega]
theorem mkF_end (h : ks.length ≤ i) : mkF F ks i q = mkFin F ks := by
  apply List.ext_getElem?
  intro j
  rw [mkF, mkFin, List.getElem?_mapIdx, List.getElem?_mapIdx]
  cases h2 : ks[j]? with
  | none => rfl
  | some r2 =>
    have := (List.getElem?_eq_some_iff.1 h2).1
    simp [show j < i by omega]
theorem mkF_at (hr : ks[i]? = some r) : (M :: B :: O :: (mkF F ks i q ++ rest))[3 + i]? = some ⟨r.T, r.k, r.v, r.n, (F i).take q ++ r.xs.drop q⟩ := by
  have hl := (List.getElem?_eq_some_iff.1 hr).1
  rw [show 3 + i = i + 1 + 1 + 1 by omega, List.getElem?_cons_succ, List.getElem?_cons_succ, List.getElem?_cons_succ, List.getElem?_append_left (by rw [mkF_len]; exact hl), mkF_get hr]
theorem mkF_set (h : ks[i]? = some r) : (mkF F ks i q).set i ⟨r.T, r.k, r.v, r.n, (F i).take (q + 1) ++ r.xs.drop (q + 1)⟩ = mkF F ks i (q + 1) := by
  apply List.ext_getElem?
  intro j
  rw [List.getElem?_set]
  by_cases e : i = j
  · subst e
    rw [if_pos rfl, if_pos (by rw [mkF_len]; exact (List.getElem?_eq_some_iff.1 h).1), mkF_get h]
  · rw [if_neg e, mkF, mkF, List.getElem?_mapIdx, List.getElem?_mapIdx]
    simp [show ¬ j = i from fun e2 => e e2.symm]
theorem mkF_put {r' : Rw} (hr : ks[i]? = some r) : (M :: B :: O :: (mkF F ks i q ++ rest)).set (3 + i) r' = M :: B :: O :: ((mkF F ks i q).set i r' ++ rest) := by
  have hl := (List.getElem?_eq_some_iff.1 hr).1
  rw [show 3 + i = i + 1 + 1 + 1 by omega, List.set_cons_succ, List.set_cons_succ, List.set_cons_succ, List.set_append_left _ _ (by rw [mkF_len]; exact hl)]
theorem Rws.putOldF (h : Rws w0 w (M :: B :: O :: (mkF F ks i q ++ rest))) (hr : ks[i]? = some ⟨T, 1, .slice (some ⟨g, 0, none⟩) n c, n, xs⟩) (hX : xs.length = n * 1) (hq : q < n) (hF : (F i).length = n) :
    (∃ u, w.cell? ⟨g, q, none⟩ = some u) ∧ w.frozen? ⟨g, q, none⟩ = false ∧ g < w.heap.size := by
  have h1 := mkF_at (M := M) (B := B) (O := O) (rest := rest) (F := F) (q := q) hr
  refine ⟨?_, h.fz h1 _, (h.lt h1).2⟩
  obtain ⟨u, hu⟩ := getElem?_of_lt (xs := (F i).take q ++ xs.drop q) (i := q) (by simp; omega)
  exact ⟨u, h.cell h1 hu⟩
theorem Rws.putF (h : Rws w0 w (M :: B :: O :: (mkF F ks i q ++ rest))) (hr : ks[i]? = some ⟨T, 1, .slice (some ⟨g, 0, none⟩) n c, n, xs⟩) (hX : xs.length = n * 1) (hq : q < n) {x : Value} (hx : (F i)[q]? = some x) :
    Rws w0 (w.setCell ⟨g, q, none⟩ x) (M :: B :: O :: (mkF F ks i (q + 1) ++ rest)) := by
  have h1 := h.set (3 + i) (mkF_at hr) q x
  rw [mkF_put hr] at h1
  rw [← mkF_set hr]
  have hql := (List.getElem?_eq_some_iff.1 hx).1
  have e : ((F i).take q ++ xs.drop q).set q x = (F i).take (q + 1) ++ xs.drop (q + 1) := by
    rw [List.set_append_right _ _ (by rw [List.length_take]; omega), List.length_take, show q - min q (F i).length = 0 by omega, List.drop_eq_getElem_cons (by omega), List.set_cons_zero, take_snoc hx]
    simp
  rw [e] at h1
  exact h1
theorem Rws.join {L N : List Rw} (h : Rws w0 w L) (h2 : Rws w w1 N) : Rws w0 w1 (N ++ L) where
  bel := h.bel.trans (h2.bel.mono h.bel.size)
  own r hr := by
    rcases List.mem_append.1 hr with hr | hr
    · exact own_mono (h2.own r hr) h.bel.size
    · exact own_below (h.own r hr) h2.bel
  apart := by
    rw [List.pairwise_append]
    refine ⟨h2.apart, h.apart, fun a ha b hb g hg hg2 => ?_⟩
    have := ((h2.own a ha).lt g hg).1
    have := ((h.own b hb).lt g hg2).2
    omega
end
theorem flatV (L : List Value) : L.flatMap encV = L := by
  induction L with
  | nil => rfl
  | cons x l ih => rw [List.flatMap_cons, ih]; rfl
theorem own_sl {w : World} {base : Nat} {e : TypeId} {k n : Nat} {v : Value} {xs : List Value} (h : w.ownsRow base e k v n xs) : ∃ a c, v = .slice a n c := by
  rcases h.2 with ⟨rfl, rfl⟩ | ⟨g, c, _, rfl, _⟩
  · exact ⟨_, _, rfl⟩
  · exact ⟨_, _, rfl⟩
def AddP (w0 w w' : World) (T SL : TypeId) (k bb c0 c1 m n : Nat) (cs vs us : List Value) (v : Value) (xs : List Value) (rest : List Rw) : Prop :=
  (¬ m < 400 ∧ w' = w) ∨ (m < 400 ∧ ∃ o' p' u, Rws w0 w' (⟨45, 22, .slice (some ⟨bb, 0, none⟩) 1 1, 1, (cs.set c0 o').set c1 p'⟩ :: ⟨SL, 1, o', m + 1, vs ++ [v]⟩ :: ⟨SL, 1, p', m + 1, us ++ [u]⟩ :: ⟨T, k, v, n, xs⟩ :: ⟨T, k, u, n, xs⟩ :: rest))
theorem step_appS {P : Program} {w : World} {ops : Array Oper} {o : Oper} {a : Act} {K : Act → World → Prop} {Q : Exit → Act → World → Prop} {E : Prop} (hgd : o.guard = none) (s x : Operand) (t : TypeId)
    (ho : o.op = .call { callee := .builtin .append, args := #[s, x], argTypes := #[t, t] })
    {e : TypeId} {size bytes : Nat} {z : Value} (R : IsRow P t e size bytes z) {base : Nat} (hb0 : base ≤ w.heap.size)
    {v : Value} {n : Nat} {xs : List Value} (hs : a.eval s = v) (hown : w.ownsRow base e size v n xs)
    {α : Type} {enc : α → List Value} {ys : List α} {sa : Option Addr} {b off c : Nat} (hk : ∀ x, (enc x).length = size) (h1 : ∀ u ∈ ys.flatMap enc, u.oneCell' = true) (hS : SlAt enc size w sa b off ys) (hx : a.eval x = .slice sa ys.length c)
    (hbytes : (n + ys.length) * bytes ≤ 140737488355328) (hmax : n + ys.length ≤ maxLen)
    (h : ∀ v' w', w'.ownsRow base e size v' (n + ys.length) (xs ++ ys.flatMap enc) → w.grownBy w' v.ownBlock → K (a.put o.dst v') w') :
    if Region.wanted o (yielded ops a.tmps) = true then Oper.wp P o a w K Q else E := by
  cases sa with
  | some ad =>
    have g1 : ∀ j u, (ys.flatMap enc)[j]? = some u → w.cell? (ad.add j) = some u := fun j u hu => by
      have hp : 0 < ys.length := by
        rcases Nat.eq_zero_or_pos ys.length with h | h
        · rw [List.eq_nil_of_length_eq_zero h] at hu; simp at hu
        · exact h
      have had := hS.ad hp
      cases had
      exact slAt_flat hk hS j u hu
    exact step_app hgd s x t ho R hs hown ad ys.length c _ hx (length_flatMap hk ys) g1 h1 hbytes hmax hb0 (fun v' w' h2 h3 => h v' w' h2 h3)
  | none =>
    have h0 : ys = [] := by
      rcases Nat.eq_zero_or_pos ys.length with h | h
      · exact List.eq_nil_of_length_eq_zero h
      · have := hS.ad h; cases this
    subst h0
    have hw : Region.wanted o (yielded ops a.tmps) = true := by simp [Region.wanted, hgd]
    rw [if_pos hw]
    obtain ⟨i, hi, _⟩ := R.info
    have hrun : (Builtin.append_ #[t, t] o.type #[v, .slice none 0 c]).run P w = .ok v w := by
      rcases hown.2 with ⟨rfl, rfl⟩ | ⟨g, cap, cur, rfl, _, _, hnc, _⟩
      · simp [Builtin.append_, run_underlying R.ht, sizeOf, typeInfo, hi, Builtin.lenOf, Builtin.firstCells]
      · simp [Builtin.append_, run_underlying R.ht, sizeOf, typeInfo, hi, Builtin.lenOf, Builtin.firstCells, hnc, storeCells]
    have hx' : a.eval x = .slice none 0 c := hx
    unfold Oper.wp
    simp [execOp, ho, resolve, invoke, builtin, hs, hx', hrun, Result.andThen]
    exact h v w (by simpa using hown) ⟨rfl, rfl, rfl, Nat.le_refl _, fun _ _ _ => rfl⟩
end Go.Proofs.YtbaccmlfnbgehaaGreatDoor
namespace Go.Proofs.YtbaccmlfnbgehaaGreatDoor
open Go.RowKit Pl
structure KS where
  o : Value
  p : Value
  ks : List Rw
  ws : List Rw
def KS.kd (T : TypeId) (s : KS) : Kd := ⟨T, s.o, s.p, s.ks.map (·.v), s.ws.map (·.v), s.ks ++ s.ws⟩
def KS.zero : KS := ⟨.slice none 0 0, .slice none 0 0, [], []⟩
def bkL (I B S E N W : KS) : List Kd := [I.kd 50, KS.zero.kd 143, KS.zero.kd 145, B.kd 57, S.kd 113, E.kd 22, KS.zero.kd 149, KS.zero.kd 151, N.kd 34, KS.zero.kd 35, W.kd 37]
structure FlOk {α : Type} (T : TypeId) (k : Nat) (enc : α → List Value) (s : KS) : Prop where
  hl : s.ks.length = s.ws.length
  h4 : s.ks.length ≤ 400
  at_ : ∀ (i : Nat) (r r' : Rw), s.ks[i]? = some r → s.ws[i]? = some r' → r.T = T ∧ r.k = k ∧ r'.T = T ∧ r'.k = k ∧ ∃ ys : List α, ys.length ≤ 500000 ∧ r.n = ys.length ∧ r'.n = ys.length ∧ r.xs = ys.flatMap enc ∧ r'.xs = ys.flatMap enc
structure NeOk {α : Type} (T IL : TypeId) (k : Nat) (enc : α → List Value) (A : List Rw) (s : KS) : Prop where
  hl : s.ks.length = s.ws.length
  h4 : s.ks.length ≤ 400
  at_ : ∀ (i : Nat) (r r' : Rw), s.ks[i]? = some r → s.ws[i]? = some r' → r.T = IL ∧ r.k = 1 ∧ r'.T = IL ∧ r'.k = 1 ∧ r.n = r'.n ∧ r.xs = r'.xs ∧ r.n ≤ 500000 ∧ ∀ x ∈ r.xs, ∃ q ∈ A, q.v = x ∧ q.T = T ∧ q.k = k ∧ ∃ ys : List α, ys.length ≤ 500000 ∧ q.n = ys.length ∧ q.xs = ys.flatMap enc
section
variable {α : Type} {T IL : TypeId} {k : Nat} {enc : α → List Value} {s : KS} {A A' : List Rw}
theorem FlOk.zero : FlOk T k enc KS.zero := ⟨rfl, by simp [KS.zero], fun i r r' h => by simp [KS.zero] at h⟩
theorem NeOk.zero : NeOk T IL k enc A KS.zero := ⟨rfl, by simp [KS.zero], fun i r r' h => by simp [KS.zero] at h⟩
theorem NeOk.mono (h : NeOk T IL k enc A s) (hs : ∀ r ∈ A, r ∈ A') : NeOk T IL k enc A' s :=
  ⟨h.hl, h.h4, fun i r r' h1 h2 => by
    obtain ⟨a, b, c, d, e, f, g, z⟩ := h.at_ i r r' h1 h2
    exact ⟨a, b, c, d, e, f, g, fun x hx => by obtain ⟨q, hq, y⟩ := z x hx; exact ⟨q, hs q hq, y⟩⟩⟩
theorem FlOk.ks_at (h : FlOk T k enc s) {r : Rw} (hr : r ∈ s.ks) : r.T = T ∧ r.k = k ∧ r.n ≤ 500000 := by
  obtain ⟨i, hi⟩ := List.getElem?_of_mem hr
  have hl := (List.getElem?_eq_some_iff.1 hi).1
  obtain ⟨r', hi'⟩ := getElem?_of_lt (xs := s.ws) (i := i) (by rw [← h.hl]; exact hl)
  obtain ⟨a, b, _, _, ys, c, d, _⟩ := h.at_ i r r' hi hi'
  exact ⟨a, b, by omega⟩
theorem NeOk.ks_at (h : NeOk T IL k enc A s) {r : Rw} (hr : r ∈ s.ks) : r.T = IL ∧ r.k = 1 ∧ r.n ≤ 500000 := by
  obtain ⟨i, hi⟩ := List.getElem?_of_mem hr
  have hl := (List.getElem?_eq_some_iff.1 hi).1
  obtain ⟨r', hi'⟩ := getElem?_of_lt (xs := s.ws) (i := i) (by rw [← h.hl]; exact hl)
  obtain ⟨a, b, _, _, _, _, c, _⟩ := h.at_ i r r' hi hi'
  exact ⟨a, b, c⟩
theorem FlOk.push (h : FlOk T k enc s) (hm : s.ks.length < 400) {o p : Value} {r r' : Rw} {ys : List α} (h1 : r.T = T) (h2 : r.k = k) (h3 : r'.T = T) (h4 : r'.k = k) (h5 : ys.length ≤ 500000) (h6 : r.n = ys.length) (h7 : r'.n = ys.length) (h8 : r.xs = ys.flatMap enc) (h9 : r'.xs = ys.flatMap enc) :
    FlOk T k enc ⟨o, p, s.ks ++ [r], s.ws ++ [r']⟩ := by
  have hll := h.hl
  refine ⟨by simp [hll], by simp; omega, fun i x x' hx hx' => ?_⟩
  by_cases hi : i < s.ks.length
  · rw [List.getElem?_append_left hi] at hx
    rw [List.getElem?_append_left (by omega)] at hx'
    exact h.at_ i x x' hx hx'
  · rw [List.getElem?_append_right (by omega)] at hx
    rw [List.getElem?_append_right (by omega)] at hx'
    have e : i - s.ks.length = 0 := by have := (List.getElem?_eq_some_iff.1 hx).1; simp at this; omega
    have e' : i - s.ws.length = 0 := by omega
    rw [e] at hx; rw [e'] at hx'
    simp at hx hx'
    subst hx hx'
    exact ⟨h1, h2, h3, h4, ys, h5, h6, h7, h8, h9⟩
theorem NeOk.push (h : NeOk T IL k enc A s) (hm : s.ks.length < 400) {o p : Value} {r r' : Rw} (h1 : r.T = IL) (h2 : r.k = 1) (h3 : r'.T = IL) (h4 : r'.k = 1) (h5 : r.n = r'.n) (h6 : r.xs = r'.xs) (h7 : r.n ≤ 500000)
    (h8 : ∀ x ∈ r.xs, ∃ q ∈ A, q.v = x ∧ q.T = T ∧ q.k = k ∧ ∃ ys : List α, ys.length ≤ 500000 ∧ q.n = ys.length ∧ q.xs = ys.flatMap enc) :
    NeOk T IL k enc A ⟨o, p, s.ks ++ [r], s.ws ++ [r']⟩ := by
  have hll := h.hl
  refine ⟨by simp [hll], by simp; omega, fun i x x' hx hx' => ?_⟩
  by_cases hi : i < s.ks.length
  · rw [List.getElem?_append_left hi] at hx
    rw [List.getElem?_append_left (by omega)] at hx'
    exact h.at_ i x x' hx hx'
  · rw [List.getElem?_append_right (by omega)] at hx
    rw [List.getElem?_append_right (by omega)] at hx'
    have e : i - s.ks.length = 0 := by have := (List.getElem?_eq_some_iff.1 hx).1; simp at this; omega
    have e' : i - s.ws.length = 0 := by omega
    rw [e] at hx; rw [e'] at hx'
    simp at hx hx'
    subst hx hx'
    exact ⟨h1, h2, h3, h4, h5, h6, h7, h8⟩
end
section
variable {w0 w : World} {kds : List Kd} {j bb : Nat} {D L : List Rw} {SL : TypeId} {K : KS}
theorem Rws.bkFront (h : Rws w0 w (bkRows bb kds D)) (hj : kds[j]? = some (K.kd SL)) :
    Rws w0 w (bkBox bb kds :: ⟨SL, 1, K.o, K.ks.length, K.ks.map (·.v)⟩ :: (K.ks ++ (⟨SL, 1, K.p, K.ws.length, K.ws.map (·.v)⟩ :: (K.ws ++ bkX kds j D)))) := by
  refine (h.perm (bkRows_perm hj)).perm ?_
  unfold KS.kd Kd.rs
  simp only [List.length_map, List.cons_append, List.append_assoc]
  exact ((List.perm_middle (a := (⟨SL, 1, K.p, K.ws.length, K.ws.map (·.v)⟩ : Rw)) (l₁ := K.ks) (l₂ := K.ws ++ bkX kds j D)).symm.cons _).cons _
theorem Rws.bkBack {K' : Kd} {G : List Rw} (hj : kds[j]? = some (K.kd SL)) (hK' : K' = ⟨SL, K.o, K.p, K.ks.map (·.v), K.ws.map (·.v), G ++ K.ws⟩)
    (h : Rws w0 w (bkBox bb kds :: ⟨SL, 1, K.o, K.ks.length, K.ks.map (·.v)⟩ :: (G ++ (⟨SL, 1, K.p, K.ws.length, K.ws.map (·.v)⟩ :: (K.ws ++ bkX kds j D))))) : Rws w0 w (bkRows bb (kds.set j K') D) := by
  refine h.perm (List.Perm.trans ?_ (bkRows_perm' (bb := bb) (D := D) (K' := K') hj).symm)
  rw [bkBox_set hj (by rw [hK']; rfl) (by rw [hK']; rfl), hK']
  unfold Kd.rs
  simp only [List.length_map, List.cons_append, List.append_assoc]
  exact ((List.perm_middle (a := (⟨SL, 1, K.p, K.ws.length, K.ws.map (·.v)⟩ : Rw)) (l₁ := G) (l₂ := K.ws ++ bkX kds j D)).cons _).cons _
theorem Rws.bkCell (h : Rws w0 w (bkRows bb kds D)) {X : Kd} (hj : kds[j]? = some X) : w.cell? ⟨bb, j * 2, none⟩ = some X.o ∧ w.cell? ⟨bb, j * 2 + 1, none⟩ = some X.p :=
  ⟨h.cell (i := 0) (T := 45) (k := 22) (n := 1) (xs := bkCells kds) rfl (bkCells_at hj).1, h.cell (i := 0) (T := 45) (k := 22) (n := 1) (xs := bkCells kds) rfl (bkCells_at hj).2⟩
theorem mem_bk {X : Kd} (hj : kds[j]? = some X) : (⟨X.T, 1, X.o, X.vs.length, X.vs⟩ : Rw) ∈ bkRows bb kds D ∧ (⟨X.T, 1, X.p, X.us.length, X.us⟩ : Rw) ∈ bkRows bb kds D ∧ ∀ r ∈ X.G, r ∈ bkRows bb kds D := by
  have hm := List.mem_of_getElem? hj
  have h0 : ∀ r ∈ X.rs, r ∈ bkRows bb kds D := fun r hr => List.mem_cons_of_mem _ (List.mem_append_left _ (List.mem_flatMap.2 ⟨X, hm, hr⟩))
  exact ⟨h0 _ List.mem_cons_self, h0 _ (List.mem_cons_of_mem _ List.mem_cons_self), fun r hr => h0 r (List.mem_cons_of_mem _ (List.mem_cons_of_mem _ hr))⟩
theorem Rws.bkMem (_ : Rws w0 w (bkRows bb kds D)) {X : Kd} (hj : kds[j]? = some X) : (⟨X.T, 1, X.o, X.vs.length, X.vs⟩ : Rw) ∈ bkRows bb kds D ∧ (⟨X.T, 1, X.p, X.us.length, X.us⟩ : Rw) ∈ bkRows bb kds D ∧ ∀ r ∈ X.G, r ∈ bkRows bb kds D := mem_bk hj
theorem Rws.bkD (_ : Rws w0 w (bkRows bb kds D)) {r : Rw} (hr : r ∈ D) : r ∈ bkRows bb kds D := List.mem_cons_of_mem _ (List.mem_append_right _ hr)
theorem Rws.outer (h : Rws w0 w L) {T : TypeId} {v : Value} {n : Nat} {vs : List Value} (hm : (⟨T, 1, v, n, vs⟩ : Rw) ∈ L) : ∃ a b c, v = .slice a n c ∧ SlAt encV 1 w a b 0 vs ∧ vs.length = n := by
  have ho := h.own _ hm
  have hl : vs.length = n := by have := ho.1; dsimp only at this; omega
  obtain ⟨a, c, b, h1, _, _, h2, _⟩ := slAt_own (enc := encV) (xs := vs) lenV (by rw [hl, flatV]; exact ho)
  exact ⟨a, b, c, by rw [hl] at h1; exact h1, h2, hl⟩
theorem Rws.reads {α : Type} {enc : α → List Value} {k : Nat} (hk : ∀ x, (enc x).length = k) (h : Rws w0 w L) {r : Rw} (hm : r ∈ L) {ys : List α} (h1 : r.k = k) (h2 : r.n = ys.length) (h3 : r.xs = ys.flatMap enc) : ∃ a b c, r.v = .slice a ys.length c ∧ SlAt enc k w a b 0 ys := by
  have ho := h.own _ hm
  rw [h1, h2, h3] at ho
  obtain ⟨a, c, b, e1, _, _, e2, _⟩ := slAt_own (xs := ys) hk ho
  exact ⟨a, b, c, e1, e2⟩
end
theorem grow_perm (g b o p : Rw) (G W : List Rw) (X : List Kd) (D : List Rw) : (g :: b :: o :: (G ++ (p :: (W ++ (X.flatMap Kd.rs ++ D))))).Perm (b :: o :: (G ++ (p :: (W ++ (X.flatMap Kd.rs ++ (g :: D)))))) := by
  have h := List.perm_middle (a := g) (l₁ := b :: o :: (G ++ (p :: (W ++ X.flatMap Kd.rs)))) (l₂ := D)
  simp only [List.append_assoc, List.cons_append] at h ⊢
  exact h.symm
theorem put_perm (b o p : Rw) (G W N : List Rw) (X : List Kd) (D : List Rw) : (b :: o :: (G ++ (N ++ (p :: (W ++ (X.flatMap Kd.rs ++ D)))))).Perm (b :: o :: (G ++ (p :: (W ++ (X.flatMap Kd.rs ++ (N ++ D)))))) := by
  refine ((List.Perm.append_left G ?_).cons _).cons _
  have h := perm_rot N (p :: (W ++ X.flatMap Kd.rs)) [] D
  simp only [List.append_assoc, List.cons_append, List.nil_append] at h
  exact h
theorem grow_permN (g b o p : Rw) (G W N : List Rw) (X : List Kd) (D : List Rw) : (g :: b :: o :: (G ++ (N ++ (p :: (W ++ (X.flatMap Kd.rs ++ D)))))).Perm (b :: o :: (G ++ (p :: (W ++ (X.flatMap Kd.rs ++ (g :: (N ++ D))))))) :=
  ((put_perm b o p G W N X D).cons g).trans (grow_perm g b o p G W X (N ++ D))
end Go.Proofs.YtbaccmlfnbgehaaGreatDoor
namespace Go.Proofs.YtbaccmlfnbgehaaGreatDoor
open Go.RowKit Pl
theorem eq_upto {α : Type} {xs ys : List α} (hl : xs.length = ys.length) (h : ∀ j, j < xs.length → xs[j]? = ys[j]?) : xs = ys := by
  apply List.ext_getElem? ; intro i
  by_cases hi : i < xs.length
  · exact h i hi
  · rw [List.getElem?_eq_none (by omega), List.getElem?_eq_none (by omega)]
end Go.Proofs.YtbaccmlfnbgehaaGreatDoor
namespace Go.Proofs.YtbaccmlfnbgehaaGreatDoor
open Go.RowKit Pl
set_option maxRecDepth 100000 in
theorem sameBools_any {a1 a2 : Option Addr} {b1 o1 c1 b2 o2 c2 : Nat} {xs ys : List Bool} {w : World} (h1 : SlAt encB 1 w a1 b1 o1 xs) (h2 : SlAt encB 1 w a2 b2 o2 ys) (hx : xs.length ≤ 4611686018427387904) (hy : ys.length ≤ 4611686018427387904) :
    Calls Tryz.prog 109 #[.slice a1 xs.length c1, .slice a2 ys.length c2] w fun e w' => e = .returned (.bool (decide (xs = ys))) ∧ ∃ n, w' = w.drewN n := by
  by_cases hl : xs.length = ys.length
  · have hlB : ((xs.length : Int) != (ys.length : Int)) = false := by simp [hl]
    have HL := Lib.hid hl; clear hl
    go_enter Tryz.func109, Tryz.ntmps109
    go_wp2
    go_loopw [5] (fun i wr => ∃ k m : Nat, k ≤ xs.length ∧ i = .int .i64 k ∧ (∀ j, j < k → xs[j]? = ys[j]?) ∧ wr = w.drewN m)
      (fun i _ => xs.length - (intOf i).toNat)
    case atStart => exact ⟨0, 0, Nat.zero_le _, rfl, by intro j hj; omega, rfl⟩
    case round =>
      obtain ⟨k, m, hk, rfl, heq, rfl⟩ := hrel
      have HE := Lib.hid heq; clear heq
      by_cases hlt : k < xs.length
      · have hlt2 : k < ys.length := by rw [← HL.out]; exact hlt
        obtain ⟨x, hxk⟩ := getElem?_of_lt hlt
        obtain ⟨y, hyk⟩ := getElem?_of_lt hlt2
        obtain rfl := h1.ad (by omega)
        obtain rfl := h2.ad (by omega)
        have hc0 := h1.cb hxk
        have hc1 := h2.cb hyk
        have hi1 : (k : Int) < (xs.length : Int) := by omega
        have hi2 : (k : Int) < (ys.length : Int) := by omega
        have HX := Lib.hid hxk; have HY := Lib.hid hyk
        clear h1 h2 hxk hyk
        by_cases hxy : x = y
        · have hb : (x == y) = true := by simp [hxy]
          have HXY := Lib.hid hxy; clear hxy
          go_wp2_with fail
          go_quiet (fail)
          go_wp2
          go_roundw
          case rel => exact ⟨k + 1, _, by omega, by go_num, by
            intro j hj
            by_cases hjk : j = k
            · subst hjk; rw [HX.out, HY.out, HXY.out]
            · exact HE.out j (by omega), rfl⟩
          case measure => simp [intOf]; omega
        · have hb : (x == y) = false := by simp [hxy]
          have HXY := Lib.hid hxy; clear hxy
          go_wp2_with fail
          go_quiet (fail)
          go_wp2
          go_ret
          refine ⟨?_, _, World.drewN_drewN _ _ _⟩
          have : xs ≠ ys := fun e => HXY.out (by have h1 := HX.out; have h2 := HY.out; rw [e, h2] at h1; simpa using h1.symm)
          simp [this]
      · clear h1 h2
        have hkk : k = xs.length := by omega
        go_wp2
        go_ret
        refine ⟨?_, _, rfl⟩
        have : xs = ys := eq_upto HL.out (by rw [← hkk]; exact HE.out)
        simp [this]
  · have hlB : ((xs.length : Int) != (ys.length : Int)) = true := by simp; omega
    go_enter Tryz.func109, Tryz.ntmps109
    go_wp2
    go_ret
    have : xs ≠ ys := fun e => hl (by rw [e])
    exact ⟨by simp [this], 0, rfl⟩
end Go.Proofs.YtbaccmlfnbgehaaGreatDoor

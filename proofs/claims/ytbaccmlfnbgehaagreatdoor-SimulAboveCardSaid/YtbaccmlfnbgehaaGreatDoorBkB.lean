/-
  Lemmas.
-/
import Derived.Test.YtbaccmlfnbgehaaGreatDoorGRws
import Derived.Outline
namespace Go.Proofs.YtbaccmlfnbgehaaGreatDoor
open Go.RowKit Pl
theorem run_append_two {P : Program} (w : World) (t ty : TypeId) (base : Nat) (e : TypeId) (i : TypeInfo) (z : Value) (size bytes : Nat) (ht : P.underlying t = some (.slice e)) (hi : P.info? e = some i) (hz : i.zero = some z)
    (hsize : i.size = size) (hby : i.bytes = bytes) (hzs : z.cells.size = size)
    (v : Value) (n : Nat) (xs : List Value) (hown : w.ownsRow base e size v n xs)
    (a : Addr) (m c : Nat) (news : List Value) (hl : news.length = m * size) (hnews : ∀ j u, news[j]? = some u → w.cell? (a.add j) = some u) (h1 : ∀ u ∈ news, u.oneCell' = true)
    (hm : 0 < m) (h63 : n + m ≤ maxLen) (hbytes : (n + m) * bytes ≤ 140737488355328) :
    ∃ g cap w', (Builtin.append_ #[t, t] ty #[v, .slice (some a) m c]).run P w = .ok (.slice (some ⟨g, 0, none⟩) (n + m) cap) w' ∧
      ((v.ownBlock = some g ∧ w'.ownsRow base e size (.slice (some ⟨g, 0, none⟩) (n + m) cap) (n + m) (xs ++ news) ∧ w.grownBy w' (some g)) ∨
       (g = w.heap.size ∧ w'.ownsRow w.heap.size e size (.slice (some ⟨g, 0, none⟩) (n + m) cap) (n + m) (xs ++ news) ∧ Below w.heap.size w w')) := by
  subst hsize
  subst hby
  have hsmall : n + m ≤ 9223372036854775807 := by simp only [maxLen] at h63; omega
  have hlen : (xs ++ news).length = (n + m) * i.size := by rw [List.length_append, hown.1, hl, Nat.add_mul]
  have grown : ∀ (old : Nat), old < n + m →
      (w.drew.alloc (.cells (xs.toArray ++ news.toArray ++ Builtin.zeroCells z.cells (grownCap w (n + m) old e - (n + m))) e)).ownsRow w.heap.size e i.size
        (.slice (some ⟨w.heap.size, 0, none⟩) (n + m) (grownCap w (n + m) old e)) (n + m) (xs ++ news) ∧
      Below w.heap.size w (w.drew.alloc (.cells (xs.toArray ++ news.toArray ++ Builtin.zeroCells z.cells (grownCap w (n + m) old e - (n + m))) e)) := by
    intro old ho
    have hge := grownCap_ge w (n + m) old e
    have hcm : grownCap w (n + m) old e ≤ maxLen := grownCap_le_maxLen w (n + m) old e h63
    refine ⟨⟨hlen, .inr ⟨w.heap.size, _, _, rfl, Nat.le_refl _, heap_alloc_new w.drew _, hge, hcm, ?_, ?_⟩⟩, ((Below.refl w.heap.size w).drew).alloc (Nat.le_refl _) _⟩
    · simp only [Array.size_append, List.size_toArray, size_zeroCells, hzs, hown.1, hl, ← Nat.add_mul]
      congr 1
      omega
    · simp only [Array.toList_append]
      rw [← hlen]
      exact List.take_left
  rcases hown.2 with ⟨rfl, rfl⟩ | ⟨g, cap, cur, rfl, hbg, hg, hnc, hcm, hcs, htake⟩
  · have hx : xs = [] := List.eq_nil_of_length_eq_zero (by simpa using hown.1)
    subst hx
    have hr := run_append_nil (P := P) w t ty e i z ht hi hz a m c news hl hnews (by omega) (by omega) (by have hb := hbytes; simp only [Nat.zero_add] at hb; omega)
    have hgr := grown 0 (by omega)
    simp only [Nat.zero_add, List.nil_append, Array.empty_append] at hgr ⊢
    exact ⟨_, _, _, hr, .inr ⟨rfl, hgr.1, hgr.2⟩⟩
  · by_cases hroom : n + m ≤ cap
    · have hfit : n * i.size + news.length ≤ cur.size := by rw [hl, hcs, ← Nat.add_mul]; exact Nat.mul_le_mul_right _ hroom
      have hr := run_append_room (P := P) w t ty e i ht hi g n cap cur hg a m c news hl hnews h1 hroom hfit
      refine ⟨_, _, _, hr, .inl ⟨rfl, ⟨hlen, .inr ⟨g, cap, _, rfl, hbg, setRow_heap w g cur _ e _ hg, hroom, hcm, ?_, ?_⟩⟩, ⟨rfl, rfl, rfl, by simp, fun k _ hk => setRow_other w g k _ (fun e => hk (by simp [e]))⟩⟩⟩
      · simp only [List.size_toArray, List.length_append, List.length_take, List.length_drop, Array.length_toList]
        omega
      · rw [htake, ← hlen]
        exact List.take_left
    · have holds : ∀ j u, xs[j]? = some u → w.cell? ((⟨g, 0, none⟩ : Addr).add j) = some u := hown.cells (g := g) rfl
      have hr := run_append_grow (P := P) w t ty e i z ht hi hz ⟨g, 0, none⟩ n cap xs hown.1 holds a m c news hl hnews (by omega) (by omega) (growslice_fits (by omega) hbytes)
      have hgr := grown cap (by omega)
      exact ⟨_, _, _, hr, .inr ⟨rfl, hgr.1, hgr.2⟩⟩
theorem Rws.grow2 {w0 w w1 : World} {T : TypeId} {k n m g cap : Nat} {v : Value} {xs news : List Value} {E : List Rw} (h : Rws w0 w (⟨T, k, v, n, xs⟩ :: E))
    (hh : (v.ownBlock = some g ∧ w1.ownsRow w0.heap.size T k (.slice (some ⟨g, 0, none⟩) (n + m) cap) (n + m) (xs ++ news) ∧ w.grownBy w1 (some g)) ∨
       (g = w.heap.size ∧ w1.ownsRow w.heap.size T k (.slice (some ⟨g, 0, none⟩) (n + m) cap) (n + m) (xs ++ news) ∧ Below w.heap.size w w1)) :
    ∃ X : List Rw, Rws w0 w1 (⟨T, k, .slice (some ⟨g, 0, none⟩) (n + m) cap, n + m, xs ++ news⟩ :: (X ++ E)) ∧
      (∀ v' n' cs, Pre [⟨T, k, v, n, xs⟩] k v' n' cs → Pre (⟨T, k, .slice (some ⟨g, 0, none⟩) (n + m) cap, n + m, xs ++ news⟩ :: X) k v' n' cs) := by
  rcases hh with ⟨h1, h2, h3⟩ | ⟨h1, h2, h3⟩
  · refine ⟨[], ?_, ?_⟩
    · have := h.grown (w2 := w) (Below.refl _ _) 0 rfl h2 (by rw [h1]; exact h3) (fun b hb => .inl (by rw [h1]; exact hb))
      simpa using this
    · rintro v' n' cs ⟨r, hr, _, a, c, c', hv, hrv, hle, htk⟩
      obtain rfl := List.mem_singleton.1 hr
      dsimp only at hrv hle htk
      refine ⟨_, List.mem_cons_self, rfl, a, c, cap, hv, ?_, by dsimp only; omega, ?_⟩
      · dsimp only
        rw [hrv] at h1
        cases a with
        | none => simp [Value.ownBlock] at h1
        | some ad =>
          simp only [Value.ownBlock, Option.some.injEq] at h1
          have ho := h.get (i := 0) rfl
          rcases ho.2 with ⟨e, _⟩ | ⟨g', cap', cur, e, _⟩
          · rw [hrv] at e; cases e
          · rw [hrv] at e
            simp only [Value.slice.injEq, Option.some.injEq] at e
            obtain ⟨rfl, _⟩ := e
            dsimp only at h1
            rw [h1]
      · dsimp only
        have hl := (h.get (i := 0) rfl).1
        dsimp only at hl
        rw [← htk, List.take_append_of_le_length (by rw [hl]; exact Nat.mul_le_mul_right _ hle)]
  · refine ⟨[⟨T, k, v, n, xs⟩], h.add h3 h2, ?_⟩
    intro v' n' cs hp
    exact hp.mono (fun r hr => List.mem_cons_of_mem _ hr)
theorem wpList_two {P : Program} {w : World} {ops : Array Oper} {rest : List Oper} {o : Oper} {a : Act} {Q : Exit → Act → World → Prop} (hgd : o.guard = none) (s x : Operand) (t : TypeId)
    (ho : o.op = .call { callee := .builtin .append, args := #[s, x], argTypes := #[t, t] })
    {e : TypeId} {size bytes : Nat} {z : Value} (R : IsRow P t e size bytes z) {base : Nat}
    {v : Value} {n : Nat} {xs : List Value} (hs : a.eval s = v) (hown : w.ownsRow base e size v n xs)
    (ad : Addr) (m c : Nat) (news : List Value) (hx : a.eval x = .slice (some ad) m c) (hl : news.length = m * size) (hnews : ∀ j u, news[j]? = some u → w.cell? (ad.add j) = some u) (h1 : ∀ u ∈ news, u.oneCell' = true) (hm : 0 < m)
    (hbytes : (n + m) * bytes ≤ 140737488355328) (hmax : n + m ≤ maxLen)
    (h : ∀ g cap w', ((v.ownBlock = some g ∧ w'.ownsRow base e size (.slice (some ⟨g, 0, none⟩) (n + m) cap) (n + m) (xs ++ news) ∧ w.grownBy w' (some g)) ∨
       (g = w.heap.size ∧ w'.ownsRow w.heap.size e size (.slice (some ⟨g, 0, none⟩) (n + m) cap) (n + m) (xs ++ news) ∧ Below w.heap.size w w')) → wpList P ops Q rest (a.put o.dst (.slice (some ⟨g, 0, none⟩) (n + m) cap)) w') : wpList P ops Q (o :: rest) a w := by
  obtain ⟨i, hi, hz, hsz, hby⟩ := R.info
  refine wpList_plain hgd fun K hK => ?_
  obtain ⟨g, cap, w', hr, h2⟩ := run_append_two (P := P) w t o.type base e i z size bytes R.ht hi hz hsz hby R.zs v n xs hown ad m c news hl hnews h1 hm hmax hbytes
  unfold Oper.wp execOp
  simp only [ho, resolve, invoke, builtin, Sem.run_bind, Sem.run_pure, Result.andThen_ok, List.map_toArray, List.map_cons, List.map_nil, hs, hx, hr]
  exact hK _ _ (h g cap w' h2)
section
variable {α : Type} {mk : Nat → Nat → α} {enc : α → List Value} {k : Nat} {ks : List Rw} {i q : Nat} {r : Rw}
def mkAt (mk : Nat → Nat → α) (enc : α → List Value) (k : Nat) (ks : List Rw) (i q : Nat) : List Rw :=
  ks.mapIdx (fun p r => ⟨r.T, r.k, r.v, r.n, if p < i then (mkG mk p 0 r.n).flatMap enc else if p = i then (mkG mk p 0 q).flatMap enc ++ r.xs.drop (q * k) else r.xs⟩)
def mkAll (mk : Nat → Nat → α) (enc : α → List Value) (ks : List Rw) : List Rw := ks.mapIdx (fun p r => ⟨r.T, r.k, r.v, r.n, (mkG mk p 0 r.n).flatMap enc⟩)
theorem mkAt_len : (mkAt mk enc k ks i q).length = ks.length := by simp [mkAt]
theorem mkAll_len : (mkAll mk enc ks).length = ks.length := by simp [mkAll]
theorem mkAll_v : (mkAll mk enc ks).map (·.v) = ks.map (·.v) := by
  apply List.ext_getElem?
  intro j
  simp [mkAll, List.getElem?_mapIdx]
  cases ks[j]? <;> simp
theorem mkAll_get (h : ks[i]? = some r) : (mkAll mk enc ks)[i]? = some ⟨r.T, r.k, r.v, r.n, (mkG mk i 0 r.n).flatMap enc⟩ := by
  simp [mkAll, List.getElem?_mapIdx, h]
theorem mkAt_get (h : ks[i]? = some r) : (mkAt mk enc k ks i q)[i]? = some ⟨r.T, r.k, r.v, r.n, (mkG mk i 0 q).flatMap enc ++ r.xs.drop (q * k)⟩ := by
  simp [mkAt, List.getElem?_mapIdx, h]
theorem mkAt_zero : mkAt mk enc k ks 0 0 = ks := by
  apply List.ext_getElem?
  intro j
  rw [mkAt, List.getElem?_mapIdx]
  cases h : ks[j]? with
  | none => rfl
  | some r =>
    by_cases e : j = 0
    · subst e; simp [mkG]
    · simp [e]
theorem mkAt_next (h : ks[i]? = some r) (hl : r.xs.length = r.n * k) : mkAt mk enc k ks i r.n = mkAt mk enc k ks (i + 1) 0 := by
  apply List.ext_getElem?
  intro j
  rw [mkAt, mkAt, List.getElem?_mapIdx, List.getElem?_mapIdx]
  cases h2 : ks[j]? with
  | none => rfl
  | some r2 =>
    by_cases e : j = i
    · subst e
      rw [h] at h2
      cases h2
      simp [← hl]
    · by_cases e2 : j < i
      · simp [e2, show j < i + 1 by omega]
      · by_cases e3 : j = i + 1
        · subst e3; simp [mkG, show ¬ i + 1 < i by omega]
        · simp [e, e2, e3, show ¬ j < i + 1 by omega]
theorem mkAt_set (h : ks[i]? = some r) : (mkAt mk enc k ks i q).set i ⟨r.T, r.k, r.v, r.n, (mkG mk i 0 (q + 1)).flatMap enc ++ r.xs.drop ((q + 1) * k)⟩ = mkAt mk enc k ks i (q + 1) := by
  apply List.ext_getElem?
  intro j
  rw [List.getElem?_set]
  by_cases e : i = j
  · subst e
    rw [if_pos rfl, if_pos (by rw [mkAt_len]; exact (List.getElem?_eq_some_iff.1 h).1), mkAt_get h]
  · rw [if_neg e, mkAt, mkAt, List.getElem?_mapIdx, List.getElem?_mapIdx]
    simp [show ¬ j = i from fun e2 => e e2.symm]
theorem mkAt_end (h : ks.length ≤ i) : mkAt mk enc k ks i q = mkAll mk enc ks := by
  apply List.ext_getElem?
  intro j
  rw [mkAt, mkAll, List.getElem?_mapIdx, List.getElem?_mapIdx]
  cases h2 : ks[j]? with
  | none => rfl
  | some r2 =>
    have := (List.getElem?_eq_some_iff.1 h2).1
    simp [show j < i by omega]
theorem put_one {A X : List Value} {c : Value} (hq : A.length < X.length) : (A ++ X.drop A.length).set A.length c = (A ++ [c]) ++ X.drop (A.length + 1) := by
  rw [List.set_append_right _ _ (Nat.le_refl _), Nat.sub_self]
  rw [List.drop_eq_getElem_cons hq, List.set_cons_zero]
  simp
theorem put1 (hz : ∀ x, (enc x).length = 1) {X : List Value} {n : Nat} (hX : X.length = n * 1) (hq : q < n) {c : Value} (he : enc (mk i q) = [c]) :
    ((mkG mk i 0 q).flatMap enc ++ X.drop (q * 1)).set q c = (mkG mk i 0 (q + 1)).flatMap enc ++ X.drop ((q + 1) * 1) := by
  have hA : ((mkG mk i 0 q).flatMap enc).length = q := by rw [length_flatMap hz, mkG_len]; omega
  have h1 := put_one (A := (mkG mk i 0 q).flatMap enc) (X := X) (c := c) (by omega)
  rw [hA] at h1
  rw [Nat.mul_one, h1, ← mkG_snoc, List.flatMap_append]
  simp [he]
theorem put2 (hz : ∀ x, (enc x).length = 2) {X : List Value} {n : Nat} (hX : X.length = n * 2) (hq : q < n) {c d : Value} (he : enc (mk i q) = [c, d]) :
    (((mkG mk i 0 q).flatMap enc ++ X.drop (q * 2)).set (q * 2) c).set (q * 2 + 1) d = (mkG mk i 0 (q + 1)).flatMap enc ++ X.drop ((q + 1) * 2) := by
  have hA : ((mkG mk i 0 q).flatMap enc).length = q * 2 := by rw [length_flatMap hz, mkG_len]
  have h1 := put_one (A := (mkG mk i 0 q).flatMap enc) (X := X) (c := c) (by omega)
  have h2 := put_one (A := (mkG mk i 0 q).flatMap enc ++ [c]) (X := X) (c := d) (by rw [List.length_append, hA]; simp; omega)
  rw [List.length_append, hA, List.length_singleton] at h2
  rw [hA] at h1
  rw [h1, h2, ← mkG_snoc, List.flatMap_append]
  simp [he, show (q + 1) * 2 = q * 2 + 1 + 1 by omega]
theorem put3 (hz : ∀ x, (enc x).length = 3) {X : List Value} {n : Nat} (hX : X.length = n * 3) (hq : q < n) {c d e : Value} (he : enc (mk i q) = [c, d, e]) :
    ((((mkG mk i 0 q).flatMap enc ++ X.drop (q * 3)).set (q * 3) c).set (q * 3 + 1) d).set (q * 3 + 2) e = (mkG mk i 0 (q + 1)).flatMap enc ++ X.drop ((q + 1) * 3) := by
  have hA : ((mkG mk i 0 q).flatMap enc).length = q * 3 := by rw [length_flatMap hz, mkG_len]
  have h1 := put_one (A := (mkG mk i 0 q).flatMap enc) (X := X) (c := c) (by omega)
  have h2 := put_one (A := (mkG mk i 0 q).flatMap enc ++ [c]) (X := X) (c := d) (by rw [List.length_append, hA]; simp; omega)
  have h3 := put_one (A := (mkG mk i 0 q).flatMap enc ++ [c] ++ [d]) (X := X) (c := e) (by rw [List.length_append, List.length_append, hA]; simp; omega)
  rw [List.length_append, hA, List.length_singleton] at h2
  rw [List.length_append, List.length_append, hA, List.length_singleton, List.length_singleton] at h3
  rw [hA] at h1
  rw [h1, h2, h3, ← mkG_snoc, List.flatMap_append]
  simp [he, show (q + 1) * 3 = q * 3 + 1 + 1 + 1 by omega]
end
section
variable {w0 w : World} {α : Type} {mk : Nat → Nat → α} {enc : α → List Value} {ks rest : List Rw} {i q n g c : Nat} {T : TypeId} {xs : List Value} {M B O : Rw}
theorem mkAt_at {k : Nat} {r : Rw} (hr : ks[i]? = some r) : (M :: B :: O :: (mkAt mk enc k ks i q ++ rest))[3 + i]? = some ⟨r.T, r.k, r.v, r.n, (mkG mk i 0 q).flatMap enc ++ r.xs.drop (q * k)⟩ := by
  have hl := (List.getElem?_eq_some_iff.1 hr).1
  rw [show 3 + i = i + 1 + 1 + 1 by omega, List.getElem?_cons_succ, List.getElem?_cons_succ, List.getElem?_cons_succ, List.getElem?_append_left (by rw [mkAt_len]; exact hl), mkAt_get hr]
theorem mkAt_put {k : Nat} {r r' : Rw} (hr : ks[i]? = some r) : (M :: B :: O :: (mkAt mk enc k ks i q ++ rest)).set (3 + i) r' = M :: B :: O :: ((mkAt mk enc k ks i q).set i r' ++ rest) := by
  have hl := (List.getElem?_eq_some_iff.1 hr).1
  rw [show 3 + i = i + 1 + 1 + 1 by omega, List.set_cons_succ, List.set_cons_succ, List.set_cons_succ, List.set_append_left _ _ (by rw [mkAt_len]; exact hl)]
theorem Rws.putAt1 (h : Rws w0 w (M :: B :: O :: (mkAt mk enc 1 ks i q ++ rest))) (hr : ks[i]? = some ⟨T, 1, .slice (some ⟨g, 0, none⟩) n c, n, xs⟩) (hX : xs.length = n * 1) (hq : q < n) (hz : ∀ x, (enc x).length = 1) {x0 : Value} (he : enc (mk i q) = [x0]) :
    Rws w0 (w.setCell ⟨g, q, none⟩ x0) (M :: B :: O :: (mkAt mk enc 1 ks i (q + 1) ++ rest)) := by
  have h1 := h.set (3 + i) (mkAt_at hr) q x0
  rw [mkAt_put hr, put1 hz hX hq he] at h1
  rw [← mkAt_set hr]
  exact h1
theorem Rws.putAt2 (h : Rws w0 w (M :: B :: O :: (mkAt mk enc 2 ks i q ++ rest))) (hr : ks[i]? = some ⟨T, 2, .slice (some ⟨g, 0, none⟩) n c, n, xs⟩) (hX : xs.length = n * 2) (hq : q < n) (hz : ∀ x, (enc x).length = 2) {x0 x1 : Value} (he : enc (mk i q) = [x0, x1]) :
    Rws w0 ((w.setCell ⟨g, q * 2, none⟩ x0).setCell ⟨g, q * 2 + 1, none⟩ x1) (M :: B :: O :: (mkAt mk enc 2 ks i (q + 1) ++ rest)) := by
  have h1 := h.set (3 + i) (mkAt_at hr) (q * 2) x0
  have h2 := h1.set (3 + i) (by rw [List.getElem?_set, if_pos rfl, if_pos (List.getElem?_eq_some_iff.1 (mkAt_at (M := M) (B := B) (O := O) (rest := rest) (mk := mk) (enc := enc) (k := 2) (q := q) hr)).1]) (q * 2 + 1) x1
  rw [List.set_set, mkAt_put hr, put2 hz hX hq he] at h2
  rw [← mkAt_set hr]
  exact h2
theorem Rws.putAt3 (h : Rws w0 w (M :: B :: O :: (mkAt mk enc 3 ks i q ++ rest))) (hr : ks[i]? = some ⟨T, 3, .slice (some ⟨g, 0, none⟩) n c, n, xs⟩) (hX : xs.length = n * 3) (hq : q < n) (hz : ∀ x, (enc x).length = 3) {x0 x1 x2 : Value} (he : enc (mk i q) = [x0, x1, x2]) :
    Rws w0 (((w.setCell ⟨g, q * 3, none⟩ x0).setCell ⟨g, q * 3 + 1, none⟩ x1).setCell ⟨g, q * 3 + 2, none⟩ x2) (M :: B :: O :: (mkAt mk enc 3 ks i (q + 1) ++ rest)) := by
  have h1 := h.set (3 + i) (mkAt_at hr) (q * 3) x0
  have hlt := (List.getElem?_eq_some_iff.1 (mkAt_at (M := M) (B := B) (O := O) (rest := rest) (mk := mk) (enc := enc) (k := 3) (q := q) hr)).1
  have h2 := h1.set (3 + i) (by rw [List.getElem?_set, if_pos rfl, if_pos hlt]) (q * 3 + 1) x1
  have h3 := h2.set (3 + i) (by rw [List.getElem?_set, if_pos rfl, if_pos (by simpa using hlt)]) (q * 3 + 2) x2
  rw [List.set_set, List.set_set, mkAt_put hr, put3 hz hX hq he] at h3
  rw [← mkAt_set hr]
  exact h3
theorem Rws.putOld {k : Nat} (h : Rws w0 w (M :: B :: O :: (mkAt mk enc k ks i q ++ rest))) (hr : ks[i]? = some ⟨T, k, .slice (some ⟨g, 0, none⟩) n c, n, xs⟩) (hX : xs.length = n * k) (hq : q < n) (hz : ∀ x, (enc x).length = k) {j : Nat} (hj : j < k) :
    (∃ u, w.cell? ⟨g, q * k + j, none⟩ = some u) ∧ w.frozen? ⟨g, q * k + j, none⟩ = false ∧ g < w.heap.size := by
  have h1 := mkAt_at (M := M) (B := B) (O := O) (rest := rest) (mk := mk) (enc := enc) (k := k) (q := q) hr
  have hqn : q * k + k ≤ n * k := by rw [← Nat.succ_mul]; exact Nat.mul_le_mul_right _ hq
  refine ⟨?_, h.fz h1 _, (h.lt h1).2⟩
  have hA : ((mkG mk i 0 q).flatMap enc ++ xs.drop (q * k)).length = n * k := by
    rw [List.length_append, length_flatMap hz, mkG_len, List.length_drop, hX]; omega
  obtain ⟨u, hu⟩ := getElem?_of_lt (xs := (mkG mk i 0 q).flatMap enc ++ xs.drop (q * k)) (i := q * k + j) (by rw [hA]; omega)
  exact ⟨u, h.cell h1 hu⟩
theorem perm_rot {α : Type} (A B C Y : List α) : (A ++ (B ++ (C ++ Y))).Perm (B ++ ((C ++ A) ++ Y)) := by
  rw [show A ++ (B ++ (C ++ Y)) = A ++ ((B ++ C) ++ Y) by simp, show B ++ ((C ++ A) ++ Y) = (B ++ C) ++ (A ++ Y) by simp]
  exact List.perm_append_comm_assoc _ _ _
theorem Pre.swap {G : List Rw} {k : Nat} {r r' : Rw} {X E : List Rw} {v : Value} {m : Nat} {cs : List Value} (hs : ∀ v' n' cs, Pre [r] k v' n' cs → Pre (r' :: X) k v' n' cs) (h : Pre (r :: E) k v m cs) (hG : ∀ x ∈ r' :: (X ++ E), x ∈ G) : Pre G k v m cs := by
  obtain ⟨x, hx, y⟩ := h
  rcases List.mem_cons.1 hx with rfl | hx
  · exact (hs _ _ _ ⟨x, List.mem_singleton.2 rfl, y⟩).mono (fun z hz => hG z ((List.mem_cons.1 hz).elim (fun e => e ▸ List.mem_cons_self) (fun hz => List.mem_cons_of_mem _ (List.mem_append_left _ hz))))
  · exact ⟨x, hG x (List.mem_cons_of_mem _ (List.mem_append_right _ hx)), y⟩
end
def GrowOk {α : Type} (k : Nat) (mk : Nat → Nat → α) (enc : α → List Value) (ks : List Rw) (gs : List Value) (G : List Rw) (i : Nat) : Prop :=
  ∀ (p : Nat) (r : Rw), p < i → ks[p]? = some r → (∃ v', gs[p]? = some v' ∧ Pre G k v' (r.n + 96) ((mkG mk p 0 (r.n + 96)).flatMap enc)) ∧ Pre G k r.v r.n r.xs
theorem GrowOk.step {α : Type} {k : Nat} {mk : Nat → Nat → α} {enc : α → List Value} {ks : List Rw} {gs : List Value} {G E : List Rw} {i : Nat} (h : GrowOk k mk enc ks gs G i) (hg : gs.length = i) {r : Rw} (hr : ks[i]? = some r) {v' : Value}
    (h1 : Pre E k v' (r.n + 96) ((mkG mk i 0 (r.n + 96)).flatMap enc)) (h2 : Pre E k r.v r.n r.xs) : GrowOk k mk enc ks (gs ++ [v']) (G ++ E) (i + 1) := by
  intro p r' hp hr'
  by_cases e : p = i
  · subst e
    rw [hr] at hr'
    cases hr'
    exact ⟨⟨v', by rw [List.getElem?_append_right (by omega)]; simp [hg], h1.mono (fun x hx => List.mem_append_right _ hx)⟩, h2.mono (fun x hx => List.mem_append_right _ hx)⟩
  · obtain ⟨⟨v2, h3, h4⟩, h5⟩ := h p r' (by omega) hr'
    exact ⟨⟨v2, by rw [List.getElem?_append_left (by omega)]; exact h3, h4.mono (fun x hx => List.mem_append_left _ hx)⟩, h5.mono (fun x hx => List.mem_append_left _ hx)⟩
end Go.Proofs.YtbaccmlfnbgehaaGreatDoor

/-
  Lemmas.
-/
import Derived.Test.YtgikimbafakmcaaGreatDoorGLentS
import Derived.Outline
import Derived.Test.YtgikimbafakmcaaGreatDoorGQuoE
import Derived.Test.YtgikimbafakmcaaGreatDoorGPl1
import Derived.Test.YtgikimbafakmcaaGreatDoorGLaidQun
namespace Go.Proofs.YtgikimbafakmcaaGreatDoor
open Go.RowKit Pl
theorem run_append_two {P : Program} (w : World) (t ty : TypeId) (base : Nat) (e : TypeId) (i : TypeInfo) (z : Value) (size bytes : Nat) (ht : P.underlying t = some (.slice e)) (hi : P.info? e = some i) (hz : i.zero = some z)
    (hsize : i.size = size) (hby : i.bytes = bytes) (hzs : z.cells.size = size)
    (v : Value) (n : Nat) (xs : List Value) (hown : w.ownsRow base e size v n xs)
    (a : Addr) (m c : Nat) (news : List Value) (hl : news.length = m * size) (hnews : ∀ j u, news[j]? = some u -> w.cell? (a.add j) = some u) (h1 : ∀ u ∈ news, u.oneCell' = true)
    (hm : 0 < m) (h63 : n + m <= maxLen) (hbytes : (n + m) * bytes <= 140737488355328) :
    ∃ g cap w', (Builtin.append_ #[t, t] ty #[v, .slice (some a) m c]).run P w = .ok (.slice (some ⟨g, 0, none⟩) (n + m) cap) w' /\
      ((v.ownBlock = some g /\ w'.ownsRow base e size (.slice (some ⟨g, 0, none⟩) (n + m) cap) (n + m) (xs ++ news) /\ w.grownBy w' (some g)) ∨
       (g = w.heap.size /\ w'.ownsRow w.heap.size e size (.slice (some ⟨g, 0, none⟩) (n + m) cap) (n + m) (xs ++ news) /\ Below w.heap.size w w')) := by
 subst hsize
 subst hby
 have hsmall : n + m <= 9223372036854775807 := by simp only [maxLen] at h63; omega
 have hlen : (xs ++ news).length = (n + m) * i.size := by rw [List.length_append, hown.1, hl, Nat.add_mul]
 have grown : ∀ (old : Nat), old < n + m ->
     (w.drew.alloc (.cells (xs.toArray ++ news.toArray ++ Builtin.zeroCells z.cells (grownCap w (n + m) old e - (n + m))) e)).ownsRow w.heap.size e i.size
       (.slice (some ⟨w.heap.size, 0, none⟩) (n + m) (grownCap w (n + m) old e)) (n + m) (xs ++ news) /\
     Below w.heap.size w (w.drew.alloc (.cells (xs.toArray ++ news.toArray ++ Builtin.zeroCells z.cells (grownCap w (n + m) old e - (n + m))) e)) := by
   intro old ho
   have hge := grownCap_ge w (n + m) old e
   have hcm : grownCap w (n + m) old e <= maxLen := grownCap_le_maxLen w (n + m) old e h63
   refine ⟨⟨hlen, .inr ⟨w.heap.size, _, _, rfl, Nat.le_refl _, heap_alloc_new w.drew _, hge, hcm, ?_, ?_⟩⟩, ((Below.refl w.heap.size w).drew).alloc (Nat.le_refl _) _⟩
   · simp only [Array.size_append, List.size_toArray, size_zeroCells, hzs, hown.1, hl, <- Nat.add_mul]
     congr 1
     omega
   · simp only [Array.toList_append]
     rw [<- hlen]
     exact List.take_left
 rcases hown.2 with ⟨rfl, rfl⟩ | ⟨g, cap, cur, rfl, hbg, hg, hnc, hcm, hcs, htake⟩
 · (
 have hx : xs = [] := List.eq_nil_of_length_eq_zero (by simpa using hown.1)
 subst hx
 have hr := run_append_nil (P := P) w t ty e i z ht hi hz a m c news hl hnews (by omega) (by omega) (by have hb := hbytes; simp only [Nat.zero_add] at hb; omega)
 have hgr := grown 0 (by omega)
 simp only [Nat.zero_add, List.nil_append, Array.empty_append] at hgr ⊢
 exact ⟨_, _, _, hr, .inr ⟨rfl, hgr.1, hgr.2⟩⟩)
 · (
 by_cases hroom : n + m <= cap
 · (
 have hfit : n * i.size + news.length <= cur.size := by rw [hl, hcs, <- Nat.add_mul]; exact Nat.mul_le_mul_right _ hroom
 have hr := run_append_room (P := P) w t ty e i ht hi g n cap cur hg a m c news hl hnews h1 hroom hfit
 refine ⟨_, _, _, hr, .inl ⟨rfl, ⟨hlen, .inr ⟨g, cap, _, rfl, hbg, setRow_heap w g cur _ e _ hg, hroom, hcm, ?_, ?_⟩⟩, ⟨rfl, rfl, rfl, by simp, fun k _ hk => setRow_other w g k _ (fun e => hk (by simp [e]))⟩⟩⟩
 · simp only [List.size_toArray, List.length_append, List.length_take, List.length_drop, Array.length_toList]
   omega
 · rw [htake, <- hlen]
   exact List.take_left)
 · have holds : ∀ j u, xs[j]? = some u -> w.cell? ((⟨g, 0, none⟩ : Addr).add j) = some u := hown.cells (g := g) rfl
   have hr := run_append_grow (P := P) w t ty e i z ht hi hz ⟨g, 0, none⟩ n cap xs hown.1 holds a m c news hl hnews (by omega) (by omega) (growslice_fits (by omega) hbytes)
   have hgr := grown cap (by omega)
   exact ⟨_, _, _, hr, .inr ⟨rfl, hgr.1, hgr.2⟩⟩)
theorem Rws.grow2 {w0 w w1 : World} {T : TypeId} {k n m g cap : Nat} {v : Value} {xs news : List Value} {E : List Rw} (h : Rws w0 w (⟨T, k, v, n, xs⟩ :: E))
    (hh : (v.ownBlock = some g /\ w1.ownsRow w0.heap.size T k (.slice (some ⟨g, 0, none⟩) (n + m) cap) (n + m) (xs ++ news) /\ w.grownBy w1 (some g)) ∨
       (g = w.heap.size /\ w1.ownsRow w.heap.size T k (.slice (some ⟨g, 0, none⟩) (n + m) cap) (n + m) (xs ++ news) /\ Below w.heap.size w w1)) :
    ∃ X : List Rw, Rws w0 w1 (⟨T, k, .slice (some ⟨g, 0, none⟩) (n + m) cap, n + m, xs ++ news⟩ :: (X ++ E)) /\
      (∀ v' n' cs, Pre [⟨T, k, v, n, xs⟩] k v' n' cs -> Pre (⟨T, k, .slice (some ⟨g, 0, none⟩) (n + m) cap, n + m, xs ++ news⟩ :: X) k v' n' cs) := by
 rcases hh with ⟨h1, h2, h3⟩ | ⟨h1, h2, h3⟩
 · (
 refine ⟨[], ?_, ?_⟩
 · have := h.grown (w2 := w) (Below.refl _ _) 0 rfl h2 (by rw [h1]; exact h3) (fun b hb => .inl (by rw [h1]; exact hb))
   simpa using this
 · (
 rintro v' n' cs ⟨r, hr, _, a, c, c', hv, hrv, hle, htk⟩
 obtain rfl := List.mem_singleton.1 hr
 dsimp only at hrv hle htk
 refine ⟨_, List.mem_cons_self, rfl, a, c, cap, hv, ?_, by dsimp only; omega, ?_⟩
 · (
 dsimp only
 rw [hrv] at h1
 cases a with
 | none => simp [Value.ownBlock] at h1
 | some ad => (
 simp only [Value.ownBlock, Option.some.injEq] at h1
 have ho := h.get (i := 0) rfl
 rcases ho.2 with ⟨e, _⟩ | ⟨g', cap', cur, e, _⟩
 · rw [hrv] at e; cases e
 · rw [hrv] at e
   simp only [Value.slice.injEq, Option.some.injEq] at e
   obtain ⟨rfl, _⟩ := e
   dsimp only at h1
   rw [h1]))
 · dsimp only
   have hl := (h.get (i := 0) rfl).1
   dsimp only at hl
   rw [<- htk, List.take_append_of_le_length (by rw [hl]; exact Nat.mul_le_mul_right _ hle)]))
 · refine ⟨[⟨T, k, v, n, xs⟩], h.add h3 h2, ?_⟩
   intro v' n' cs hp
   exact hp.mono (fun r hr => List.mem_cons_of_mem _ hr)
theorem wpList_two {P : Program} {w : World} {ops : Array Oper} {rest : List Oper} {o : Oper} {a : Act} {Q : Exit -> Act -> World -> Prop} (hgd : o.guard = none) (s x : Operand) (t : TypeId)
    (ho : o.op = .call { callee := .builtin .append, args := #[s, x], argTypes := #[t, t] })
    {e : TypeId} {size bytes : Nat} {z : Value} (R : IsRow P t e size bytes z) {base : Nat}
    {v : Value} {n : Nat} {xs : List Value} (hs : a.eval s = v) (hown : w.ownsRow base e size v n xs)
    (ad : Addr) (m c : Nat) (news : List Value) (hx : a.eval x = .slice (some ad) m c) (hl : news.length = m * size) (hnews : ∀ j u, news[j]? = some u -> w.cell? (ad.add j) = some u) (h1 : ∀ u ∈ news, u.oneCell' = true) (hm : 0 < m)
    (hbytes : (n + m) * bytes <= 140737488355328) (hmax : n + m <= maxLen)
    (h : ∀ g cap w', ((v.ownBlock = some g /\ w'.ownsRow base e size (.slice (some ⟨g, 0, none⟩) (n + m) cap) (n + m) (xs ++ news) /\ w.grownBy w' (some g)) ∨
       (g = w.heap.size /\ w'.ownsRow w.heap.size e size (.slice (some ⟨g, 0, none⟩) (n + m) cap) (n + m) (xs ++ news) /\ Below w.heap.size w w')) -> wpList P ops Q rest (a.put o.dst (.slice (some ⟨g, 0, none⟩) (n + m) cap)) w') : wpList P ops Q (o :: rest) a w := by
 obtain ⟨i, hi, hz, hsz, hby⟩ := R.info
 refine wpList_plain hgd fun K hK => ?_
 obtain ⟨g, cap, w', hr, h2⟩ := run_append_two (P := P) w t o.type base e i z size bytes R.ht hi hz hsz hby R.zs v n xs hown ad m c news hl hnews h1 hm hmax hbytes
 unfold Oper.wp execOp
 simp only [ho, resolve, invoke, builtin, Sem.run_bind, Sem.run_pure, Result.andThen_ok, List.map_toArray, List.map_cons, List.map_nil, hs, hx, hr]
 exact hK _ _ (h g cap w' h2)
section
variable {α : Type} {mk : Nat -> Nat -> α} {enc : α -> List Value} {k : Nat} {ks : List Rw} {i q : Nat} {r : Rw}
def mkAt (mk : Nat -> Nat -> α) (enc : α -> List Value) (k : Nat) (ks : List Rw) (i q : Nat) : List Rw :=
  ks.mapIdx (fun p r => ⟨r.T, r.k, r.v, r.n, if p < i then (mkG mk p 0 r.n).flatMap enc else if p = i then (mkG mk p 0 q).flatMap enc ++ r.xs.drop (q * k) else r.xs⟩)
def mkAll (mk : Nat -> Nat -> α) (enc : α -> List Value) (ks : List Rw) : List Rw := ks.mapIdx (fun p r => ⟨r.T, r.k, r.v, r.n, (mkG mk p 0 r.n).flatMap enc⟩)
theorem mkAt_len : (mkAt mk enc k ks i q).length = ks.length := by simp [mkAt]
theorem mkAll_len : (mkAll mk enc ks).length = ks.length := by simp [mkAll]
theorem mkAll_v : (mkAll mk enc ks).map (·.v) = ks.map (·.v) := by
 apply List.ext_getElem?
 intro j
 simp [mkAll, List.getElem?_mapIdx]
 cases ks[j]? <;> simp
theorem mkAll_get (h : ks[i]? = some r) : (mkAll mk enc ks)[i]? = some ⟨r.T, r.k, r.v, r.n, (mkG mk i 0 r.n).flatMap enc⟩ := by
 simp [mkAll, List.getElem?_mapIdx, h]
theorem mkAt_get (h : ks[i]? = some r) : (mkAt mk enc k ks i q)[i]? = some ⟨r.T, r.k, r.v, r.n, (mkG mk i 0 q).flatMap enc ++ r.xs.drop (q * k)⟩ := by
 simp [mkAt, List.getElem?_mapIdx, h]
theorem mkAt_zero : mkAt mk enc k ks 0 0 = ks := by
 apply List.ext_getElem?
 intro j
 rw [mkAt, List.getElem?_mapIdx]
 cases h : ks[j]? with
 | none => rfl
 | some r => (
 by_cases e : j = 0
 · subst e; simp [mkG]
 · simp [e])
theorem mkAt_next (h : ks[i]? = some r) (hl : r.xs.length = r.n * k) : mkAt mk enc k ks i r.n = mkAt mk enc k ks (i + 1) 0 := by
 apply List.ext_getElem?
 intro j
 rw [mkAt, mkAt, List.getElem?_mapIdx, List.getElem?_mapIdx]
 cases h2 : ks[j]? with
 | none => rfl
 | some r2 => (
 by_cases e : j = i
 · subst e
   rw [h] at h2
   cases h2
   simp [<- hl]
 · by_cases e2 : j < i
   · simp [e2, show j < i + 1 by omega]
   · by_cases e3 : j = i + 1
     · subst e3; simp [mkG, show ¬ i + 1 < i by omega]
     · simp [e, e2, e3, show ¬ j < i + 1 by omega])
theorem mkAt_set (h : ks[i]? = some r) : (mkAt mk enc k ks i q).set i ⟨r.T, r.k, r.v, r.n, (mkG mk i 0 (q + 1)).flatMap enc ++ r.xs.drop ((q + 1) * k)⟩ = mkAt mk enc k ks i (q + 1) := by
 apply List.ext_getElem?
 intro j
 rw [List.getElem?_set]
 by_cases e : i = j
 · subst e
   rw [if_pos rfl, if_pos (by rw [mkAt_len]; exact (List.getElem?_eq_some_iff.1 h).1), mkAt_get h]
 · rw [if_neg e, mkAt, mkAt, List.getElem?_mapIdx, List.getElem?_mapIdx]
   simp [show ¬ j = i from fun e2 => e e2.symm]
theorem mkAt_end (h : ks.length <= i) : mkAt mk enc k ks i q = mkAll mk enc ks := by
 apply List.ext_getElem?
 intro j
 rw [mkAt, mkAll, List.getElem?_mapIdx, List.getElem?_mapIdx]
 cases h2 : ks[j]? with
 | none => rfl
 | some r2 =>
   have := (List.getElem?_eq_some_iff.1 h2).1
   simp [show j < i by omega]
theorem put_one {A X : List Value} {c : Value} (hq : A.length < X.length) : (A ++ X.drop A.length).set A.length c = (A ++ [c]) ++ X.drop (A.length + 1) := by
 rw [List.set_append_right _ _ (Nat.le_refl _), Nat.sub_self]
 rw [List.drop_eq_getElem_cons hq, List.set_cons_zero]
 simp
theorem put1 (hz : ∀ x, (enc x).length = 1) {X : List Value} {n : Nat} (hX : X.length = n * 1) (hq : q < n) {c : Value} (he : enc (mk i q) = [c]) :
    ((mkG mk i 0 q).flatMap enc ++ X.drop (q * 1)).set q c = (mkG mk i 0 (q + 1)).flatMap enc ++ X.drop ((q + 1) * 1) := by
 have hA : ((mkG mk i 0 q).flatMap enc).length = q := by rw [length_flatMap hz, mkG_len]; omega
 have h1 := put_one (A := (mkG mk i 0 q).flatMap enc) (X := X) (c := c) (by omega)
 rw [hA] at h1
 rw [Nat.mul_one, h1, <- mkG_snoc, List.flatMap_append]
 simp [he]
theorem put2 (hz : ∀ x, (enc x).length = 2) {X : List Value} {n : Nat} (hX : X.length = n * 2) (hq : q < n) {c d : Value} (he : enc (mk i q) = [c, d]) :
    (((mkG mk i 0 q).flatMap enc ++ X.drop (q * 2)).set (q * 2) c).set (q * 2 + 1) d = (mkG mk i 0 (q + 1)).flatMap enc ++ X.drop ((q + 1) * 2) := by
 have hA : ((mkG mk i 0 q).flatMap enc).length = q * 2 := by rw [length_flatMap hz, mkG_len]
 have h1 := put_one (A := (mkG mk i 0 q).flatMap enc) (X := X) (c := c) (by omega)
 have h2 := put_one (A := (mkG mk i 0 q).flatMap enc ++ [c]) (X := X) (c := d) (by rw [List.length_append, hA]; simp; omega)
 rw [List.length_append, hA, List.length_singleton] at h2
 rw [hA] at h1
 rw [h1, h2, <- mkG_snoc, List.flatMap_append]
 simp [he, show (q + 1) * 2 = q * 2 + 1 + 1 by omega]
theorem put3 (hz : ∀ x, (enc x).length = 3) {X : List Value} {n : Nat} (hX : X.length = n * 3) (hq : q < n) {c d e : Value} (he : enc (mk i q) = [c, d, e]) :
    ((((mkG mk i 0 q).flatMap enc ++ X.drop (q * 3)).set (q * 3) c).set (q * 3 + 1) d).set (q * 3 + 2) e = (mkG mk i 0 (q + 1)).flatMap enc ++ X.drop ((q + 1) * 3) := by
 have hA : ((mkG mk i 0 q).flatMap enc).length = q * 3 := by rw [length_flatMap hz, mkG_len]
 have h1 := put_one (A := (mkG mk i 0 q).flatMap enc) (X := X) (c := c) (by omega)
 have h2 := put_one (A := (mkG mk i 0 q).flatMap enc ++ [c]) (X := X) (c := d) (by rw [List.length_append, hA]; simp; omega)
 have h3 := put_one (A := (mkG mk i 0 q).flatMap enc ++ [c] ++ [d]) (X := X) (c := e) (by rw [List.length_append, List.length_append, hA]; simp; omega)
 rw [List.length_append, hA, List.length_singleton] at h2
 rw [List.length_append, List.length_append, hA, List.length_singleton, List.length_singleton] at h3
 rw [hA] at h1
 rw [h1, h2, h3, <- mkG_snoc, List.flatMap_append]
 simp [he, show (q + 1) * 3 = q * 3 + 1 + 1 + 1 by omega]
end
section
variable {w0 w : World} {α : Type} {mk : Nat -> Nat -> α} {enc : α -> List Value} {ks rest : List Rw} {i q n g c : Nat} {T : TypeId} {xs : List Value} {M B O : Rw}
theorem mkAt_at {k : Nat} {r : Rw} (hr : ks[i]? = some r) : (M :: B :: O :: (mkAt mk enc k ks i q ++ rest))[3 + i]? = some ⟨r.T, r.k, r.v, r.n, (mkG mk i 0 q).flatMap enc ++ r.xs.drop (q * k)⟩ := by
 have hl := (List.getElem?_eq_some_iff.1 hr).1
 rw [show 3 + i = i + 1 + 1 + 1 by omega, List.getElem?_cons_succ, List.getElem?_cons_succ, List.getElem?_cons_succ, List.getElem?_append_left (by rw [mkAt_len]; exact hl), mkAt_get hr]
theorem mkAt_put {k : Nat} {r r' : Rw} (hr : ks[i]? = some r) : (M :: B :: O :: (mkAt mk enc k ks i q ++ rest)).set (3 + i) r' = M :: B :: O :: ((mkAt mk enc k ks i q).set i r' ++ rest) := by
 have hl := (List.getElem?_eq_some_iff.1 hr).1
 rw [show 3 + i = i + 1 + 1 + 1 by omega, List.set_cons_succ, List.set_cons_succ, List.set_cons_succ, List.set_append_left _ _ (by rw [mkAt_len]; exact hl)]
theorem Rws.putAt1 (h : Rws w0 w (M :: B :: O :: (mkAt mk enc 1 ks i q ++ rest))) (hr : ks[i]? = some ⟨T, 1, .slice (some ⟨g, 0, none⟩) n c, n, xs⟩) (hX : xs.length = n * 1) (hq : q < n) (hz : ∀ x, (enc x).length = 1) {x0 : Value} (he : enc (mk i q) = [x0]) :
    Rws w0 (w.setCell ⟨g, q, none⟩ x0) (M :: B :: O :: (mkAt mk enc 1 ks i (q + 1) ++ rest)) := by
 have h1 := h.set (3 + i) (mkAt_at hr) q x0
 rw [mkAt_put hr, put1 hz hX hq he] at h1
 rw [<- mkAt_set hr]
 exact h1
theorem Rws.putAt2 (h : Rws w0 w (M :: B :: O :: (mkAt mk enc 2 ks i q ++ rest))) (hr : ks[i]? = some ⟨T, 2, .slice (some ⟨g, 0, none⟩) n c, n, xs⟩) (hX : xs.length = n * 2) (hq : q < n) (hz : ∀ x, (enc x).length = 2) {x0 x1 : Value} (he : enc (mk i q) = [x0, x1]) :
    Rws w0 ((w.setCell ⟨g, q * 2, none⟩ x0).setCell ⟨g, q * 2 + 1, none⟩ x1) (M :: B :: O :: (mkAt mk enc 2 ks i (q + 1) ++ rest)) := by
 have h1 := h.set (3 + i) (mkAt_at hr) (q * 2) x0
 have h2 := h1.set (3 + i) (by rw [List.getElem?_set, if_pos rfl, if_pos (List.getElem?_eq_some_iff.1 (mkAt_at (M := M) (B := B) (O := O) (rest := rest) (mk := mk) (enc := enc) (k := 2) (q := q) hr)).1]) (q * 2 + 1) x1
 rw [List.set_set, mkAt_put hr, put2 hz hX hq he] at h2
 rw [<- mkAt_set hr]
 exact h2
theorem Rws.putAt3 (h : Rws w0 w (M :: B :: O :: (mkAt mk enc 3 ks i q ++ rest))) (hr : ks[i]? = some ⟨T, 3, .slice (some ⟨g, 0, none⟩) n c, n, xs⟩) (hX : xs.length = n * 3) (hq : q < n) (hz : ∀ x, (enc x).length = 3) {x0 x1 x2 : Value} (he : enc (mk i q) = [x0, x1, x2]) :
    Rws w0 (((w.setCell ⟨g, q * 3, none⟩ x0).setCell ⟨g, q * 3 + 1, none⟩ x1).setCell ⟨g, q * 3 + 2, none⟩ x2) (M :: B :: O :: (mkAt mk enc 3 ks i (q + 1) ++ rest)) := by
 have h1 := h.set (3 + i) (mkAt_at hr) (q * 3) x0
 have hlt := (List.getElem?_eq_some_iff.1 (mkAt_at (M := M) (B := B) (O := O) (rest := rest) (mk := mk) (enc := enc) (k := 3) (q := q) hr)).1
 have h2 := h1.set (3 + i) (by rw [List.getElem?_set, if_pos rfl, if_pos hlt]) (q * 3 + 1) x1
 have h3 := h2.set (3 + i) (by rw [List.getElem?_set, if_pos rfl, if_pos (by simpa using hlt)]) (q * 3 + 2) x2
 rw [List.set_set, List.set_set, mkAt_put hr, put3 hz hX hq he] at h3
 rw [<- mkAt_set hr]
 exact h3
theorem Rws.putOld {k : Nat} (h : Rws w0 w (M :: B :: O :: (mkAt mk enc k ks i q ++ rest))) (hr : ks[i]? = some ⟨T, k, .slice (some ⟨g, 0, none⟩) n c, n, xs⟩) (hX : xs.length = n * k) (hq : q < n) (hz : ∀ x, (enc x).length = k) {j : Nat} (hj : j < k) :
    (∃ u, w.cell? ⟨g, q * k + j, none⟩ = some u) /\ w.frozen? ⟨g, q * k + j, none⟩ = false /\ g < w.heap.size := by
 have h1 := mkAt_at (M := M) (B := B) (O := O) (rest := rest) (mk := mk) (enc := enc) (k := k) (q := q) hr
 have hqn : q * k + k <= n * k := by rw [<- Nat.succ_mul]; exact Nat.mul_le_mul_right _ hq
 refine ⟨?_, h.fz h1 _, (h.lt h1).2⟩
 have hA : ((mkG mk i 0 q).flatMap enc ++ xs.drop (q * k)).length = n * k := by
   rw [List.length_append, length_flatMap hz, mkG_len, List.length_drop, hX]; omega
 obtain ⟨u, hu⟩ := getElem?_of_lt (xs := (mkG mk i 0 q).flatMap enc ++ xs.drop (q * k)) (i := q * k + j) (by rw [hA]; omega)
 exact ⟨u, h.cell h1 hu⟩
theorem perm_rot {α : Type} (A B C Y : List α) : (A ++ (B ++ (C ++ Y))).Perm (B ++ ((C ++ A) ++ Y)) := by
 rw [show A ++ (B ++ (C ++ Y)) = A ++ ((B ++ C) ++ Y) by simp, show B ++ ((C ++ A) ++ Y) = (B ++ C) ++ (A ++ Y) by simp]
 exact List.perm_append_comm_assoc _ _ _
theorem Pre.swap {G : List Rw} {k : Nat} {r r' : Rw} {X E : List Rw} {v : Value} {m : Nat} {cs : List Value} (hs : ∀ v' n' cs, Pre [r] k v' n' cs -> Pre (r' :: X) k v' n' cs) (h : Pre (r :: E) k v m cs) (hG : ∀ x ∈ r' :: (X ++ E), x ∈ G) : Pre G k v m cs := by
 obtain ⟨x, hx, y⟩ := h
 rcases List.mem_cons.1 hx with rfl | hx
 · exact (hs _ _ _ ⟨x, List.mem_singleton.2 rfl, y⟩).mono (fun z hz => hG z ((List.mem_cons.1 hz).elim (fun e => e ▸ List.mem_cons_self) (fun hz => List.mem_cons_of_mem _ (List.mem_append_left _ hz))))
 · exact ⟨x, hG x (List.mem_cons_of_mem _ (List.mem_append_right _ hx)), y⟩
end
def GrowOk {α : Type} (k : Nat) (mk : Nat -> Nat -> α) (enc : α -> List Value) (ks : List Rw) (gs : List Value) (G : List Rw) (i : Nat) : Prop :=
  ∀ (p : Nat) (r : Rw), p < i -> ks[p]? = some r -> (∃ v', gs[p]? = some v' /\ Pre G k v' (r.n + 96) ((mkG mk p 0 (r.n + 96)).flatMap enc)) /\ Pre G k r.v r.n r.xs
theorem GrowOk.step {α : Type} {k : Nat} {mk : Nat -> Nat -> α} {enc : α -> List Value} {ks : List Rw} {gs : List Value} {G E : List Rw} {i : Nat} (h : GrowOk k mk enc ks gs G i) (hg : gs.length = i) {r : Rw} (hr : ks[i]? = some r) {v' : Value}
    (h1 : Pre E k v' (r.n + 96) ((mkG mk i 0 (r.n + 96)).flatMap enc)) (h2 : Pre E k r.v r.n r.xs) : GrowOk k mk enc ks (gs ++ [v']) (G ++ E) (i + 1) := by
 intro p r' hp hr'
 by_cases e : p = i
 · subst e
   rw [hr] at hr'
   cases hr'
   exact ⟨⟨v', by rw [List.getElem?_append_right (by omega)]; simp [hg], h1.mono (fun x hx => List.mem_append_right _ hx)⟩, h2.mono (fun x hx => List.mem_append_right _ hx)⟩
 · obtain ⟨⟨v2, h3, h4⟩, h5⟩ := h p r' (by omega) hr'
   exact ⟨⟨v2, by rw [List.getElem?_append_left (by omega)]; exact h3, h4.mono (fun x hx => List.mem_append_left _ hx)⟩, h5.mono (fun x hx => List.mem_append_left _ hx)⟩
end Go.Proofs.YtgikimbafakmcaaGreatDoor
namespace Go.Proofs.YtgikimbafakmcaaGreatDoor
open Go.RowKit Pl
def mkF (F : Nat -> List Value) (ks : List Rw) (i q : Nat) : List Rw :=
  ks.mapIdx (fun p r => ⟨r.T, r.k, r.v, r.n, if p < i then F p else if p = i then (F p).take q ++ r.xs.drop q else r.xs⟩)
def mkFin (F : Nat -> List Value) (ks : List Rw) : List Rw := ks.mapIdx (fun p r => ⟨r.T, r.k, r.v, r.n, F p⟩)
section
variable {F : Nat -> List Value} {ks rest : List Rw} {i q n g c : Nat} {r : Rw} {xs ms : List Value} {w0 w w1 : World} {T : TypeId} {M B O : Rw}
theorem mkF_len : (mkF F ks i q).length = ks.length := by simp [mkF]
theorem mkFin_len : (mkFin F ks).length = ks.length := by simp [mkFin]
theorem mkFin_v : (mkFin F ks).map (·.v) = ks.map (·.v) := by
 apply List.ext_getElem?
 intro j
 simp [mkFin, List.getElem?_mapIdx]
 cases ks[j]? <;> simp
theorem mkFin_get (h : ks[i]? = some r) : (mkFin F ks)[i]? = some ⟨r.T, r.k, r.v, r.n, F i⟩ := by simp [mkFin, List.getElem?_mapIdx, h]
theorem mkF_get (h : ks[i]? = some r) : (mkF F ks i q)[i]? = some ⟨r.T, r.k, r.v, r.n, (F i).take q ++ r.xs.drop q⟩ := by simp [mkF, List.getElem?_mapIdx, h]
theorem mkF_zero : mkF F ks 0 0 = ks := by
 apply List.ext_getElem?
 intro j
 rw [mkF, List.getElem?_mapIdx]
 cases h : ks[j]? with
 | none => rfl
 | some r => by_cases e : j = 0 <;> simp [e]
theorem mkF_upd : mkF (upd F i ms) ks i 0 = mkF F ks i 0 := by
 apply List.ext_getElem?
 intro j
 rw [mkF, mkF, List.getElem?_mapIdx, List.getElem?_mapIdx]
 cases h : ks[j]? with
 | none => rfl
 | some r => (
 by_cases e : j = i
 · simp [e]
 · simp [upd_other _ _ e, e])
theorem mkF_next (h : ks[i]? = some r) (hl : r.xs.length = r.n * 1) (hF : (F i).length = r.n) : mkF F ks i r.n = mkF F ks (i + 1) 0 := by
 apply List.ext_getElem?
 intro j
 rw [mkF, mkF, List.getElem?_mapIdx, List.getElem?_mapIdx]
 cases h2 : ks[j]? with
 | none => rfl
 | some r2 => (
 by_cases e : j = i
 · subst e
   rw [h] at h2
   cases h2
   simp [List.take_of_length_le (Nat.le_of_eq hF), List.drop_of_length_le (show r.xs.length <= r.n by omega)]
 · by_cases e2 : j < i
   · simp [e2, show j < i + 1 by omega]
   · by_cases e3 : j = i + 1
     · subst e3; simp [show ¬ i + 1 < i by omega]
     · simp [e, e2, e3, show ¬ j < i + 1 by omega])
theorem mkF_end (h : ks.length <= i) : mkF F ks i q = mkFin F ks := by
 apply List.ext_getElem?
 intro j
 rw [mkF, mkFin, List.getElem?_mapIdx, List.getElem?_mapIdx]
 cases h2 : ks[j]? with
 | none => rfl
 | some r2 =>
   have := (List.getElem?_eq_some_iff.1 h2).1
   simp [show j < i by omega]
theorem mkF_at (hr : ks[i]? = some r) : (M :: B :: O :: (mkF F ks i q ++ rest))[3 + i]? = some ⟨r.T, r.k, r.v, r.n, (F i).take q ++ r.xs.drop q⟩ := by
 have hl := (List.getElem?_eq_some_iff.1 hr).1
 rw [show 3 + i = i + 1 + 1 + 1 by omega, List.getElem?_cons_succ, List.getElem?_cons_succ, List.getElem?_cons_succ, List.getElem?_append_left (by rw [mkF_len]; exact hl), mkF_get hr]
theorem mkF_set (h : ks[i]? = some r) : (mkF F ks i q).set i ⟨r.T, r.k, r.v, r.n, (F i).take (q + 1) ++ r.xs.drop (q + 1)⟩ = mkF F ks i (q + 1) := by
 apply List.ext_getElem?
 intro j
 rw [List.getElem?_set]
 by_cases e : i = j
 · subst e
   rw [if_pos rfl, if_pos (by rw [mkF_len]; exact (List.getElem?_eq_some_iff.1 h).1), mkF_get h]
 · rw [if_neg e, mkF, mkF, List.getElem?_mapIdx, List.getElem?_mapIdx]
   simp [show ¬ j = i from fun e2 => e e2.symm]
theorem mkF_put {r' : Rw} (hr : ks[i]? = some r) : (M :: B :: O :: (mkF F ks i q ++ rest)).set (3 + i) r' = M :: B :: O :: ((mkF F ks i q).set i r' ++ rest) := by
 have hl := (List.getElem?_eq_some_iff.1 hr).1
 rw [show 3 + i = i + 1 + 1 + 1 by omega, List.set_cons_succ, List.set_cons_succ, List.set_cons_succ, List.set_append_left _ _ (by rw [mkF_len]; exact hl)]
theorem Rws.putOldF (h : Rws w0 w (M :: B :: O :: (mkF F ks i q ++ rest))) (hr : ks[i]? = some ⟨T, 1, .slice (some ⟨g, 0, none⟩) n c, n, xs⟩) (hX : xs.length = n * 1) (hq : q < n) (hF : (F i).length = n) :
    (∃ u, w.cell? ⟨g, q, none⟩ = some u) /\ w.frozen? ⟨g, q, none⟩ = false /\ g < w.heap.size := by
 have h1 := mkF_at (M := M) (B := B) (O := O) (rest := rest) (F := F) (q := q) hr
 refine ⟨?_, h.fz h1 _, (h.lt h1).2⟩
 obtain ⟨u, hu⟩ := getElem?_of_lt (xs := (F i).take q ++ xs.drop q) (i := q) (by simp; omega)
 exact ⟨u, h.cell h1 hu⟩
theorem Rws.putF (h : Rws w0 w (M :: B :: O :: (mkF F ks i q ++ rest))) (hr : ks[i]? = some ⟨T, 1, .slice (some ⟨g, 0, none⟩) n c, n, xs⟩) (hX : xs.length = n * 1) (hq : q < n) {x : Value} (hx : (F i)[q]? = some x) :
    Rws w0 (w.setCell ⟨g, q, none⟩ x) (M :: B :: O :: (mkF F ks i (q + 1) ++ rest)) := by
 have h1 := h.set (3 + i) (mkF_at hr) q x
 rw [mkF_put hr] at h1
 rw [<- mkF_set hr]
 have hql := (List.getElem?_eq_some_iff.1 hx).1
 have e : ((F i).take q ++ xs.drop q).set q x = (F i).take (q + 1) ++ xs.drop (q + 1) := by
   rw [List.set_append_right _ _ (by rw [List.length_take]; omega), List.length_take, show q - min q (F i).length = 0 by omega, List.drop_eq_getElem_cons (by omega), List.set_cons_zero, take_snoc hx]
   simp
 rw [e] at h1
 exact h1
theorem Rws.join {L N : List Rw} (h : Rws w0 w L) (h2 : Rws w w1 N) : Rws w0 w1 (N ++ L) where
  bel := h.bel.trans (h2.bel.mono h.bel.size)
  own r hr := by
    rcases List.mem_append.1 hr with hr | hr
    · exact own_mono (h2.own r hr) h.bel.size
    · exact own_below (h.own r hr) h2.bel
  apart := by
    rw [List.pairwise_append]
    refine ⟨h2.apart, h.apart, fun a ha b hb g hg hg2 => ?_⟩
    have := ((h2.own a ha).lt g hg).1
    have := ((h.own b hb).lt g hg2).2
    omega
end
theorem flatV (L : List Value) : L.flatMap encV = L := by
 induction L with
 | nil => rfl
 | cons x l ih => rw [List.flatMap_cons, ih]; rfl
theorem own_sl {w : World} {base : Nat} {e : TypeId} {k n : Nat} {v : Value} {xs : List Value} (h : w.ownsRow base e k v n xs) : ∃ a c, v = .slice a n c := by
 rcases h.2 with ⟨rfl, rfl⟩ | ⟨g, c, _, rfl, _⟩
 · exact ⟨_, _, rfl⟩
 · exact ⟨_, _, rfl⟩
def AddP (w0 w w' : World) (T SL : TypeId) (k bb c0 c1 m n : Nat) (cs vs us : List Value) (v : Value) (xs : List Value) (rest : List Rw) : Prop :=
  (¬ m < 400 /\ w' = w) ∨ (m < 400 /\ ∃ o' p' u, Rws w0 w' (⟨44, 22, .slice (some ⟨bb, 0, none⟩) 1 1, 1, (cs.set c0 o').set c1 p'⟩ :: ⟨SL, 1, o', m + 1, vs ++ [v]⟩ :: ⟨SL, 1, p', m + 1, us ++ [u]⟩ :: ⟨T, k, v, n, xs⟩ :: ⟨T, k, u, n, xs⟩ :: rest))
theorem step_appS {P : Program} {w : World} {ops : Array Oper} {o : Oper} {a : Act} {K : Act -> World -> Prop} {Q : Exit -> Act -> World -> Prop} {E : Prop} (hgd : o.guard = none) (s x : Operand) (t : TypeId)
    (ho : o.op = .call { callee := .builtin .append, args := #[s, x], argTypes := #[t, t] })
    {e : TypeId} {size bytes : Nat} {z : Value} (R : IsRow P t e size bytes z) {base : Nat} (hb0 : base <= w.heap.size)
    {v : Value} {n : Nat} {xs : List Value} (hs : a.eval s = v) (hown : w.ownsRow base e size v n xs)
    {α : Type} {enc : α -> List Value} {ys : List α} {sa : Option Addr} {b off c : Nat} (hk : ∀ x, (enc x).length = size) (h1 : ∀ u ∈ ys.flatMap enc, u.oneCell' = true) (hS : SlAt enc size w sa b off ys) (hx : a.eval x = .slice sa ys.length c)
    (hbytes : (n + ys.length) * bytes <= 140737488355328) (hmax : n + ys.length <= maxLen)
    (h : ∀ v' w', w'.ownsRow base e size v' (n + ys.length) (xs ++ ys.flatMap enc) -> w.grownBy w' v.ownBlock -> K (a.put o.dst v') w') :
    if Region.wanted o (yielded ops a.tmps) = true then Oper.wp P o a w K Q else E := by
 cases sa with
 | some ad => (
 have g1 : ∀ j u, (ys.flatMap enc)[j]? = some u -> w.cell? (ad.add j) = some u := fun j u hu => by (
 have hp : 0 < ys.length := by (
 rcases Nat.eq_zero_or_pos ys.length with h | h
 · rw [List.eq_nil_of_length_eq_zero h] at hu; simp at hu
 · exact h)
 have had := hS.ad hp
 cases had
 exact slAt_flat hk hS j u hu)
 exact step_app hgd s x t ho R hs hown ad ys.length c _ hx (length_flatMap hk ys) g1 h1 hbytes hmax hb0 (fun v' w' h2 h3 => h v' w' h2 h3))
 | none => (
 have h0 : ys = [] := by (
 rcases Nat.eq_zero_or_pos ys.length with h | h
 · exact List.eq_nil_of_length_eq_zero h
 · have := hS.ad h; cases this)
 subst h0
 have hw : Region.wanted o (yielded ops a.tmps) = true := by simp [Region.wanted, hgd]
 rw [if_pos hw]
 obtain ⟨i, hi, _⟩ := R.info
 have hrun : (Builtin.append_ #[t, t] o.type #[v, .slice none 0 c]).run P w = .ok v w := by (
 rcases hown.2 with ⟨rfl, rfl⟩ | ⟨g, cap, cur, rfl, _, _, hnc, _⟩
 · simp [Builtin.append_, run_underlying R.ht, sizeOf, typeInfo, hi, Builtin.lenOf, Builtin.firstCells]
 · simp [Builtin.append_, run_underlying R.ht, sizeOf, typeInfo, hi, Builtin.lenOf, Builtin.firstCells, hnc, storeCells])
 have hx' : a.eval x = .slice none 0 c := hx
 unfold Oper.wp
 simp [execOp, ho, resolve, invoke, builtin, hs, hx', hrun, Result.andThen]
 exact h v w (by simpa using hown) ⟨rfl, rfl, rfl, Nat.le_refl _, fun _ _ _ => rfl⟩)
end Go.Proofs.YtgikimbafakmcaaGreatDoor
namespace Go.Proofs.YtgikimbafakmcaaGreatDoor
open Go.RowKit Pl
structure KS where
  o : Value
  p : Value
  ks : List Rw
  ws : List Rw
def KS.kd (T : TypeId) (s : KS) : Kd := ⟨T, s.o, s.p, s.ks.map (·.v), s.ws.map (·.v), s.ks ++ s.ws⟩
def KS.zero : KS := ⟨.slice none 0 0, .slice none 0 0, [], []⟩
def bkL (I B S E N W : KS) : List Kd := [I.kd 58, KS.zero.kd 107, KS.zero.kd 109, B.kd 111, S.kd 113, E.kd 22, KS.zero.kd 115, KS.zero.kd 117, N.kd 32, KS.zero.kd 33, W.kd 36]
structure FlOk {α : Type} (T : TypeId) (k : Nat) (enc : α -> List Value) (s : KS) : Prop where
  hl : s.ks.length = s.ws.length
  h4 : s.ks.length <= 400
  at_ : ∀ (i : Nat) (r r' : Rw), s.ks[i]? = some r -> s.ws[i]? = some r' -> r.T = T /\ r.k = k /\ r'.T = T /\ r'.k = k /\ ∃ ys : List α, ys.length <= 500000 /\ r.n = ys.length /\ r'.n = ys.length /\ r.xs = ys.flatMap enc /\ r'.xs = ys.flatMap enc
structure NeOk {α : Type} (T IL : TypeId) (k : Nat) (enc : α -> List Value) (A : List Rw) (s : KS) : Prop where
  hl : s.ks.length = s.ws.length
  h4 : s.ks.length <= 400
  at_ : ∀ (i : Nat) (r r' : Rw), s.ks[i]? = some r -> s.ws[i]? = some r' -> r.T = IL /\ r.k = 1 /\ r'.T = IL /\ r'.k = 1 /\ r.n = r'.n /\ r.xs = r'.xs /\ r.n <= 500000 /\ ∀ x ∈ r.xs, ∃ q ∈ A, q.v = x /\ q.T = T /\ q.k = k /\ ∃ ys : List α, ys.length <= 500000 /\ q.n = ys.length /\ q.xs = ys.flatMap enc
section
variable {α : Type} {T IL : TypeId} {k : Nat} {enc : α -> List Value} {s : KS} {A A' : List Rw}
theorem FlOk.zero : FlOk T k enc KS.zero := ⟨rfl, by simp [KS.zero], fun i r r' h => by simp [KS.zero] at h⟩
theorem NeOk.zero : NeOk T IL k enc A KS.zero := ⟨rfl, by simp [KS.zero], fun i r r' h => by simp [KS.zero] at h⟩
theorem NeOk.mono (h : NeOk T IL k enc A s) (hs : ∀ r ∈ A, r ∈ A') : NeOk T IL k enc A' s :=
  ⟨h.hl, h.h4, fun i r r' h1 h2 => by
    obtain ⟨a, b, c, d, e, f, g, z⟩ := h.at_ i r r' h1 h2
    exact ⟨a, b, c, d, e, f, g, fun x hx => by obtain ⟨q, hq, y⟩ := z x hx; exact ⟨q, hs q hq, y⟩⟩⟩
theorem FlOk.ks_at (h : FlOk T k enc s) {r : Rw} (hr : r ∈ s.ks) : r.T = T /\ r.k = k /\ r.n <= 500000 := by
 obtain ⟨i, hi⟩ := List.getElem?_of_mem hr
 have hl := (List.getElem?_eq_some_iff.1 hi).1
 obtain ⟨r', hi'⟩ := getElem?_of_lt (xs := s.ws) (i := i) (by rw [<- h.hl]; exact hl)
 obtain ⟨a, b, _, _, ys, c, d, _⟩ := h.at_ i r r' hi hi'
 exact ⟨a, b, by omega⟩
theorem NeOk.ks_at (h : NeOk T IL k enc A s) {r : Rw} (hr : r ∈ s.ks) : r.T = IL /\ r.k = 1 /\ r.n <= 500000 := by
 obtain ⟨i, hi⟩ := List.getElem?_of_mem hr
 have hl := (List.getElem?_eq_some_iff.1 hi).1
 obtain ⟨r', hi'⟩ := getElem?_of_lt (xs := s.ws) (i := i) (by rw [<- h.hl]; exact hl)
 obtain ⟨a, b, _, _, _, _, c, _⟩ := h.at_ i r r' hi hi'
 exact ⟨a, b, c⟩
theorem FlOk.push (h : FlOk T k enc s) (hm : s.ks.length < 400) {o p : Value} {r r' : Rw} {ys : List α} (h1 : r.T = T) (h2 : r.k = k) (h3 : r'.T = T) (h4 : r'.k = k) (h5 : ys.length <= 500000) (h6 : r.n = ys.length) (h7 : r'.n = ys.length) (h8 : r.xs = ys.flatMap enc) (h9 : r'.xs = ys.flatMap enc) :
    FlOk T k enc ⟨o, p, s.ks ++ [r], s.ws ++ [r']⟩ := by
 have hll := h.hl
 refine ⟨by simp [hll], by simp; omega, fun i x x' hx hx' => ?_⟩
 by_cases hi : i < s.ks.length
 · rw [List.getElem?_append_left hi] at hx
   rw [List.getElem?_append_left (by omega)] at hx'
   exact h.at_ i x x' hx hx'
 · (
 rw [List.getElem?_append_right (by omega)] at hx
 rw [List.getElem?_append_right (by omega)] at hx'
 have e : i - s.ks.length = 0 := by have := (List.getElem?_eq_some_iff.1 hx).1; simp at this; omega
 have e' : i - s.ws.length = 0 := by omega
 rw [e] at hx; rw [e'] at hx'
 simp at hx hx'
 subst hx hx'
 exact ⟨h1, h2, h3, h4, ys, h5, h6, h7, h8, h9⟩)
theorem NeOk.push (h : NeOk T IL k enc A s) (hm : s.ks.length < 400) {o p : Value} {r r' : Rw} (h1 : r.T = IL) (h2 : r.k = 1) (h3 : r'.T = IL) (h4 : r'.k = 1) (h5 : r.n = r'.n) (h6 : r.xs = r'.xs) (h7 : r.n <= 500000)
    (h8 : ∀ x ∈ r.xs, ∃ q ∈ A, q.v = x /\ q.T = T /\ q.k = k /\ ∃ ys : List α, ys.length <= 500000 /\ q.n = ys.length /\ q.xs = ys.flatMap enc) :
    NeOk T IL k enc A ⟨o, p, s.ks ++ [r], s.ws ++ [r']⟩ := by
 have hll := h.hl
 refine ⟨by simp [hll], by simp; omega, fun i x x' hx hx' => ?_⟩
 by_cases hi : i < s.ks.length
 · rw [List.getElem?_append_left hi] at hx
   rw [List.getElem?_append_left (by omega)] at hx'
   exact h.at_ i x x' hx hx'
 · (
 rw [List.getElem?_append_right (by omega)] at hx
 rw [List.getElem?_append_right (by omega)] at hx'
 have e : i - s.ks.length = 0 := by have := (List.getElem?_eq_some_iff.1 hx).1; simp at this; omega
 have e' : i - s.ws.length = 0 := by omega
 rw [e] at hx; rw [e'] at hx'
 simp at hx hx'
 subst hx hx'
 exact ⟨h1, h2, h3, h4, h5, h6, h7, h8⟩)
end
section
variable {w0 w : World} {kds : List Kd} {j bb : Nat} {D L : List Rw} {SL : TypeId} {K : KS}
theorem Rws.bkFront (h : Rws w0 w (bkRows bb kds D)) (hj : kds[j]? = some (K.kd SL)) :
    Rws w0 w (bkBox bb kds :: ⟨SL, 1, K.o, K.ks.length, K.ks.map (·.v)⟩ :: (K.ks ++ (⟨SL, 1, K.p, K.ws.length, K.ws.map (·.v)⟩ :: (K.ws ++ bkX kds j D)))) := by
 refine (h.perm (bkRows_perm hj)).perm ?_
 unfold KS.kd Kd.rs
 simp only [List.length_map, List.cons_append, List.append_assoc]
 exact ((List.perm_middle (a := (⟨SL, 1, K.p, K.ws.length, K.ws.map (·.v)⟩ : Rw)) (l₁ := K.ks) (l₂ := K.ws ++ bkX kds j D)).symm.cons _).cons _
theorem Rws.bkBack {K' : Kd} {G : List Rw} (hj : kds[j]? = some (K.kd SL)) (hK' : K' = ⟨SL, K.o, K.p, K.ks.map (·.v), K.ws.map (·.v), G ++ K.ws⟩)
    (h : Rws w0 w (bkBox bb kds :: ⟨SL, 1, K.o, K.ks.length, K.ks.map (·.v)⟩ :: (G ++ (⟨SL, 1, K.p, K.ws.length, K.ws.map (·.v)⟩ :: (K.ws ++ bkX kds j D))))) : Rws w0 w (bkRows bb (kds.set j K') D) := by
 refine h.perm (List.Perm.trans ?_ (bkRows_perm' (bb := bb) (D := D) (K' := K') hj).symm)
 rw [bkBox_set hj (by rw [hK']; rfl) (by rw [hK']; rfl), hK']
 unfold Kd.rs
 simp only [List.length_map, List.cons_append, List.append_assoc]
 exact ((List.perm_middle (a := (⟨SL, 1, K.p, K.ws.length, K.ws.map (·.v)⟩ : Rw)) (l₁ := G) (l₂ := K.ws ++ bkX kds j D)).cons _).cons _
theorem Rws.bkCell (h : Rws w0 w (bkRows bb kds D)) {X : Kd} (hj : kds[j]? = some X) : w.cell? ⟨bb, j * 2, none⟩ = some X.o /\ w.cell? ⟨bb, j * 2 + 1, none⟩ = some X.p :=
  ⟨h.cell (i := 0) (T := 44) (k := 22) (n := 1) (xs := bkCells kds) rfl (bkCells_at hj).1, h.cell (i := 0) (T := 44) (k := 22) (n := 1) (xs := bkCells kds) rfl (bkCells_at hj).2⟩
theorem mem_bk {X : Kd} (hj : kds[j]? = some X) : (⟨X.T, 1, X.o, X.vs.length, X.vs⟩ : Rw) ∈ bkRows bb kds D /\ (⟨X.T, 1, X.p, X.us.length, X.us⟩ : Rw) ∈ bkRows bb kds D /\ ∀ r ∈ X.G, r ∈ bkRows bb kds D := by
 have hm := List.mem_of_getElem? hj
 have h0 : ∀ r ∈ X.rs, r ∈ bkRows bb kds D := fun r hr => List.mem_cons_of_mem _ (List.mem_append_left _ (List.mem_flatMap.2 ⟨X, hm, hr⟩))
 exact ⟨h0 _ List.mem_cons_self, h0 _ (List.mem_cons_of_mem _ List.mem_cons_self), fun r hr => h0 r (List.mem_cons_of_mem _ (List.mem_cons_of_mem _ hr))⟩
theorem Rws.bkMem (_ : Rws w0 w (bkRows bb kds D)) {X : Kd} (hj : kds[j]? = some X) : (⟨X.T, 1, X.o, X.vs.length, X.vs⟩ : Rw) ∈ bkRows bb kds D /\ (⟨X.T, 1, X.p, X.us.length, X.us⟩ : Rw) ∈ bkRows bb kds D /\ ∀ r ∈ X.G, r ∈ bkRows bb kds D := mem_bk hj
theorem Rws.bkD (_ : Rws w0 w (bkRows bb kds D)) {r : Rw} (hr : r ∈ D) : r ∈ bkRows bb kds D := List.mem_cons_of_mem _ (List.mem_append_right _ hr)
theorem Rws.outer (h : Rws w0 w L) {T : TypeId} {v : Value} {n : Nat} {vs : List Value} (hm : (⟨T, 1, v, n, vs⟩ : Rw) ∈ L) : ∃ a b c, v = .slice a n c /\ SlAt encV 1 w a b 0 vs /\ vs.length = n := by
 have ho := h.own _ hm
 have hl : vs.length = n := by have := ho.1; dsimp only at this; omega
 obtain ⟨a, c, b, h1, _, _, h2, _⟩ := slAt_own (enc := encV) (xs := vs) lenV (by rw [hl, flatV]; exact ho)
 exact ⟨a, b, c, by rw [hl] at h1; exact h1, h2, hl⟩
theorem Rws.reads {α : Type} {enc : α -> List Value} {k : Nat} (hk : ∀ x, (enc x).length = k) (h : Rws w0 w L) {r : Rw} (hm : r ∈ L) {ys : List α} (h1 : r.k = k) (h2 : r.n = ys.length) (h3 : r.xs = ys.flatMap enc) : ∃ a b c, r.v = .slice a ys.length c /\ SlAt enc k w a b 0 ys := by
 have ho := h.own _ hm
 rw [h1, h2, h3] at ho
 obtain ⟨a, c, b, e1, _, _, e2, _⟩ := slAt_own (xs := ys) hk ho
 exact ⟨a, b, c, e1, e2⟩
end
theorem grow_perm (g b o p : Rw) (G W : List Rw) (X : List Kd) (D : List Rw) : (g :: b :: o :: (G ++ (p :: (W ++ (X.flatMap Kd.rs ++ D))))).Perm (b :: o :: (G ++ (p :: (W ++ (X.flatMap Kd.rs ++ (g :: D)))))) := by
 have h := List.perm_middle (a := g) (l₁ := b :: o :: (G ++ (p :: (W ++ X.flatMap Kd.rs)))) (l₂ := D)
 simp only [List.append_assoc, List.cons_append] at h ⊢
 exact h.symm
theorem put_perm (b o p : Rw) (G W N : List Rw) (X : List Kd) (D : List Rw) : (b :: o :: (G ++ (N ++ (p :: (W ++ (X.flatMap Kd.rs ++ D)))))).Perm (b :: o :: (G ++ (p :: (W ++ (X.flatMap Kd.rs ++ (N ++ D)))))) := by
 refine ((List.Perm.append_left G ?_).cons _).cons _
 have h := perm_rot N (p :: (W ++ X.flatMap Kd.rs)) [] D
 simp only [List.append_assoc, List.cons_append, List.nil_append] at h
 exact h
theorem grow_permN (g b o p : Rw) (G W N : List Rw) (X : List Kd) (D : List Rw) : (g :: b :: o :: (G ++ (N ++ (p :: (W ++ (X.flatMap Kd.rs ++ D)))))).Perm (b :: o :: (G ++ (p :: (W ++ (X.flatMap Kd.rs ++ (g :: (N ++ D))))))) :=
  ((put_perm b o p G W N X D).cons g).trans (grow_perm g b o p G W X (N ++ D))
end Go.Proofs.YtgikimbafakmcaaGreatDoor
namespace Go.Proofs.YtgikimbafakmcaaGreatDoor
open Go.RowKit Pl
set_option maxRecDepth 100000 in
theorem sameBools_any {a1 a2 : Option Addr} {b1 o1 c1 b2 o2 c2 : Nat} {xs ys : List Bool} {w : World} (h1 : SlAt encB 1 w a1 b1 o1 xs) (h2 : SlAt encB 1 w a2 b2 o2 ys) (hx : xs.length <= 4611686018427387904) (hy : ys.length <= 4611686018427387904) :
    Calls Tryz.prog 80 #[.slice a1 xs.length c1, .slice a2 ys.length c2] w fun e w' => e = .returned (.bool (decide (xs = ys))) /\ ∃ n, w' = w.drewN n := by
 by_cases hl : xs.length = ys.length
 · have hlB : ((xs.length : Int) != (ys.length : Int)) = false := by simp [hl]
   have HL := Lib.hid hl; clear hl
   go_enter Tryz.func80, Tryz.ntmps80
   go_wp2
   go_loopw [5] (fun i wr => ∃ k m : Nat, k <= xs.length /\ i = .int .i64 k /\ (∀ j, j < k -> xs[j]? = ys[j]?) /\ wr = w.drewN m)
     (fun i _ => xs.length - (intOf i).toNat)
   case atStart => exact ⟨0, 0, Nat.zero_le _, rfl, by intro j hj; omega, rfl⟩
   case round =>
     obtain ⟨k, m, hk, rfl, heq, rfl⟩ := hrel
     have HE := Lib.hid heq; clear heq
     by_cases hlt : k < xs.length
     · have hlt2 : k < ys.length := by rw [<- HL.out]; exact hlt
       obtain ⟨x, hxk⟩ := getElem?_of_lt hlt
       obtain ⟨y, hyk⟩ := getElem?_of_lt hlt2
       obtain rfl := h1.ad (by omega)
       obtain rfl := h2.ad (by omega)
       have hc0 := h1.cb hxk
       have hc1 := h2.cb hyk
       have hi1 : (k : Int) < (xs.length : Int) := by omega
       have hi2 : (k : Int) < (ys.length : Int) := by omega
       have HX := Lib.hid hxk; have HY := Lib.hid hyk
       clear h1 h2 hxk hyk
       by_cases hxy : x = y
       · have hb : (x == y) = true := by simp [hxy]
         have HXY := Lib.hid hxy; clear hxy
         go_wp2_with fail
         go_quiet (fail)
         go_wp2
         go_roundw
         case rel => exact ⟨k + 1, _, by omega, by go_num, by
           intro j hj
           by_cases hjk : j = k
           · subst hjk; rw [HX.out, HY.out, HXY.out]
           · exact HE.out j (by omega), rfl⟩
         case measure => simp [intOf]; omega
       · have hb : (x == y) = false := by simp [hxy]
         have HXY := Lib.hid hxy; clear hxy
         go_wp2_with fail
         go_quiet (fail)
         go_wp2
         go_ret
         refine ⟨?_, _, World.drewN_drewN _ _ _⟩
         have : xs ≠ ys := fun e => HXY.out (by have h1 := HX.out; have h2 := HY.out; rw [e, h2] at h1; simpa using h1.symm)
         simp [this]
     · clear h1 h2
       have hkk : k = xs.length := by omega
       go_wp2
       go_ret
       refine ⟨?_, _, rfl⟩
       have : xs = ys := eq_upto HL.out (by rw [<- hkk]; exact HE.out)
       simp [this]
 · have hlB : ((xs.length : Int) != (ys.length : Int)) = true := by simp; omega
   go_enter Tryz.func80, Tryz.ntmps80
   go_wp2
   go_ret
   have : xs ≠ ys := fun e => hl (by rw [e])
   exact ⟨by simp [this], 0, rfl⟩
end Go.Proofs.YtgikimbafakmcaaGreatDoor

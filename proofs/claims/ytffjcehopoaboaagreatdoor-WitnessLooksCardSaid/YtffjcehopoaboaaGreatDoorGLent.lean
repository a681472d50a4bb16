/-
  Lemmas.
-/
import Derived.Test.YtffjcehopoaboaaGreatDoorGSameInts
import Derived.Deep.RegionHeld3
import Derived.Test.YtffjcehopoaboaaGreatDoorGFault
import Derived.Deep.AppendLies
import Derived.Deep.RegionLaw
import Derived.Test.YtffjcehopoaboaaGreatDoorGClone
import Derived.Laws.AppendOwnNone
namespace Go.Proofs.YtffjcehopoaboaaGreatDoor
open Go.RowKit Pl
open Lib (hid)
structure LentI (w : World) (v : Value) (xs : List Int) : Prop where
  ex : ∃ g c, v = .slice (some ⟨g, 0, none⟩) xs.length c ∧ xs.length + 2 ≤ c ∧ c ≤ maxLen ∧ SlAt encI 1 w (some ⟨g, 0, none⟩) g 0 (xs ++ [-77, -78])
theorem LentI.below {w w' : World} {v : Value} {xs : List Int} (h : LentI w v xs) (hB : Below w.heap.size w w') : LentI w' v xs := by
  obtain ⟨g, c, h1, h2, h3, h4⟩ := h.ex
  exact ⟨g, c, h1, h2, h3, h4.below hB (Nat.le_refl _)⟩
theorem SlAt.pre {α : Type} {enc : α → List Value} {k : Nat} {w : World} {a : Option Addr} {b off : Nat} {xs ys : List α} (h : SlAt enc k w a b off (xs ++ ys)) : SlAt enc k w a b off xs :=
  ⟨fun hp => h.ad (by simp; omega), fun hp => h.lt (by simp; omega), fun i x hx => h.cell i x (by rw [List.getElem?_append_left (List.getElem?_eq_some_iff.1 hx).1]; exact hx)⟩
theorem slAt_flatI {w : World} {a : Option Addr} {ad : Addr} {b off : Nat} {xs : List Int} (hS : SlAt encI 1 w a b off xs) (ha : a = some ad) :
    (∀ j u, (xs.flatMap encI)[j]? = some u → w.cell? (ad.add j) = some u) ∧ (∀ u ∈ xs.flatMap encI, u.oneCell' = true) ∧ (xs.flatMap encI).length = xs.length * 1 := by
  refine ⟨?_, ?_, length_flatMap lenI xs⟩
  · intro j u hu
    have hj : j < xs.length := by have := (List.getElem?_eq_some_iff.1 hu).1; rw [length_flatMap lenI] at this; omega
    have had := hS.ad (by omega)
    rw [ha] at had
    cases had
    rw [Go.WideShapes.add_plain]
    obtain ⟨y, hy⟩ := getElem?_of_lt hj
    have h1 := getElem?_flatMap lenI xs j y hy 0 _ rfl
    rw [Nat.mul_one, Nat.add_zero] at h1
    rw [h1] at hu
    cases hu
    exact hS.ci hy
  · intro u hu
    obtain ⟨y, _, hy⟩ := List.mem_flatMap.1 hu
    simp [encI] at hy; subst hy; rfl
theorem own_cap {w : World} {base : Nat} {e : TypeId} {k n m cap : Nat} {ad : Addr} {xs : List Value} (h : w.ownsRow base e k (.slice (some ad) m cap) n xs) : n ≤ cap ∧ cap ≤ maxLen := by
  rcases h.2 with ⟨h1, _⟩ | ⟨g, cap', cur, hv, _, _, h2, h3, _⟩
  · cases h1
  · simp only [Value.slice.injEq] at hv
    obtain ⟨_, _, rfl⟩ := hv
    exact ⟨h2, h3⟩
def LentPost (xs : List Int) (w : World) (e : Ending) (w' : World) : Prop := ∃ v, e = .returned v ∧ LentI w' v xs ∧ Below w.heap.size w w'
theorem lent_mk {w' : World} {base g n cap : Nat} {xs : List Int} (hn : n = xs.length) (h : w'.ownsRow base 3 1 (.slice (some ⟨g, 0, none⟩) (n + 2) cap) (n + 2) (xs.flatMap encI ++ [.int .i64 (-77), .int .i64 (-78)])) : LentI w' (.slice (some ⟨g, 0, none⟩) n cap) xs := by
  subst hn
  have h2 : w'.ownsRow base 3 1 (.slice (some ⟨g, 0, none⟩) (xs.length + 2) cap) (xs ++ [-77, -78]).length ((xs ++ [-77, -78]).flatMap encI) := by
    rw [List.flatMap_append, List.length_append]; exact h
  obtain ⟨a, c, b, hv, h3, h4, h5, _⟩ := slAt_own lenI h2
  simp only [Value.slice.injEq] at hv
  obtain ⟨rfl, _, rfl⟩ := hv
  have := h5.ad (by simp)
  simp at this
  subst this
  exact ⟨_, _, rfl, by simpa using h3, h4, h5⟩
set_option maxRecDepth 100000 in
theorem lentInts_any {w : World} {a : Option Addr} {b off c : Nat} {xs : List Int} (hS : SlAt encI 1 w a b off xs) (hn : xs.length ≤ 1000000) :
    Calls Tryz.prog 25 #[.slice a xs.length c] w (LentPost xs w) := by
  obtain ⟨n, hnn⟩ : ∃ n, n = xs.length := ⟨_, rfl⟩
  have HS := hid hS; have HNN := hid hnn
  rw [← hnn] at hn ⊢
  clear hnn hS
  cases a with
  | none =>
    have h0 : n = 0 := by
      rcases Nat.eq_zero_or_pos n with h | h
      · exact h
      · have := HS.out.ad (by rw [← HNN.out]; exact h)
        cases this
    subst h0
    have hx : xs = [] := List.eq_nil_of_length_eq_zero HNN.out.symm
    have HXS := hid hx
    clear hx
    go_enter Tryz.func25, Tryz.ntmps25
    go_wp2_with (at_builtin; refine wpList_app1 rfl (Operand.tmp 5) (Operand.tmp 6) _ rfl rowI ((Below.refl w.heap.size w).alloc (Nat.le_refl _) _) (by simp) rfl (World.ownsRow_nil _ _ _ _) ⟨w.heap.size, 0, none⟩ 2 2 [.int .i64 (-77), .int .i64 (-78)] rfl rfl (cells2 (by simp [go_sem]) (by simp [go_sem])) (by simp [Value.oneCell']) (by decide) (by omega) (by unfold maxLen; omega) ?_; intro g cap w1 hown1 hB1 _)
    have hcap := own_cap hown1
    have hcap1 := hcap.1
    have hcap2 := hcap.2
    unfold maxLen at hcap2
    have HO := hid hown1; have HB := hid hB1
    clear hown1 hB1 hcap
    go_wp2
    go_ret
    exact ⟨_, rfl, lent_mk (n := 0) HNN.out (by rw [HXS.out]; exact HO.out), HB.out⟩
  | some ad =>
    obtain ⟨hx, h1, hl⟩ := slAt_flatI HS.out rfl
    rw [← HNN.out] at hl
    have HX := hid hx; have H1 := hid h1; have HL := hid hl
    clear hx h1 hl
    go_enter Tryz.func25, Tryz.ntmps25
    go_wp2_with (first
      | (at_builtin; refine wpList_app rfl (Operand.const (Value.slice none 0 0)) (Operand.tmp 4) _ rfl rowI (Below.refl w.heap.size w) (Nat.le_refl _) rfl (World.ownsRow_nil _ _ _ _) ad n c (xs.flatMap encI) rfl HL.out HX.out H1.out (by omega) (by unfold maxLen; omega) ?_; intro v' w1 hown1 hB1 _; have HO1 := hid hown1; have HB1 := hid hB1; have hs1 := hB1.size; clear hown1 hB1)
      | (at_builtin; refine wpList_app1 rfl (Operand.tmp 5) (Operand.tmp 6) _ rfl rowI (HB1.out.alloc hs1 _) (by simp; omega) rfl (HO1.out.alloc _) ⟨w1.heap.size, 0, none⟩ 2 2 [.int .i64 (-77), .int .i64 (-78)] rfl rfl (cells2 (by simp [go_sem]) (by simp [go_sem])) (by simp [Value.oneCell']) (by decide) (by omega) (by unfold maxLen; omega) ?_; intro g cap w2 hown2 hB2 _; have hcap1 : n + 2 ≤ cap := (by have := (own_cap hown2).1; omega); have hcap2 : cap ≤ 9223372036854775807 := (by have := (own_cap hown2).2; unfold maxLen at this; omega); have HO := hid hown2; have HB := hid hB2; clear hown2 hB2))
    go_wp2
    go_ret
    exact ⟨_, rfl, lent_mk (n := n) HNN.out (by have h := HO.out; rw [Nat.zero_add, List.nil_append] at h; exact h), HB.out⟩
set_option maxRecDepth 100000 in
theorem staysInts_any {w : World} {v : Value} {a : Option Addr} {b off c : Nat} {xs : List Int} (hL : LentI w v xs) (hS : SlAt encI 1 w a b off xs) (hn : xs.length ≤ 1000000) :
    Calls Tryz.prog 30 #[v, .slice a xs.length c] w fun e w' => e = .returned (.bool true) ∧ ∃ m, w' = w.drewN m := by
  obtain ⟨g, cap, rfl, hc1, hc2, hg⟩ := hL.ex
  have hq := sameInts_any (c1 := cap) (c2 := c) hg.pre hS (by omega) (by omega)
  have d0 := hg.ci (i := xs.length) (x := -77) (by simp)
  have d1 := hg.ci (i := xs.length + 1) (x := -78) (by simp)
  have hgl := hg.lt (by simp)
  simp only [Nat.zero_add] at d0 d1
  unfold maxLen at hc2
  obtain ⟨n, hnn⟩ : ∃ n, n = xs.length := ⟨_, rfl⟩
  rw [← hnn] at hq hc1 hn d0 d1 ⊢
  simp only [decide_true] at hq
  have HQ := hid hq
  clear hL hg hS hq hnn
  have hk1 : (0 : Int) ≤ (n : Int) + 1 := by omega
  have hk2 : ((n : Int) + 1).toNat = n + 1 := by omega
  go_enter Tryz.func30, Tryz.ntmps30
  go_wp2_with fail
  refine HQ.out.mono ?_
  rintro e w1 ⟨rfl, m, rfl⟩
  go_wp2
  go_ret
  exact ⟨rfl, m, rfl⟩
end Go.Proofs.YtffjcehopoaboaaGreatDoor
namespace Go.Proofs.YtffjcehopoaboaaGreatDoor
open Go.RowKit Pl
structure Rw where
  T : TypeId
  k : Nat
  v : Value
  n : Nat
  xs : List Value
structure Rws (w0 w : World) (L : List Rw) : Prop where
  bel : Below w0.heap.size w0 w
  own : ∀ r ∈ L, w.ownsRow w0.heap.size r.T r.k r.v r.n r.xs
  apart : L.Pairwise (fun a b => ∀ g, a.v.ownBlock = some g → b.v.ownBlock ≠ some g)
section
variable {w0 w w' w1 : World} {L : List Rw} {r : Rw}
theorem own_blockR {base : Nat} {e : TypeId} {k n : Nat} {v : Value} {xs : List Value} (h : w.ownsRow base e k v n xs) (hb : ∀ g, v.ownBlock = some g → w'.heap[g]? = w.heap[g]?) : w'.ownsRow base e k v n xs := by
  refine ⟨h.1, ?_⟩
  rcases h.2 with h2 | ⟨g, cap, cur, hv, hbg, hg, r⟩
  · exact .inl h2
  · exact .inr ⟨g, cap, cur, hv, hbg, by rw [hb g (by rw [hv]; rfl)]; exact hg, r⟩
theorem Rws.call (h : Rws w0 w L) (hB : Below w.heap.size w w') : Rws w0 w' L :=
  ⟨h.bel.trans (hB.mono h.bel.size), fun r hr => own_below (h.own r hr) hB, h.apart⟩
theorem Rws.drew (h : Rws w0 w L) : Rws w0 w.drew L := h.call (Below.refl _ _).drew
theorem Rws.drewN (h : Rws w0 w L) (m : Nat) : Rws w0 (w.drewN m) L := h.call (bdrew (Below.refl _ _))
theorem Rws.alloc (h : Rws w0 w L) (o : Obj) : Rws w0 (w.alloc o) L := h.call ((Below.refl _ _).alloc (Nat.le_refl _) o)
theorem Rws.get (h : Rws w0 w L) {i : Nat} (hi : L[i]? = some r) : w.ownsRow w0.heap.size r.T r.k r.v r.n r.xs := h.own r (List.mem_of_getElem? hi)
theorem Rws.nil (hB : Below w0.heap.size w0 w) : Rws w0 w [] := ⟨hB, fun _ h => by simp at h, .nil⟩
theorem Rws.ne (h : Rws w0 w L) {i j : Nat} {a b : Rw} (hi : L[i]? = some a) (hj : L[j]? = some b) (hij : i ≠ j) {g : Nat} (ha : a.v.ownBlock = some g) : b.v.ownBlock ≠ some g := by
  have hp := List.pairwise_iff_getElem.1 h.apart
  obtain ⟨hil, rfl⟩ := List.getElem?_eq_some_iff.1 hi
  obtain ⟨hjl, rfl⟩ := List.getElem?_eq_some_iff.1 hj
  rcases Nat.lt_or_gt_of_ne hij with hlt | hlt
  · exact hp i j hil hjl hlt g ha
  · intro hb
    exact hp j i hjl hil hlt g hb ha
theorem Rws.put (h : Rws w0 w L) {i : Nat} {a b : Rw} (hi : L[i]? = some a) (hB : Below w0.heap.size w0 w1)
    (hk : ∀ g, a.v.ownBlock ≠ some g → g < w.heap.size → w1.heap[g]? = w.heap[g]?) (ho : w1.ownsRow w0.heap.size b.T b.k b.v b.n b.xs)
    (hl : ∀ g, b.v.ownBlock = some g → a.v.ownBlock = some g ∨ w.heap.size ≤ g) : Rws w0 w1 (L.set i b) := by
  obtain ⟨hil, hia⟩ := List.getElem?_eq_some_iff.1 hi
  refine ⟨hB, fun r hr => ?_, ?_⟩
  · obtain ⟨j, hj, rfl⟩ := List.getElem_of_mem hr
    rw [List.getElem_set]
    by_cases e : i = j
    · rw [if_pos e]; exact ho
    · rw [if_neg e]
      have hjl : j < L.length := by simpa using hj
      have hjo := h.own L[j] (List.getElem_mem hjl)
      refine own_blockR hjo (fun g hg => hk g (fun e2 => ?_) (hjo.lt g hg).2)
      exact h.ne hi (List.getElem?_eq_getElem hjl) e e2 hg
  · rw [List.pairwise_iff_getElem]
    intro p q hp hq hpq g hg
    rw [List.length_set] at hp hq
    rw [List.getElem_set] at hg ⊢
    have key : ∀ j (hj : j < L.length), i ≠ j → b.v.ownBlock = some g → L[j].v.ownBlock = some g → False := fun j hj e hb hjg => by
      rcases hl g hb with h1 | h1
      · exact h.ne hi (List.getElem?_eq_getElem hj) e h1 hjg
      · have := ((h.own L[j] (List.getElem_mem hj)).lt g hjg).2; omega
    by_cases e1 : i = p
    · rw [if_pos e1] at hg
      rw [if_neg (by omega)]
      exact fun hq2 => key q hq (by omega) hg hq2
    · rw [if_neg e1] at hg
      by_cases e2 : i = q
      · rw [if_pos e2]
        exact fun hb => key p hp e1 hb hg
      · rw [if_neg e2]
        exact h.ne (List.getElem?_eq_getElem hp) (List.getElem?_eq_getElem hq) (by omega) hg
theorem Rws.set (h : Rws w0 w L) (i : Nat) {T : TypeId} {k n m g c : Nat} {xs : List Value} (hi : L[i]? = some ⟨T, k, .slice (some ⟨g, 0, none⟩) m c, n, xs⟩) (j : Nat) (u : Value) :
    Rws w0 (w.setCell ⟨g, j, none⟩ u) (L.set i ⟨T, k, .slice (some ⟨g, 0, none⟩) m c, n, xs.set j u⟩) := by
  have ho := h.get hi
  have hmn : m = n := by
    rcases ho.2 with ⟨h2, _⟩ | ⟨g', cap', cur, hv, _⟩
    · simp at h2
    · simp only [Value.slice.injEq] at hv; exact hv.2.1
  subst hmn
  obtain ⟨h1, h2⟩ := ho.stored j u
  have hg := (ho.lt g rfl).1
  refine h.put hi (h.bel.setCell hg _) (fun b hb _ => Below.heap_setCell _ _ _ _ (fun e => hb (by simp [Value.ownBlock, e]))) h1 (fun b hb => .inl hb)
theorem Rws.grown {w2 : World} (h : Rws w0 w L) (hB2 : Below w.heap.size w w2) (i : Nat) {T : TypeId} {k n n' : Nat} {v v' : Value} {xs xs' : List Value} (hi : L[i]? = some ⟨T, k, v, n, xs⟩) (ho : w1.ownsRow w0.heap.size T k v' n' xs') (hg : w2.grownBy w1 v.ownBlock)
    (hl : ∀ g, v'.ownBlock = some g → v.ownBlock = some g ∨ w.heap.size ≤ g) : Rws w0 w1 (L.set i ⟨T, k, v', n', xs'⟩) :=
  h.put hi ((h.bel.trans (hB2.mono h.bel.size)).grown hg (Nat.le_trans h.bel.size hB2.size) (fun b hb => ((h.get hi).lt b hb).1))
    (fun b hb hl => (hg.block b (Nat.lt_of_lt_of_le hl hB2.size) (fun e => hb e.symm)).trans (hB2.block b hl)) ho hl
theorem Rws.add (h : Rws w0 w L) {T : TypeId} {k n : Nat} {v : Value} {xs : List Value} (hB : Below w.heap.size w w1) (ho : w1.ownsRow w.heap.size T k v n xs) : Rws w0 w1 (⟨T, k, v, n, xs⟩ :: L) where
  bel := h.bel.trans (hB.mono h.bel.size)
  own r hr := by
    rcases List.mem_cons.1 hr with rfl | hr
    · exact own_mono ho h.bel.size
    · exact own_below (h.own r hr) hB
  apart := by
    refine List.pairwise_cons.2 ⟨fun b hb g hg hg2 => ?_, h.apart⟩
    have := (ho.lt g hg).1
    have := ((h.own b hb).lt g hg2).2
    omega
theorem Rws.perm {L' : List Rw} (h : Rws w0 w L) (hp : L.Perm L') : Rws w0 w L' :=
  ⟨h.bel, fun r hr => h.own r (hp.mem_iff.2 hr), h.apart.perm hp (fun {_ _} h1 g hg hg2 => h1 g hg2 hg)⟩
theorem Rws.sub {L' : List Rw} (h : Rws w0 w L) (hs : L'.Sublist L) : Rws w0 w L' :=
  ⟨h.bel, fun r hr => h.own r (hs.subset hr), h.apart.sublist hs⟩
theorem Rws.form (h : Rws w0 w L) {i : Nat} {T : TypeId} {k n : Nat} {v : Value} {xs : List Value} (hi : L[i]? = some ⟨T, k, v, n, xs⟩) (hn : 0 < n) : ∃ g c, v = .slice (some ⟨g, 0, none⟩) n c ∧ n ≤ c ∧ c ≤ maxLen ∧ w0.heap.size ≤ g ∧ g < w.heap.size := by
  have ho := h.get hi
  rcases ho.2 with ⟨_, h2⟩ | ⟨g, c, cur, hv, hb, hg, h3, h4, _⟩
  · have h2 : n = 0 := h2
    omega
  · exact ⟨g, c, hv, h3, h4, hb, (Array.getElem?_eq_some_iff.1 hg).1⟩
theorem Rws.cell (h : Rws w0 w L) {i : Nat} {T : TypeId} {k n m g c : Nat} {xs : List Value} (hi : L[i]? = some ⟨T, k, .slice (some ⟨g, 0, none⟩) m c, n, xs⟩) {j : Nat} {u : Value} (hj : xs[j]? = some u) : w.cell? ⟨g, j, none⟩ = some u := by
  have ho := h.get hi
  have := ho.cells rfl j u hj
  have hadd : (⟨g, 0, none⟩ : Addr).add j = ⟨g, j, none⟩ := by unfold Addr.add; split <;> simp_all
  rwa [hadd] at this
theorem Rws.fz (h : Rws w0 w L) {i : Nat} {T : TypeId} {k n m g c : Nat} {xs : List Value} (hi : L[i]? = some ⟨T, k, .slice (some ⟨g, 0, none⟩) m c, n, xs⟩) (j : Nat) : w.frozen? ⟨g, j, none⟩ = false := by
  have ho := h.get hi
  rcases ho.2 with ⟨h2, _⟩ | ⟨g', c', cur, hv, _, hg, _⟩
  · simp at h2
  · simp only [Value.slice.injEq, Option.some.injEq, Addr.mk.injEq, and_true] at hv
    obtain ⟨rfl, _⟩ := hv
    simp [World.frozen?, hg]
theorem Rws.lt (h : Rws w0 w L) {i : Nat} {T : TypeId} {k n m g c : Nat} {xs : List Value} (hi : L[i]? = some ⟨T, k, .slice (some ⟨g, 0, none⟩) m c, n, xs⟩) : w0.heap.size ≤ g ∧ g < w.heap.size := (h.get hi).lt g rfl
theorem Rws.sl (h : Rws w0 w L) {α : Type} {enc : α → List Value} {i : Nat} {T : TypeId} {k n : Nat} {v : Value} {ys : List α} (hi : L[i]? = some ⟨T, k, v, n, ys.flatMap enc⟩) (hk : ∀ x, (enc x).length = k) (hn : n = ys.length) :
    ∃ a c b, v = .slice a ys.length c ∧ ys.length ≤ c ∧ c ≤ maxLen ∧ SlAt enc k w a b 0 ys ∧ (0 < ys.length → w0.heap.size ≤ b) := by
  subst hn
  exact slAt_own hk (h.get hi)
end
end Go.Proofs.YtffjcehopoaboaaGreatDoor
namespace Go.Proofs.YtffjcehopoaboaaGreatDoor
open Go.RowKit Pl
theorem flat_slice {α : Type} {enc : α → List Value} {k : Nat} {w : World} {a : Option Addr} {ad : Addr} {b off : Nat} {xs : List α} (hk : ∀ x, (enc x).length = k) (h1 : ∀ x, ∀ u ∈ enc x, u.oneCell' = true) (hS : SlAt enc k w a b off xs) (ha : a = some ad) :
    (∀ j u, (xs.flatMap enc)[j]? = some u → w.cell? (ad.add j) = some u) ∧ (∀ u ∈ xs.flatMap enc, u.oneCell' = true) ∧ (xs.flatMap enc).length = xs.length * k := by
  refine ⟨fun j u hu => ?_, fun u hu => ?_, length_flatMap hk xs⟩
  · have hp : 0 < xs.length := by
      rcases Nat.eq_zero_or_pos xs.length with h | h
      · rw [List.eq_nil_of_length_eq_zero h] at hu; simp at hu
      · exact h
    have had := hS.ad hp
    rw [ha] at had
    cases had
    exact slAt_flat hk hS j u hu
  · obtain ⟨y, _, hy⟩ := List.mem_flatMap.1 hu
    exact h1 y u hy
theorem wpList_appS {P : Program} {w : World} {ops : Array Oper} {rest : List Oper} {o : Oper} {a : Act} {Q : Exit → Act → World → Prop} (hgd : o.guard = none) (s x : Operand) (t : TypeId)
    (ho : o.op = .call { callee := .builtin .append, args := #[s, x], argTypes := #[t, t] })
    {e : TypeId} {size bytes : Nat} {z : Value} (R : IsRow P t e size bytes z) {base : Nat} (hb0 : base ≤ w.heap.size)
    {v : Value} {n : Nat} {xs : List Value} (hs : a.eval s = v) (hown : w.ownsRow base e size v n xs)
    {α : Type} {enc : α → List Value} {ys : List α} {sa : Option Addr} {b off c : Nat} (hk : ∀ x, (enc x).length = size) (h1 : ∀ x, ∀ u ∈ enc x, u.oneCell' = true) (hS : SlAt enc size w sa b off ys) (hx : a.eval x = .slice sa ys.length c)
    (hbytes : (n + ys.length) * bytes ≤ 140737488355328) (hmax : n + ys.length ≤ maxLen)
    (h : ∀ v' w', w'.ownsRow base e size v' (n + ys.length) (xs ++ ys.flatMap enc) → w.grownBy w' v.ownBlock → wpList P ops Q rest (a.put o.dst v') w') : wpList P ops Q (o :: rest) a w := by
  cases sa with
  | some ad =>
    obtain ⟨g1, g2, g3⟩ := flat_slice hk h1 hS rfl
    exact wpList_app (w0 := w) hgd s x t ho R (Below.refl base w) hb0 hs hown ad ys.length c _ hx g3 g1 g2 hbytes hmax (fun v' w' h2 _ h3 => h v' w' h2 h3)
  | none =>
    have h0 : ys = [] := by
      rcases Nat.eq_zero_or_pos ys.length with h | h
      · exact List.eq_nil_of_length_eq_zero h
      · have := hS.ad h; cases this
    subst h0
    obtain ⟨i, hi, _⟩ := R.info
    refine wpList_plain hgd fun K hK => ?_
    have hrun : (Builtin.append_ #[t, t] o.type #[v, .slice none 0 c]).run P w = .ok v w := by
      rcases hown.2 with ⟨rfl, rfl⟩ | ⟨g, cap, cur, rfl, _, _, hnc, _⟩
      · simp [Builtin.append_, run_underlying R.ht, sizeOf, typeInfo, hi, Builtin.lenOf, Builtin.firstCells]
      · simp [Builtin.append_, run_underlying R.ht, sizeOf, typeInfo, hi, Builtin.lenOf, Builtin.firstCells, hnc, storeCells]
    have hx' : a.eval x = .slice none 0 c := hx
    unfold Oper.wp
    simp [execOp, ho, resolve, invoke, builtin, hs, hx', hrun, Result.andThen]
    exact hK _ _ (h v w (by simpa using hown) ⟨rfl, rfl, rfl, Nat.le_refl _, fun _ _ _ => rfl⟩)
end Go.Proofs.YtffjcehopoaboaaGreatDoor

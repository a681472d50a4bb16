/-
  Lemmas.
-/
import Derived.Test.YtgikimbafakmcaaGreatDoorGSameInts
import Derived.Test.YtgikimbafakmcaaGreatDoorStrB
set_option maxHeartbeats 4000000
set_option maxRecDepth 100000
namespace Go.Proofs.YtgikimbafakmcaaGreatDoor
open Go.RowKit Pl
open Lib (hid)
theorem rowII : IsRow Tryz.prog 32 58 1 24 (.slice none 0 0) := isRow_of Tryz.underlying32 (by kernel_rfl) rfl (by decide)
section
variable {w0 w w' w1 w2 : World} {s : Lts} {K : PK} {S : SK} {n : Nat} {el pl inn : Nat -> Nat} {bl : List B3} {hp ga : Nat -> Nat} {sz : List Int} {tl : List Value} {rest : List Rw} {pb : Nat}
theorem SR.congr {hp' ga' : Nat -> Nat} (h1 : ∀ p, p < n -> hp p = hp' p) (h2 : ∀ p, p < n -> ga p = ga' p) : SR S pb n hp ga sz tl = SR S pb n hp' ga' sz tl := by
 unfold SR
 rw [flN_congr h1, flN_congr h2]
theorem Rws.sSetHp (h : Rws w0 w (SR S pb n hp ga sz tl ++ rest)) (j v : Nat) : Rws w0 (w.setCell ⟨S.hb, j, none⟩ (.int .i64 (v : Int))) (SR S pb n (upd hp j v) ga sz tl ++ rest) := by
 have := h.set 1 rfl j (.int .i64 (v : Int)); rw [flN_set] at this; exact this
theorem Rws.sSetGa (h : Rws w0 w (SR S pb n hp ga sz tl ++ rest)) (j v : Nat) : Rws w0 (w.setCell ⟨S.qb, j, none⟩ (.int .i64 (v : Int))) (SR S pb n hp (upd ga j v) sz tl ++ rest) := by
 have := h.set 2 rfl j (.int .i64 (v : Int)); rw [flN_set] at this; exact this
theorem Rws.sGrowT (h : Rws w0 w (SR S pb n hp ga sz tl ++ rest)) (hB2 : Below w.heap.size w w2) (x : Value) {g c : Nat} (ho : w1.ownsRow w0.heap.size 58 1 (.slice (some ⟨g, 0, none⟩) (tl.length + 1) c) (tl.length + 1) (tl.flatMap encV ++ [x]))
    (hg : w2.grownBy w1 (Value.slice S.ta tl.length S.tc).ownBlock) (hh : (Value.slice S.ta tl.length S.tc).ownBlock = some g ∨ w.heap.size <= g) :
    w1.cell? ⟨S.xb, 5, none⟩ = some (.slice S.ta tl.length S.tc) /\ w1.frozen? ⟨S.xb, 5, none⟩ = false /\ S.xb < w1.heap.size /\
      Rws w0 (w1.setCell ⟨S.xb, 5, none⟩ (.slice (some ⟨g, 0, none⟩) (tl.length + 1) c)) (SR { S with ta := some ⟨g, 0, none⟩, tc := c } pb n hp ga sz (tl ++ [x]) ++ rest) := by
 have hs := h.grown hB2 4 rfl ho hg (fun g' hg' => by simp only [Value.ownBlock, Option.some.injEq] at hg'; subst hg'; exact hh)
 have h2 := hs.set 0 rfl 5 (.slice (some ⟨g, 0, none⟩) (tl.length + 1) c)
 refine ⟨hs.cell (i := 0) rfl rfl, hs.fz (i := 0) rfl 5, (hs.lt (i := 0) rfl).2, ?_⟩
 have e : (tl ++ [x]).flatMap encV = tl.flatMap encV ++ [x] := by rw [List.flatMap_append]; rfl
 have e2 : (tl ++ [x]).length = tl.length + 1 := by simp
 unfold SR
 rw [e, e2]
 exact h2
theorem Rws.sGrowZ (h : Rws w0 w (SR S pb n hp ga sz tl ++ rest)) (hB2 : Below w.heap.size w w2) (x : Int) {g c : Nat} (ho : w1.ownsRow w0.heap.size 3 1 (.slice (some ⟨g, 0, none⟩) (sz.length + 1) c) (sz.length + 1) (sz.flatMap encI ++ [.int .i64 x]))
    (hg : w2.grownBy w1 (Value.slice S.sa sz.length S.sc).ownBlock) (hh : (Value.slice S.sa sz.length S.sc).ownBlock = some g ∨ w.heap.size <= g) :
    w1.cell? ⟨S.xb, 3, none⟩ = some (.slice S.sa sz.length S.sc) /\ w1.frozen? ⟨S.xb, 3, none⟩ = false /\ S.xb < w1.heap.size /\
      Rws w0 (w1.setCell ⟨S.xb, 3, none⟩ (.slice (some ⟨g, 0, none⟩) (sz.length + 1) c)) (SR { S with sa := some ⟨g, 0, none⟩, sc := c } pb n hp ga (sz ++ [x]) tl ++ rest) := by
 have hs := h.grown hB2 3 rfl ho hg (fun g' hg' => by simp only [Value.ownBlock, Option.some.injEq] at hg'; subst hg'; exact hh)
 have h2 := hs.set 0 rfl 3 (.slice (some ⟨g, 0, none⟩) (sz.length + 1) c)
 refine ⟨hs.cell (i := 0) rfl rfl, hs.fz (i := 0) rfl 3, (hs.lt (i := 0) rfl).2, ?_⟩
 have e : (sz ++ [x]).flatMap encI = sz.flatMap encI ++ [.int .i64 x] := by rw [List.flatMap_append]; rfl
 have e2 : (sz ++ [x]).length = sz.length + 1 := by simp
 unfold SR
 rw [e, e2]
 exact h2
theorem Rws.sSetSz {g : Nat} (h : Rws w0 w (SR S pb n hp ga sz tl ++ rest)) (hg : S.sa = some ⟨g, 0, none⟩) (j : Nat) (v : Int) : Rws w0 (w.setCell ⟨g, j, none⟩ (.int .i64 v)) (SR S pb n hp ga (sz.set j v) tl ++ rest) := by
 have h1 := h.set (g := g) 3 (by unfold SR; rw [hg]; rfl) j (.int .i64 v)
 have e : (sz.flatMap encI).set j (.int .i64 v) = (sz.set j v).flatMap encI := by rw [flatI, flatI, List.map_set]
 rw [e] at h1
 have e2 : SR S pb n hp ga (sz.set j v) tl ++ rest = (SR S pb n hp ga sz tl ++ rest).set 3 ⟨3, 1, .slice (some ⟨g, 0, none⟩) sz.length S.sc, sz.length, (sz.set j v).flatMap encI⟩ := by
   unfold SR; rw [List.length_set, hg]; rfl
 rw [e2]
 exact h1
theorem Rws.sSz (h : Rws w0 w (SR S pb n hp ga sz tl ++ rest)) {j : Nat} {v : Int} (hj : sz[j]? = some v) : ∃ g, S.sa = some ⟨g, 0, none⟩ /\ w.cell? ⟨g, j, none⟩ = some (.int .i64 v) /\ w.frozen? ⟨g, j, none⟩ = false /\ g < w.heap.size := by
 have hl := (List.getElem?_eq_some_iff.1 hj).1
 obtain ⟨g, c, hv, _, _, _, hgl⟩ := h.form (i := 3) rfl (by show 0 < sz.length; omega)
 have hv : Value.slice S.sa sz.length S.sc = .slice (some ⟨g, 0, none⟩) sz.length c := hv
 simp only [Value.slice.injEq, true_and] at hv
 have hi : (SR S pb n hp ga sz tl ++ rest)[3]? = some (⟨3, 1, .slice (some ⟨g, 0, none⟩) sz.length S.sc, sz.length, sz.flatMap encI⟩ : Rw) := by unfold SR; rw [hv.1]; rfl
 exact ⟨g, hv.1, h.cell hi (by rw [flatI, List.getElem?_map, hj]; rfl), h.fz hi j, hgl⟩
theorem Rws.sNewSz (h : Rws w0 w (SR S pb n hp ga sz tl ++ rest)) (x : Int) :
    Rws w0 ((w.setCell ⟨S.xb, 3, none⟩ (.slice (some ⟨w.heap.size, 0, none⟩) 1 1)).alloc (.cells #[.int .i64 x] 3)) (SR { S with sa := some ⟨w.heap.size, 0, none⟩, sc := 1 } pb n hp ga [x] tl ++ rest) := by
 have h1 := (h.set 0 rfl 3 (.slice (some ⟨w.heap.size, 0, none⟩) 1 1)).addLit #[.int .i64 x] 3 (k := 1) (n := 1) (by unfold maxLen; omega) rfl
 rw [size_setCell] at h1
 have h2 := h1.perm (List.perm_middle (l₁ := [_, _, _])).symm
 exact h2.sub (.cons_cons _ (.cons_cons _ (.cons_cons _ (.cons_cons _ (.cons _ (.refl _))))))
end
def gaK (ga : Nat -> Nat) (L : List Nat) (k : Nat) : Nat -> Nat := fun p => if p ∈ L.take k then ga p + 1 else ga p
theorem gaK_step {ga : Nat -> Nat} {L : List Nat} (hn : L.Nodup) {k t : Nat} (h : L[k]? = some t) : gaK ga L k t = ga t /\ upd (gaK ga L k) t (ga t + 1) = gaK ga L (k + 1) := by
 have hnt : t ∉ L.take k := fun hm => by (
 obtain ⟨j, hj, e⟩ := List.getElem_of_mem hm
 rw [List.getElem_take] at e
 rw [List.length_take] at hj
 have := nodup_at hn (i := j) (j := k) (x := t) (by rw [List.getElem?_eq_getElem (by omega), e]) h
 omega)
 refine ⟨if_neg hnt, ?_⟩
 funext p
 unfold upd gaK
 have hm : p ∈ L.take (k + 1) ↔ p ∈ L.take k ∨ p = t := by rw [take_snoc h]; simp
 by_cases e : p = t
 · subst e; rw [if_pos rfl, if_pos (hm.2 (.inr rfl))]
 · rw [if_neg e]
   by_cases e2 : p ∈ L.take k
   · rw [if_pos e2, if_pos (hm.2 (.inl e2))]
   · rw [if_neg e2, if_neg (fun h => by rcases hm.1 h with h | h <;> contradiction)]
section
variable {w0 w : World} {S : SK} {n pb : Nat} {hp ga : Nat -> Nat} {sz : List Int} {tl : List Value} {rest : List Rw}
def TookPost (w0 : World) (S : SK) (pb n : Nat) (hp ga : Nat -> Nat) (sz : List Int) (tl : List Value) (rest : List Rw) (L : List Nat) (v : Value) (e : Ending) (w' : World) : Prop :=
  e = .returned (.tuple #[]) /\ ∃ (ta : Option Addr) (tc : Nat), Rws w0 w' (SR { S with ta := ta, tc := tc } pb n hp (fun p => if p ∈ L then ga p + 1 else ga p) sz (tl ++ [v]) ++ rest)
theorem took_any (h : Rws w0 w (SR S pb n hp ga sz tl ++ rest)) {L : List Nat} (hL : ∀ t ∈ L, t < n) (hnd : L.Nodup) (hLl : L.length <= 1000) (hga : ∀ p, p < n -> ga p <= 1000000) (htl : tl.length <= 1000000) {ia : Option Addr} {ib io ic : Nat}
    (hI : ∀ w', Rws w0 w' rest -> SlAt encI 1 w' ia ib io (L.map Int.ofNat)) :
    Calls Tryz.prog 125 #[.pointer (some ⟨S.xb, 0, none⟩), .slice ia L.length ic] w (TookPost w0 S pb n hp ga sz tl rest L (.slice ia L.length ic)) := by
 have H := hid h; have HL := hid hL; have HND := hid hnd; have HGA := hid hga; have HI := hid hI
 obtain ⟨c0, c1, c2, c3, c4, c5, c6, xl⟩ := h.sCells
 have hown := hid ((h.alloc (.cells #[.slice ia L.length ic] 58)).get (i := 4) rfl)
 dsimp only at hown
 have HB := hid ((Below.refl w.heap.size w).alloc (Nat.le_refl _) (.cells #[.slice ia L.length ic] 58))
 have hlo := h.bel.size
 obtain ⟨ll, hll⟩ : ∃ ll, ll = L.length := ⟨_, rfl⟩
 rw [<- hll] at hLl hown HB ⊢
 obtain ⟨tt, htt⟩ : ∃ tt, tt = tl.length := ⟨_, rfl⟩
 have HG : Hid (∀ (w1 : World) (g c : Nat), w1.ownsRow w0.heap.size 58 1 (.slice (some ⟨g, 0, none⟩) (tt + 1) c) (tt + 1) (tl.flatMap encV ++ [.slice ia ll ic]) ->
     (w.alloc (.cells #[.slice ia ll ic] 58)).grownBy w1 (Value.slice S.ta tt S.tc).ownBlock -> ((Value.slice S.ta tt S.tc).ownBlock = some g ∨ w.heap.size <= g) ->
     w1.cell? ⟨S.xb, 5, none⟩ = some (.slice S.ta tt S.tc) /\ w1.frozen? ⟨S.xb, 5, none⟩ = false /\ S.xb < w1.heap.size /\
     Rws w0 (w1.setCell ⟨S.xb, 5, none⟩ (.slice (some ⟨g, 0, none⟩) (tt + 1) c)) (SR { S with ta := some ⟨g, 0, none⟩, tc := c } pb n hp ga sz (tl ++ [.slice ia ll ic]) ++ rest)) :=
   hid (fun w1 g c h1 h2 h3 => by subst htt; exact H.out.sGrowT HB.out _ h1 h2 h3)
 rw [<- htt] at c5 hown htl
 have HLL := hid hll
 clear h hL hnd hga hI c0 c1 c2 c3 c4 c6 hll htt HB H
 go_enter Tryz.func125, Tryz.ntmps125
 go_wp2_with (at_builtin; refine wpList_lie rfl _ _ _ rfl rowII (base := w0.heap.size) (by simp; omega) rfl hown.out ⟨w.heap.size, 0, none⟩ 1 1 [.slice ia ll ic] rfl rfl (cells1 (by simp [go_sem])) (by simp [Value.oneCell']) (by decide) (by omega) (by unfold maxLen; omega) w.heap.size (by simp) ?_; intro g cap w7 hown7 hg7 hl7 hlt7; obtain ⟨q0, q1, q2, q3⟩ := HG.out w7 g cap hown7 hg7 hl7)
 have HZ := hid q3
 obtain ⟨Z, hZ⟩ : ∃ Z, Z = w7.setCell ⟨S.xb, 5, none⟩ (.slice (some ⟨g, 0, none⟩) (tt + 1) cap) := ⟨_, rfl⟩
 rw [<- hZ] at HZ ⊢
 obtain ⟨S', hS'⟩ : ∃ S' : SK, S' = { S with ta := some ⟨g, 0, none⟩, tc := cap } := ⟨_, rfl⟩
 have e1 : S.xb = S'.xb := by rw [hS']
 have HS := hid hS'
 rw [<- hS'] at HZ
 rw [e1]
 clear q0 q1 q2 q3 hZ hown7 hg7 hl7 hlt7 hown HG c5 xl e1 hS'
 go_loopw [5, 20] (fun _ v20 wr => ∃ k : Nat, v20 = .int .i64 k /\ k <= ll /\ Rws w0 wr (SR S' pb n hp (gaK ga L k) sz (tl ++ [.slice ia ll ic]) ++ rest)) (fun _ v20 _ => ll - (intOf v20).toNat)
 case atStart => exact ⟨0, rfl, Nat.zero_le _, by rw [show gaK ga L 0 = ga from funext fun p => by simp [gaK]]; exact HZ.out⟩
 case round => (
 obtain ⟨k, rfl, hk, hrw⟩ := hrel
 have HR := hid hrw
 obtain ⟨c0, c1, c2, c3, c4, c5, c6, xl⟩ := hrw.sCells
 clear hrw HZ c0 c1 c2 c3 c4 c5
 by_cases hkl : k < ll
 · (
 obtain ⟨t, ht⟩ : ∃ t, L[k]? = some t := ⟨_, List.getElem?_eq_getElem (by have := HLL.out; omega)⟩
 have htn := HL.out t (List.mem_of_getElem? ht)
 obtain ⟨hg1, hg2⟩ := gaK_step (ga := ga) HND.out ht
 have hsl := HI.out wr (HR.out.sub (List.sublist_append_right _ _))
 have hpos : 0 < (L.map Int.ofNat).length := by rw [List.length_map]; have := HLL.out; omega
 obtain rfl := hsl.ad hpos
 have d0 := hsl.ci (i := k) (x := (t : Int)) (by rw [List.getElem?_map, ht]; rfl)
 have dl := hsl.lt hpos
 have d1 := HR.out.sGa htn
 rw [hg1] at d1
 have f1 := (HR.out.sFz t).2.2
 have l1 := HR.out.sLts.2
 have h2 := HR.out.sSetGa t (ga t + 1)
 rw [hg2] at h2
 have hgt := HGA.out t htn
 obtain ⟨gv, hgv⟩ : ∃ gv, gv = ga t := ⟨_, rfl⟩
 rw [<- hgv] at d1 h2 hgt
 have H2 := hid h2
 have hkI : (k : Int) < (ll : Int) := by omega
 have htI : (t : Int) < (n : Int) := by omega
 clear ht hg1 hg2 hsl hpos h2 hgv HR
 go_wp2_with fail
 go_roundw
 case rel => exact ⟨k + 1, by go_num, by omega, H2.out⟩
 case measure => simp [intOf]; omega)
 · (
 obtain rfl : k = ll := by omega
 go_wp2_with fail
 go_end0
 have hr := HR.out
 rw [HS.out] at hr
 refine ⟨rfl, some ⟨g, 0, none⟩, cap, ?_⟩
 have e : gaK ga L k = fun p => if p ∈ L then ga p + 1 else ga p := by
   unfold gaK; rw [HLL.out, List.take_length]
 rw [e] at hr
 exact hr))
end
end Go.Proofs.YtgikimbafakmcaaGreatDoor
namespace Go.Proofs.YtgikimbafakmcaaGreatDoor
open Go.RowKit Pl
open Lib (hid)
def blkOf : Option Addr -> Nat
  | some a => a.block
  | none => 0
section
variable {w0 w w1 w2 : World} {L A B C : List Rw} {r : Rw}
theorem Rws.slO (h : Rws w0 w L) {α : Type} {enc : α -> List Value} {i : Nat} {T : TypeId} {k n m c : Nat} {ra : Option Addr} {ys : List α} (hi : L[i]? = some ⟨T, k, .slice ra m c, n, ys.flatMap enc⟩) (hk : ∀ x, (enc x).length = k) (hn : n = ys.length) : SlAt enc k w ra (blkOf ra) 0 ys := by
 obtain ⟨a, c', b, hv, _, _, hs, _⟩ := h.sl hi hk hn
 simp only [Value.slice.injEq] at hv
 obtain ⟨rfl, _, _⟩ := hv
 rcases Nat.eq_zero_or_pos ys.length with h0 | h0
 · rw [List.eq_nil_of_length_eq_zero h0]; exact slAt_nil _ _ _ _
 · have := hs.ad h0
   subst this
   exact hs
theorem Rws.dig (h : Rws w0 w (r :: (A ++ (B ++ C)))) : Rws w0 w (A ++ (B ++ (r :: C))) := h.perm (by
  refine (List.perm_middle (l₁ := A)).symm.trans (List.Perm.append_left A ?_)
  exact (List.perm_middle (l₁ := B)).symm)
theorem Rws.headGrow {a : Option Addr} {m c : Nat} {ys : List Int} {x : Int} (h : Rws w0 w (⟨3, 1, .slice a m c, m, ys.flatMap encI⟩ :: L)) (hB2 : Below w.heap.size w w2) {g c' : Nat} (ho : w1.ownsRow w0.heap.size 3 1 (.slice (some ⟨g, 0, none⟩) (m + 1) c') (m + 1) (ys.flatMap encI ++ [.int .i64 x]))
    (hg : w2.grownBy w1 (Value.slice a m c).ownBlock) (hh : (Value.slice a m c).ownBlock = some g ∨ w.heap.size <= g) : Rws w0 w1 (⟨3, 1, .slice (some ⟨g, 0, none⟩) (m + 1) c', m + 1, (ys ++ [x]).flatMap encI⟩ :: L) := by
 have hs := h.grown hB2 0 rfl ho hg (fun g' hg' => by simp only [Value.ownBlock, Option.some.injEq] at hg'; subst hg'; exact hh)
 have e : (ys ++ [x]).flatMap encI = ys.flatMap encI ++ [.int .i64 x] := by rw [List.flatMap_append]; rfl
 rw [e]
 exact hs
end
section
variable {w0 w : World} {s : Lts} {K : PK} {S : SK} {n : Nat} {el pl inn : Nat -> Nat} {bl : List B3} {hp ga : Nat -> Nat} {sz : List Int} {tl : List Value} {rest : List Rw}
def BeginPost (w0 : World) (s : Lts) (K : PK) (S : SK) (n : Nat) (inn hp ga : Nat -> Nat) (tl : List Value) (rest : List Rw) (e : Ending) (w' : World) : Prop :=
  e = .returned (.tuple #[]) /\ ∃ (K' : PK) (S' : SK) (el' pl' inn' : Nat -> Nat) (bl' : List B3) (aa : Option Addr) (ac : Nat),
    SW w0 w' s K' S' n el' pl' inn' bl' hp (fun p => if p ∈ List.range n then ga p + 1 else ga p) [(n : Int)] (tl ++ [.slice aa n ac]) (⟨3, 1, .slice aa n ac, n, (flN n id).flatMap encI⟩ :: rest) /\
    K'.pb = K.pb /\ S'.xb = S.xb /\ (∀ z, z < n -> ¬ Mkd pl' inn' bl' z) /\ SplitBy s n (· ∈ List.range n) inn inn'
theorem begin_any (h : SW w0 w s K S n el pl inn bl hp ga sz tl rest) (hun : ∀ z, z < n -> ¬ Mkd pl inn bl z) (hga : ∀ p, p < n -> ga p <= 1000000) (htl : tl.length <= 1000000) :
    Calls Tryz.prog 109 #[.pointer (some ⟨S.xb, 0, none⟩)] w (BeginPost w0 s K S n inn hp ga tl rest) := by
 have H := hid h; have HUN := hid hun; have HGA := hid hga
 have hn1 := h.par.n1
 obtain ⟨c0, c1, c2, c3, c4, c5, c6, xl⟩ := h.run.sCells
 have H0 := hid (h.par.rws.addNil 3 1)
 clear h hun hga c0 c1 c3 c4 c5 c6
 go_enter Tryz.func109, Tryz.ntmps109
 go_wp2_with fail
 clear c2
 go_loopw [2, 3, 9] (fun v2 _ v9 wr => ∃ (k : Nat) (aa : Option Addr) (ac : Nat), v9 = .int .i64 k /\ v2 = .slice aa k ac /\ k <= n /\ Rws w0 wr (⟨3, 1, .slice aa k ac, k, (flN k id).flatMap encI⟩ :: (PR K n el pl inn bl ++ (SR S K.pb n hp ga sz tl ++ rest)))) (fun _ _ v9 _ => n - (intOf v9).toNat)
 case atStart => exact ⟨0, none, 0, rfl, rfl, Nat.zero_le _, H0.out⟩
 case round => (
 obtain ⟨k, aa, ac, rfl, rfl, hk, hrw⟩ := hrel
 have HR := hid hrw
 clear hrw H0
 by_cases hkn : k < n
 · (
 have hkI : (k : Int) < (n : Int) := by omega
 have hown0 := (HR.out.alloc (.cells #[.int .i64 (k : Int)] 3)).get (i := 0) rfl
 dsimp only at hown0
 have HOWN := hid hown0
 have HB := hid ((Below.refl wr.heap.size wr).alloc (Nat.le_refl _) (.cells #[.int .i64 (k : Int)] 3))
 have hlo := HR.out.bel.size
 have HSU := hid (flN_succ k id)
 clear hown0
 go_wp2_with (at_builtin; refine wpList_lie rfl _ _ _ rfl rowI (base := w0.heap.size) (by simp; omega) rfl HOWN.out ⟨wr.heap.size, 0, none⟩ 1 1 [.int .i64 (k : Int)] rfl rfl (cells1 (by simp [go_sem])) (by simp [Value.oneCell']) (by decide) (by omega) (by unfold maxLen; omega) wr.heap.size (by simp) ?_; intro g cap w7 hown7 hg7 hl7 hlt7)
 have hz := HR.out.headGrow HB.out hown7 hg7 hl7
 rw [show flN k id ++ [(k : Int)] = flN (k + 1) id from HSU.out.symm] at hz
 have HZ := hid hz
 clear hz hown7 hg7 hl7 hlt7 hlo HOWN HB HR HSU
 go_roundw
 case rel => exact ⟨k + 1, _, _, by go_num, rfl, by omega, HZ.out⟩
 case measure => simp [intOf]; omega)
 · (
 obtain rfl : k = n := by omega
 have hswap : Rws w0 wr (SR S K.pb k hp ga sz tl ++ ((⟨3, 1, .slice aa k ac, k, (flN k id).flatMap encI⟩ :: PR K k el pl inn bl) ++ rest)) := Rws.swap (A := ⟨3, 1, .slice aa k ac, k, (flN k id).flatMap encI⟩ :: PR K k el pl inn bl) HR.out
 have hlr : ((List.range k).map Int.ofNat) = flN k id := rfl
 have hT := took_any hswap (L := List.range k) (fun t ht => by simpa using ht) List.nodup_range (by simpa using hn1) HGA.out htl (ia := aa) (ib := blkOf aa) (io := 0) (ic := ac)
   (fun w' hw => by rw [hlr]; exact hw.slO (i := 0) rfl lenI (flN_len k id).symm)
 rw [List.length_range] at hT
 have HT := hid hT
 clear hswap hlr hT HR
 go_wp2_with fail
 refine HT.out.mono ?_
 unfold TookPost
 rintro e w2 ⟨rfl, ta, tc, hr2⟩
 have hc2 := hr2.sCells
 have x3 := hc2.2.2.2.1
 have xl2 := hc2.2.2.2.2.2.2.2
 have xf := (hr2.sFz 3).1
 have h3 := hr2.sNewSz (k : Int)
 simp only at x3 xl2 xf h3
 have h4 : Rws w0 ((w2.setCell ⟨S.xb, 3, none⟩ (.slice (some ⟨w2.heap.size, 0, none⟩) 1 1)).alloc (.cells #[.int .i64 (k : Int)] 3)) (PR K k el pl inn bl ++ (SR { S with ta := ta, tc := tc, sa := some ⟨w2.heap.size, 0, none⟩, sc := 1 } K.pb k hp (fun p => if p ∈ List.range k then ga p + 1 else ga p) [(k : Int)] (tl ++ [.slice aa k ac]) ++ (⟨3, 1, .slice aa k ac, k, (flN k id).flatMap encI⟩ :: rest))) :=
   Rws.dig (Rws.swap (B := ⟨3, 1, .slice aa k ac, k, (flN k id).flatMap encI⟩ :: PR K k el pl inn bl) h3)
 have hsw : SW w0 ((w2.setCell ⟨S.xb, 3, none⟩ (.slice (some ⟨w2.heap.size, 0, none⟩) 1 1)).alloc (.cells #[.int .i64 (k : Int)] 3)) s K { S with ta := ta, tc := tc, sa := some ⟨w2.heap.size, 0, none⟩, sc := 1 } k el pl inn bl hp (fun p => if p ∈ List.range k then ga p + 1 else ga p) [(k : Int)] (tl ++ [.slice aa k ac]) (⟨3, 1, .slice aa k ac, k, (flN k id).flatMap encI⟩ :: rest) :=
   ⟨⟨h4, H.out.par.pi, hn1⟩, H.out.gr, H.out.st⟩
 have hlr : ((List.range k).map Int.ofNat) = flN k id := rfl
 have hS := strSplit_any hsw HUN.out (L := List.range k) (fun t ht => by simpa using ht) (by simpa using hn1) (ia := aa) (ib := blkOf aa) (io := 0) (ic := ac)
   (fun w' hw => by rw [hlr]; exact hw.slO (i := 0) rfl lenI (flN_len k id).symm)
 rw [List.length_range] at hS
 have HS := hid hS
 clear hr2 hc2 h3 h4 hsw hlr hS HT
 go_wp2_with fail
 refine HS.out.mono ?_
 unfold StrSplit
 rintro e w3 ⟨rfl, K', el', pl', inn', bl', hsw, hpb, hu, hsb⟩
 have HSW := hid hsw; have HPB := hid hpb; have HU := hid hu; have HSB := hid hsb
 clear hsw hpb hu hsb HS x3 xl2 xf
 go_wp2_with fail
 go_end0
 exact ⟨rfl, K', _, el', pl', inn', bl', aa, ac, HSW.out, HPB.out, rfl, HU.out, HSB.out⟩))
end
end Go.Proofs.YtgikimbafakmcaaGreatDoor

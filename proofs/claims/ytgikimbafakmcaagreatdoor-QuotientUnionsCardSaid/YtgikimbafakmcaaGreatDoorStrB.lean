/-
  Lemmas.
-/
import Derived.Test.YtgikimbafakmcaaGreatDoorGLaidQun
import Derived.Test.YtgikimbafakmcaaGreatDoorGSameInts
import Derived.Deep.RegionHeld3
import Derived.Outline
open List renaming getElem_toArray -> qga, getElem_cons_zero -> qgz, getElem_cons_succ -> qgs, setIfInBounds_toArray -> qgt, set_cons_zero -> qgx, set_cons_succ -> qgy
namespace Go.Proofs.YtgikimbafakmcaaGreatDoor
open Go.RowKit Pl
open Lib (hid)
namespace Pl
def SplitK (s : Lts) (n : Nat) (L : List Nat) (inn inn' : Nat -> Nat) (k : Nat) : Prop :=
  ∀ p q, p < n -> q < n -> (inn' p = inn' q ↔ inn p = inn q /\ ∀ l : Nat, l < k -> (((p : Nat) : Int) ∈ withL (l : Int) (stepsTo s L) ↔ ((q : Nat) : Int) ∈ withL (l : Int) (stepsTo s L)))
theorem SplitK.zero (s : Lts) (n : Nat) (L : List Nat) (inn : Nat -> Nat) : SplitK s n L inn inn 0 := fun p q _ _ => by
  constructor
  · intro h; exact ⟨h, fun l hl => by omega⟩
  · intro h; exact h.1
theorem SplitK.succ {s : Lts} {n : Nat} {L : List Nat} {inn inn1 inn2 : Nat -> Nat} {k : Nat} (h : SplitK s n L inn inn1 k)
    (h2 : ∀ p q, p < n -> q < n -> (inn2 p = inn2 q ↔ inn1 p = inn1 q /\ (((p : Nat) : Int) ∈ withL (k : Int) (stepsTo s L) ↔ ((q : Nat) : Int) ∈ withL (k : Int) (stepsTo s L)))) : SplitK s n L inn inn2 (k + 1) := fun p q hp hq => by
  rw [h2 p q hp hq, h p q hp hq]
  constructor
  · rintro ⟨⟨h3, h4⟩, h5⟩
    refine ⟨h3, fun l hl => ?_⟩
    by_cases e : l = k
    · subst e; exact h5
    · exact h4 l (by omega)
  · rintro ⟨h3, h4⟩
    exact ⟨⟨h3, fun l hl => h4 l (by omega)⟩, h4 k (by omega)⟩
theorem SplitK.done {s : Lts} (hr : s.Right) {n : Nat} (hn : s.st = (n : Int)) {L : List Nat} (hL : ∀ t ∈ L, t < n) {inn inn' : Nat -> Nat} {m : Nat} (hm : s.lb = (m : Int)) (h : SplitK s n L inn inn' m) : SplitBy s n (· ∈ L) inn inn' := fun p q hp hq => by
  rw [h p q hp hq]
  constructor
  · rintro ⟨h1, h2⟩
    refine ⟨h1, fun l => ?_⟩
    rw [<- mem_stepsTo hL, <- mem_stepsTo hL]
    by_cases hl : 0 <= l /\ l < s.lb
    · obtain ⟨k, rfl⟩ := Int.eq_ofNat_of_zero_le hl.1
      exact h2 k (by omega)
    · constructor
      · intro h3; have := stepsTo_rng hr hn (mem_withL.1 h3); exact absurd ⟨this.1, this.2.1⟩ hl
      · intro h3; have := stepsTo_rng hr hn (mem_withL.1 h3); exact absurd ⟨this.1, this.2.1⟩ hl
  · rintro ⟨h1, h2⟩
    exact ⟨h1, fun l _ => by rw [mem_stepsTo hL, mem_stepsTo hL]; exact h2 l⟩
end Pl
def StrSplit (w0 : World) (s : Lts) (K : PK) (S : SK) (n : Nat) (inn hp ga : Nat -> Nat) (sz : List Int) (tl : List Value) (rest : List Rw) (L : List Nat) (e : Ending) (w' : World) : Prop :=
  e = .returned (.tuple #[]) /\ ∃ (K' : PK) (el' pl' inn' : Nat -> Nat) (bl' : List B3), SW w0 w' s K' S n el' pl' inn' bl' hp ga sz tl rest /\ K'.pb = K.pb /\ (∀ z, z < n -> ¬ Mkd pl' inn' bl' z) /\ SplitBy s n (· ∈ L) inn inn'
section
variable {w0 w : World} {s : Lts} {K : PK} {S : SK} {n : Nat} {el pl inn : Nat -> Nat} {bl : List B3} {hp ga : Nat -> Nat} {sz : List Int} {tl : List Value} {rest : List Rw}
set_option maxRecDepth 100000 in
set_option maxHeartbeats 8000000 in
theorem strSplit_any (h : SW w0 w s K S n el pl inn bl hp ga sz tl rest) (hun : ∀ z, z < n -> ¬ Mkd pl inn bl z) {L : List Nat} (hL : ∀ t ∈ L, t < n) (hLl : L.length <= 1000) {ia : Option Addr} {ib io ic : Nat}
    (hI : ∀ w', Rws w0 w' rest -> SlAt encI 1 w' ia ib io (L.map Int.ofNat)) :
    Calls Tryz.prog 126 #[.pointer (some ⟨S.xb, 0, none⟩), .slice ia L.length ic] w (StrSplit w0 s K S n inn hp ga sz tl rest L) := by
 have H := hid h; have HUN := hid hun; have HL := hid hL; have HI := hid hI
 have hr := h.gr.right
 have hst := hr.st0
 have hn := h.st
 have hn1 := h.par.n1
 obtain ⟨m, hm⟩ : ∃ m : Nat, s.lb = (m : Int) := ⟨s.lb.toNat, by omega⟩
 have hm1 : m <= 201 := by omega
 have HR := hid hr; have HN := hid hn; have HM := hid hm
 have hmk := run_make_row' (P := Tryz.prog) 32 58 (.slice none 0 0) 24 Tryz.underlying32 (by kernel_rfl) rfl .i64 .i64 m (by omega) (by omega)
 have hlab := getLabels_any (h.gr.below h.par.rws.bel)
 rw [hm] at hlab
 have HLAB := hid hlab
 obtain ⟨c0, c1, c2, c3, c4, c5, c6, xl⟩ := h.run.sCells
 obtain ⟨ll, hll⟩ : ∃ ll, ll = L.length := ⟨_, rfl⟩
 rw [<- hll] at hLl ⊢
 have HLL := hid hll
 clear h hun hL hI hr hst hn hm hlab c1 c2 c3 c4 c5 c6 hll
 go_enter Tryz.func126, Tryz.ntmps126
 go_wp2_with fail
 refine HLAB.out.mono ?_
 rintro e w1 ⟨rfl, hB1⟩
 have h1 := (H.out.par.rws.call hB1).frMade (m := m) (by unfold maxLen; omega)
 have H1 := hid h1
 obtain ⟨ob, hob⟩ : ∃ ob, ob = w1.heap.size := ⟨_, rfl⟩
 rw [<- hob] at H1
 clear h1 hB1 c0 xl HLAB
 go_upto_region 1 with fail
 obtain ⟨V, hV⟩ : ∃ V, V = w1.alloc (.cells (madeCells #[.slice none 0 0] m) 58) := ⟨_, rfl⟩
 rw [<- hV] at H1 ⊢
 rw [<- hob]
 clear hV hob hmk
 go_wp2_with fail
 go_loopw [6, 8, 23] (fun _ _ v23 wr => ∃ (i : Nat) (vs : Nat -> Value), v23 = .int .i64 i /\ i <= ll /\ Rws w0 wr (FR ob m vs (fun l : Nat => withL (l : Int) (stepsTo s (L.take i))) ++ (PR K n el pl inn bl ++ (SR S K.pb n hp ga sz tl ++ rest)))) (fun _ _ v23 _ => ll - (intOf v23).toNat)
 case atStart => exact ⟨0, _, rfl, Nat.zero_le _, H1.out⟩
 case round => (
 obtain ⟨i, vs, rfl, hi, hrw⟩ := hrel
 have HRW := hid hrw
 clear hrw H1
 by_cases hil : i < ll
 · (
 obtain ⟨t, ht⟩ : ∃ t, L[i]? = some t := ⟨_, List.getElem?_eq_getElem (by have := HLL.out; omega)⟩
 have hsl := HI.out wr (HRW.out.sub ((List.sublist_append_right _ _).trans ((List.sublist_append_right _ _).trans (List.sublist_append_right _ _))))
 have hp0 : 0 < (L.map Int.ofNat).length := by rw [List.length_map]; have := HLL.out; omega
 obtain rfl := hsl.ad hp0
 have d0 := hsl.ci (i := i) (x := (t : Int)) (by rw [List.getElem?_map, ht]; rfl)
 have dl := hsl.lt hp0
 obtain ⟨c0, c1, c2, c3, c4, c5, c6, xl⟩ := (HRW.out.sub ((List.sublist_append_right _ _).trans (List.sublist_append_right _ _))).sCells
 have hilI : (i : Int) < (ll : Int) := by omega
 have HT := hid ht
 have HBK := hid (back_any H.out.gr HRW.out.bel (t : Int))
 clear hsl hp0 ht c1 c2 c3 c4 c5 c6
 go_wp2_with fail
 refine HBK.out.mono ?_
 rintro e w2 ⟨⟨ta, tcc, tb, tof, rfl, hc1, hc2, hts⟩, hB2⟩
 have HRW2 := hid (HRW.out.call hB2)
 have HTS := hid hts
 have hsn := hid (stepsTo_snoc s HT.out)
 have hsl := hid (show (stepsTo s (L.take i)).length <= 10000000 by (
 have := stepsTo_len HR.out (L.take i)
 rw [List.length_take] at this
 have h2 : min i L.length * 10000 <= 1000 * 10000 := Nat.mul_le_mul_right _ (by omega)
 omega))
 have hTl : (s.ins (t : Int)).length <= 10000 := ins_len HR.out _
 have hTm := hid (fun (y : Int × Int) (hy : y ∈ s.ins (t : Int)) => offB_false.1 (HR.out.edges _ (mem_inS.1 hy)))
 obtain ⟨M, hM⟩ : ∃ M, M = stepsTo s (L.take i) := ⟨_, rfl⟩
 obtain ⟨T, hT⟩ : ∃ T, T = s.ins (t : Int) := ⟨_, rfl⟩
 rw [<- hM, <- hT] at hsn
 rw [<- hM] at HRW2 hsl
 rw [<- hT] at HTS hTl hTm ⊢
 have hsl2 := hsl.out
 clear hts hB2 hM hT HRW HBK d0 dl c0 xl hc1 hc2
 go_wp2_with fail
 go_loopw [8, 34] (fun _ v34 wr => ∃ (k : Nat) (vs : Nat -> Value), v34 = .int .i64 k /\ k <= T.length /\ Rws w0 wr (FR ob m vs (fun l : Nat => withL (l : Int) (M ++ T.take k)) ++ (PR K n el pl inn bl ++ (SR S K.pb n hp ga sz tl ++ rest)))) (fun _ v34 _ => T.length - (intOf v34).toNat)
 case atStart => exact ⟨0, vs, rfl, Nat.zero_le _, by rw [List.take_zero, List.append_nil]; exact HRW2.out⟩
 case round => (
 obtain ⟨k, vs, rfl, hk, hrw⟩ := hrel
 have HRX := hid hrw
 clear hrw HRW2
 by_cases hkl : k < T.length
 · (
 obtain ⟨y, hy⟩ := getElem?_of_lt hkl
 have hss := HTS.out.below HRX.out.bel (Nat.le_refl _)
 obtain rfl := hss.ad (by omega)
 have e0 := hss.s0 hy; have e1 := hss.s1 hy
 have dl := hss.lt (by omega)
 have hyr := hTm.out y (List.mem_of_getElem? hy)
 have hmI := HM.out
 obtain ⟨y1, y2⟩ := y
 simp only at hyr e0 e1
 obtain ⟨lN, rfl⟩ := Int.eq_ofNat_of_zero_le hyr.2.2.1
 obtain ⟨tN, rfl⟩ := Int.eq_ofNat_of_zero_le hyr.1
 have hlm : lN < m := by omega
 have hlmI : (lN : Int) < (m : Int) := by omega
 have hkI : (k : Int) < (T.length : Int) := by omega
 have HYK := hid (take_snoc hy)
 clear hss hyr hmI hy
 go_upto_region 7 with fail
 have HRY := hid (HRX.out.alloc (.cells #[.int .i64 (lN : Int), .int .i64 (tN : Int)] 129))
 have f0 := heap_alloc_new wr (.cells #[.int .i64 (lN : Int), .int .i64 (tN : Int)] 129)
 obtain ⟨sb, hsb⟩ : ∃ sb, sb = wr.heap.size := ⟨_, rfl⟩
 have sbn : ∀ (v : Value), wr.ownsRow w0.heap.size 3 1 v ((withL (lN : Int) (M ++ T.take k))).length ((withL (lN : Int) (M ++ T.take k)).flatMap encI) -> some sb ≠ v.ownBlock := fun v hv e => by have := (hv.lt sb e.symm).2; omega
 have nL : some sb ≠ (vs lN).ownBlock := sbn _ (HRX.out.frOwn hlm)
 have hobw := (HRX.out.frCell hlm).2.2.1
 have mL : sb ≠ ob := by omega
 have hybig : sb < (wr.alloc (.cells #[.int .i64 (lN : Int), .int .i64 (tN : Int)] 129)).heap.size := by simp; omega
 obtain ⟨Y, hY⟩ : ∃ Y, Y = wr.alloc (.cells #[.int .i64 (lN : Int), .int .i64 (tN : Int)] 129) := ⟨_, rfl⟩
 rw [<- hY] at HRY f0 hybig ⊢
 rw [<- hsb] at f0 ⊢
 have s0 : Y.cell? ⟨sb, 0, none⟩ = some (.int .i64 (lN : Int)) := by simp [World.cell?, f0]
 have s1 : Y.cell? ⟨sb, 1, none⟩ = some (.int .i64 (tN : Int)) := by simp [World.cell?, f0]
 obtain ⟨q0, q1, q2, q3⟩ := HRY.out.frCell hlm
 have hown0 := (HRY.out.alloc (.cells #[.int .i64 (tN : Int)] 3)).drew.frOwn hlm
 have hwl := withL_len (M ++ T.take k) (lN : Int)
 have hwl2 : (withL (lN : Int) (M ++ T.take k)).length <= 20000000 := by
   rw [List.length_append, List.length_take] at hwl; omega
 have hgo : ∀ (w8 : World) (g cap : Nat), w8.ownsRow w0.heap.size 3 1 (.slice (some ⟨g, 0, none⟩) ((withL (lN : Int) (M ++ T.take k)).length + 1) cap) ((withL (lN : Int) (M ++ T.take k)).length + 1) ((withL (lN : Int) (M ++ T.take k)).flatMap encI ++ [.int .i64 (tN : Int)]) ->
     ((Y.alloc (.cells #[.int .i64 (tN : Int)] 3)).drew).grownBy w8 (vs lN).ownBlock -> ((vs lN).ownBlock = some g ∨ Y.heap.size <= g) ->
     w8.cell? ⟨ob, lN, none⟩ = some (vs lN) /\ w8.frozen? ⟨ob, lN, none⟩ = false /\ ob < w8.heap.size /\ Rws w0 (w8.setCell ⟨ob, lN, none⟩ (.slice (some ⟨g, 0, none⟩) ((withL (lN : Int) (M ++ T.take k)).length + 1) cap)) (FR ob m (upd vs lN (.slice (some ⟨g, 0, none⟩) ((withL (lN : Int) (M ++ T.take k)).length + 1) cap)) (fun l : Nat => withL (l : Int) (M ++ T.take (k + 1))) ++ (PR K n el pl inn bl ++ (SR S K.pb n hp ga sz tl ++ rest))) := fun w8 g cap ho hg hl => by
   have h2 := HRY.out.frGrow (((Below.refl Y.heap.size Y).alloc (Nat.le_refl _) _).drew) hlm (v' := .slice (some ⟨g, 0, none⟩) ((withL (lN : Int) (M ++ T.take k)).length + 1) cap) (ys := withL (lN : Int) (M ++ T.take k) ++ [(tN : Int)]) (by rw [List.length_append, List.flatMap_append]; exact ho) hg (fun g' hg' => by simp only [Value.ownBlock, Option.some.injEq] at hg'; subst hg'; exact hl)
   rw [withL_upd, List.append_assoc, <- HYK.out] at h2
   exact h2
 have HGO := hid hgo
 have HOWN := hid hown0
 have hlo := HRY.out.bel.size
 obtain ⟨v, hv⟩ : ∃ v, v = vs lN := ⟨_, rfl⟩
 rw [<- hv] at HGO HOWN q0 nL
 obtain ⟨wl, hwl3⟩ : ∃ wl, wl = (withL (lN : Int) (M ++ T.take k)).length := ⟨_, rfl⟩
 rw [<- hwl3] at HGO HOWN hwl2
 clear hY hsb f0 sbn hgo hown0 hwl hv hwl3 HRX HRY e0 e1 dl
 go_wp2_with fail
 refine wp_region_held_drew (S := (fun w' => w'.cell? ⟨sb, 0, none⟩ = some (.int .i64 (lN : Int)) /\ w'.cell? ⟨sb, 1, none⟩ = some (.int .i64 (tN : Int)))) (by kernel_rfl) (by (try dsimp only); (first | go_keep | (go_split_ands; exact ⟨by rw [hg8.cell_far _ (by simp; omega) nL]; assumption, by rw [hg8.cell_far _ (by simp; omega) nL]; assumption⟩) | (go_split_ands; exact ⟨by rw [cell_oth _ _ mL]; assumption, by rw [cell_oth _ _ mL]; assumption⟩))) (fun hHeld => ?_)
 refine qT 0 (v := ?_) ?_ ?_
 rotate_left
 · intro w hSw; (try dsimp only at hSw); go_simp; try with_reducible rfl
 try simp only [qga, qgz, Act.put, qgt, qgx, qgy]
 refine qT 1 (v := ?_) ?_ ?_
 rotate_left
 · intro w hSw; (try dsimp only at hSw); go_simp; try with_reducible rfl
 try simp only [qga, qgz, qgs, Act.put, qgt, qgx, qgy]
 refine qT 2 (v := ?_) ?_ ?_
 rotate_left
 · intro w hSw; (try dsimp only at hSw); go_simp; try with_reducible rfl
 try simp only [qga, qgz, qgs, Act.put, qgt, qgx, qgy]
 refine qT 3 (v := ?_) ?_ ?_
 rotate_left
 · intro w hSw; (try dsimp only at hSw); go_simp; try with_reducible rfl
 try simp only [qga, qgz, qgs, Act.put, qgt, qgx, qgy]
 refine qT 4 (v := ?_) ?_ ?_
 rotate_left
 · intro w hSw; (try dsimp only at hSw); go_simp; try with_reducible rfl
 try simp only [qga, qgz, qgs, Act.put, qgt, qgx, qgy]
 refine qT 5 (v := ?_) ?_ ?_
 rotate_left
 · intro w hSw; (try dsimp only at hSw); go_simp; try with_reducible rfl
 try simp only [qga, qgz, qgs, Act.put, qgt, qgx, qgy]
 refine qT 6 (v := ?_) ?_ ?_
 rotate_left
 · intro w hSw; (try dsimp only at hSw); go_simp; try with_reducible rfl
 try simp only [qga, qgz, qgs, Act.put, qgt, qgx, qgy]
 refine qT 8 (v := ?_) ?_ ?_
 rotate_left
 · intro w hSw; (try dsimp only at hSw); go_simp; try with_reducible rfl
 try simp only [qga, qgz, qgs, Act.put, qgt, qgx, qgy]
 refine qT 9 (v := ?_) ?_ ?_
 rotate_left
 · intro w hSw; (try dsimp only at hSw); go_simp; try with_reducible rfl
 try simp only [qga, qgz, qgs, Act.put, qgt, qgx, qgy]
 refine wpAnyH_ready (rs := [7, 10]) (by kernel_rfl) (by simp) ?_
 refine AllReadyH.cons rfl (fun K hK => ?_) (AllReadyH.cons rfl (fun K hK => ?_) AllReadyH.nil)
 go_simp
 refine hK.out _ _ (by (try dsimp only); (first | go_keep | (go_split_ands; exact ⟨by rw [hg8.cell_far _ (by simp; omega) nL]; assumption, by rw [hg8.cell_far _ (by simp; omega) nL]; assumption⟩) | (go_split_ands; exact ⟨by rw [cell_oth _ _ mL]; assumption, by rw [cell_oth _ _ mL]; assumption⟩))) (fun hHeld => ?_)
 clear hK K
 try simp only [qga, qgz, qgs, Act.put, qgt, qgx, qgy]
 refine wpAnyH_ready (rs := [10]) (by kernel_rfl) (by simp) ?_
 refine AllReadyH.cons rfl (fun K hK => ?_) AllReadyH.nil
 go_simp
 refine hK.out _ _ (by (try dsimp only); (first | go_keep | (go_split_ands; exact ⟨by rw [hg8.cell_far _ (by simp; omega) nL]; assumption, by rw [hg8.cell_far _ (by simp; omega) nL]; assumption⟩) | (go_split_ands; exact ⟨by rw [cell_oth _ _ mL]; assumption, by rw [cell_oth _ _ mL]; assumption⟩))) (fun hHeld => ?_)
 clear hK K
 try simp only [qga, qgz, qgs, Act.put, qgt, qgx, qgy]
 refine wpAnyH_ready (rs := [11]) (by kernel_rfl) (by simp) ?_
 refine AllReadyH.cons rfl (fun K hK => ?_) AllReadyH.nil
 (refine step_lie rfl _ _ _ (by rfl) rowI (base := w0.heap.size) (by simp; omega) (by rfl) HOWN.out ⟨Y.heap.size, 0, none⟩ 1 1 [.int .i64 (tN : Int)] (by rfl) (by rfl) (cells1 (by simp [go_sem])) (by simp [Value.oneCell']) (by decide) (by omega) (by unfold maxLen; omega) Y.heap.size (by simp) ?_; intro g cap w8 hown8 hg8 hl8 hlt8; have kp := HGO.out w8 g cap hown8 hg8 hl8; have kp0 := kp.1; have kp1 := kp.2.1; have kp2 := kp.2.2.1; have KP := hid kp.2.2.2; clear kp)
 refine hK.out _ _ (by (try dsimp only); (first | go_keep | (go_split_ands; exact ⟨by rw [hg8.cell_far _ (by simp; omega) nL]; assumption, by rw [hg8.cell_far _ (by simp; omega) nL]; assumption⟩) | (go_split_ands; exact ⟨by rw [cell_oth _ _ mL]; assumption, by rw [cell_oth _ _ mL]; assumption⟩))) (fun hHeld => ?_)
 clear hK K
 try simp only [qga, qgz, qgs, Act.put, qgt, qgx, qgy]
 refine qT 12 (v := ?_) ?_ ?_
 rotate_left
 · intro w hSw; (try dsimp only at hSw); go_simp; try with_reducible rfl
 try simp only [qga, qgz, qgs, Act.put, qgt, qgx, qgy]
 refine wpAnyH_ready (rs := [13]) (by kernel_rfl) (by simp) ?_
 refine AllReadyH.cons rfl (fun K hK => ?_) AllReadyH.nil
 go_simp
 refine hK.out _ _ (by (try dsimp only); (first | go_keep | (go_split_ands; exact ⟨by rw [hg8.cell_far _ (by simp; omega) nL]; assumption, by rw [hg8.cell_far _ (by simp; omega) nL]; assumption⟩) | (go_split_ands; exact ⟨by rw [cell_oth _ _ mL]; assumption, by rw [cell_oth _ _ mL]; assumption⟩))) (fun hHeld => ?_)
 clear hK K
 try simp only [qga, qgz, qgs, Act.put, qgt, qgx, qgy]
 refine wpAnyH_done (by kernel_rfl) ?_ _
 rotate_left
 go_simp
 refine hK.out _ _ (by (try dsimp only); (first | go_keep | (go_split_ands; exact ⟨by rw [hg8.cell_far _ (by simp; omega) nL]; assumption, by rw [hg8.cell_far _ (by simp; omega) nL]; assumption⟩) | (go_split_ands; exact ⟨by rw [cell_oth _ _ mL]; assumption, by rw [cell_oth _ _ mL]; assumption⟩))) (fun hHeld => ?_)
 clear hK K
 try simp only [qga, qgz, qgs, Act.put, qgt, qgx, qgy]
 refine wpAnyH_ready (rs := [7]) (by kernel_rfl) (by simp) ?_
 refine AllReadyH.cons rfl (fun K hK => ?_) AllReadyH.nil
 go_simp
 refine hK.out _ _ (by (try dsimp only); (first | go_keep | (go_split_ands; exact ⟨by rw [hg8.cell_far _ (by simp; omega) nL]; assumption, by rw [hg8.cell_far _ (by simp; omega) nL]; assumption⟩) | (go_split_ands; exact ⟨by rw [cell_oth _ _ mL]; assumption, by rw [cell_oth _ _ mL]; assumption⟩))) (fun hHeld => ?_)
 clear hK K
 try simp only [qga, qgz, qgs, Act.put, qgt, qgx, qgy]
 refine wpAnyH_ready (rs := [11]) (by kernel_rfl) (by simp) ?_
 refine AllReadyH.cons rfl (fun K hK => ?_) AllReadyH.nil
 (refine step_lie rfl _ _ _ (by rfl) rowI (base := w0.heap.size) (by simp; omega) (by rfl) HOWN.out ⟨Y.heap.size, 0, none⟩ 1 1 [.int .i64 (tN : Int)] (by rfl) (by rfl) (cells1 (by simp [go_sem])) (by simp [Value.oneCell']) (by decide) (by omega) (by unfold maxLen; omega) Y.heap.size (by simp) ?_; intro g cap w8 hown8 hg8 hl8 hlt8; have kp := HGO.out w8 g cap hown8 hg8 hl8; have kp0 := kp.1; have kp1 := kp.2.1; have kp2 := kp.2.2.1; have KP := hid kp.2.2.2; clear kp)
 refine hK.out _ _ (by (try dsimp only); (first | go_keep | (go_split_ands; exact ⟨by rw [hg8.cell_far _ (by simp; omega) nL]; assumption, by rw [hg8.cell_far _ (by simp; omega) nL]; assumption⟩) | (go_split_ands; exact ⟨by rw [cell_oth _ _ mL]; assumption, by rw [cell_oth _ _ mL]; assumption⟩))) (fun hHeld => ?_)
 clear hK K
 try simp only [qga, qgz, qgs, Act.put, qgt, qgx, qgy]
 refine qT 12 (v := ?_) ?_ ?_
 rotate_left
 · intro w hSw; (try dsimp only at hSw); go_simp; try with_reducible rfl
 try simp only [qga, qgz, qgs, Act.put, qgt, qgx, qgy]
 refine wpAnyH_ready (rs := [13]) (by kernel_rfl) (by simp) ?_
 refine AllReadyH.cons rfl (fun K hK => ?_) AllReadyH.nil
 go_simp
 refine hK.out _ _ (by (try dsimp only); (first | go_keep | (go_split_ands; exact ⟨by rw [hg8.cell_far _ (by simp; omega) nL]; assumption, by rw [hg8.cell_far _ (by simp; omega) nL]; assumption⟩) | (go_split_ands; exact ⟨by rw [cell_oth _ _ mL]; assumption, by rw [cell_oth _ _ mL]; assumption⟩))) (fun hHeld => ?_)
 clear hK K
 try simp only [qga, qgz, qgs, Act.put, qgt, qgx, qgy]
 refine wpAnyH_done (by kernel_rfl) ?_ _
 all_goals (
 clear q0 q1 q2 q3 kp0 kp1 kp2 hown8 hg8 hl8 hlt8 s0 s1 nL mL HGO HOWN hHeld hybig hobw hlo
 go_wp2_with fail
 go_roundw
 case rel => exact ⟨k + 1, _, by go_num, by omega, KP.out⟩
 case measure => simp [intOf]; omega))
 · (
 have hkT : T.take k = T := List.take_of_length_le (by omega)
 have hfin : Rws w0 wr (FR ob m vs (fun l : Nat => withL (l : Int) (stepsTo s (L.take (i + 1)))) ++ (PR K n el pl inn bl ++ (SR S K.pb n hp ga sz tl ++ rest))) := by (
 have := HRX.out
 rw [hkT, <- hsn.out] at this
 exact this)
 have HF := hid hfin
 have hkI : ¬ (k : Int) < (T.length : Int) := by omega
 clear hkT hfin HRX
 go_wp2_with fail
 go_roundw
 case rel => exact ⟨i + 1, vs, by go_num, by omega, HF.out⟩
 case measure => simp [intOf]; omega)))
 · (
 obtain rfl : i = ll := by omega
 have hswap := HRW.out.swap
 rw [List.take_of_length_le (by have := HLL.out; omega)] at hswap
 have hinit : PW w0 wr K n el pl inn bl (FR ob m vs (fun l : Nat => withL (l : Int) (stepsTo s L)) ++ (SR S K.pb n hp ga sz tl ++ rest)) := ⟨hswap, H.out.par.pi, hn1⟩
 have HF := hid hinit
 have FRNG : Hid (∀ (l : Nat) (j : Nat) (z : Int), (withL (l : Int) (stepsTo s L))[j]? = some z -> ∃ p : Nat, p < n /\ z = (p : Int)) := hid (fun l j z hz => (stepsTo_rng HR.out HN.out (mem_withL.1 (List.mem_of_getElem? hz))).2.2)
 have FLEN : Hid (∀ l : Nat, (withL (l : Int) (stepsTo s L)).length <= 10000000) := hid (fun l => by (
 have h1 := withL_len (stepsTo s L) (l : Int)
 have h2 := stepsTo_len HR.out L
 have h3 : L.length * 10000 <= 1000 * 10000 := Nat.mul_le_mul_right _ (by have := HLL.out; omega)
 omega))
 have SK0 := hid (SplitK.zero s n L inn)
 have SKS : Hid (∀ (inn1 inn2 : Nat -> Nat) (k : Nat), SplitK s n L inn inn1 k -> (∀ p q, p < n -> q < n -> (inn2 p = inn2 q ↔ inn1 p = inn1 q /\ (((p : Nat) : Int) ∈ withL (k : Int) (stepsTo s L) ↔ ((q : Nat) : Int) ∈ withL (k : Int) (stepsTo s L)))) -> SplitK s n L inn inn2 (k + 1)) := hid (fun _ _ _ h1 h2 => h1.succ h2)
 have SKD : Hid (∀ inn', SplitK s n L inn inn' m -> SplitBy s n (· ∈ L) inn inn') := hid (fun _ h => SplitK.done HR.out HN.out HL.out HM.out h)
 obtain ⟨F, hF⟩ : ∃ F : Nat -> List Int, F = fun l : Nat => withL (l : Int) (stepsTo s L) := ⟨_, rfl⟩
 have FE : Hid (∀ l : Nat, F l = withL (l : Int) (stepsTo s L)) := hid (fun l => by rw [hF])
 rw [<- hF] at HF
 clear hswap HRW hinit hF
 go_wp2_with fail
 go_loopw [10, 12, 14, 55] (fun _ _ _ v55 wr => ∃ (l : Nat) (K' : PK) (el' pl' inn' : Nat -> Nat) (bl' : List B3), v55 = .int .i64 l /\ l <= m /\ PW w0 wr K' n el' pl' inn' bl' (FR ob m vs F ++ (SR S K.pb n hp ga sz tl ++ rest)) /\ K'.pb = K.pb /\ (∀ z, z < n -> ¬ Mkd pl' inn' bl' z) /\ SplitK s n L inn inn' l) (fun _ _ _ v55 _ => m - (intOf v55).toNat)
 case atStart => exact ⟨0, K, el, pl, inn, bl, rfl, Nat.zero_le _, HF.out, rfl, HUN.out, SK0.out⟩
 case round => (
 obtain ⟨l, K', el', pl', inn', bl', rfl, hl, hpw, hkpb, hun', hsk⟩ := hrel
 have HPW := hid hpw; have HKP := hid hkpb; have HUN' := hid hun'; have HSK := hid hsk
 clear hpw hkpb hun' hsk HF SK0 HUN
 by_cases hlm : l < m
 · (
 have hfr := HPW.out.rws.sub (List.sublist_append_right _ _)
 obtain ⟨c0, _, cl, _⟩ := hfr.frCell hlm
 obtain ⟨xa, xc, xb0, hxv, _, _, _, _⟩ := slAt_own lenI (hfr.frOwn hlm)
 have HXV := hid hxv
 rw [hxv] at c0
 have hxl := FLEN.out l
 rw [<- FE.out] at hxl
 have HXS : Hid (∀ W, Rws w0 W (FR ob m vs F ++ (SR S K.pb n hp ga sz tl ++ rest)) -> ∃ xb1, SlAt encI 1 W xa xb1 0 (F l)) := hid (fun W hW => by (
 obtain ⟨a2, c2, b2, hv2, _, _, hs2, _⟩ := slAt_own lenI (hW.frOwn hlm)
 rw [hxv] at hv2
 simp only [Value.slice.injEq] at hv2
 obtain ⟨rfl, _, _⟩ := hv2
 exact ⟨b2, hs2⟩))
 have HXR : Hid (∀ (j : Nat) (z : Int), (F l)[j]? = some z -> ∃ p : Nat, p < n /\ z = (p : Int)) := hid (fun j z hz => FRNG.out l j z (by rw [<- FE.out]; exact hz))
 have SKS1 : Hid (∀ inn2 : Nat -> Nat, (∀ p q, p < n -> q < n -> (inn2 p = inn2 q ↔ inn' p = inn' q /\ (((p : Nat) : Int) ∈ F l ↔ ((q : Nat) : Int) ∈ F l))) -> SplitK s n L inn inn2 (l + 1)) := hid (fun inn2 h2 => SKS.out inn' inn2 l HSK.out (fun p q hp hq => by rw [h2 p q hp hq, FE.out]))
 obtain ⟨X, hX⟩ : ∃ X, X = F l := ⟨_, rfl⟩
 rw [<- hX] at c0 hxl HXS HXR SKS1
 have hlI : (l : Int) < (m : Int) := by omega
 clear hfr hxv hX
 by_cases hx0 : X.length = 0
 · (
 have hxb : ((X.length : Int) == 0) = true := by simp [hx0]
 have hsk2 := SKS1.out inn' (fun p q _ _ => by
   have : X = [] := List.eq_nil_of_length_eq_zero hx0
   rw [this]; simp)
 have HSK2 := hid hsk2
 clear hx0 hsk2 SKS1 HXS HXR
 go_wp2_with fail
 go_roundw
 case rel => exact ⟨l + 1, K', el', pl', inn', bl', by go_num, by omega, HPW.out, HKP.out, HUN'.out, HSK2.out⟩
 case measure => simp [intOf]; omega)
 · (
 have hxb : ((X.length : Int) == 0) = false := by simp [hx0]
 have hx0p : 0 < X.length := by omega
 clear hx0
 go_wp2_with fail
 clear c0 cl
 go_loopw [12, 64] (fun _ v64 wr => ∃ (j : Nat) (el1 pl1 : Nat -> Nat) (bl1 : List B3), v64 = .int .i64 j /\ j <= X.length /\ PW w0 wr K' n el1 pl1 inn' bl1 (FR ob m vs F ++ (SR S K.pb n hp ga sz tl ++ rest)) /\ ∀ z, z < n -> (Mkd pl1 inn' bl1 z ↔ ((z : Nat) : Int) ∈ X.take j)) (fun _ v64 _ => X.length - (intOf v64).toNat)
 case atStart => exact ⟨0, el', pl', bl', rfl, Nat.zero_le _, HPW.out, fun z hz => ⟨fun h => absurd h (HUN'.out z hz), fun h => by simp at h⟩⟩
 case round => (
 obtain ⟨j, el1, pl1, bl1, rfl, hj, hp1, hm1⟩ := hrel
 have HP1 := hid hp1; have HM1 := hid hm1
 have hrun := hp1.rws.sub ((List.sublist_append_right _ _).trans (List.sublist_append_right _ _))
 obtain ⟨_, x1, _, _, _, _, _, xl⟩ := hrun.sCells
 clear hp1 hm1 hrun HPW HUN'
 by_cases hjx : j < X.length
 · (
 obtain ⟨z, hz⟩ := getElem?_of_lt hjx
 obtain ⟨xb1, hsl⟩ := HXS.out wr (HP1.out.rws.sub (List.sublist_append_right _ _))
 obtain ⟨p, hpn, rfl⟩ := HXR.out j z hz
 obtain rfl := hsl.ad (by omega)
 have d0 := hsl.ci hz
 have dl := hsl.lt (by omega)
 simp only [Nat.zero_add] at d0
 have hmk := mark_any HP1.out hpn
 rw [HKP.out] at hmk
 have HMK := hid hmk
 have HTK := hid (take_snoc hz)
 have hjI : (j : Int) < (X.length : Int) := by omega
 clear hsl hz hmk
 go_wp2_with fail
 refine HMK.out.mono ?_
 unfold MarkPost
 rintro e w2 ⟨mm, el2, pl2, bl2, rfl, hp2, _, hm2⟩
 have HP2 := hid hp2
 have HM2 : Hid (∀ z, z < n -> (Mkd pl2 inn' bl2 z ↔ ((z : Nat) : Int) ∈ X.take (j + 1))) := hid (fun z hz => by (
 rw [hm2 z hz, HM1.out z hz, HTK.out, List.mem_append, List.mem_singleton]
 constructor
 · rintro (h | h)
   · exact .inl h
   · exact .inr (by omega)
 · rintro (h | h)
   · exact .inl h
   · exact .inr (by omega)))
 clear hp2 hm2 HMK d0 dl x1 xl HP1 HM1
 go_wp2_with fail
 go_roundw
 case rel => exact ⟨j + 1, el2, pl2, bl2, by go_num, by omega, HP2.out, HM2.out⟩
 case measure => simp [intOf]; omega)
 · (
 obtain rfl : j = X.length := by omega
 have hmd := marked_any HP1.out
 rw [HKP.out] at hmd
 have HMD := hid hmd
 have hm2 := HM1.out
 rw [List.take_length] at hm2
 have HM2 := hid hm2
 obtain ⟨ms, hms⟩ : ∃ ms, ms = mkB bl1 bl1.length := ⟨_, rfl⟩
 rw [<- hms] at HMD
 have hmsl : ms.length <= 1000 := by (
 rw [hms]
 have h1 := mkB_len bl1 bl1.length
 have h2 := HP1.out.pi.few
 omega)
 have hnd : ms.Nodup := by rw [hms]; exact mkB_nodup _ _
 have hmb : ∀ b ∈ ms, b < bl1.length := fun b hb => by rw [hms] at hb; exact mkB_lt hb
 have hms2 : ∀ p, p < n -> ((p : Nat) : Int) ∈ X -> inn' p ∈ ms := fun p hp hx => by rw [hms]; exact HP1.out.pi.mkB hp ((hm2 p hp).2 hx)
 have HND := hid hnd; have HMB := hid hmb; have HMS2 := hid hms2
 clear hmd hm2 hms hnd hmb hms2 HM1 HXS HXR
 go_wp2_with fail
 refine HMD.out.mono ?_
 unfold OwnI
 rintro e w2 ⟨v, rfl, hown, hB2⟩
 have hadd := (HP1.out.rws.add hB2 hown).perm (List.perm_middle (l₁ := PR K' n el1 pl1 inn' bl1)).symm
 have hP5 : PW w0 w2 K' n el1 pl1 inn' bl1 (⟨3, 1, v, (ms.map Int.ofNat).length, (ms.map Int.ofNat).flatMap encI⟩ :: (FR ob m vs F ++ (SR S K.pb n hp ga sz tl ++ rest))) := ⟨hadd, HP1.out.pi, hn1⟩
 obtain ⟨ma, mc, mb, hvm, _, _, _, _⟩ := slAt_own lenI hown
 subst hvm
 have HP5 := hid hP5
 have SI0 := hid (SI.start (inn := inn') (pl := pl1) (bl := bl1) (X := fun p => ((p : Nat) : Int) ∈ X) HM2.out HMB.out)
 obtain ⟨ml, hml⟩ : ∃ ml, ml = (ms.map Int.ofNat).length := ⟨_, rfl⟩
 have hml2 : ml = ms.length := by rw [hml, List.length_map]
 have HML2 := hid hml2
 have hml3 : ml <= 1000 := by omega
 rw [<- hml] at HP5 ⊢
 clear hown hB2 hadd hP5 hml hml2 HMD x1 xl
 go_wp2_with fail
 go_loopw [14, 81] (fun _ v81 wr => ∃ (j : Nat) (K2 : PK) (inn2 : Nat -> Nat) (bl2 : List B3), v81 = .int .i64 j /\ j <= ml /\ PW w0 wr K2 n el1 pl1 inn2 bl2 (⟨3, 1, .slice ma ml mc, ml, (ms.map Int.ofNat).flatMap encI⟩ :: (FR ob m vs F ++ (SR S K.pb n hp ga sz tl ++ rest))) /\ K2.pb = K.pb /\ SI n (fun p => ((p : Nat) : Int) ∈ X) inn' pl1 inn2 bl2 ms j) (fun _ v81 _ => ml - (intOf v81).toNat)
 case atStart => exact ⟨0, K', inn', bl1, rfl, Nat.zero_le _, HP5.out, HKP.out, SI0.out⟩
 case round => (
 obtain ⟨j, K2, inn2, bl2, rfl, hj2, hp6, hk6, hsi⟩ := hrel
 have HP6 := hid hp6; have HK6 := hid hk6; have HSI := hid hsi
 have hrun := hp6.rws.sub ((List.sublist_append_right _ _).trans ((List.sublist_cons_self _ _).trans (List.sublist_append_right _ _)))
 obtain ⟨_, x1, _, _, _, _, _, xl⟩ := hrun.sCells
 clear hp6 hk6 hsi hrun HP5 SI0 HP1
 by_cases hjm : j < ml
 · (
 obtain ⟨b, hb⟩ : ∃ b, ms[j]? = some b := ⟨_, List.getElem?_eq_getElem (by have := HML2.out; omega)⟩
 obtain ⟨a3, c3, b3, hv3, _, _, hsl, _⟩ := HP6.out.rws.sl (i := 5) (ys := ms.map Int.ofNat) rfl lenI (by rw [HML2.out, List.length_map])
 simp only [Value.slice.injEq] at hv3
 obtain ⟨rfl, hz1, hz2⟩ := hv3
 clear hz1 hz2
 have hpos : 0 < (ms.map Int.ofNat).length := by rw [List.length_map]; have := HML2.out; omega
 obtain rfl := hsl.ad hpos
 have d0 := hsl.ci (i := j) (x := (b : Int)) (by rw [List.getElem?_map, hb]; rfl)
 have dl := hsl.lt hpos
 simp only [Nat.zero_add] at d0
 have hsp := parSplit_any HP6.out (HSI.out.rest j b (Nat.le_refl _) hb).1
 rw [HK6.out] at hsp
 have HSP := hid hsp; have HB := hid hb
 have hjI : (j : Int) < (ml : Int) := by omega
 clear hsl hpos hb hsp
 go_wp2_with fail
 refine HSP.out.mono ?_
 unfold SplitPost
 rintro e w3 ⟨K3, inn3, bl3, v1, v2, rfl, hp7, hspl, hk7⟩
 have HP7 := hid hp7
 have HSI7 := hid (HSI.out.step HP6.out.pi HND.out HB.out hspl)
 have HK7 := hid (hk7.trans HK6.out)
 clear hp7 hspl hk7 HSP d0 dl x1 xl HP6 HSI
 go_wp2_with fail
 go_roundw
 case rel => exact ⟨j + 1, K3, inn3, bl3, by go_num, by omega, HP7.out, HK7.out, HSI7.out⟩
 case measure => simp [intOf]; omega)
 · (
 have hje : j = ms.length := by have := HML2.out; omega
 have hsi := HSI.out
 rw [hje] at hsi
 obtain ⟨hd1, hd2⟩ := hsi.done HMS2.out
 have HSK2 := hid (SKS1.out inn2 hd1)
 have HUN2 := hid hd2
 have HP8 : Hid (PW w0 wr K2 n el1 pl1 inn2 bl2 (FR ob m vs F ++ (SR S K.pb n hp ga sz tl ++ rest))) := hid ⟨HP6.out.rws.sub ((List.Sublist.refl _).append (List.sublist_cons_self _ _)), HP6.out.pi, hn1⟩
 have hjI : ¬ (j : Int) < (ml : Int) := by omega
 clear hje hsi hd1 hd2 x1 xl
 go_wp2_with fail
 go_roundw
 case rel => exact ⟨l + 1, K2, el1, pl1, inn2, bl2, by go_num, by omega, HP8.out, HK6.out, HUN2.out, HSK2.out⟩
 case measure => simp [intOf]; omega))))))
 · (
 obtain rfl : l = m := by omega
 have hsb := SKD.out inn' HSK.out
 have hfin : SW w0 wr s K' S n el' pl' inn' bl' hp ga sz tl rest := ⟨⟨by
   rw [HKP.out]
   exact HPW.out.rws.sub ((List.Sublist.refl _).append (List.sublist_append_right _ _)), HPW.out.pi, hn1⟩, H.out.gr, HN.out⟩
 have HFIN := hid hfin; have HSB := hid hsb
 clear hsb hfin
 go_wp2_with fail
 go_end0
 exact ⟨rfl, K', el', pl', inn', bl', HFIN.out, HKP.out, HUN'.out, HSB.out⟩))))
end
end Go.Proofs.YtgikimbafakmcaaGreatDoor

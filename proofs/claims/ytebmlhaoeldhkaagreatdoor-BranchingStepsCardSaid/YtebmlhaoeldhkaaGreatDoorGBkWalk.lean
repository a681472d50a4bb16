/-
 Lemmas.
-/
import Derived.Test.YtebmlhaoeldhkaaGreatDoorGBkQ
import Derived.Test.YtebmlhaoeldhkaaGreatDoorGRefReach
import Derived.Test.YtebmlhaoeldhkaaGreatDoorGPl3
namespace Go.Proofs.YtebmlhaoeldhkaaGreatDoor
open Go.RowKit Pl
open Lib (hid)
def wRowsS (n : Nat) (vs : Nat -> Value) (f : Nat -> List S) : List Rw := (List.range n).map (fun p => ⟨117, 2, vs p, (f p).length, (f p).flatMap encS⟩)
def wOuterS (tb n : Nat) (vs : Nat -> Value) : Rw := ⟨78, 1, .slice (some ⟨tb, 0, none⟩) n n, n, (List.range n).map vs⟩
theorem wRowsS_drop {n : Nat} {vs : Nat -> Value} {f : Nat -> List S} {i : Nat} (hi : i < n) : (wRowsS n vs f).drop i = ⟨117, 2, vs i, (f i).length, (f i).flatMap encS⟩ :: (wRowsS n vs f).drop (i + 1) := by
 unfold wRowsS
 rw [List.drop_eq_getElem_cons (by simpa using hi)]
 simp
set_option maxRecDepth 100000 in
set_option maxHeartbeats 4000000 in
theorem Bk.walk {w0 w : World} {bb tb n : Nat} {Z R : List Rw} {vs : Nat -> Value} {f : Nat -> List S} (h : Bk w0 w bb Z (wRowsS n vs f ++ wOuterS tb n vs :: R)) (hn : n <= 100000) (hf : ∀ p, p < n -> (f p).length <= 500000) :
   Calls Tryz.prog 28 #[.pointer (some ⟨bb, 0, none⟩), .slice (some ⟨tb, 0, none⟩) n n] w fun e w' => e = .returned (.tuple #[]) /\ ∃ Z', Bk w0 w' bb Z' R /\ ∀ z ∈ Z, z ∈ Z' := by
 have HBK := hid h; have HF := hid hf
 clear h hf
 go_enter Tryz.func28, Tryz.ntmps28
 go_wp2_with fail
 go_loopw [4] (fun v4 wr => ∃ (i : Nat) (Zi : List Rw), v4 = .int .i64 i /\ i <= n /\ Bk w0 wr bb Zi ((wRowsS n vs f).drop i ++ wOuterS tb n vs :: R) /\ (∀ z ∈ Z, z ∈ Zi) /\ (∀ j, j < i -> (⟨117, 2, vs j, (f j).length, (f j).flatMap encS⟩ : Rw) ∈ Zi)) (fun v4 _ => n - (intOf v4).toNat)
 case atStart => exact ⟨0, Z, rfl, Nat.zero_le _, by simpa using HBK.out, fun z hz => hz, fun j hj => by omega⟩
 case round =>
   obtain ⟨i, Zi, rfl, hi, hbk, hz, hj⟩ := hrel
   replace HBK := hid hbk; have HZ := hid hz; have HJ := hid hj
   clear hz hj
   by_cases hin : i < n
   · have hiI : (i : Int) < (n : Int) := by omega
     have ho := hbk.own (r := wOuterS tb n vs) (.inr (by simp))
     obtain ⟨a1, c1, hv1, hc1⟩ : ∃ g cur, (some (⟨tb, 0, none⟩ : Addr) = some ⟨g, 0, none⟩ /\ wr.heap[g]? = some (.cells cur 78 (0, 0))) /\ (cur.toList.take (n * 1)) = (List.range n).map vs := by
       rcases ho.2 with ⟨e, _⟩ | ⟨g, cap, cur, e, _, hh, _, _, _, ht⟩
       · simp [wOuterS] at e
       · simp only [wOuterS, Value.slice.injEq] at e
         exact ⟨g, cur, ⟨e.1, hh⟩, by simpa [wOuterS] using ht⟩
     have hg : a1 = tb := by have := hv1.1; simp at this; exact this.symm
     subst hg
     have c0 : wr.cell? ⟨a1, i, none⟩ = some (vs i) := by
       have h2 : c1[i]? = some (vs i) := by
         have h3 : (c1.toList.take (n * 1))[i]? = some (vs i) := by rw [hc1]; simp [hin]
         rw [List.getElem?_take, if_pos (by omega)] at h3
         simpa using h3
       simp [World.cell?, hv1.2, h2]
     have cl := (Array.getElem?_eq_some_iff.1 hv1.2).1
     rw [wRowsS_drop hin] at hbk
     replace HBK := hid hbk
     clear ho hv1 hc1 hbk
     go_wp2_with fail
     refine (Bk.giveS (R := (wRowsS n vs f).drop (i + 1) ++ wOuterS a1 n vs :: R) HBK.out rfl rfl (HF.out i hin)).mono ?_
     rintro e w2 ⟨rfl, hbk⟩
     replace HBK := hid hbk
     clear hbk c0 cl
     go_wp2_with fail
     go_roundw
     case rel => exact ⟨i + 1, _, by go_num, by omega, HBK.out, fun z hz => List.mem_cons_of_mem _ (HZ.out z hz), fun j hj => by
       rcases Nat.eq_or_lt_of_le (show j <= i by omega) with e | e
       · subst e; exact List.mem_cons_self ..
       · exact List.mem_cons_of_mem _ (HJ.out j e)⟩
     case measure => simp [intOf]; omega
   · obtain rfl : n = i := by omega
     have hdr : (wRowsS n vs f).drop n = [] := List.drop_eq_nil_of_le (by unfold wRowsS; simp)
     rw [hdr, List.nil_append] at hbk
     have hgv := Bk.giveW (R := R) hbk (by omega) (fun x hx => by
       obtain ⟨j, hj, rfl⟩ := List.mem_map.1 hx
       have hjn := List.mem_range.1 hj
       exact ⟨_, HJ.out j hjn, rfl, rfl, rfl, f j, HF.out j hjn, rfl, rfl⟩)
     have HGV := hid hgv
     clear hdr hgv hbk
     go_wp2_with fail
     refine HGV.out.mono ?_
     rintro e w2 ⟨rfl, hbk⟩
     have HB2 := hid hbk
     clear hbk
     go_wp2_with fail
     first
       | (go_end0; exact ⟨rfl, _, HB2.out, fun z hz => List.mem_cons_of_mem _ (HZ.out z hz)⟩)
       | (refine bodyPost_end0 ?_; exact ⟨rfl, _, HB2.out, fun z hz => List.mem_cons_of_mem _ (HZ.out z hz)⟩)
end Go.Proofs.YtebmlhaoeldhkaaGreatDoor
namespace Go.Proofs.YtebmlhaoeldhkaaGreatDoor
open Go.RowKit Pl
theorem OwnRows.rws {w w' : World} {base tb n : Nat} {F : Nat -> List S} (h : OwnRows encS 2 117 78 w' base tb n F) (hB : Below w.heap.size w w') (htb : w.heap.size <= tb) (hn : n <= 100000) :
   ∃ vs, Rws w w' (wRowsS n vs F ++ [wOuterS tb n vs]) /\ w'.rowIs tb 78 n vs /\ ∀ p, p < n -> w'.ownsRow w.heap.size 117 2 (vs p) (F p).length ((F p).flatMap encS) := by
 obtain ⟨vs, h1, h2, h3⟩ := h.ex
 have hlt := h.lt
 have ho : ∀ p, p < n -> w'.ownsRow w.heap.size 117 2 (vs p) (F p).length ((F p).flatMap encS) := fun p hp => own_mono (h2 p hp) (by omega)
 refine ⟨vs, ⟨hB, fun r hr => ?_, ?_⟩, h1, ho⟩
 · rcases List.mem_append.1 hr with hr | hr
   · obtain ⟨p, hp, rfl⟩ := List.mem_map.1 hr
     exact ho p (List.mem_range.1 hp)
   · simp only [List.mem_singleton] at hr
     subst hr
     exact own_ofRow h1 htb (by unfold maxLen; omega)
 · rw [List.pairwise_append]
   refine ⟨?_, List.pairwise_singleton _ _, fun a ha b hb g hg => ?_⟩
   · unfold wRowsS
     rw [List.pairwise_map]
     refine List.Pairwise.imp_of_mem ?_ List.pairwise_lt_range
     intro p q hp hq hpq g hg
     exact h3 p q g (List.mem_range.1 hp) (List.mem_range.1 hq) (by omega) hg
   · obtain ⟨p, hp, rfl⟩ := List.mem_map.1 ha
     simp only [List.mem_singleton] at hb
     subst hb
     have := ((h2 p (List.mem_range.1 hp)).lt g hg).1
     simp only [wOuterS, Value.ownBlock, ne_eq, Option.some.injEq]
     omega
theorem rowV_sl {w : World} {tb n : Nat} {T : TypeId} {vs : Nat -> Value} (h : w.rowIs tb T n vs) : SlAt encV 1 w (some ⟨tb, 0, none⟩) tb 0 ((List.range n).map vs) where
 ad _ := rfl
 lt _ := h.lt
 cell i x hx j u hu := by
   rw [List.getElem?_map] at hx
   by_cases hi : i < n
   · rw [List.getElem?_range hi] at hx
     simp only [Option.map_some, Option.some.injEq] at hx
     subst hx
     have hj : j = 0 := by
       by_cases e : j = 0
       · exact e
       · simp [encV, e] at hu
     subst hj
     simp only [encV, List.getElem?_cons_zero, Option.some.injEq] at hu
     subst hu
     rw [Nat.zero_add, Nat.mul_one, Nat.add_zero]
     exact h.cell hi
   · rw [List.getElem?_eq_none (by simp; omega)] at hx; simp at hx
theorem rowB_own {w : World} {zb n base : Nat} {f : Nat -> Bool} (h : w.rowIs zb 4 n (fun j => .bool (f j))) (hb : base <= zb) (hn : n <= 100000) : w.ownsRow base 4 1 (.slice (some ⟨zb, 0, none⟩) n n) n (((List.range n).map f).flatMap encB) := by
 have h1 := own_ofRow h hb (by unfold maxLen; omega)
 have e : (List.range n).map (fun j => Value.bool (f j)) = ((List.range n).map f).flatMap encB := by
   clear h1 h
   induction (List.range n) with
   | nil => rfl
   | cons x l ih => rw [List.map_cons, List.map_cons, List.flatMap_cons, ih]; rfl
 rw [<- e]
 exact h1
theorem fl_getD12 {n : Nat} {L : List Int} (h : L.length = n) : L = fl n (fun p => L.getD p 0) := by
 apply List.ext_getElem?
 intro i
 unfold fl
 rw [List.getElem?_map]
 by_cases hi : i < n
 · rw [List.getElem?_range hi, List.getElem?_eq_getElem (by omega)]
   simp [List.getD_eq_getElem?_getD, List.getElem?_eq_getElem (show i < L.length by omega)]
 · rw [List.getElem?_eq_none (by omega), List.getElem?_eq_none (by simp; omega)]; rfl
end Go.Proofs.YtebmlhaoeldhkaaGreatDoor

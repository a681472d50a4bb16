/-
 Lemmas.
-/
import Derived.Test.YtebmlhaoeldhkaaGreatDoorGBkBo
import Derived.BigRegion
import Derived.Test.YtebmlhaoeldhkaaGreatDoorGBkF
import Derived.Deep.RegionLaw
import Derived.Test.YtebmlhaoeldhkaaGreatDoorGBkBop
import Derived.Test.YtebmlhaoeldhkaaGreatDoorGBkW
set_option maxHeartbeats 8000000
set_option maxRecDepth 100000
namespace Go.Proofs.YtebmlhaoeldhkaaGreatDoor
open Go.RowKit Pl
open Lib (hid)
theorem oneB_bka (x : Bool) : ∀ u ∈ encB x, u.oneCell' = true := by intro u hu; simp [encB] at hu; first | (subst hu; rfl) | (rcases hu with rfl | rfl <;> rfl) | (rcases hu with rfl | rfl | rfl <;> rfl)
theorem addB_any {w0 w : World} {bb n m : Nat} {cs : List Value} {o p v : Value} {vs us : List Value} {ys : List Bool} {rest : List Rw}
   (h : Rws w0 w (⟨46, 22, .slice (some ⟨bb, 0, none⟩) 1 1, 1, cs⟩ :: ⟨58, 1, o, m, vs⟩ :: ⟨58, 1, p, m, us⟩ :: ⟨4, 1, v, n, ys.flatMap encB⟩ :: rest)) (hcl : cs.length = 22) (hc : cs[6]? = some o) (hc1 : cs[7]? = some p) (hn : n = ys.length) (hnm : n <= 500000) (hm : m <= 400) (hv1 : v.oneCell' = true) :
   Calls Tryz.prog 27 #[.pointer (some ⟨bb, 0, none⟩), v] w fun e w' => e = .returned (.tuple #[]) /\ AddP w0 w w' 4 58 1 bb 6 7 m n cs vs us v (ys.flatMap encB) rest := by
 obtain ⟨oa, oc, hov, _, _, _, _, _⟩ := h.shape (r := ⟨58, 1, o, m, vs⟩) (by simp)
 obtain ⟨pa, pc, hpv, _, _, _, _, _⟩ := h.shape (r := ⟨58, 1, p, m, us⟩) (by simp)
 dsimp only at hov hpv
 subst hov hpv
 have b0 := h.cell (i := 0) rfl hc
 have f0 := h.fz (i := 0) rfl 6
 have hbl := (h.lt (i := 0) rfl).2
 by_cases hlt : m < 400
 · have hltI : (m : Int) < 400 := by omega
   have hltB : decide ((m : Int) < 400) = true := by simp [hltI]
   obtain ⟨va, vc, hvv, _⟩ := h.shape (r := ⟨4, 1, v, n, ys.flatMap encB⟩) (by simp)
   dsimp only at hvv
   subst hvv
   have H := hid h; have HC1 := hid hc1; have HN := hid hn; have HC := hid hc; have HCL := hid hcl
   have hsz := h.bel.size
   clear h hc1 hn hc hv1 hcl
   go_enter Tryz.func27, Tryz.ntmps27
   go_wp2_with (at_builtin; refine wpList_lie rfl _ _ 37 rfl rowBB_bk (base := w0.heap.size) (by simp; omega) rfl ((H.out.alloc _).get (i := 1) rfl) ⟨w.heap.size, 0, none⟩ 1 1 [.slice va n vc] rfl rfl (cells1 (by simp [go_sem])) (by simp [Value.oneCell']) (by decide) (by dsimp only; omega) (by dsimp only; unfold maxLen; omega) w.heap.size (by simp) ?_; intro g cap w4 hown4 hg4 hgg4 hlt4; have hR4 := H.out.grown ((Below.refl w.heap.size w).alloc (Nat.le_refl _) _) 1 rfl hown4 hg4 (fun b hb => by simp only [Value.ownBlock, Option.some.injEq] at hb; subst hb; exact hgg4); have c0 := hR4.cell (i := 0) rfl HC.out; have c1 := hR4.fz (i := 0) rfl 6; have c2 := (hR4.lt (i := 0) rfl).2; have HR4 := hid hR4; clear hown4 hg4 hgg4 hlt4 hR4)
   obtain ⟨W, hW⟩ : ∃ W, W = w4.setCell ⟨bb, 6, none⟩ (.slice (some ⟨g, 0, none⟩) (m + 1) cap) := ⟨_, rfl⟩
   have HR5 : Hid (Rws w0 W (⟨46, 22, .slice (some ⟨bb, 0, none⟩) 1 1, 1, cs.set 6 (.slice (some ⟨g, 0, none⟩) (m + 1) cap)⟩ :: ⟨58, 1, .slice (some ⟨g, 0, none⟩) (m + 1) cap, m + 1, vs ++ [.slice va n vc]⟩ :: ⟨58, 1, .slice pa m pc, m, us⟩ :: ⟨4, 1, .slice va n vc, n, ys.flatMap encB⟩ :: rest)) := hid (by
     have := HR4.out.set 0 rfl 6 (.slice (some ⟨g, 0, none⟩) (m + 1) cap)
     rw [hW]; exact this)
   rw [<- hW]
   have d0 := HR5.out.cell (i := 0) (j := 7) (u := .slice pa m pc) rfl (by rw [List.getElem?_set, if_neg (by decide)]; exact HC1.out)
   have d1 := HR5.out.fz (i := 0) rfl 7
   have d2 := (HR5.out.lt (i := 0) rfl).2
   have hsW := HR5.out.bel.size
   obtain ⟨va2, vc2, vb2, hv2, _, _, hvs, _⟩ := HR5.out.sl (i := 3) rfl lenB HN.out
   simp only [Value.slice.injEq] at hv2
   obtain ⟨rfl, hnl, rfl⟩ := hv2
   have HVS := hid hvs
   clear hnl hW HR4 H hvs c0 c1 c2 b0 f0 hbl
   have KD : Hid (∀ V, Below W.heap.size W V -> V.cell? ⟨bb, 7, none⟩ = some (.slice pa m pc) /\ V.frozen? ⟨bb, 7, none⟩ = false /\ bb < V.heap.size) := hid (fun V hV => by
     have hb := hV.block bb d2
     exact ⟨by rw [hV.cell (p := ⟨bb, 7, none⟩) d2]; exact d0, by rw [World.frozen?_of_block (w := W) (a := ⟨bb, 7, none⟩) hb]; exact d1, Nat.lt_of_lt_of_le d2 hV.size⟩)
   go_wp2_with fail
   go_region_law (first
     | (refine step_appS rfl _ _ _ rfl rowB (base := W.heap.size) (by simp) rfl (World.ownsRow_nil _ _ _ _) (ys := ys) lenB (fun u hu => by obtain ⟨x, _, hx⟩ := List.mem_flatMap.1 hu; exact oneB_bka x u hx) (HVS.out.below (bdrew (n := 1) (Below.refl _ _)) (Nat.le_refl _)) (by rw [<- HN.out]; rfl) (by rw [<- HN.out]; omega) (by rw [<- HN.out]; unfold maxLen; omega) ?_; intro u w5 hown5 hg5; rw [<- HN.out] at hown5; obtain ⟨ua, uc, rfl⟩ := own_sl hown5; have hB5 : Below W.heap.size W w5 := (bdrew (n := 1) (Below.refl _ _)).grown hg5 (by simp) (fun k hk => by cases hk); obtain ⟨e0, e1, e2⟩ := KD.out _ hB5; have hs5 := hB5.size; have HR55 := hid (HR5.out.add hB5 (by rw [Nat.zero_add, List.nil_append] at hown5; exact hown5)); clear hown5 hg5 hB5)
     | (refine step_lie rfl _ _ _ rfl rowBB_bk (base := w0.heap.size) (by simp; omega) rfl ((HR55.out.alloc _).get (i := 3) rfl) ⟨w5.heap.size, 0, none⟩ 1 1 [.slice ua n uc] rfl rfl (cells1 (by simp [go_sem])) (by simp [Value.oneCell']) (by decide) (by dsimp only; omega) (by dsimp only; unfold maxLen; omega) w5.heap.size (by simp) ?_; intro g2 cap2 w6 hown6 hg6 hgg6 hlt6; have hR6 := HR55.out.grown ((Below.refl w5.heap.size w5).alloc (Nat.le_refl _) _) 3 rfl hown6 hg6 (fun b hb => by simp only [Value.ownBlock, Option.some.injEq] at hb; subst hb; exact hgg6); have e0 := hR6.cell (i := 1) (j := 7) (u := .slice pa m pc) rfl (by rw [List.getElem?_set, if_neg (by decide)]; exact HC1.out); have e1 := hR6.fz (i := 1) rfl 7; have e2 := (hR6.lt (i := 1) rfl).2; have HR6 := hid hR6; clear hown6 hg6 hgg6 hR6))
   all_goals
     have HR7 := hid (HR6.out.set 1 rfl 7 (.slice (some ⟨g2, 0, none⟩) (m + 1) cap2))
     clear e0 e1 e2 HR6 HR55 KD HVS HR5
     go_wp2_with fail
     go_end0
     refine ⟨rfl, .inr ⟨hlt, .slice (some ⟨g, 0, none⟩) (m + 1) cap, .slice (some ⟨g2, 0, none⟩) (m + 1) cap2, .slice ua n uc, ?_⟩⟩
     exact HR7.out.perm (List.perm_middle (a := (⟨4, 1, Value.slice ua n uc, n, ys.flatMap encB⟩ : Rw)) (l₁ := [⟨46, 22, Value.slice (some ⟨bb, 0, none⟩) 1 1, 1, (cs.set 6 (Value.slice (some ⟨g, 0, none⟩) (m + 1) cap)).set 7 (Value.slice (some ⟨g2, 0, none⟩) (m + 1) cap2)⟩, ⟨58, 1, Value.slice (some ⟨g, 0, none⟩) (m + 1) cap, m + 1, vs ++ [Value.slice va n vc]⟩, ⟨58, 1, Value.slice (some ⟨g2, 0, none⟩) (m + 1) cap2, m + 1, us ++ [Value.slice ua n uc]⟩, ⟨4, 1, Value.slice va n vc, n, ys.flatMap encB⟩]) (l₂ := rest)).symm
 · have hltI : ¬ (m : Int) < 400 := by omega
   go_enter Tryz.func27, Tryz.ntmps27
   go_wp2_with fail
   go_end0
   exact ⟨rfl, .inl ⟨hlt, rfl⟩⟩
end Go.Proofs.YtebmlhaoeldhkaaGreatDoor
namespace Go.Proofs.YtebmlhaoeldhkaaGreatDoor
open Go.RowKit Pl
end Go.Proofs.YtebmlhaoeldhkaaGreatDoor
namespace Go.Proofs.YtebmlhaoeldhkaaGreatDoor
open Go.RowKit Pl
open Lib (hid)
theorem addW_any {w0 w : World} {bb n m : Nat} {cs : List Value} {o p v : Value} {vs us : List Value} {ys : List Value} {rest : List Rw}
   (h : Rws w0 w (⟨46, 22, .slice (some ⟨bb, 0, none⟩) 1 1, 1, cs⟩ :: ⟨38, 1, o, m, vs⟩ :: ⟨38, 1, p, m, us⟩ :: ⟨78, 1, v, n, ys⟩ :: rest)) (hcl : cs.length = 22) (hc : cs[20]? = some o) (hc1 : cs[21]? = some p) (hn : n = ys.length) (hnm : n <= 500000) (hm : m <= 400) (hv1 : v.oneCell' = true) (hone : ∀ u ∈ ys, u.oneCell' = true) :
   Calls Tryz.prog 106 #[.pointer (some ⟨bb, 0, none⟩), v] w fun e w' => e = .returned (.tuple #[]) /\ AddP w0 w w' 78 38 1 bb 20 21 m n cs vs us v (ys) rest := by
 obtain ⟨oa, oc, hov, _, _, _, _, _⟩ := h.shape (r := ⟨38, 1, o, m, vs⟩) (by simp)
 obtain ⟨pa, pc, hpv, _, _, _, _, _⟩ := h.shape (r := ⟨38, 1, p, m, us⟩) (by simp)
 dsimp only at hov hpv
 subst hov hpv
 have b0 := h.cell (i := 0) rfl hc
 have f0 := h.fz (i := 0) rfl 20
 have hbl := (h.lt (i := 0) rfl).2
 by_cases hlt : m < 400
 · have hltI : (m : Int) < 400 := by omega
   have hltB : decide ((m : Int) < 400) = true := by simp [hltI]
   obtain ⟨va, vc, hvv, _⟩ := h.shape (r := ⟨78, 1, v, n, ys⟩) (by simp)
   dsimp only at hvv
   subst hvv
   have H := hid h; have HC1 := hid hc1; have HN := hid hn; have HC := hid hc; have HCL := hid hcl
   have hsz := h.bel.size
   have HONE := hid hone
   clear hone
   clear h hc1 hn hc hv1 hcl
   go_enter Tryz.func106, Tryz.ntmps106
   go_wp2_with (at_builtin; refine wpList_lie rfl _ _ 44 rfl rowWO_bk (base := w0.heap.size) (by simp; omega) rfl ((H.out.alloc _).get (i := 1) rfl) ⟨w.heap.size, 0, none⟩ 1 1 [.slice va n vc] rfl rfl (cells1 (by simp [go_sem])) (by simp [Value.oneCell']) (by decide) (by dsimp only; omega) (by dsimp only; unfold maxLen; omega) w.heap.size (by simp) ?_; intro g cap w4 hown4 hg4 hgg4 hlt4; have hR4 := H.out.grown ((Below.refl w.heap.size w).alloc (Nat.le_refl _) _) 1 rfl hown4 hg4 (fun b hb => by simp only [Value.ownBlock, Option.some.injEq] at hb; subst hb; exact hgg4); have c0 := hR4.cell (i := 0) rfl HC.out; have c1 := hR4.fz (i := 0) rfl 20; have c2 := (hR4.lt (i := 0) rfl).2; have HR4 := hid hR4; clear hown4 hg4 hgg4 hlt4 hR4)
   obtain ⟨W, hW⟩ : ∃ W, W = w4.setCell ⟨bb, 20, none⟩ (.slice (some ⟨g, 0, none⟩) (m + 1) cap) := ⟨_, rfl⟩
   have HR5 : Hid (Rws w0 W (⟨46, 22, .slice (some ⟨bb, 0, none⟩) 1 1, 1, cs.set 20 (.slice (some ⟨g, 0, none⟩) (m + 1) cap)⟩ :: ⟨38, 1, .slice (some ⟨g, 0, none⟩) (m + 1) cap, m + 1, vs ++ [.slice va n vc]⟩ :: ⟨38, 1, .slice pa m pc, m, us⟩ :: ⟨78, 1, .slice va n vc, n, ys⟩ :: rest)) := hid (by
     have := HR4.out.set 0 rfl 20 (.slice (some ⟨g, 0, none⟩) (m + 1) cap)
     rw [hW]; exact this)
   rw [<- hW]
   have d0 := HR5.out.cell (i := 0) (j := 21) (u := .slice pa m pc) rfl (by rw [List.getElem?_set, if_neg (by decide)]; exact HC1.out)
   have d1 := HR5.out.fz (i := 0) rfl 21
   have d2 := (HR5.out.lt (i := 0) rfl).2
   have hsW := HR5.out.bel.size
   obtain ⟨va2, vc2, vb2, hv2, _, _, hvs, _⟩ := HR5.out.sl (i := 3) (enc := encV) (ys := ys) (by rw [flatV]; rfl) lenV HN.out
   simp only [Value.slice.injEq] at hv2
   obtain ⟨rfl, hnl, rfl⟩ := hv2
   have HVS := hid hvs
   clear hnl hW HR4 H hvs c0 c1 c2 b0 f0 hbl
   have KD : Hid (∀ V, Below W.heap.size W V -> V.cell? ⟨bb, 21, none⟩ = some (.slice pa m pc) /\ V.frozen? ⟨bb, 21, none⟩ = false /\ bb < V.heap.size) := hid (fun V hV => by
     have hb := hV.block bb d2
     exact ⟨by rw [hV.cell (p := ⟨bb, 21, none⟩) d2]; exact d0, by rw [World.frozen?_of_block (w := W) (a := ⟨bb, 21, none⟩) hb]; exact d1, Nat.lt_of_lt_of_le d2 hV.size⟩)
   go_wp2_with fail
   go_region_law (first
     | (refine step_appS rfl _ _ _ rfl rowSS_bk (base := W.heap.size) (by simp) rfl (World.ownsRow_nil _ _ _ _) (ys := ys) lenV (by rw [flatV]; exact HONE.out) (HVS.out.below (bdrew (n := 1) (Below.refl _ _)) (Nat.le_refl _)) (by rw [<- HN.out]; rfl) (by rw [<- HN.out]; omega) (by rw [<- HN.out]; unfold maxLen; omega) ?_; intro u w5 hown5 hg5; rw [<- HN.out] at hown5; obtain ⟨ua, uc, rfl⟩ := own_sl hown5; have hB5 : Below W.heap.size W w5 := (bdrew (n := 1) (Below.refl _ _)).grown hg5 (by simp) (fun k hk => by cases hk); obtain ⟨e0, e1, e2⟩ := KD.out _ hB5; have hs5 := hB5.size; have HR55 := hid (HR5.out.add hB5 (by rw [Nat.zero_add, List.nil_append, flatV] at hown5; exact hown5)); clear hown5 hg5 hB5)
     | (refine step_lie rfl _ _ _ rfl rowWO_bk (base := w0.heap.size) (by simp; omega) rfl ((HR55.out.alloc _).get (i := 3) rfl) ⟨w5.heap.size, 0, none⟩ 1 1 [.slice ua n uc] rfl rfl (cells1 (by simp [go_sem])) (by simp [Value.oneCell']) (by decide) (by dsimp only; omega) (by dsimp only; unfold maxLen; omega) w5.heap.size (by simp) ?_; intro g2 cap2 w6 hown6 hg6 hgg6 hlt6; have hR6 := HR55.out.grown ((Below.refl w5.heap.size w5).alloc (Nat.le_refl _) _) 3 rfl hown6 hg6 (fun b hb => by simp only [Value.ownBlock, Option.some.injEq] at hb; subst hb; exact hgg6); have e0 := hR6.cell (i := 1) (j := 21) (u := .slice pa m pc) rfl (by rw [List.getElem?_set, if_neg (by decide)]; exact HC1.out); have e1 := hR6.fz (i := 1) rfl 21; have e2 := (hR6.lt (i := 1) rfl).2; have HR6 := hid hR6; clear hown6 hg6 hgg6 hR6))
   all_goals
     have HR7 := hid (HR6.out.set 1 rfl 21 (.slice (some ⟨g2, 0, none⟩) (m + 1) cap2))
     clear e0 e1 e2 HR6 HR55 KD HVS HR5
     go_wp2_with fail
     go_end0
     refine ⟨rfl, .inr ⟨hlt, .slice (some ⟨g, 0, none⟩) (m + 1) cap, .slice (some ⟨g2, 0, none⟩) (m + 1) cap2, .slice ua n uc, ?_⟩⟩
     exact HR7.out.perm (List.perm_middle (a := (⟨78, 1, Value.slice ua n uc, n, ys⟩ : Rw)) (l₁ := [⟨46, 22, Value.slice (some ⟨bb, 0, none⟩) 1 1, 1, (cs.set 20 (Value.slice (some ⟨g, 0, none⟩) (m + 1) cap)).set 21 (Value.slice (some ⟨g2, 0, none⟩) (m + 1) cap2)⟩, ⟨38, 1, Value.slice (some ⟨g, 0, none⟩) (m + 1) cap, m + 1, vs ++ [Value.slice va n vc]⟩, ⟨38, 1, Value.slice (some ⟨g2, 0, none⟩) (m + 1) cap2, m + 1, us ++ [Value.slice ua n uc]⟩, ⟨78, 1, Value.slice va n vc, n, ys⟩]) (l₂ := rest)).symm
 · have hltI : ¬ (m : Int) < 400 := by omega
   go_enter Tryz.func106, Tryz.ntmps106
   go_wp2_with fail
   go_end0
   exact ⟨rfl, .inl ⟨hlt, rfl⟩⟩
end Go.Proofs.YtebmlhaoeldhkaaGreatDoor

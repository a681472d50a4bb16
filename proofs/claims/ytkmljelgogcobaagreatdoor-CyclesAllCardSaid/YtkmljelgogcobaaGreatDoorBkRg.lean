/-
  semblancebook.Book, lists of rows (Rows): the lists are grown.
-/
import Derived.Test.YtkmljelgogcobaaGreatDoorBkR
import Derived.Test.YtkmljelgogcobaaGreatDoorBkF
namespace Go.Proofs.YtkmljelgogcobaaGreatDoor
open Go.RowKit Pl

theorem rowRO_bk : IsRow Tryz.prog 40 32 1 24 (.slice none 0 0) := isRow_of Tryz.underlying40 (by kernel_rfl) rfl (by decide)
/-- What is known of the first i lists of rows that have been grown. -/
def GrowOkR (M : List Rw) (ks : List Rw) (gs : List Value) (G : List Rw) (i : Nat) : Prop :=
  ∀ (p : Nat) (r : Rw), p < i → ks[p]? = some r → (∃ (v' : Value) (cs : List Value), gs[p]? = some v' ∧ cs.length = r.n + 96 ∧ Pre G 1 v' (r.n + 96) cs ∧ MkInR M p 0 cs) ∧ Pre G 1 r.v r.n r.xs
theorem GrowOkR.step {M M' : List Rw} {ks : List Rw} {gs : List Value} {G E : List Rw} {i : Nat} (h : GrowOkR M ks gs G i) (hM : ∀ r ∈ M, r ∈ M') (hg : gs.length = i) {r : Rw} (hr : ks[i]? = some r) {v' : Value} {cs : List Value} (hc : cs.length = r.n + 96)
    (h1 : Pre E 1 v' (r.n + 96) cs) (h2 : Pre E 1 r.v r.n r.xs) (h3 : MkInR M' i 0 cs) : GrowOkR M' ks (gs ++ [v']) (G ++ E) (i + 1) := by
  intro p r' hp hr'
  by_cases e : p = i
  · subst e
    rw [hr] at hr'
    cases hr'
    exact ⟨⟨v', cs, by rw [List.getElem?_append_right (by omega)]; simp [hg], hc, h1.mono (fun x hx => List.mem_append_right _ hx), h3⟩, h2.mono (fun x hx => List.mem_append_right _ hx)⟩
  · obtain ⟨⟨v2, c2, h3, h4, h5, h6⟩, h7⟩ := h p r' (by omega) hr'
    exact ⟨⟨v2, c2, by rw [List.getElem?_append_left (by omega)]; exact h3, h4, h5.mono (fun x hx => List.mem_append_left _ hx), h6.mono hM⟩, h7.mono (fun x hx => List.mem_append_left _ hx)⟩

theorem MkInR.one {N L : List Rw} {w0 w : World} {i k : Nat} {cs : List Value} (h : MkInR N i k cs) (hR : Rws w0 w L) (hs : ∀ r ∈ N, r ∈ L) : ∀ u ∈ cs, u.oneCell' = true := fun u hu => by
  obtain ⟨j, hj⟩ := List.getElem?_of_mem hu
  obtain ⟨r, h1, _, _, rfl, _, _⟩ := h j u hj
  obtain ⟨a, c, hv, _⟩ := hR.shape (hs r h1)
  rw [hv]; rfl

set_option maxRecDepth 100000 in
set_option maxHeartbeats 8000000 in
theorem growR_any {w0 w : World} {bb : Nat} {cs : List Value} {o : Value} {ks rest M : List Rw}
    (h : Rws w0 w (⟨44, 22, .slice (some ⟨bb, 0, none⟩) 1 1, 1, cs⟩ :: ⟨32, 1, o, ks.length, ks.map (·.v)⟩ :: (ks ++ rest))) (hc : cs[16]? = some o) (hK : ∀ (i : Nat) (r : Rw), ks[i]? = some r → r.T = 49 ∧ r.k = 1 ∧ r.n ≤ 500000 ∧ MkInR M i 0 r.xs) (hl : ks.length ≤ 400) :
    Calls Tryz.prog 95 #[.pointer (some ⟨bb, 0, none⟩)] w fun e w' => ∃ (gv : Value) (gs : List Value) (G N : List Rw), e = .returned gv ∧ gs.length = ks.length ∧ Rws w0 w' (⟨32, 1, gv, ks.length, gs⟩ :: ⟨44, 22, .slice (some ⟨bb, 0, none⟩) 1 1, 1, cs⟩ :: ⟨32, 1, o, ks.length, ks.map (·.v)⟩ :: (G ++ (N ++ rest))) ∧ GrowOkR (M ++ N) ks gs G ks.length := by
  obtain ⟨oa, oc, hov, hoa, _, _, _, _⟩ := h.shape (r := ⟨32, 1, o, ks.length, ks.map (·.v)⟩) (by simp)
  dsimp only at hov hoa
  subst hov
  obtain ⟨m, hm⟩ : ∃ m, m = ks.length := ⟨_, rfl⟩
  rw [← hm] at h hl hc hoa ⊢
  have H := Lib.hid h; have HK := Lib.hid hK; have HM := Lib.hid hm; have HC := Lib.hid hc; have HOA := Lib.hid hoa
  have b0 := h.cell (i := 0) rfl hc
  have hbl := (h.lt (i := 0) rfl).2
  clear h hK hm hc hoa
  go_enter Tryz.func95, Tryz.ntmps95
  go_wp2_with fail
  clear b0 hbl
  go_loopw [3, 4, 5, 6] (fun v3 v4 _ _ wr => ∃ (i : Nat) (gs : List Value) (G N : List Rw) (gv : Value), gv = v3 ∧ v4 = .int .i64 i ∧ i ≤ m ∧ gs.length = i ∧ Rws w0 wr (⟨32, 1, gv, i, gs⟩ :: ⟨44, 22, .slice (some ⟨bb, 0, none⟩) 1 1, 1, cs⟩ :: ⟨32, 1, .slice oa m oc, m, ks.map (·.v)⟩ :: (G ++ (ks.drop i ++ (N ++ rest)))) ∧ GrowOkR (M ++ N) ks gs G i) (fun _ v4 _ _ _ => m - (intOf v4).toNat)
  case atStart => exact ⟨0, [], [], [], _, rfl, rfl, Nat.zero_le _, rfl, H.out.addNil _ _, fun p _ hp => absurd hp (Nat.not_lt_zero _)⟩
  case round =>
    obtain ⟨i, gs, G, N, v3, rfl, rfl, hi, hgs, hRw, hok⟩ := hrel
    have b0 := hRw.cell (i := 1) rfl HC.out
    have hbl := (hRw.lt (i := 1) rfl).2
    have HGS := Lib.hid hgs; have HOK := Lib.hid hok
    clear hgs hok
    by_cases hlt : i < m
    · obtain ⟨r, hr⟩ := getElem?_of_lt (xs := ks) (i := i) (by rw [← HM.out]; exact hlt)
      obtain ⟨ob, rfl⟩ := HOA.out (by omega)
      have b1 := hRw.cell (i := 2) (j := i) (u := r.v) rfl (by simp [hr])
      obtain ⟨T, k, v, n, xs⟩ := r
      obtain ⟨rfl, rfl, hn, hxs⟩ := HK.out _ _ hr
      dsimp only at hxs hn b1
      have hdrop : ks.drop i = ⟨49, 1, v, n, xs⟩ :: ks.drop (i + 1) := by
        obtain ⟨hl, he⟩ := List.getElem?_eq_some_iff.1 hr
        rw [List.drop_eq_getElem_cons hl, he]
      have hR0 : Rws w0 wr (⟨49, 1, v, n, xs⟩ :: ([] ++ (⟨32, 1, v3, i, gs⟩ :: ⟨44, 22, .slice (some ⟨bb, 0, none⟩) 1 1, 1, cs⟩ :: ⟨32, 1, .slice (some ⟨ob, 0, none⟩) m oc, m, ks.map (·.v)⟩ :: (G ++ (ks.drop (i + 1) ++ (N ++ rest)))))) := by
        rw [hdrop] at hRw
        have hpm := List.perm_middle (a := (⟨49, 1, v, n, xs⟩ : Rw)) (l₁ := ⟨32, 1, v3, i, gs⟩ :: ⟨44, 22, .slice (some ⟨bb, 0, none⟩) 1 1, 1, cs⟩ :: ⟨32, 1, .slice (some ⟨ob, 0, none⟩) m oc, m, ks.map (·.v)⟩ :: G) (l₂ := ks.drop (i + 1) ++ (N ++ rest))
        exact hRw.perm hpm
      obtain ⟨va, vc, hv, _, _, _, _, hxl⟩ := hR0.shape (r := ⟨49, 1, v, n, xs⟩) (by simp)
      dsimp only at hv hxl
      subst hv
      have hP0 := Pre.self hR0 (r := ⟨49, 1, .slice va n vc, n, xs⟩) (by simp)
      dsimp only at hP0
      have HR0 := Lib.hid hR0; have HP0 := Lib.hid hP0; have HR := Lib.hid hr; have HXL := Lib.hid hxl; have HXS := Lib.hid hxs
      have hin : (i : Int) < (m : Int) := by omega
      clear hRw hdrop hR0 hP0 hr hxl hxs
      go_wp2_with fail
      clear b0 b1 hbl
      go_loopw [5, 6] (fun v5 v6 wr => ∃ (t : Nat) (la : Option Addr) (lc : Nat) (E Z : List Rw) (ds : List Value), v6 = .int .i64 t ∧ v5 = .slice la (n + t) lc ∧ t ≤ 16 ∧ ds.length = n + t ∧ Rws w0 wr (⟨49, 1, .slice la (n + t) lc, n + t, ds⟩ :: (E ++ (⟨32, 1, v3, i, gs⟩ :: ⟨44, 22, .slice (some ⟨bb, 0, none⟩) 1 1, 1, cs⟩ :: ⟨32, 1, .slice (some ⟨ob, 0, none⟩) m oc, m, ks.map (·.v)⟩ :: (G ++ (ks.drop (i + 1) ++ ((N ++ Z) ++ rest)))))) ∧ Pre (⟨49, 1, .slice la (n + t) lc, n + t, ds⟩ :: E) 1 (.slice va n vc) n xs ∧ MkInR (M ++ (N ++ Z)) i 0 ds) (fun _ v6 _ => 16 - (intOf v6).toNat)
      case atStart => exact ⟨0, va, vc, [], [], xs, rfl, rfl, Nat.zero_le _, by have := HXL.out; omega, by rw [List.append_nil]; exact HR0.out, HP0.out, HXS.out.mono (fun x hx => List.mem_append_left _ hx)⟩
      case round =>
        obtain ⟨t, la, lc, E, Z, ds, rfl, rfl, ht, hdl, hRx, hPx, hMx⟩ := hrel
        have HRX := Lib.hid hRx; have HPX := Lib.hid hPx; have HMX := Lib.hid hMx; have HDL := Lib.hid hdl
        clear hRx hPx HR0 HP0 hMx hdl
        by_cases hlq : t < 16
        · have htI : (t : Int) < 16 := by omega
          have HMK : RowKit.Hid (Calls Tryz.prog 145 #[.int .i64 (i : Int), .int .i64 ((n + t : Nat) : Int), .int .i64 1] wr fun e w' => ∃ (v : Value) (cs : List Value) (N : List Rw), e = .returned v ∧ cs.length = 1 ∧ Rws wr w' (⟨49, 1, v, 1, cs⟩ :: N) ∧ MkInR N i (n + t) cs) := Lib.hid (markR_any (n := 1) (by omega) (by omega) (by omega))
          go_wp2_with fail
          refine HMK.out.mono ?_
          rintro e w3 ⟨mv, ms, N2, rfl, hml, hmo, hmM⟩
          have hmw : w3.ownsRow wr.heap.size 49 1 mv 1 ms := hmo.get (i := 0) rfl
          obtain ⟨mg, mc, rfl, _⟩ := hmw.form (by omega)
          have HR3 : RowKit.Hid (Rws w0 w3 (⟨49, 1, .slice la (n + t) lc, n + t, ds⟩ :: (E ++ (⟨32, 1, v3, i, gs⟩ :: ⟨44, 22, .slice (some ⟨bb, 0, none⟩) 1 1, 1, cs⟩ :: ⟨32, 1, .slice (some ⟨ob, 0, none⟩) m oc, m, ks.map (·.v)⟩ :: (G ++ (ks.drop (i + 1) ++ ((N ++ (Z ++ N2)) ++ rest))))))) := Lib.hid (((HRX.out.join hmo).sub (List.sublist_cons_self _ _)).perm (by
            have hp := perm_rot N2 (⟨49, 1, .slice la (n + t) lc, n + t, ds⟩ :: (E ++ (⟨32, 1, v3, i, gs⟩ :: ⟨44, 22, .slice (some ⟨bb, 0, none⟩) 1 1, 1, cs⟩ :: ⟨32, 1, .slice (some ⟨ob, 0, none⟩) m oc, m, ks.map (·.v)⟩ :: (G ++ ks.drop (i + 1))))) (N ++ Z) rest
            simp only [List.append_assoc, List.cons_append] at hp ⊢
            exact hp))
          have HMO := Lib.hid hmw; have HML := Lib.hid hml; have HM1 := Lib.hid (hmM.one hmo (fun r hr => List.mem_cons_of_mem _ hr))
          have HM2 : RowKit.Hid (MkInR (M ++ (N ++ (Z ++ N2))) i 0 (ds ++ ms)) := Lib.hid ((HMX.out.mono (fun x hx => by simp only [List.mem_append] at hx ⊢; rcases hx with h | h | h <;> simp [h])).app (by
            rw [Nat.zero_add, HDL.out]
            exact hmM.mono (fun x hx => by simp only [List.mem_append]; exact .inr (.inr (.inr hx)))))
          clear hmo hmw HMK hmM hml
          go_wp2_with (at_builtin; refine wpList_two rfl _ _ 32 rfl rowII_bk (base := w0.heap.size) rfl (HR3.out.get (i := 0) rfl) ⟨mg, 0, none⟩ 1 mc ms rfl (by rw [HML.out]) (HMO.out.cells rfl) HM1.out (by omega) (by dsimp only; omega) (by dsimp only; unfold maxLen; omega) ?_; intro g cap w4 htwo)
          obtain ⟨X, hR4, hpre⟩ := HR3.out.grow2 htwo
          have HR4 : RowKit.Hid (Rws w0 w4 (⟨49, 1, .slice (some ⟨g, 0, none⟩) (n + (t + 1)) cap, n + (t + 1), ds ++ ms⟩ :: ((X ++ E) ++ (⟨32, 1, v3, i, gs⟩ :: ⟨44, 22, .slice (some ⟨bb, 0, none⟩) 1 1, 1, cs⟩ :: ⟨32, 1, .slice (some ⟨ob, 0, none⟩) m oc, m, ks.map (·.v)⟩ :: (G ++ (ks.drop (i + 1) ++ ((N ++ (Z ++ N2)) ++ rest))))))) := Lib.hid (by
            rw [List.append_assoc]; exact hR4)
          have HP4 : RowKit.Hid (Pre (⟨49, 1, .slice (some ⟨g, 0, none⟩) (n + (t + 1)) cap, n + (t + 1), ds ++ ms⟩ :: (X ++ E)) 1 (.slice va n vc) n xs) := Lib.hid (HPX.out.swap hpre (fun x hx => hx))
          clear htwo hR4 hpre HR3 HMO HRX HPX HMX
          go_wp2_with fail
          go_roundw
          case rel => exact ⟨t + 1, _, _, X ++ E, Z ++ N2, ds ++ ms, by go_num, rfl, by omega, by rw [List.length_append, HDL.out, HML.out]; omega, HR4.out, HP4.out, HM2.out⟩
          case measure => simp [intOf]; omega
        · obtain rfl : t = 16 := by omega
          have HMK : RowKit.Hid (Calls Tryz.prog 145 #[.int .i64 (i : Int), .int .i64 ((n + 16 : Nat) : Int), .int .i64 80] wr fun e w' => ∃ (v : Value) (cs : List Value) (N : List Rw), e = .returned v ∧ cs.length = 80 ∧ Rws wr w' (⟨49, 1, v, 80, cs⟩ :: N) ∧ MkInR N i (n + 16) cs) := Lib.hid (markR_any (n := 80) (by omega) (by omega) (by omega))
          go_wp2_with fail
          refine HMK.out.mono ?_
          rintro e w3 ⟨mv, ms, N2, rfl, hml, hmo, hmM⟩
          have hmw : w3.ownsRow wr.heap.size 49 1 mv 80 ms := hmo.get (i := 0) rfl
          obtain ⟨mg, mc, rfl, _⟩ := hmw.form (by omega)
          have HR3 : RowKit.Hid (Rws w0 w3 (⟨49, 1, .slice la (n + 16) lc, n + 16, ds⟩ :: (E ++ (⟨32, 1, v3, i, gs⟩ :: ⟨44, 22, .slice (some ⟨bb, 0, none⟩) 1 1, 1, cs⟩ :: ⟨32, 1, .slice (some ⟨ob, 0, none⟩) m oc, m, ks.map (·.v)⟩ :: (G ++ (ks.drop (i + 1) ++ ((N ++ (Z ++ N2)) ++ rest))))))) := Lib.hid (((HRX.out.join hmo).sub (List.sublist_cons_self _ _)).perm (by
            have hp := perm_rot N2 (⟨49, 1, .slice la (n + 16) lc, n + 16, ds⟩ :: (E ++ (⟨32, 1, v3, i, gs⟩ :: ⟨44, 22, .slice (some ⟨bb, 0, none⟩) 1 1, 1, cs⟩ :: ⟨32, 1, .slice (some ⟨ob, 0, none⟩) m oc, m, ks.map (·.v)⟩ :: (G ++ ks.drop (i + 1))))) (N ++ Z) rest
            simp only [List.append_assoc, List.cons_append] at hp ⊢
            exact hp))
          have HMO := Lib.hid hmw; have HML := Lib.hid hml; have HM1 := Lib.hid (hmM.one hmo (fun r hr => List.mem_cons_of_mem _ hr))
          have HM2 : RowKit.Hid (MkInR (M ++ (N ++ (Z ++ N2))) i 0 (ds ++ ms)) := Lib.hid ((HMX.out.mono (fun x hx => by simp only [List.mem_append] at hx ⊢; rcases hx with h | h | h <;> simp [h])).app (by
            rw [Nat.zero_add, HDL.out]
            exact hmM.mono (fun x hx => by simp only [List.mem_append]; exact .inr (.inr (.inr hx)))))
          have HDM : RowKit.Hid ((ds ++ ms).length = n + 16 + 80) := Lib.hid (by rw [List.length_append, HDL.out, hml])
          clear hmo hmw HMK hmM hml HRX HMX
          go_wp2_with (first
            | (at_builtin; refine wpList_two rfl _ _ 32 rfl rowII_bk (base := w0.heap.size) rfl (HR3.out.get (i := 0) rfl) ⟨mg, 0, none⟩ 80 mc ms rfl (by rw [HML.out]) (HMO.out.cells rfl) HM1.out (by omega) (by dsimp only; omega) (by dsimp only; unfold maxLen; omega) ?_; intro g cap w4 htwo; (obtain ⟨X, hR4, hpre⟩ := HR3.out.grow2 htwo); have HR4 : RowKit.Hid (Rws w0 w4 (⟨32, 1, v3, i, gs⟩ :: ⟨44, 22, .slice (some ⟨bb, 0, none⟩) 1 1, 1, cs⟩ :: ⟨32, 1, .slice (some ⟨ob, 0, none⟩) m oc, m, ks.map (·.v)⟩ :: ((G ++ (⟨49, 1, .slice (some ⟨g, 0, none⟩) (n + 16 + 80) cap, n + 16 + 80, ds ++ ms⟩ :: (X ++ E))) ++ (ks.drop (i + 1) ++ ((N ++ (Z ++ N2)) ++ rest))))) := Lib.hid (hR4.perm (by rw [← List.append_assoc]; exact perm_rot (_ :: (X ++ E)) [⟨32, 1, v3, i, gs⟩, ⟨44, 22, .slice (some ⟨bb, 0, none⟩) 1 1, 1, cs⟩, ⟨32, 1, .slice (some ⟨ob, 0, none⟩) m oc, m, ks.map (·.v)⟩] G (ks.drop (i + 1) ++ ((N ++ (Z ++ N2)) ++ rest)))); have HPR := Lib.hid hpre; clear htwo hR4 hpre HR3 HMO)
            | (at_builtin; refine wpList_lie rfl _ _ 40 rfl rowRO_bk (base := w0.heap.size) (by have := HR4.out.bel.size; simp; omega) rfl ((HR4.out.alloc _).get (i := 0) rfl) ⟨w4.heap.size, 0, none⟩ 1 1 [.slice (some ⟨g, 0, none⟩) (n + 16 + 80) cap] rfl rfl (cells1 (by simp [go_sem])) (by simp [Value.oneCell']) (by omega) (by dsimp only; omega) (by dsimp only; unfold maxLen; omega) w4.heap.size (by simp) ?_; intro g2 cap2 w6 hown6 hg6 hgg6 _))
          have HR6 : RowKit.Hid (Rws w0 w6 (⟨32, 1, .slice (some ⟨g2, 0, none⟩) (i + 1) cap2, i + 1, gs ++ [.slice (some ⟨g, 0, none⟩) (n + 16 + 80) cap]⟩ :: ⟨44, 22, .slice (some ⟨bb, 0, none⟩) 1 1, 1, cs⟩ :: ⟨32, 1, .slice (some ⟨ob, 0, none⟩) m oc, m, ks.map (·.v)⟩ :: ((G ++ (⟨49, 1, .slice (some ⟨g, 0, none⟩) (n + 16 + 80) cap, n + 16 + 80, ds ++ ms⟩ :: (X ++ E))) ++ (ks.drop (i + 1) ++ ((N ++ (Z ++ N2)) ++ rest))))) := Lib.hid (HR4.out.grown ((Below.refl w4.heap.size w4).alloc (Nat.le_refl _) _) 0 rfl hown6 hg6 (fun b hb => by simp only [Value.ownBlock, Option.some.injEq] at hb; subst hb; exact hgg6))
          clear hown6 hg6 hgg6
          go_wp2_with fail
          go_roundw
          case rel => exact ⟨i + 1, gs ++ [.slice (some ⟨g, 0, none⟩) (n + 16 + 80) cap], G ++ (⟨49, 1, .slice (some ⟨g, 0, none⟩) (n + 16 + 80) cap, n + 16 + 80, ds ++ ms⟩ :: (X ++ E)), N ++ (Z ++ N2), _, rfl, by go_num, by omega, by simp [HGS.out], HR6.out, HOK.out.step (fun r hr => by simp only [List.mem_append] at hr ⊢; rcases hr with h | h <;> simp [h]) HGS.out HR.out HDM.out
            ⟨_, List.mem_cons_self, rfl, _, _, _, rfl, rfl, Nat.le_refl _, List.take_of_length_le (by rw [HDM.out]; dsimp only; omega)⟩ (HPX.out.swap HPR.out (fun x hx => hx)) HM2.out⟩
          case measure => simp [intOf]; omega
    · obtain rfl : m = i := by omega
      have HRW := Lib.hid hRw
      clear hRw
      go_wp2_with fail
      go_ret
      refine ⟨_, gs, G, N, rfl, HGS.out, ?_, HOK.out⟩
      have := HRW.out
      rw [List.drop_of_length_le (by rw [← HM.out]; exact Nat.le_refl _)] at this
      exact this
end Go.Proofs.YtkmljelgogcobaaGreatDoor

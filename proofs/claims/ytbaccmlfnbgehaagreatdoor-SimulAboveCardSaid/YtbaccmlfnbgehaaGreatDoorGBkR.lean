/-
  Lemmas.
-/
import Derived.Test.YtbaccmlfnbgehaaGreatDoorGBkN
import Derived.Test.YtbaccmlfnbgehaaGreatDoorGRwsB
namespace Go.Proofs.YtbaccmlfnbgehaaGreatDoor
open Go.RowKit Pl
open Lib (hid)
def mkRow (i k : Nat) : List Int := [-1 - (i : Int), (k : Int)]
def RdR (w : World) (x : Value) (ys : List Int) : Prop := ∃ (a : Option Addr) (b off c : Nat), x = .slice a ys.length c ∧ SlAt encI 1 w a b off ys ∧ ys.length ≤ 600000
theorem RdR.below {w w' : World} {x : Value} {ys : List Int} (h : RdR w x ys) (hB : Below w.heap.size w w') : RdR w' x ys := by
  obtain ⟨a, b, off, c, h1, h2, h3⟩ := h
  exact ⟨a, b, off, c, h1, h2.below hB (Nat.le_refl _), h3⟩
set_option maxRecDepth 100000 in
set_option maxHeartbeats 4000000 in
theorem sameRows_any {w : World} {a1 a2 : Option Addr} {b1 o1 c1 b2 o2 c2 n : Nat} {vs us : List Value} (h1 : SlAt encV 1 w a1 b1 o1 vs) (h2 : SlAt encV 1 w a2 b2 o2 us) (hv : vs.length = n) (hu : us.length = n) (hn : n ≤ 600000)
    (hR : ∀ (j : Nat) (x y : Value), vs[j]? = some x → us[j]? = some y → ∃ ys, RdR w x ys ∧ RdR w y ys) :
    Calls Tryz.prog 113 #[.slice a1 n c1, .slice a2 n c2] w fun e w' => e = .returned (.bool true) ∧ ∃ m, w' = w.drewN m := by
  have HO := hid h1; have HP := hid h2; have HVL := hid hv; have HUL := hid hu; have HR := hid hR
  clear h1 h2 hv hu hR
  have hlB : ((n : Int) != (n : Int)) = false := by simp
  go_enter Tryz.func113, Tryz.ntmps113
  go_wp2_with fail
  go_loopw [5] (fun v5 wr => ∃ i m : Nat, i ≤ n ∧ v5 = .int .i64 i ∧ wr = w.drewN m) (fun v5 _ => n - (intOf v5).toNat)
  case atStart => exact ⟨0, 0, Nat.zero_le _, rfl, rfl⟩
  case round =>
    obtain ⟨i, m, hi, rfl, rfl⟩ := hrel
    by_cases hlt : i < n
    · obtain ⟨v, hv⟩ := getElem?_of_lt (xs := vs) (i := i) (by rw [HVL.out]; exact hlt)
      obtain ⟨u, hu⟩ := getElem?_of_lt (xs := us) (i := i) (by rw [HUL.out]; exact hlt)
      obtain ⟨xs, ⟨x1, y1, of1, q1, rfl, hs1, hxl⟩, ⟨x2, y2, of2, q2, rfl, hs2, _⟩⟩ := HR.out i v u hv hu
      have ha := HO.out.ad (by rw [HVL.out]; omega)
      have hb := HP.out.ad (by rw [HUL.out]; omega)
      subst ha hb
      have d0 := HO.out.cv hv
      have d1 := HP.out.cv hu
      have HSM : Hid (∀ mm, Calls Tryz.prog 14 #[.slice x1 xs.length q1, .slice x2 xs.length q2] (w.drewN mm) fun e w' => e = .returned (.bool (decide (xs = xs))) ∧ ∃ n, w' = (w.drewN mm).drewN n) := hid (fun mm => sameInts_any (hs1.below (bdrew (Below.refl _ _)) (Nat.le_refl _)) (hs2.below (bdrew (Below.refl _ _)) (Nat.le_refl _)) (by omega) (by omega))
      have HSE : Hid (decide (xs = xs) = true) := hid (by simp)
      have hin : (i : Int) < (n : Int) := by omega
      clear hs1 hs2 hv hu hxl
      generalize xs.length = z at *
      go_wp2_with fail
      go_region_held3 (fun V => V.cell? ⟨b1, o1 + i, none⟩ = some (.slice x1 z q1) ∧ V.cell? ⟨b2, o2 + i, none⟩ = some (.slice x2 z q2))
        (first | exact ⟨d0, d1⟩ | assumption)
        ((go_at_call 14; refine (HSM.out _).mono ?_; rintro e w7 ⟨rfl, mm, rfl⟩; rw [HSE.out]))
      go_wp2_with fail
      go_roundw
      case rel => exact ⟨i + 1, _, by omega, by go_num, by first | rfl | exact World.drewN_drewN _ _ _⟩
      case measure => simp [intOf]; omega
    · obtain rfl : n = i := by omega
      go_wp2_with fail
      go_ret
      exact ⟨rfl, m, rfl⟩
def MkInR (N : List Rw) (i k : Nat) (cs : List Value) : Prop := ∀ (j : Nat) (x : Value), cs[j]? = some x → ∃ r ∈ N, r.T = 3 ∧ r.k = 1 ∧ r.v = x ∧ r.n = 2 ∧ r.xs = (mkRow i (k + j)).flatMap encI
theorem MkInR.mono {N N' : List Rw} {i k : Nat} {cs : List Value} (h : MkInR N i k cs) (hs : ∀ r ∈ N, r ∈ N') : MkInR N' i k cs := fun j x hx => by
  obtain ⟨r, hr, y⟩ := h j x hx
  exact ⟨r, hs r hr, y⟩
theorem MkInR.nil (N : List Rw) (i k : Nat) : MkInR N i k [] := fun j x hx => by simp at hx
theorem MkInR.app {N : List Rw} {i k : Nat} {cs ds : List Value} (h : MkInR N i k cs) (h2 : MkInR N i (k + cs.length) ds) : MkInR N i k (cs ++ ds) := fun j x hx => by
  by_cases hj : j < cs.length
  · rw [List.getElem?_append_left hj] at hx; exact h j x hx
  · rw [List.getElem?_append_right (by omega)] at hx
    obtain ⟨r, h3, h4⟩ := h2 _ x hx
    rw [show k + cs.length + (j - cs.length) = k + j by omega] at h4
    exact ⟨r, h3, h4⟩
theorem MkInR.rd {N L : List Rw} {w0 w : World} {i k : Nat} {cs : List Value} (h : MkInR N i k cs) (hR : Rws w0 w L) (hs : ∀ r ∈ N, r ∈ L) {j : Nat} {x : Value} (hx : cs[j]? = some x) : RdR w x (mkRow i (k + j)) := by
  obtain ⟨r, h1, h2, h3, h4, h5, h6⟩ := h j x hx
  have ho := hR.own r (hs r h1)
  rw [h2, h3, h4, h5, h6] at ho
  obtain ⟨a, c, b, e1, _, _, e2, _⟩ := slAt_own (xs := mkRow i (k + j)) lenI ho
  exact ⟨a, b, 0, c, e1, e2, by unfold mkRow; simp⟩
set_option maxRecDepth 100000 in
set_option maxHeartbeats 4000000 in
theorem markR_any {w : World} {i k n : Nat} (hi : i ≤ 400) (hk : k ≤ 600000) (hn : n ≤ 600000) :
    Calls Tryz.prog 124 #[.int .i64 (i : Int), .int .i64 (k : Int), .int .i64 (n : Int)] w fun e w' => ∃ (v : Value) (cs : List Value) (N : List Rw), e = .returned v ∧ cs.length = n ∧ Rws w w' (⟨50, 1, v, n, cs⟩ :: N) ∧ MkInR N i k cs := by
  go_enter Tryz.func124, Tryz.ntmps124
  go_wp2_with fail
  go_loopw [7, 8] (fun v7 v8 wr => ∃ (j : Nat) (cs : List Value) (N : List Rw), v8 = .int .i64 ((k : Int) + (j : Int)) ∧ j ≤ n ∧ cs.length = j ∧ Rws w wr (⟨50, 1, v7, j, cs⟩ :: N) ∧ MkInR N i k cs) (fun _ v8 _ => k + n - (intOf v8).toNat)
  case atStart => exact ⟨0, [], [], by simp, Nat.zero_le _, rfl, (Rws.nil (Below.refl _ _)).addNil _ _, MkInR.nil _ _ _⟩
  case round =>
    obtain ⟨j, cs, N, rfl, hj, hcl, hR, hM⟩ := hrel
    have HR := hid hR; have HM := hid hM; have HCL := hid hcl
    have hs := hR.bel.size
    clear hR hM hcl
    by_cases hlt : j < n
    · have hltI : (k : Int) + (j : Int) < (k : Int) + (n : Int) := by omega
      have hR1 := HR.out.addLit #[.int .i64 (-1 - (i : Int)), .int .i64 ((k : Int) + (j : Int))] 3 (k := 1) (n := 2) (by unfold maxLen; omega) rfl
      have HR1 := hid hR1
      clear hR1
      go_wp2_with (at_builtin; refine wpList_lie rfl _ _ 34 rfl rowII_bk (base := w.heap.size) (by simp; omega) rfl ((HR1.out.alloc _).get (i := 1) rfl) ⟨wr.heap.size + 1, 0, none⟩ 1 1 [.slice (some ⟨wr.heap.size, 0, none⟩) 2 2] rfl rfl (cells1 (by simp [go_sem])) (by simp [Value.oneCell']) (by omega) (by dsimp only; omega) (by dsimp only; unfold maxLen; omega) (wr.heap.size + 1) (by simp) ?_; intro g cap w6 hown6 hg6 hgg6 _)
      have hR6 := HR1.out.grown ((Below.refl _ _).alloc (Nat.le_refl _) _) 1 rfl hown6 hg6 (fun b hb => by
        simp only [Value.ownBlock, Option.some.injEq] at hb
        subst hb
        rcases hgg6 with h | h
        · exact .inl h
        · exact .inr (by simpa using h))
      have HR6 : Hid (Rws w w6 (⟨50, 1, .slice (some ⟨g, 0, none⟩) (j + 1) cap, j + 1, cs ++ [.slice (some ⟨wr.heap.size, 0, none⟩) 2 2]⟩ :: (⟨3, 1, .slice (some ⟨wr.heap.size, 0, none⟩) 2 2, 2, [.int .i64 (-1 - (i : Int)), .int .i64 ((k : Int) + (j : Int))]⟩ :: N))) := hid (hR6.perm (List.Perm.swap _ _ _))
      have HM6 : Hid (MkInR (⟨3, 1, .slice (some ⟨wr.heap.size, 0, none⟩) 2 2, 2, [.int .i64 (-1 - (i : Int)), .int .i64 ((k : Int) + (j : Int))]⟩ :: N) i k (cs ++ [.slice (some ⟨wr.heap.size, 0, none⟩) 2 2])) := hid ((HM.out.mono (fun x hx => List.mem_cons_of_mem _ hx)).app (fun q x hx => by
        have hq : q = 0 := by have := (List.getElem?_eq_some_iff.1 hx).1; simp at this; omega
        subst hq
        simp at hx
        subst hx
        refine ⟨_, List.mem_cons_self, rfl, rfl, rfl, rfl, ?_⟩
        rw [HCL.out]
        simp [mkRow, encI]))
      clear hown6 hg6 hgg6 hR6 HR1 HR HM
      go_roundw
      case rel => exact ⟨j + 1, _, _, by go_num, by omega, by simp [HCL.out], HR6.out, HM6.out⟩
      case measure => simp [intOf]; omega
    · obtain rfl : n = j := by omega
      go_wp2_with fail
      go_ret
      exact ⟨_, cs, N, rfl, HCL.out, HR.out, HM.out⟩
set_option maxRecDepth 100000 in
set_option maxHeartbeats 4000000 in
theorem stillR_any {w : World} {bb n : Nat} {a a' : Option Addr} {ob ob' c c' : Nat} {vs us : List Value}
    (h0 : w.cell? ⟨bb, 16, none⟩ = some (.slice a n c)) (h1 : w.cell? ⟨bb, 17, none⟩ = some (.slice a' n c')) (hO : SlAt encV 1 w a ob 0 vs) (hP : SlAt encV 1 w a' ob' 0 us) (hvl : vs.length = n) (hul : us.length = n) (hn : n ≤ 400)
    (hR : ∀ (i : Nat) (v u : Value), vs[i]? = some v → us[i]? = some u → ∃ (xs : List Value) (a1 : Option Addr) (b1 c1 : Nat) (a2 : Option Addr) (b2 c2 : Nat), v = .slice a1 xs.length c1 ∧ u = .slice a2 xs.length c2 ∧ SlAt encV 1 w a1 b1 0 xs ∧ SlAt encV 1 w a2 b2 0 xs ∧ xs.length ≤ 600000 ∧ ∀ (j : Nat) (x : Value), xs[j]? = some x → ∃ ys, RdR w x ys) :
    Calls Tryz.prog 52 #[.pointer (some ⟨bb, 0, none⟩)] w fun e w' => e = .returned (.bool true) ∧ ∃ m, w' = w.drewN m := by
  have HO := hid hO; have HP := hid hP; have HVL := hid hvl; have HUL := hid hul; have HR := hid hR
  clear hO hP hvl hul hR
  go_enter Tryz.func52, Tryz.ntmps52
  go_wp2_with fail
  go_loopw [3] (fun v3 wr => ∃ i m : Nat, i ≤ n ∧ v3 = .int .i64 i ∧ wr = w.drewN m) (fun v3 _ => n - (intOf v3).toNat)
  case atStart => exact ⟨0, 0, Nat.zero_le _, rfl, rfl⟩
  case round =>
    obtain ⟨i, m, hi, rfl, rfl⟩ := hrel
    by_cases hlt : i < n
    · obtain ⟨v, hv⟩ := getElem?_of_lt (xs := vs) (i := i) (by rw [HVL.out]; exact hlt)
      obtain ⟨u, hu⟩ := getElem?_of_lt (xs := us) (i := i) (by rw [HUL.out]; exact hlt)
      obtain ⟨xs, a1, b1, q1, a2, b2, q2, rfl, rfl, hs1, hs2, hxl, hrd⟩ := HR.out i v u hv hu
      have ha := HO.out.ad (by rw [HVL.out]; omega)
      have hb := HP.out.ad (by rw [HUL.out]; omega)
      subst ha hb
      have d0 := HO.out.cv hv
      have d1 := HP.out.cv hu
      rw [Nat.zero_add] at d0 d1
      have HSM : Hid (∀ mm, Calls Tryz.prog 113 #[.slice a1 xs.length q1, .slice a2 xs.length q2] (w.drewN mm) fun e w' => e = .returned (.bool true) ∧ ∃ n, w' = (w.drewN mm).drewN n) := hid (fun mm => sameRows_any (hs1.below (bdrew (Below.refl _ _)) (Nat.le_refl _)) (hs2.below (bdrew (Below.refl _ _)) (Nat.le_refl _)) rfl rfl (by omega) (fun j x y hx hy => by
        rw [hx] at hy
        cases hy
        obtain ⟨ys, h⟩ := hrd j x hx
        exact ⟨ys, h.below (bdrew (Below.refl _ _)), h.below (bdrew (Below.refl _ _))⟩))
      have hin : (i : Int) < (n : Int) := by omega
      clear hs1 hs2 hv hu hxl hrd
      generalize xs.length = z at *
      go_wp2_with fail
      go_region_held3 (fun V => V.cell? ⟨bb, 16, none⟩ = some (.slice (some ⟨ob, 0, none⟩) n c) ∧ V.cell? ⟨bb, 17, none⟩ = some (.slice (some ⟨ob', 0, none⟩) n c') ∧ V.cell? ⟨ob, i, none⟩ = some (.slice a1 z q1) ∧ V.cell? ⟨ob', i, none⟩ = some (.slice a2 z q2))
        (first | exact ⟨h0, h1, d0, d1⟩ | assumption)
        ((go_at_call 113; refine (HSM.out _).mono ?_; rintro e w7 ⟨rfl, mm, rfl⟩))
      go_wp2_with fail
      go_roundw
      case rel => exact ⟨i + 1, _, by omega, by go_num, by first | rfl | exact World.drewN_drewN _ _ _⟩
      case measure => simp [intOf]; omega
    · obtain rfl : n = i := by omega
      go_wp2_with fail
      go_ret
      exact ⟨rfl, m, rfl⟩
set_option maxRecDepth 100000 in
set_option maxHeartbeats 4000000 in
theorem markedR_any {w : World} {n : Nat} {a : Option Addr} {ob c : Nat} {vs : List Value} (hO : SlAt encV 1 w a ob 0 vs) (hvl : vs.length = n) (hn : n ≤ 400)
    (hR : ∀ (i : Nat) (v : Value), vs[i]? = some v → ∃ (z : Nat) (a1 : Option Addr) (b1 c1 : Nat) (xs : List Value), v = .slice a1 z c1 ∧ SlAt encV 1 w a1 b1 0 xs ∧ xs.length = z ∧ z ≤ 600000 ∧ ∀ (j : Nat) (x : Value), xs[j]? = some x → RdR w x (mkRow i j)) :
    Calls Tryz.prog 85 #[.slice a n c] w fun e w' => e = .returned (.bool true) ∧ Below w.heap.size w w' := by
  have HO := hid hO; have HVL := hid hvl; have HR := hid hR
  clear hO hvl hR
  go_enter Tryz.func85, Tryz.ntmps85
  go_wp2_with fail
  go_loopw [3] (fun v3 wr => ∃ i : Nat, i ≤ n ∧ v3 = .int .i64 i ∧ Below w.heap.size w wr) (fun v3 _ => n - (intOf v3).toNat)
  case atStart => exact ⟨0, Nat.zero_le _, rfl, Below.refl _ _⟩
  case round =>
    obtain ⟨i, hi, rfl, hB⟩ := hrel
    by_cases hlt : i < n
    · obtain ⟨v, hv⟩ := getElem?_of_lt (xs := vs) (i := i) (by rw [HVL.out]; exact hlt)
      obtain ⟨z, a1, b1, q1, xs, rfl, hs1, hxz, hxl, hrd⟩ := HR.out i v hv
      have ha := HO.out.ad (by rw [HVL.out]; omega)
      subst ha
      have hob := HO.out.lt (by rw [HVL.out]; omega)
      have d0 := (HO.out.below hB (Nat.le_refl _)).cv hv
      rw [Nat.zero_add] at d0
      have hob2 : ob < wr.heap.size := Nat.lt_of_lt_of_le hob hB.size
      have HMK := hid (fun (V : World) => markR_any (w := V) (i := i) (k := 0) (n := z) (by omega) (by omega) hxl)
      have hin : (i : Int) < (n : Int) := by omega
      have HS1 := hid (hs1.below hB (Nat.le_refl _))
      have HRD := hid (fun (j : Nat) (x : Value) (hx : xs[j]? = some x) => (hrd j x hx).below hB); have HXZ := hid hxz
      have HSM : Hid (∀ (U V : World) (v : Value) (cs : List Value) (N : List Rw), Below wr.heap.size wr U → Below wr.heap.size wr V → cs.length = z → Rws U V (⟨50, 1, v, z, cs⟩ :: N) → MkInR N i 0 cs → Calls Tryz.prog 113 #[.slice a1 z q1, v] V fun e w' => e = .returned (.bool true) ∧ ∃ n, w' = V.drewN n) := hid (fun U V v cs N hU hV hcz hR hM => by
        obtain ⟨a2, c2, b2, rfl, _, _, hs2, _⟩ := hR.sl (i := 0) (enc := encV) (ys := cs) (by rw [flatV]; rfl) lenV hcz.symm
        rw [hcz]
        exact sameRows_any (HS1.out.below hV (Nat.le_refl _)) hs2 HXZ.out hcz hxl (fun j x y hx hy => ⟨mkRow i j, (HRD.out j x hx).below hV, by have := hM.rd hR (fun r hr => List.mem_cons_of_mem _ hr) hy; rwa [Nat.zero_add] at this⟩))
      have HB := hid hB
      have hdr : Below wr.heap.size wr wr.drew := (Below.refl _ _).drew
      have HKP : Hid (∀ V, Below wr.heap.size wr V → V.cell? ⟨ob, i, none⟩ = some (.slice a1 z q1) ∧ ob < V.heap.size ∧ Below wr.heap.size wr V) := hid (fun V hV => ⟨by rw [hV.cell (p := ⟨ob, i, none⟩) hob2]; exact d0, Nat.lt_of_lt_of_le hob2 hV.size, hV⟩)
      clear hs1 hv hB hob hxz hrd
      go_wp2_with fail
      go_region_held3 (fun V => V.cell? ⟨ob, i, none⟩ = some (.slice a1 z q1) ∧ ob < V.heap.size ∧ Below wr.heap.size wr V)
        (first | (exact HKP.out _ (by assumption)) | assumption)
        (first
          | (go_at_call 124; go_split_ands; refine (HMK.out _).mono ?_; rintro e w7 ⟨v7, cs7, N7, rfl, hcl7, hown7, hM7⟩; have hB7 := hown7.bel; have hW7 : Below wr.heap.size wr w7 := Below.trans (by assumption) (hB7.mono (Below.size (by assumption))))
          | (go_at_call 113; go_split_ands; refine (HSM.out _ _ _ _ _ (by assumption) (by assumption) hcl7 hown7 hM7).mono ?_; rintro e w8 ⟨rfl, mm, rfl⟩; have hW8 : Below wr.heap.size wr _ := bdrew (n := mm) (by assumption)))
      all_goals go_split_ands
      all_goals go_wp2_with fail
      all_goals
        go_roundw
        case rel => exact ⟨i + 1, by omega, by go_num, HB.out.trans (Below.mono (by assumption) HB.out.size)⟩
        case measure => simp [intOf]; omega
    · obtain rfl : n = i := by omega
      go_wp2_with fail
      go_ret
      exact ⟨rfl, hB⟩
end Go.Proofs.YtbaccmlfnbgehaaGreatDoor
namespace Go.Proofs.YtbaccmlfnbgehaaGreatDoor
open Go.RowKit Pl
open Lib (hid)
theorem rowRO_bk : IsRow Tryz.prog 41 34 1 24 (.slice none 0 0) := isRow_of Tryz.underlying41 (by kernel_rfl) rfl (by decide)
def GrowOkR (M : List Rw) (ks : List Rw) (gs : List Value) (G : List Rw) (i : Nat) : Prop :=
  ∀ (p : Nat) (r : Rw), p < i → ks[p]? = some r → (∃ (v' : Value) (cs : List Value), gs[p]? = some v' ∧ cs.length = r.n + 96 ∧ Pre G 1 v' (r.n + 96) cs ∧ MkInR M p 0 cs) ∧ Pre G 1 r.v r.n r.xs
theorem GrowOkR.step {M M' : List Rw} {ks : List Rw} {gs : List Value} {G E : List Rw} {i : Nat} (h : GrowOkR M ks gs G i) (hM : ∀ r ∈ M, r ∈ M') (hg : gs.length = i) {r : Rw} (hr : ks[i]? = some r) {v' : Value} {cs : List Value} (hc : cs.length = r.n + 96)
    (h1 : Pre E 1 v' (r.n + 96) cs) (h2 : Pre E 1 r.v r.n r.xs) (h3 : MkInR M' i 0 cs) : GrowOkR M' ks (gs ++ [v']) (G ++ E) (i + 1) := by
  intro p r' hp hr'
  by_cases e : p = i
  · subst e
    rw [hr] at hr'
    cases hr'
    exact ⟨⟨v', cs, by rw [List.getElem?_append_right (by omega)]; simp [hg], hc, h1.mono (fun x hx => List.mem_append_right _ hx), h3⟩, h2.mono (fun x hx => List.mem_append_right _ hx)⟩
  · obtain ⟨⟨v2, c2, h3, h4, h5, h6⟩, h7⟩ := h p r' (by omega) hr'
    exact ⟨⟨v2, c2, by rw [List.getElem?_append_left (by omega)]; exact h3, h4, h5.mono (fun x hx => List.mem_append_left _ hx), h6.mono hM⟩, h7.mono (fun x hx => List.mem_append_left _ hx)⟩
theorem MkInR.one {N L : List Rw} {w0 w : World} {i k : Nat} {cs : List Value} (h : MkInR N i k cs) (hR : Rws w0 w L) (hs : ∀ r ∈ N, r ∈ L) : ∀ u ∈ cs, u.oneCell' = true := fun u hu => by
  obtain ⟨j, hj⟩ := List.getElem?_of_mem hu
  obtain ⟨r, h1, _, _, rfl, _, _⟩ := h j u hj
  obtain ⟨a, c, hv, _⟩ := hR.shape (hs r h1)
  rw [hv]; rfl
set_option maxRecDepth 100000 in
set_option maxHeartbeats 8000000 in
theorem growR_any {w0 w : World} {bb : Nat} {cs : List Value} {o : Value} {ks rest M : List Rw}
    (h : Rws w0 w (⟨45, 22, .slice (some ⟨bb, 0, none⟩) 1 1, 1, cs⟩ :: ⟨34, 1, o, ks.length, ks.map (·.v)⟩ :: (ks ++ rest))) (hc : cs[16]? = some o) (hK : ∀ (i : Nat) (r : Rw), ks[i]? = some r → r.T = 50 ∧ r.k = 1 ∧ r.n ≤ 500000 ∧ MkInR M i 0 r.xs) (hl : ks.length ≤ 400) :
    Calls Tryz.prog 74 #[.pointer (some ⟨bb, 0, none⟩)] w fun e w' => ∃ (gv : Value) (gs : List Value) (G N : List Rw), e = .returned gv ∧ gs.length = ks.length ∧ Rws w0 w' (⟨34, 1, gv, ks.length, gs⟩ :: ⟨45, 22, .slice (some ⟨bb, 0, none⟩) 1 1, 1, cs⟩ :: ⟨34, 1, o, ks.length, ks.map (·.v)⟩ :: (G ++ (N ++ rest))) ∧ GrowOkR (M ++ N) ks gs G ks.length := by
  obtain ⟨oa, oc, hov, hoa, _, _, _, _⟩ := h.shape (r := ⟨34, 1, o, ks.length, ks.map (·.v)⟩) (by simp)
  dsimp only at hov hoa
  subst hov
  obtain ⟨m, hm⟩ : ∃ m, m = ks.length := ⟨_, rfl⟩
  rw [← hm] at h hl hc hoa ⊢
  have H := hid h; have HK := hid hK; have HM := hid hm; have HC := hid hc; have HOA := hid hoa
  have b0 := h.cell (i := 0) rfl hc
  have hbl := (h.lt (i := 0) rfl).2
  clear h hK hm hc hoa
  go_enter Tryz.func74, Tryz.ntmps74
  go_wp2_with fail
  clear b0 hbl
  go_loopw [3, 4, 5, 6] (fun v3 v4 _ _ wr => ∃ (i : Nat) (gs : List Value) (G N : List Rw) (gv : Value), gv = v3 ∧ v4 = .int .i64 i ∧ i ≤ m ∧ gs.length = i ∧ Rws w0 wr (⟨34, 1, gv, i, gs⟩ :: ⟨45, 22, .slice (some ⟨bb, 0, none⟩) 1 1, 1, cs⟩ :: ⟨34, 1, .slice oa m oc, m, ks.map (·.v)⟩ :: (G ++ (ks.drop i ++ (N ++ rest)))) ∧ GrowOkR (M ++ N) ks gs G i) (fun _ v4 _ _ _ => m - (intOf v4).toNat)
  case atStart => exact ⟨0, [], [], [], _, rfl, rfl, Nat.zero_le _, rfl, H.out.addNil _ _, fun p _ hp => absurd hp (Nat.not_lt_zero _)⟩
  case round =>
    obtain ⟨i, gs, G, N, v3, rfl, rfl, hi, hgs, hRw, hok⟩ := hrel
    have b0 := hRw.cell (i := 1) rfl HC.out
    have hbl := (hRw.lt (i := 1) rfl).2
    have HGS := hid hgs; have HOK := hid hok
    clear hgs hok
    by_cases hlt : i < m
    · obtain ⟨r, hr⟩ := getElem?_of_lt (xs := ks) (i := i) (by rw [← HM.out]; exact hlt)
      obtain ⟨ob, rfl⟩ := HOA.out (by omega)
      have b1 := hRw.cell (i := 2) (j := i) (u := r.v) rfl (by simp [hr])
      obtain ⟨T, k, v, n, xs⟩ := r
      obtain ⟨rfl, rfl, hn, hxs⟩ := HK.out _ _ hr
      dsimp only at hxs hn b1
      have hdrop : ks.drop i = ⟨50, 1, v, n, xs⟩ :: ks.drop (i + 1) := by
        obtain ⟨hl, he⟩ := List.getElem?_eq_some_iff.1 hr
        rw [List.drop_eq_getElem_cons hl, he]
      have hR0 : Rws w0 wr (⟨50, 1, v, n, xs⟩ :: ([] ++ (⟨34, 1, v3, i, gs⟩ :: ⟨45, 22, .slice (some ⟨bb, 0, none⟩) 1 1, 1, cs⟩ :: ⟨34, 1, .slice (some ⟨ob, 0, none⟩) m oc, m, ks.map (·.v)⟩ :: (G ++ (ks.drop (i + 1) ++ (N ++ rest)))))) := by
        rw [hdrop] at hRw
        have hpm := List.perm_middle (a := (⟨50, 1, v, n, xs⟩ : Rw)) (l₁ := ⟨34, 1, v3, i, gs⟩ :: ⟨45, 22, .slice (some ⟨bb, 0, none⟩) 1 1, 1, cs⟩ :: ⟨34, 1, .slice (some ⟨ob, 0, none⟩) m oc, m, ks.map (·.v)⟩ :: G) (l₂ := ks.drop (i + 1) ++ (N ++ rest))
        exact hRw.perm hpm
      obtain ⟨va, vc, hv, _, _, _, _, hxl⟩ := hR0.shape (r := ⟨50, 1, v, n, xs⟩) (by simp)
      dsimp only at hv hxl
      subst hv
      have hP0 := Pre.self hR0 (r := ⟨50, 1, .slice va n vc, n, xs⟩) (by simp)
      dsimp only at hP0
      have HR0 := hid hR0; have HP0 := hid hP0; have HR := hid hr; have HXL := hid hxl; have HXS := hid hxs
      have hin : (i : Int) < (m : Int) := by omega
      clear hRw hdrop hR0 hP0 hr hxl hxs
      go_wp2_with fail
      clear b0 b1 hbl
      go_loopw [5, 6] (fun v5 v6 wr => ∃ (t : Nat) (la : Option Addr) (lc : Nat) (E Z : List Rw) (ds : List Value), v6 = .int .i64 t ∧ v5 = .slice la (n + t) lc ∧ t ≤ 16 ∧ ds.length = n + t ∧ Rws w0 wr (⟨50, 1, .slice la (n + t) lc, n + t, ds⟩ :: (E ++ (⟨34, 1, v3, i, gs⟩ :: ⟨45, 22, .slice (some ⟨bb, 0, none⟩) 1 1, 1, cs⟩ :: ⟨34, 1, .slice (some ⟨ob, 0, none⟩) m oc, m, ks.map (·.v)⟩ :: (G ++ (ks.drop (i + 1) ++ ((N ++ Z) ++ rest)))))) ∧ Pre (⟨50, 1, .slice la (n + t) lc, n + t, ds⟩ :: E) 1 (.slice va n vc) n xs ∧ MkInR (M ++ (N ++ Z)) i 0 ds) (fun _ v6 _ => 16 - (intOf v6).toNat)
      case atStart => exact ⟨0, va, vc, [], [], xs, rfl, rfl, Nat.zero_le _, by have := HXL.out; omega, by rw [List.append_nil]; exact HR0.out, HP0.out, HXS.out.mono (fun x hx => List.mem_append_left _ hx)⟩
      case round =>
        obtain ⟨t, la, lc, E, Z, ds, rfl, rfl, ht, hdl, hRx, hPx, hMx⟩ := hrel
        have HRX := hid hRx; have HPX := hid hPx; have HMX := hid hMx; have HDL := hid hdl
        clear hRx hPx HR0 HP0 hMx hdl
        by_cases hlq : t < 16
        · have htI : (t : Int) < 16 := by omega
          have HMK : Hid (Calls Tryz.prog 124 #[.int .i64 (i : Int), .int .i64 ((n + t : Nat) : Int), .int .i64 1] wr fun e w' => ∃ (v : Value) (cs : List Value) (N : List Rw), e = .returned v ∧ cs.length = 1 ∧ Rws wr w' (⟨50, 1, v, 1, cs⟩ :: N) ∧ MkInR N i (n + t) cs) := hid (markR_any (n := 1) (by omega) (by omega) (by omega))
          go_wp2_with fail
          refine HMK.out.mono ?_
          rintro e w3 ⟨mv, ms, N2, rfl, hml, hmo, hmM⟩
          have hmw : w3.ownsRow wr.heap.size 50 1 mv 1 ms := hmo.get (i := 0) rfl
          obtain ⟨mg, mc, rfl, _⟩ := hmw.form (by omega)
          have HR3 : Hid (Rws w0 w3 (⟨50, 1, .slice la (n + t) lc, n + t, ds⟩ :: (E ++ (⟨34, 1, v3, i, gs⟩ :: ⟨45, 22, .slice (some ⟨bb, 0, none⟩) 1 1, 1, cs⟩ :: ⟨34, 1, .slice (some ⟨ob, 0, none⟩) m oc, m, ks.map (·.v)⟩ :: (G ++ (ks.drop (i + 1) ++ ((N ++ (Z ++ N2)) ++ rest))))))) := hid (((HRX.out.join hmo).sub (List.sublist_cons_self _ _)).perm (by
            have hp := perm_rot N2 (⟨50, 1, .slice la (n + t) lc, n + t, ds⟩ :: (E ++ (⟨34, 1, v3, i, gs⟩ :: ⟨45, 22, .slice (some ⟨bb, 0, none⟩) 1 1, 1, cs⟩ :: ⟨34, 1, .slice (some ⟨ob, 0, none⟩) m oc, m, ks.map (·.v)⟩ :: (G ++ ks.drop (i + 1))))) (N ++ Z) rest
            simp only [List.append_assoc, List.cons_append] at hp ⊢
            exact hp))
          have HMO := hid hmw; have HML := hid hml; have HM1 := hid (hmM.one hmo (fun r hr => List.mem_cons_of_mem _ hr))
          have HM2 : Hid (MkInR (M ++ (N ++ (Z ++ N2))) i 0 (ds ++ ms)) := hid ((HMX.out.mono (fun x hx => by simp only [List.mem_append] at hx ⊢; rcases hx with h | h | h <;> simp [h])).app (by
            rw [Nat.zero_add, HDL.out]
            exact hmM.mono (fun x hx => by simp only [List.mem_append]; exact .inr (.inr (.inr hx)))))
          clear hmo hmw HMK hmM hml
          go_wp2_with (at_builtin; refine wpList_two rfl _ _ 34 rfl rowII_bk (base := w0.heap.size) rfl (HR3.out.get (i := 0) rfl) ⟨mg, 0, none⟩ 1 mc ms rfl (by rw [HML.out]) (HMO.out.cells rfl) HM1.out (by omega) (by dsimp only; omega) (by dsimp only; unfold maxLen; omega) ?_; intro g cap w4 htwo)
          obtain ⟨X, hR4, hpre⟩ := HR3.out.grow2 htwo
          have HR4 : Hid (Rws w0 w4 (⟨50, 1, .slice (some ⟨g, 0, none⟩) (n + (t + 1)) cap, n + (t + 1), ds ++ ms⟩ :: ((X ++ E) ++ (⟨34, 1, v3, i, gs⟩ :: ⟨45, 22, .slice (some ⟨bb, 0, none⟩) 1 1, 1, cs⟩ :: ⟨34, 1, .slice (some ⟨ob, 0, none⟩) m oc, m, ks.map (·.v)⟩ :: (G ++ (ks.drop (i + 1) ++ ((N ++ (Z ++ N2)) ++ rest))))))) := hid (by
            rw [List.append_assoc]; exact hR4)
          have HP4 : Hid (Pre (⟨50, 1, .slice (some ⟨g, 0, none⟩) (n + (t + 1)) cap, n + (t + 1), ds ++ ms⟩ :: (X ++ E)) 1 (.slice va n vc) n xs) := hid (HPX.out.swap hpre (fun x hx => hx))
          clear htwo hR4 hpre HR3 HMO HRX HPX HMX
          go_wp2_with fail
          go_roundw
          case rel => exact ⟨t + 1, _, _, X ++ E, Z ++ N2, ds ++ ms, by go_num, rfl, by omega, by rw [List.length_append, HDL.out, HML.out]; omega, HR4.out, HP4.out, HM2.out⟩
          case measure => simp [intOf]; omega
        · obtain rfl : t = 16 := by omega
          have HMK : Hid (Calls Tryz.prog 124 #[.int .i64 (i : Int), .int .i64 ((n + 16 : Nat) : Int), .int .i64 80] wr fun e w' => ∃ (v : Value) (cs : List Value) (N : List Rw), e = .returned v ∧ cs.length = 80 ∧ Rws wr w' (⟨50, 1, v, 80, cs⟩ :: N) ∧ MkInR N i (n + 16) cs) := hid (markR_any (n := 80) (by omega) (by omega) (by omega))
          go_wp2_with fail
          refine HMK.out.mono ?_
          rintro e w3 ⟨mv, ms, N2, rfl, hml, hmo, hmM⟩
          have hmw : w3.ownsRow wr.heap.size 50 1 mv 80 ms := hmo.get (i := 0) rfl
          obtain ⟨mg, mc, rfl, _⟩ := hmw.form (by omega)
          have HR3 : Hid (Rws w0 w3 (⟨50, 1, .slice la (n + 16) lc, n + 16, ds⟩ :: (E ++ (⟨34, 1, v3, i, gs⟩ :: ⟨45, 22, .slice (some ⟨bb, 0, none⟩) 1 1, 1, cs⟩ :: ⟨34, 1, .slice (some ⟨ob, 0, none⟩) m oc, m, ks.map (·.v)⟩ :: (G ++ (ks.drop (i + 1) ++ ((N ++ (Z ++ N2)) ++ rest))))))) := hid (((HRX.out.join hmo).sub (List.sublist_cons_self _ _)).perm (by
            have hp := perm_rot N2 (⟨50, 1, .slice la (n + 16) lc, n + 16, ds⟩ :: (E ++ (⟨34, 1, v3, i, gs⟩ :: ⟨45, 22, .slice (some ⟨bb, 0, none⟩) 1 1, 1, cs⟩ :: ⟨34, 1, .slice (some ⟨ob, 0, none⟩) m oc, m, ks.map (·.v)⟩ :: (G ++ ks.drop (i + 1))))) (N ++ Z) rest
            simp only [List.append_assoc, List.cons_append] at hp ⊢
            exact hp))
          have HMO := hid hmw; have HML := hid hml; have HM1 := hid (hmM.one hmo (fun r hr => List.mem_cons_of_mem _ hr))
          have HM2 : Hid (MkInR (M ++ (N ++ (Z ++ N2))) i 0 (ds ++ ms)) := hid ((HMX.out.mono (fun x hx => by simp only [List.mem_append] at hx ⊢; rcases hx with h | h | h <;> simp [h])).app (by
            rw [Nat.zero_add, HDL.out]
            exact hmM.mono (fun x hx => by simp only [List.mem_append]; exact .inr (.inr (.inr hx)))))
          have HDM : Hid ((ds ++ ms).length = n + 16 + 80) := hid (by rw [List.length_append, HDL.out, hml])
          clear hmo hmw HMK hmM hml HRX HMX
          go_wp2_with (first
            | (at_builtin; refine wpList_two rfl _ _ 34 rfl rowII_bk (base := w0.heap.size) rfl (HR3.out.get (i := 0) rfl) ⟨mg, 0, none⟩ 80 mc ms rfl (by rw [HML.out]) (HMO.out.cells rfl) HM1.out (by omega) (by dsimp only; omega) (by dsimp only; unfold maxLen; omega) ?_; intro g cap w4 htwo; (obtain ⟨X, hR4, hpre⟩ := HR3.out.grow2 htwo); have HR4 : Hid (Rws w0 w4 (⟨34, 1, v3, i, gs⟩ :: ⟨45, 22, .slice (some ⟨bb, 0, none⟩) 1 1, 1, cs⟩ :: ⟨34, 1, .slice (some ⟨ob, 0, none⟩) m oc, m, ks.map (·.v)⟩ :: ((G ++ (⟨50, 1, .slice (some ⟨g, 0, none⟩) (n + 16 + 80) cap, n + 16 + 80, ds ++ ms⟩ :: (X ++ E))) ++ (ks.drop (i + 1) ++ ((N ++ (Z ++ N2)) ++ rest))))) := hid (hR4.perm (by rw [← List.append_assoc]; exact perm_rot (_ :: (X ++ E)) [⟨34, 1, v3, i, gs⟩, ⟨45, 22, .slice (some ⟨bb, 0, none⟩) 1 1, 1, cs⟩, ⟨34, 1, .slice (some ⟨ob, 0, none⟩) m oc, m, ks.map (·.v)⟩] G (ks.drop (i + 1) ++ ((N ++ (Z ++ N2)) ++ rest)))); have HPR := hid hpre; clear htwo hR4 hpre HR3 HMO)
            | (at_builtin; refine wpList_lie rfl _ _ 41 rfl rowRO_bk (base := w0.heap.size) (by have := HR4.out.bel.size; simp; omega) rfl ((HR4.out.alloc _).get (i := 0) rfl) ⟨w4.heap.size, 0, none⟩ 1 1 [.slice (some ⟨g, 0, none⟩) (n + 16 + 80) cap] rfl rfl (cells1 (by simp [go_sem])) (by simp [Value.oneCell']) (by omega) (by dsimp only; omega) (by dsimp only; unfold maxLen; omega) w4.heap.size (by simp) ?_; intro g2 cap2 w6 hown6 hg6 hgg6 _))
          have HR6 : Hid (Rws w0 w6 (⟨34, 1, .slice (some ⟨g2, 0, none⟩) (i + 1) cap2, i + 1, gs ++ [.slice (some ⟨g, 0, none⟩) (n + 16 + 80) cap]⟩ :: ⟨45, 22, .slice (some ⟨bb, 0, none⟩) 1 1, 1, cs⟩ :: ⟨34, 1, .slice (some ⟨ob, 0, none⟩) m oc, m, ks.map (·.v)⟩ :: ((G ++ (⟨50, 1, .slice (some ⟨g, 0, none⟩) (n + 16 + 80) cap, n + 16 + 80, ds ++ ms⟩ :: (X ++ E))) ++ (ks.drop (i + 1) ++ ((N ++ (Z ++ N2)) ++ rest))))) := hid (HR4.out.grown ((Below.refl w4.heap.size w4).alloc (Nat.le_refl _) _) 0 rfl hown6 hg6 (fun b hb => by simp only [Value.ownBlock, Option.some.injEq] at hb; subst hb; exact hgg6))
          clear hown6 hg6 hgg6
          go_wp2_with fail
          go_roundw
          case rel => exact ⟨i + 1, gs ++ [.slice (some ⟨g, 0, none⟩) (n + 16 + 80) cap], G ++ (⟨50, 1, .slice (some ⟨g, 0, none⟩) (n + 16 + 80) cap, n + 16 + 80, ds ++ ms⟩ :: (X ++ E)), N ++ (Z ++ N2), _, rfl, by go_num, by omega, by simp [HGS.out], HR6.out, HOK.out.step (fun r hr => by simp only [List.mem_append] at hr ⊢; rcases hr with h | h <;> simp [h]) HGS.out HR.out HDM.out
            ⟨_, List.mem_cons_self, rfl, _, _, _, rfl, rfl, Nat.le_refl _, List.take_of_length_le (by rw [HDM.out]; dsimp only; omega)⟩ (HPX.out.swap HPR.out (fun x hx => hx)) HM2.out⟩
          case measure => simp [intOf]; omega
    · obtain rfl : m = i := by omega
      have HRW := hid hRw
      clear hRw
      go_wp2_with fail
      go_ret
      refine ⟨_, gs, G, N, rfl, HGS.out, ?_, HOK.out⟩
      have := HRW.out
      rw [List.drop_of_length_le (by rw [← HM.out]; exact Nat.le_refl _)] at this
      exact this
end Go.Proofs.YtbaccmlfnbgehaaGreatDoor

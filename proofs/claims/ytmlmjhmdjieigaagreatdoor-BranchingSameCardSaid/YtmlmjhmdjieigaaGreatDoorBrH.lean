/-
  branching.Steps of a right system and its classes.
-/
import Derived.Test.YtmlmjhmdjieigaaGreatDoorBrO
import Derived.Test.YtmlmjhmdjieigaaGreatDoorBrB
import Derived.Test.YtmlmjhmdjieigaaGreatDoorTauI
import Derived.Test.YtmlmjhmdjieigaaGreatDoorTauK
import Derived.Test.YtmlmjhmdjieigaaGreatDoorGTauH
namespace Go.Proofs.YtmlmjhmdjieigaaGreatDoor
open Go.RowKit Pl

set_option maxRecDepth 100000 in
set_option maxHeartbeats 16000000 in
theorem stepsB_any {p : Addr} {s : Lts} {n : Nat} (hr : s.Right) (hn : s.st = (n : Int)) (hel : s.es.length ≤ 900) {a : Option Addr} {b off c : Nat} {w : World} (hG : GErr 10 p w) (hS : SlAt encE 3 w a b off s.es)
    {C : Nat → Int} {ca : Option Addr} {cb co cc : Nat} (hC : SlAt encI 1 w ca cb co (fl n C)) (hcl : clB (n : Int) (fl n C) = true) (hwf : ∀ x ∈ fl n C, (Lit.int .i64 x).wf = true) :
    Calls Tryz.prog 10 #[.agg #[.int .i64 s.st, .int .i64 s.lb, .int .i64 s.s0, .slice a s.es.length c], .slice ca n cc] w fun e w' => ∃ (tb base : Nat) (F : Nat → List S), e = .returned (.tuple #[.slice (some ⟨tb, 0, none⟩) n n, .nilIface]) ∧ OwnRows encS 2 65 36 w' base tb n F ∧ w.heap.size ≤ tb ∧ base ≤ w'.heap.size ∧ Below w.heap.size w w' ∧ ∀ p, p < n → SigOk s.norm C p (F p) := by
  have hst := hr.st0
  have hn1 : n ≤ 1000 := by omega
  have hB0 := (Below.refl w.heap.size w).alloc (Nat.le_refl _) (Obj.cells #[.int .i64 s.st, .int .i64 s.lb, .int .i64 s.s0, .slice a s.es.length c] 24)
  have hbx := heap_alloc_new w (Obj.cells #[.int .i64 s.st, .int .i64 s.lb, .int .i64 s.s0, .slice a s.es.length c] 24)
  have HAK := Lib.hid (askedB_any (c := c) (cc := cc) hr hn (hG.below hB0) (hS.below hB0 (Nat.le_refl _)) (hC.below hB0 (Nat.le_refl _)) (fl_len _ _) hcl hwf)
  obtain ⟨el, hel2⟩ : ∃ el, el = s.es.length := ⟨_, rfl⟩
  have HG := Lib.hid hG; have HS := Lib.hid hS; have HC := Lib.hid hC; have HB0 := Lib.hid hB0; have HBX := Lib.hid hbx; have HR := Lib.hid hr; have HN := Lib.hid hn; have HEL := Lib.hid hel2; have HE := Lib.hid hel
  have hel9 : el ≤ 900 := by omega
  rw [hn] at HAK HB0 HBX ⊢
  rw [← hel2] at HAK HB0 HBX ⊢
  clear hG hS hC hB0 hbx hr hn hst hcl hwf hel2 hel
  go_enter Tryz.func10, Tryz.ntmps10
  go_wp2_with fail
  refine HAK.out.mono ?_
  rintro e w1 ⟨gb, rfl, hgr, hB1⟩
  have hb1 := HB0.out.trans (hB1.mono (by simp))
  have hx1 := (hB1.block w.heap.size (by simp)).trans HBX.out
  obtain ⟨x0, x1, x2, x3, x4⟩ := sysC hx1
  have HB1 := Lib.hid hb1; have HX1 := Lib.hid hx1; have HGR := Lib.hid hgr
  clear hB1 hb1 hx1 hgr HAK HB0 HBX
  go_upto_region 6 with fail
  obtain ⟨O, hO⟩ : ∃ O, O = w1.heap.size := ⟨_, rfl⟩
  have hox := heap_alloc_new w1 (Obj.cells #[.int .i64 n, .int .i64 s.lb, .int .i64 s.s0, .slice none 0 0] 24)
  obtain ⟨W2, hW2⟩ : ∃ W2, W2 = w1.alloc (Obj.cells #[.int .i64 n, .int .i64 s.lb, .int .i64 s.s0, .slice none 0 0] 24) := ⟨_, rfl⟩
  have hb12 : Below O w1 W2 := by rw [hW2, hO]; exact (Below.refl _ _).alloc (Nat.le_refl _) _
  have hOl : O < W2.heap.size := by rw [hW2, hO]; simp
  rw [← hW2, ← hO] at hox
  rw [← hW2, ← hO]
  have hw1O : w.heap.size < O := by omega
  have HOE := Lib.hid hO
  have hK : KW W2 W2 O n s.lb s.s0 (.slice none 0 0) ((s.es.take 0).filter (inertE C)) := ⟨fun _ _ _ => rfl, Below.refl _ _, hox, by simpa using World.ownsRow_nil _ _ _ _, hOl⟩
  have HK := Lib.hid hK
  have HB12 := Lib.hid hb12
  have HBW : RowKit.Hid (∀ wx, Below O W2 wx → Below w.heap.size w wx) := Lib.hid (fun wx hx => (HB1.out.trans (HB12.out.mono (by omega))).trans (hx.mono (by omega)))
  have HBO : RowKit.Hid (∀ wx, Below O W2 wx → Below w1.heap.size w1 wx) := Lib.hid (fun wx hx => by rw [← HOE.out]; exact HB12.out.trans hx)
  have hx2 : W2.heap[w.heap.size]? = w1.heap[w.heap.size]? := HB12.out.block _ hw1O
  have HX2 : RowKit.Hid (W2.heap[w.heap.size]? = some (.cells #[.int .i64 n, .int .i64 s.lb, .int .i64 s.s0, .slice a el c] 24 (0, 0))) := Lib.hid (hx2.trans HX1.out)
  clear hox hb12 hK hx2 hW2 hO x0 x1 x2 x3
  obtain ⟨x0, x1, x2, x3, x4'⟩ := sysC HX2.out
  go_wp2_with fail
  clear x0 x1 x2 x3 x4'
  go_loopw [10, 29] (fun _ v29 wx => ∃ (k : Nat) (v : Value), v29 = .int .i64 k ∧ k ≤ el ∧ KW W2 wx O n s.lb s.s0 v ((s.es.take k).filter (inertE C))) (fun _ v29 _ => el - (intOf v29).toNat)
  case atStart => exact ⟨0, _, rfl, Nat.zero_le _, HK.out⟩
  case round =>
    obtain ⟨k, v, rfl, hk, hkw⟩ := hrel
    have HKW := Lib.hid hkw
    have hszx := hkw.bel.size
    have HBX := Lib.hid (HBW.out _ hkw.bel)
    have hOlr : O < wr.heap.size := by omega
    clear hkw HK
    by_cases hlt : k < el
    · obtain ⟨x, hx⟩ := getElem?_of_lt (xs := s.es) (i := k) (by rw [← HEL.out]; exact hlt)
      have hse := HS.out.below HBX.out (Nat.le_refl _)
      obtain rfl := hse.ad (by rw [← HEL.out]; omega)
      have d0 := hse.e0 hx; have d1 := hse.e1 hx; have d2 := hse.e2 hx
      have dl := hse.lt (by rw [← HEL.out]; omega)
      have hxr := offB_false.1 (HR.out.edges x (List.mem_of_getElem? hx))
      have hstn := HN.out
      have hct : (s.es.take (k + 1)).filter (inertE C) = (s.es.take k).filter (inertE C) ++ (if inertE C x then [x] else []) := by
        rw [take_snoc hx, List.filter_append]
        by_cases h : inertE C x <;> simp [h]
      have hcl2 : ((s.es.take k).filter (inertE C)).length ≤ 900 := by
        have h1 := List.length_filter_le (inertE C) (s.es.take k)
        rw [List.length_take] at h1; omega
      obtain ⟨x1', x2', x3'⟩ := x
      simp only at hxr d0 d1 d2
      obtain ⟨i1, rfl⟩ := Int.eq_ofNat_of_zero_le hxr.1
      obtain ⟨i3, rfl⟩ := Int.eq_ofNat_of_zero_le hxr.2.2.2.2.1
      have h1n : i1 < n := by omega
      have h3n : i3 < n := by omega
      have HCT := Lib.hid hct
      obtain ⟨Lk, hLk⟩ : ∃ Lk, Lk = (s.es.take k).filter (inertE C) := ⟨_, rfl⟩
      rw [← hLk] at HKW HCT hcl2
      have hki : (k : Int) < (el : Int) := by omega
      have hba := (Below.refl wr.heap.size wr).alloc (Nat.le_refl _) (.cells #[.int .i64 (i1 : Int), .int .i64 x2', .int .i64 (i3 : Int)] 54)
      have hA0 := heap_alloc_new wr (.cells #[.int .i64 (i1 : Int), .int .i64 x2', .int .i64 (i3 : Int)] 54)
      have HIN := Lib.hid (inert_any (c := cc) (HC.out.below (HBX.out.trans (hba.mono HBX.out.size)) (Nat.le_refl _)) h1n h3n x2')
      have HBA := Lib.hid hba; have HA0 := Lib.hid hA0
      clear hse hx hxr hstn hct hLk hba hA0
      go_wp2_with fail
      refine HIN.out.mono ?_
      rintro e V ⟨rfl, hBV⟩
      have hbv := HBA.out.trans (hBV.mono (by simp))
      have hKV := HKW.out.call hbv
      have hav := (hBV.block wr.heap.size (by simp)).trans HA0.out
      have e0 : V.cell? ⟨wr.heap.size, 0, none⟩ = some (.int .i64 (i1 : Int)) := by simp [World.cell?, hav]
      have e1 : V.cell? ⟨wr.heap.size, 1, none⟩ = some (.int .i64 x2') := by simp [World.cell?, hav]
      have e2 : V.cell? ⟨wr.heap.size, 2, none⟩ = some (.int .i64 (i3 : Int)) := by simp [World.cell?, hav]
      have el2 := (Array.getElem?_eq_some_iff.1 hav).1
      obtain ⟨o0, o1, o2, o3, of3⟩ := hKV.cells
      have hOl2 : O < V.heap.size := by have := hbv.size; omega
      have HKV := Lib.hid hKV
      clear hBV hbv hKV hav HIN HA0 HBA d0 d1 d2 dl HKW HBX
      obtain ⟨bt, hbt⟩ : ∃ bt, bt = (decide (x2' = 0) && decide (C i3 = C i1)) := ⟨_, rfl⟩
      have hie : inertE C ((i1 : Int), x2', (i3 : Int)) = bt := by rw [hbt]; rfl
      have hct2 := HCT.out
      rw [hie] at hct2
      rw [← hbt]
      clear hbt hie HCT
      cases bt with
      | false =>
        have HCT2 := Lib.hid hct2
        clear hct2
        go_wp2_with fail
        go_roundw
        case rel => exact ⟨k + 1, v, by go_num, by omega, by rw [HCT2.out]; simpa using HKV.out⟩
        case measure => simp [intOf]; omega
      | true =>
        have HCT2 := Lib.hid hct2
        have hown2 : (V.alloc (.cells #[.int .i64 (i1 : Int), .int .i64 x2', .int .i64 (i3 : Int)] 54)).ownsRow W2.heap.size 54 3 v Lk.length (Lk.flatMap encE) := HKV.out.own.alloc _
        have hBz : W2.heap.size ≤ (V.alloc (.cells #[.int .i64 (i1 : Int), .int .i64 x2', .int .i64 (i3 : Int)] 54)).heap.size := by have := HKV.out.bel.size; simp; omega
        have HOWN2 := Lib.hid hown2; have HBZ := Lib.hid hBz
        clear hown2 hBz hct2
        go_wp2_with (at_builtin; go_must (refine wpList_app1 rfl _ _ _ rfl rowE (Below.refl _ _) HBZ.out (by rfl) HOWN2.out ⟨V.heap.size, 0, none⟩ 1 1 [.int .i64 (i1 : Int), .int .i64 x2', .int .i64 (i3 : Int)] rfl rfl (newV (e := ((i1 : Int), x2', (i3 : Int))) (heap_alloc_new V _)) (by simp [Value.oneCell']) (by decide) (by omega) (by unfold maxLen; omega) ?_); intro g2 cap2 w7 hown7 _ hg7; have kp := KW.keepc (HKV.out.call ((Below.refl _ _).alloc (Nat.le_refl _) _)) hg7; have kp0 := kp.1; have kp1 := kp.2; have kp2 : O < w7.heap.size := (World.block_lt_of_cell? _ _ kp0); clear kp)
        have h8 := KW.setEs (v' := .slice (some ⟨g2, 0, none⟩) (Lk.length + 1) cap2) (es' := Lk ++ [((i1 : Int), x2', (i3 : Int))]) (HKV.out.call ((Below.refl _ _).alloc (Nat.le_refl _) _)) (by rw [List.length_append, List.flatMap_append]; exact hown7) hg7
        have H8 := Lib.hid h8
        clear h8 hown7 hg7 kp0 kp1 kp2
        go_roundw
        case rel => exact ⟨k + 1, _, by go_num, by omega, by rw [HCT2.out]; exact H8.out⟩
        case measure => simp [intOf]; omega
    · obtain rfl : k = el := by omega
      obtain ⟨t, ht⟩ : ∃ t, t = stillS s C := ⟨_, rfl⟩
      have hte : (s.es.take k).filter (inertE C) = t.es := by rw [HEL.out, List.take_length, ht]; rfl
      have htr : t.Right := by rw [ht]; exact stillS_right HR.out C
      have htn : t.st = (n : Int) := by rw [ht]; exact HN.out
      have htl : t.lb = s.lb := by rw [ht]; rfl
      have hts : t.s0 = s.s0 := by rw [ht]; rfl
      have htau : ∀ x y, tau t x y ↔ stp s.norm x 0 y ∧ C y = C x := fun x y => by rw [ht, tau_still, stp_normO]
      have hkw := HKW.out
      rw [hte] at hkw
      obtain ⟨ta, tc, tb2, rfl, _, _, htsl, _⟩ := slAt_own lenE hkw.own
      have hcy := cyclesYes_any (c := tc) htr htn (HG.out.below HBX.out) htsl
      rw [htn, htl, hts] at hcy
      have HCY := Lib.hid hcy; have HKW2 := Lib.hid hkw; have HTR := Lib.hid htr; have HTN := Lib.hid htn; have HTL := Lib.hid htl; have HTS := Lib.hid hts; have HTAU := Lib.hid htau
      obtain ⟨o0, o1, o2, o3, of3⟩ := hkw.cells
      clear ht hte htr htn htl hts htau hkw htsl hcy HKW hlt hk
      go_wp2_with fail
      refine HCY.out.mono ?_
      rintro e w5 ⟨f, v5, hcyc, rfl, hown5, hB5⟩
      obtain ⟨ya, yc, yb, rfl, _, _, hys, _⟩ := slAt_own (xs := fl n (clf n f)) lenI (by rw [fl_len]; exact hown5)
      rw [fl_len]
      have hk5 := HKW2.out.call hB5
      obtain ⟨ta5, tc5, tb5, hte5, _, _, htsl5, _⟩ := slAt_own lenE hk5.own
      have hb5 := HBW.out _ hk5.bel
      simp only [Value.slice.injEq] at hte5
      obtain ⟨rfl, _, rfl⟩ := hte5
      have hord := orderYes_any (c := tc) HTR.out HTN.out (HG.out.below hb5) htsl5
      rw [HTN.out, HTL.out, HTS.out] at hord
      have HORD := Lib.hid hord; have HK5 := Lib.hid hk5; have HYS := Lib.hid hys; have HCYC := Lib.hid hcyc
      have hs5 := hk5.bel.size
      clear o0 o1 o2 o3 of3 hown5 hB5 hys hk5 htsl5 hb5 hord hcyc HCY HKW2 HBX
      obtain ⟨o0, o1, o2, o3, of3⟩ := HK5.out.cells
      have hOl5 : O < w5.heap.size := by omega
      go_wp2_with fail
      refine HORD.out.mono ?_
      unfold OrdPost
      rintro e w6 ⟨g, D, v6, hg6, hD6, hall6, rfl, hown6, hB6⟩
      obtain ⟨hblk, hfg⟩ := BlkO.of_ord HTR.out HTN.out HCYC.out hg6 hD6 hall6
      rw [hfg, ordO_K] at hown6
      have hol : ((ordO n f D).map Int.ofNat).length = n := by rw [List.length_map]; exact hblk.len
      obtain ⟨oa, oc, ob, rfl, _, _, hos, _⟩ := slAt_own (xs := (ordO n f D).map Int.ofNat) lenI (by rw [hol]; exact hown6)
      rw [hol]
      have hk6 := HK5.out.call hB6
      have hbw6 := HBW.out _ hk6.bel
      have HOF := Lib.hid (ofCycles_any (cc := cc) (yc := yc) (oc := oc) (HGR.out.below (HBO.out _ hk6.bel)) HR.out.norm HN.out hblk HTAU.out (Nat.le_trans (length_nf s.es) HE.out) (HC.out.below hbw6 (Nat.le_refl _)) (HYS.out.below hB6 (Nat.le_refl _)) hos)
      have HB6 := Lib.hid hbw6
      clear o0 o1 o2 o3 of3 hg6 hD6 hall6 hown6 hB6 hblk hfg hol hos hk6 hbw6 HORD HK5 HYS HCYC
      go_wp2_with fail
      refine HOF.out.mono ?_
      rintro e w7 ⟨tb, base, F, rfl, hrows, htb, hbs, hB7, hF⟩
      have HRW := Lib.hid hrows; have HB7 := Lib.hid (HB6.out.trans (hB7.mono HB6.out.size)); have HF := Lib.hid hF
      have htb2 : w.heap.size ≤ tb := by have := HB6.out.size; omega
      clear hrows hB7 hF HOF
      go_wp2_with fail
      go_ret2
      exact ⟨tb, base, F, rfl, HRW.out, htb2, hbs, HB7.out, HF.out⟩
end Go.Proofs.YtmlmjhmdjieigaaGreatDoor

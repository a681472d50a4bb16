/-
 Lemmas.
-/
import Derived.Test.YtebmlhaoeldhkaaGreatDoorBrO
import Derived.Test.YtebmlhaoeldhkaaGreatDoorBrB
import Derived.Test.YtebmlhaoeldhkaaGreatDoorTauI
import Derived.Test.YtebmlhaoeldhkaaGreatDoorTauK
import Derived.Test.YtebmlhaoeldhkaaGreatDoorGTauG
import Derived.Test.YtebmlhaoeldhkaaGreatDoorGBrP
import Derived.Test.YtebmlhaoeldhkaaGreatDoorGBrQ
import Derived.Test.YtebmlhaoeldhkaaGreatDoorGBrV
import Derived.Test.YtebmlhaoeldhkaaGreatDoorGAs
import Derived.Test.YtebmlhaoeldhkaaGreatDoorGTold
import Derived.Test.YtebmlhaoeldhkaaGreatDoorGGraphA
import Derived.Test.YtebmlhaoeldhkaaGreatDoorGPl12
import Derived.Deep.DeepMust
import Derived.Deep.RegionHeld3
import Derived.Test.YtebmlhaoeldhkaaGreatDoorGBkBop
import Derived.Test.YtebmlhaoeldhkaaGreatDoorGFault
import Derived.Deep.Cut
import Derived.Deep.CutRange
import Derived.Deep.QuietTactic
import Derived.BigQuiet
import Derived.IntWalk
set_option maxRecDepth 100000
namespace Go.Proofs.YtebmlhaoeldhkaaGreatDoor
open Go.RowKit Pl
open Lib (hid)
set_option maxHeartbeats 16000000 in
theorem stepsB_any {p : Addr} {s : Lts} {n : Nat} (hr : s.Right) (hn : s.st = (n : Int)) (hel : s.es.length <= 900) {a : Option Addr} {b off c : Nat} {w : World} (hG : GErr 0 p w) (hS : SlAt encE 3 w a b off s.es)
   {C : Nat -> Int} {ca : Option Addr} {cb co cc : Nat} (hC : SlAt encI 1 w ca cb co (fl n C)) (hcl : clB (n : Int) (fl n C) = true) (hwf : ∀ x ∈ fl n C, (Lit.int .i64 x).wf = true) :
   Calls Tryz.prog 21 #[.agg #[.int .i64 s.st, .int .i64 s.lb, .int .i64 s.s0, .slice a s.es.length c], .slice ca n cc] w fun e w' => ∃ (tb base : Nat) (F : Nat -> List S), e = .returned (.tuple #[.slice (some ⟨tb, 0, none⟩) n n, .nilIface]) /\ OwnRows encS 2 117 78 w' base tb n F /\ w.heap.size <= tb /\ base <= w'.heap.size /\ Below w.heap.size w w' /\ ∀ p, p < n -> SigOk s.norm C p (F p) := by
 have hst := hr.st0
 have hn1 : n <= 1000 := by omega
 have hB0 := (Below.refl w.heap.size w).alloc (Nat.le_refl _) (Obj.cells #[.int .i64 s.st, .int .i64 s.lb, .int .i64 s.s0, .slice a s.es.length c] 24)
 have hbx := heap_alloc_new w (Obj.cells #[.int .i64 s.st, .int .i64 s.lb, .int .i64 s.s0, .slice a s.es.length c] 24)
 have HAK := hid (askedB_any (c := c) (cc := cc) hr hn (hG.below hB0) (hS.below hB0 (Nat.le_refl _)) (hC.below hB0 (Nat.le_refl _)) (fl_len _ _) hcl hwf)
 obtain ⟨el, hel2⟩ : ∃ el, el = s.es.length := ⟨_, rfl⟩
 have HG := hid hG; have HS := hid hS; have HC := hid hC; have HB0 := hid hB0; have HBX := hid hbx; have HR := hid hr; have HN := hid hn; have HEL := hid hel2; have HE := hid hel
 have hel9 : el <= 900 := by omega
 rw [hn] at HAK HB0 HBX ⊢
 rw [<- hel2] at HAK HB0 HBX ⊢
 clear hG hS hC hB0 hbx hr hn hst hcl hwf hel2 hel
 go_enter Tryz.func21, Tryz.ntmps21
 go_wp2_with fail
 refine HAK.out.mono ?_
 rintro e w1 ⟨gb, rfl, hgr, hB1⟩
 have hb1 := HB0.out.trans (hB1.mono (by simp))
 have hx1 := (hB1.block w.heap.size (by simp)).trans HBX.out
 obtain ⟨x0, x1, x2, x3, x4⟩ := sysC hx1
 have HB1 := hid hb1; have HX1 := hid hx1; have HGR := hid hgr
 clear hB1 hb1 hx1 hgr HAK HB0 HBX
 go_upto_region 6 with fail
 obtain ⟨O, hO⟩ : ∃ O, O = w1.heap.size := ⟨_, rfl⟩
 have hox := heap_alloc_new w1 (Obj.cells #[.int .i64 n, .int .i64 s.lb, .int .i64 s.s0, .slice none 0 0] 24)
 obtain ⟨W2, hW2⟩ : ∃ W2, W2 = w1.alloc (Obj.cells #[.int .i64 n, .int .i64 s.lb, .int .i64 s.s0, .slice none 0 0] 24) := ⟨_, rfl⟩
 have hb12 : Below O w1 W2 := by rw [hW2, hO]; exact (Below.refl _ _).alloc (Nat.le_refl _) _
 have hOl : O < W2.heap.size := by rw [hW2, hO]; simp
 rw [<- hW2, <- hO] at hox
 rw [<- hW2, <- hO]
 have hw1O : w.heap.size < O := by omega
 have HOE := hid hO
 have hK : KW W2 W2 O n s.lb s.s0 (.slice none 0 0) ((s.es.take 0).filter (inertE C)) := ⟨fun _ _ _ => rfl, Below.refl _ _, hox, by simpa using World.ownsRow_nil _ _ _ _, hOl⟩
 have HK := hid hK
 have HB12 := hid hb12
 have HBW : Hid (∀ wx, Below O W2 wx -> Below w.heap.size w wx) := hid (fun wx hx => (HB1.out.trans (HB12.out.mono (by omega))).trans (hx.mono (by omega)))
 have HBO : Hid (∀ wx, Below O W2 wx -> Below w1.heap.size w1 wx) := hid (fun wx hx => by rw [<- HOE.out]; exact HB12.out.trans hx)
 have hx2 : W2.heap[w.heap.size]? = w1.heap[w.heap.size]? := HB12.out.block _ hw1O
 have HX2 : Hid (W2.heap[w.heap.size]? = some (.cells #[.int .i64 n, .int .i64 s.lb, .int .i64 s.s0, .slice a el c] 24 (0, 0))) := hid (hx2.trans HX1.out)
 clear hox hb12 hK hx2 hW2 hO x0 x1 x2 x3
 obtain ⟨x0, x1, x2, x3, x4'⟩ := sysC HX2.out
 go_wp2_with fail
 clear x0 x1 x2 x3 x4'
 go_loopw [10, 29] (fun _ v29 wx => ∃ (k : Nat) (v : Value), v29 = .int .i64 k /\ k <= el /\ KW W2 wx O n s.lb s.s0 v ((s.es.take k).filter (inertE C))) (fun _ v29 _ => el - (intOf v29).toNat)
 case atStart => exact ⟨0, _, rfl, Nat.zero_le _, HK.out⟩
 case round =>
   obtain ⟨k, v, rfl, hk, hkw⟩ := hrel
   have HKW := hid hkw
   have hszx := hkw.bel.size
   have HBX := hid (HBW.out _ hkw.bel)
   have hOlr : O < wr.heap.size := by omega
   clear hkw HK
   by_cases hlt : k < el
   · obtain ⟨x, hx⟩ := getElem?_of_lt (xs := s.es) (i := k) (by rw [<- HEL.out]; exact hlt)
     have hse := HS.out.below HBX.out (Nat.le_refl _)
     obtain rfl := hse.ad (by rw [<- HEL.out]; omega)
     have d0 := hse.e0 hx; have d1 := hse.e1 hx; have d2 := hse.e2 hx
     have dl := hse.lt (by rw [<- HEL.out]; omega)
     have hxr := offB_false.1 (HR.out.edges x (List.mem_of_getElem? hx))
     have hstn := HN.out
     have hct : (s.es.take (k + 1)).filter (inertE C) = (s.es.take k).filter (inertE C) ++ (if inertE C x then [x] else []) := by
       rw [take_snoc hx, List.filter_append]
       by_cases h : inertE C x <;> simp [h]
     have hcl2 : ((s.es.take k).filter (inertE C)).length <= 900 := by
       have h1 := List.length_filter_le (inertE C) (s.es.take k)
       rw [List.length_take] at h1; omega
     obtain ⟨x1', x2', x3'⟩ := x
     simp only at hxr d0 d1 d2
     obtain ⟨i1, rfl⟩ := Int.eq_ofNat_of_zero_le hxr.1
     obtain ⟨i3, rfl⟩ := Int.eq_ofNat_of_zero_le hxr.2.2.2.2.1
     have h1n : i1 < n := by omega
     have h3n : i3 < n := by omega
     have HCT := hid hct
     obtain ⟨Lk, hLk⟩ : ∃ Lk, Lk = (s.es.take k).filter (inertE C) := ⟨_, rfl⟩
     rw [<- hLk] at HKW HCT hcl2
     have hki : (k : Int) < (el : Int) := by omega
     have hba := (Below.refl wr.heap.size wr).alloc (Nat.le_refl _) (.cells #[.int .i64 (i1 : Int), .int .i64 x2', .int .i64 (i3 : Int)] 74)
     have hA0 := heap_alloc_new wr (.cells #[.int .i64 (i1 : Int), .int .i64 x2', .int .i64 (i3 : Int)] 74)
     have HIN := hid (inert_any (c := cc) (HC.out.below (HBX.out.trans (hba.mono HBX.out.size)) (Nat.le_refl _)) h1n h3n x2')
     have HBA := hid hba; have HA0 := hid hA0
     clear hse hx hxr hstn hct hLk hba hA0
     go_wp2_with fail
     refine HIN.out.mono ?_
     rintro e V ⟨rfl, hBV⟩
     have hbv := HBA.out.trans (hBV.mono (by simp))
     have hKV := HKW.out.call hbv
     have hav := (hBV.block wr.heap.size (by simp)).trans HA0.out
     have e0 : V.cell? ⟨wr.heap.size, 0, none⟩ = some (.int .i64 (i1 : Int)) := by simp [World.cell?, hav]
     have e1 : V.cell? ⟨wr.heap.size, 1, none⟩ = some (.int .i64 x2') := by simp [World.cell?, hav]
     have e2 : V.cell? ⟨wr.heap.size, 2, none⟩ = some (.int .i64 (i3 : Int)) := by simp [World.cell?, hav]
     have el2 := (Array.getElem?_eq_some_iff.1 hav).1
     obtain ⟨o0, o1, o2, o3, of3⟩ := hKV.cells
     have hOl2 : O < V.heap.size := by have := hbv.size; omega
     have HKV := hid hKV
     clear hBV hbv hKV hav HIN HA0 HBA d0 d1 d2 dl HKW HBX
     obtain ⟨bt, hbt⟩ : ∃ bt, bt = (decide (x2' = 0) && decide (C i3 = C i1)) := ⟨_, rfl⟩
     have hie : inertE C ((i1 : Int), x2', (i3 : Int)) = bt := by rw [hbt]; rfl
     have hct2 := HCT.out
     rw [hie] at hct2
     rw [<- hbt]
     clear hbt hie HCT
     cases bt with
     | false =>
       have HCT2 := hid hct2
       clear hct2
       go_wp2_with fail
       go_roundw
       case rel => exact ⟨k + 1, v, by go_num, by omega, by rw [HCT2.out]; simpa using HKV.out⟩
       case measure => simp [intOf]; omega
     | true =>
       have HCT2 := hid hct2
       have hown2 : (V.alloc (.cells #[.int .i64 (i1 : Int), .int .i64 x2', .int .i64 (i3 : Int)] 74)).ownsRow W2.heap.size 74 3 v Lk.length (Lk.flatMap encE) := HKV.out.own.alloc _
       have hBz : W2.heap.size <= (V.alloc (.cells #[.int .i64 (i1 : Int), .int .i64 x2', .int .i64 (i3 : Int)] 74)).heap.size := by have := HKV.out.bel.size; simp; omega
       have HOWN2 := hid hown2; have HBZ := hid hBz
       clear hown2 hBz hct2
       go_wp2_with (at_builtin; go_must (refine wpList_app1 rfl _ _ _ rfl rowE (Below.refl _ _) HBZ.out (by rfl) HOWN2.out ⟨V.heap.size, 0, none⟩ 1 1 [.int .i64 (i1 : Int), .int .i64 x2', .int .i64 (i3 : Int)] rfl rfl (newV (e := ((i1 : Int), x2', (i3 : Int))) (heap_alloc_new V _)) (by simp [Value.oneCell']) (by decide) (by omega) (by unfold maxLen; omega) ?_); intro g2 cap2 w7 hown7 _ hg7; have kp := KW.keepc (HKV.out.call ((Below.refl _ _).alloc (Nat.le_refl _) _)) hg7; have kp0 := kp.1; have kp1 := kp.2; have kp2 : O < w7.heap.size := (World.block_lt_of_cell? _ _ kp0); clear kp)
       have h8 := KW.setEs (v' := .slice (some ⟨g2, 0, none⟩) (Lk.length + 1) cap2) (es' := Lk ++ [((i1 : Int), x2', (i3 : Int))]) (HKV.out.call ((Below.refl _ _).alloc (Nat.le_refl _) _)) (by rw [List.length_append, List.flatMap_append]; exact hown7) hg7
       have H8 := hid h8
       clear h8 hown7 hg7 kp0 kp1 kp2
       go_roundw
       case rel => exact ⟨k + 1, _, by go_num, by omega, by rw [HCT2.out]; exact H8.out⟩
       case measure => simp [intOf]; omega
   · obtain rfl : k = el := by omega
     obtain ⟨t, ht⟩ : ∃ t, t = stillS s C := ⟨_, rfl⟩
     have hte : (s.es.take k).filter (inertE C) = t.es := by rw [HEL.out, List.take_length, ht]; rfl
     have htr : t.Right := by rw [ht]; exact stillS_right HR.out C
     have htn : t.st = (n : Int) := by rw [ht]; exact HN.out
     have htl : t.lb = s.lb := by rw [ht]; rfl
     have hts : t.s0 = s.s0 := by rw [ht]; rfl
     have htau : ∀ x y, tau t x y ↔ stp s.norm x 0 y /\ C y = C x := fun x y => by rw [ht, tau_still, stp_normO]
     have hkw := HKW.out
     rw [hte] at hkw
     obtain ⟨ta, tc, tb2, rfl, _, _, htsl, _⟩ := slAt_own lenE hkw.own
     have hcy := cyclesYes_any (c := tc) htr htn (HG.out.below HBX.out) htsl
     rw [htn, htl, hts] at hcy
     have HCY := hid hcy; have HKW2 := hid hkw; have HTR := hid htr; have HTN := hid htn; have HTL := hid htl; have HTS := hid hts; have HTAU := hid htau
     obtain ⟨o0, o1, o2, o3, of3⟩ := hkw.cells
     clear ht hte htr htn htl hts htau hkw htsl hcy HKW hlt hk
     go_wp2_with fail
     refine HCY.out.mono ?_
     rintro e w5 ⟨f, v5, hcyc, rfl, hown5, hB5⟩
     obtain ⟨ya, yc, yb, rfl, _, _, hys, _⟩ := slAt_own (xs := fl n (clf n f)) lenI (by rw [fl_len]; exact hown5)
     rw [fl_len]
     have hk5 := HKW2.out.call hB5
     obtain ⟨ta5, tc5, tb5, hte5, _, _, htsl5, _⟩ := slAt_own lenE hk5.own
     have hb5 := HBW.out _ hk5.bel
     simp only [Value.slice.injEq] at hte5
     obtain ⟨rfl, _, rfl⟩ := hte5
     have hord := orderYes_any (c := tc) HTR.out HTN.out (HG.out.below hb5) htsl5
     rw [HTN.out, HTL.out, HTS.out] at hord
     have HORD := hid hord; have HK5 := hid hk5; have HYS := hid hys; have HCYC := hid hcyc
     have hs5 := hk5.bel.size
     clear o0 o1 o2 o3 of3 hown5 hB5 hys hk5 htsl5 hb5 hord hcyc HCY HKW2 HBX
     obtain ⟨o0, o1, o2, o3, of3⟩ := HK5.out.cells
     have hOl5 : O < w5.heap.size := by omega
     go_wp2_with fail
     refine HORD.out.mono ?_
     unfold OrdPost
     rintro e w6 ⟨g, D, v6, hg6, hD6, hall6, rfl, hown6, hB6⟩
     obtain ⟨hblk, hfg⟩ := BlkO.of_ord HTR.out HTN.out HCYC.out hg6 hD6 hall6
     rw [hfg, ordO_K] at hown6
     have hol : ((ordO n f D).map Int.ofNat).length = n := by rw [List.length_map]; exact hblk.len
     obtain ⟨oa, oc, ob, rfl, _, _, hos, _⟩ := slAt_own (xs := (ordO n f D).map Int.ofNat) lenI (by rw [hol]; exact hown6)
     rw [hol]
     have hk6 := HK5.out.call hB6
     have hbw6 := HBW.out _ hk6.bel
     have HOF := hid (ofCycles_any (cc := cc) (yc := yc) (oc := oc) (HGR.out.below (HBO.out _ hk6.bel)) HR.out.norm HN.out hblk HTAU.out (Nat.le_trans (length_nf s.es) HE.out) (HC.out.below hbw6 (Nat.le_refl _)) (HYS.out.below hB6 (Nat.le_refl _)) hos)
     have HB6 := hid hbw6
     clear o0 o1 o2 o3 of3 hg6 hD6 hall6 hown6 hB6 hblk hfg hol hos hk6 hbw6 HORD HK5 HYS HCYC
     go_wp2_with fail
     refine HOF.out.mono ?_
     rintro e w7 ⟨tb, base, F, rfl, hrows, htb, hbs, hB7, hF⟩
     have HRW := hid hrows; have HB7 := hid (HB6.out.trans (hB7.mono HB6.out.size)); have HF := hid hF
     have htb2 : w.heap.size <= tb := by have := HB6.out.size; omega
     clear hrows hB7 hF HOF
     go_wp2_with fail
     go_ret2
     exact ⟨tb, base, F, rfl, HRW.out, htb2, hbs, HB7.out, HF.out⟩
end Go.Proofs.YtebmlhaoeldhkaaGreatDoor
namespace Go.Proofs.YtebmlhaoeldhkaaGreatDoor
namespace Pl
section
variable {κ : Type} [DecidableEq κ] {key : Nat -> κ} {n : Nat}
def rep (key : Nat -> κ) (i : Nat) : Nat := ((List.range (i + 1)).find? (fun j => decide (key j = key i))).getD i
def repL (key : Nat -> κ) (n : Nat) : List Int := fl n (fun i => (rep key i : Int))
end
end Pl
end Go.Proofs.YtebmlhaoeldhkaaGreatDoor
namespace Go.Proofs.YtebmlhaoeldhkaaGreatDoor
namespace Pl
def inertS (s : Lts) (C : Nat -> Int) : Lts := ⟨s.st, s.lb, s.s0, s.es.filter (fun x => decide (x.2.1 = 0) && decide (C x.2.2.toNat = C x.1.toNat))⟩
def shareE (C : Nat -> Int) (p q : Nat) (l : List S) : List E := (l.filter (fun x => !(decide (x.1 = 0) && decide (C x.2.toNat = C q)))).map (fun x => ((p : Int), x.1, C x.2.toNat))
def sigE (s : Lts) (C : Nat -> Int) (G : Nat -> Bool) (p n : Nat) : List E := (List.range n).flatMap (fun q => if G q then shareE C p q (s.outs (q : Int)) else [])
def sigR (s : Lts) (C : Nat -> Int) (G : Nat -> Bool) (p n : Nat) : List S := (nf ltE (sigE s C G p n)).map (fun x => (x.2.1, x.2.2))
section
variable {s : Lts} {C : Nat -> Int} {n p q : Nat}
theorem inertS_right (h : s.Right) : (inertS s C).Right := by
 refine ⟨?_, fun x hx => h.edges x (List.mem_filter.1 hx).1⟩
 have h1 := h.head
 have := List.length_filter_le (fun x : E => decide (x.2.1 = 0) && decide (C x.2.2.toNat = C x.1.toNat)) s.es
 unfold HeadBad inertS at *
 simp only
 omega
theorem inertS_srt (h : Srt ltE s.es) : Srt ltE (inertS s C).es := List.Pairwise.sublist List.filter_sublist h
theorem mem_inertS {x y : Nat} : tau (inertS s C) x y ↔ stp s x 0 y /\ C y = C x := by
 unfold tau inertS stp
 simp only [List.mem_filter, Bool.and_eq_true, decide_eq_true_eq, Int.toNat_natCast]
 constructor
 · rintro ⟨h1, _, h2⟩; exact ⟨h1, h2⟩
 · rintro ⟨h1, h2⟩; exact ⟨h1, trivial, h2⟩
theorem inertS_outs (i : Nat) : (inertS s C).outs (i : Int) = (s.outs (i : Int)).filter (fun y => decide (y.1 = 0) && decide (C y.2.toNat = C i)) := by
 unfold Lts.outs inertS
 simp only
 rw [List.filter_map, List.filter_filter, List.filter_filter]
 congr 1
 apply List.filter_congr
 intro x _
 by_cases e : x.1 = (i : Int)
 · simp [e]
 · have e2 : (x.1 == (i : Int)) = false := by simp [e]
   rw [e2, Bool.false_and, Bool.and_false]
theorem tr_inertS (h : TR (inertS s C) p q) : Via s (fun x => C x = C p) p q := by
 induction h with
 | refl => exact .refl rfl
 | tail _ h2 ih =>
   obtain ⟨h3, h4⟩ := mem_inertS.1 h2
   exact .tail ih h3 (by rw [h4, ih.last])
theorem inertS_via (h : Via s (fun x => C x = C p) p q) : TR (inertS s C) p q := by
 induction h with
 | refl _ => exact .refl
 | tail h1 h2 h3 ih => exact ih.trans (TR.one (mem_inertS.2 ⟨h2, by rw [h3, h1.last]⟩))
theorem mem_sigE {G : Nat -> Bool} {x : E} : x ∈ sigE s C G p n ↔ ∃ q, q < n /\ G q = true /\ ∃ y ∈ s.outs (q : Int), ¬ (y.1 = 0 /\ C y.2.toNat = C q) /\ x = ((p : Int), y.1, C y.2.toNat) := by
 unfold sigE
 simp only [List.mem_flatMap, List.mem_range]
 constructor
 · rintro ⟨q, hq, hx⟩
   by_cases hG : G q = true
   · rw [if_pos hG] at hx
     unfold shareE at hx
     simp only [List.mem_map, List.mem_filter] at hx
     obtain ⟨y, ⟨h1, h2⟩, rfl⟩ := hx
     refine ⟨q, hq, hG, y, h1, fun e => ?_, rfl⟩
     simp [e.1, e.2] at h2
   · rw [if_neg hG] at hx; simp at hx
 · rintro ⟨q, hq, hG, y, h1, h2, rfl⟩
   refine ⟨q, hq, ?_⟩
   rw [if_pos hG]
   unfold shareE
   simp only [List.mem_map, List.mem_filter]
   refine ⟨y, ⟨h1, ?_⟩, rfl⟩
   rw [Bool.not_eq_true', Bool.eq_false_iff]
   intro e
   exact h2 (by simpa using e)
theorem sigR_ok (hr : s.Right) (hn : s.st = (n : Int)) {G : Nat -> Bool} (hG : ∀ q, q < n -> (G q = true ↔ TR (inertS s C) p q)) : SigOk s C p (sigR s C G p n) := by
 have hfirst : ∀ x ∈ nf ltE (sigE s C G p n), x.1 = (p : Int) := fun x hx => by
   obtain ⟨_, _, _, _, _, _, rfl⟩ := mem_sigE.1 ((mem_nf stoE x _).1 hx); rfl
 refine ⟨?_, fun l e => ?_⟩
 · unfold sigR Srt
   rw [List.pairwise_map]
   refine List.Pairwise.imp_of_mem ?_ (srt_nf stoE (sigE s C G p n))
   intro a b ha hb hab
   have h1 := hfirst a ha; have h2 := hfirst b hb
   rw [ltE_iff] at hab
   rw [ltS_iff]
   simp only
   omega
 · unfold sigR
   rw [List.mem_map]
   constructor
   · rintro ⟨x, hx, he⟩
     obtain ⟨q, hq, h1, y, h2, h3, rfl⟩ := mem_sigE.1 ((mem_nf stoE x _).1 hx)
     simp only [Prod.mk.injEq] at he
     obtain ⟨rfl, rfl⟩ := he
     have h4 := offB_false.1 (hr.edges _ (mem_outs.1 h2))
     simp only at h4
     obtain ⟨l, t⟩ := y
     obtain ⟨t, rfl⟩ := Int.eq_ofNat_of_zero_le h4.2.2.2.2.1
     simp only [Int.toNat_natCast] at h2 h3 ⊢
     exact Sg.via (tr_inertS ((hG q hq).1 h1)) (.here (mem_outs.1 h2) h3)
   · intro hs
     obtain ⟨q, t, h1, h2, h3, h4⟩ := hs.way
     have hq := (stp_lt hr hn h2).1
     refine ⟨((p : Int), l, e), (mem_nf stoE _ _).2 (mem_sigE.2 ⟨q, hq, (hG q hq).2 (inertS_via h1), (l, (t : Int)), mem_outs.2 h2, ?_, ?_⟩), rfl⟩
     · simp only [Int.toNat_natCast]
       rw [h1.last]
       exact h4
     · simp only [Int.toNat_natCast, h3]
end
end Pl
end Go.Proofs.YtebmlhaoeldhkaaGreatDoor
namespace Go.Proofs.YtebmlhaoeldhkaaGreatDoor
namespace Pl
end Pl
end Go.Proofs.YtebmlhaoeldhkaaGreatDoor
namespace Go.Proofs.YtebmlhaoeldhkaaGreatDoor
open Go.RowKit Pl
def Flt2 (w : World) (l : ByteArray) (p : Addr) (v : Value) : Prop :=
 ∃ vi, FaultAt w v l vi /\ FaultAt w vi sysName (.iface 323 (.pointer (some p)))
theorem Flt2.below {w w' : World} {l : ByteArray} {p : Addr} {v : Value} (h : Flt2 w l p v) (hB : Below w.heap.size w w') : Flt2 w' l p v := by
 obtain ⟨vi, h1, h2⟩ := h
 exact ⟨vi, h1.below hB, h2.below hB⟩
theorem Flt2.shape {w : World} {l : ByteArray} {p : Addr} {v : Value} (h : Flt2 w l p v) : ∃ fb, v = .iface 87 (.pointer (some ⟨fb, 0, none⟩)) := by
 obtain ⟨vi, h1, _⟩ := h
 obtain ⟨fb, e, _⟩ := h1.ex
 exact ⟨fb, e⟩
end Go.Proofs.YtebmlhaoeldhkaaGreatDoor
namespace Go.Proofs.YtebmlhaoeldhkaaGreatDoor
open Go.RowKit Pl
open Lib (hid)
theorem askedNoS_any {p : Addr} {s : Lts} (h : ¬ s.Right) {a : Option Addr} {b off c : Nat} {w : World} (hG : GErr 0 p w) (hT : ErrType w) (hS : SlAt encE 3 w a b off s.es) (ca : Option Addr) (m cc : Nat) :
   Calls Tryz.prog 94 #[.agg #[.int .i64 s.st, .int .i64 s.lb, .int .i64 s.s0, .slice a s.es.length c], .slice ca m cc] w fun e w' => ∃ v, e = .returned (.tuple #[.pointer none, v]) /\ Flt2 w' brName p v /\ Below w.heap.size w w' := by
 have hB0 := (Below.refl w.heap.size w).alloc (Nat.le_refl _) (Obj.cells #[.int .i64 s.st, .int .i64 s.lb, .int .i64 s.s0, .slice a s.es.length c] 24)
 have HCK := hid (new_no (c := c) h (hG.below hB0) (hS.below hB0 (Nat.le_refl _)))
 have HB0 := hid hB0; have HT := hid hT; have HG := hid hG
 clear hB0 hS hG hT h
 go_enter Tryz.func94, Tryz.ntmps94
 go_wp2_with fail
 refine HCK.out.mono ?_
 rintro e w1 ⟨v, rfl, hF, hB1⟩
 have HF := hid hF
 obtain ⟨fb, rfl, hfb⟩ := hF.ex
 have HB1 := hid (HB0.out.trans (hB1.mono (by simp)))
 have HA := hid (faultAs_any brName (HT.out.below HB1.out) hfb)
 have hg := (HG.out.below HB1.out).cell
 have HIS := hid (is_fault_same fb p w1 (by simp [World.cell?, hfb]))
 clear hB1 hfb hF HB0 HCK
 unfold brName at HA
 go_wp2_with fail
 refine HIS.out.mono ?_
 rintro e w2 ⟨rfl, rfl⟩
 go_wp2_with fail
 refine HA.out.mono ?_
 rintro e w2 ⟨v, rfl, hF2, hB2⟩
 have HR : Hid (Flt2 w2 brName p v) := hid ⟨_, hF2, HF.out.below hB2⟩
 have HB2 := hid (HB1.out.trans (hB2.mono HB1.out.size))
 clear hF2 hB2 HB1 HA HF HIS hg
 go_wp2_with fail
 go_ret2
 exact ⟨v, rfl, HR.out, HB2.out⟩
theorem askedNoC_any {p p5 : Addr} {s : Lts} (hr : s.Right) {a : Option Addr} {b off c : Nat} {w : World} (hG : GErr 0 p w) (h5 : GErr 11 p5 w) (hS : SlAt encE 3 w a b off s.es)
   {L : List Int} {ca : Option Addr} {cb co cc : Nat} (hC : SlAt encI 1 w ca cb co L) (hl : L.length <= 1000000) (hcl : clB s.st L = false) (hwf : ∀ x ∈ L, (Lit.int .i64 x).wf = true) :
   Calls Tryz.prog 94 #[.agg #[.int .i64 s.st, .int .i64 s.lb, .int .i64 s.s0, .slice a s.es.length c], .slice ca L.length cc] w fun e w' => ∃ v, e = .returned (.tuple #[.pointer none, v]) /\ FaultAt w' v brName (.iface 323 (.pointer (some p5))) /\ Below w.heap.size w w' := by
 have hB0 := (Below.refl w.heap.size w).alloc (Nat.le_refl _) (Obj.cells #[.int .i64 s.st, .int .i64 s.lb, .int .i64 s.s0, .slice a s.es.length c] 24)
 have hbx := heap_alloc_new w (Obj.cells #[.int .i64 s.st, .int .i64 s.lb, .int .i64 s.s0, .slice a s.es.length c] 24)
 have HNW := hid (new_ok (c := c) hr (hG.below hB0) (hS.below hB0 (Nat.le_refl _)))
 have HG := hid hG; have H5 := hid h5; have HC := hid hC; have HB0 := hid hB0; have HBX := hid hbx; have HCL := hid hcl; have HWF := hid hwf; have HLL := hid hl
 obtain ⟨m, hm⟩ : ∃ m, m = L.length := ⟨_, rfl⟩
 rw [<- hm]
 have HM := hid hm
 clear hG hS hC hB0 hbx hr hcl hwf h5 hm hl
 go_enter Tryz.func94, Tryz.ntmps94
 go_wp2_with fail
 refine HNW.out.mono ?_
 rintro e w1 ⟨gb, rfl, hgr, hB1, _⟩
 have hb1 := HB0.out.trans (hB1.mono (by simp))
 have hx1 := (hB1.block w.heap.size (by simp)).trans HBX.out
 have hg := (HG.out.below hb1).cell
 have hcs := classes_any (c := cc) s.st s.lb s.s0 (.slice a s.es.length c) (HC.out.below hb1 (Nat.le_refl _)) HLL.out HWF.out
 rw [<- HM.out, HCL.out] at hcs
 have HCS := hid hcs; have HB1 := hid hb1
 obtain ⟨x0, x1, x2, x3, xl⟩ := sysB hx1
 clear hgr hB1 hb1 hx1 hcs HNW HB0 HBX
 go_wp2_with fail
 refine (isNilE_any _ _).mono ?_
 rintro e w2 ⟨rfl, rfl⟩
 go_wp2_with fail
 refine HCS.out.mono ?_
 rintro e w3 ⟨rfl, hB3⟩
 have HB3 := hid (HB1.out.trans (hB3.mono HB1.out.size))
 have hg5 := (H5.out.below HB3.out).cell
 have hfn := faultNew_any brName 323 (.pointer (some p5)) w3
 unfold brName at hfn
 have HFN := hid hfn
 clear hB3 x0 x1 x2 x3 xl hg hfn
 go_wp2_with fail
 refine HFN.out.mono ?_
 rintro e w4 ⟨rfl, rfl⟩
 have HR : Hid (FaultAt (w3.alloc (.cells #[.string brName, .int .i64 0, .int .i64 0, .iface 323 (.pointer (some p5))] 90)) (.iface 87 (.pointer (some ⟨w3.heap.size, 0, none⟩))) brName (.iface 323 (.pointer (some p5)))) := hid ⟨_, rfl, heap_alloc_new w3 _⟩
 clear hg5
 go_wp2_with fail
 go_ret2
 exact ⟨_, rfl, HR.out, HB3.out.alloc HB3.out.size _⟩
theorem bottomsErr_any {Q : World -> Value -> Prop} {st lb s0 : Int} {ev : Value} {ca : Option Addr} {m cc : Nat} {w : World} (hQ : ∀ w v, Q w v -> ∃ fb, v = .iface 87 (.pointer (some ⟨fb, 0, none⟩)))
   (hA : ∀ V, Below w.heap.size w V -> Calls Tryz.prog 94 #[.agg #[.int .i64 st, .int .i64 lb, .int .i64 s0, ev], .slice ca m cc] V fun e w' => ∃ v, e = .returned (.tuple #[.pointer none, v]) /\ Q w' v /\ Below V.heap.size V w') :
   Calls Tryz.prog 20 #[.agg #[.int .i64 st, .int .i64 lb, .int .i64 s0, ev], .slice ca m cc] w fun e w' => ∃ v, e = .returned (.tuple #[.slice none 0 0, v]) /\ Q w' v /\ Below w.heap.size w w' := by
 have hB0 := ((Below.refl w.heap.size w).alloc (Nat.le_refl _) (Obj.cells #[.int .i64 st, .int .i64 lb, .int .i64 s0, ev] 24)).alloc (by simp) (Obj.cells #[.slice ca m cc] 31)
 have HAK := hid (hA _ hB0); have HB0 := hid hB0; have HQ := hid hQ
 clear hA hB0 hQ
 go_enter Tryz.func20, Tryz.ntmps20
 go_wp2_with fail
 refine HAK.out.mono ?_
 rintro e w1 ⟨v, rfl, hq, hB1⟩
 have HQ1 := hid hq; have HB1 := hid (HB0.out.trans (hB1.mono (by simp; omega)))
 obtain ⟨fb, rfl⟩ := HQ.out _ _ hq
 clear hq hB1 HAK HB0
 go_wp2_with fail
 go_ret2
 exact ⟨_, rfl, HQ1.out, HB1.out⟩
theorem stepsErr_any {Q : World -> Value -> Prop} {st lb s0 : Int} {ev : Value} {ca : Option Addr} {m cc : Nat} {w : World} (hQ : ∀ w v, Q w v -> ∃ fb, v = .iface 87 (.pointer (some ⟨fb, 0, none⟩)))
   (hA : ∀ V, Below w.heap.size w V -> Calls Tryz.prog 94 #[.agg #[.int .i64 st, .int .i64 lb, .int .i64 s0, ev], .slice ca m cc] V fun e w' => ∃ v, e = .returned (.tuple #[.pointer none, v]) /\ Q w' v /\ Below V.heap.size V w') :
   Calls Tryz.prog 21 #[.agg #[.int .i64 st, .int .i64 lb, .int .i64 s0, ev], .slice ca m cc] w fun e w' => ∃ v, e = .returned (.tuple #[.slice none 0 0, v]) /\ Q w' v /\ Below w.heap.size w w' := by
 have hB0 := ((Below.refl w.heap.size w).alloc (Nat.le_refl _) (Obj.cells #[.int .i64 st, .int .i64 lb, .int .i64 s0, ev] 24))
 have HAK := hid (hA _ hB0); have HB0 := hid hB0; have HQ := hid hQ
 clear hA hB0 hQ
 go_enter Tryz.func21, Tryz.ntmps21
 go_wp2_with fail
 refine HAK.out.mono ?_
 rintro e w1 ⟨v, rfl, hq, hB1⟩
 have HQ1 := hid hq; have HB1 := hid (HB0.out.trans (hB1.mono (by simp)))
 obtain ⟨fb, rfl⟩ := HQ.out _ _ hq
 clear hq hB1 HAK HB0
 go_wp2_with fail
 go_ret2
 exact ⟨_, rfl, HQ1.out, HB1.out⟩
end Go.Proofs.YtebmlhaoeldhkaaGreatDoor
namespace Go.Proofs.YtebmlhaoeldhkaaGreatDoor
open Go.RowKit Pl Go.Maps
structure RC (w wr : World) (OB n : Nat) (f : Nat -> Value) (v : Value) (seen : List Int) : Prop where
 below : Below w.heap.size w wr
 row : wr.rowIs OB 3 n f
 own : wr.ownsRow (OB + 1) 3 1 v seen.length (seen.flatMap encI)
 ob : w.heap.size <= OB
theorem RC.set {w wr : World} {OB n : Nat} {f : Nat -> Value} {v : Value} {seen : List Int} (h : RC w wr OB n f v seen) (i : Nat) (x : Value) : RC w (wr.setCell ⟨OB, i, none⟩ x) OB n (fun j => if j = i then x else f j) v seen :=
 ⟨h.below.setCell h.ob _, h.row.set i _, ownsRow_setCell_below h.own (by show OB < OB + 1; omega) _, h.ob⟩
theorem RC.congr {w wr : World} {OB n : Nat} {f g : Nat -> Value} {v : Value} {seen : List Int} (h : RC w wr OB n f v seen) (e : ∀ i, i < n -> f i = g i) : RC w wr OB n g v seen :=
 ⟨h.below, h.row.congr e, h.own, h.ob⟩
theorem RC.call {w wr w' : World} {OB n : Nat} {f : Nat -> Value} {v : Value} {seen : List Int} (h : RC w wr OB n f v seen) (hB : Below wr.heap.size wr w') : RC w w' OB n f v seen :=
 ⟨h.below.trans (hB.mono h.below.size), h.row.of_block (hB.block _ h.row.lt), own_below h.own hB, h.ob⟩
theorem RC.push {w wr w1 : World} {OB n : Nat} {f : Nat -> Value} {v v' : Value} {seen ys : List Int} (h : RC w wr OB n f v seen) (hown : w1.ownsRow (OB + 1) 3 1 v' ys.length (ys.flatMap encI)) (hg : wr.grownBy w1 v.ownBlock) : RC w w1 OB n f v' ys :=
 ⟨h.below.grown hg h.below.size (fun k hk => by have := (h.own.lt k hk).1; have := h.ob; omega), h.row.of_block (hg.block _ h.row.lt (fun e => by have := (h.own.lt _ e.symm).1; omega)), hown, h.ob⟩
theorem RC.keepc {w wr w1 : World} {OB n : Nat} {f : Nat -> Value} {v : Value} {seen : List Int} (h : RC w wr OB n f v seen) (hg : wr.grownBy w1 v.ownBlock) {k : Nat} (hk : k < n) :
   w1.cell? ⟨OB, k, none⟩ = some (f k) /\ w1.frozen? ⟨OB, k, none⟩ = false /\ OB < w1.heap.size := by
 have h2 : w1.rowIs OB 3 n f := h.row.of_block (hg.block _ h.row.lt (fun e => by have := (h.own.lt _ e.symm).1; omega))
 exact ⟨h2.cell hk, h2.frozen k, h2.lt⟩
end Go.Proofs.YtebmlhaoeldhkaaGreatDoor
namespace Go.Proofs.YtebmlhaoeldhkaaGreatDoor
open Go.RowKit Pl
open Lib (hid)
structure LentI (w : World) (v : Value) (xs : List Int) : Prop where
 ex : ∃ g c, v = .slice (some ⟨g, 0, none⟩) xs.length c /\ xs.length + 2 <= c /\ c <= maxLen /\ SlAt encI 1 w (some ⟨g, 0, none⟩) g 0 (xs ++ [-77, -78])
theorem LentI.below {w w' : World} {v : Value} {xs : List Int} (h : LentI w v xs) (hB : Below w.heap.size w w') : LentI w' v xs := by
 obtain ⟨g, c, h1, h2, h3, h4⟩ := h.ex
 exact ⟨g, c, h1, h2, h3, h4.below hB (Nat.le_refl _)⟩
theorem SlAt.pre {α : Type} {enc : α -> List Value} {k : Nat} {w : World} {a : Option Addr} {b off : Nat} {xs ys : List α} (h : SlAt enc k w a b off (xs ++ ys)) : SlAt enc k w a b off xs :=
 ⟨fun hp => h.ad (by simp; omega), fun hp => h.lt (by simp; omega), fun i x hx => h.cell i x (by rw [List.getElem?_append_left (List.getElem?_eq_some_iff.1 hx).1]; exact hx)⟩
theorem slAt_flatI {w : World} {a : Option Addr} {ad : Addr} {b off : Nat} {xs : List Int} (hS : SlAt encI 1 w a b off xs) (ha : a = some ad) :
   (∀ j u, (xs.flatMap encI)[j]? = some u -> w.cell? (ad.add j) = some u) /\ (∀ u ∈ xs.flatMap encI, u.oneCell' = true) /\ (xs.flatMap encI).length = xs.length * 1 := by
 refine ⟨?_, ?_, length_flatMap lenI xs⟩
 · intro j u hu
   have hj : j < xs.length := by have := (List.getElem?_eq_some_iff.1 hu).1; rw [length_flatMap lenI] at this; omega
   have had := hS.ad (by omega)
   rw [ha] at had
   cases had
   rw [Go.WideShapes.add_plain]
   obtain ⟨y, hy⟩ := getElem?_of_lt hj
   have h1 := getElem?_flatMap lenI xs j y hy 0 _ rfl
   rw [Nat.mul_one, Nat.add_zero] at h1
   rw [h1] at hu
   cases hu
   exact hS.ci hy
 · intro u hu
   obtain ⟨y, _, hy⟩ := List.mem_flatMap.1 hu
   simp [encI] at hy; subst hy; rfl
theorem own_cap {w : World} {base : Nat} {e : TypeId} {k n m cap : Nat} {ad : Addr} {xs : List Value} (h : w.ownsRow base e k (.slice (some ad) m cap) n xs) : n <= cap /\ cap <= maxLen := by
 rcases h.2 with ⟨h1, _⟩ | ⟨g, cap', cur, hv, _, _, h2, h3, _⟩
 · cases h1
 · simp only [Value.slice.injEq] at hv
   obtain ⟨_, _, rfl⟩ := hv
   exact ⟨h2, h3⟩
def LentPost (xs : List Int) (w : World) (e : Ending) (w' : World) : Prop := ∃ v, e = .returned v /\ LentI w' v xs /\ Below w.heap.size w w'
theorem lent_mk {w' : World} {base g n cap : Nat} {xs : List Int} (hn : n = xs.length) (h : w'.ownsRow base 3 1 (.slice (some ⟨g, 0, none⟩) (n + 2) cap) (n + 2) (xs.flatMap encI ++ [.int .i64 (-77), .int .i64 (-78)])) : LentI w' (.slice (some ⟨g, 0, none⟩) n cap) xs := by
 subst hn
 have h2 : w'.ownsRow base 3 1 (.slice (some ⟨g, 0, none⟩) (xs.length + 2) cap) (xs ++ [-77, -78]).length ((xs ++ [-77, -78]).flatMap encI) := by
   rw [List.flatMap_append, List.length_append]; exact h
 obtain ⟨a, c, b, hv, h3, h4, h5, _⟩ := slAt_own lenI h2
 simp only [Value.slice.injEq] at hv
 obtain ⟨rfl, _, rfl⟩ := hv
 have := h5.ad (by simp)
 simp at this
 subst this
 exact ⟨_, _, rfl, by simpa using h3, h4, h5⟩
theorem lentInts_any {w : World} {a : Option Addr} {b off c : Nat} {xs : List Int} (hS : SlAt encI 1 w a b off xs) (hn : xs.length <= 1000000) :
   Calls Tryz.prog 17 #[.slice a xs.length c] w (LentPost xs w) := by
 obtain ⟨n, hnn⟩ : ∃ n, n = xs.length := ⟨_, rfl⟩
 have HS := hid hS; have HNN := hid hnn
 rw [<- hnn] at hn ⊢
 clear hnn hS
 cases a with
 | none =>
   have h0 : n = 0 := by
     rcases Nat.eq_zero_or_pos n with h | h
     · exact h
     · have := HS.out.ad (by rw [<- HNN.out]; exact h)
       cases this
   subst h0
   have hx : xs = [] := List.eq_nil_of_length_eq_zero HNN.out.symm
   have HXS := hid hx
   clear hx
   go_enter Tryz.func17, Tryz.ntmps17
   go_wp2_with (at_builtin; refine wpList_app1 rfl (Operand.tmp 5) (Operand.tmp 6) _ rfl rowI ((Below.refl w.heap.size w).alloc (Nat.le_refl _) _) (by simp) rfl (World.ownsRow_nil _ _ _ _) ⟨w.heap.size, 0, none⟩ 2 2 [.int .i64 (-77), .int .i64 (-78)] rfl rfl (cells2 (by simp [go_sem]) (by simp [go_sem])) (by simp [Value.oneCell']) (by decide) (by omega) (by unfold maxLen; omega) ?_; intro g cap w1 hown1 hB1 _)
   have hcap := own_cap hown1
   have hcap1 := hcap.1
   have hcap2 := hcap.2
   unfold maxLen at hcap2
   have HO := hid hown1; have HB := hid hB1
   clear hown1 hB1 hcap
   go_wp2
   go_ret
   exact ⟨_, rfl, lent_mk (n := 0) HNN.out (by rw [HXS.out]; exact HO.out), HB.out⟩
 | some ad =>
   obtain ⟨hx, h1, hl⟩ := slAt_flatI HS.out rfl
   rw [<- HNN.out] at hl
   have HX := hid hx; have H1 := hid h1; have HL := hid hl
   clear hx h1 hl
   go_enter Tryz.func17, Tryz.ntmps17
   go_wp2_with (first
     | (at_builtin; refine wpList_app rfl (Operand.const (Value.slice none 0 0)) (Operand.tmp 4) _ rfl rowI (Below.refl w.heap.size w) (Nat.le_refl _) rfl (World.ownsRow_nil _ _ _ _) ad n c (xs.flatMap encI) rfl HL.out HX.out H1.out (by omega) (by unfold maxLen; omega) ?_; intro v' w1 hown1 hB1 _; have HO1 := hid hown1; have HB1 := hid hB1; have hs1 := hB1.size; clear hown1 hB1)
     | (at_builtin; refine wpList_app1 rfl (Operand.tmp 5) (Operand.tmp 6) _ rfl rowI (HB1.out.alloc hs1 _) (by simp; omega) rfl (HO1.out.alloc _) ⟨w1.heap.size, 0, none⟩ 2 2 [.int .i64 (-77), .int .i64 (-78)] rfl rfl (cells2 (by simp [go_sem]) (by simp [go_sem])) (by simp [Value.oneCell']) (by decide) (by omega) (by unfold maxLen; omega) ?_; intro g cap w2 hown2 hB2 _; have hcap1 : n + 2 <= cap := (by have := (own_cap hown2).1; omega); have hcap2 : cap <= 9223372036854775807 := (by have := (own_cap hown2).2; unfold maxLen at this; omega); have HO := hid hown2; have HB := hid hB2; clear hown2 hB2))
   go_wp2
   go_ret
   exact ⟨_, rfl, lent_mk (n := n) HNN.out (by have h := HO.out; rw [Nat.zero_add, List.nil_append] at h; exact h), HB.out⟩
theorem staysInts_any {w : World} {v : Value} {a : Option Addr} {b off c : Nat} {xs : List Int} (hL : LentI w v xs) (hS : SlAt encI 1 w a b off xs) (hn : xs.length <= 1000000) :
   Calls Tryz.prog 22 #[v, .slice a xs.length c] w fun e w' => e = .returned (.bool true) /\ ∃ m, w' = w.drewN m := by
 obtain ⟨g, cap, rfl, hc1, hc2, hg⟩ := hL.ex
 have hq := sameInts_any (c1 := cap) (c2 := c) hg.pre hS (by omega) (by omega)
 have d0 := hg.ci (i := xs.length) (x := -77) (by simp)
 have d1 := hg.ci (i := xs.length + 1) (x := -78) (by simp)
 have hgl := hg.lt (by simp)
 simp only [Nat.zero_add] at d0 d1
 unfold maxLen at hc2
 obtain ⟨n, hnn⟩ : ∃ n, n = xs.length := ⟨_, rfl⟩
 rw [<- hnn] at hq hc1 hn d0 d1 ⊢
 simp only [decide_true] at hq
 have HQ := hid hq
 clear hL hg hS hq hnn
 have hk1 : (0 : Int) <= (n : Int) + 1 := by omega
 have hk2 : ((n : Int) + 1).toNat = n + 1 := by omega
 go_enter Tryz.func22, Tryz.ntmps22
 go_wp2_with fail
 refine HQ.out.mono ?_
 rintro e w1 ⟨rfl, m, rfl⟩
 go_wp2
 go_ret
 exact ⟨rfl, m, rfl⟩
end Go.Proofs.YtebmlhaoeldhkaaGreatDoor
namespace Go.Proofs.YtebmlhaoeldhkaaGreatDoor
open Go.RowKit Pl
theorem bad_any (l : ByteArray) (hl : l.size <= 1000) (k : Int) (w : World) : Calls Tryz.prog 19 #[.string l, .int .i64 k] w fun e w' => e = .returned (.agg #[.int .i64 k, .int .i64 0, .int .i64 0, .string (l ++ ⟨#[32]⟩)]) /\ Below w.heap.size w w' := by
 have hz2 : ¬ 9223372036854775807 < l.size + 1 := by omega
 go_enter Tryz.func19, Tryz.ntmps19
 go_wp2_with fail
 refine bodyPost_ret (v := .agg #[.int .i64 k, .int .i64 0, .int .i64 0, .string (l ++ ⟨#[32]⟩)]) (by simp [results, Tryz.results19, go_sem]) rfl ⟨rfl, (Below.refl _ _).alloc (Nat.le_refl _) _⟩
end Go.Proofs.YtebmlhaoeldhkaaGreatDoor
namespace Go.Proofs.YtebmlhaoeldhkaaGreatDoor
open Go.RowKit Pl
theorem less_any (x y : E) (w : World) : Calls Tryz.prog 160 #[.agg #[.int .i64 x.1, .int .i64 x.2.1, .int .i64 x.2.2], .agg #[.int .i64 y.1, .int .i64 y.2.1, .int .i64 y.2.2]] w fun e w' =>
   e = .returned (.bool (ltE x y)) /\ Below w.heap.size w w' := by
 by_cases h1 : x.1 = y.1
 · have b1 : (x.1 != y.1) = false := by simp [h1]
   by_cases h2 : x.2.1 = y.2.1
   · have b2 : (x.2.1 != y.2.1) = false := by simp [h2]
     have hr : ltE x y = decide (x.2.2 < y.2.2) := by simp [ltE, h1, h2]
     rw [hr]
     clear h1 h2 hr
     go_enter Tryz.func160, Tryz.ntmps160
     go_wp2
     go_ret
     exact ⟨rfl, ((Below.refl _ _).alloc (Nat.le_refl _) _).alloc (by simp) _⟩
   · have b2 : (x.2.1 != y.2.1) = true := by simp [h2]
     have hr : ltE x y = decide (x.2.1 < y.2.1) := by simp [ltE, h1, h2]
     rw [hr]
     clear h1 h2 hr
     go_enter Tryz.func160, Tryz.ntmps160
     go_wp2
     go_ret
     exact ⟨rfl, ((Below.refl _ _).alloc (Nat.le_refl _) _).alloc (by simp) _⟩
 · have b1 : (x.1 != y.1) = true := by simp [h1]
   have hr : ltE x y = decide (x.1 < y.1) := by simp [ltE, h1]
   rw [hr]
   clear h1 hr
   go_enter Tryz.func160, Tryz.ntmps160
   go_wp2
   go_ret
   exact ⟨rfl, ((Below.refl _ _).alloc (Nat.le_refl _) _).alloc (by simp) _⟩
end Go.Proofs.YtebmlhaoeldhkaaGreatDoor

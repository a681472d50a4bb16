/-
 Lemmas.
-/
import Derived.Test.YtebmlhaoeldhkaaGreatDoorGTauJ
namespace Go.Proofs.YtebmlhaoeldhkaaGreatDoor
open Go.RowKit Pl
open Lib (hid)
def OrdPost (s : Lts) (n : Nat) (w : World) (e : Ending) (w' : World) : Prop :=
 ∃ (f : Nat -> Int) (D : List Nat) (v : Value), Cyc s n f /\ OrdL (col s (fl n (clf n f))) (dist (fl n (clf n f))).length D /\ (∀ k, k < (dist (fl n (clf n f))).length -> k ∈ D) /\ e = .returned (.tuple #[v, .nilIface]) /\
   w'.ownsRow w.heap.size 3 1 v n ((D.flatMap fun k : Nat => memK (fl n (clf n f)) n (k : Int)).flatMap encI) /\ Below w.heap.size w w'
set_option maxRecDepth 100000 in
set_option maxHeartbeats 8000000 in
theorem orderYes_any {p : Addr} {s : Lts} {n : Nat} (h : s.Right) (hn : s.st = (n : Int)) {a : Option Addr} {b off c : Nat} {w : World} (hG : GErr 0 p w) (hS : SlAt encE 3 w a b off s.es) :
   Calls Tryz.prog 44 #[.agg #[.int .i64 s.st, .int .i64 s.lb, .int .i64 s.s0, .slice a s.es.length c]] w (OrdPost s n w) := by
 have hst := h.st0
 have hn1 : n <= 1000 := by omega
 have hB0 := (Below.refl w.heap.size w).alloc (Nat.le_refl _) (Obj.cells #[.int .i64 s.st, .int .i64 s.lb, .int .i64 s.s0, .slice a s.es.length c] 24)
 have hX0 := heap_alloc_new w (Obj.cells #[.int .i64 s.st, .int .i64 s.lb, .int .i64 s.s0, .slice a s.es.length c] 24)
 have hN := collapseYes_any (c := c) h hn (hG.below hB0) (hS.below hB0 (Nat.le_refl _))
 rw [hn] at hN hB0 hX0
 have HN := hid hN; have HB0 := hid hB0; have HR := hid h; have HNN := hid hn; have HST := hid hst; have HX0 := hid hX0; have HG := hid hG
 rw [hn]
 clear hN hB0 hS hG h hn hst hX0
 obtain ⟨el, hel⟩ : ∃ el, el = s.es.length := ⟨_, rfl⟩
 rw [<- hel] at HN HB0 HX0 ⊢
 clear hel
 go_enter Tryz.func44, Tryz.ntmps44
 go_wp2_with fail
 refine HN.out.mono ?_
 rintro e w1 ⟨f, v, ve, hcyc, rfl, hown, howne, hB1⟩
 obtain ⟨C, hC⟩ : ∃ C, C = fl n (clf n f) := ⟨_, rfl⟩
 have hCl : C.length = n := by rw [hC, fl_len]
 have htr : (col s C).Right := by rw [hC]; exact col_right HR.out HNN.out
 rw [<- hC] at hown howne ⊢
 obtain ⟨t, ht⟩ : ∃ t, t = col s C := ⟨_, rfl⟩
 rw [<- ht] at htr howne ⊢
 obtain ⟨M, hM⟩ : ∃ M, M = (dist C).length := ⟨_, rfl⟩
 have htst : t.st = (M : Int) := by rw [ht, hM]; rfl
 have hMn : M <= n := by rw [hM, hC]; have := dist_le n (clf n f); exact this
 have hown' : w1.ownsRow (w.alloc (Obj.cells #[.int .i64 n, .int .i64 s.lb, .int .i64 s.s0, .slice a el c] 24)).heap.size 3 1 v C.length (C.flatMap encI) := by rw [hCl]; exact hown
 obtain ⟨ca, cc, cb, rfl, _, _, hcs, hcb⟩ := slAt_own lenI hown'
 obtain ⟨ea, ec, eb, rfl, _, _, hes, _⟩ := slAt_own lenE howne
 rw [hCl] at hcb hown ⊢
 have hnorm : t.norm = t := by
   have h1 : nf ltE t.es = t.es := by rw [ht]; exact nf_of_srt stoE (col_srt s C)
   unfold Lts.norm; rw [h1]
 have hB1' := HB0.out.trans (hB1.mono (by simp))
 have hBe := bAlloc (Below.refl w1.heap.size w1) (Obj.cells #[.int .i64 t.st, .int .i64 t.lb, .int .i64 t.s0, .slice ea t.es.length ec] 24)
 have hN := new_ok (c := ec) htr ((HG.out.below hB1').below hBe) (hes.below hBe (Nat.le_refl _))
 rw [hnorm] at hN
 have hX1 := (hB1.block w.heap.size (by simp)).trans HX0.out
 have hC1 := heap_alloc_new w1 (Obj.cells #[.int .i64 t.st, .int .i64 t.lb, .int .i64 t.s0, .slice ea t.es.length ec] 24)
 have hX1' := (Below.heap_alloc w1 (Obj.cells #[.int .i64 t.st, .int .i64 t.lb, .int .i64 t.s0, .slice ea t.es.length ec] 24) w.heap.size (by have := hB1.size; simp at this; omega)).trans hX1
 have hcs1 := hcs.below hBe (Nat.le_refl _)
 have hs1 := hB1.size
 simp at hs1
 rw [htst] at hN hC1 hX1' hBe hcs1 ⊢
 obtain ⟨tl, htl⟩ : ∃ tl, tl = t.es.length := ⟨_, rfl⟩
 rw [<- htl] at hN hC1 hX1' hBe hcs1 ⊢
 have HN := hid hN; have HC1 := hid hC1; have HX1 := hid hX1'; have HB1 := hid (hB1'.trans (hBe.mono (by omega))); have HCS := hid hcs1; have HCB := hid hcb
 have HCYC := hid hcyc; have HC := hid hC; have HT := hid ht; have HM := hid hM; have HTR := hid htr; have HCL := hid hCl; have HTST := hid htst
 clear hN hC1 hX1 hX1' hBe hcs1 hcs hcb hcyc hC ht hM htr hCl htst hnorm hB1 hB1' hown hown' howne hes htl HX0 HB0 HG
 go_wp2_with fail
 refine HN.out.mono ?_
 rintro e w2 ⟨gb, rfl, hgr, hB2, _⟩
 have hs2 := hB2.size
 simp at hs2
 have hX2 := (hB2.block w.heap.size (by simp; omega)).trans HX1.out
 have hC2 := (hB2.block w1.heap.size (by simp)).trans HC1.out
 have hcs2 := HCS.out.below hB2 (Nat.le_refl _)
 have hBw := HB1.out.trans (hB2.mono (by simp; omega))
 have HX2 := hid hX2; have HC2 := hid hC2; have HCS2 := hid hcs2; have HBW := hid hBw; have HGR := hid hgr
 clear hX2 hC2 hcs2 hBw hgr hB2 HN HCS HX1 HC1 HB1
 obtain ⟨x0, x1, x2, x3, x4⟩ := sysC HX2.out
 obtain ⟨y0, y1, y2, y3, y4⟩ := sysC HC2.out
 clear x1 x2 x3 y1 y2 y3
 have hmk := run_make_row' (P := Tryz.prog) 34 31 (.slice none 0 0) 24 Tryz.underlying34 (by kernel_rfl) rfl .i64 .i64 M (by omega) (by omega)
 go_wp2_with fail
 obtain ⟨U, hU⟩ : ∃ U, U = w2.alloc (Obj.cells (madeCells #[.slice none 0 0] M) 31) := ⟨_, rfl⟩
 have hBU : Below w2.heap.size w2 U := by rw [hU]; exact bAlloc (Below.refl _ _) _
 have hUs : U.heap.size = w2.heap.size + 1 := by rw [hU]; simp
 have hOG : OG U U w2.heap.size M (fun k => memK C 0 (k : Int)) := by
   refine ⟨?_, Below.refl _ _, fun _ _ _ => rfl⟩
   have h := OwnRows.made (enc := encI) (k := 1) (e := 3) (T := 31) (w := w2) (n := M)
   rw [<- hU, <- hUs] at h
   simpa [memK] using h
 have hcsu := HCS2.out.below hBU (Nat.le_refl _)
 have hcbn : 0 < C.length -> cb ≠ w2.heap.size := fun h => by have := HCS2.out.lt h; omega
 have HOG := hid hOG; have HBU := hid hBU; have HCSU := hid hcsu; have HCBN := hid hcbn; have HUS := hid hUs
 rw [<- hU]
 clear hmk hOG hBU hcsu hcbn hU x0 x4 y0 y4
 go_loopw [37] (fun v37 wr => ∃ k : Nat, v37 = .int .i64 k /\ k <= n /\ OG U wr w2.heap.size M (fun i => memK C k (i : Int)))
   (fun v37 _ => n - (intOf v37).toNat)
 case atStart => exact ⟨0, rfl, Nat.zero_le _, HOG.out⟩
 case round =>
   obtain ⟨k, rfl, hk, hog⟩ := hrel
   have HO := hid hog
   have hszr := hog.bel.size
   clear hog HOG
   by_cases hlt : k < n
   · have hx : C[k]? = some (clf n f k) := by rw [HC.out]; exact fl_get _ hlt
     have hrng := clf_rng (f := f) hlt
     have hdl := dist_clf_len n f
     rw [<- HC.out, <- HM.out] at hdl
     obtain ⟨cn, hcn⟩ := Int.eq_ofNat_of_zero_le hrng.1
     have hcnM : cn < M := by omega
     rw [hcn] at hx
     have hslr := HO.out.sl HCSU.out HCBN.out
     have hClen := HCL.out
     obtain rfl := hslr.ad (by omega)
     have e0 := hslr.ci hx
     have gl := hslr.lt (by omega)
     simp only [Nat.zero_add] at e0
     have hki : (k : Int) < (n : Int) := by omega
     have hcM2 : (cn : Int) < (M : Int) := by omega
     obtain ⟨v, hcv, hfv, hown, hgo⟩ := HO.out.open hcnM
     have hml := memK_len C k (cn : Int)
     have HX := hid hx; have HOWN := hid hown; have HGO := hid hgo
     have hobr : w2.heap.size < wr.heap.size := by have := HUS.out; omega
     obtain ⟨ml, hmll⟩ : ∃ ml, ml = (memK C k (cn : Int)).length := ⟨_, rfl⟩
     rw [<- hmll] at hml HOWN
     have HML := hid hmll
     clear hx hrng hdl hcn hslr hown hgo hClen hmll
     go_wp2_with (at_builtin; go_must (refine wpList_lies rfl _ _ _ rfl rowI (by simp; omega) (by rfl) (HOWN.out.alloc _) ⟨wr.heap.size, 0, none⟩ 1 1 [.int .i64 k] rfl rfl (cells1 (by simp [go_sem])) (by simp [Value.oneCell']) (by decide) (by omega) (by unfold maxLen; omega) (wr.heap.size + 1) (by simp) ?_); intro g cap w8 hown8 hg8 hat8 hlt8; have kp := HGO.out _ w8 g cap (memK C k (cn : Int) ++ [(k : Int)]) ((Below.refl _ _).alloc (Nat.le_refl _) _) (by rw [List.length_append, List.flatMap_append, <- HML.out]; exact hown8) hg8 (hat8.imp_right (fun e => by omega)); have kp0 := kp.1; have kp1 := kp.2.1; have KP := hid kp.2.2; clear kp)
     have hstep : ∀ i : Nat, (if i = cn then memK C k (cn : Int) ++ [(k : Int)] else memK C k (i : Int)) = memK C (k + 1) (i : Int) := fun i => by
       rw [memK_snoc HX.out]
       by_cases hi : i = cn
       · subst hi; rw [if_pos rfl, if_pos rfl]
       · rw [if_neg hi, if_neg (by omega)]
     have H1 := hid (KP.out.congr hstep)
     rw [List.length_append, <- HML.out] at H1
     clear hstep KP hown8 hg8 hat8 hlt8 kp0 kp1
     go_roundw
     case rel => exact ⟨k + 1, by go_num, by omega, H1.out⟩
     case measure => simp [intOf]; omega
   · have hkn : n = k := by omega
     subst hkn
     obtain ⟨wm, hwm⟩ : ∃ wm, wm = wr := ⟨_, rfl⟩
     subst hwm
     have hb2m := HBU.out.trans (HO.out.bel.mono (Nat.le_refl _))
     have hxm := (hb2m.block w.heap.size (by omega)).trans HX2.out
     have hcm := (hb2m.block w1.heap.size (by omega)).trans HC2.out
     have hgm := HGR.out.below hb2m
     obtain ⟨x0, x1, x2, x3, x4⟩ := sysC hxm
     obtain ⟨y0, y1, y2, y3, y4⟩ := sysC hcm
     have hsm := hb2m.size
     have HXM := hid hxm; have HGM := hid hgm; have HBM := hid (HBW.out.trans (hb2m.mono (by omega)))
     have hmk := run_make_row' (P := Tryz.prog) 31 3 (.int .i64 0) 8 Tryz.underlying31 (by kernel_rfl) rfl .i64 .i64 M (by omega) (by omega)
     clear x1 x2 x3 y1 y2 y3 hb2m hxm hcm hgm HX2 HC2 HGR HBW HCSU HCBN
     go_wp2_with fail
     have hOQ : OQ wm (wm.alloc (Obj.cells (madeCells #[.int .i64 0] M) 3)) M (fun j => if j < 0 then (Wt t [] j : Int) else 0) := by
       refine ⟨?_, bAlloc (Below.refl _ _) _⟩
       simpa using World.rowIs_made wm (.int .i64 0) M 3
     have HOQ := hid hOQ
     clear hmk hOQ x0 x4 y0 y4
     go_loopw [58] (fun v58 wr => ∃ k : Nat, v58 = .int .i64 k /\ k <= M /\ OQ wm wr M (fun j => if j < k then (Wt t [] j : Int) else 0))
       (fun v58 _ => M - (intOf v58).toNat)
     case atStart => exact ⟨0, rfl, Nat.zero_le _, HOQ.out⟩
     case round =>
       obtain ⟨k, rfl, hk, hoq⟩ := hrel
       have HQ := hid hoq
       have hszr := hoq.bel.size
       clear hoq HOQ
       by_cases hlt : k < M
       · have HBY := hid (getBy_any (HGM.out.below HQ.out.bel) (k : Int) 0)
         have hki : (k : Int) < (M : Int) := by omega
         go_wp2_with fail
         refine HBY.out.mono ?_
         rintro e w6 ⟨v6, rfl, hown6, hB6⟩
         obtain ⟨sa, sc, sb, rfl, _, _, _, _⟩ := slAt_own lenI hown6
         have hq6 := HQ.out.call hB6
         have hwt := outs_len_taus HTR.out (show Srt ltE t.es by rw [HT.out]; exact col_srt s C) k
         rw [hwt]
         have g1 := hq6.rows.cell hlt
         have g2 := hq6.rows.frozen k
         have gl := hq6.rows.lt
         have HQ6 := hid hq6
         obtain ⟨wk, hwk⟩ : ∃ wk, wk = Wt t [] k := ⟨_, rfl⟩
         rw [<- hwk]
         have HWK := hid hwk
         clear hown6 hB6 hq6 hwt hwk HBY
         go_wp2_with fail
         have h7 : OQ wm (w6.setCell ⟨wm.heap.size, k, none⟩ (.int .i64 wk)) M (fun j => if j < k + 1 then (Wt t [] j : Int) else 0) := (HQ6.out.set k wk).congr (fun j _ => by
           by_cases e : j = k
           · subst e; rw [if_pos rfl, if_pos (by omega), HWK.out]
           · rw [if_neg e]
             by_cases e2 : j < k
             · rw [if_pos e2, if_pos (by omega)]
             · rw [if_neg e2, if_neg (by omega)])
         have H7 := hid h7
         clear h7 g1 g2 gl
         go_roundw
         case rel => exact ⟨k + 1, by go_num, by omega, H7.out⟩
         case measure => simp [intOf]; omega
       · have hkM : M = k := by omega
         subst hkM
         obtain ⟨wt, hwt⟩ : ∃ wt, wt = wr := ⟨_, rfl⟩
         subst hwt
         have hq : OQ wm wt M (W8 t []) := HQ.out.congr (fun j hj => by rw [if_pos hj]; unfold W8; rw [if_neg (by simp)])
         have hx3 := (hq.bel.block w.heap.size (by omega)).trans HXM.out
         have HQ3 := hid hq
         clear hq HQ
         obtain ⟨x0, x1, x2, x3, x4⟩ := sysC hx3
         have HX3 := hid hx3
         clear hx3 x1 x2 x3
         go_wp2_with fail
         have hdl := dist_clf_len n f
         rw [<- HC.out, <- HM.out] at hdl
         have hin : ∀ x, x < n -> ∃ k : Nat, k < M /\ C[x]? = some (k : Int) := fun x hx => by
           rw [hdl, HC.out]; exact cls_in hx
         have hon : ∀ k, k < M -> ∃ x, x < n /\ C[x]? = some (k : Int) := fun k hk => by
           rw [hdl] at hk; rw [HC.out]; exact cls_onto hk
         have HIN := hid hin; have HON := hid hon
         have HSRT : Hid (Srt ltE t.es) := hid (by rw [HT.out]; exact col_srt s C)
         have HF : Hid (∀ x y, tau t x y -> rank n f y < rank n f x) := hid (fun x y hxy => rank_down HR.out HNN.out HCYC.out (by rw [<- HC.out, <- HT.out]; exact hxy))
         clear hdl hin hon x0 x4
         go_loopw [14] (fun v14 wr => ∃ (D : List Nat) (L : List Int), L = (D.flatMap fun k : Nat => memK C n (k : Int)) /\ OrdL t M D /\ OQ wm wr M (W8 t D) /\ wr.ownsRow (wm.heap.size + 1) 3 1 v14 L.length (L.flatMap encI))
           (fun v14 _ => match v14 with | .slice _ l _ => n - l | _ => 0)
         case atStart => exact ⟨[], [], rfl, .nil, HQ3.out, World.ownsRow_nil _ _ _ _⟩
         case round =>
           obtain ⟨D, L, hL, hD, hq, hown⟩ := hrel
           obtain ⟨oa, oc, ob, rfl, _, _, _, _⟩ := slAt_own lenI hown
           have hLn : L.length <= n := by rw [hL]; exact flat_le C n hD.nodup
           have hszr := hq.bel.size
           have hxr := (hq.bel.block w.heap.size (by omega)).trans HXM.out
           obtain ⟨x0, x1, x2, x3, x4⟩ := sysC hxr
           have HL := hid hL; have HD := hid hD; have HQ := hid hq; have HOWN := hid hown
           obtain ⟨ll, hll⟩ : ∃ ll, ll = L.length := ⟨_, rfl⟩
           rw [<- hll] at hLn HOWN ⊢
           have HLL := hid hll
           clear hL hD hq hown hxr x1 x2 x3 hll HQ3
           by_cases hlt : ll < n
           · have hlt2 : (ll : Int) < (n : Int) := by omega
             obtain ⟨x, hxM, hxD⟩ := flat_left HIN.out (D := D) (by rw [<- HL.out, <- HLL.out]; exact hlt)
             obtain ⟨K, hK⟩ := next_ex HTR.out HSRT.out HTST.out HF.out hxM hxD
             have hKM := hK.lt
             have HK := hid hK
             clear hxM hxD hK
             go_wp2_with fail
             obtain ⟨wq, hwq⟩ : ∃ wq, wq = wr := ⟨_, rfl⟩
             subst hwq
             have gl := HQ.out.rows.lt
             go_loopw [15] (fun v15 wx => ∃ j : Nat, wq = wx /\ v15 = .int .i64 j /\ j <= K) (fun v15 _ => K - (intOf v15).toNat)
             case atStart => exact ⟨0, rfl, rfl, Nat.zero_le _⟩
             case round =>
               obtain ⟨j, rfl, rfl, hj⟩ := hrel
               have hjM : j < M := by omega
               have hjM2 : (j : Int) < (M : Int) := by omega
               have g1 := HQ.out.rows.cell hjM
               obtain ⟨q, hq⟩ : ∃ q, q = W8 t D j := ⟨_, rfl⟩
               rw [<- hq] at g1
               by_cases hjK : j < K
               · have hb : (q != 0) = true := by
                   have h1 := HK.out.first j hjK
                   have h2 := W8_zero (t := t) D j
                   rw [bne_iff_ne, hq]
                   intro e
                   obtain ⟨h3, h4⟩ := h2.1 e
                   rcases h1 with h1 | h1
                   · exact h3 h1
                   · exact h1 h4
                 clear hq
                 go_wp2_with fail
                 go_roundw
                 case rel => exact ⟨j + 1, by trivial, by go_num, by omega⟩
                 case measure => simp [intOf]; omega
               · have hjj : K = j := by omega
                 subst hjj
                 have hb : (q != 0) = false := by
                   rw [hq, (W8_zero (t := t) D K).2 ⟨HK.out.new, HK.out.all⟩]; rfl
                 have g2 := HQ.out.rows.frozen K
                 clear hq
                 obtain ⟨vK, hv1, hv2, hv3⟩ := HO.out.rows.at hjM
                 obtain ⟨ma, mc, mb, rfl, _, _, hms, hmb⟩ := slAt_own lenI hv3
                 have hmp := memK_pos (HON.out K hjM)
                 obtain ⟨ML, hML⟩ : ∃ ML, ML = memK C n (K : Int) := ⟨_, rfl⟩
                 rw [<- hML] at hv1 hms hmb hmp
                 have hmle : ML.length <= n := by rw [hML]; exact memK_len C n _
                 obtain rfl := hms.ad hmp
                 have hqs : OQ wm (wq.setCell ⟨wm.heap.size, K, none⟩ (.int .i64 (-1))) M (W9 t D K []) := (HQ.out.set K (-1)).congr (fun j _ => (W9_nil D K j).symm)
                 have hms2 := hms.below hqs.bel (Nat.le_refl _)
                 have hvm := (World.cell?_of_block (a := ⟨w2.heap.size, K, none⟩) (hqs.bel.block w2.heap.size (by omega))).trans hv1
                 have hown2 : (wq.setCell ⟨wm.heap.size, K, none⟩ (.int .i64 (-1))).ownsRow (wm.heap.size + 1) 3 1 (.slice oa ll oc) ll (L.flatMap encI) := own_set1 HOWN.out (p := ⟨wm.heap.size, K, none⟩) (fun g hg => by have := (HOWN.out.lt g hg).1; show g ≠ wm.heap.size; omega) _
                 obtain ⟨wz, hwz⟩ : ∃ wz, wz = wq.setCell ⟨wm.heap.size, K, none⟩ (.int .i64 (-1)) := ⟨_, rfl⟩
                 have hszz : wz.heap.size = wq.heap.size := by rw [hwz, size_setCell]
                 have HQS := hid hqs; have HMS := hid hms2; have HVM := hid hvm; have HOWN2 := hid hown2
                 have HML := hid hML
                 clear hv1 hv2 hv3 hms hqs hms2 hvm hown2 hmb hML
                 go_upto_region 23 with fail
                 rw [<- hwz] at HQS HMS HVM HOWN2 ⊢
                 have gz := HQS.out.rows.lt
                 have hvm := HVM.out
                 obtain ⟨hn1', hn2', hn3'⟩ := flat_slice (ad := ⟨mb, 0, none⟩) lenI (fun x u hu => by simp [encI] at hu; subst hu; rfl) HMS.out rfl
                 have HN1 := hid hn1'; have HN2 := hid hn2'; have HN3 := hid hn3'
                 have hob2 : w2.heap.size < wz.heap.size := by omega
                 obtain ⟨ml, hml⟩ : ∃ ml, ml = ML.length := ⟨_, rfl⟩
                 rw [<- hml] at hvm HN3 hmp hmle
                 have HMLL := hid hml
                 clear hwz hn1' hn2' hn3' hml g1 g2
                 go_upto_region 24 with (at_builtin; go_must (refine wpList_lies rfl _ _ _ rfl rowI gz (by rfl) HOWN2.out ⟨mb, 0, none⟩ ml mc (ML.flatMap encI) rfl HN3.out HN1.out HN2.out hmp (by omega) (by unfold maxLen; omega) wz.heap.size rfl ?_); intro g cap w8 hown8 hg8 hat8 hlt8)
                 have hq8 := HQS.out.grown HOWN2.out hg8
                 have hown9 : w8.ownsRow (wm.heap.size + 1) 3 1 (.slice (some ⟨g, 0, none⟩) (ll + ml) cap) (L ++ ML).length ((L ++ ML).flatMap encI) := by
                   rw [List.length_append, List.flatMap_append, <- HLL.out, <- HMLL.out]; exact hown8
                 have hfr := getFrom_any (HGM.out.below hq8.bel) (K : Int) 0
                 have HQ8 := hid hq8; have HOWN9 := hid hown9; have HFR := hid hfr
                 clear hq8 hown9 hfr hown8 hg8 hat8 hvm HN1 HN2 HN3 HQS HOWN2 HVM HMS
                 go_wp2_with fail
                 refine HFR.out.mono ?_
                 rintro e w9 ⟨v9, rfl, hown10, hB9⟩
                 obtain ⟨fa, fc, fb, rfl, _, _, hfs, hfb⟩ := slAt_own lenI hown10
                 obtain ⟨F, hF⟩ : ∃ F, F = withL 0 (t.ins (K : Int)) := ⟨_, rfl⟩
                 rw [<- hF] at hfs hfb ⊢
                 have hFl : F.length <= 10000 := by
                   rw [hF]; unfold withL; rw [List.length_map]
                   have h1 := List.length_filter_le (fun s : S => s.1 == 0) (t.ins (K : Int))
                   have h2 := ins_len HTR.out (K : Int)
                   omega
                 have hq9 := HQ8.out.call hB9
                 have hown11 := own_below HOWN9.out hB9
                 have HQ9 := hid hq9; have HOWN11 := hid hown11; have HFS := hid hfs; have HFB := hid hfb; have HFF := hid hF
                 clear hq9 hown11 hfs hfb hF hown10 hB9
                 go_wp2_with fail
                 obtain ⟨Fl, hFl2⟩ : ∃ Fl, Fl = F.length := ⟨_, rfl⟩
                 rw [<- hFl2] at hFl ⊢
                 have HFL := hid hFl2
                 clear hFl2
                 go_loopw [94] (fun v94 wx => ∃ m : Nat, v94 = .int .i64 m /\ m <= Fl /\ OQ wm wx M (W9 t D K (F.take m)) /\ (∀ b, b ≠ wm.heap.size -> wx.heap[b]? = w9.heap[b]?) /\ wx.heap.size = w9.heap.size)
                   (fun v94 _ => Fl - (intOf v94).toNat)
                 case atStart => exact ⟨0, rfl, Nat.zero_le _, by rw [List.take_zero]; exact HQ9.out, fun _ _ => rfl, rfl⟩
                 case round =>
                   obtain ⟨m, rfl, hm, hq, hoth, hsz⟩ := hrel
                   have HQX := hid hq; have HOTH := hid hoth
                   have gq := hq.rows.lt
                   have g9 := HQ9.out.rows.lt
                   clear hq hoth
                   by_cases hmF : m < Fl
                   · obtain ⟨x, hx⟩ := getElem?_of_lt (xs := F) (i := m) (by have := HFL.out; omega)
                     obtain ⟨up, rfl, hup⟩ := from_rng HTR.out HTST.out (k := K) (x := x) (by rw [<- HFF.out]; exact List.mem_of_getElem? hx)
                     have hfp : 0 < F.length := by have := HFL.out; omega
                     have hfsx : SlAt encI 1 wr fa fb 0 F := ⟨HFS.out.ad, fun hp => by rw [hsz]; exact HFS.out.lt hp, fun i y hy j u hu => by
                       rw [World.cell?_of_block (w := w9) (a := ⟨fb, 0 + i * 1 + j, none⟩) (HOTH.out fb (by have := HFB.out hfp; have := HQ8.out.rows.lt; omega))]
                       exact HFS.out.cell i y hy j u hu⟩
                     obtain rfl := hfsx.ad hfp
                     have e0 := hfsx.ci hx
                     have fl := hfsx.lt hfp
                     simp only [Nat.zero_add] at e0
                     have g1 := HQX.out.rows.cell hup
                     have g2 := HQX.out.rows.frozen up
                     have hr9 := W9_rng HTR.out D K (F.take m) (by rw [List.length_take]; have := HFL.out; omega) up
                     obtain ⟨q, hq⟩ : ∃ q, q = W9 t D K (F.take m) up := ⟨_, rfl⟩
                     rw [<- hq] at g1 hr9
                     have hmF2 : (m : Int) < (Fl : Int) := by omega
                     have hup2 : (up : Int) < (M : Int) := by omega
                     obtain ⟨hq1, hq2⟩ := hr9
                     have h7 : OQ wm (wr.setCell ⟨wm.heap.size, up, none⟩ (.int .i64 (q - 1))) M (W9 t D K (F.take (m + 1))) := (HQX.out.set up (q - 1)).congr (fun j _ => by
                       rw [take_snoc hx, W9_snoc, hq])
                     have H7 := hid h7
                     clear h7 hq hfsx hx
                     go_wp2_with fail
                     go_roundw
                     case rel => exact ⟨m + 1, by go_num, by omega, H7.out, fun b hb => by rw [Below.heap_setCell _ _ _ _ hb]; exact HOTH.out b hb, by rw [size_setCell]; exact hsz⟩
                     case measure => simp [intOf]; omega
                   · have hmm : Fl = m := by omega
                     subst hmm
                     have hqe : OQ wm wr M (W8 t (D ++ [K])) := HQX.out.congr (fun j _ => by
                       rw [HFL.out, List.take_length, HFF.out]
                       exact W9_end HTR.out HSRT.out HD.out HK.out j)
                     have howne := own_block HOWN11.out (w' := wr) (fun g hg => HOTH.out g (by have := (HOWN11.out.lt g hg).1; omega))
                     have HQE := hid hqe; have HOE := hid howne
                     have HLE : Hid (L ++ ML = ((D ++ [K]).flatMap fun k : Nat => memK C n (k : Int))) := hid (by
                       rw [List.flatMap_append, HL.out, HML.out]; simp)
                     clear hqe howne HQX HOTH
                     go_wp2_with fail
                     go_roundw
                     case rel => exact ⟨D ++ [K], L ++ ML, HLE.out, .step HD.out HK.out, HQE.out, HOE.out⟩
                     case measure =>
                       have h1 := flat_le C n (OrdL.step HD.out HK.out).nodup
                       rw [<- HLE.out, List.length_append, <- HLL.out, <- HMLL.out] at h1
                       simp
                       omega
           · have hge : n <= (D.flatMap fun k : Nat => memK C n (k : Int)).length := by rw [<- HL.out, <- HLL.out]; omega
             have hlle : n = ll := by omega
             subst hlle
             have hall := flat_done HON.out HD.out.nodup hge
             have hbelow : Below w.heap.size w wr := HBM.out.trans (HQ.out.bel.mono (by omega))
             have hownf : wr.ownsRow w.heap.size 3 1 (.slice oa n oc) n ((D.flatMap fun k : Nat => memK C n (k : Int)).flatMap encI) := by rw [<- HL.out]; exact own_mono HOWN.out (by omega)
             have HALL := hid hall; have HBF := hid hbelow; have HOF := hid hownf
             clear hall hbelow hownf hge
             go_wp2_with fail
             go_ret2
             exact ⟨f, D, .slice oa n oc, HCYC.out, by rw [<- HC.out, <- HT.out, <- HM.out]; exact HD.out, by rw [<- HC.out, <- HM.out]; exact HALL.out, rfl, by rw [<- HC.out]; exact HOF.out, HBF.out⟩
end Go.Proofs.YtebmlhaoeldhkaaGreatDoor

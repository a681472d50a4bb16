/-
 Lemmas.
-/
import Derived.Test.YtebmlhaoeldhkaaGreatDoorGBkQ
import Derived.Test.YtebmlhaoeldhkaaGreatDoorGBrS
import Derived.Test.YtebmlhaoeldhkaaGreatDoorGFault
import Derived.Deep.QuietTactic
import Derived.BigQuiet
import Derived.BigRegion
namespace Go.Proofs.YtebmlhaoeldhkaaGreatDoor
open Go.RowKit Pl
open Lib (hid)
theorem own_drewO {w : World} {base : Nat} {e : TypeId} {k n m : Nat} {v : Value} {xs : List Value} (h : w.ownsRow base e k v n xs) : (w.drewN m).ownsRow base e k v n xs := h
set_option maxRecDepth 100000 in
set_option maxHeartbeats 16000000 in
theorem ofCycles_any {w : World} {gb : Nat} {s : Lts} {n : Nat} (hg : GraphAt w gb s) (hr : s.Right) (hn : s.st = (n : Int)) {t : Lts} {f : Nat -> Int} {D : List Nat} (hb : BlkO t n f D) {C : Nat -> Int} (ht : ∀ x y, tau t x y ↔ stp s x 0 y /\ C y = C x) (he : s.es.length <= 900)
   {ca ya oa : Option Addr} {cb co cc yb yo yc ob oo oc : Nat} (hC : SlAt encI 1 w ca cb co (fl n C)) (hY : SlAt encI 1 w ya yb yo (fl n (clf n f))) (hO : SlAt encI 1 w oa ob oo ((ordO n f D).map Int.ofNat)) :
   Calls Tryz.prog 100 #[.pointer (some ⟨gb, 0, none⟩), .slice ca n cc, .slice ya n yc, .slice oa n oc] w fun e w' => ∃ (tb base : Nat) (F : Nat -> List S), e = .returned (.slice (some ⟨tb, 0, none⟩) n n) /\ OwnRows encS 2 117 78 w' base tb n F /\ w.heap.size <= tb /\ base <= w'.heap.size /\ Below w.heap.size w w' /\ ∀ p, p < n -> SigOk s C p (F p) := by
 have hn1 : n <= 1000 := by have := hr.st0; omega
 have hmk := run_make_row' (P := Tryz.prog) 38 78 (.slice none 0 0) 24 Tryz.underlying38 (by kernel_rfl) rfl .i64 .i64 n (by omega) (by omega)
 have hgs := getStates_any hg
 rw [hn] at hgs
 have HG := hid hg; have HR := hid hr; have HN := hid hn; have HBK := hid hb; have HT := hid ht; have HE := hid he; have HC := hid hC; have HY := hid hY; have HO := hid hO; have HGS := hid hgs
 have HOL := hid hb.len
 clear hg hr hn hb ht he hC hY hO hgs
 go_enter Tryz.func100, Tryz.ntmps100
 go_wp2_with fail
 refine HGS.out.mono ?_
 rintro e w1 ⟨rfl, hB1⟩
 have hrw := OwnRows.made (enc := encS) (k := 2) (e := 117) (T := 78) (w := w1) (n := n)
 have hb1 := (hB1.alloc hB1.size (.cells (madeCells #[.slice none 0 0] n) 78))
 have HRW := hid hrw; have HB1 := hid hb1
 have hTB : w.heap.size <= w1.heap.size := hB1.size
 clear hrw hb1 hB1 HGS
 go_wp2_with fail
 obtain ⟨tb, htb⟩ : ∃ tb, tb = w1.heap.size := ⟨_, rfl⟩
 obtain ⟨base, hbase⟩ : ∃ base, base = w1.heap.size + 1 := ⟨_, rfl⟩
 have hbs0 : (w1.alloc (.cells (madeCells #[.slice none 0 0] n) 78)).heap.size = base := by rw [hbase]; simp
 rw [<- hbase] at HRW
 rw [<- htb] at HRW hTB ⊢
 have hbt : tb < base := by omega
 have hbsz : base <= (w1.alloc (.cells (madeCells #[.slice none 0 0] n) 78)).heap.size := by omega
 have HBSZ := hid hbsz
 clear htb hbase hbs0 hbsz
 go_loopw [10, 11, 12, 14, 57, 77] (fun v10 _ _ _ _ _ wr => ∃ (d : Nat) (F : Nat -> List S), v10 = .int .i64 (offO n f D d) /\ offO n f D d <= n /\ OwnRows encS 2 117 78 wr base tb n F /\ base <= wr.heap.size /\ Below w.heap.size w wr /\ (∀ p, p ∈ ordO n f (D.take d) -> SigOk s C p (F p)) /\ (∀ p, p ∉ ordO n f (D.take d) -> F p = []) /\ (offO n f D d = n -> ∀ p, p < n -> p ∈ ordO n f (D.take d))) (fun v10 _ _ _ _ _ _ => n - (intOf v10).toNat)
 case atStart => exact ⟨0, fun _ => [], by rw [offO_zero]; rfl, by rw [offO_zero]; exact Nat.zero_le _, HRW.out, HBSZ.out, HB1.out, by simp [ordO], fun _ _ => rfl, fun h p hp => by rw [offO_zero] at h; omega⟩
 case round =>
   obtain ⟨d, F, rfl, hin, hrw, hbs, hB, hF, hF0, hAll⟩ := hrel
   have HRX := hid hrw; have HB := hid hB; have HF := hid hF; have HF0 := hid hF0; have HAL := hid hAll
   have hws := hB.size
   clear hrw hB hF hF0 HRW HB1 HBSZ hAll
   by_cases hlt : offO n f D d < n
   · obtain ⟨k, hk⟩ := HBK.out.more hlt
     have HK := hid hk
     have hpos := HBK.out.blk_pos (List.mem_of_getElem? hk)
     have hole := HBK.out.off_le hk
     obtain ⟨i, hi⟩ : ∃ i, i = offO n f D d := ⟨_, rfl⟩
     obtain ⟨B, hBe⟩ : ∃ B, B = blkO n f k := ⟨_, rfl⟩
     obtain ⟨m, hm⟩ : ∃ m, m = B.length := ⟨_, rfl⟩
     rw [<- hi] at hlt hole ⊢
     rw [<- hBe] at hpos hole
     rw [<- hm] at hpos hole
     have HAT : Hid (∀ j, j < m -> ∃ p, B[j]? = some p /\ (ordO n f D)[i + j]? = some p /\ p < n /\ asF n f p = k) := hid (fun j hj => by
       have h1 : j < (blkO n f k).length := by rw [<- hBe, <- hm]; exact hj
       have h2 := ordO_at hk h1
       rw [<- hi] at h2
       have h3 := List.getElem?_eq_getElem h1
       have h4 := mem_blkO.1 (List.mem_of_getElem? h3)
       exact ⟨_, by rw [hBe]; exact h3, by rw [h2]; exact h3, h4.1, h4.2⟩)
     have HNX : Hid (∀ y, (ordO n f D)[i + m]? = some y -> y < n /\ asF n f y ≠ k) := hid (fun y hy => by
       refine HBK.out.next hk ?_
       rw [<- hi, <- hBe, <- hm]; exact hy)
     have HIE := hid hi; have HBE := hid hBe; have HM := hid hm
     obtain ⟨W, hW⟩ : ∃ W, W = wr := ⟨_, rfl⟩
     subst hW
     have hlt0 : (i : Int) < (n : Int) := by omega
     obtain rfl := HO.out.ad (by rw [List.length_map, HOL.out]; omega)
     obtain rfl := HY.out.ad (by rw [fl_len]; omega)
     have hobl := HO.out.lt (by rw [List.length_map, HOL.out]; omega)
     have hybl := HY.out.lt (by rw [fl_len]; omega)
     have HOC : Hid (∀ wx, Below W.heap.size W wx -> ∀ q p : Nat, (ordO n f D)[q]? = some p -> p < n -> wx.cell? ⟨ob, oo + q, none⟩ = some (.int .i64 (p : Int)) /\ wx.cell? ⟨yb, yo + p, none⟩ = some (.int .i64 (asF n f p : Int)) /\ ob < wx.heap.size /\ yb < wx.heap.size) := hid (fun wx hBx q p hqp hp => by
       have hbb := HB.out.trans (hBx.mono hws)
       have h1 := (HO.out.below hbb (Nat.le_refl _)).ci (i := q) (x := (p : Int)) (by rw [List.getElem?_map, hqp]; rfl)
       have h2 := (HY.out.below hbb (Nat.le_refl _)).ci (fl_get (clf n f) hp)
       rw [asF_eq hp] at h2
       have := hbb.size
       exact ⟨h1, h2, by omega, by omega⟩)
     clear hk hi hBe hm
     obtain ⟨p0, _, h0, hp0, hk0⟩ := HAT.out 0 hpos
     rw [Nat.add_zero] at h0
     have HP0 := hid h0; have HK0 := hid hk0
     clear h0 hk0
     have hFl : Hid (∀ x, (F x).length <= 900) := hid (fun x => by
       by_cases hx : x ∈ ordO n f (D.take d)
       · exact Nat.le_trans (HF.out x hx).len HE.out
       · rw [HF0.out x hx]; simp)
     have HLT : Hid ((B.flatMap (actC s C (asF n f) F)).length <= 900 * 900) := hid (by rw [HBE.out]; exact actC_blk HE.out hFl.out k)
     go_wp2_with fail
     go_loopw [11, 12, 14, 57, 77] (fun v11 v12 _ _ _ wx => ∃ (q ll : Nat), v11 = .int .i64 q /\ i <= q /\ q <= i + m /\ ll = ((B.take (q - i)).flatMap (actC s C (asF n f) F)).length /\ wx.ownsRow W.heap.size 117 2 v12 ll (((B.take (q - i)).flatMap (actC s C (asF n f) F)).flatMap encS) /\ Below W.heap.size W wx) (fun v11 _ _ _ _ _ => n + 1 - (intOf v11).toNat)
     case atStart => exact ⟨i, 0, rfl, Nat.le_refl _, by omega, by simp, by rw [Nat.sub_self]; exact World.ownsRow_nil _ _ _ _, Below.refl _ _⟩
     case round =>
       obtain ⟨q, ll, rfl, hiq, hqm, hll, hown, hBx⟩ := hrel
       have HOW := hid hown; have HBX := hid hBx; have HLL := hid hll
       have hwx := hBx.size
       clear hown hBx hll
       obtain ⟨o1, y1, ol1, yl1⟩ := HOC.out _ HBX.out i p0 HP0.out hp0
       rw [HK0.out] at y1
       have hp0I : (p0 : Int) < (n : Int) := by omega
       by_cases hq : q < i + m
       · obtain ⟨p, hpB, hpO, hpn, hpk⟩ := HAT.out (q - i) (by omega)
         rw [show i + (q - i) = q by omega] at hpO
         obtain ⟨o0, y0, _, _⟩ := HOC.out _ HBX.out q p hpO hpn
         rw [hpk] at y0
         have HPB := hid hpB; have HPK := hid hpk; have HPO := hid hpO
         have hqI : (q : Int) < (n : Int) := by omega
         have hpI : (p : Int) < (n : Int) := by omega
         have hqn : q < n := by omega
         clear hpB hpO hpk
         have hkk : ((k : Int) == (k : Int)) = true := by simp
         go_wp2_with fail
         go_quiet (fail)
         go_wp2_with fail
         have hbq : Below wr.heap.size wr (wr.drewN nq) := bdrew (Below.refl _ _)
         have hbw := HBX.out.trans (hbq.mono hwx)
         refine (each_any HG.out (HB.out.trans (hbw.mono hws)) (p : Int)).mono ?_
         rintro e wb ⟨⟨a2, c2, b2, off2, rfl, _, _, hss⟩, hBb⟩
         have HSS := hid hss
         have hb2 := hbq.trans (hBb.mono hbq.size)
         have hown2 := own_below HOW.out hb2
         have hbb := HBX.out.trans (hb2.mono hwx)
         obtain ⟨L0, hL0⟩ : ∃ L0, L0 = (B.take (q - i)).flatMap (actC s C (asF n f) F) := ⟨_, rfl⟩
         have HL0 := hid hL0
         rw [<- hL0] at hown2
         have HOW2 := hid hown2; have HBB := hid hbb
         have HLL2 : Hid (ll = L0.length) := hid (by rw [hL0]; exact HLL.out)
         obtain ⟨ol, hol⟩ : ∃ ol, ol = (s.outs (p : Int)).length := ⟨_, rfl⟩
         have hol2 : ol <= 900 := by have := HE.out; have := outs_leB s (p : Int); omega
         have HTK : Hid ((B.take (q + 1 - i)).flatMap (actC s C (asF n f) F) = L0 ++ (s.outs (p : Int)).flatMap (shareC C (asF n f) F p)) := hid (by
           rw [show q + 1 - i = (q - i) + 1 by omega, take_snoc HPB.out, List.flatMap_append, <- hL0]
           simp [actC])
         have HLE : Hid (L0.length + ((s.outs (p : Int)).flatMap (shareC C (asF n f) F p)).length <= 900 * 900) := hid (by
           have h1 := flat_take_le (actC s C (asF n f) F) B (q + 1 - i)
           rw [HTK.out, List.length_append] at h1
           exact Nat.le_trans h1 HLT.out)
         rw [<- hol]
         have HOLE := hid hol
         clear hss hb2 hown2 hbb hL0 hol hbq hbw hBb hkk o0 o1 y0 y1 HOW HLL HBX
         go_wp2_with fail
         go_loopw [12, 14, 53, 57, 77] (fun v12 _ v53 _ _ wx => ∃ (r ll : Nat), v53 = .int .i64 r /\ r <= ol /\ ll = (L0 ++ ((s.outs (p : Int)).take r).flatMap (shareC C (asF n f) F p)).length /\ wx.ownsRow W.heap.size 117 2 v12 ll ((L0 ++ ((s.outs (p : Int)).take r).flatMap (shareC C (asF n f) F p)).flatMap encS) /\ Below W.heap.size W wx) (fun _ _ v53 _ _ _ => ol - (intOf v53).toNat)
         case atStart => exact ⟨0, ll, rfl, Nat.zero_le _, by simpa using HLL2.out, by simpa using HOW2.out, HBB.out⟩
         case round =>
           obtain ⟨r, ll, rfl, hr, hll, hown, hBx⟩ := hrel
           have HOW := hid hown; have HBX := hid hBx; have HLL := hid hll
           have hwx := hBx.size
           clear hown hBx hll HOW2 HBB HLL2
           by_cases hro : r < ol
           · obtain ⟨y, hy⟩ := getElem?_of_lt (xs := s.outs (p : Int)) (i := r) (by rw [<- HOLE.out]; exact hro)
             have hbw := HB.out.trans (HBX.out.mono hws)
             have hss := HSS.out.below hbw (Nat.le_refl _)
             obtain rfl := hss.ad (by rw [<- HOLE.out]; omega)
             have d0 := hss.s0 hy; have d1 := hss.s1 hy
             have dl := hss.lt (by rw [<- HOLE.out]; omega)
             have hyr := offB_false.1 (HR.out.edges _ (mem_outs.1 (List.mem_of_getElem? hy)))
             have HSN : Hid (L0 ++ ((s.outs (p : Int)).take (r + 1)).flatMap (shareC C (asF n f) F p) = (L0 ++ ((s.outs (p : Int)).take r).flatMap (shareC C (asF n f) F p)) ++ shareC C (asF n f) F p y) := hid (by rw [take_snoc hy, List.flatMap_append, List.append_assoc]; simp)
             have hlm : ll + (shareC C (asF n f) F p y).length <= 900 * 900 := by
               have h1 := flat_take_le (shareC C (asF n f) F p) (s.outs (p : Int)) (r + 1)
               have h2 := HLE.out
               have h3 := congrArg List.length HSN.out
               rw [List.length_append, List.length_append, <- HLL.out] at h3
               omega
             obtain ⟨y1, y2⟩ := y
             simp only at hyr d0 d1
             obtain ⟨u, rfl⟩ := Int.eq_ofNat_of_zero_le hyr.2.2.2.2.1
             have hun : u < n := by have := HN.out; omega
             have hrI : (r : Int) < (ol : Int) := by omega
             have huI : (u : Int) < (n : Int) := by omega
             have HLM := hid hlm
             clear hss hy hyr hbw hlm
             go_upto_region 11 with fail
             obtain ⟨U, hU⟩ : ∃ U, U = wr.alloc (.cells #[.int .i64 y1, .int .i64 (u : Int)] 117) := ⟨_, rfl⟩
             have hbA : Below W.heap.size W U := by rw [hU]; exact HBX.out.alloc hwx _
             have hA0 := heap_alloc_new wr (.cells #[.int .i64 y1, .int .i64 (u : Int)] 117)
             have hoU : U.ownsRow W.heap.size 117 2 u12 ll ((L0 ++ ((s.outs (p : Int)).take r).flatMap (shareC C (asF n f) F p)).flatMap encS) := by rw [hU]; exact HOW.out.alloc _
             rw [<- hU] at hA0 ⊢
             obtain ⟨sb, hsb⟩ : ∃ sb, sb = wr.heap.size := ⟨_, rfl⟩
             rw [<- hsb] at hA0 ⊢
             have HBA := hid hbA; have HOU := hid hoU
             have sbl : sb < U.heap.size := (Array.getElem?_eq_some_iff.1 hA0).1
             have hUs := hbA.size
             have HA0 := hid hA0
             have KEEP : Hid (∀ V, Below U.heap.size U V -> V.cell? ⟨sb, 0, none⟩ = some (.int .i64 y1) /\ V.cell? ⟨sb, 1, none⟩ = some (.int .i64 (u : Int)) /\ V.cell? ⟨ob, oo + q, none⟩ = some (.int .i64 (p : Int)) /\ sb < V.heap.size /\ ob < V.heap.size) := hid (fun V hV => by
               have h1 := (hV.block sb sbl).trans HA0.out
               have h2 := HOC.out V (HBA.out.trans (hV.mono hUs)) q p HPO.out hpn
               exact ⟨by simp [World.cell?, h1], by simp [World.cell?, h1], h2.1, Nat.lt_of_lt_of_le sbl hV.size, h2.2.2.1⟩)
             have CA : Hid (∀ V, Below U.heap.size U V -> ∀ bt, bt = (decide (y1 = 0) && decide (C u = C p)) -> Calls Tryz.prog 98 #[.int .i64 (p : Int), .agg #[.int .i64 y1, .int .i64 (u : Int)], .slice ca n cc] V fun e w' => e = .returned (.bool bt) /\ Below U.heap.size U w') := hid (fun V hV bt hbt => (inert_any (c := cc) (HC.out.below (HB.out.trans ((HBA.out.trans (hV.mono hUs)).mono hws)) (Nat.le_refl _)) hpn hun y1).mono (by
               rintro e w' ⟨rfl, hB⟩
               exact ⟨by rw [hbt], hV.trans (hB.mono hV.size)⟩))
             obtain ⟨bt, hbt⟩ : ∃ bt, bt = (decide (y1 = 0) && decide (C u = C p)) := ⟨_, rfl⟩
             have CB := hid (fun V hV => CA.out V hV bt hbt)
             have HBT := hid hbt
             have B0 := hid (Below.refl U.heap.size U).drew
             obtain ⟨s0, s1, s2, sl0, sl1⟩ := KEEP.out _ B0.out
             clear hU hsb hbA hoU hA0 hbt CA d0 d1 dl HOW HBX
             go_region_with (first
               | (go_at_call 98; refine (CB.out _ B0.out).mono ?_; rintro e V ⟨rfl, hB2⟩; obtain ⟨s0', s1', s2', sl0', sl1'⟩ := KEEP.out _ hB2))
             all_goals
               have hbV := HBA.out.trans (hB2.mono hUs)
               have hoV := own_below HOU.out hB2
               have HBV := hid hbV; have HOV := hid hoV
               have hwv := hbV.size
               clear hbV hoV hB2 s0 s1 s2 sl0 sl1 CB HOU HBA KEEP B0 HA0
               rcases hcase : bt with _ | _
               · have hni : ¬ (y1 = 0 /\ C u = C p) := by
                   have h1 := HBT.out
                   rw [hcase] at h1
                   rintro ⟨e1, e2⟩
                   simp [e1, e2] at h1
                 have HSH : Hid (shareC C (asF n f) F p (y1, (u : Int)) = [(y1, C u)]) := hid (by unfold shareC; simp only [Int.toNat_natCast]; rw [if_neg hni])
                 have hlm := HLM.out
                 rw [HSH.out, List.length_singleton] at hlm
                 have hcs := HC.out.below (HB.out.trans (HBV.out.mono hws)) (Nat.le_refl _)
                 obtain rfl := hcs.ad (by rw [fl_len]; omega)
                 have cq := hcs.ci (fl_get C hun)
                 have cl := hcs.lt (by rw [fl_len]; omega)
                 obtain ⟨cv, hcv⟩ : ∃ cv, cv = C u := ⟨_, rfl⟩
                 rw [<- hcv] at cq HSH
                 clear hni hcs hcv hcase
                 go_wp2_with fail
                 go_region_law (first
                   | (refine step_app1 rfl _ _ _ rfl rowS rfl (World.ownsRow.drew (HOV.out.alloc _)) ⟨V.heap.size, 0, none⟩ 1 1 [.int .i64 y1, .int .i64 cv] rfl rfl (cells2 (by simp [go_sem]) (by simp [go_sem])) (by simp [Value.oneCell']) (by decide) (by omega) (by unfold maxLen; omega) (by simp; omega) ?_; intro g cap w3 hown3 hg3))
                 all_goals
                   have hb3 := (bdrew (n := 1) (HBV.out.alloc hwv (.cells #[.int .i64 y1, .int .i64 cv] 117))).grown hg3 (by simp [World.drewN]; omega) (fun k hk => (HOV.out.lt k hk).1)
                   have HO3 := hid hown3; have HB3 := hid hb3
                   clear hown3 hg3 hb3 cq cl s0' s1' s2'
                   go_wp2_with fail
                   go_roundw
                   case rel => exact ⟨r + 1, ll + 1, by go_num, by omega, by rw [HSN.out, List.length_append, HSH.out, <- HLL.out]; rfl, by rw [HSN.out, HSH.out, List.flatMap_append (xs := L0 ++ _)]; exact HO3.out, HB3.out⟩
                   case measure => simp [intOf]; omega
               · have hin : y1 = 0 /\ C u = C p := by
                   have h1 := HBT.out
                   rw [hcase] at h1
                   simpa using h1.symm
                 obtain ⟨rfl, hcu⟩ := hin
                 obtain ⟨g0, g1, gl0, gl1⟩ := HOC.out V HBV.out q p HPO.out hpn
                 rw [HPK.out] at g1
                 have g2 : V.cell? ⟨yb, yo + u, none⟩ = some (.int .i64 (asF n f u : Int)) := by
                   have h2 := (HY.out.below (HB.out.trans (HBV.out.mono hws)) (Nat.le_refl _)).ci (fl_get (clf n f) hun)
                   rw [asF_eq hun] at h2
                   exact h2
                 obtain ⟨ku, hku⟩ : ∃ ku, ku = asF n f u := ⟨_, rfl⟩
                 rw [<- hku] at g2
                 by_cases hkk : ku = k
                 · have HSH : Hid (shareC C (asF n f) F p (0, (u : Int)) = []) := hid (by unfold shareC; simp only [Int.toNat_natCast]; rw [if_pos ⟨trivial, hcu⟩, if_pos (by rw [<- hku, hkk, HPK.out])])
                   have hkb : ((ku : Int) == (k : Int)) = true := by rw [hkk]; simp
                   have HZ := hid (fun m => (bdrew (n := m) HBV.out : Below W.heap.size W (V.drewN m)))
                   clear hcu hku hkk hcase
                   go_wp2_with fail
                   go_quiet (fail)
                   go_wp2_with fail
                   go_roundw
                   case rel => exact ⟨r + 1, ll, by go_num, by omega, by rw [HSN.out, HSH.out, List.append_nil]; exact HLL.out, by rw [HSN.out, HSH.out, List.append_nil]; exact HOV.out, HZ.out _⟩
                   case measure => simp [intOf]; omega
                 · have HSH : Hid (shareC C (asF n f) F p (0, (u : Int)) = F u) := hid (by unfold shareC; simp only [Int.toNat_natCast]; rw [if_pos ⟨trivial, hcu⟩, if_neg (by rw [<- hku, HPK.out]; exact hkk)])
                   have hkb : ((ku : Int) == (k : Int)) = false := by simp; omega
                   have hlm := HLM.out
                   rw [HSH.out] at hlm
                   obtain ⟨vq, hvq, hvf, hvo⟩ := (HRX.out.call HBV.out).at hun
                   obtain ⟨va, vc, vb, rfl, _, _, hsl, _⟩ := slAt_own lenS hvo
                   have htl := (HRX.out.call HBV.out).size
                   have hFl2 := hFl.out u
                   have HSL := hid hsl
                   obtain ⟨fq, hfq⟩ : ∃ fq, fq = (F u).length := ⟨_, rfl⟩
                   rw [<- hfq] at hvq hFl2 hlm
                   have HFQ := hid hfq
                   clear hcu hku hkk hcase hvf hvo hsl hfq
                   go_wp2_with fail
                   go_quiet (fail)
                   go_wp2_with (at_builtin; refine wpList_appS rfl _ _ _ rfl rowS (base := W.heap.size) (by simpa [World.drewN] using hwv) rfl (own_drewO HOV.out) lenS oneES' (HSL.out.below (bdrew (Below.refl _ _)) (Nat.le_refl _)) (by rw [<- HFQ.out]; rfl) (by rw [<- HFQ.out]; omega) (by rw [<- HFQ.out]; unfold maxLen; omega) ?_; intro v3 w3 hown3 hg3; have hb3 := (bdrew HBV.out).grown hg3 (by simpa [World.drewN] using hwv) (fun k hk => (HOV.out.lt k hk).1); have HO3 := hid hown3; have HB3 := hid hb3; clear hown3 hg3 hb3)
                   go_roundw
                   case rel => exact ⟨r + 1, ll + (F u).length, by go_num, by omega, by rw [HSN.out, List.length_append, HSH.out, <- HLL.out], by rw [HSN.out, HSH.out, List.flatMap_append (xs := L0 ++ _)]; exact HO3.out, HB3.out⟩
                   case measure => simp [intOf]; omega
           · obtain rfl : r = ol := by omega
             have e1 : (s.outs (p : Int)).take r = s.outs (p : Int) := by rw [List.take_of_length_le]; have := HOLE.out; omega
             have hown := HOW.out; have hll := HLL.out
             rw [e1, <- HTK.out] at hown hll
             have HO3 := hid hown; have HL3 := hid hll; have HB3 := hid HBX.out
             clear e1 hown hll HOW HLL HBX
             go_wp2_with fail
             go_roundw
             case rel => exact ⟨q + 1, ll, by go_num, by omega, by omega, HL3.out, HO3.out, HB3.out⟩
             case measure => simp [intOf]; omega
       · have hqe : q = i + m := by omega
         have hown := HOW.out; have hll := HLL.out
         rw [show q - i = m by omega, HM.out, List.take_length] at hown hll
         obtain ⟨L, hL⟩ : ∃ L, L = B.flatMap (actC s C (asF n f) F) := ⟨_, rfl⟩
         have hlm := HLT.out
         rw [<- hL] at hown hll hlm
         rw [hll] at hown
         have HST := hid (fun (wq : World) (h : wq.ownsRow W.heap.size 117 2 u12 L.length (L.flatMap encS)) => sortedS_any h (by omega))
         have HSG : Hid (∀ p, p < n -> asF n f p = k -> SigOk s C p (nf ltS L)) := hid (fun p hp hpk => by
           rw [hL, HBE.out]
           exact sig_cyc HR.out HN.out HT.out HBK.out.cyc (fun p' u' h1 h2 h3 h4 => HF.out u' (HBK.out.ahead HK.out h1 h2 h3 h4)) hp hpk)
         have hLn : (nf ltS L).length <= 900 := by
           have h1 := (HSG.out p0 hp0 HK0.out).len
           exact Nat.le_trans h1 HE.out
         have HOW2 := hid hown; have HB2 := hid (fun mm => (bdrew (n := mm) HBX.out : Below W.heap.size W (wr.drewN mm)))
         have HQE := hid hqe
         clear hown hll hL hlm HOW HLL HLT HBX
         rcases Nat.lt_or_ge q n with hqn | hqn
         case' inl =>
           obtain ⟨y, hy⟩ := getElem?_of_lt (xs := ordO n f D) (i := q) (by rw [HOL.out]; exact hqn)
           have hyn := HNX.out y (by rw [<- HQE.out]; exact hy)
           obtain ⟨o0, y0, _, _⟩ := HOC.out wr (HB2.out 0) q y hy hyn.1
           obtain ⟨ky, hky⟩ : ∃ ky, ky = asF n f y := ⟨_, rfl⟩
           rw [<- hky] at y0 hyn
           have hkb : ((ky : Int) == (k : Int)) = false := by simp; omega
           have hqI : (q : Int) < (n : Int) := by omega
           have hynI : (y : Int) < (n : Int) := by omega
           have hyn1 := hyn.1
           clear hy hyn hky hqe
         case' inr =>
           have hqI : decide ((q : Int) < (n : Int)) = false := by simp; omega
           have hqI2 : decide (q < n) = false := by simp; omega
           clear hqe hqn
         all_goals
           go_wp2_with fail
           go_quiet (fail)
           go_wp2_with fail
           refine (HST.out _ (own_drewO HOW2.out)).mono ?_
           rintro e w4 ⟨v4, rfl, hown4, hB4⟩
           obtain ⟨va, vc, vb, rfl, _, _, hsl4, hvb⟩ := slAt_own lenS hown4
           have hb4 : Below W.heap.size W w4 := hB4 (HB2.out _)
           obtain ⟨LL, hLL⟩ : ∃ LL, LL = nf ltS L := ⟨_, rfl⟩
           rw [<- hLL] at hsl4 hvb hLn ⊢
           obtain ⟨l4, hl4⟩ : ∃ l4, l4 = LL.length := ⟨_, rfl⟩
           have HSG2 : Hid (∀ p, p < n -> asF n f p = k -> SigOk s C p LL) := hid (by rw [hLL]; exact HSG.out)
           have HB4 := hid hb4; have HSL4 := hid hsl4; have HL4 := hid hl4
           have HVB : Hid (0 < LL.length -> vb ≠ tb) := hid (fun h => by have := hvb h; omega)
           have HRX4 : Hid (OwnRows encS 2 117 78 w4 base tb n (fun x => if x ∈ B.take (i - i) then LL else F x)) := hid ((HRX.out.call hb4).congr (fun x => by simp))
           have hs4 := hb4.size
           have hsp : base <= w4.heap.size := by omega
           rw [<- hl4]
           have HBA4 := hid (HB.out.trans (hb4.mono hws))
           clear hown4 hB4 hsl4 hvb hb4 hLL hl4 HST HSG HOW2 HB2 hqI
           go_wp2_with fail
           go_loopw [10] (fun v10 wx => ∃ j : Nat, v10 = .int .i64 j /\ i <= j /\ j <= q /\ OwnRows encS 2 117 78 wx base tb n (fun x => if x ∈ B.take (j - i) then LL else F x) /\ SlAt encS 2 wx va vb 0 LL /\ base <= wx.heap.size /\ Below w.heap.size w wx) (fun v10 _ => n + 1 - (intOf v10).toNat)
           case atStart => exact ⟨i, rfl, Nat.le_refl _, by omega, HRX4.out, HSL4.out, hsp, HBA4.out⟩
           case round =>
             obtain ⟨j, rfl, hij, hjq, hrw, hsl, hbz, hBx⟩ := hrel
             have HRW := hid hrw; have HSL := hid hsl; have HBX := hid hBx
             clear hrw hsl hBx HRX4 HSL4 HBA4
             have hqe := HQE.out
             by_cases hlt2 : j < q
             · obtain ⟨p, hpB, hpO, hpn, hpk⟩ := HAT.out (j - i) (by omega)
               rw [show i + (j - i) = j by omega] at hpO
               have o0 := (HO.out.below HBX.out (Nat.le_refl _)).ci (i := j) (x := (p : Int)) (by rw [List.getElem?_map, hpO]; rfl)
               have hobx : ob < wr.heap.size := by have := HBX.out.size; omega
               have hjI : (j : Int) < (q : Int) := by omega
               have hjN : (j : Int) < (n : Int) := by omega
               have hpI : (p : Int) < (n : Int) := by omega
               have hbd := (Below.refl wr.heap.size wr).drew
               have HCL := hid (cloneS_any (c := vc) (HSL.out.below hbd (Nat.le_refl _)) (by have := HL4.out; omega))
               rw [<- HL4.out] at HCL
               have HPB := hid hpB; have HPK := hid hpk; have HPO := hid hpO; have HBD := hid hbd
               have AFTER : Hid (∀ V, Below wr.drew.heap.size wr.drew V -> Below wr.heap.size wr V /\ V.cell? ⟨ob, oo + j, none⟩ = some (.int .i64 (p : Int)) /\ ob < V.heap.size /\ V.frozen? ⟨tb, p, none⟩ = false /\ (∃ v, V.cell? ⟨tb, p, none⟩ = some v) /\ tb < V.heap.size) := hid (fun V hV => by
                 have h1 : Below wr.heap.size wr V := HBD.out.trans (hV.mono (by simp))
                 have h2 := (HO.out.below (HBX.out.trans (h1.mono HBX.out.size)) (Nat.le_refl _)).ci (i := j) (x := (p : Int)) (by rw [List.getElem?_map, HPO.out]; rfl)
                 obtain ⟨v, h3, h4, _⟩ := (HRW.out.call h1).at hpn
                 exact ⟨h1, h2, by have := h1.size; omega, h4, ⟨v, h3⟩, (HRW.out.call h1).size⟩)
               have FRM : Hid (∀ (V : World) (v : Value), V.ownsRow wr.drew.heap.size 117 2 v l4 (LL.flatMap encS) -> V.ownsRow wr.drew.heap.size 117 2 v l4 (LL.flatMap encS)) := hid (fun _ _ h => h)
               have FRM2 : Hid (∀ (V : World) (v : Value), V.ownsRow wr.drew.heap.size 117 2 v l4 (LL.flatMap encS) -> ∃ a c, v = .slice a l4 c) := hid (fun V v h => by
                 rw [HL4.out] at h
                 obtain ⟨a, c, _, h2, _⟩ := slAt_own lenS h
                 exact ⟨a, c, by rw [h2, HL4.out]⟩)
               clear hpB hpO hpk hqe hbd
               go_wp2_with fail
               go_region_with (first
                 | (go_at_call 159; refine (HCL.out).mono ?_; rintro e w6 ⟨v6, rfl, hown6, hB6⟩; obtain ⟨hb6, o6, ol6, tf6, ⟨tv6, tc6⟩, tl6⟩ := AFTER.out _ hB6; have hOWN6 := hid (FRM.out _ _ hown6); obtain ⟨va6, vc6, hv6⟩ := FRM2.out _ _ hown6; subst hv6; clear hown6))
               all_goals
                 have hput := HRW.out.put (p := p) hb6 hbz (ys := LL) (by rw [<- HL4.out]; exact own_mono hOWN6.out (by simp))
                 have hsl7 := (HSL.out.below hb6 (Nat.le_refl _)).setOther (p := ⟨tb, p, none⟩) HVB.out (.slice va6 l4 vc6)
                 have hb7 := (HBX.out.trans (hb6.mono HBX.out.size)).setCell (p := ⟨tb, p, none⟩) hTB (.slice va6 l4 vc6)
                 have hput2 : OwnRows encS 2 117 78 (w6.setCell ⟨tb, p, none⟩ (.slice va6 l4 vc6)) base tb n (fun x => if x ∈ B.take (j + 1 - i) then LL else F x) := hput.congr (fun x => by
                   rw [show j + 1 - i = (j - i) + 1 by omega, take_snoc HPB.out]
                   by_cases e : x = p
                   · subst e; simp
                   · simp [e])
                 have HP7 := hid hput2; have HS7 := hid hsl7; have HB7 := hid hb7
                 have hz7 : base <= (w6.setCell ⟨tb, p, none⟩ (.slice va6 l4 vc6)).heap.size := by rw [size_setCell]; have := hb6.size; omega
                 have HZ7 := hid hz7
                 clear hput hput2 hsl7 hb7 hb6 hB6 o6 ol6 tf6 tc6 tl6 hz7
                 go_wp2_with fail
                 go_roundw
                 case rel => exact ⟨j + 1, by go_num, by omega, by omega, HP7.out, HS7.out, HZ7.out, HB7.out⟩
                 case measure => simp [intOf]; omega
             · obtain rfl : j = q := by omega
               have HDN : Hid (offO n f D (d + 1) = j) := hid (by rw [offO_succ HK.out, <- HIE.out, <- HBE.out, <- HM.out]; omega)
               have HOS : Hid (ordO n f (D.take (d + 1)) = ordO n f (D.take d) ++ B) := hid (by rw [ordO_succ HK.out, <- HBE.out])
               have HTK2 : Hid (B.take (j - i) = B) := hid (by rw [show j - i = m by omega, HM.out, List.take_length])
               have HF9 : Hid (∀ p, p ∈ ordO n f (D.take (d + 1)) -> SigOk s C p (if p ∈ B.take (j - i) then LL else F p)) := hid (fun p hp => by
                 rw [HTK2.out]
                 rw [HOS.out] at hp
                 by_cases hpB : p ∈ B
                 · rw [if_pos hpB]
                   have h1 := mem_blkO.1 (by rw [<- HBE.out]; exact hpB)
                   exact HSG2.out p h1.1 h1.2
                 · rw [if_neg hpB]
                   exact HF.out p ((List.mem_append.1 hp).resolve_right hpB))
               have HF8 : Hid (∀ p, p ∉ ordO n f (D.take (d + 1)) -> (if p ∈ B.take (j - i) then LL else F p) = []) := hid (fun p hp => by
                 rw [HTK2.out]
                 rw [HOS.out, List.mem_append] at hp
                 rw [if_neg (fun h => hp (.inr h))]
                 exact HF0.out p (fun h => hp (.inl h)))
               have HA9 : Hid (offO n f D (d + 1) = n -> ∀ p, p < n -> p ∈ ordO n f (D.take (d + 1))) := hid (fun h p hp => by
                 have h1 := HBK.out.len
                 have h2 := ordO_split HK.out (n := n) (f := f)
                 have h3 : (ordO n f (D.take (d + 1))).length = n := h
                 rw [h2, <- List.append_assoc, <- ordO_succ HK.out, List.length_append] at h1
                 have h4 : ordO n f (D.drop (d + 1)) = [] := List.eq_nil_of_length_eq_zero (by omega)
                 have h5 : p ∈ ordO n f D := mem_ordO.2 ⟨hp, HBK.out.all _ (asF_lt hp)⟩
                 rw [h2, h4, List.append_nil, <- ordO_succ HK.out] at h5
                 exact h5)
               clear hqe
               go_wp2_with fail
               go_roundw
               case rel => exact ⟨d + 1, _, by rw [HDN.out], by rw [HDN.out]; omega, HRW.out, hbz, HBX.out, HF9.out, HF8.out, HA9.out⟩
               case measure => simp [intOf]; omega
   · have hd : offO n f D d = n := by omega
     have HALL : Hid (∀ p, p < n -> SigOk s C p (F p)) := hid (fun p hp => HF.out p (HAL.out hd p hp))
     rw [hd]
     clear hd hlt
     go_wp2_with fail
     go_ret
     exact ⟨tb, base, F, rfl, HRX.out, hTB, hbs, HB.out, HALL.out⟩
end Go.Proofs.YtebmlhaoeldhkaaGreatDoor

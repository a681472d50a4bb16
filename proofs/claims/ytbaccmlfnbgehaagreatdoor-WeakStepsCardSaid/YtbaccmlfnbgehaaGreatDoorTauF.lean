/-
  Lemmas.
-/
import Derived.Test.YtbaccmlfnbgehaaGreatDoorGTauD
open List renaming mem_cons_self → l0, mem_cons_of_mem → l7, append_of_mem → l9, nodup_append → m0, getLast? → m1, mem_map → m3
open Nat renaming le_refl → l8
open Go.Proofs.Tryz
namespace Go.Proofs.YtbaccmlfnbgehaaGreatDoor
open Go.RowKit Pl
open Lib (hid)
section
variable {w0 wr : World} {B WB LB NB IB CB n : Nat} {gp : Value} {low num cls : Nat -> Int} {iso : Nat -> Bool} {met found : Int} {ol : List Int} {sl0 : List E} {vo vs : Value}
theorem TW.place {x : E} (h : TW w0 wr B WB LB NB IB CB n gp low num cls iso met found ol (sl0 ++ [x]) vo vs) : ∃ g c, vs = .slice (some ⟨g, 0, none⟩) (sl0.length + 1) c /\ sl0.length + 1 <= c /\ c <= maxLen /\ B <= g /\ g < wr.heap.size := by
 obtain ⟨a, c, g, hv, h1, h2, h3, h4⟩ := j0d k0q h.stk
 obtain rfl := h3.ad (by simp)
 have hl := h3.lt (by simp)
 rw [List.length_append, List.length_singleton] at hv h1
 exact ⟨g, c, hv, h1, h2, h4 (by simp), hl⟩
theorem TW.empty (h : TW w0 wr B WB LB NB IB CB n gp low num cls iso met found ol [] vo vs) : ∃ a c, vs = .slice a 0 c := by
 obtain ⟨a, c, g, hv, _⟩ := j0d (xs := ([] : List E)) k0q h.stk
 exact ⟨a, c, hv⟩
end
set_option maxRecDepth 100000 in
set_option maxHeartbeats 16000000 in
theorem v2e {s : Lts} {w0 w : World} {B WB LB NB IB CB n gb : Nat} {t : TS} {y : Nat} {nx : Nat -> Nat} {vo vs : Value} (hG : GraphAt w0 gb s) (hn : s.st = (n : Int)) (hTI : TI s n t [] nx)
    (h : TWS w0 w B WB LB NB IB CB n (.pointer (some ⟨gb, 0, none⟩)) t [] vo vs) (hy : y < n) (h0 : t.num y = 0) :
    Calls prog 196 #[.pointer (some ⟨WB, 0, none⟩), .int .i64 y] w fun e w' => ∃ (t' : TS) (nx' : Nat -> Nat) (vo' vs' : Value), e = .returned (.tuple #[]) /\ TI s n t' [] nx' /\
      TWS w0 w' B WB LB NB IB CB n (.pointer (some ⟨gb, 0, none⟩)) t' [] vo' vs' /\ t'.num y ≠ 0 /\ ∀ z, t.num z ≠ 0 -> t'.num z ≠ 0 := by
 have hn1000 : n <= 1000 := by have := hG.right.st0; omega
 obtain ⟨c0, c1, c2, c3, c4, c5, c6, c7, c8⟩ := TW.cells h
 obtain ⟨l1, l2, l3, l4, l5, l6⟩ := TW.lts h
 have H := hid h; have HG := hid hG; have HN := hid hn; have HTI := hid hTI; have H0 := hid h0
 have hown2 : (w.alloc (.cells #[.int .i64 y, .int .i64 0, .int .i64 0] 272)).ownsRow B 272 3 vs 0 [] := TW.stk (TW.alloc h _)
 have hBz : B <= (w.alloc (.cells #[.int .i64 y, .int .i64 0, .int .i64 0] 272)).heap.size := Nat.le_trans (TW.bsz h) (by simp)
 have HOWN2 := hid hown2; have HBZ := hid hBz
 clear h hG hn hTI h0 c0 c1 c2 c3 c4 c5 c6 c7 l2 l3 l4 l5 l6 hown2 hBz
 go_enter func196, ntmps196
 go_wp2_with (at_builtin; go_must (refine j0u rfl _ _ _ rfl rowV HBZ.out (by rfl) HOWN2.out ⟨w.heap.size, 0, none⟩ 1 1 [.int .i64 y, .int .i64 0, .int .i64 0] rfl rfl (k3t (e := ((y : Int), 0, 0)) (heap_alloc_new w _)) (by simp [Value.oneCell']) (by decide) (by omega) (by unfold maxLen; omega) (w.heap.size + 1) (by simp) ?_); intro g2' cap2 w7 hown7 hg7 hl7 hlt7; obtain ⟨k0, k1, k2, k3, k4, k5, k6, k7, k8, k9, k10, k11⟩ := TW.wcells ((TW.grownS (TW.alloc H.out _) hg7).1.trans (TW.wb (TW.alloc H.out _))))
 have hp : TWS w0 (w7.setCell ⟨WB, 8, none⟩ (.slice (some ⟨g2', 0, none⟩) 1 cap2)) B WB LB NB IB CB n (.pointer (some ⟨gb, 0, none⟩)) t [((y : Int), 0, 0)] vo (.slice (some ⟨g2', 0, none⟩) 1 cap2) :=
   TW.pushS (m := 1) (c := cap2) (sl' := [((y : Int), 0, 0)]) (TW.alloc H.out _) hown7 hg7 (hl7.imp_right (fun e => by simp; omega))
 have hfs : FromSt s n t [((y : Int), 0, 0)] (3 * (n - t.met.toNat) + 1) := .come y [] nx nx _ HTI.out hy H0.out (by simp) (by simp) (by simp) (by simp)
 have HP := hid hp; have HFS := hid hfs
 clear hp hfs k0 k1 k2 k3 k4 k5 k6 k7 k8 k9 k10 k11 hown7 hg7 hl7 hlt7 HOWN2 HBZ H c8 l1
 go_loopg [4] (3 * (n - t.met.toNat) + 1) (fun k _ wr => ∃ (tt : TS) (sl : List E) (vo vs : Value), FromSt s n tt sl k /\ TWS w0 wr B WB LB NB IB CB n (.pointer (some ⟨gb, 0, none⟩)) tt sl vo vs /\ (sl ≠ [((y : Int), 0, 0)] -> tt.num y ≠ 0) /\ (∀ z, t.num z ≠ 0 -> tt.num z ≠ 0))
 case atStart => exact ⟨t, _, vo, _, HFS.out, HP.out, fun h => absurd rfl h, fun _ h => h⟩
 case round =>
   obtain ⟨tt, sl, vo1, vs1, hfs, htw, hy0, hmon⟩ := hrel
   have HMON := hid hmon
   clear HP HFS hmon
   cases hfs with
   | done nx1 _ hti =>
     obtain ⟨a, c, rfl⟩ := TW.empty htw
     obtain ⟨c0, c1, c2, c3, c4, c5, c6, c7, c8⟩ := TW.cells htw
     obtain ⟨l1, l2, l3, l4, l5, l6⟩ := TW.lts htw
     have HTI2 := hid hti; have HTW := hid htw; have HY0 := hid (hy0 (by simp))
     clear htw hti hy0 c0 c1 c2 c3 c4 c5 c6 c7 l2 l3 l4 l5 l6
     go_wp2
     go_end0
     exact ⟨tt, nx1, vo1, _, rfl, HTI2.out, HTW.out, HY0.out, HMON.out⟩
   | seen x K nx1 _ hti hnl hk =>
     obtain ⟨g, c, rfl, hgc, hcm, hgB, hgl⟩ := TW.place htw
     have HY1 := hid (hy0 (by intro e; have := congrArg m1 e; simp at this))
     obtain ⟨p, hp⟩ : ∃ p, p = (stkOf K nx1).length := ⟨_, rfl⟩
     obtain ⟨q, hq⟩ : ∃ q, q = p + 1 := ⟨_, rfl⟩
     rw [<- hp, <- hq] at htw
     have hpK : p = K.length := by rw [hp, k0m]
     have hKn : K.length <= 1000 := by have h1 := hti.cnt; have h2 := hti.met_le; have h3 := hti.found0; simp at h1; omega
     obtain ⟨c0, c1, c2, c3, c4, c5, c6, c7, c8⟩ := TW.cells htw
     obtain ⟨l1, l2, l3, l4, l5, l6⟩ := TW.lts htw
     obtain ⟨v0, v1, v2, vf, _, _, q1, q2⟩ := TW.top htw
     clear q1
     rw [<- hp] at v0 v1 v2
     have w1 : IntKind.i64.wrap ((q : Int) - 1) = (p : Int) := by rw [IntWalk.i64_in _ (by omega)]; omega
     have w2 : (0 : Int) <= (p : Int) := by omega
     have w3 : (p : Int) < (q : Int) := by omega
     have w4 : (0 : Int) < (q : Int) := by omega
     have HTI1 := hid hti; have HNL := hid hnl; have HTW := hid htw; have HK := hid hk; have HPP := hid hp; have HQQ := hid hq; have HPK := hid hpK
     clear hti hnl htw hk hp hq hpK hgc hy0 vf c0 c1 c2 c3 c4 c5 c6 c7 l2 l3 l4 l5 l6 v0 v2
     go_wp2_with fail
     go_region
     go_upto_region 9 with fail
     obtain ⟨t1, ht1⟩ : ∃ t1, t1 = tt := ⟨_, rfl⟩
     subst ht1
     obtain ⟨W, hW⟩ : ∃ W, W = wr.drew := ⟨_, rfl⟩
     have HTWd := hid (TW.drew HTW.out)
     rw [<- hW] at HTWd ⊢
     clear hW HTW v1 c8 l1 w1 w2 w3 w4 hgl
     have HTW : Hid (TWS w0 W B WB LB NB IB CB n (.pointer (some ⟨gb, 0, none⟩)) t1 (stkOf K nx1 ++ [((x : Int), 1, ((nx1 x : Nat) : Int))]) vo1 (.slice (some ⟨g, 0, none⟩) q c)) := hid HTWd.out
     have HMON1 : Hid (∀ z, t.num z ≠ 0 -> t1.num z ≠ 0) := hid HMON.out
     clear HTWd HMON
     -- one tail for both: deeper, and what becomes of it
     go_wp2_with fail
     have hd := j1h (g := g) (m := q) (c := c) HG.out HN.out HTI1.out HTW.out (by rw [k0m]; exact hKn) (HNL.out x l0)
     rw [<- HPP.out] at hd
     refine hd.mono ?_
     clear hd
     rintro e w5 ⟨t2, nn, hti2, hoth, ⟨hm3, hm4⟩, hres⟩
     have hxK := hti2.notin
     have hst2 : stkOf K nx1 = stkOf K nn := p0x (fun z hz => (hoth z (fun e => hxK (e ▸ hz))).symm)
     have hnl2 : ∀ z ∈ K, nn z <= (taus s z).length := fun z hz => by rw [hoth z (fun e => hxK (e ▸ hz))]; exact HNL.out z (l7 _ hz)
     have hy2 : t2.num y ≠ 0 := hm3 y HY1.out
     have hmon2 : ∀ z, t.num z ≠ 0 -> t2.num z ≠ 0 := fun z hz => hm3 z (HMON1.out z hz)
     have hmle := hti2.met_le
     have hmb : n - t2.met.toNat <= n - t1.met.toNat := by omega
     have hk2 := HK.out
     rw [hst2] at hres
     have HTI2 := hid hti2; have HST2 := hid hst2; have HNL2 := hid hnl2; have HY2 := hid hy2; have HMON2 := hid hmon2
     clear hti2 hoth hm3 hm4 hst2 hnl2 hy2 hmon2 hmle
     rcases hres with ⟨rfl, y2, g2, m2, c2, hty, hny, htw2⟩ | ⟨rfl, hend, htw2⟩
     · have hfs := FromSt.push (k := 3 * (n - t2.met.toNat) + (K.length + 2)) HTI2.out HG.out.right HG.out.srt HN.out hty hny HNL2.out (l8 _)
       have HFS2 := hid hfs; have HTW2 := hid htw2
       clear hfs htw2 hty hny
       go_wp2_with fail
       go_roundg (3 * (n - t2.met.toNat) + (K.length + 2))
       case measure => omega
       case rel => exact ⟨t2, _, _, _, HFS2.out, HTW2.out, fun _ => HY2.out, HMON2.out⟩
     · have hsp : (stkOf K nn).length = p := by rw [k0m]; exact HPK.out.symm
       obtain ⟨v0, v1, v2, vf, gl5, _, q1, q2⟩ := TW.top htw2
       clear q1 q2
       rw [hsp] at v0 v1 v2
       have vf1 := vf (p * 3 + 1)
       have h3 : TW w0 (w5.setCell ⟨g, p * 3 + 1, none⟩ (.int .i64 2)) B WB LB NB IB CB n (.pointer (some ⟨gb, 0, none⟩)) t2.low t2.num t2.cls (fun (j : Nat) => decide (j ∈ t2.opn)) t2.met t2.found (t2.opn.reverse.map Int.ofNat) (stkOf K nn ++ [((x : Int), 2, ((nn x : Nat) : Int))]) vo1 (.slice (some ⟨g, 0, none⟩) q c) := by
         rw [<- hsp]
         exact TW.setV htw2 _ _ (by simp) (v0x _ _ _ _ _)
       have HEND := hid hend; have HSP := hid hsp; have H3 := hid h3
       clear htw2 hend hsp h3 vf v2
       go_upto_region 11 with fail
       obtain ⟨W3, hW3⟩ : ∃ W3, W3 = w5.setCell ⟨g, p * 3 + 1, none⟩ (.int .i64 2) := ⟨_, rfl⟩
       rw [<- hW3] at H3 ⊢
       clear hW3 v0 v1 vf1 gl5
       obtain ⟨v0, v1, v2, vf, gl5, _, q1, q2⟩ := TW.top H3.out
       clear q1 q2 v1 v2 vf
       rw [HSP.out] at v0
       go_wp2_with fail
       have hxo : x ∈ t2.opn := HTI2.out.gin x l0
       have hxn : x < n := HTI2.out.opn_lt x hxo
       have HKN : Hid (∀ z ∈ K, z < n) := hid (fun z hz => HTI2.out.opn_lt z (HTI2.out.gin z (l7 _ hz)))
       clear v0 gl5
       by_cases hlow : t2.low x = t2.num x
       · obtain ⟨Pp, Q, hopn⟩ := l9 hxo
         have hrev := v1f hopn
         have hnd := HTI2.out.nd
         have hP : ∀ z ∈ Pp.reverse.map Int.ofNat, 0 <= z /\ z < (n : Int) /\ z ≠ (x : Int) := by
           intro z hz
           obtain ⟨i, hi, rfl⟩ := m3.1 hz
           have hi2 : i ∈ Pp := by simpa using hi
           have h1 := HTI2.out.opn_lt i (by rw [hopn]; simp [hi2])
           refine ⟨by show (0 : Int) <= (i : Int); omega, by show (i : Int) < (n : Int); omega, fun e => ?_⟩
           have e2 : i = x := Int.ofNat.inj e
           subst e2
           rw [hopn] at hnd
           exact (m0.1 hnd).2.2 i hi2 i (by simp) rfl
         have hl6 : (Q.reverse.map Int.ofNat ++ [(x : Int)] ++ Pp.reverse.map Int.ofNat).length <= 1000 := by
           rw [<- hrev]
           have := HTI2.out.opn_len
           simp; omega
         have hf6 : 0 <= t2.found /\ t2.found <= 1000 := by
           have h1 := HTI2.out.cnt; have h2 := HTI2.out.met_le; have h3 := HTI2.out.found0
           simp at h1; omega
         have hlv := q1s (Qr := Q.reverse.map Int.ofNat) (Pr := Pp.reverse.map Int.ofNat) (y := x) (by rw [<- hrev]; exact H3.out) hxn hlow hP hl6 hf6
         refine hlv.mono ?_
         rintro e w6 ⟨vo3, rfl, htw6⟩
         rw [x2l, q2r hnd hopn] at htw6
         obtain ⟨t3, ht3⟩ : ∃ t3 : TS, t3 = { t2 with opn := Q, cls := fun i => if i ∈ Pp ++ [x] then t2.found else t2.cls i, found := t2.found + 1 } := ⟨_, rfl⟩
         have htw6 : TWS w0 w6 B WB LB NB IB CB n (.pointer (some ⟨gb, 0, none⟩)) t3 (stkOf K nn ++ [((x : Int), 2, ((nn x : Nat) : Int))]) vo3 (.slice (some ⟨g, 0, none⟩) q c) := by rw [ht3]; exact htw6
         obtain ⟨hfl, hle⟩ := FromSt.left2 (k := 3 * (n - t2.met.toNat) + K.length + 2) HTI2.out HG.out.right HG.out.srt HN.out HEND.out hlow hopn HNL2.out (l8 _)
         rw [<- ht3] at hfl
         have H3N : Hid (t3.num = t2.num) := hid (by rw [ht3])
         have FINN : Hid (K = [] -> FromSt s n t3 (stkOf K nn) (3 * (n - t2.met.toNat) + K.length + 2)) := hid (fun _ => hfl)
         have FINC : Hid (∀ u K', K = u :: K' -> FromSt s n { t3 with low := upd t3.low u (min (t3.low u) (t3.low x)) } (stkOf K nn) (3 * (n - t2.met.toNat) + K.length + 2)) := hid (fun u K' e => by
           have h1 : t3.low = t2.low := by rw [ht3]
           have h2 := hle u (by rw [e]; simp)
           have h3 : upd t3.low u (min (t3.low u) (t3.low x)) = t3.low := by
             funext i
             unfold upd
             split
             · rename_i hi; subst hi; rw [h1]; omega
             · rfl
           rw [h3]
           exact hfl)
         clear hopn hrev hnd hP hl6 hf6 hlv ht3 hfl hle hlow hxo H3
         have hxn' : (x : Int) < (n : Int) := by omega
         obtain ⟨v0, v1, v2, vf, gl5, _, q1, q2⟩ := TW.top htw6
         clear q1 v1 v2 vf
         rw [HSP.out] at v0
         obtain ⟨c0, c1, c2, c3, c4, c5, c6, c7, c8⟩ := TW.cells htw6
         obtain ⟨l1, l2, l3, l4, l5, l6⟩ := TW.lts htw6
         have f8 := TW.fz htw6 8
         have w2 : (0 : Int) <= (p : Int) := by omega
         have hqp : q = p + 1 := HQQ.out
         have hp1000 : p <= 1000 := by have := HPK.out; omega
         have w1 : IntKind.i64.wrap ((q : Int) - 1) = (p : Int) := by rw [IntWalk.i64_in _ (by omega)]; omega
         have w3 : (p : Int) < (q : Int) := by omega
         have w4' : (p : Int) <= (c : Int) := by omega
         have w5' : ¬ c = 0 := by omega
         have HTW6 := hid htw6
         clear htw6 hqp c0 c1 c2 c3 c4 c5 c6 c7 l2 l3 l4 l5 l6
         go_wp2_with fail
         go_region
         have h7 : TWS w0 (w6.setCell ⟨WB, 8, none⟩ (.slice (some ⟨g, 0, none⟩) p c)).drew B WB LB NB IB CB n (.pointer (some ⟨gb, 0, none⟩)) t3 (stkOf K nn) vo3 (.slice (some ⟨g, 0, none⟩) p c) := by
           have h := TW.popS HTW6.out (by rw [HSP.out]; exact HQQ.out)
           rw [HSP.out] at h
           exact TW.drew h
         obtain ⟨W7, hW7⟩ : ∃ W7, W7 = (w6.setCell ⟨WB, 8, none⟩ (.slice (some ⟨g, 0, none⟩) p c)).drew := ⟨_, rfl⟩
         rw [<- hW7] at h7 ⊢
         clear hW7 HTW6 c8 l1 f8 w1 w2 w3 w4' w5' v0 gl5
         obtain ⟨c0, c1, c2, c3, c4, c5, c6, c7, c8⟩ := TW.cells h7
         obtain ⟨l1, l2, l3, l4, l5, l6⟩ := TW.lts h7
         have hpk := HPK.out
         cases K with
         | nil =>
           have hp0 : p = 0 := hpk
           subst hp0
           have H7 := hid h7
           have HFIN := hid (FINN.out rfl)
           clear FINN FINC h7 hpk c0 c1 c2 c3 c4 c5 c6 c7 l2 l3 l4 l5 l6
           go_wp2_with fail
           go_roundg (3 * (n - t2.met.toNat) + 0 + 2)
           case measure => simp at hk2; omega
           case rel => exact ⟨t3, _, _, _, HFIN.out, H7.out, fun _ => by rw [H3N.out]; exact HY2.out, fun z hz => by rw [H3N.out]; exact HMON2.out z hz⟩
         | cons u K' =>
           have hun : u < n := HKN.out u l0
           have hun' : (u : Int) < (n : Int) := by omega
           rw [j0z] at h7
           obtain ⟨v0, v1, v2, vf, gl5, _, q1, q2⟩ := TW.top h7
           have hsp' : (stkOf K' nn).length = K'.length := k0m _ _
           rw [hsp'] at v0
           obtain ⟨p', hp'⟩ : ∃ p', p' = K'.length := ⟨_, rfl⟩
           rw [<- hp'] at v0
           have hpp : p = p' + 1 := by rw [hpk, hp']; simp
           have w1 : IntKind.i64.wrap ((p : Int) - 1) = (p' : Int) := by rw [IntWalk.i64_in _ (by omega)]; omega
           have w2 : (0 : Int) <= (p' : Int) := by omega
           have w3 : (p' : Int) < (p : Int) := by omega
           have w6' : (0 : Int) < (p : Int) := by omega
           have g1 := (TW.low h7).cell hun; have g2 := (TW.low h7).cell hxn; have e1 := (TW.low h7).frozen u
           obtain ⟨lu, hlu⟩ : ∃ lu, lu = t3.low u := ⟨_, rfl⟩
           obtain ⟨lx, hlx⟩ : ∃ lx, lx = t3.low x := ⟨_, rfl⟩
           rw [<- hlu] at g1; rw [<- hlx] at g2
           have hmin : (if lx < lu then lx else lu) = min (t3.low u) (t3.low x) := by rw [<- hlu, <- hlx]; split <;> omega
           have h8 := (TW.setLow h7 u (if lx < lu then lx else lu)).drew.drew
           rw [hmin, <- j0z] at h8
           have hfin := FINC.out u K' rfl
           have hminB : min lu lx = min (t3.low u) (t3.low x) := by rw [<- hlu, <- hlx]
           have H8 := hid h8; have HFIN := hid hfin; have HMIN := hid hmin; have HMINB := hid hminB
           clear FINN FINC h7 h8 hfin hmin hminB hlu hlx hp' hpp hsp' hpk q1 q2 v1 v2 vf c0 c2 c3 c4 c5 c6 c7 l3 l4 l5 l6
           go_wp2_with fail
           go_region
           clear HNL HPP HPK HTI1 HK HTW hxK HST2 HNL2 HSP HKN htw6 v0 w1 w2 w3 w6' c8 gl5 HTI2 HEND
           go_wp2_with fail
           go_region
           first | rw [HMIN.out] | rw [HMINB.out]
           go_wp2_with fail
           go_roundg (3 * (n - t2.met.toNat) + (u :: K').length + 2)
           case measure => omega
           case rel => exact ⟨_, _, _, _, HFIN.out, H8.out, fun _ => by show t3.num y ≠ 0; rw [H3N.out]; exact HY2.out, fun z hz => by show t3.num z ≠ 0; rw [H3N.out]; exact HMON2.out z hz⟩
       · obtain ⟨t3, ht3⟩ : ∃ t3, t3 = t2 := ⟨_, rfl⟩
         obtain ⟨vo3, hvo3⟩ : ∃ vo3, vo3 = vo1 := ⟨_, rfl⟩
         refine (v1u H3.out hxn hlow).mono ?_
         rintro e w6 ⟨rfl, htw6⟩
         have htw6 : TWS w0 w6 B WB LB NB IB CB n (.pointer (some ⟨gb, 0, none⟩)) t3 (stkOf K nn ++ [((x : Int), 2, ((nn x : Nat) : Int))]) vo3 (.slice (some ⟨g, 0, none⟩) q c) := by rw [ht3, hvo3]; exact htw6
         have H3N : Hid (t3.num = t2.num) := hid (by rw [ht3])
         have FINN : Hid (K = [] -> FromSt s n t3 (stkOf K nn) (3 * (n - t2.met.toNat) + K.length + 2)) := hid (fun e => by
           have h1 := HTI2.out
           rw [e] at h1
           obtain ⟨g', K', e2, _⟩ := h1.leave1 (k1u HG.out.right HG.out.srt HEND.out) hlow
           cases e2)
         have FINC : Hid (∀ u K', K = u :: K' -> FromSt s n { t3 with low := upd t3.low u (min (t3.low u) (t3.low x)) } (stkOf K nn) (3 * (n - t2.met.toNat) + K.length + 2)) := hid (fun u K' e => by
           have h1 := HTI2.out
           have h2 := HNL2.out
           rw [ht3]
           rw [e] at h1 h2 ⊢
           exact FromSt.left1 h1 HG.out.right HG.out.srt HEND.out hlow h2 (by simp))
         clear ht3 hvo3 hlow hxo H3
         have hxn' : (x : Int) < (n : Int) := by omega
         obtain ⟨v0, v1, v2, vf, gl5, _, q1, q2⟩ := TW.top htw6
         clear q1 v1 v2 vf
         rw [HSP.out] at v0
         obtain ⟨c0, c1, c2, c3, c4, c5, c6, c7, c8⟩ := TW.cells htw6
         obtain ⟨l1, l2, l3, l4, l5, l6⟩ := TW.lts htw6
         have f8 := TW.fz htw6 8
         have w2 : (0 : Int) <= (p : Int) := by omega
         have hqp : q = p + 1 := HQQ.out
         have hp1000 : p <= 1000 := by have := HPK.out; omega
         have w1 : IntKind.i64.wrap ((q : Int) - 1) = (p : Int) := by rw [IntWalk.i64_in _ (by omega)]; omega
         have w3 : (p : Int) < (q : Int) := by omega
         have w4' : (p : Int) <= (c : Int) := by omega
         have w5' : ¬ c = 0 := by omega
         have HTW6 := hid htw6
         clear htw6 hqp c0 c1 c2 c3 c4 c5 c6 c7 l2 l3 l4 l5 l6
         go_wp2_with fail
         go_region
         have h7 : TWS w0 (w6.setCell ⟨WB, 8, none⟩ (.slice (some ⟨g, 0, none⟩) p c)).drew B WB LB NB IB CB n (.pointer (some ⟨gb, 0, none⟩)) t3 (stkOf K nn) vo3 (.slice (some ⟨g, 0, none⟩) p c) := by
           have h := TW.popS HTW6.out (by rw [HSP.out]; exact HQQ.out)
           rw [HSP.out] at h
           exact TW.drew h
         obtain ⟨W7, hW7⟩ : ∃ W7, W7 = (w6.setCell ⟨WB, 8, none⟩ (.slice (some ⟨g, 0, none⟩) p c)).drew := ⟨_, rfl⟩
         rw [<- hW7] at h7 ⊢
         clear hW7 HTW6 c8 l1 f8 w1 w2 w3 w4' w5' v0 gl5
         obtain ⟨c0, c1, c2, c3, c4, c5, c6, c7, c8⟩ := TW.cells h7
         obtain ⟨l1, l2, l3, l4, l5, l6⟩ := TW.lts h7
         have hpk := HPK.out
         cases K with
         | nil =>
           have hp0 : p = 0 := hpk
           subst hp0
           have H7 := hid h7
           have HFIN := hid (FINN.out rfl)
           clear FINN FINC h7 hpk c0 c1 c2 c3 c4 c5 c6 c7 l2 l3 l4 l5 l6
           go_wp2_with fail
           go_roundg (3 * (n - t2.met.toNat) + 0 + 2)
           case measure => simp at hk2; omega
           case rel => exact ⟨t3, _, _, _, HFIN.out, H7.out, fun _ => by rw [H3N.out]; exact HY2.out, fun z hz => by rw [H3N.out]; exact HMON2.out z hz⟩
         | cons u K' =>
           have hun : u < n := HKN.out u l0
           have hun' : (u : Int) < (n : Int) := by omega
           rw [j0z] at h7
           obtain ⟨v0, v1, v2, vf, gl5, _, q1, q2⟩ := TW.top h7
           have hsp' : (stkOf K' nn).length = K'.length := k0m _ _
           rw [hsp'] at v0
           obtain ⟨p', hp'⟩ : ∃ p', p' = K'.length := ⟨_, rfl⟩
           rw [<- hp'] at v0
           have hpp : p = p' + 1 := by rw [hpk, hp']; simp
           have w1 : IntKind.i64.wrap ((p : Int) - 1) = (p' : Int) := by rw [IntWalk.i64_in _ (by omega)]; omega
           have w2 : (0 : Int) <= (p' : Int) := by omega
           have w3 : (p' : Int) < (p : Int) := by omega
           have w6' : (0 : Int) < (p : Int) := by omega
           have g1 := (TW.low h7).cell hun; have g2 := (TW.low h7).cell hxn; have e1 := (TW.low h7).frozen u
           obtain ⟨lu, hlu⟩ : ∃ lu, lu = t3.low u := ⟨_, rfl⟩
           obtain ⟨lx, hlx⟩ : ∃ lx, lx = t3.low x := ⟨_, rfl⟩
           rw [<- hlu] at g1; rw [<- hlx] at g2
           have hmin : (if lx < lu then lx else lu) = min (t3.low u) (t3.low x) := by rw [<- hlu, <- hlx]; split <;> omega
           have h8 := (TW.setLow h7 u (if lx < lu then lx else lu)).drew.drew
           rw [hmin, <- j0z] at h8
           have hfin := FINC.out u K' rfl
           have hminB : min lu lx = min (t3.low u) (t3.low x) := by rw [<- hlu, <- hlx]
           have H8 := hid h8; have HFIN := hid hfin; have HMIN := hid hmin; have HMINB := hid hminB
           clear FINN FINC h7 h8 hfin hmin hminB hlu hlx hp' hpp hsp' hpk q1 q2 v1 v2 vf c0 c2 c3 c4 c5 c6 c7 l3 l4 l5 l6
           go_wp2_with fail
           go_region
           clear HNL HPP HPK HTI1 HK HTW hxK HST2 HNL2 HSP HKN htw6 v0 w1 w2 w3 w6' c8 gl5 HTI2 HEND
           go_wp2_with fail
           go_region
           first | rw [HMIN.out] | rw [HMINB.out]
           go_wp2_with fail
           go_roundg (3 * (n - t2.met.toNat) + (u :: K').length + 2)
           case measure => omega
           case rel => exact ⟨_, _, _, _, HFIN.out, H8.out, fun _ => by show t3.num y ≠ 0; rw [H3N.out]; exact HY2.out, fun z hz => by show t3.num z ≠ 0; rw [H3N.out]; exact HMON2.out z hz⟩
   | come x K nx1 nx2 _ hti hxn hnx0 hgK hE hnl hk =>
     obtain ⟨g, c, rfl, hgc, hcm, hgB, hgl⟩ := TW.place htw
     obtain ⟨p, hp⟩ : ∃ p, p = (stkOf K nx2).length := ⟨_, rfl⟩
     obtain ⟨q, hq⟩ : ∃ q, q = p + 1 := ⟨_, rfl⟩
     rw [<- hp, <- hq] at htw
     have hpK : p = K.length := by rw [hp, k0m]
     have hKn : K.length <= 1000 := by have h1 := hti.cnt; have h2 := hti.met_le; have h3 := hti.found0; omega
     have hol : (tt.opn.reverse.map Int.ofNat).length <= 1000 := by have := hti.opn_len; simp; omega
     have hmet := hti.met_le
     have hm1 := hmet.1
     have hm2 : tt.met <= 1000 := by omega
     obtain ⟨c0, c1, c2, c3, c4, c5, c6, c7, c8⟩ := TW.cells htw
     obtain ⟨l1, l2, l3, l4, l5, l6⟩ := TW.lts htw
     obtain ⟨v0, v1, v2, vf, _, _, q1, q2⟩ := TW.top htw
     clear q1
     rw [<- hp] at v0 v1 v2
     have w1 : IntKind.i64.wrap ((q : Int) - 1) = (p : Int) := by rw [IntWalk.i64_in _ (by omega)]; omega
     have w2 : (0 : Int) <= (p : Int) := by omega
     have w3 : (p : Int) < (q : Int) := by omega
     have w4 : (0 : Int) < (q : Int) := by omega
     have HTI0 := hid hti; have HTW0 := hid htw; have HK0 := hid hk; have HPP0 := hid hp; have HQQ := hid hq; have HPK := hid hpK
     have HX0 := hid hnx0; have HGK := hid hgK; have HE := hid hE; have HNL0 := hid hnl; have HY0 := hid hy0; have HMET := hid hmet
     clear hti hnl htw hk hp hq hpK hgc hy0 vf c0 c1 c2 c3 c4 c5 c6 c7 l2 l3 l4 l5 l6 v2 hnx0 hgK hE hmet
     go_wp2_with fail
     go_region
     go_wp2_with fail
     refine (x2g (TW.drew HTW0.out) hxn hm1 hm2 hol).mono ?_
     rintro e wE ⟨vo2, rfl, htw2⟩
     obtain ⟨t1, ht1⟩ : ∃ t1, t1 = tt.enter x := ⟨_, rfl⟩
     obtain ⟨nx1, hnx1⟩ : ∃ nx1, nx1 = upd nx2 x 0 := ⟨_, rfl⟩
     have hxK : x ∉ K := fun hh => HTI0.out.pos x (HTI0.out.gin x hh) HX0.out
     have hti1 : TI s n t1 (x :: K) nx1 := by rw [ht1, hnx1]; exact HTI0.out.enter hxn HX0.out HGK.out HE.out
     have hs1 : stkOf K nx2 = stkOf K nx1 := p0x (fun z hz => by rw [hnx1, j0j _ _ (fun e : z = x => hxK (e ▸ hz))])
     have hn1x : nx1 x = 0 := by rw [hnx1, upd_same]
     have htw3 : TWS w0 wE B WB LB NB IB CB n (.pointer (some ⟨gb, 0, none⟩)) t1 (stkOf K nx1 ++ [((x : Int), 0, ((nx1 x : Nat) : Int))]) vo2 (.slice (some ⟨g, 0, none⟩) q c) := by
       have e1 : (upd (fun (j : Nat) => decide (j ∈ tt.opn)) x true) = fun (j : Nat) => decide (j ∈ t1.opn) := by
         funext j
         rw [ht1]
         unfold upd
         by_cases e : j = x
         · subst e; simp [TS.enter]
         · simp [TS.enter, e]
       have e2 : tt.opn.reverse.map Int.ofNat ++ [(x : Int)] = t1.opn.reverse.map Int.ofNat := by rw [ht1]; simp [TS.enter]
       unfold TWS
       rw [<- e1, <- e2, hn1x, <- hs1, ht1]
       exact htw2
     have hmon1 : ∀ z, tt.num z ≠ 0 -> t1.num z ≠ 0 := fun z hz => by
       rw [ht1]
       show upd tt.num x (tt.met + 1) z ≠ 0
       by_cases e : z = x
       · subst e; exact absurd HX0.out hz
       · rw [j0j _ _ e]; exact hz
     have hy1 : t1.num y ≠ 0 := by
       by_cases e : x = y
       · subst e; rw [ht1]; show upd tt.num x (tt.met + 1) x ≠ 0; rw [upd_same]; omega
       · apply hmon1
         apply HY0.out
         intro e2
         have h1 := congrArg m1 e2
         simp at h1
         exact e (by omega)
     have hmet1 : t1.met = tt.met + 1 := by rw [ht1]; rfl
     have hk1 : 3 * (n - t1.met.toNat) + (K.length + 1) + 2 <= gk := by
       have h1 := HK0.out; have h2 := hti1.met_le
       omega
     have hnl1 : ∀ z ∈ x :: K, nx1 z <= (taus s z).length := by
       intro z hz
       rcases List.mem_cons.1 hz with rfl | hz
       · rw [hn1x]; omega
       · rw [hnx1, j0j _ _ (fun e : z = x => hxK (e ▸ hz))]; exact HNL0.out z hz
     have hp1 : p = (stkOf K nx1).length := by rw [<- hs1]; exact HPP0.out
     have HTI1 := hid hti1; have HTW3 := hid htw3; have HY1 := hid hy1; have HK := hid hk1; have HNL := hid hnl1; have HPP := hid hp1
     have HMON1 : Hid (∀ z, t.num z ≠ 0 -> t1.num z ≠ 0) := hid (fun z hz => hmon1 z (HMON.out z hz))
     obtain ⟨u0, u1, u2, uf, ul, _, y1, y2⟩ := TW.top htw3
     clear y1 y2
     rw [<- hp1] at u0 u1 u2
     have uf1 := uf (p * 3 + 1)
     have h4 : TW w0 (wE.setCell ⟨g, p * 3 + 1, none⟩ (.int .i64 1)) B WB LB NB IB CB n (.pointer (some ⟨gb, 0, none⟩)) t1.low t1.num t1.cls (fun (j : Nat) => decide (j ∈ t1.opn)) t1.met t1.found (t1.opn.reverse.map Int.ofNat) (stkOf K nx1 ++ [((x : Int), 1, ((nx1 x : Nat) : Int))]) vo2 (.slice (some ⟨g, 0, none⟩) q c) := by
       rw [hp1]
       exact TW.setV htw3 _ _ (by simp) (v0x _ _ _ _ _)
     have H4 := hid h4
     clear ht1 hnx1 hxK hti1 hs1 hn1x htw2 htw3 hmon1 hy1 hmet1 hk1 hnl1 hp1 h4 uf u2 v0 v1 c8 l1 w1 w2 w3 w4 hgl HTW0 HTI0 HK0 HPP0 HX0 HGK HE HNL0 HY0 HMET HMON hol hm1 hm2 hxn
     go_upto_region 9 with fail
     obtain ⟨W, hW⟩ : ∃ W, W = wE.setCell ⟨g, p * 3 + 1, none⟩ (.int .i64 1) := ⟨_, rfl⟩
     rw [<- hW] at H4 ⊢
     clear hW u0 u1 uf1 ul HTW3
     obtain ⟨vo1, hvo⟩ : ∃ vo1, vo1 = vo2 := ⟨_, rfl⟩
     subst hvo
     have HTW : Hid (TWS w0 W B WB LB NB IB CB n (.pointer (some ⟨gb, 0, none⟩)) t1 (stkOf K nx1 ++ [((x : Int), 1, ((nx1 x : Nat) : Int))]) vo1 (.slice (some ⟨g, 0, none⟩) q c)) := hid H4.out
     clear H4
     -- one tail for both: deeper, and what becomes of it
     go_wp2_with fail
     have hd := j1h (g := g) (m := q) (c := c) HG.out HN.out HTI1.out HTW.out (by rw [k0m]; exact hKn) (HNL.out x l0)
     rw [<- HPP.out] at hd
     refine hd.mono ?_
     clear hd
     rintro e w5 ⟨t2, nn, hti2, hoth, ⟨hm3, hm4⟩, hres⟩
     have hxK := hti2.notin
     have hst2 : stkOf K nx1 = stkOf K nn := p0x (fun z hz => (hoth z (fun e => hxK (e ▸ hz))).symm)
     have hnl2 : ∀ z ∈ K, nn z <= (taus s z).length := fun z hz => by rw [hoth z (fun e => hxK (e ▸ hz))]; exact HNL.out z (l7 _ hz)
     have hy2 : t2.num y ≠ 0 := hm3 y HY1.out
     have hmon2 : ∀ z, t.num z ≠ 0 -> t2.num z ≠ 0 := fun z hz => hm3 z (HMON1.out z hz)
     have hmle := hti2.met_le
     have hmb : n - t2.met.toNat <= n - t1.met.toNat := by omega
     have hk2 := HK.out
     rw [hst2] at hres
     have HTI2 := hid hti2; have HST2 := hid hst2; have HNL2 := hid hnl2; have HY2 := hid hy2; have HMON2 := hid hmon2
     clear hti2 hoth hm3 hm4 hst2 hnl2 hy2 hmon2 hmle
     rcases hres with ⟨rfl, y2, g2, m2, c2, hty, hny, htw2⟩ | ⟨rfl, hend, htw2⟩
     · have hfs := FromSt.push (k := 3 * (n - t2.met.toNat) + (K.length + 2)) HTI2.out HG.out.right HG.out.srt HN.out hty hny HNL2.out (l8 _)
       have HFS2 := hid hfs; have HTW2 := hid htw2
       clear hfs htw2 hty hny
       go_wp2_with fail
       go_roundg (3 * (n - t2.met.toNat) + (K.length + 2))
       case measure => omega
       case rel => exact ⟨t2, _, _, _, HFS2.out, HTW2.out, fun _ => HY2.out, HMON2.out⟩
     · have hsp : (stkOf K nn).length = p := by rw [k0m]; exact HPK.out.symm
       obtain ⟨v0, v1, v2, vf, gl5, _, q1, q2⟩ := TW.top htw2
       clear q1 q2
       rw [hsp] at v0 v1 v2
       have vf1 := vf (p * 3 + 1)
       have h3 : TW w0 (w5.setCell ⟨g, p * 3 + 1, none⟩ (.int .i64 2)) B WB LB NB IB CB n (.pointer (some ⟨gb, 0, none⟩)) t2.low t2.num t2.cls (fun (j : Nat) => decide (j ∈ t2.opn)) t2.met t2.found (t2.opn.reverse.map Int.ofNat) (stkOf K nn ++ [((x : Int), 2, ((nn x : Nat) : Int))]) vo1 (.slice (some ⟨g, 0, none⟩) q c) := by
         rw [<- hsp]
         exact TW.setV htw2 _ _ (by simp) (v0x _ _ _ _ _)
       have HEND := hid hend; have HSP := hid hsp; have H3 := hid h3
       clear htw2 hend hsp h3 vf v2
       go_upto_region 11 with fail
       obtain ⟨W3, hW3⟩ : ∃ W3, W3 = w5.setCell ⟨g, p * 3 + 1, none⟩ (.int .i64 2) := ⟨_, rfl⟩
       rw [<- hW3] at H3 ⊢
       clear hW3 v0 v1 vf1 gl5
       obtain ⟨v0, v1, v2, vf, gl5, _, q1, q2⟩ := TW.top H3.out
       clear q1 q2 v1 v2 vf
       rw [HSP.out] at v0
       go_wp2_with fail
       have hxo : x ∈ t2.opn := HTI2.out.gin x l0
       have hxn : x < n := HTI2.out.opn_lt x hxo
       have HKN : Hid (∀ z ∈ K, z < n) := hid (fun z hz => HTI2.out.opn_lt z (HTI2.out.gin z (l7 _ hz)))
       clear v0 gl5
       by_cases hlow : t2.low x = t2.num x
       · obtain ⟨Pp, Q, hopn⟩ := l9 hxo
         have hrev := v1f hopn
         have hnd := HTI2.out.nd
         have hP : ∀ z ∈ Pp.reverse.map Int.ofNat, 0 <= z /\ z < (n : Int) /\ z ≠ (x : Int) := by
           intro z hz
           obtain ⟨i, hi, rfl⟩ := m3.1 hz
           have hi2 : i ∈ Pp := by simpa using hi
           have h1 := HTI2.out.opn_lt i (by rw [hopn]; simp [hi2])
           refine ⟨by show (0 : Int) <= (i : Int); omega, by show (i : Int) < (n : Int); omega, fun e => ?_⟩
           have e2 : i = x := Int.ofNat.inj e
           subst e2
           rw [hopn] at hnd
           exact (m0.1 hnd).2.2 i hi2 i (by simp) rfl
         have hl6 : (Q.reverse.map Int.ofNat ++ [(x : Int)] ++ Pp.reverse.map Int.ofNat).length <= 1000 := by
           rw [<- hrev]
           have := HTI2.out.opn_len
           simp; omega
         have hf6 : 0 <= t2.found /\ t2.found <= 1000 := by
           have h1 := HTI2.out.cnt; have h2 := HTI2.out.met_le; have h3 := HTI2.out.found0
           simp at h1; omega
         have hlv := q1s (Qr := Q.reverse.map Int.ofNat) (Pr := Pp.reverse.map Int.ofNat) (y := x) (by rw [<- hrev]; exact H3.out) hxn hlow hP hl6 hf6
         refine hlv.mono ?_
         rintro e w6 ⟨vo3, rfl, htw6⟩
         rw [x2l, q2r hnd hopn] at htw6
         obtain ⟨t3, ht3⟩ : ∃ t3 : TS, t3 = { t2 with opn := Q, cls := fun i => if i ∈ Pp ++ [x] then t2.found else t2.cls i, found := t2.found + 1 } := ⟨_, rfl⟩
         have htw6 : TWS w0 w6 B WB LB NB IB CB n (.pointer (some ⟨gb, 0, none⟩)) t3 (stkOf K nn ++ [((x : Int), 2, ((nn x : Nat) : Int))]) vo3 (.slice (some ⟨g, 0, none⟩) q c) := by rw [ht3]; exact htw6
         obtain ⟨hfl, hle⟩ := FromSt.left2 (k := 3 * (n - t2.met.toNat) + K.length + 2) HTI2.out HG.out.right HG.out.srt HN.out HEND.out hlow hopn HNL2.out (l8 _)
         rw [<- ht3] at hfl
         have H3N : Hid (t3.num = t2.num) := hid (by rw [ht3])
         have FINN : Hid (K = [] -> FromSt s n t3 (stkOf K nn) (3 * (n - t2.met.toNat) + K.length + 2)) := hid (fun _ => hfl)
         have FINC : Hid (∀ u K', K = u :: K' -> FromSt s n { t3 with low := upd t3.low u (min (t3.low u) (t3.low x)) } (stkOf K nn) (3 * (n - t2.met.toNat) + K.length + 2)) := hid (fun u K' e => by
           have h1 : t3.low = t2.low := by rw [ht3]
           have h2 := hle u (by rw [e]; simp)
           have h3 : upd t3.low u (min (t3.low u) (t3.low x)) = t3.low := by
             funext i
             unfold upd
             split
             · rename_i hi; subst hi; rw [h1]; omega
             · rfl
           rw [h3]
           exact hfl)
         clear hopn hrev hnd hP hl6 hf6 hlv ht3 hfl hle hlow hxo H3
         have hxn' : (x : Int) < (n : Int) := by omega
         obtain ⟨v0, v1, v2, vf, gl5, _, q1, q2⟩ := TW.top htw6
         clear q1 v1 v2 vf
         rw [HSP.out] at v0
         obtain ⟨c0, c1, c2, c3, c4, c5, c6, c7, c8⟩ := TW.cells htw6
         obtain ⟨l1, l2, l3, l4, l5, l6⟩ := TW.lts htw6
         have f8 := TW.fz htw6 8
         have w2 : (0 : Int) <= (p : Int) := by omega
         have hqp : q = p + 1 := HQQ.out
         have hp1000 : p <= 1000 := by have := HPK.out; omega
         have w1 : IntKind.i64.wrap ((q : Int) - 1) = (p : Int) := by rw [IntWalk.i64_in _ (by omega)]; omega
         have w3 : (p : Int) < (q : Int) := by omega
         have w4' : (p : Int) <= (c : Int) := by omega
         have w5' : ¬ c = 0 := by omega
         have HTW6 := hid htw6
         clear htw6 hqp c0 c1 c2 c3 c4 c5 c6 c7 l2 l3 l4 l5 l6
         go_wp2_with fail
         go_region
         have h7 : TWS w0 (w6.setCell ⟨WB, 8, none⟩ (.slice (some ⟨g, 0, none⟩) p c)).drew B WB LB NB IB CB n (.pointer (some ⟨gb, 0, none⟩)) t3 (stkOf K nn) vo3 (.slice (some ⟨g, 0, none⟩) p c) := by
           have h := TW.popS HTW6.out (by rw [HSP.out]; exact HQQ.out)
           rw [HSP.out] at h
           exact TW.drew h
         obtain ⟨W7, hW7⟩ : ∃ W7, W7 = (w6.setCell ⟨WB, 8, none⟩ (.slice (some ⟨g, 0, none⟩) p c)).drew := ⟨_, rfl⟩
         rw [<- hW7] at h7 ⊢
         clear hW7 HTW6 c8 l1 f8 w1 w2 w3 w4' w5' v0 gl5
         obtain ⟨c0, c1, c2, c3, c4, c5, c6, c7, c8⟩ := TW.cells h7
         obtain ⟨l1, l2, l3, l4, l5, l6⟩ := TW.lts h7
         have hpk := HPK.out
         cases K with
         | nil =>
           have hp0 : p = 0 := hpk
           subst hp0
           have H7 := hid h7
           have HFIN := hid (FINN.out rfl)
           clear FINN FINC h7 hpk c0 c1 c2 c3 c4 c5 c6 c7 l2 l3 l4 l5 l6
           go_wp2_with fail
           go_roundg (3 * (n - t2.met.toNat) + 0 + 2)
           case measure => simp at hk2; omega
           case rel => exact ⟨t3, _, _, _, HFIN.out, H7.out, fun _ => by rw [H3N.out]; exact HY2.out, fun z hz => by rw [H3N.out]; exact HMON2.out z hz⟩
         | cons u K' =>
           have hun : u < n := HKN.out u l0
           have hun' : (u : Int) < (n : Int) := by omega
           rw [j0z] at h7
           obtain ⟨v0, v1, v2, vf, gl5, _, q1, q2⟩ := TW.top h7
           have hsp' : (stkOf K' nn).length = K'.length := k0m _ _
           rw [hsp'] at v0
           obtain ⟨p', hp'⟩ : ∃ p', p' = K'.length := ⟨_, rfl⟩
           rw [<- hp'] at v0
           have hpp : p = p' + 1 := by rw [hpk, hp']; simp
           have w1 : IntKind.i64.wrap ((p : Int) - 1) = (p' : Int) := by rw [IntWalk.i64_in _ (by omega)]; omega
           have w2 : (0 : Int) <= (p' : Int) := by omega
           have w3 : (p' : Int) < (p : Int) := by omega
           have w6' : (0 : Int) < (p : Int) := by omega
           have g1 := (TW.low h7).cell hun; have g2 := (TW.low h7).cell hxn; have e1 := (TW.low h7).frozen u
           obtain ⟨lu, hlu⟩ : ∃ lu, lu = t3.low u := ⟨_, rfl⟩
           obtain ⟨lx, hlx⟩ : ∃ lx, lx = t3.low x := ⟨_, rfl⟩
           rw [<- hlu] at g1; rw [<- hlx] at g2
           have hmin : (if lx < lu then lx else lu) = min (t3.low u) (t3.low x) := by rw [<- hlu, <- hlx]; split <;> omega
           have h8 := (TW.setLow h7 u (if lx < lu then lx else lu)).drew.drew
           rw [hmin, <- j0z] at h8
           have hfin := FINC.out u K' rfl
           have hminB : min lu lx = min (t3.low u) (t3.low x) := by rw [<- hlu, <- hlx]
           have H8 := hid h8; have HFIN := hid hfin; have HMIN := hid hmin; have HMINB := hid hminB
           clear FINN FINC h7 h8 hfin hmin hminB hlu hlx hp' hpp hsp' hpk q1 q2 v1 v2 vf c0 c2 c3 c4 c5 c6 c7 l3 l4 l5 l6
           go_wp2_with fail
           go_region
           clear HNL HPP HPK HTI1 HK HTW hxK HST2 HNL2 HSP HKN htw6 v0 w1 w2 w3 w6' c8 gl5 HTI2 HEND
           go_wp2_with fail
           go_region
           first | rw [HMIN.out] | rw [HMINB.out]
           go_wp2_with fail
           go_roundg (3 * (n - t2.met.toNat) + (u :: K').length + 2)
           case measure => omega
           case rel => exact ⟨_, _, _, _, HFIN.out, H8.out, fun _ => by show t3.num y ≠ 0; rw [H3N.out]; exact HY2.out, fun z hz => by show t3.num z ≠ 0; rw [H3N.out]; exact HMON2.out z hz⟩
       · obtain ⟨t3, ht3⟩ : ∃ t3, t3 = t2 := ⟨_, rfl⟩
         obtain ⟨vo3, hvo3⟩ : ∃ vo3, vo3 = vo1 := ⟨_, rfl⟩
         refine (v1u H3.out hxn hlow).mono ?_
         rintro e w6 ⟨rfl, htw6⟩
         have htw6 : TWS w0 w6 B WB LB NB IB CB n (.pointer (some ⟨gb, 0, none⟩)) t3 (stkOf K nn ++ [((x : Int), 2, ((nn x : Nat) : Int))]) vo3 (.slice (some ⟨g, 0, none⟩) q c) := by rw [ht3, hvo3]; exact htw6
         have H3N : Hid (t3.num = t2.num) := hid (by rw [ht3])
         have FINN : Hid (K = [] -> FromSt s n t3 (stkOf K nn) (3 * (n - t2.met.toNat) + K.length + 2)) := hid (fun e => by
           have h1 := HTI2.out
           rw [e] at h1
           obtain ⟨g', K', e2, _⟩ := h1.leave1 (k1u HG.out.right HG.out.srt HEND.out) hlow
           cases e2)
         have FINC : Hid (∀ u K', K = u :: K' -> FromSt s n { t3 with low := upd t3.low u (min (t3.low u) (t3.low x)) } (stkOf K nn) (3 * (n - t2.met.toNat) + K.length + 2)) := hid (fun u K' e => by
           have h1 := HTI2.out
           have h2 := HNL2.out
           rw [ht3]
           rw [e] at h1 h2 ⊢
           exact FromSt.left1 h1 HG.out.right HG.out.srt HEND.out hlow h2 (by simp))
         clear ht3 hvo3 hlow hxo H3
         have hxn' : (x : Int) < (n : Int) := by omega
         obtain ⟨v0, v1, v2, vf, gl5, _, q1, q2⟩ := TW.top htw6
         clear q1 v1 v2 vf
         rw [HSP.out] at v0
         obtain ⟨c0, c1, c2, c3, c4, c5, c6, c7, c8⟩ := TW.cells htw6
         obtain ⟨l1, l2, l3, l4, l5, l6⟩ := TW.lts htw6
         have f8 := TW.fz htw6 8
         have w2 : (0 : Int) <= (p : Int) := by omega
         have hqp : q = p + 1 := HQQ.out
         have hp1000 : p <= 1000 := by have := HPK.out; omega
         have w1 : IntKind.i64.wrap ((q : Int) - 1) = (p : Int) := by rw [IntWalk.i64_in _ (by omega)]; omega
         have w3 : (p : Int) < (q : Int) := by omega
         have w4' : (p : Int) <= (c : Int) := by omega
         have w5' : ¬ c = 0 := by omega
         have HTW6 := hid htw6
         clear htw6 hqp c0 c1 c2 c3 c4 c5 c6 c7 l2 l3 l4 l5 l6
         go_wp2_with fail
         go_region
         have h7 : TWS w0 (w6.setCell ⟨WB, 8, none⟩ (.slice (some ⟨g, 0, none⟩) p c)).drew B WB LB NB IB CB n (.pointer (some ⟨gb, 0, none⟩)) t3 (stkOf K nn) vo3 (.slice (some ⟨g, 0, none⟩) p c) := by
           have h := TW.popS HTW6.out (by rw [HSP.out]; exact HQQ.out)
           rw [HSP.out] at h
           exact TW.drew h
         obtain ⟨W7, hW7⟩ : ∃ W7, W7 = (w6.setCell ⟨WB, 8, none⟩ (.slice (some ⟨g, 0, none⟩) p c)).drew := ⟨_, rfl⟩
         rw [<- hW7] at h7 ⊢
         clear hW7 HTW6 c8 l1 f8 w1 w2 w3 w4' w5' v0 gl5
         obtain ⟨c0, c1, c2, c3, c4, c5, c6, c7, c8⟩ := TW.cells h7
         obtain ⟨l1, l2, l3, l4, l5, l6⟩ := TW.lts h7
         have hpk := HPK.out
         cases K with
         | nil =>
           have hp0 : p = 0 := hpk
           subst hp0
           have H7 := hid h7
           have HFIN := hid (FINN.out rfl)
           clear FINN FINC h7 hpk c0 c1 c2 c3 c4 c5 c6 c7 l2 l3 l4 l5 l6
           go_wp2_with fail
           go_roundg (3 * (n - t2.met.toNat) + 0 + 2)
           case measure => simp at hk2; omega
           case rel => exact ⟨t3, _, _, _, HFIN.out, H7.out, fun _ => by rw [H3N.out]; exact HY2.out, fun z hz => by rw [H3N.out]; exact HMON2.out z hz⟩
         | cons u K' =>
           have hun : u < n := HKN.out u l0
           have hun' : (u : Int) < (n : Int) := by omega
           rw [j0z] at h7
           obtain ⟨v0, v1, v2, vf, gl5, _, q1, q2⟩ := TW.top h7
           have hsp' : (stkOf K' nn).length = K'.length := k0m _ _
           rw [hsp'] at v0
           obtain ⟨p', hp'⟩ : ∃ p', p' = K'.length := ⟨_, rfl⟩
           rw [<- hp'] at v0
           have hpp : p = p' + 1 := by rw [hpk, hp']; simp
           have w1 : IntKind.i64.wrap ((p : Int) - 1) = (p' : Int) := by rw [IntWalk.i64_in _ (by omega)]; omega
           have w2 : (0 : Int) <= (p' : Int) := by omega
           have w3 : (p' : Int) < (p : Int) := by omega
           have w6' : (0 : Int) < (p : Int) := by omega
           have g1 := (TW.low h7).cell hun; have g2 := (TW.low h7).cell hxn; have e1 := (TW.low h7).frozen u
           obtain ⟨lu, hlu⟩ : ∃ lu, lu = t3.low u := ⟨_, rfl⟩
           obtain ⟨lx, hlx⟩ : ∃ lx, lx = t3.low x := ⟨_, rfl⟩
           rw [<- hlu] at g1; rw [<- hlx] at g2
           have hmin : (if lx < lu then lx else lu) = min (t3.low u) (t3.low x) := by rw [<- hlu, <- hlx]; split <;> omega
           have h8 := (TW.setLow h7 u (if lx < lu then lx else lu)).drew.drew
           rw [hmin, <- j0z] at h8
           have hfin := FINC.out u K' rfl
           have hminB : min lu lx = min (t3.low u) (t3.low x) := by rw [<- hlu, <- hlx]
           have H8 := hid h8; have HFIN := hid hfin; have HMIN := hid hmin; have HMINB := hid hminB
           clear FINN FINC h7 h8 hfin hmin hminB hlu hlx hp' hpp hsp' hpk q1 q2 v1 v2 vf c0 c2 c3 c4 c5 c6 c7 l3 l4 l5 l6
           go_wp2_with fail
           go_region
           clear HNL HPP HPK HTI1 HK HTW hxK HST2 HNL2 HSP HKN htw6 v0 w1 w2 w3 w6' c8 gl5 HTI2 HEND
           go_wp2_with fail
           go_region
           first | rw [HMIN.out] | rw [HMINB.out]
           go_wp2_with fail
           go_roundg (3 * (n - t2.met.toNat) + (u :: K').length + 2)
           case measure => omega
           case rel => exact ⟨_, _, _, _, HFIN.out, H8.out, fun _ => by show t3.num y ≠ 0; rw [H3N.out]; exact HY2.out, fun z hz => by show t3.num z ≠ 0; rw [H3N.out]; exact HMON2.out z hz⟩
end Go.Proofs.YtbaccmlfnbgehaaGreatDoor

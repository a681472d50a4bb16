/-
  Lemmas.
-/
import Derived.Test.YtjchdegapadepaaGreatDoorGTauJ
import Derived.Test.YtjchdegapadepaaGreatDoorGBrL
import Derived.Test.YtjchdegapadepaaGreatDoorGOMap
import Derived.Test.YtjchdegapadepaaGreatDoorGQuoB
import Derived.Test.YtjchdegapadepaaGreatDoorGTold
import Derived.Test.YtjchdegapadepaaGreatDoorGMem
import Derived.Test.YtjchdegapadepaaGreatDoorGPl6
import Derived.Deep.RegionHeld3
import Derived.Deep.Cut
import Derived.Deep.CutRange
import Derived.Deep.QuietTactic
import Derived.BigQuiet
import Derived.IntWalk
import Derived.Deep.DeepMust
set_option maxRecDepth 100000
namespace Go.Proofs.YtjchdegapadepaaGreatDoor
open Go.RowKit Pl
open Lib (hid)
def OrdPost (s : Lts) (n : Nat) (w : World) (e : Ending) (w' : World) : Prop :=
  ∃ (f : Nat -> Int) (D : List Nat) (v : Value), Cyc s n f /\ OrdL (col s (fl n (clf n f))) (dist (fl n (clf n f))).length D /\ (∀ k, k < (dist (fl n (clf n f))).length -> k ∈ D) /\ e = .returned (.tuple #[v, .nilIface]) /\
    w'.ownsRow w.heap.size 3 1 v n ((D.flatMap fun k : Nat => memK (fl n (clf n f)) n (k : Int)).flatMap encI) /\ Below w.heap.size w w'
set_option maxHeartbeats 8000000 in
theorem q1b {p : Addr} {s : Lts} {n : Nat} (h : s.Right) (hn : s.st = (n : Int)) {a : Option Addr} {b off c : Nat} {w : World} (hG : GErr 10 p w) (hS : SlAt encE 3 w a b off s.es) :
    Calls Tryz.prog 34 #[.agg #[.int .i64 s.st, .int .i64 s.lb, .int .i64 s.s0, .slice a s.es.length c]] w (OrdPost s n w) := by
 have hst := h.st0
 have hn1 : n <= 1000 := by omega
 have hB0 := (Below.refl w.heap.size w).alloc (Nat.le_refl _) (Obj.cells #[.int .i64 s.st, .int .i64 s.lb, .int .i64 s.s0, .slice a s.es.length c] 24)
 have hX0 := heap_alloc_new w (Obj.cells #[.int .i64 s.st, .int .i64 s.lb, .int .i64 s.s0, .slice a s.es.length c] 24)
 have hN := q0m (c := c) h hn (hG.below hB0) (hS.below hB0 (Nat.le_refl _))
 rw [hn] at hN hB0 hX0
 have HN := hid hN; have HB0 := hid hB0; have HR := hid h; have HNN := hid hn; have HST := hid hst; have HX0 := hid hX0; have HG := hid hG
 rw [hn]
 clear hN hB0 hS hG h hn hst hX0
 obtain ⟨el, hel⟩ : ∃ el, el = s.es.length := ⟨_, rfl⟩
 rw [<- hel] at HN HB0 HX0 ⊢
 clear hel
 go_enter Tryz.func34, Tryz.ntmps34
 go_wp2_with fail
 refine HN.out.mono ?_
 rintro e w1 ⟨f, v, ve, hcyc, rfl, hown, howne, hB1⟩
 obtain ⟨C, hC⟩ : ∃ C, C = fl n (clf n f) := ⟨_, rfl⟩
 have hCl : C.length = n := by rw [hC, j0g]
 have htr : (col s C).Right := by rw [hC]; exact q0n HR.out HNN.out
 rw [<- hC] at hown howne ⊢
 obtain ⟨t, ht⟩ : ∃ t, t = col s C := ⟨_, rfl⟩
 rw [<- ht] at htr howne ⊢
 obtain ⟨M, hM⟩ : ∃ M, M = (dist C).length := ⟨_, rfl⟩
 have htst : t.st = (M : Int) := by rw [ht, hM]; rfl
 have hMn : M <= n := by rw [hM, hC]; have := y0g n (clf n f); exact this
 have hown' : w1.ownsRow (w.alloc (Obj.cells #[.int .i64 n, .int .i64 s.lb, .int .i64 s.s0, .slice a el c] 24)).heap.size 3 1 v C.length (C.flatMap encI) := by rw [hCl]; exact hown
 obtain ⟨ca, cc, cb, rfl, _, _, hcs, hcb⟩ := j0f k0v hown'
 obtain ⟨ea, ec, eb, rfl, _, _, hes, _⟩ := j0f p0n howne
 rw [hCl] at hcb hown ⊢
 have hnorm : t.norm = t := by
   have h1 : nf ltE t.es = t.es := by rw [ht]; exact q1d p0p (y0h s C)
   unfold Lts.norm; rw [h1]
 have hB1' := HB0.out.trans (hB1.mono (by simp))
 have hBe := x0t (Below.refl w1.heap.size w1) (Obj.cells #[.int .i64 t.st, .int .i64 t.lb, .int .i64 t.s0, .slice ea t.es.length ec] 24)
 have hN := z0t (c := ec) htr ((HG.out.below hB1').below hBe) (hes.below hBe (Nat.le_refl _))
 rw [hnorm] at hN
 have hX1 := (hB1.block w.heap.size (by simp)).trans HX0.out
 have hC1 := heap_alloc_new w1 (Obj.cells #[.int .i64 t.st, .int .i64 t.lb, .int .i64 t.s0, .slice ea t.es.length ec] 24)
 have hX1' := (Below.heap_alloc w1 (Obj.cells #[.int .i64 t.st, .int .i64 t.lb, .int .i64 t.s0, .slice ea t.es.length ec] 24) w.heap.size (by have := hB1.size; simp at this; omega)).trans hX1
 have hcs1 := hcs.below hBe (Nat.le_refl _)
 have hs1 := hB1.size
 simp at hs1
 rw [htst] at hN hC1 hX1' hBe hcs1 ⊢
 obtain ⟨tl, htl⟩ : ∃ tl, tl = t.es.length := ⟨_, rfl⟩
 rw [<- htl] at hN hC1 hX1' hBe hcs1 ⊢
 have HN := hid hN; have HC1 := hid hC1; have HX1 := hid hX1'; have HB1 := hid (hB1'.trans (hBe.mono (by omega))); have HCS := hid hcs1; have HCB := hid hcb
 have HCYC := hid hcyc; have HC := hid hC; have HT := hid ht; have HM := hid hM; have HTR := hid htr; have HCL := hid hCl; have HTST := hid htst
 clear hN hC1 hX1 hX1' hBe hcs1 hcs hcb hcyc hC ht hM htr hCl htst hnorm hB1 hB1' hown hown' howne hes htl HX0 HB0 HG
 go_wp2_with fail
 refine HN.out.mono ?_
 rintro e w2 ⟨gb, rfl, hgr, hB2, _⟩
 have hs2 := hB2.size
 simp at hs2
 have hX2 := (hB2.block w.heap.size (by simp; omega)).trans HX1.out
 have hC2 := (hB2.block w1.heap.size (by simp)).trans HC1.out
 have hcs2 := HCS.out.below hB2 (Nat.le_refl _)
 have hBw := HB1.out.trans (hB2.mono (by simp; omega))
 have HX2 := hid hX2; have HC2 := hid hC2; have HCS2 := hid hcs2; have HBW := hid hBw; have HGR := hid hgr
 clear hX2 hC2 hcs2 hBw hgr hB2 HN HCS HX1 HC1 HB1
 obtain ⟨x0, x1, x2, x3, x4⟩ := x0v HX2.out
 obtain ⟨y0, y1, y2, y3, y4⟩ := x0v HC2.out
 clear x1 x2 x3 y1 y2 y3
 have hmk := run_make_row' (P := Tryz.prog) 55 27 (.slice none 0 0) 24 Tryz.underlying55 (by kernel_rfl) rfl .i64 .i64 M (by omega) (by omega)
 go_wp2_with fail
 obtain ⟨U, hU⟩ : ∃ U, U = w2.alloc (Obj.cells (madeCells #[.slice none 0 0] M) 27) := ⟨_, rfl⟩
 have hBU : Below w2.heap.size w2 U := by rw [hU]; exact x0t (Below.refl _ _) _
 have hUs : U.heap.size = w2.heap.size + 1 := by rw [hU]; simp
 have hOG : OG U U w2.heap.size M (fun k => memK C 0 (k : Int)) := by (
 refine ⟨?_, Below.refl _ _, fun _ _ _ => rfl⟩
 have h := OwnRows.made (enc := encI) (k := 1) (e := 3) (T := 27) (w := w2) (n := M)
 rw [<- hU, <- hUs] at h
 simpa [memK] using h)
 have hcsu := HCS2.out.below hBU (Nat.le_refl _)
 have hcbn : 0 < C.length -> cb ≠ w2.heap.size := fun h => by have := HCS2.out.lt h; omega
 have HOG := hid hOG; have HBU := hid hBU; have HCSU := hid hcsu; have HCBN := hid hcbn; have HUS := hid hUs
 rw [<- hU]
 clear hmk hOG hBU hcsu hcbn hU x0 x4 y0 y4
 go_loopw [37] (fun v37 wr => ∃ k : Nat, v37 = .int .i64 k /\ k <= n /\ OG U wr w2.heap.size M (fun i => memK C k (i : Int)))
   (fun v37 _ => n - (intOf v37).toNat)
 case atStart => exact ⟨0, rfl, Nat.zero_le _, HOG.out⟩
 case round => (
 obtain ⟨k, rfl, hk, hog⟩ := hrel
 have HO := hid hog
 have hszr := hog.bel.size
 clear hog HOG
 by_cases hlt : k < n
 · (
 have hx : C[k]? = some (clf n f k) := by rw [HC.out]; exact j0h _ hlt
 have hrng := p0q (f := f) hlt
 have hdl := j0y n f
 rw [<- HC.out, <- HM.out] at hdl
 obtain ⟨cn, hcn⟩ := Int.eq_ofNat_of_zero_le hrng.1
 have hcnM : cn < M := by omega
 rw [hcn] at hx
 have hslr := HO.out.sl HCSU.out HCBN.out
 have hClen := HCL.out
 obtain rfl := hslr.ad (by omega)
 have e0 := hslr.ci hx
 have gl := hslr.lt (by omega)
 simp only [Nat.zero_add] at e0
 have hki : (k : Int) < (n : Int) := by omega
 have hcM2 : (cn : Int) < (M : Int) := by omega
 obtain ⟨v, hcv, hfv, hown, hgo⟩ := HO.out.open hcnM
 have hml := z1t C k (cn : Int)
 have HX := hid hx; have HOWN := hid hown; have HGO := hid hgo
 have hobr : w2.heap.size < wr.heap.size := by have := HUS.out; omega
 obtain ⟨ml, hmll⟩ : ∃ ml, ml = (memK C k (cn : Int)).length := ⟨_, rfl⟩
 rw [<- hmll] at hml HOWN
 have HML := hid hmll
 clear hx hrng hdl hcn hslr hown hgo hClen hmll
 go_wp2_with (at_builtin; go_must (refine p0j rfl _ _ _ rfl v0u (by simp; omega) (by rfl) (HOWN.out.alloc _) ⟨wr.heap.size, 0, none⟩ 1 1 [.int .i64 k] rfl rfl (k0i (by simp [go_sem])) (by simp [Value.oneCell']) (by decide) (by omega) (by unfold maxLen; omega) (wr.heap.size + 1) (by simp) ?_); intro g cap w8 hown8 hg8 hat8 hlt8; have kp := HGO.out _ w8 g cap (memK C k (cn : Int) ++ [(k : Int)]) ((Below.refl _ _).alloc (Nat.le_refl _) _) (by rw [List.length_append, List.flatMap_append, <- HML.out]; exact hown8) hg8 (hat8.imp_right (fun e => by omega)); have kp0 := kp.1; have kp1 := kp.2.1; have KP := hid kp.2.2; clear kp)
 have hstep : ∀ i : Nat, (if i = cn then memK C k (cn : Int) ++ [(k : Int)] else memK C k (i : Int)) = memK C (k + 1) (i : Int) := fun i => by (
 rw [z0x HX.out]
 by_cases hi : i = cn
 · subst hi; rw [if_pos rfl, if_pos rfl]
 · rw [if_neg hi, if_neg (by omega)])
 have H1 := hid (KP.out.congr hstep)
 rw [List.length_append, <- HML.out] at H1
 clear hstep KP hown8 hg8 hat8 hlt8 kp0 kp1
 go_roundw
 case rel => exact ⟨k + 1, by go_num, by omega, H1.out⟩
 case measure => simp [intOf]; omega)
 · (
 have hkn : n = k := by omega
 subst hkn
 obtain ⟨wm, hwm⟩ : ∃ wm, wm = wr := ⟨_, rfl⟩
 subst hwm
 have hb2m := HBU.out.trans (HO.out.bel.mono (Nat.le_refl _))
 have hxm := (hb2m.block w.heap.size (by omega)).trans HX2.out
 have hcm := (hb2m.block w1.heap.size (by omega)).trans HC2.out
 have hgm := HGR.out.below hb2m
 obtain ⟨x0, x1, x2, x3, x4⟩ := x0v hxm
 obtain ⟨y0, y1, y2, y3, y4⟩ := x0v hcm
 have hsm := hb2m.size
 have HXM := hid hxm; have HGM := hid hgm; have HBM := hid (HBW.out.trans (hb2m.mono (by omega)))
 have hmk := run_make_row' (P := Tryz.prog) 27 3 (.int .i64 0) 8 Tryz.underlying27 (by kernel_rfl) rfl .i64 .i64 M (by omega) (by omega)
 clear x1 x2 x3 y1 y2 y3 hb2m hxm hcm hgm HX2 HC2 HGR HBW HCSU HCBN
 go_wp2_with fail
 have hOQ : OQ wm (wm.alloc (Obj.cells (madeCells #[.int .i64 0] M) 3)) M (fun j => if j < 0 then (Wt t [] j : Int) else 0) := by
   refine ⟨?_, x0t (Below.refl _ _) _⟩
   simpa using World.rowIs_made wm (.int .i64 0) M 3
 have HOQ := hid hOQ
 clear hmk hOQ x0 x4 y0 y4
 go_loopw [58] (fun v58 wr => ∃ k : Nat, v58 = .int .i64 k /\ k <= M /\ OQ wm wr M (fun j => if j < k then (Wt t [] j : Int) else 0))
   (fun v58 _ => M - (intOf v58).toNat)
 case atStart => exact ⟨0, rfl, Nat.zero_le _, HOQ.out⟩
 case round => (
 obtain ⟨k, rfl, hk, hoq⟩ := hrel
 have HQ := hid hoq
 have hszr := hoq.bel.size
 clear hoq HOQ
 by_cases hlt : k < M
 · (
 have HBY := hid (q2n (HGM.out.below HQ.out.bel) (k : Int) 0)
 have hki : (k : Int) < (M : Int) := by omega
 go_wp2_with fail
 refine HBY.out.mono ?_
 rintro e w6 ⟨v6, rfl, hown6, hB6⟩
 obtain ⟨sa, sc, sb, rfl, _, _, _, _⟩ := j0f k0v hown6
 have hq6 := HQ.out.call hB6
 have hwt := j1t HTR.out (show Srt ltE t.es by rw [HT.out]; exact y0h s C) k
 rw [hwt]
 have g1 := hq6.rows.cell hlt
 have g2 := hq6.rows.frozen k
 have gl := hq6.rows.lt
 have HQ6 := hid hq6
 obtain ⟨wk, hwk⟩ : ∃ wk, wk = Wt t [] k := ⟨_, rfl⟩
 rw [<- hwk]
 have HWK := hid hwk
 clear hown6 hB6 hq6 hwt hwk HBY
 go_wp2_with fail
 have h7 : OQ wm (w6.setCell ⟨wm.heap.size, k, none⟩ (.int .i64 wk)) M (fun j => if j < k + 1 then (Wt t [] j : Int) else 0) := (HQ6.out.set k wk).congr (fun j _ => by (
 by_cases e : j = k
 · subst e; rw [if_pos rfl, if_pos (by omega), HWK.out]
 · rw [if_neg e]
   by_cases e2 : j < k
   · rw [if_pos e2, if_pos (by omega)]
   · rw [if_neg e2, if_neg (by omega)]))
 have H7 := hid h7
 clear h7 g1 g2 gl
 go_roundw
 case rel => exact ⟨k + 1, by go_num, by omega, H7.out⟩
 case measure => simp [intOf]; omega)
 · (
 have hkM : M = k := by omega
 subst hkM
 obtain ⟨wt, hwt⟩ : ∃ wt, wt = wr := ⟨_, rfl⟩
 subst hwt
 have hq : OQ wm wt M (W8 t []) := HQ.out.congr (fun j hj => by rw [if_pos hj]; unfold W8; rw [if_neg (by simp)])
 have hx3 := (hq.bel.block w.heap.size (by omega)).trans HXM.out
 have HQ3 := hid hq
 clear hq HQ
 obtain ⟨x0, x1, x2, x3, x4⟩ := x0v hx3
 have HX3 := hid hx3
 clear hx3 x1 x2 x3
 go_wp2_with fail
 have hdl := j0y n f
 rw [<- HC.out, <- HM.out] at hdl
 have hin : ∀ x, x < n -> ∃ k : Nat, k < M /\ C[x]? = some (k : Int) := fun x hx => by
   rw [hdl, HC.out]; exact cls_in hx
 have hon : ∀ k, k < M -> ∃ x, x < n /\ C[x]? = some (k : Int) := fun k hk => by
   rw [hdl] at hk; rw [HC.out]; exact cls_onto hk
 have HIN := hid hin; have HON := hid hon
 have HSRT : Hid (Srt ltE t.es) := hid (by rw [HT.out]; exact y0h s C)
 have HF : Hid (∀ x y, tau t x y -> rank n f y < rank n f x) := hid (fun x y hxy => p1t HR.out HNN.out HCYC.out (by rw [<- HC.out, <- HT.out]; exact hxy))
 clear hdl hin hon x0 x4
 go_loopw [14] (fun v14 wr => ∃ (D : List Nat) (L : List Int), L = (D.flatMap fun k : Nat => memK C n (k : Int)) /\ OrdL t M D /\ OQ wm wr M (W8 t D) /\ wr.ownsRow (wm.heap.size + 1) 3 1 v14 L.length (L.flatMap encI))
   (fun v14 _ => match v14 with | .slice _ l _ => n - l | _ => 0)
 case atStart => exact ⟨[], [], rfl, .nil, HQ3.out, World.ownsRow_nil _ _ _ _⟩
 case round => (
 obtain ⟨D, L, hL, hD, hq, hown⟩ := hrel
 obtain ⟨oa, oc, ob, rfl, _, _, _, _⟩ := j0f k0v hown
 have hLn : L.length <= n := by rw [hL]; exact k1m C n hD.nodup
 have hszr := hq.bel.size
 have hxr := (hq.bel.block w.heap.size (by omega)).trans HXM.out
 obtain ⟨x0, x1, x2, x3, x4⟩ := x0v hxr
 have HL := hid hL; have HD := hid hD; have HQ := hid hq; have HOWN := hid hown
 obtain ⟨ll, hll⟩ : ∃ ll, ll = L.length := ⟨_, rfl⟩
 rw [<- hll] at hLn HOWN ⊢
 have HLL := hid hll
 clear hL hD hq hown hxr x1 x2 x3 hll HQ3
 by_cases hlt : ll < n
 · (
 have hlt2 : (ll : Int) < (n : Int) := by omega
 obtain ⟨x, hxM, hxD⟩ := q2q HIN.out (D := D) (by rw [<- HL.out, <- HLL.out]; exact hlt)
 obtain ⟨K, hK⟩ := next_ex HTR.out HSRT.out HTST.out HF.out hxM hxD
 have hKM := hK.lt
 have HK := hid hK
 clear hxM hxD hK
 go_wp2_with fail
 obtain ⟨wq, hwq⟩ : ∃ wq, wq = wr := ⟨_, rfl⟩
 subst hwq
 have gl := HQ.out.rows.lt
 go_loopw [15] (fun v15 wx => ∃ j : Nat, wq = wx /\ v15 = .int .i64 j /\ j <= K) (fun v15 _ => K - (intOf v15).toNat)
 case atStart => exact ⟨0, rfl, rfl, Nat.zero_le _⟩
 case round => (
 obtain ⟨j, rfl, rfl, hj⟩ := hrel
 have hjM : j < M := by omega
 have hjM2 : (j : Int) < (M : Int) := by omega
 have g1 := HQ.out.rows.cell hjM
 obtain ⟨q, hq⟩ : ∃ q, q = W8 t D j := ⟨_, rfl⟩
 rw [<- hq] at g1
 by_cases hjK : j < K
 · (
 have hb : (q != 0) = true := by (
 have h1 := HK.out.first j hjK
 have h2 := x2u (t := t) D j
 rw [bne_iff_ne, hq]
 intro e
 obtain ⟨h3, h4⟩ := h2.1 e
 rcases h1 with h1 | h1
 · exact h3 h1
 · exact h1 h4)
 clear hq
 go_wp2_with fail
 go_roundw
 case rel => exact ⟨j + 1, by trivial, by go_num, by omega⟩
 case measure => simp [intOf]; omega)
 · (
 have hjj : K = j := by omega
 subst hjj
 have hb : (q != 0) = false := by
   rw [hq, (x2u (t := t) D K).2 ⟨HK.out.new, HK.out.all⟩]; rfl
 have g2 := HQ.out.rows.frozen K
 clear hq
 obtain ⟨vK, hv1, hv2, hv3⟩ := HO.out.rows.at hjM
 obtain ⟨ma, mc, mb, rfl, _, _, hms, hmb⟩ := j0f k0v hv3
 have hmp := memK_pos (HON.out K hjM)
 obtain ⟨ML, hML⟩ : ∃ ML, ML = memK C n (K : Int) := ⟨_, rfl⟩
 rw [<- hML] at hv1 hms hmb hmp
 have hmle : ML.length <= n := by rw [hML]; exact z1t C n _
 obtain rfl := hms.ad hmp
 have hqs : OQ wm (wq.setCell ⟨wm.heap.size, K, none⟩ (.int .i64 (-1))) M (W9 t D K []) := (HQ.out.set K (-1)).congr (fun j _ => (W9_nil D K j).symm)
 have hms2 := hms.below hqs.bel (Nat.le_refl _)
 have hvm := (World.cell?_of_block (a := ⟨w2.heap.size, K, none⟩) (hqs.bel.block w2.heap.size (by omega))).trans hv1
 have hown2 : (wq.setCell ⟨wm.heap.size, K, none⟩ (.int .i64 (-1))).ownsRow (wm.heap.size + 1) 3 1 (.slice oa ll oc) ll (L.flatMap encI) := j0n HOWN.out (p := ⟨wm.heap.size, K, none⟩) (fun g hg => by have := (HOWN.out.lt g hg).1; show g ≠ wm.heap.size; omega) _
 obtain ⟨wz, hwz⟩ : ∃ wz, wz = wq.setCell ⟨wm.heap.size, K, none⟩ (.int .i64 (-1)) := ⟨_, rfl⟩
 have hszz : wz.heap.size = wq.heap.size := by rw [hwz, size_setCell]
 have HQS := hid hqs; have HMS := hid hms2; have HVM := hid hvm; have HOWN2 := hid hown2
 have HML := hid hML
 clear hv1 hv2 hv3 hms hqs hms2 hvm hown2 hmb hML
 go_upto_region 23 with fail
 rw [<- hwz] at HQS HMS HVM HOWN2 ⊢
 have gz := HQS.out.rows.lt
 have hvm := HVM.out
 obtain ⟨hn1', hn2', hn3'⟩ := u0u (ad := ⟨mb, 0, none⟩) k0v (fun x u hu => by simp [encI] at hu; subst hu; rfl) HMS.out rfl
 have HN1 := hid hn1'; have HN2 := hid hn2'; have HN3 := hid hn3'
 have hob2 : w2.heap.size < wz.heap.size := by omega
 obtain ⟨ml, hml⟩ : ∃ ml, ml = ML.length := ⟨_, rfl⟩
 rw [<- hml] at hvm HN3 hmp hmle
 have HMLL := hid hml
 clear hwz hn1' hn2' hn3' hml g1 g2
 go_upto_region 24 with (at_builtin; go_must (refine p0j rfl _ _ _ rfl v0u gz (by rfl) HOWN2.out ⟨mb, 0, none⟩ ml mc (ML.flatMap encI) rfl HN3.out HN1.out HN2.out hmp (by omega) (by unfold maxLen; omega) wz.heap.size rfl ?_); intro g cap w8 hown8 hg8 hat8 hlt8)
 have hq8 := HQS.out.grown HOWN2.out hg8
 have hown9 : w8.ownsRow (wm.heap.size + 1) 3 1 (.slice (some ⟨g, 0, none⟩) (ll + ml) cap) (L ++ ML).length ((L ++ ML).flatMap encI) := by
   rw [List.length_append, List.flatMap_append, <- HLL.out, <- HMLL.out]; exact hown8
 have hfr := getFrom_any (HGM.out.below hq8.bel) (K : Int) 0
 have HQ8 := hid hq8; have HOWN9 := hid hown9; have HFR := hid hfr
 clear hq8 hown9 hfr hown8 hg8 hat8 hvm HN1 HN2 HN3 HQS HOWN2 HVM HMS
 go_wp2_with fail
 refine HFR.out.mono ?_
 rintro e w9 ⟨v9, rfl, hown10, hB9⟩
 obtain ⟨fa, fc, fb, rfl, _, _, hfs, hfb⟩ := j0f k0v hown10
 obtain ⟨F, hF⟩ : ∃ F, F = withL 0 (t.ins (K : Int)) := ⟨_, rfl⟩
 rw [<- hF] at hfs hfb ⊢
 have hFl : F.length <= 10000 := by (
 rw [hF]; unfold withL; rw [List.length_map]
 have h1 := List.length_filter_le (fun s : S => s.1 == 0) (t.ins (K : Int))
 have h2 := v0b HTR.out (K : Int)
 omega)
 have hq9 := HQ8.out.call hB9
 have hown11 := own_below HOWN9.out hB9
 have HQ9 := hid hq9; have HOWN11 := hid hown11; have HFS := hid hfs; have HFB := hid hfb; have HFF := hid hF
 clear hq9 hown11 hfs hfb hF hown10 hB9
 go_wp2_with fail
 obtain ⟨Fl, hFl2⟩ : ∃ Fl, Fl = F.length := ⟨_, rfl⟩
 rw [<- hFl2] at hFl ⊢
 have HFL := hid hFl2
 clear hFl2
 go_loopw [94] (fun v94 wx => ∃ m : Nat, v94 = .int .i64 m /\ m <= Fl /\ OQ wm wx M (W9 t D K (F.take m)) /\ (∀ b, b ≠ wm.heap.size -> wx.heap[b]? = w9.heap[b]?) /\ wx.heap.size = w9.heap.size)
   (fun v94 _ => Fl - (intOf v94).toNat)
 case atStart => exact ⟨0, rfl, Nat.zero_le _, by rw [List.take_zero]; exact HQ9.out, fun _ _ => rfl, rfl⟩
 case round => (
 obtain ⟨m, rfl, hm, hq, hoth, hsz⟩ := hrel
 have HQX := hid hq; have HOTH := hid hoth
 have gq := hq.rows.lt
 have g9 := HQ9.out.rows.lt
 clear hq hoth
 by_cases hmF : m < Fl
 · (
 obtain ⟨x, hx⟩ := j0a (xs := F) (i := m) (by have := HFL.out; omega)
 obtain ⟨up, rfl, hup⟩ := from_rng HTR.out HTST.out (k := K) (x := x) (by rw [<- HFF.out]; exact List.mem_of_getElem? hx)
 have hfp : 0 < F.length := by have := HFL.out; omega
 have hfsx : SlAt encI 1 wr fa fb 0 F := ⟨HFS.out.ad, fun hp => by rw [hsz]; exact HFS.out.lt hp, fun i y hy j u hu => by
   rw [World.cell?_of_block (w := w9) (a := ⟨fb, 0 + i * 1 + j, none⟩) (HOTH.out fb (by have := HFB.out hfp; have := HQ8.out.rows.lt; omega))]
   exact HFS.out.cell i y hy j u hu⟩
 obtain rfl := hfsx.ad hfp
 have e0 := hfsx.ci hx
 have fl := hfsx.lt hfp
 simp only [Nat.zero_add] at e0
 have g1 := HQX.out.rows.cell hup
 have g2 := HQX.out.rows.frozen up
 have hr9 := W9_rng HTR.out D K (F.take m) (by rw [List.length_take]; have := HFL.out; omega) up
 obtain ⟨q, hq⟩ : ∃ q, q = W9 t D K (F.take m) up := ⟨_, rfl⟩
 rw [<- hq] at g1 hr9
 have hmF2 : (m : Int) < (Fl : Int) := by omega
 have hup2 : (up : Int) < (M : Int) := by omega
 obtain ⟨hq1, hq2⟩ := hr9
 have h7 : OQ wm (wr.setCell ⟨wm.heap.size, up, none⟩ (.int .i64 (q - 1))) M (W9 t D K (F.take (m + 1))) := (HQX.out.set up (q - 1)).congr (fun j _ => by
   rw [take_snoc hx, W9_snoc, hq])
 have H7 := hid h7
 clear h7 hq hfsx hx
 go_wp2_with fail
 go_roundw
 case rel => exact ⟨m + 1, by go_num, by omega, H7.out, fun b hb => by rw [Below.heap_setCell _ _ _ _ hb]; exact HOTH.out b hb, by rw [size_setCell]; exact hsz⟩
 case measure => simp [intOf]; omega)
 · (
 have hmm : Fl = m := by omega
 subst hmm
 have hqe : OQ wm wr M (W8 t (D ++ [K])) := HQX.out.congr (fun j _ => by
   rw [HFL.out, List.take_length, HFF.out]
   exact W9_end HTR.out HSRT.out HD.out HK.out j)
 have howne := p0s HOWN11.out (w' := wr) (fun g hg => HOTH.out g (by have := (HOWN11.out.lt g hg).1; omega))
 have HQE := hid hqe; have HOE := hid howne
 have HLE : Hid (L ++ ML = ((D ++ [K]).flatMap fun k : Nat => memK C n (k : Int))) := hid (by
   rw [List.flatMap_append, HL.out, HML.out]; simp)
 clear hqe howne HQX HOTH
 go_wp2_with fail
 go_roundw
 case rel => exact ⟨D ++ [K], L ++ ML, HLE.out, .step HD.out HK.out, HQE.out, HOE.out⟩
 case measure => (
 have h1 := k1m C n (OrdL.step HD.out HK.out).nodup
 rw [<- HLE.out, List.length_append, <- HLL.out, <- HMLL.out] at h1
 simp
 omega))))))
 · (
 have hge : n <= (D.flatMap fun k : Nat => memK C n (k : Int)).length := by rw [<- HL.out, <- HLL.out]; omega
 have hlle : n = ll := by omega
 subst hlle
 have hall := q2r HON.out HD.out.nodup hge
 have hbelow : Below w.heap.size w wr := HBM.out.trans (HQ.out.bel.mono (by omega))
 have hownf : wr.ownsRow w.heap.size 3 1 (.slice oa n oc) n ((D.flatMap fun k : Nat => memK C n (k : Int)).flatMap encI) := by rw [<- HL.out]; exact j0o HOWN.out (by omega)
 have HALL := hid hall; have HBF := hid hbelow; have HOF := hid hownf
 clear hall hbelow hownf hge
 go_wp2_with fail
 go_ret2
 exact ⟨f, D, .slice oa n oc, HCYC.out, by rw [<- HC.out, <- HT.out, <- HM.out]; exact HD.out, by rw [<- HC.out, <- HM.out]; exact HALL.out, rfl, by rw [<- HC.out]; exact HOF.out, HBF.out⟩))))))
end Go.Proofs.YtjchdegapadepaaGreatDoor
namespace Go.Proofs.YtjchdegapadepaaGreatDoor
namespace Pl
theorem u0n {α : Type} [DecidableEq α] : ∀ (L M : List α), L.Nodup -> (∀ x ∈ L, x ∈ M) -> L.length <= M.length
  | [], M, _, _ => Nat.zero_le _
  | x :: L, M, hn, hs => by
    rw [List.nodup_cons] at hn
    have ih := u0n L (M.erase x) hn.2 (fun y hy => (List.mem_erase_of_ne (fun e : y = x => hn.1 (e ▸ hy))).2 (hs y (List.mem_cons_of_mem _ hy)))
    have h1 := List.length_erase_of_mem (hs x (by simp))
    have h2 := List.length_pos_of_mem (hs x (by simp))
    rw [List.length_cons]; omega
theorem v1n {L : List S} (h : Srt ltS L) : L.Nodup := List.Pairwise.imp (fun {a b} hab e => by subst e; rw [stoS.irrefl] at hab; cases hab) h
theorem SigOk.len {s : Lts} {C : Nat -> Int} {p : Nat} {L : List S} (h : SigOk s C p L) : L.length <= s.es.length := by
 have h1 := u0n L (s.es.map (fun e => (e.2.1, C e.2.2.toNat))) (v1n h.srt) (fun x hx => by (
 obtain ⟨l, e⟩ := x
 obtain ⟨q, t, _, h2, h3, _⟩ := ((h.mem l e).1 hx).way
 exact List.mem_map.2 ⟨((q : Int), l, (t : Int)), h2, by simp only [Int.toNat_natCast]; rw [h3]⟩))
 rwa [List.length_map] at h1
theorem SigOk.rng {s : Lts} (hr : s.Right) {n : Nat} (hn : s.st = (n : Int)) {C : Nat -> Int} {p : Nat} {L : List S} (h : SigOk s C p L) {x : S} (hx : x ∈ L) : 0 <= x.1 /\ x.1 < s.lb /\ ∃ t, t < n /\ x.2 = C t := by
 obtain ⟨l, e⟩ := x
 obtain ⟨q, t, _, h2, h3, _⟩ := ((h.mem l e).1 hx).way
 have h4 := p0r hr hn h2
 exact ⟨h4.2.2.1, h4.2.2.2, t, h4.2.1, h3.symm⟩
theorem outs_leB (s : Lts) (p : Int) : (s.outs p).length <= s.es.length := by
 unfold Lts.outs
 rw [List.length_map]; exact List.length_filter_le _ _
theorem z0j {C : Nat -> Int} {F : Nat -> List S} {p k : Nat} (hk : 1 <= k) (hF : ∀ t, (F t).length <= k) : ∀ L : List S, (L.flatMap (shareB C F p)).length <= L.length * k
  | [] => by simp
  | x :: L => by
    have ih := z0j (p := p) hk hF L (C := C)
    have h1 : (shareB C F p x).length <= k := by
      unfold shareB
      split
      · exact hF _
      · simpa using hk
    rw [List.flatMap_cons, List.length_append, List.length_cons, Nat.succ_mul]
    omega
theorem x0f (n : Nat) : canon (fl n (fun _ => 0)) = fl n (fun _ => 0) := by
 rw [j0u]
 unfold fl
 apply List.map_congr_left
 intro i hi
 have h1 := p0q (f := fun _ => (0 : Int)) (List.mem_range.1 hi)
 have h2 : (dist (fl n (fun _ => (0 : Int)))).length <= 1 := by (
 have := y0b (dist (fl n (fun _ => (0 : Int)))) [0] (p0h _) (fun x hx => by
   obtain ⟨p, _, h⟩ := k0n.1 hx
   simp [<- h])
 simpa using this)
 show clf n (fun _ => 0) i = 0
 omega
theorem q1e {s : Lts} {n : Nat} {C D : Nat -> Int} (hd : NextB s n C D) (h1 : canon (fl n C) = fl n C) (h2 : canon (fl n D) = fl n D) (hne : fl n D ≠ fl n C) : (dist (fl n C)).length < (dist (fl n D)).length := by
 have href : ∀ p q, p < n -> q < n -> D p = D q -> C p = C q := fun p q hp hq e => ((hd p q hp hq).1 e).1
 by_cases h : ∀ p q, p < n -> q < n -> C p = C q -> D p = D q
 · exact absurd (p0m h2 h1 (fun p q hp hq => ⟨href p q hp hq, h p q hp hq⟩)) hne
 · (
 have : ∃ a b, a < n /\ b < n /\ C a = C b /\ D a ≠ D b := by (
 apply Classical.byContradiction
 intro hno
 exact h (fun p q hp hq e => Classical.byContradiction (fun e2 => hno ⟨p, q, hp, hq, e, e2⟩)))
 obtain ⟨a, b, ha, hb, e1, e2⟩ := this
 exact y0n href ha hb e1 e2)
theorem u0v {n : Nat} {f g : Nat -> Int} (h : fl n f = fl n g) {p : Nat} (hp : p < n) : f p = g p := by
 have h1 := j0h f hp
 rw [h, j0h g hp] at h1
 exact (Option.some.inj h1).symm
theorem v1m {s : Lts} {n : Nat} {C D : Nat -> Int} (hd : NextB s n C D) (he : fl n D = fl n C) : Still s n C := fun p q hp hq e _ _ hs =>
  (((hd p q hp hq).1 (by rw [u0v he hp, u0v he hq]; exact e)).2 _ _).1 hs
/-! the numbers of texts -/
def codeT (T : List (List UInt8)) (z : List UInt8) : Int := (T.idxOf z : Int)
theorem x1a {T : List (List UInt8)} {y z : List UInt8} (hy : y ∈ T) (hz : z ∈ T) (h : codeT T y = codeT T z) : y = z := by
 unfold codeT at h
 have h1 := List.getElem_idxOf (List.idxOf_lt_length_of_mem hy)
 have h2 := List.getElem_idxOf (List.idxOf_lt_length_of_mem hz)
 rw [<- h1, <- h2]
 congr 1
 omega
def numT (T : List (List UInt8)) (D : List Int) (z : List UInt8) : Option Int := if z ∈ T /\ codeT T z ∈ D then some (D.idxOf (codeT T z) : Int) else none
theorem numT_nil (T : List (List UInt8)) (z : List UInt8) : numT T [] z = none := by unfold numT; simp
theorem p2r {T : List (List UInt8)} {D : List Int} {y : List UInt8} (hy : y ∈ T) (hD : codeT T y ∉ D) (z : List UInt8) : (if z = y then some (D.length : Int) else numT T D z) = numT T (D ++ [codeT T y]) z := by
 unfold numT
 by_cases e : z = y
 · subst e
   rw [if_pos rfl, if_pos ⟨hy, by simp⟩, List.idxOf_append]
   simp [hD]
 · (
 rw [if_neg e]
 by_cases hz : z ∈ T
 · (
 have hne : codeT T z ≠ codeT T y := fun h => e (x1a hz hy h)
 by_cases h : codeT T z ∈ D
 · rw [if_pos ⟨hz, h⟩, if_pos ⟨hz, by simp [h]⟩, List.idxOf_append]
   simp [h]
 · rw [if_neg (fun k => h k.2), if_neg]
   rintro ⟨_, k⟩
   rcases List.mem_append.1 k with k | k
   · exact h k
   · simp at k; exact hne k)
 · rw [if_neg (fun k => hz k.1), if_neg (fun k => hz k.1)])
def txtL (n : Nat) (C : Nat -> Int) (F : Nat -> List S) : List (List UInt8) := (List.range n).map (fun p => textB (C p) (F p))
theorem j1f {n : Nat} {C : Nat -> Int} {F : Nat -> List S} {p : Nat} (hp : p < n) : textB (C p) (F p) ∈ txtL n C F := List.mem_map.2 ⟨p, List.mem_range.2 hp, rfl⟩
def cdG (n : Nat) (C : Nat -> Int) (F : Nat -> List S) (p : Nat) : Int := codeT (txtL n C F) (textB (C p) (F p))
theorem cdG_eq {n : Nat} {C : Nat -> Int} {F : Nat -> List S} {p q : Nat} (hp : p < n) (hq : q < n) : cdG n C F p = cdG n C F q ↔ textB (C p) (F p) = textB (C q) (F q) :=
  ⟨x1a (j1f hp) (j1f hq), fun h => by unfold cdG; rw [h]⟩
end Pl
end Go.Proofs.YtjchdegapadepaaGreatDoor
namespace Go.Proofs.YtjchdegapadepaaGreatDoor
namespace Pl
theorem q0r {s : Lts} {p t : Nat} {l : Int} : stp s.norm p l t ↔ stp s p l t := by
 unfold stp
 show _ ∈ nf ltE s.es ↔ _
 rw [j0t p0p]
theorem k2m {s : Lts} {C : Nat -> Int} {p : Nat} {l c : Int} : Sg s.norm C p l c ↔ Sg s C p l c := by
 constructor
 · intro h
   induction h with
   | here h1 h2 => exact .here (q0r.1 h1) h2
   | on h1 h2 _ ih => exact .on (q0r.1 h1) h2 ih
 · intro h
   induction h with
   | here h1 h2 => exact .here (q0r.2 h1) h2
   | on h1 h2 _ ih => exact .on (q0r.2 h1) h2 ih
theorem p1h {s : Lts} {C : Nat -> Int} {p : Nat} {L : List S} (h : SigOk s.norm C p L) : SigOk s C p L :=
  ⟨h.srt, fun l e => by rw [h.mem, k2m]⟩
theorem x1e {n : Nat} {C : Nat -> Int} (h : canon (fl n C) = fl n C) {p : Nat} (hp : p < n) : 0 <= C p /\ C p < (n : Int) := by
 have h1 := p0q (f := C) hp
 have h2 : clf n C p = C p := u0v (by rw [<- j0u, h]) hp
 have h3 := y0g n C
 omega
theorem big_eq12 {s : Lts} {n : Nat} (hr : s.Right) (hn : s.st = (n : Int)) {C D : Nat -> Int} (h : BrBig s n C) (h' : BrBig s n D) (hC : canon (fl n C) = fl n C) (hD : canon (fl n D) = fl n D) : fl n C = fl n D := by
 have e := h.uniq hr hn h'
 rw [<- j0u, <- j0u, hC, hD] at e
 exact e
end Pl
end Go.Proofs.YtjchdegapadepaaGreatDoor
namespace Go.Proofs.YtjchdegapadepaaGreatDoor
open Go.RowKit Pl
theorem bad_any (l : ByteArray) (hl : l.size <= 1000) (k : Int) (w : World) : Calls Tryz.prog 38 #[.string l, .int .i64 k] w fun e w' => e = .returned (.agg #[.int .i64 k, .int .i64 0, .int .i64 0, .string (l ++ ⟨#[32]⟩)]) /\ Below w.heap.size w w' := by
 have hz2 : ¬ 9223372036854775807 < l.size + 1 := by omega
 go_enter Tryz.func38, Tryz.ntmps38
 go_wp2_with fail
 refine bodyPost_ret (v := .agg #[.int .i64 k, .int .i64 0, .int .i64 0, .string (l ++ ⟨#[32]⟩)]) (by simp [results, Tryz.results38, go_sem]) rfl ⟨rfl, (Below.refl _ _).alloc (Nat.le_refl _) _⟩
end Go.Proofs.YtjchdegapadepaaGreatDoor
namespace Go.Proofs.YtjchdegapadepaaGreatDoor
open Go.RowKit Pl
open Lib (hid)
theorem eq_upto' {α : Type} {xs ys : List α} (hl : xs.length = ys.length) (h : ∀ j, j < xs.length -> xs[j]? = ys[j]?) : xs = ys := by
 apply List.ext_getElem?
 intro j
 by_cases hj : j < xs.length
 · exact h j hj
 · rw [List.getElem?_eq_none (by omega), List.getElem?_eq_none (by omega)]
theorem j1h {a1 a2 : Option Addr} {b1 o1 c1 b2 o2 c2 : Nat} {xs ys : List E} {w : World} (h1 : SlAt encE 3 w a1 b1 o1 xs) (h2 : SlAt encE 3 w a2 b2 o2 ys) (hx : xs.length <= 1000000) (hy : ys.length <= 1000000) :
    Calls Tryz.prog 28 #[.slice a1 xs.length c1, .slice a2 ys.length c2] w fun e w' => e = .returned (.bool (decide (xs = ys))) /\ ∃ n, w' = w.drewN n := by
 by_cases hl : xs.length = ys.length
 · have hlB : ((xs.length : Int) != (ys.length : Int)) = false := by simp [hl]
   have HL := hid hl; clear hl
   go_enter Tryz.func28, Tryz.ntmps28
   go_wp2
   go_loopw [5] (fun i wr => ∃ k m : Nat, k <= xs.length /\ i = .int .i64 k /\ (∀ j, j < k -> xs[j]? = ys[j]?) /\ wr = w.drewN m)
     (fun i _ => xs.length - (intOf i).toNat)
   case atStart => exact ⟨0, 0, Nat.zero_le _, rfl, by intro j hj; omega, rfl⟩
   case round =>
     obtain ⟨k, m, hk, rfl, heq, rfl⟩ := hrel
     have HE := hid heq; clear heq
     by_cases hlt : k < xs.length
     · have hlt2 : k < ys.length := by rw [<- HL.out]; exact hlt
       obtain ⟨x, hxk⟩ := j0a hlt
       obtain ⟨y, hyk⟩ := j0a hlt2
       obtain rfl := h1.ad (by omega)
       obtain rfl := h2.ad (by omega)
       have c0 := h1.e0 hxk; have c1' := h1.e1 hxk; have c2' := h1.e2 hxk
       have d0 := h2.e0 hyk; have d1 := h2.e1 hyk; have d2 := h2.e2 hyk
       have hq := fun w => eqlE x y w
       have hgd := q2m
       have hi1 : (k : Int) < (xs.length : Int) := by omega
       have hi2 : (k : Int) < (ys.length : Int) := by omega
       have HX := hid hxk; have HY := hid hyk
       clear h1 h2 hxk hyk
       by_cases hxy : x = y
       · have hb : decide (x = y) = true := by simp [hxy]
         have HXY := hid hxy; clear hxy
         go_wp2_with fail
         go_quiet (fail)
         go_wp2
         go_roundw
         case rel => exact ⟨k + 1, _, by omega, by go_num, by
           intro j hj
           by_cases hjk : j = k
           · subst hjk; rw [HX.out, HY.out, HXY.out]
           · exact HE.out j (by omega), rfl⟩
         case measure => simp [intOf]; omega
       · have hb : decide (x = y) = false := by simp [hxy]
         have HXY := hid hxy; clear hxy
         go_wp2_with fail
         go_quiet (fail)
         go_wp2
         go_ret
         refine ⟨?_, _, World.drewN_drewN _ _ _⟩
         have : xs ≠ ys := fun e => HXY.out (by have h1 := HX.out; have h2 := HY.out; rw [e, h2] at h1; simpa using h1.symm)
         simp [this]
     · clear h1 h2
       have hkk : k = xs.length := by omega
       go_wp2
       go_ret
       refine ⟨?_, _, rfl⟩
       have : xs = ys := eq_upto' HL.out (by rw [<- hkk]; exact HE.out)
       simp [this]
 · have hlB : ((xs.length : Int) != (ys.length : Int)) = true := by simp; omega
   go_enter Tryz.func28, Tryz.ntmps28
   go_wp2
   go_ret
   have : xs ≠ ys := fun e => hl (by rw [e])
   exact ⟨by simp [this], 0, rfl⟩
theorem q0y (st lb s0 : Int) {a1 a2 : Option Addr} {b1 o1 c1 b2 o2 c2 : Nat} {xs : List E} {w : World} (h1 : SlAt encE 3 w a1 b1 o1 xs) (h2 : SlAt encE 3 w a2 b2 o2 xs) (hx : xs.length <= 1000000) :
    Calls Tryz.prog 13 #[.agg #[.int .i64 st, .int .i64 lb, .int .i64 s0, .slice a1 xs.length c1], .agg #[.int .i64 st, .int .i64 lb, .int .i64 s0, .slice a2 xs.length c2]] w fun e w' =>
      e = .returned (.bool true) /\ Below w.heap.size w w' := by
 have e1 : (st == st) = true := by simp
 have e2 : (lb == lb) = true := by simp
 have e3 : (s0 == s0) = true := by simp
 have H1 := hid h1; have H2 := hid h2
 clear h1 h2
 go_enter Tryz.func13, Tryz.ntmps13
 go_wp2_with fail
 have hB := ((Below.refl w.heap.size w).alloc (Nat.le_refl _) (Obj.cells #[.int .i64 st, .int .i64 lb, .int .i64 s0, .slice a1 xs.length c1] 24)).alloc (by simp) (Obj.cells #[.int .i64 st, .int .i64 lb, .int .i64 s0, .slice a2 xs.length c2] 24)
 have HB := hid hB
 clear hB
 refine (j1h (H1.out.below HB.out (Nat.le_refl _)) (H2.out.below HB.out (Nat.le_refl _)) hx hx).mono ?_
 rintro e w1 ⟨rfl, m, rfl⟩
 simp only [decide_true]
 go_wp2
 go_ret
 exact ⟨rfl, k0c HB.out⟩
end Go.Proofs.YtjchdegapadepaaGreatDoor
namespace Go.Proofs.YtjchdegapadepaaGreatDoor
open Go.RowKit Pl
theorem less_any (x y : E) (w : World) : Calls Tryz.prog 42 #[.agg #[.int .i64 x.1, .int .i64 x.2.1, .int .i64 x.2.2], .agg #[.int .i64 y.1, .int .i64 y.2.1, .int .i64 y.2.2]] w fun e w' =>
    e = .returned (.bool (ltE x y)) /\ Below w.heap.size w w' := by
 by_cases h1 : x.1 = y.1
 · have b1 : (x.1 != y.1) = false := by simp [h1]
   by_cases h2 : x.2.1 = y.2.1
   · have b2 : (x.2.1 != y.2.1) = false := by simp [h2]
     have hr : ltE x y = decide (x.2.2 < y.2.2) := by simp [ltE, h1, h2]
     rw [hr]
     clear h1 h2 hr
     go_enter Tryz.func42, Tryz.ntmps42
     go_wp2
     go_ret
     exact ⟨rfl, ((Below.refl _ _).alloc (Nat.le_refl _) _).alloc (by simp) _⟩
   · have b2 : (x.2.1 != y.2.1) = true := by simp [h2]
     have hr : ltE x y = decide (x.2.1 < y.2.1) := by simp [ltE, h1, h2]
     rw [hr]
     clear h1 h2 hr
     go_enter Tryz.func42, Tryz.ntmps42
     go_wp2
     go_ret
     exact ⟨rfl, ((Below.refl _ _).alloc (Nat.le_refl _) _).alloc (by simp) _⟩
 · have b1 : (x.1 != y.1) = true := by simp [h1]
   have hr : ltE x y = decide (x.1 < y.1) := by simp [ltE, h1]
   rw [hr]
   clear h1 hr
   go_enter Tryz.func42, Tryz.ntmps42
   go_wp2
   go_ret
   exact ⟨rfl, ((Below.refl _ _).alloc (Nat.le_refl _) _).alloc (by simp) _⟩
end Go.Proofs.YtjchdegapadepaaGreatDoor

/-
  Lemmas.
-/
import Derived.Test.YtjchdegapadepaaGreatDoorGCompactS
import Derived.Test.YtjchdegapadepaaGreatDoorGRefRight
import Derived.Test.YtjchdegapadepaaGreatDoorGFrs
import Derived.Test.YtjchdegapadepaaGreatDoorGTauJ
import Derived.Deep.QuietTactic
import Derived.BigQuiet
import Derived.Test.YtjchdegapadepaaGreatDoorShelf
import Derived.Test.YtjchdegapadepaaGreatDoorGKit
import Derived.Shelf.Strconv.AppendIntPublic10
import Derived.Lib.AppendIntMem
import Derived.Lib.ItoaLen
import Derived.Lib.Slices
import Derived.Laws.IdiomStrings
import Derived.Deep.RegionHeldLaw
import Derived.Deep.RegionHeld3
import Derived.Deep.Cut
import Derived.Deep.CutRange
import Derived.Test.YtjchdegapadepaaGreatDoorGCanon
import Derived.Test.YtjchdegapadepaaGreatDoorGPl3
import Derived.Test.YtjchdegapadepaaGreatDoorGMem
set_option maxHeartbeats 8000000
set_option maxRecDepth 100000
namespace Go.Proofs.YtjchdegapadepaaGreatDoor
open Go.RowKit Pl
open Lib (hid)
theorem q2i {w : World} {a : Option Addr} {b off c n : Nat} {C : Nat -> Int} (hC : SlAt encI 1 w a b off (fl n C)) {p t : Nat} (hp : p < n) (ht : t < n) (l : Int) :
    Calls Tryz.prog 107 #[.int .i64 (p : Int), .agg #[.int .i64 l, .int .i64 (t : Int)], .slice a n c] w fun e w' => e = .returned (.bool (decide (l = 0) && decide (C t = C p))) /\ Below w.heap.size w w' := by
 obtain rfl := hC.ad (by rw [j0g]; omega)
 have hcp := hC.ci (j0h C hp)
 have hct := hC.ci (j0h C ht)
 have hb := hC.lt (by rw [j0g]; omega)
 have hpI : (p : Int) < (n : Int) := by omega
 have htI : (t : Int) < (n : Int) := by omega
 obtain ⟨x, hx⟩ : ∃ x, x = C p := ⟨_, rfl⟩
 obtain ⟨y, hy⟩ : ∃ y, y = C t := ⟨_, rfl⟩
 rw [<- hx] at hcp ⊢; rw [<- hy] at hct ⊢
 clear hC hx hy
 have hB := (Below.refl w.heap.size w).alloc (Nat.le_refl _) (.cells #[.int .i64 l, .int .i64 (t : Int)] 80)
 have HB := hid hB; clear hB
 by_cases hl : l = 0
 · subst hl
   go_enter Tryz.func107, Tryz.ntmps107
   go_wp2_with fail
   go_region
   all_goals
     go_wp2_with fail
     go_ret
     exact ⟨by congr 1; simp [eq_comm, Bool.beq_eq_decide_eq], k0c HB.out⟩
 · have hd : (l == 0) = false := by simp [hl]
   go_enter Tryz.func107, Tryz.ntmps107
   go_wp2_with fail
   go_region
   all_goals
     go_wp2_with fail
     go_ret
     exact ⟨by simp [hl], k0c HB.out⟩
theorem oneES' (x : S) : ∀ u ∈ encS x, u.oneCell' = true := by
 intro u hu
 simp [encS] at hu
 rcases hu with rfl | rfl <;> rfl
theorem sig_any {w : World} {gb : Nat} {t : Lts} {m : Nat} (hg : GraphAt w gb t) (hr : t.Right) (hn : t.st = (m : Int)) (hs : Srt ltE t.es) {C : Nat -> Int} {D : List Nat} (hD : OrdL t m D) (hDl : D.length = m) (hall : ∀ k, k < m -> k ∈ D) (he : t.es.length <= 900)
    {ca oa : Option Addr} {cb co cc ob oo oc : Nat} (hC : SlAt encI 1 w ca cb co (fl m C)) (hO : SlAt encI 1 w oa ob oo (D.map Int.ofNat)) :
    Calls Tryz.prog 75 #[.pointer (some ⟨gb, 0, none⟩), .slice ca m cc, .slice oa m oc] w fun e w' => ∃ (tb base : Nat) (F : Nat -> List S), e = .returned (.slice (some ⟨tb, 0, none⟩) m m) /\ OwnRows encS 2 80 60 w' base tb m F /\ w.heap.size <= tb /\ base <= w'.heap.size /\ Below w.heap.size w w' /\ ∀ p, p < m -> SigOk t C p (F p) := by
 have hm1 : m <= 1000 := by have := hr.st0; omega
 have hmk := run_make_row' (P := Tryz.prog) 57 60 (.slice none 0 0) 24 Tryz.underlying57 (by kernel_rfl) rfl .i64 .i64 m (by omega) (by omega)
 have hgs := j0m hg
 rw [hn] at hgs
 have HG := hid hg; have HR := hid hr; have HN := hid hn; have HSR := hid hs; have HD := hid hD; have HDL := hid hDl; have HALL := hid hall; have HE := hid he; have HC := hid hC; have HO := hid hO; have HGS := hid hgs
 clear hg hr hn hs hD hDl hall he hC hO hgs
 go_enter Tryz.func75, Tryz.ntmps75
 go_wp2_with fail
 refine HGS.out.mono ?_
 rintro e w1 ⟨rfl, hB1⟩
 have hrw := OwnRows.made (enc := encS) (k := 2) (e := 80) (T := 60) (w := w1) (n := m)
 have hb1 := (hB1.alloc hB1.size (.cells (madeCells #[.slice none 0 0] m) 60))
 have HRW := hid hrw; have HB1 := hid hb1
 have hTB : w.heap.size <= w1.heap.size := hB1.size
 clear hrw hb1 hB1 HGS
 go_wp2_with fail
 obtain ⟨tb, htb⟩ : ∃ tb, tb = w1.heap.size := ⟨_, rfl⟩
 obtain ⟨base, hbase⟩ : ∃ base, base = w1.heap.size + 1 := ⟨_, rfl⟩
 have hbs0 : (w1.alloc (.cells (madeCells #[.slice none 0 0] m) 60)).heap.size = base := by rw [hbase]; simp
 rw [<- hbase] at HRW
 rw [<- htb] at HRW hTB ⊢
 have hbt : tb < base := by omega
 have hbsz : base <= (w1.alloc (.cells (madeCells #[.slice none 0 0] m) 60)).heap.size := by omega
 have HBSZ := hid hbsz
 clear htb hbase hbs0 hbsz
 go_loopw [9, 10, 12, 18] (fun _ _ _ v18 wr => ∃ (i : Nat) (F : Nat -> List S), v18 = .int .i64 i /\ i <= m /\ OwnRows encS 2 80 60 wr base tb m F /\ base <= wr.heap.size /\ Below w.heap.size w wr /\ (∀ p, p ∈ D.take i -> SigOk t C p (F p)) /\ (∀ p, p ∉ D.take i -> F p = [])) (fun _ _ _ v18 _ => m - (intOf v18).toNat)
 case atStart => exact ⟨0, fun _ => [], rfl, Nat.zero_le _, HRW.out, HBSZ.out, HB1.out, by simp, fun _ _ => rfl⟩
 case round => (
 obtain ⟨i, F, rfl, hi, hrw, hbs, hB, hF, hF0⟩ := hrel
 have HRX := hid hrw; have HB := hid hB; have HF := hid hF; have HF0 := hid hF0
 have hws := hB.size
 clear hrw hB hF hF0 HRW HB1 HBSZ
 by_cases him : i < m
 · (
 obtain ⟨p, hp⟩ := j0a (xs := D) (i := i) (by have := HDL.out; omega)
 have hpm := HD.out.rng p (List.mem_of_getElem? hp)
 have hos := HO.out.below HB.out (Nat.le_refl _)
 have hpI : (D.map Int.ofNat)[i]? = some (p : Int) := by rw [List.getElem?_map, hp]; rfl
 obtain rfl := hos.ad (by rw [List.length_map]; have := HDL.out; omega)
 have d0 := hos.ci hpI
 have dl := hos.lt (by rw [List.length_map]; have := HDL.out; omega)
 have hiI : (i : Int) < (m : Int) := by omega
 have HEA := hid (x0o HG.out HB.out (p : Int))
 have HAH : Hid (∀ x, tau t p x -> SigOk t C x (F x)) := hid (fun x hx => HF.out x (HD.out.ahead HR.out HSR.out _ _ _ hp hx))
 have HP := hid hp
 clear hos hpI hp
 go_wp2_with fail
 refine HEA.out.mono ?_
 rintro e wb ⟨⟨a2, c2, b2, off2, rfl, hc2, hm2, hss⟩, hBb⟩
 have HSS := hid hss
 have HRB := hid (HRX.out.call hBb)
 have hBB : Below w.heap.size w wb := HB.out.trans (hBb.mono hws)
 have HBB := hid hBB
 have hbs2 : base <= wb.heap.size := by have := hBb.size; omega
 have hws2 := hBB.size
 obtain ⟨ol, hole⟩ : ∃ ol, ol = (t.outs (p : Int)).length := ⟨_, rfl⟩
 have hole2 : ol <= 900 := by have := HE.out; have := outs_leB t (p : Int); omega
 rw [<- hole]
 have HOL := hid hole
 clear hss hBb hc2 hm2 hBB HEA HRX HB hole d0 dl hws hbs
 go_wp2_with fail
 go_loopw [10, 12, 26] (fun v10 _ v26 wx => ∃ (r ll : Nat), v26 = .int .i64 r /\ r <= ol /\ ll = (((t.outs (p : Int)).take r).flatMap (shareB C F p)).length /\ wx.ownsRow wb.heap.size 80 2 v10 ll ((((t.outs (p : Int)).take r).flatMap (shareB C F p)).flatMap encS) /\ Below wb.heap.size wb wx) (fun _ _ v26 _ => ol - (intOf v26).toNat)
 case atStart => exact ⟨0, 0, rfl, Nat.zero_le _, rfl, World.ownsRow_nil _ _ _ _, Below.refl _ _⟩
 case round => (
 obtain ⟨r, ll, rfl, hr, hll, hown, hBx⟩ := hrel
 have HOW := hid hown; have HBX := hid hBx; have HLL := hid hll
 have hwx := hBx.size
 clear hown hBx hll
 by_cases hro : r < ol
 · (
 obtain ⟨y, hy⟩ := j0a (xs := t.outs (p : Int)) (i := r) (by rw [<- HOL.out]; exact hro)
 have hss := HSS.out.below (HBB.out.trans (HBX.out.mono hws2)) (Nat.le_refl _)
 obtain rfl := hss.ad (by rw [<- HOL.out]; omega)
 have d0 := hss.s0 hy; have d1 := hss.s1 hy
 have dl := hss.lt (by rw [<- HOL.out]; omega)
 have hyr := j0e.1 (HR.out.edges _ (j0j.1 (List.mem_of_getElem? hy)))
 have HSN : Hid (((t.outs (p : Int)).take (r + 1)).flatMap (shareB C F p) = ((t.outs (p : Int)).take r).flatMap (shareB C F p) ++ shareB C F p y) := hid (by rw [take_snoc hy, List.flatMap_append]; simp)
 obtain ⟨y1, y2⟩ := y
 simp only at hyr d0 d1
 obtain ⟨q, rfl⟩ := Int.eq_ofNat_of_zero_le hyr.2.2.2.2.1
 have hqm : q < m := by have := HN.out; omega
 have hrI : (r : Int) < (ol : Int) := by omega
 have hqI : (q : Int) < (m : Int) := by omega
 have hbw : Below wb.heap.size wb (wr.alloc (.cells #[.int .i64 y1, .int .i64 (q : Int)] 80)) := HBX.out.alloc hwx _
 have HIN := hid (q2i (c := cc) (HC.out.below (HBB.out.trans (hbw.mono hws2)) (Nat.le_refl _)) hpm hqm y1)
 have hx0 := heap_alloc_new wr (.cells #[.int .i64 y1, .int .i64 (q : Int)] 80)
 have HX0 := hid hx0; have HBW := hid hbw
 have hlm : ll <= 900 * 900 := by (
 rw [HLL.out]
 refine Nat.le_trans (z0j (k := 900) (by omega) (fun x => ?_) _) (Nat.mul_le_mul_right _ (by rw [List.length_take]; omega))
 by_cases hx : x ∈ D.take i
 · have h1 := (HF.out x hx).len; have h2 := HE.out; omega
 · rw [HF0.out x hx]; simp)
 clear hss hy hyr hbw hx0
 go_upto_region 9 with fail
 go_wp2_with fail
 refine HIN.out.mono ?_
 rintro e V ⟨rfl, hBV⟩
 have hxv := (hBV.block wr.heap.size (by simp)).trans HX0.out
 have f0 : V.cell? ⟨wr.heap.size, 0, none⟩ = some (.int .i64 y1) := by simp [World.cell?, hxv]
 have f1 : V.cell? ⟨wr.heap.size, 1, none⟩ = some (.int .i64 (q : Int)) := by simp [World.cell?, hxv]
 have fl0 := (Array.getElem?_eq_some_iff.1 hxv).1
 have hbv := HBW.out.trans (hBV.mono (by simp; omega))
 have hwv := hbv.size
 have hov : V.ownsRow wb.heap.size 80 2 u10 ll ((((t.outs (p : Int)).take r).flatMap (shareB C F p)).flatMap encS) := own_below (HOW.out.alloc _) hBV
 have HBV := hid hbv; have HOV := hid hov
 clear hxv hBV hbv hov HIN HX0 HBW d0 d1 dl
 by_cases hin : y1 = 0 /\ C q = C p
 · (
 obtain ⟨rfl, hcq⟩ := hin
 have hbt1 : (decide ((0 : Int) = 0) && decide (C q = C p)) = true := by simp [hcq]
 have HSH : Hid (shareB C F p (0, (q : Int)) = F q) := hid (by unfold shareB; simp [hcq])
 rw [hbt1]
 obtain ⟨vq, hvq, hvf, hvo⟩ := (HRB.out.call HBV.out).at hqm
 obtain ⟨va, vc, vb, rfl, _, _, hsl, _⟩ := j0f k1c hvo
 have htl := (HRB.out.call HBV.out).size
 have hFl : (F q).length <= 900 := by (
 by_cases hx : q ∈ D.take i
 · have h1 := (HF.out q hx).len; have h2 := HE.out; omega
 · rw [HF0.out q hx]; simp)
 have HSL := hid hsl
 obtain ⟨fq, hfq⟩ : ∃ fq, fq = (F q).length := ⟨_, rfl⟩
 rw [<- hfq] at hvq hFl
 have HFQ := hid hfq
 clear hbt1 hcq hvf hvo hsl hfq
 go_wp2_with (at_builtin; refine x1j rfl _ _ _ rfl rowS (base := wb.heap.size) hwv rfl HOV.out k1c oneES' HSL.out (by rw [<- HFQ.out]; rfl) (by rw [<- HFQ.out]; omega) (by rw [<- HFQ.out]; unfold maxLen; omega) ?_; intro v3 w3 hown3 hg3; have hb3 := HBV.out.grown hg3 hwv (fun k hk => (HOV.out.lt k hk).1); have HO3 := hid hown3; have HB3 := hid hb3; clear hown3 hg3 hb3)
 go_roundw
 case rel => exact ⟨r + 1, ll + (F q).length, by go_num, by omega, by rw [HSN.out, List.length_append, HSH.out, <- HLL.out], by rw [HSN.out, HSH.out, List.flatMap_append]; exact HO3.out, HB3.out⟩
 case measure => simp [intOf]; omega)
 · (
 have hbt1 : (decide (y1 = 0) && decide (C q = C p)) = false := by (
 by_cases h1 : y1 = 0
 · by_cases h2 : C q = C p
   · exact absurd ⟨h1, h2⟩ hin
   · simp [h2]
 · simp [h1])
 have HSH : Hid (shareB C F p (y1, (q : Int)) = [(y1, C q)]) := hid (by unfold shareB; simp only [Int.toNat_natCast]; rw [if_neg hin])
 rw [hbt1]
 have hcs := HC.out.below (HBB.out.trans (HBV.out.mono hws2)) (Nat.le_refl _)
 obtain rfl := hcs.ad (by rw [j0g]; omega)
 have cq := hcs.ci (j0h C hqm)
 have cl := hcs.lt (by rw [j0g]; omega)
 obtain ⟨cv, hcv⟩ : ∃ cv, cv = C q := ⟨_, rfl⟩
 rw [<- hcv] at cq HSH
 clear hbt1 hin hcs hcv
 go_wp2_with fail
 go_region_law (first
   | (refine q0f rfl _ _ _ rfl rowS rfl (World.ownsRow.drew (HOV.out.alloc _)) ⟨V.heap.size, 0, none⟩ 1 1 [.int .i64 y1, .int .i64 cv] rfl rfl (cells2 (by simp [go_sem]) (by simp [go_sem])) (by simp [Value.oneCell']) (by decide) (by omega) (by unfold maxLen; omega) (by simp; omega) ?_; intro g cap w3 hown3 hg3))
 all_goals (
 have hb3 := (k0c (n := 1) (HBV.out.alloc hwv (.cells #[.int .i64 y1, .int .i64 cv] 80))).grown hg3 (by simp [World.drewN]; omega) (fun k hk => (HOV.out.lt k hk).1)
 have HO3 := hid hown3; have HB3 := hid hb3
 clear hown3 hg3 hb3 cq cl f0 f1 fl0
 go_wp2_with fail
 go_roundw
 case rel => exact ⟨r + 1, ll + 1, by go_num, by omega, by rw [HSN.out, List.length_append, HSH.out, <- HLL.out]; rfl, by rw [HSN.out, HSH.out, List.flatMap_append]; exact HO3.out, HB3.out⟩
 case measure => simp [intOf]; omega)))
 · (
 obtain rfl : r = ol := by omega
 have e1 : (t.outs (p : Int)).take r = t.outs (p : Int) := by rw [List.take_of_length_le]; have := HOL.out; omega
 have hown := HOW.out
 rw [e1] at hown
 obtain ⟨L, hL⟩ : ∃ L, L = (t.outs (p : Int)).flatMap (shareB C F p) := ⟨_, rfl⟩
 have hll : ll = L.length := by rw [HLL.out, e1, hL]
 have hlm : ll <= 900 * 900 := by (
 rw [HLL.out]
 refine Nat.le_trans (z0j (k := 900) (by omega) (fun x => ?_) _) (Nat.mul_le_mul_right _ (by rw [List.length_take]; omega))
 by_cases hx : x ∈ D.take i
 · have h1 := (HF.out x hx).len; have h2 := HE.out; omega
 · rw [HF0.out x hx]; simp)
 rw [<- hL, hll] at hown
 have HST := hid (x1m hown (by omega))
 have HLE := hid hL
 clear e1 hown hL hll HOW HLL
 go_wp2_with fail
 refine HST.out.mono ?_
 rintro e w4 ⟨v4, rfl, hown4, hB4⟩
 obtain ⟨va4, vc4, vb4, rfl, _, _, _, _⟩ := j0f k1c hown4
 have hb4 : Below wb.heap.size wb w4 := hB4 HBX.out
 have hput := HRB.out.put (p := p) hb4 hbs2 hown4
 have hbw4 := (HBB.out.trans (hb4.mono hws2)).setCell (p := ⟨tb, p, none⟩) hTB (.slice va4 (nf ltS L).length vc4)
 have hbs4 : base <= (w4.setCell ⟨tb, p, none⟩ (.slice va4 (nf ltS L).length vc4)).heap.size := by rw [size_setCell]; have := hb4.size; omega
 obtain ⟨vp, tc, tf, _⟩ := (HRB.out.call hb4).at hpm
 have tl := (HRB.out.call hb4).size
 have HPUT := hid hput; have HBW4 := hid hbw4
 have HSG : Hid (SigOk t C p (nf ltS L)) := hid (by rw [HLE.out]; exact sig_step HR.out HAH.out)
 have hpI2 : (p : Int) < (m : Int) := by omega
 clear hown4 hB4 hb4 hput hbw4 HST HBX
 go_wp2_with fail
 go_roundw
 case rel => exact ⟨i + 1, fun x => if x = p then nf ltS L else F x, by go_num, by omega, HPUT.out, hbs4, HBW4.out, fun x hx => by
   by_cases e : x = p
   · subst e; simp only [if_true]; exact HSG.out
   · simp only [if_neg e]; rw [take_snoc HP.out] at hx; simp [e] at hx; exact HF.out x hx, fun x hx => by
   rw [take_snoc HP.out] at hx; simp at hx; simp only [if_neg hx.2]; exact HF0.out x hx.1⟩
 case measure => simp [intOf]; omega)))
 · (
 obtain rfl : i = m := by omega
 go_wp2_with fail
 go_ret
 refine ⟨tb, base, F, rfl, HRX.out, hTB, hbs, HB.out, fun p hp => HF.out p ?_⟩
 rw [List.take_of_length_le (by have := HDL.out; omega)]
 exact HALL.out p hp))
end Go.Proofs.YtjchdegapadepaaGreatDoor
namespace Go.Proofs.YtjchdegapadepaaGreatDoor
open Go.RowKit Go.Shelf
theorem rowU8 : IsRow Tryz.prog 156 5 1 1 (.int .u8 0) := p0f Tryz.underlying156 (by kernel_rfl) rfl (by decide)
def okIB (x : Int) : Prop := -9223372036854775808 <= x /\ x <= 9223372036854775807
theorem y0j (B n : Nat) {i : Int} (hi : okIB i) (sv : Value) (xs : List Value) (w : World) (hown : w.ownsRow B 5 1 sv n xs) (hBw : B <= w.heap.size) (hlim : n <= 100000000)
    (htab : Lib.TabBelow Tryz.prog B w "internal/strconv.uint64pow10" .u64 Lib.pow10Tab) :
    Calls Tryz.prog 109 #[sv, .int .i64 i, .int .i64 10] w fun e w' => ∃ v', e = .returned v' /\ w'.ownsRow B 5 1 v' (n + (Lib.itoa i).length) (xs ++ Lib.byteCells (Lib.itoa i)) /\ Below B w w' /\ Lib.OthersKept 5 none w w' := by
 have h := Any.strconv_AppendInt_10 Tryz.appI B n i hi.1 hi.2 sv xs w hown hBw (by omega) htab
 change Calls Tryz.prog 109 _ _ _ at h
 refine h.mono ?_
 rintro e w' ⟨v', rfl, h1, h2, h3⟩
 exact ⟨v', rfl, h1, h2, h3⟩
end Go.Proofs.YtjchdegapadepaaGreatDoor
namespace Go.Proofs.YtjchdegapadepaaGreatDoor
open Go.RowKit Pl
open Lib (hid)
theorem v1k {L : List S} {k : Nat} {y : S} (cl : Int) (h : L[k]? = some y) : textB cl (L.take (k + 1)) = textB cl (L.take k) ++ (32 :: (Lib.itoa y.1 ++ 32 :: Lib.itoa y.2)) := by
 unfold textB
 rw [take_snoc h, List.flatMap_append]
 simp [Pl.stepT]
theorem j2v (cl : Int) (L : List S) : 0 < (textB cl L).length := by
 unfold textB Lib.itoa
 rw [List.length_append]
 split
 · simp; omega
 · have := List.length_pos_iff.2 (q2y cl.toNat); omega
theorem x0r (a b : List UInt8) : Lib.byteCells (a ++ b) = Lib.byteCells a ++ Lib.byteCells b := by simp [Lib.byteCells]
theorem box_kept {w w' : World} {nb : Nat} {c : Array Value} (h : Lib.OthersKept 5 none w w') (hb : w.heap[nb]? = some (.cells c 80 (0, 0))) : w'.heap[nb]? = some (.cells c 80 (0, 0)) :=
  h nb _ hb (by simp) (fun c2 fz e => by injection e with _ e2 _; exact absurd e2 (by decide))
theorem _root_.Go.World.ownsRow.congrL {w : World} {base : Nat} {e : TypeId} {k n : Nat} {v : Value} {xs ys : List Value} (h : w.ownsRow base e k v n xs) (e2 : xs = ys) : w.ownsRow base e k v n ys := e2 ▸ h
theorem text_any {w : World} {cl : Int} (hcl : okIB cl) {a : Option Addr} {b off c n : Nat} {L : List S} (hS : SlAt encS 2 w a b off L) (hn : L.length = n) (hn1 : n <= 100000) (hL : ∀ x ∈ L, okIB x.1 /\ okIB x.2)
    (htab : Lib.TabIs Tryz.prog w "internal/strconv.uint64pow10" .u64 Lib.pow10Tab) :
    Calls Tryz.prog 76 #[.int .i64 cl, .slice a n c] w fun e w' => e = .returned (.string ⟨(textB cl L).toArray⟩) /\ Below w.heap.size w w' := by
 have HT := hid (Lib.tabBelow_of_tabIs htab)
 have HS := hid hS; have HN := hid hn; have HL := hid hL
 have HA0 := hid (y0j w.heap.size 0 hcl (.slice none 0 0) [] w (World.ownsRow_nil _ _ _ _) (Nat.le_refl _) (Nat.zero_le _) HT.out)
 clear htab hS hn hL
 go_enter Tryz.func76, Tryz.ntmps76
 go_wp2_with fail
 refine HA0.out.mono ?_
 rintro e w1 ⟨v1, rfl, hown1, hB1, _⟩
 have hown1' : w1.ownsRow w.heap.size 5 1 v1 (textB cl (L.take 0)).length (Lib.byteCells (textB cl (L.take 0))) := by (
 have e : textB cl (L.take 0) = Lib.itoa cl := by unfold textB; simp
 rw [e]
 simpa using hown1)
 have HO1 := hid hown1'; have HB1 := hid hB1
 clear hown1 hown1' hB1 HA0
 go_wp2_with fail
 go_loopw [5, 7, 12] (fun v5 _ v12 wr => ∃ (k nn : Nat), v12 = .int .i64 k /\ k <= n /\ nn = (textB cl (L.take k)).length /\ nn <= 30 + 50 * k /\ wr.ownsRow w.heap.size 5 1 v5 nn (Lib.byteCells (textB cl (L.take k))) /\ Below w.heap.size w wr) (fun _ _ v12 _ => n - (intOf v12).toNat)
 case atStart => (
 have e : textB cl (L.take 0) = Lib.itoa cl := by unfold textB; simp
 have h20 := Lib.itoa_length_le cl hcl.1 hcl.2
 rw [<- e] at h20
 exact ⟨0, (textB cl (L.take 0)).length, rfl, Nat.zero_le _, rfl, by omega, HO1.out, HB1.out⟩)
 case round => (
 obtain ⟨k, nn, rfl, hk, hnn, hnl, hown, hB⟩ := hrel
 have HOW := hid hown; have HB := hid hB; have HNN := hid hnn
 have hws := hB.size
 clear hown hB hnn HO1 HB1
 by_cases hkn : k < n
 · (
 obtain ⟨y, hy⟩ := j0a (xs := L) (i := k) (by have := HN.out; omega)
 have hs := HS.out.below HB.out (Nat.le_refl _)
 obtain rfl := hs.ad (by have := HN.out; omega)
 have d0 := hs.s0 hy; have d1 := hs.s1 hy
 have dl := hs.lt (by have := HN.out; omega)
 have HY := hid hy
 have hok := HL.out y (List.mem_of_getElem? hy)
 obtain ⟨y1, y2⟩ := y
 simp only at d0 d1 hok
 have hkI : (k : Int) < (n : Int) := by omega
 clear hs hy
 have hbw : Below w.heap.size w (wr.alloc (.cells #[.int .i64 y1, .int .i64 y2] 80)) := HB.out.alloc hws _
 have HX := hid (heap_alloc_new wr (.cells #[.int .i64 y1, .int .i64 y2] 80))
 have HBW := hid hbw
 have HOW1 := hid (HOW.out.alloc (.cells #[.int .i64 y1, .int .i64 y2] 80))
 have hnb : ∀ g, u5.ownBlock = some g -> g ≠ wr.heap.size := fun g hg => by have := (HOW.out.lt g hg).2; omega
 have HNB := hid hnb
 have hszU : (wr.alloc (.cells #[.int .i64 y1, .int .i64 y2] 80)).heap.size = wr.heap.size + 1 := by simp
 have HSZ := hid hszU
 have hl1 := Lib.itoa_length_le y1 hok.1.1 hok.1.2
 have hl2 := Lib.itoa_length_le y2 hok.2.1 hok.2.2
 have HOK1 := hid hok.1; have HOK2 := hid hok.2
 clear hbw hnb hszU hok
 go_upto_region 5 with fail
 obtain ⟨U, hU⟩ : ∃ U, U = wr.alloc (.cells #[.int .i64 y1, .int .i64 y2] 80) := ⟨_, rfl⟩
 rw [<- hU] at HX HBW HOW1 HSZ ⊢
 obtain ⟨nb, hnb⟩ : ∃ nb, nb = wr.heap.size := ⟨_, rfl⟩
 rw [<- hnb] at HX HNB HSZ ⊢
 have hu0 : w.heap.size <= nb := by omega
 clear hU hnb d0 d1 dl HB HOW
 have g0 : U.cell? ⟨nb, 0, none⟩ = some (.int .i64 y1) := by simp [World.cell?, HX.out]
 have g1 : U.cell? ⟨nb, 1, none⟩ = some (.int .i64 y2) := by simp [World.cell?, HX.out]
 have gl : nb < U.heap.size := by have := HSZ.out; omega
 have hU1 : w.heap.size <= U.heap.size := by omega
 go_cut [5] from 13 to 28 (fun s5 wx => wx.ownsRow w.heap.size 5 1 s5 (nn + 1 + (Lib.itoa y1).length) (Lib.byteCells (textB cl (L.take k) ++ (32 :: Lib.itoa y1))) /\ Below w.heap.size w wx /\ wx.heap[nb]? = some (.cells #[.int .i64 y1, .int .i64 y2] 80 (0, 0)))
 case first => (
 go_region_law (first
   | (refine q0f rfl _ _ _ rfl rowU8 rfl (World.ownsRow.drew (HOW1.out.alloc _)) ⟨U.heap.size, 0, none⟩ 1 1 [.int .u8 32] rfl rfl (k0i (by simp [go_sem])) (by simp [Value.oneCell']) (by decide) (by omega) (by unfold maxLen; omega) (by simp; omega) ?_; intro g3 cap3 w3 hown3 hg3; have hx3 := (hg3.block nb (by simp; omega) (fun e => HNB.out nb e.symm rfl)).trans ((Below.heap_alloc U (.cells #[.int .u8 32] 5) nb gl).trans HX.out); have k0 : w3.cell? ⟨nb, 0, none⟩ = some (.int .i64 y1) := by { simp [World.cell?, hx3] }; have kl := (Array.getElem?_eq_some_iff.1 hx3).1)
   | (go_simp; go_at_call 109; refine (y0j w.heap.size (nn + 1) HOK1.out _ _ w3 hown3 (by have h := ((k0c (n := 1) (HBW.out.alloc hU1 (.cells #[.int .u8 32] 5))).grown hg3 (by simp [World.drewN]; omega) (fun k hk => (HOW1.out.lt k hk).1)).size; omega) (by omega) (HT.out.on ((k0c (n := 1) (HBW.out.alloc hU1 (.cells #[.int .u8 32] 5))).grown hg3 (by simp [World.drewN]; omega) (fun k hk => (HOW1.out.lt k hk).1)))).mono ?_; rintro e w4 ⟨v4, rfl, hown4, hB4, hk4⟩))
 all_goals
   go_wp2_with fail
   go_meet
 all_goals
   have hb3 := (k0c (n := 1) (HBW.out.alloc hU1 (.cells #[.int .u8 32] 5))).grown hg3 (by simp [World.drewN]; omega) (fun k hk => (HOW1.out.lt k hk).1)
   exact ⟨by rw [x0r, show (32 :: Lib.itoa y1) = [32] ++ Lib.itoa y1 from rfl, x0r, <- List.append_assoc]; exact hown4, hb3.trans hB4, box_kept hk4 hx3⟩)
 case rest => (
 obtain ⟨hown4, hb4, hx4⟩ := hcut
 have hnc : ∀ g, u5.ownBlock = some g -> g ≠ nb := fun g hg e => by (
 rcases hown4.2 with ⟨h5, _⟩ | ⟨g2, cap, cur, h5, _, hgg, _⟩
 · rw [h5] at hg; cases hg
 · (
 rw [h5] at hg
 simp only [Value.ownBlock, Option.some.injEq] at hg
 rw [hg, e, hx4] at hgg
 have := Option.some.inj hgg
 injection this with _ e2 _
 exact absurd e2 (by decide)))
 obtain ⟨n1, hn1e⟩ : ∃ n1, n1 = nn + 1 + (Lib.itoa y1).length := ⟨_, rfl⟩
 rw [<- hn1e] at hown4
 have HN1 := hid hn1e
 have hn1l : n1 <= nn + 22 := by omega
 have HOC := hid hown4; have HNC := hid hnc; have HBC := hid hb4; have HXC := hid hx4
 have hC1 := hb4.size
 have glc := (Array.getElem?_eq_some_iff.1 hx4).1
 have HTS := hid (v1k cl HY.out)
 have g1 : wc.cell? ⟨nb, 1, none⟩ = some (.int .i64 y2) := by simp [World.cell?, hx4]
 clear hown4 hnc hb4 hx4 hn1e HX HBW HOW1 HSZ HNB gl hU1
 go_wp2_with fail
 go_region_law (first
   | (refine q0f rfl _ _ _ rfl rowU8 rfl (World.ownsRow.drew (HOC.out.alloc _)) ⟨wc.heap.size, 0, none⟩ 1 1 [.int .u8 32] rfl rfl (k0i (by simp [go_sem])) (by simp [Value.oneCell']) (by decide) (by omega) (by unfold maxLen; omega) (by simp; omega) ?_; intro g3 cap3 w3 hown3 hg3; have hx3 := (hg3.block nb (by simp; omega) (fun e => HNC.out nb e.symm rfl)).trans ((Below.heap_alloc wc (.cells #[.int .u8 32] 5) nb glc).trans HXC.out); have k0 : w3.cell? ⟨nb, 1, none⟩ = some (.int .i64 y2) := by { simp [World.cell?, hx3] }; have kl := (Array.getElem?_eq_some_iff.1 hx3).1)
   | (go_simp; go_at_call 109; refine (y0j w.heap.size (n1 + 1) HOK2.out _ _ w3 hown3 (by have h := ((k0c (n := 1) (HBC.out.alloc hC1 (.cells #[.int .u8 32] 5))).grown hg3 (by simp [World.drewN]; omega) (fun k hk => (HOC.out.lt k hk).1)).size; omega) (by omega) (HT.out.on ((k0c (n := 1) (HBC.out.alloc hC1 (.cells #[.int .u8 32] 5))).grown hg3 (by simp [World.drewN]; omega) (fun k hk => (HOC.out.lt k hk).1)))).mono ?_; rintro e w4 ⟨v5, rfl, hown5, hB5, hk5⟩))
 all_goals (
 have hb5 := ((k0c (n := 1) (HBC.out.alloc hC1 (.cells #[.int .u8 32] 5))).grown hg3 (by simp [World.drewN]; omega) (fun k hk => (HOC.out.lt k hk).1)).trans hB5
 have HO5 := hid hown5; have HB5 := hid hb5
 clear hown5 hb5 hB5 hk5 hown3 hg3 hx3 k0 kl HXC HOC HBC g1
 go_wp2_with fail
 go_roundw
 case rel => exact ⟨k + 1, n1 + 1 + (Lib.itoa y2).length, by go_num, by omega, by rw [HTS.out, HN1.out, HNN.out]; simp; omega, by have := HN1.out; omega, by rw [HTS.out]; refine HO5.out.congrL ?_; simp [Lib.byteCells], HB5.out⟩
 case measure => simp [intOf]; omega)))
 · (
 obtain rfl : k = n := by omega
 have e0 : L.take k = L := List.take_of_length_le (by have := HN.out; omega)
 have hown := HOW.out
 rw [HNN.out, e0] at hown
 obtain ⟨l, hl⟩ : ∃ l, l = textB cl L := ⟨_, rfl⟩
 rw [<- hl] at hown
 have HLB := hid hl
 have hown0 := hid hown
 clear hl hown HOW
 rcases hown0.out.2 with ⟨hv0, hn0⟩ | ⟨g, cap, cur, rfl, _⟩
 · have h1 := j2v cl L
   rw [<- HLB.out] at h1
   omega
 · have hcv := run_convert_bytes_back (P := Tryz.prog) wr 156 9 5 ⟨g, 0, none⟩ cap l Tryz.underlying156 Tryz.underlying5 Tryz.underlying9 (fun j hj => hown0.out.cells (g := g) rfl j _ (by simp [Lib.byteCells, hj]))
   go_wp2_with fail
   go_ret
   rw [<- HLB.out]
   exact ⟨rfl, HB.out⟩))
end Go.Proofs.YtjchdegapadepaaGreatDoor
namespace Go.Proofs.YtjchdegapadepaaGreatDoor
open Go.RowKit Pl
theorem q0u {w : World} {b n : Nat} {f : Nat -> Int} (h : w.rowIs b 3 n (fun i => .int .i64 (f i))) : SlAt encI 1 w (some ⟨b, 0, none⟩) b 0 (fl n f) where
  ad _ := rfl
  lt _ := h.lt
  cell := by
    intro i x hx j u hu
    have hi : i < n := by have := (List.getElem?_eq_some_iff.1 hx).1; rwa [j0g] at this
    rw [j0h f hi] at hx
    cases hx
    match j, hu with
    | 0, hu => simp [encI] at hu; subst hu; simpa using h.cell hi
theorem fl_getD {n i : Nat} {G : Nat -> Int} (hi : i < n) : (fl n G).getD i 0 = G i := by
 rw [List.getD_eq_getElem?_getD, j0h G hi]; rfl
theorem x0x {n i : Nat} {G : Nat -> Int} (hi : i < n) : rowAtK (fl n G) n i = .int .i64 (clf n G i) := by
 unfold rowAtK clf
 rw [if_pos hi, fl_getD hi]
end Go.Proofs.YtjchdegapadepaaGreatDoor

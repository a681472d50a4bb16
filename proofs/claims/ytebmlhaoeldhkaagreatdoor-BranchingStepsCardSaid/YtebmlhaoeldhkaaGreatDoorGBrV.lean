/-
 Lemmas.
-/
import Derived.Test.YtebmlhaoeldhkaaGreatDoorGBrQ
import Derived.Test.YtebmlhaoeldhkaaGreatDoorGTauJ
import Derived.Test.YtebmlhaoeldhkaaGreatDoorTauK
import Derived.Test.YtebmlhaoeldhkaaGreatDoorGBrY
import Derived.Test.YtebmlhaoeldhkaaGreatDoorGNew
import Derived.Test.YtebmlhaoeldhkaaGreatDoorGOrder
import Derived.Test.YtebmlhaoeldhkaaGreatDoorGAs
import Derived.Test.YtebmlhaoeldhkaaGreatDoorBrB
import Derived.Test.YtebmlhaoeldhkaaGreatDoorGPl12
import Derived.Shelf.Abstract
set_option maxHeartbeats 8000000
set_option maxRecDepth 100000
namespace Go.Proofs.YtebmlhaoeldhkaaGreatDoor
namespace Pl
def BrRes (s : Lts) (n : Nat) (R : List Int) : Prop :=
 ∃ f C, Cyc s n f /\ Rounds (col s (fl n (clf n f))) (dist (fl n f)).length C /\ Still (col s (fl n (clf n f))) (dist (fl n f)).length C /\ R = fl n (clf n (fun p => C (asF n f p)))
section
variable {s : Lts} {n : Nat} {R : List Int}
theorem asF_col {f g : Nat -> Int} (e : fl n (clf n f) = fl n (clf n g)) {p : Nat} (hp : p < n) : asF n f p = asF n g p := by
 unfold asF; rw [fl_inj e hp]
theorem BrRes.at (h : BrRes s n R) {g : Nat -> Int} (hg : Cyc s n g) : ∃ C, Rounds (col s (fl n (clf n g))) (dist (fl n g)).length C /\ Still (col s (fl n (clf n g))) (dist (fl n g)).length C /\ R = fl n (clf n (fun p => C (asF n g p))) := by
 obtain ⟨f, C, hf, h1, h2, h3⟩ := h
 have e := hf.unique hg
 rw [canon_fl, canon_fl] at e
 have e2 : (dist (fl n f)).length = (dist (fl n g)).length := by rw [<- dist_clf_len (f := f), e, dist_clf_len]
 rw [e, e2] at h1 h2
 refine ⟨C, h1, h2, ?_⟩
 rw [h3, <- canon_fl, <- canon_fl]
 congr 1
 unfold fl
 apply List.map_congr_left
 intro p hp
 rw [asF_col e (List.mem_range.1 hp)]
theorem BrRes.big (hr : s.Right) (hn : s.st = (n : Int)) (h : BrRes s n R) : ∃ C, BrBig s n C /\ R = fl n C /\ canon R = R /\ ∀ p, p < n -> 0 <= C p /\ C p < (n : Int) := by
 obtain ⟨f, C, hf, h1, h2, h3⟩ := h
 refine ⟨_, (h1.big hr hn hf h2).clf hr hn, h3, ?_, fun p hp => ?_⟩
 · rw [h3, <- canon_fl, canon_canon]
 · have a := clf_rng (f := fun p => C (asF n f p)) hp
   have b := dist_len (fl n (fun p => C (asF n f p)))
   rw [fl_len] at b
   omega
theorem BrRes.len (h : BrRes s n R) : R.length = n := by obtain ⟨f, C, _, _, _, rfl⟩ := h; exact fl_len _ _
theorem BrRes.col {R' : List Int} (hr : s.Right) (hn : s.st = (n : Int)) (h : BrRes s n R) {g : Nat -> Int} (hg : Cyc s n g) (h' : BrRes (col s (fl n (clf n g))) (dist (fl n g)).length R') : ∃ C C', R = fl n C /\ R' = fl (dist (fl n g)).length C' /\ ∀ p q, p < n -> q < n -> (C p = C q ↔ C' (asF n g p) = C' (asF n g q)) := by
 obtain ⟨C, h1, h2, h3⟩ := h.at hg
 obtain ⟨D, h4, h5, _⟩ := h'.big (col_right hr hn) (col_st s n g)
 refine ⟨_, D, h3, h5, fun p q hp hq => ?_⟩
 rw [clf_eq (f := fun p => C (asF n g p)) hp hq]
 exact big_col hr hn h1 h2 h4 hp hq
end
end Pl
end Go.Proofs.YtebmlhaoeldhkaaGreatDoor
namespace Go.Proofs.YtebmlhaoeldhkaaGreatDoor
open Go.RowKit Pl
theorem orderSelf_any {p : Addr} {s : Lts} {n m : Nat} {f : Nat -> Int} (hr : s.Right) (hn : s.st = (n : Int)) (hc : Cyc s n f) {t : Lts} (ht : t = col s (fl n (clf n f))) (hm : t.st = (m : Int)) {a : Option Addr} {b off c : Nat} {w : World}
   (hG : GErr 0 p w) (hS : SlAt encE 3 w a b off t.es) :
   Calls Tryz.prog 44 #[.agg #[.int .i64 m, .int .i64 t.lb, .int .i64 t.s0, .slice a t.es.length c]] w fun e w' => ∃ (D : List Nat) (v : Value), e = .returned (.tuple #[v, .nilIface]) /\ OrdL t m D /\ D.length = m /\ (∀ k, k < m -> k ∈ D) /\
     w'.ownsRow w.heap.size 3 1 v (D.map Int.ofNat).length ((D.map Int.ofNat).flatMap encI) /\ Below w.heap.size w w' := by
 have htr : t.Right := by rw [ht]; exact col_right hr hn
 have h := orderYes_any (c := c) htr hm hG hS
 rw [hm] at h
 refine h.mono ?_
 rintro e w' ⟨g, D, v, hg, hD, hall, rfl, h1, hB⟩
 have hcc : col t (fl m (clf m g)) = t := by
   rw [ht] at hg hm ⊢
   exact self_col hr hn hc hm hg
 have hcl : fl m (clf m g) = (List.range m).map Int.ofNat := by
   rw [ht] at hg
   exact self_cls hr hn hc hg
 rw [hcc, hcl] at hD
 rw [hcl] at hall h1
 have hml : (dist ((List.range m).map Int.ofNat)).length = m := by rw [dist_ofNat]; simp
 rw [hml] at hD hall
 have hl := ord_len hD hall
 rw [flat_self D hD.rng] at h1
 exact ⟨D, v, rfl, hD, hl, hall, by rw [List.length_map, hl]; exact h1, hB⟩
end Go.Proofs.YtebmlhaoeldhkaaGreatDoor
namespace Go.Proofs.YtebmlhaoeldhkaaGreatDoor
open Go.RowKit Pl
open Lib (hid)
def brName : ByteArray := ⟨#[98, 114, 97, 110, 99, 104, 105, 110, 103]⟩
def BrPost (s : Lts) (n : Nat) (w : World) (e : Ending) (w' : World) : Prop :=
 ∃ (R : List Int) (a : Option Addr) (b c : Nat), BrRes s n R /\ e = .returned (.tuple #[.slice a n c, .nilIface]) /\ w'.ownsRow w.heap.size 3 1 (.slice a n c) n (R.flatMap encI) /\ SlAt encI 1 w' a b 0 R /\ Below w.heap.size w w'
theorem sysB {w : World} {B : Nat} {x y z : Int} {v : Value} (h : w.heap[B]? = some (.cells #[.int .i64 x, .int .i64 y, .int .i64 z, v] 24 (0, 0))) :
   w.cell? ⟨B, 0, none⟩ = some (.int .i64 x) /\ w.cell? ⟨B, 1, none⟩ = some (.int .i64 y) /\ w.cell? ⟨B, 2, none⟩ = some (.int .i64 z) /\ w.cell? ⟨B, 3, none⟩ = some v /\ B < w.heap.size := by
 refine ⟨?_, ?_, ?_, ?_, (Array.getElem?_eq_some_iff.1 h).1⟩ <;> simp [World.cell?, h]
theorem brClasses_any {p : Addr} {s : Lts} {n : Nat} (hr : s.Right) (hn : s.st = (n : Int)) (hel : s.es.length <= 900) {a : Option Addr} {b off c : Nat} {w : World} (hG : GErr 0 p w) (htab : Lib.TabIs Tryz.prog w "internal/strconv.uint64pow10" .u64 Lib.pow10Tab) (hS : SlAt encE 3 w a b off s.es) :
   Calls Tryz.prog 11 #[.agg #[.int .i64 s.st, .int .i64 s.lb, .int .i64 s.s0, .slice a s.es.length c]] w (BrPost s n w) := by
 have hst := hr.st0
 have hn1 : n <= 1000 := by omega
 have hB0 := (Below.refl w.heap.size w).alloc (Nat.le_refl _) (Obj.cells #[.int .i64 s.st, .int .i64 s.lb, .int .i64 s.s0, .slice a s.es.length c] 24)
 have hbx := heap_alloc_new w (Obj.cells #[.int .i64 s.st, .int .i64 s.lb, .int .i64 s.s0, .slice a s.es.length c] 24)
 have HCK := hid (check_ok hr a b off c _ (hG.below hB0) (hS.below hB0 (Nat.le_refl _)))
 have HG := hid hG; have HS := hid hS; have HB0 := hid hB0; have HBX := hid hbx; have HR := hid hr; have HN := hid hn; have HT := hid (Lib.tabBelow_of_tabIs htab); have HEL := hid hel
 rw [hn] at HCK HB0 HBX ⊢
 clear hG hS hB0 hbx hr hn hst htab hel
 go_enter Tryz.func11, Tryz.ntmps11
 go_wp2_with fail
 refine HCK.out.mono ?_
 rintro e w1 ⟨rfl, hB1⟩
 have hb1 := HB0.out.trans (hB1.mono (by simp))
 have hx1 := (hB1.block w.heap.size (by simp)).trans HBX.out
 have hco := collapseYes_any (c := c) HR.out HN.out (HG.out.below hb1) (HS.out.below hb1 (Nat.le_refl _))
 rw [HN.out] at hco
 have HCO := hid hco; have HB1 := hid hb1; have HX1 := hid hx1
 obtain ⟨x0, x1, x2, x3, x4⟩ := sysB hx1
 clear hb1 hx1 hco hB1 HB0 HBX HCK
 go_wp2_with fail
 refine HCO.out.mono ?_
 unfold ColPost
 rintro e w2 ⟨f, v, ve, hcyc, rfl, hown, howne, hB2⟩
 obtain ⟨t, ht⟩ : ∃ t, t = col s (fl n (clf n f)) := ⟨_, rfl⟩
 obtain ⟨m, hm⟩ : ∃ m, m = (dist (fl n f)).length := ⟨_, rfl⟩
 have htst : t.st = (m : Int) := by rw [ht, hm]; exact col_st s n f
 rw [<- ht] at howne ⊢
 obtain ⟨ca, cc, cb, rfl, _, _, hcs, _⟩ := slAt_own (xs := fl n (clf n f)) lenI (by rw [fl_len]; exact hown)
 obtain ⟨ea, ec, eb, rfl, _, _, hes, _⟩ := slAt_own lenE howne
 rw [fl_len]
 have hmn : m <= n := by rw [hm]; have := dist_len (fl n f); rw [fl_len] at this; exact this
 have htr : t.Right := by rw [ht]; exact col_right HR.out HN.out
 have hts : Srt ltE t.es := by rw [ht]; exact col_srt s _
 have htl : t.es.length <= 900 := by
   rw [ht]
   have h1 := colE_len (fl n (clf n f)) s.es
   have h2 := length_nf (lt := ltE) (colE (fl n (clf n f)) s.es)
   have h3 := HEL.out
   show (nf ltE (colE (fl n (clf n f)) s.es)).length <= 900
   omega
 have htn : t.norm = t := by
   have h1 : nf ltE t.es = t.es := nf_of_srt stoE hts
   unfold Lts.norm
   rw [h1]
 rw [htst]
 have hb2 := HB1.out.trans (hB2.mono HB1.out.size)
 have hx2 := (hB2.block w.heap.size (Array.getElem?_eq_some_iff.1 HX1.out).1).trans HX1.out
 have hBe := (Below.refl w2.heap.size w2).alloc (Nat.le_refl _) (Obj.cells #[.int .i64 m, .int .i64 t.lb, .int .i64 t.s0, .slice ea t.es.length ec] 24)
 have hb3 := hb2.trans (hBe.mono hb2.size)
 have HX3 := hid ((hBe.block w.heap.size (Array.getElem?_eq_some_iff.1 hx2).1).trans hx2)
 have HU3 := hid (heap_alloc_new w2 (Obj.cells #[.int .i64 m, .int .i64 t.lb, .int .i64 t.s0, .slice ea t.es.length ec] 24))
 have HES := hid (hes.below hBe (Nat.le_refl _)); have HCS := hid (hcs.below hBe (Nat.le_refl _)); have HB3 := hid hb3
 have HOS := hid (orderSelf_any (c := ec) HR.out HN.out hcyc ht htst (HG.out.below hb3) HES.out)
 have HTR := hid htr; have HTS := hid hts; have HTL := hid htl; have HTN := hid htn; have HTST := hid htst
 have HRES : Hid (∀ C, Rounds t m C -> Still t m C -> BrRes s n (fl n (clf n (fun p => C (asF n f p))))) := hid (fun C h1 h2 => ⟨f, C, hcyc, by rw [<- ht, <- hm]; exact h1, by rw [<- ht, <- hm]; exact h2, rfl⟩)
 have HAS : Hid (∀ p, p < n -> clf n f p = (asF n f p : Int) /\ asF n f p < m) := hid (fun p hp => ⟨asF_eq hp, by rw [hm]; exact asF_lt hp⟩)
 clear hown howne hcs hes hB2 ht hm htst htr hts htl htn hb2 hx2 hBe hb3 hcyc x0 x1 x2 x3 x4 HCO HB1 HX1
 go_upto_region 5 with fail
 obtain ⟨W3, hW3⟩ : ∃ W3, W3 = w2.alloc (Obj.cells #[.int .i64 m, .int .i64 t.lb, .int .i64 t.s0, .slice ea t.es.length ec] 24) := ⟨_, rfl⟩
 obtain ⟨tb, htb⟩ : ∃ tb, tb = w2.heap.size := ⟨_, rfl⟩
 rw [<- hW3] at HX3 HU3 HES HCS HB3 HOS ⊢
 rw [<- htb] at HU3 ⊢
 clear hW3 htb
 obtain ⟨y0, y1, y2, y3, y4⟩ := sysB HU3.out
 go_wp2_with fail
 refine HOS.out.mono ?_
 rintro e w4 ⟨D, v, rfl, hD, hDl, hDa, hown, hB4⟩
 obtain ⟨oa, oc, ob, rfl, _, _, hos, _⟩ := slAt_own lenI hown
 rw [List.length_map, hDl]
 have hb4 := HB3.out.trans (hB4.mono HB3.out.size)
 have HX4 := hid ((hB4.block w.heap.size (Array.getElem?_eq_some_iff.1 HX3.out).1).trans HX3.out)
 have hu4 := (hB4.block tb (Array.getElem?_eq_some_iff.1 HU3.out).1).trans HU3.out
 have hnw := new_ok (c := ec) HTR.out (HG.out.below hb4) (HES.out.below hB4 (Nat.le_refl _))
 rw [HTST.out, HTN.out] at hnw
 have HNW := hid hnw; have HCS4 := hid (HCS.out.below hB4 (Nat.le_refl _)); have HB4 := hid hb4; have HOS4 := hid hos
 have HD := hid hD; have HDL := hid hDl; have HDA := hid hDa
 clear y0 y1 y2 y3 y4
 obtain ⟨y0, y1, y2, y3, y4⟩ := sysB hu4
 clear hown hos hD hDl hDa hB4 hb4 hu4 hnw HX3 HU3 HES HCS HB3 HOS
 go_wp2_with fail
 refine HNW.out.mono ?_
 rintro e w5 ⟨gb, rfl, hgr, hB5, _⟩
 have hb5 := HB4.out.trans (hB5.mono HB4.out.size)
 have HX5 := hid ((hB5.block w.heap.size (Array.getElem?_eq_some_iff.1 HX4.out).1).trans HX4.out)
 have HPA := hid (part_any (oc := oc) hgr HTR.out HTST.out HTS.out HD.out HDL.out HDA.out HTL.out (HOS4.out.below hB5 (Nat.le_refl _)) (HT.out _ hb5))
 have HCS5 := hid (HCS4.out.below hB5 (Nat.le_refl _)); have HB5 := hid hb5
 clear hgr hB5 hb5 HNW HX4 HCS4 HB4 HOS4 y0 y1 y2 y3 y4
 go_wp2_with fail
 refine HPA.out.mono ?_
 rintro e w6 ⟨qb, C, rfl, hqs, hro, hsti, hCr, hB6⟩
 have hb6 := HB5.out.trans (hB6.mono HB5.out.size)
 have hx6 := (hB6.block w.heap.size (Array.getElem?_eq_some_iff.1 HX5.out).1).trans HX5.out
 have HCS6 := hid (HCS5.out.below hB6 (Nat.le_refl _)); have HB6 := hid hb6; have HQS := hid hqs
 have HRS := hid (HRES.out C hro hsti)
 have HCR := hid hCr
 have hmk := run_make_row' (P := Tryz.prog) 31 3 (.int .i64 0) 8 Tryz.underlying31 (by kernel_rfl) rfl .i64 .i64 n (by omega) (by omega)
 obtain ⟨x0, x1, x2, x3, x4⟩ := sysB hx6
 have hrow := (World.rowIs_made w6 (.int .i64 0) n 3).congr (g := fun j => .int .i64 (if j < 0 then C (asF n f j) else 0)) (fun j _ => by simp)
 have HROW := hid hrow
 have hbz := (Below.refl w6.heap.size w6).alloc (Nat.le_refl _) (.cells (madeCells #[.int .i64 0] n) 3)
 have HBZ := hid hbz
 have hw6 := hb6.size
 clear hqs hro hsti hCr hB6 hb6 hx6 hrow hbz HPA HX5 HCS5 HB5
 go_wp2_with fail
 obtain ⟨zb, hzb⟩ : ∃ zb, zb = w6.heap.size := ⟨_, rfl⟩
 rw [<- hzb] at HROW ⊢
 have hzlo : w6.heap.size <= zb := by omega
 clear hzb x0 x1 x2 x3 x4 hmk
 go_loopw [14, 15, 46] (fun _ _ v46 wx => ∃ i : Nat, v46 = .int .i64 i /\ i <= n /\ wx.rowIs zb 3 n (fun j => .int .i64 (if j < i then C (asF n f j) else 0)) /\ Below w6.heap.size w6 wx) (fun _ _ v46 _ => n - (intOf v46).toNat)
 case atStart => exact ⟨0, rfl, Nat.zero_le _, HROW.out, HBZ.out⟩
 case round =>
   obtain ⟨i, rfl, hi, hrow, hB⟩ := hrel
   have HRO := hid hrow; have HBX := hid hB
   have hwx := hB.size
   have hzl := hrow.lt
   clear hrow hB HROW HBZ
   by_cases hin : i < n
   · have hcs := HCS6.out.below HBX.out (Nat.le_refl _)
     obtain rfl := hcs.ad (by rw [fl_len]; omega)
     have c0 := hcs.ci (fl_get (clf n f) hin)
     have cl := hcs.lt (by rw [fl_len]; omega)
     have has := HAS.out i hin
     rw [has.1] at c0
     obtain ⟨k, hk⟩ : ∃ k, k = asF n f i := ⟨_, rfl⟩
     rw [<- hk] at c0 has
     have hkm := has.2
     have hqs := HQS.out.below HBX.out (Nat.le_refl _)
     have q0 := hqs.ci (fl_get C hkm)
     have ql := hqs.lt (by rw [fl_len]; omega)
     simp only [Nat.zero_add] at c0 q0
     have zf := HRO.out.frozen i
     have zc := HRO.out.cell hin
     have HNX := hid ((HRO.out.set i (.int .i64 (C k))).congr (g := fun j => .int .i64 (if j < i + 1 then C (asF n f j) else 0)) (fun j _ => by
       by_cases e : j = i
       · subst e; rw [if_pos rfl, if_pos (by omega), hk]
       · rw [if_neg e]
         by_cases h : j < i
         · rw [if_pos h, if_pos (by omega)]
         · rw [if_neg h, if_neg (by omega)]))
     obtain ⟨ck, hck⟩ : ∃ ck, ck = C k := ⟨_, rfl⟩
     rw [<- hck] at q0 HNX
     have hiI : (i : Int) < (n : Int) := by omega
     have hkI : (k : Int) < (m : Int) := by omega
     clear hcs has hk hqs hck HRO
     go_wp2_with fail
     go_roundw
     case rel => exact ⟨i + 1, by go_num, by omega, HNX.out, HBX.out.setCell hzlo _⟩
     case measure => simp [intOf]; omega
   · obtain rfl : n = i := by omega
     have hr2 : wr.rowIs zb 3 n (fun j => .int .i64 (C (asF n f j))) := HRO.out.congr (fun j hj => by simp only [if_pos hj])
     have hsl := rowIs_sl (f := fun j => C (asF n f j)) hr2
     have hcn := canon_any (c := n) hsl (by rw [fl_len]; omega) (fun x hx => by
       obtain ⟨j, hj, rfl⟩ := List.mem_map.1 hx
       have h1 := HAS.out j (List.mem_range.1 hj)
       have h2 := HCR.out _ h1.2
       exact WalkArith.wf_i64 (by omega))
     rw [fl_len, canon_fl] at hcn
     have HCN := hid hcn
     have hbz := HB6.out.trans (HBX.out.mono hw6)
     have HBZ := hid hbz
     clear hr2 hsl hcn hbz HRO HBX
     go_wp2_with fail
     refine HCN.out.mono ?_
     rintro e w9 ⟨v, rfl, hown, hB9⟩
     have hlen : (fl n (clf n (fun j => C (asF n f j)))).length = n := fl_len _ _
     obtain ⟨R, hR⟩ : ∃ R, R = fl n (clf n (fun j => C (asF n f j))) := ⟨_, rfl⟩
     have hres := HRS.out
     rw [<- hR] at hown hlen hres
     have hown2 : w9.ownsRow wr.heap.size 3 1 v R.length (R.flatMap encI) := by rw [hlen]; exact hown
     obtain ⟨ra, rc, rb, rfl, _, _, hrs, _⟩ := slAt_own lenI hown2
     rw [hlen] at hown2 ⊢
     have hb9 := HBZ.out.trans (hB9.mono HBZ.out.size)
     have HO9 := hid (own_mono hown2 HBZ.out.size); have HB9 := hid hb9; have HRS9 := hid hrs; have HRES9 := hid hres
     clear hown hown2 hrs hb9 hB9 hlen hR hres
     go_wp2_with fail
     go_ret2
     exact ⟨R, ra, rb, rc, HRES9.out, rfl, HO9.out, HRS9.out, HB9.out⟩
end Go.Proofs.YtebmlhaoeldhkaaGreatDoor
namespace Go.Proofs.YtebmlhaoeldhkaaGreatDoor
open Go.RowKit Pl
open Lib (hid)
namespace Pl
def al12 : Lts := ⟨5, 2, 0, [(0, 1, 4), (1, 0, 0), (2, 0, 3), (2, 1, 4)]⟩
theorem al12_right : al12.Right := ⟨by unfold HeadBad al12; simp, by decide⟩
theorem al12_norm : al12.norm = al12 := by
 unfold Lts.norm
 have : nf ltE al12.es = al12.es := by decide
 rw [this]
theorem al12_stp {a b : Nat} {l : Int} : stp al12 a l b ↔ (a = 0 /\ l = 1 /\ b = 4) ∨ (a = 1 /\ l = 0 /\ b = 0) ∨ (a = 2 /\ l = 0 /\ b = 3) ∨ (a = 2 /\ l = 1 /\ b = 4) := by
 unfold stp al12
 simp only [List.mem_cons, Prod.mk.injEq, List.not_mem_nil, or_false]
 omega
theorem al12_big {C : Nat -> Int} (h : BrBig al12 5 C) : C 1 = C 0 /\ C 2 ≠ C 0 := by
 have s0 : stp al12 0 1 4 := al12_stp.2 (.inl ⟨rfl, rfl, rfl⟩)
 have s1 : stp al12 1 0 0 := al12_stp.2 (.inr (.inl ⟨rfl, rfl, rfl⟩))
 have s2 : stp al12 2 0 3 := al12_stp.2 (.inr (.inr (.inl ⟨rfl, rfl, rfl⟩)))
 have s3 : stp al12 2 1 4 := al12_stp.2 (.inr (.inr (.inr ⟨rfl, rfl, rfl⟩)))
 constructor
 · refine h.all (fun a b => a = b ∨ (a = 1 /\ b = 0) ∨ (a = 0 /\ b = 1)) ⟨?_, ?_⟩ 1 0 (by omega) (by omega) (.inr (.inl ⟨rfl, rfl⟩))
   · rintro a b ha hb (rfl | ⟨rfl, rfl⟩ | ⟨rfl, rfl⟩) l t ht hs
     · exact .inr ⟨a, t, .refl ⟨ha, .inl rfl⟩, ht, hs, .inl rfl⟩
     · have := al12_stp.1 hs
       obtain ⟨rfl, rfl⟩ : l = 0 /\ t = 0 := by omega
       exact .inl ⟨rfl, .inl rfl⟩
     · exact .inr ⟨0, t, .tail (.refl ⟨hb, .inr (.inr ⟨rfl, rfl⟩)⟩) s1 ⟨ha, .inl rfl⟩, ht, hs, .inl rfl⟩
   · rintro a b ha hb (rfl | ⟨rfl, rfl⟩ | ⟨rfl, rfl⟩) l t ht hs
     · exact .inr ⟨a, t, .refl ⟨ha, .inl rfl⟩, ht, hs, .inl rfl⟩
     · exact .inr ⟨0, t, .tail (.refl ⟨ha, .inr (.inl ⟨rfl, rfl⟩)⟩) s1 ⟨hb, .inl rfl⟩, ht, hs, .inl rfl⟩
     · have := al12_stp.1 hs
       obtain ⟨rfl, rfl⟩ : l = 0 /\ t = 0 := by omega
       exact .inl ⟨rfl, .inl rfl⟩
 · intro e
   have no3 : ∀ l x, ¬ Sg al12 C 3 l x := fun l x hs => by
     cases hs with
     | here h1 _ => have := al12_stp.1 h1; omega
     | on h1 _ _ => have := al12_stp.1 h1; omega
   by_cases h3 : C 3 = C 2
   · exact no3 _ _ (h.still 2 3 (by omega) (by omega) h3.symm 1 (C 4) (.here s3 (fun k => by have := k.1; omega)))
   · have hg := h.still 2 0 (by omega) (by omega) e 0 (C 3) (.here s2 (fun k => h3 k.2))
     obtain ⟨x, hx⟩ : ∃ x, x = C 3 := ⟨_, rfl⟩
     rw [<- hx] at hg
     cases hg with
     | here h1 _ => have := al12_stp.1 h1; omega
     | on h1 _ _ => have := al12_stp.1 h1; omega
theorem al12_res {R : List Int} (h : BrRes al12 5 R) : R.length = 5 /\ R[1]? = some 0 /\ R[2]? = some 1 := by
 refine ⟨h.len, ?_⟩
 obtain ⟨C, hb, hR, hc, _⟩ := h.big al12_right rfl
 obtain ⟨h1, h2⟩ := al12_big hb
 have hfl : fl 5 C = [C 0, C 0, C 2] ++ [C 3, C 4] := by rw [<- h1]; unfold fl; simp [List.range, List.range.loop, h1]
 have hd : dist [C 0, C 0, C 2] = [C 0, C 2] := by
   unfold dist addN
   simp [h2]
 have k0 : (dist (fl 5 C)).idxOf (C 0) = 0 := by
   rw [hfl, idx_append _ _ (by simp), hd]; simp
 have k2 : (dist (fl 5 C)).idxOf (C 2) = 1 := by
   rw [hfl, idx_append _ _ (by simp), hd]
   have hb2 : (C 0 == C 2) = false := by simp [Ne.symm h2]
   simp [List.idxOf_cons, hb2]
 have g1 : R[1]? = some (C 1) := by rw [hR]; exact fl_get (n := 5) (i := 1) C (by omega)
 have g2 : R[2]? = some (C 2) := by rw [hR]; exact fl_get (n := 5) (i := 2) C (by omega)
 rw [<- hc, canon_get, canon_get, g1, g2, hR]
 simp only [Option.map_some]
 rw [h1, k0, k2]
 exact ⟨rfl, rfl⟩
def cl12 (j : Nat) : Int := if j < 2 then 0 else if j = 2 then 1 else 2
theorem cl12_fl : fl 5 cl12 = [0, 0, 1, 2, 2] := by decide
end Pl
theorem slAt_lits {w : World} {b : Nat} {xs : List Int} (h : w.heap[b]? = some (.cells (xs.map (fun x => (Value.int .i64 x))).toArray 3 (0, 0))) : SlAt encI 1 w (some ⟨b, 0, none⟩) b 0 xs where
 ad _ := rfl
 lt _ := (Array.getElem?_eq_some_iff.1 h).1
 cell := by
   intro i v hv j u hu
   match j, hu with
   | 0, hu =>
     simp [encI] at hu; subst hu
     simp [World.cell?, h, hv]
theorem alive12_any {w : World} {p : Addr} (hG : GErr 0 p w) (htab : Lib.TabIs Tryz.prog w "internal/strconv.uint64pow10" .u64 Lib.pow10Tab) :
   Calls Tryz.prog 7 #[] w fun e w' => e = .returned (.bool true) /\ Below w.heap.size w w' := by
 have HG := hid hG; have HT := hid (Lib.tabBelow_of_tabIs htab)
 clear hG htab
 go_enter Tryz.func7, Tryz.ntmps7
 go_wp2_with fail
 have hS : SlAt encE 3 (w.alloc (.cells #[.int .i64 0, .int .i64 1, .int .i64 4, .int .i64 1, .int .i64 0, .int .i64 0, .int .i64 2, .int .i64 0, .int .i64 3, .int .i64 2, .int .i64 1, .int .i64 4] 74)) (some ⟨w.heap.size, 0, none⟩) w.heap.size 0 al12.es := by
   have h := World.ownsRow_lit (e := 74) (size := 3) (base := w.heap.size) w #[.int .i64 0, .int .i64 1, .int .i64 4, .int .i64 1, .int .i64 0, .int .i64 0, .int .i64 2, .int .i64 0, .int .i64 3, .int .i64 2, .int .i64 1, .int .i64 4] 4 (Nat.le_refl _) (by unfold maxLen; omega) rfl
   obtain ⟨a, c, b, hv, _, _, hs, _⟩ := slAt_own (xs := al12.es) lenE h
   simp only [Value.slice.injEq] at hv
   obtain ⟨rfl, _, _⟩ := hv
   have := hs.ad (by decide)
   simp at this
   subst this
   exact hs
 have hB0 := ((Below.refl w.heap.size w).alloc (Nat.le_refl _) (.cells #[.int .i64 0, .int .i64 1, .int .i64 4, .int .i64 1, .int .i64 0, .int .i64 0, .int .i64 2, .int .i64 0, .int .i64 3, .int .i64 2, .int .i64 1, .int .i64 4] 74)).alloc (by simp) (.cells #[.int .i64 5, .int .i64 2, .int .i64 0, .slice (some ⟨w.heap.size, 0, none⟩) 4 4] 24)
 have hx0 := heap_alloc_at (w.alloc (.cells #[.int .i64 0, .int .i64 1, .int .i64 4, .int .i64 1, .int .i64 0, .int .i64 0, .int .i64 2, .int .i64 0, .int .i64 3, .int .i64 2, .int .i64 1, .int .i64 4] 74)) (.cells #[.int .i64 5, .int .i64 2, .int .i64 0, .slice (some ⟨w.heap.size, 0, none⟩) 4 4] 24) (w.heap.size + 1) (by simp)
 have hS1 := hS.alloc (.cells #[.int .i64 5, .int .i64 2, .int .i64 0, .slice (some ⟨w.heap.size, 0, none⟩) 4 4] 24)
 refine (brClasses_any (s := al12) (n := 5) (c := 4) al12_right rfl (by decide) (HG.out.below hB0) (HT.out _ hB0) hS1).mono ?_
 unfold BrPost
 rintro e w1 ⟨R, ra, rb, rc, hres, rfl, _, hrs, hB1⟩
 obtain ⟨hRl, hR1, hR2⟩ := al12_res hres
 obtain rfl := hrs.ad (by omega)
 have hx1 := (hB1.block (w.heap.size + 1) (by simp)).trans hx0
 have hB1' := hB0.trans (hB1.mono (by simp; omega))
 have hS2 := hS1.below hB1 (Nat.le_refl _)
 have hBV := (Below.refl w1.heap.size w1).alloc (Nat.le_refl _) (.cells #[.int .i64 0, .int .i64 0, .int .i64 1, .int .i64 2, .int .i64 2] 3)
 have hbv := hB1'.trans (hBV.mono hB1'.size)
 have hcs0 : SlAt encI 1 (w1.alloc (.cells #[.int .i64 0, .int .i64 0, .int .i64 1, .int .i64 2, .int .i64 2] 3)) (some ⟨w1.heap.size, 0, none⟩) w1.heap.size 0 (fl 5 cl12) := by
   rw [cl12_fl]
   exact slAt_lits (heap_alloc_new w1 _)
 have HBT := hid (bottoms_any (s := al12) (n := 5) (c := 4) (cc := 5) al12_right rfl (HG.out.below hbv) (hS2.below hBV (Nat.le_refl _)) hcs0 (by rw [cl12_fl]; decide) (by rw [cl12_fl]; decide))
 have HBV := hid hbv; have HRS := hid (hrs.below hBV (Nat.le_refl _))
 have HR1 := hid hR1; have HR2 := hid hR2; have HRL := hid hRl
 obtain ⟨x0, x1, x2, x3, x4⟩ := sysB hx1
 clear hB0 hx0 hS hS1 hx1 hB1 hB1' hS2 hrs hres hBV hbv hcs0 hR1 hR2 hRl
 go_wp2_with fail
 refine HBT.out.mono ?_
 rintro e w2 ⟨zb, rfl, hrow, hB2⟩
 have hcs := HRS.out.below hB2 (Nat.le_refl _)
 have l1 := hcs.ci HR1.out
 have l2 := hcs.ci HR2.out
 have ll := hcs.lt (by rw [HRL.out]; omega)
 simp only [Nat.zero_add] at l1 l2
 have m1 := hrow.cell (i := 1) (by omega)
 have m2 := hrow.cell (i := 2) (by omega)
 have ml := hrow.lt
 rw [al12_norm] at m1 m2
 rw [show btmB al12 cl12 1 = false by decide] at m1
 rw [show btmB al12 cl12 2 = true by decide] at m2
 have HB2 := hid (HBV.out.trans (hB2.mono HBV.out.size))
 clear hcs hrow hB2 x0 x1 x2 x3 x4 HBT HBV HRS
 go_wp2_with fail
 go_ret
 exact ⟨rfl, HB2.out⟩
end Go.Proofs.YtebmlhaoeldhkaaGreatDoor
namespace Go.Proofs.YtebmlhaoeldhkaaGreatDoor
open Go.RowKit
structure Kp (n : Nat) (a b : Act) : Prop where
 size : b.tmps.size = a.tmps.size
 low : ∀ s, s < n -> b.tmps[s]? = a.tmps[s]?
 df : b.defers = a.defers
theorem Kp.refl (n : Nat) (a : Act) : Kp n a a := ⟨rfl, fun _ _ => rfl, rfl⟩
theorem put_size (a : Act) (d : Nat) (v : Value) : (a.put (some d) v).tmps.size = a.tmps.size := by simp [Act.put]
theorem put_same {a : Act} {d : Nat} (h : d < a.tmps.size) (v : Value) : (a.put (some d) v).tmps[d]? = some v := by simp [Act.put, h]
theorem put_ne {a : Act} {d s : Nat} (h : d ≠ s) (v : Value) : (a.put (some d) v).tmps[s]? = a.tmps[s]? := by simp [Act.put, Array.getElem?_setIfInBounds_ne h]
theorem Kp.put {n : Nat} {a b : Act} (h : Kp n a b) {d : Nat} (hd : n <= d) (v : Value) : Kp n a (b.put (some d) v) :=
 ⟨by rw [put_size, h.size], fun s hs => by rw [put_ne (by omega), h.low s hs], h.df⟩
theorem eval_tmp {a : Act} {s : Nat} {v : Value} (h : a.tmps[s]? = some v) : a.eval (.tmp s) = v := by simp [Act.eval, Array.getD_eq_getD_getElem?, h]
section
variable {P : Program} {ops : Array Oper} {rest : List Oper} {Q : Exit -> Act -> World -> Prop} {a : Act} {w : World} {o : Oper}
theorem wanted_of {k d : Nat} (hg : o.guard = some (k, true)) (hk : (ops[k]?).bind (·.dst) = some d) (hd : a.tmps[d]? = some (.bool true)) : Region.wanted o (yielded ops a.tmps) = true := by
 simp [Region.wanted, hg, yielded, hk, hd]
theorem wanted_none (hg : o.guard = none) : Region.wanted o (yielded ops a.tmps) = true := by simp [Region.wanted, hg]
theorem wpL_val {d : Nat} {v : Value} (hw : Region.wanted o (yielded ops a.tmps) = true) (hd : o.dst = some d) (hr : (execOp a.eval o).run P w = .ok (.value v) w) (h : wpList P ops Q rest (a.put (some d) v) w) : wpList P ops Q (o :: rest) a w := by
 refine wpList_step fun K hK => ?_
 rw [if_pos hw]
 unfold Oper.wp
 rw [hr, Oper.upon_value, hd]
 exact hK _ _ h
theorem wpL_call {d f : Nat} {args : Array Value} {v : Value} {R : World -> Prop} (hw : Region.wanted o (yielded ops a.tmps) = true) (hd : o.dst = some d) (hr : (execOp a.eval o).run P w = .ok (.enter f args) w) (hc : Calls P f args w fun e w' => e = .returned v /\ R w')
   (h : ∀ w', R w' -> wpList P ops Q rest (a.put (some d) v) w') : wpList P ops Q (o :: rest) a w := by
 refine wpList_step fun K hK => ?_
 rw [if_pos hw]
 unfold Oper.wp
 rw [hr, Oper.upon_enter]
 refine hc.mono fun e w'' hh => ?_
 obtain ⟨rfl, hR⟩ := hh
 rw [hd]
 exact hK _ _ (h _ hR)
theorem run_move {x : Operand} (ho : o.op = .move x) : (execOp a.eval o).run P w = .ok (.value (a.eval x)) w := by simp [execOp, ho]
theorem run_assign {x : Operand} (ho : o.op = .assign x) : (execOp a.eval o).run P w = .ok (.value (a.eval x)) w := by simp [execOp, ho]
theorem put_df (a : Act) (d : Nat) (v : Value) : (a.put (some d) v).defers = a.defers := rfl
theorem run_pick {c x y : Operand} (ho : o.op = .pick c x y) (hc : a.eval c = .bool true) : (execOp a.eval o).run P w = .ok (.value (a.eval x)) w := by simp [execOp, ho, hc, asBool]
theorem run_nilCheck {x : Operand} (ho : o.op = .nilCheck x) {p : Addr} (hx : a.eval x = .pointer (some p)) : (execOp a.eval o).run P w = .ok (.value (.pointer (some p))) w := by simp [execOp, ho, hx]
theorem run_call {f : Nat} {x : Operand} {t : Array TypeId} (ho : o.op = .call { callee := .value (.func f), args := #[x], argTypes := t }) (he : ∀ args w, (callFunc f args).run P w = .ok (.enter f args) w) : (execOp a.eval o).run P w = .ok (.enter f #[a.eval x]) w := by
 simp [execOp, ho, resolve, Deferred.ofValue, invoke, Act.eval, he]
theorem at_act {c : Code} (h : ∀ a0, a0 = a -> c.wp P Q a0 w) : c.wp P Q a w := h a rfl
theorem and_slot {n dp d1 d2 d3 d4 s k f : Nat} {a0 : Act} {gv : Value} {R : World -> Prop} {t : Array TypeId} {o1 o2 o3 o4 : Oper}
   (e1 : o1.op = .move (.tmp dp)) (g1 : o1.guard = none) (t1 : o1.dst = some d1) (e2 : o2.op = .move (.tmp s)) (g2 : o2.guard = some (k, true)) (t2 : o2.dst = some d2)
   (e3 : o3.op = .call { callee := .value (.func f), args := #[.tmp d2], argTypes := t }) (g3 : o3.guard = some (k, true)) (t3 : o3.dst = some d3) (e4 : o4.op = .pick (.tmp d1) (.tmp d3) (.const (.bool false))) (g4 : o4.guard = none) (t4 : o4.dst = some d4)
   (hk : (ops[k]?).bind (·.dst) = some d1) (h1 : n <= d1) (h2 : d1 < d2) (h3 : d2 < d3) (h4 : d3 < d4) (hs : s < n)
   (hK : Kp n a0 a) (hz : d4 < a0.tmps.size) (hp : a.tmps[dp]? = some (.bool true)) (hgv : a0.tmps[s]? = some gv) (he : ∀ args w, (callFunc f args).run P w = .ok (.enter f args) w)
   (hc : Calls P f #[gv] w fun e w' => e = .returned (.bool true) /\ R w')
   (h : ∀ a' w', Kp n a0 a' -> a'.tmps[d4]? = some (.bool true) -> R w' -> wpList P ops Q rest a' w') : wpList P ops Q (o1 :: o2 :: o3 :: o4 :: rest) a w := by
 have z := hK.size
 refine wpL_val (v := .bool true) (wanted_none g1) t1 (by rw [run_move e1, eval_tmp hp]) ?_
 have k1 := hK.put h1 (.bool true)
 have q1 : (a.put (some d1) (.bool true)).tmps[d1]? = some (.bool true) := put_same (by omega) _
 refine wpL_val (v := gv) (wanted_of g2 hk q1) t2 (by rw [run_move e2, eval_tmp (by rw [k1.low s hs]; exact hgv)]) ?_
 have k2 := k1.put (d := d2) (by omega) gv
 have q2 : ((a.put (some d1) (.bool true)).put (some d2) gv).tmps[d1]? = some (.bool true) := by rw [put_ne (by omega)]; exact q1
 have r2 : ((a.put (some d1) (.bool true)).put (some d2) gv).tmps[d2]? = some gv := put_same (by rw [put_size]; omega) _
 refine wpL_call (v := .bool true) (wanted_of g3 hk q2) t3 (by rw [run_call e3 he, eval_tmp r2]) hc (fun w' hR => ?_)
 have k3 := k2.put (d := d3) (by omega) (.bool true)
 have q3 : (((a.put (some d1) (.bool true)).put (some d2) gv).put (some d3) (.bool true)).tmps[d1]? = some (.bool true) := by rw [put_ne (by omega)]; exact q2
 have r3 : (((a.put (some d1) (.bool true)).put (some d2) gv).put (some d3) (.bool true)).tmps[d3]? = some (.bool true) := put_same (by rw [put_size, put_size]; omega) _
 refine wpL_val (v := .bool true) (wanted_none g4) t4 (by rw [run_pick e4 (eval_tmp q3), eval_tmp r3]) ?_
 exact h _ _ (k3.put (d := d4) (by omega) _) (put_same (by rw [put_size, put_size, put_size]; omega) _) hR
theorem and_field {n dp d1 d2 d3 d4 d5 d6 d7 s k f bb fld st ft off : Nat} {a0 : Act} {ov : Value} {R : World -> Prop} {t : Array TypeId} {o1 o2 o3 o4 o5 o6 o7 : Oper}
   (e1 : o1.op = .move (.tmp dp)) (g1 : o1.guard = none) (t1 : o1.dst = some d1) (e2 : o2.op = .move (.tmp s)) (g2 : o2.guard = some (k, true)) (t2 : o2.dst = some d2)
   (e3 : o3.op = .nilCheck (.tmp d2)) (g3 : o3.guard = some (k, true)) (t3 : o3.dst = some d3) (e4 : o4.op = .fieldAddr st (.tmp d3) fld) (g4 : o4.guard = some (k, true)) (t4 : o4.dst = some d4)
   (e5 : o5.op = .load ft (.tmp d4)) (g5 : o5.guard = some (k, true)) (t5 : o5.dst = some d5)
   (e6 : o6.op = .call { callee := .value (.func f), args := #[.tmp d5], argTypes := t }) (g6 : o6.guard = some (k, true)) (t6 : o6.dst = some d6) (e7 : o7.op = .pick (.tmp d1) (.tmp d6) (.const (.bool false))) (g7 : o7.guard = none) (t7 : o7.dst = some d7)
   (hk : (ops[k]?).bind (·.dst) = some d1) (h1 : n <= d1) (h2 : d1 < d2) (h3 : d2 < d3) (h4 : d3 < d4) (h5 : d4 < d5) (h6 : d5 < d6) (h7 : d6 < d7) (hs : s < n)
   (hK : Kp n a0 a) (hz : d7 < a0.tmps.size) (hp : a.tmps[dp]? = some (.bool true)) (hgv : a0.tmps[s]? = some (.pointer (some ⟨bb, 0, none⟩))) (he : ∀ args w, (callFunc f args).run P w = .ok (.enter f args) w)
   (hfa : ∀ w, (Instr.fieldAt st (.pointer (some ⟨bb, 0, none⟩)) fld).run P w = .ok (.pointer (some ⟨bb, off, none⟩)) w) (hld : (Instr.loadAt ft (.pointer (some ⟨bb, off, none⟩))).run P w = .ok ov w)
   (hc : Calls P f #[ov] w fun e w' => e = .returned (.bool true) /\ R w')
   (h : ∀ a' w', Kp n a0 a' -> a'.tmps[d7]? = some (.bool true) -> R w' -> wpList P ops Q rest a' w') : wpList P ops Q (o1 :: o2 :: o3 :: o4 :: o5 :: o6 :: o7 :: rest) a w := by
 have z := hK.size
 refine wpL_val (v := .bool true) (wanted_none g1) t1 (by rw [run_move e1, eval_tmp hp]) ?_
 have k1 := hK.put h1 (.bool true)
 have q1 : (a.put (some d1) (.bool true)).tmps[d1]? = some (.bool true) := put_same (by omega) _
 have z1 := put_size a d1 (.bool true)
 generalize a.put (some d1) (.bool true) = b1 at *
 refine wpL_val (v := .pointer (some ⟨bb, 0, none⟩)) (wanted_of g2 hk q1) t2 (by rw [run_move e2, eval_tmp (by rw [k1.low s hs]; exact hgv)]) ?_
 have k2 := k1.put (d := d2) (by omega) (.pointer (some ⟨bb, 0, none⟩))
 have q2 : (b1.put (some d2) (.pointer (some ⟨bb, 0, none⟩))).tmps[d1]? = some (.bool true) := by rw [put_ne (by omega)]; exact q1
 have r2 : (b1.put (some d2) (.pointer (some ⟨bb, 0, none⟩))).tmps[d2]? = some (.pointer (some ⟨bb, 0, none⟩)) := put_same (by omega) _
 have z2 := put_size b1 d2 (.pointer (some ⟨bb, 0, none⟩))
 generalize b1.put (some d2) (.pointer (some ⟨bb, 0, none⟩)) = b2 at *
 refine wpL_val (v := .pointer (some ⟨bb, 0, none⟩)) (wanted_of g3 hk q2) t3 (run_nilCheck e3 (eval_tmp r2)) ?_
 have k3 := k2.put (d := d3) (by omega) (.pointer (some ⟨bb, 0, none⟩))
 have q3 : (b2.put (some d3) (.pointer (some ⟨bb, 0, none⟩))).tmps[d1]? = some (.bool true) := by rw [put_ne (by omega)]; exact q2
 have r3 : (b2.put (some d3) (.pointer (some ⟨bb, 0, none⟩))).tmps[d3]? = some (.pointer (some ⟨bb, 0, none⟩)) := put_same (by omega) _
 have z3 := put_size b2 d3 (.pointer (some ⟨bb, 0, none⟩))
 generalize b2.put (some d3) (.pointer (some ⟨bb, 0, none⟩)) = b3 at *
 refine wpL_val (v := .pointer (some ⟨bb, off, none⟩)) (wanted_of g4 hk q3) t4 (by simp [execOp, e4, eval_tmp r3, hfa]) ?_
 have k4 := k3.put (d := d4) (by omega) (.pointer (some ⟨bb, off, none⟩))
 have q4 : (b3.put (some d4) (.pointer (some ⟨bb, off, none⟩))).tmps[d1]? = some (.bool true) := by rw [put_ne (by omega)]; exact q3
 have r4 : (b3.put (some d4) (.pointer (some ⟨bb, off, none⟩))).tmps[d4]? = some (.pointer (some ⟨bb, off, none⟩)) := put_same (by omega) _
 have z4 := put_size b3 d4 (.pointer (some ⟨bb, off, none⟩))
 generalize b3.put (some d4) (.pointer (some ⟨bb, off, none⟩)) = b4 at *
 refine wpL_val (v := ov) (wanted_of g5 hk q4) t5 (by simp [execOp, e5, eval_tmp r4, hld]) ?_
 have k5 := k4.put (d := d5) (by omega) ov
 have q5 : (b4.put (some d5) ov).tmps[d1]? = some (.bool true) := by rw [put_ne (by omega)]; exact q4
 have r5 : (b4.put (some d5) ov).tmps[d5]? = some ov := put_same (by omega) _
 have z5 := put_size b4 d5 ov
 generalize b4.put (some d5) ov = b5 at *
 refine wpL_call (v := .bool true) (wanted_of g6 hk q5) t6 (by rw [run_call e6 he, eval_tmp r5]) hc (fun w' hR => ?_)
 have k6 := k5.put (d := d6) (by omega) (.bool true)
 have q6 : (b5.put (some d6) (.bool true)).tmps[d1]? = some (.bool true) := by rw [put_ne (by omega)]; exact q5
 have r6 : (b5.put (some d6) (.bool true)).tmps[d6]? = some (.bool true) := put_same (by omega) _
 have z6 := put_size b5 d6 (.bool true)
 generalize b5.put (some d6) (.bool true) = b6 at *
 refine wpL_val (v := .bool true) (wanted_none g7) t7 (by rw [run_pick e7 (eval_tmp q6), eval_tmp r6]) ?_
 exact h _ _ (k6.put (d := d7) (by omega) _) (put_same (by omega) _) hR
end
end Go.Proofs.YtebmlhaoeldhkaaGreatDoor

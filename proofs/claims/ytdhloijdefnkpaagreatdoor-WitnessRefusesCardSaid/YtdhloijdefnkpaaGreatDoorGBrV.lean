/-
  Lemmas.
-/
import Derived.Test.YtdhloijdefnkpaaGreatDoorGBrQ
import Derived.Test.YtdhloijdefnkpaaGreatDoorGTauJ
import Derived.Test.YtdhloijdefnkpaaGreatDoorGBrY
import Derived.Test.YtdhloijdefnkpaaGreatDoorGNew
import Derived.Test.YtdhloijdefnkpaaGreatDoorGCheck
import Derived.Test.YtdhloijdefnkpaaGreatDoorGAs
import Derived.Test.YtdhloijdefnkpaaGreatDoorGKeyS
import Derived.Test.YtdhloijdefnkpaaGreatDoorGPl3
import Derived.Test.YtdhloijdefnkpaaGreatDoorGPl12
import Derived.BigRegion
import Derived.Deep.QuietTactic
import Derived.BigQuiet
import Derived.IntWalk
import Derived.Outline
namespace Go.Proofs.YtdhloijdefnkpaaGreatDoor
namespace Pl
def BrRes (s : Lts) (n : Nat) (R : List Int) : Prop :=
  ∃ f C, Cyc s n f ∧ Rounds (col s (fl n (clf n f))) (dist (fl n f)).length C ∧ Still (col s (fl n (clf n f))) (dist (fl n f)).length C ∧ R = fl n (clf n (fun p => C (asF n f p)))
section
variable {s : Lts} {n : Nat} {R : List Int}
theorem asF_col {f g : Nat → Int} (e : fl n (clf n f) = fl n (clf n g)) {p : Nat} (hp : p < n) : asF n f p = asF n g p := by
  unfold asF; rw [fl_inj e hp]
theorem BrRes.at (h : BrRes s n R) {g : Nat → Int} (hg : Cyc s n g) : ∃ C, Rounds (col s (fl n (clf n g))) (dist (fl n g)).length C ∧ Still (col s (fl n (clf n g))) (dist (fl n g)).length C ∧ R = fl n (clf n (fun p => C (asF n g p))) := by
  obtain ⟨f, C, hf, h1, h2, h3⟩ := h
  have e := hf.unique hg
  rw [canon_fl, canon_fl] at e
  have e2 : (dist (fl n f)).length = (dist (fl n g)).length := by rw [← dist_clf_len (f := f), e, dist_clf_len]
  rw [e, e2] at h1 h2
  refine ⟨C, h1, h2, ?_⟩
  rw [h3, ← canon_fl, ← canon_fl]
  congr 1
  unfold fl
  apply List.map_congr_left
  intro p hp
  rw [asF_col e (List.mem_range.1 hp)]
theorem BrRes.big (hr : s.Right) (hn : s.st = (n : Int)) (h : BrRes s n R) : ∃ C, BrBig s n C ∧ R = fl n C ∧ canon R = R ∧ ∀ p, p < n → 0 ≤ C p ∧ C p < (n : Int) := by
  obtain ⟨f, C, hf, h1, h2, h3⟩ := h
  refine ⟨_, (h1.big hr hn hf h2).clf hr hn, h3, ?_, fun p hp => ?_⟩
  · rw [h3, ← canon_fl, canon_canon]
  · have a := clf_rng (f := fun p => C (asF n f p)) hp
    have b := dist_len (fl n (fun p => C (asF n f p)))
    rw [fl_len] at b
    omega
theorem BrRes.len (h : BrRes s n R) : R.length = n := by obtain ⟨f, C, _, _, _, rfl⟩ := h; exact fl_len _ _
theorem BrRes.col {R' : List Int} (hr : s.Right) (hn : s.st = (n : Int)) (h : BrRes s n R) {g : Nat → Int} (hg : Cyc s n g) (h' : BrRes (col s (fl n (clf n g))) (dist (fl n g)).length R') : ∃ C C', R = fl n C ∧ R' = fl (dist (fl n g)).length C' ∧ ∀ p q, p < n → q < n → (C p = C q ↔ C' (asF n g p) = C' (asF n g q)) := by
  obtain ⟨C, h1, h2, h3⟩ := h.at hg
  obtain ⟨D, h4, h5, _⟩ := h'.big (col_right hr hn) (col_st s n g)
  refine ⟨_, D, h3, h5, fun p q hp hq => ?_⟩
  rw [clf_eq (f := fun p => C (asF n g p)) hp hq]
  exact big_col hr hn h1 h2 h4 hp hq
end
end Pl
end Go.Proofs.YtdhloijdefnkpaaGreatDoor
namespace Go.Proofs.YtdhloijdefnkpaaGreatDoor
open Go.RowKit Pl
theorem orderSelf_any {p : Addr} {s : Lts} {n m : Nat} {f : Nat → Int} (hr : s.Right) (hn : s.st = (n : Int)) (hc : Cyc s n f) {t : Lts} (ht : t = col s (fl n (clf n f))) (hm : t.st = (m : Int)) {a : Option Addr} {b off c : Nat} {w : World}
    (hG : GErr 1 p w) (hS : SlAt encE 3 w a b off t.es) :
    Calls Tryz.prog 45 #[.agg #[.int .i64 m, .int .i64 t.lb, .int .i64 t.s0, .slice a t.es.length c]] w fun e w' => ∃ (D : List Nat) (v : Value), e = .returned (.tuple #[v, .nilIface]) ∧ OrdL t m D ∧ D.length = m ∧ (∀ k, k < m → k ∈ D) ∧
      w'.ownsRow w.heap.size 3 1 v (D.map Int.ofNat).length ((D.map Int.ofNat).flatMap encI) ∧ Below w.heap.size w w' := by
  have htr : t.Right := by rw [ht]; exact col_right hr hn
  have h := orderYes_any (c := c) htr hm hG hS
  rw [hm] at h
  refine h.mono ?_
  rintro e w' ⟨g, D, v, hg, hD, hall, rfl, h1, hB⟩
  have hcc : col t (fl m (clf m g)) = t := by
    rw [ht] at hg hm ⊢
    exact self_col hr hn hc hm hg
  have hcl : fl m (clf m g) = (List.range m).map Int.ofNat := by
    rw [ht] at hg
    exact self_cls hr hn hc hg
  rw [hcc, hcl] at hD
  rw [hcl] at hall h1
  have hml : (dist ((List.range m).map Int.ofNat)).length = m := by rw [dist_ofNat]; simp
  rw [hml] at hD hall
  have hl := ord_len hD hall
  rw [flat_self D hD.rng] at h1
  exact ⟨D, v, rfl, hD, hl, hall, by rw [List.length_map, hl]; exact h1, hB⟩
end Go.Proofs.YtdhloijdefnkpaaGreatDoor
namespace Go.Proofs.YtdhloijdefnkpaaGreatDoor
open Go.RowKit Pl
open Lib (hid)
def brName : ByteArray := ⟨#[98, 114, 97, 110, 99, 104, 105, 110, 103]⟩
def BrPost (s : Lts) (n : Nat) (w : World) (e : Ending) (w' : World) : Prop :=
  ∃ (R : List Int) (a : Option Addr) (b c : Nat), BrRes s n R ∧ e = .returned (.tuple #[.slice a n c, .nilIface]) ∧ w'.ownsRow w.heap.size 3 1 (.slice a n c) n (R.flatMap encI) ∧ SlAt encI 1 w' a b 0 R ∧ Below w.heap.size w w'
theorem sysB {w : World} {B : Nat} {x y z : Int} {v : Value} (h : w.heap[B]? = some (.cells #[.int .i64 x, .int .i64 y, .int .i64 z, v] 24 (0, 0))) :
    w.cell? ⟨B, 0, none⟩ = some (.int .i64 x) ∧ w.cell? ⟨B, 1, none⟩ = some (.int .i64 y) ∧ w.cell? ⟨B, 2, none⟩ = some (.int .i64 z) ∧ w.cell? ⟨B, 3, none⟩ = some v ∧ B < w.heap.size := by
  refine ⟨?_, ?_, ?_, ?_, (Array.getElem?_eq_some_iff.1 h).1⟩ <;> simp [World.cell?, h]
set_option maxRecDepth 100000 in
set_option maxHeartbeats 8000000 in
theorem brClasses_any {p : Addr} {s : Lts} {n : Nat} (hr : s.Right) (hn : s.st = (n : Int)) (hel : s.es.length ≤ 900) {a : Option Addr} {b off c : Nat} {w : World} (hG : GErr 1 p w) (htab : Lib.TabIs Tryz.prog w "internal/strconv.uint64pow10" .u64 Lib.pow10Tab) (hS : SlAt encE 3 w a b off s.es) :
    Calls Tryz.prog 21 #[.agg #[.int .i64 s.st, .int .i64 s.lb, .int .i64 s.s0, .slice a s.es.length c]] w (BrPost s n w) := by
  have hst := hr.st0
  have hn1 : n ≤ 1000 := by omega
  have hB0 := (Below.refl w.heap.size w).alloc (Nat.le_refl _) (Obj.cells #[.int .i64 s.st, .int .i64 s.lb, .int .i64 s.s0, .slice a s.es.length c] 24)
  have hbx := heap_alloc_new w (Obj.cells #[.int .i64 s.st, .int .i64 s.lb, .int .i64 s.s0, .slice a s.es.length c] 24)
  have HCK := hid (check_ok hr a b off c _ (hG.below hB0) (hS.below hB0 (Nat.le_refl _)))
  have HG := hid hG; have HS := hid hS; have HB0 := hid hB0; have HBX := hid hbx; have HR := hid hr; have HN := hid hn; have HT := hid (Lib.tabBelow_of_tabIs htab); have HEL := hid hel
  rw [hn] at HCK HB0 HBX ⊢
  clear hG hS hB0 hbx hr hn hst htab hel
  go_enter Tryz.func21, Tryz.ntmps21
  go_wp2_with fail
  refine HCK.out.mono ?_
  rintro e w1 ⟨rfl, hB1⟩
  have hb1 := HB0.out.trans (hB1.mono (by simp))
  have hx1 := (hB1.block w.heap.size (by simp)).trans HBX.out
  have hco := collapseYes_any (c := c) HR.out HN.out (HG.out.below hb1) (HS.out.below hb1 (Nat.le_refl _))
  rw [HN.out] at hco
  have HCO := hid hco; have HB1 := hid hb1; have HX1 := hid hx1
  obtain ⟨x0, x1, x2, x3, x4⟩ := sysB hx1
  clear hb1 hx1 hco hB1 HB0 HBX HCK
  go_wp2_with fail
  refine HCO.out.mono ?_
  unfold ColPost
  rintro e w2 ⟨f, v, ve, hcyc, rfl, hown, howne, hB2⟩
  obtain ⟨t, ht⟩ : ∃ t, t = col s (fl n (clf n f)) := ⟨_, rfl⟩
  obtain ⟨m, hm⟩ : ∃ m, m = (dist (fl n f)).length := ⟨_, rfl⟩
  have htst : t.st = (m : Int) := by rw [ht, hm]; exact col_st s n f
  rw [← ht] at howne ⊢
  obtain ⟨ca, cc, cb, rfl, _, _, hcs, _⟩ := slAt_own (xs := fl n (clf n f)) lenI (by rw [fl_len]; exact hown)
  obtain ⟨ea, ec, eb, rfl, _, _, hes, _⟩ := slAt_own lenE howne
  rw [fl_len]
  have hmn : m ≤ n := by rw [hm]; have := dist_len (fl n f); rw [fl_len] at this; exact this
  have htr : t.Right := by rw [ht]; exact col_right HR.out HN.out
  have hts : Srt ltE t.es := by rw [ht]; exact col_srt s _
  have htl : t.es.length ≤ 900 := by
    rw [ht]
    have h1 := colE_len (fl n (clf n f)) s.es
    have h2 := length_nf (lt := ltE) (colE (fl n (clf n f)) s.es)
    have h3 := HEL.out
    show (nf ltE (colE (fl n (clf n f)) s.es)).length ≤ 900
    omega
  have htn : t.norm = t := by
    have h1 : nf ltE t.es = t.es := nf_of_srt stoE hts
    unfold Lts.norm
    rw [h1]
  rw [htst]
  have hb2 := HB1.out.trans (hB2.mono HB1.out.size)
  have hx2 := (hB2.block w.heap.size (Array.getElem?_eq_some_iff.1 HX1.out).1).trans HX1.out
  have hBe := (Below.refl w2.heap.size w2).alloc (Nat.le_refl _) (Obj.cells #[.int .i64 m, .int .i64 t.lb, .int .i64 t.s0, .slice ea t.es.length ec] 24)
  have hb3 := hb2.trans (hBe.mono hb2.size)
  have HX3 := hid ((hBe.block w.heap.size (Array.getElem?_eq_some_iff.1 hx2).1).trans hx2)
  have HU3 := hid (heap_alloc_new w2 (Obj.cells #[.int .i64 m, .int .i64 t.lb, .int .i64 t.s0, .slice ea t.es.length ec] 24))
  have HES := hid (hes.below hBe (Nat.le_refl _)); have HCS := hid (hcs.below hBe (Nat.le_refl _)); have HB3 := hid hb3
  have HOS := hid (orderSelf_any (c := ec) HR.out HN.out hcyc ht htst (HG.out.below hb3) HES.out)
  have HTR := hid htr; have HTS := hid hts; have HTL := hid htl; have HTN := hid htn; have HTST := hid htst
  have HRES : Hid (∀ C, Rounds t m C → Still t m C → BrRes s n (fl n (clf n (fun p => C (asF n f p))))) := hid (fun C h1 h2 => ⟨f, C, hcyc, by rw [← ht, ← hm]; exact h1, by rw [← ht, ← hm]; exact h2, rfl⟩)
  have HAS : Hid (∀ p, p < n → clf n f p = (asF n f p : Int) ∧ asF n f p < m) := hid (fun p hp => ⟨asF_eq hp, by rw [hm]; exact asF_lt hp⟩)
  clear hown howne hcs hes hB2 ht hm htst htr hts htl htn hb2 hx2 hBe hb3 hcyc x0 x1 x2 x3 x4 HCO HB1 HX1
  go_upto_region 5 with fail
  obtain ⟨W3, hW3⟩ : ∃ W3, W3 = w2.alloc (Obj.cells #[.int .i64 m, .int .i64 t.lb, .int .i64 t.s0, .slice ea t.es.length ec] 24) := ⟨_, rfl⟩
  obtain ⟨tb, htb⟩ : ∃ tb, tb = w2.heap.size := ⟨_, rfl⟩
  rw [← hW3] at HX3 HU3 HES HCS HB3 HOS ⊢
  rw [← htb] at HU3 ⊢
  clear hW3 htb
  obtain ⟨y0, y1, y2, y3, y4⟩ := sysB HU3.out
  go_wp2_with fail
  refine HOS.out.mono ?_
  rintro e w4 ⟨D, v, rfl, hD, hDl, hDa, hown, hB4⟩
  obtain ⟨oa, oc, ob, rfl, _, _, hos, _⟩ := slAt_own lenI hown
  rw [List.length_map, hDl]
  have hb4 := HB3.out.trans (hB4.mono HB3.out.size)
  have HX4 := hid ((hB4.block w.heap.size (Array.getElem?_eq_some_iff.1 HX3.out).1).trans HX3.out)
  have hu4 := (hB4.block tb (Array.getElem?_eq_some_iff.1 HU3.out).1).trans HU3.out
  have hnw := new_ok (c := ec) HTR.out (HG.out.below hb4) (HES.out.below hB4 (Nat.le_refl _))
  rw [HTST.out, HTN.out] at hnw
  have HNW := hid hnw; have HCS4 := hid (HCS.out.below hB4 (Nat.le_refl _)); have HB4 := hid hb4; have HOS4 := hid hos
  have HD := hid hD; have HDL := hid hDl; have HDA := hid hDa
  clear y0 y1 y2 y3 y4
  obtain ⟨y0, y1, y2, y3, y4⟩ := sysB hu4
  clear hown hos hD hDl hDa hB4 hb4 hu4 hnw HX3 HU3 HES HCS HB3 HOS
  go_wp2_with fail
  refine HNW.out.mono ?_
  rintro e w5 ⟨gb, rfl, hgr, hB5, _⟩
  have hb5 := HB4.out.trans (hB5.mono HB4.out.size)
  have HX5 := hid ((hB5.block w.heap.size (Array.getElem?_eq_some_iff.1 HX4.out).1).trans HX4.out)
  have HPA := hid (part_any (oc := oc) hgr HTR.out HTST.out HTS.out HD.out HDL.out HDA.out HTL.out (HOS4.out.below hB5 (Nat.le_refl _)) (HT.out _ hb5))
  have HCS5 := hid (HCS4.out.below hB5 (Nat.le_refl _)); have HB5 := hid hb5
  clear hgr hB5 hb5 HNW HX4 HCS4 HB4 HOS4 y0 y1 y2 y3 y4
  go_wp2_with fail
  refine HPA.out.mono ?_
  rintro e w6 ⟨qb, C, rfl, hqs, hro, hsti, hCr, hB6⟩
  have hb6 := HB5.out.trans (hB6.mono HB5.out.size)
  have hx6 := (hB6.block w.heap.size (Array.getElem?_eq_some_iff.1 HX5.out).1).trans HX5.out
  have HCS6 := hid (HCS5.out.below hB6 (Nat.le_refl _)); have HB6 := hid hb6; have HQS := hid hqs
  have HRS := hid (HRES.out C hro hsti)
  have HCR := hid hCr
  have hmk := run_make_row' (P := Tryz.prog) 33 3 (.int .i64 0) 8 Tryz.underlying33 (by kernel_rfl) rfl .i64 .i64 n (by omega) (by omega)
  obtain ⟨x0, x1, x2, x3, x4⟩ := sysB hx6
  have hrow := (World.rowIs_made w6 (.int .i64 0) n 3).congr (g := fun j => .int .i64 (if j < 0 then C (asF n f j) else 0)) (fun j _ => by simp)
  have HROW := hid hrow
  have hbz := (Below.refl w6.heap.size w6).alloc (Nat.le_refl _) (.cells (madeCells #[.int .i64 0] n) 3)
  have HBZ := hid hbz
  have hw6 := hb6.size
  clear hqs hro hsti hCr hB6 hb6 hx6 hrow hbz HPA HX5 HCS5 HB5
  go_wp2_with fail
  obtain ⟨zb, hzb⟩ : ∃ zb, zb = w6.heap.size := ⟨_, rfl⟩
  rw [← hzb] at HROW ⊢
  have hzlo : w6.heap.size ≤ zb := by omega
  clear hzb x0 x1 x2 x3 x4 hmk
  go_loopw [14, 15, 46] (fun _ _ v46 wx => ∃ i : Nat, v46 = .int .i64 i ∧ i ≤ n ∧ wx.rowIs zb 3 n (fun j => .int .i64 (if j < i then C (asF n f j) else 0)) ∧ Below w6.heap.size w6 wx) (fun _ _ v46 _ => n - (intOf v46).toNat)
  case atStart => exact ⟨0, rfl, Nat.zero_le _, HROW.out, HBZ.out⟩
  case round =>
    obtain ⟨i, rfl, hi, hrow, hB⟩ := hrel
    have HRO := hid hrow; have HBX := hid hB
    have hwx := hB.size
    have hzl := hrow.lt
    clear hrow hB HROW HBZ
    by_cases hin : i < n
    · have hcs := HCS6.out.below HBX.out (Nat.le_refl _)
      obtain rfl := hcs.ad (by rw [fl_len]; omega)
      have c0 := hcs.ci (fl_get (clf n f) hin)
      have cl := hcs.lt (by rw [fl_len]; omega)
      have has := HAS.out i hin
      rw [has.1] at c0
      obtain ⟨k, hk⟩ : ∃ k, k = asF n f i := ⟨_, rfl⟩
      rw [← hk] at c0 has
      have hkm := has.2
      have hqs := HQS.out.below HBX.out (Nat.le_refl _)
      have q0 := hqs.ci (fl_get C hkm)
      have ql := hqs.lt (by rw [fl_len]; omega)
      simp only [Nat.zero_add] at c0 q0
      have zf := HRO.out.frozen i
      have zc := HRO.out.cell hin
      have HNX := hid ((HRO.out.set i (.int .i64 (C k))).congr (g := fun j => .int .i64 (if j < i + 1 then C (asF n f j) else 0)) (fun j _ => by
        by_cases e : j = i
        · subst e; rw [if_pos rfl, if_pos (by omega), hk]
        · rw [if_neg e]
          by_cases h : j < i
          · rw [if_pos h, if_pos (by omega)]
          · rw [if_neg h, if_neg (by omega)]))
      obtain ⟨ck, hck⟩ : ∃ ck, ck = C k := ⟨_, rfl⟩
      rw [← hck] at q0 HNX
      have hiI : (i : Int) < (n : Int) := by omega
      have hkI : (k : Int) < (m : Int) := by omega
      clear hcs has hk hqs hck HRO
      go_wp2_with fail
      go_roundw
      case rel => exact ⟨i + 1, by go_num, by omega, HNX.out, HBX.out.setCell hzlo _⟩
      case measure => simp [intOf]; omega
    · obtain rfl : n = i := by omega
      have hr2 : wr.rowIs zb 3 n (fun j => .int .i64 (C (asF n f j))) := HRO.out.congr (fun j hj => by simp only [if_pos hj])
      have hsl := rowIs_sl (f := fun j => C (asF n f j)) hr2
      have hcn := canon_any (c := n) hsl (by rw [fl_len]; omega) (fun x hx => by
        obtain ⟨j, hj, rfl⟩ := List.mem_map.1 hx
        have h1 := HAS.out j (List.mem_range.1 hj)
        have h2 := HCR.out _ h1.2
        exact WalkArith.wf_i64 (by omega))
      rw [fl_len, canon_fl] at hcn
      have HCN := hid hcn
      have hbz := HB6.out.trans (HBX.out.mono hw6)
      have HBZ := hid hbz
      clear hr2 hsl hcn hbz HRO HBX
      go_wp2_with fail
      refine HCN.out.mono ?_
      rintro e w9 ⟨v, rfl, hown, hB9⟩
      have hlen : (fl n (clf n (fun j => C (asF n f j)))).length = n := fl_len _ _
      obtain ⟨R, hR⟩ : ∃ R, R = fl n (clf n (fun j => C (asF n f j))) := ⟨_, rfl⟩
      have hres := HRS.out
      rw [← hR] at hown hlen hres
      have hown2 : w9.ownsRow wr.heap.size 3 1 v R.length (R.flatMap encI) := by rw [hlen]; exact hown
      obtain ⟨ra, rc, rb, rfl, _, _, hrs, _⟩ := slAt_own lenI hown2
      rw [hlen] at hown2 ⊢
      have hb9 := HBZ.out.trans (hB9.mono HBZ.out.size)
      have HO9 := hid (own_mono hown2 HBZ.out.size); have HB9 := hid hb9; have HRS9 := hid hrs; have HRES9 := hid hres
      clear hown hown2 hrs hb9 hB9 hlen hR hres
      go_wp2_with fail
      go_ret2
      exact ⟨R, ra, rb, rc, HRES9.out, rfl, HO9.out, HRS9.out, HB9.out⟩
end Go.Proofs.YtdhloijdefnkpaaGreatDoor
namespace Go.Proofs.YtdhloijdefnkpaaGreatDoor
open Go.RowKit Pl
def FR (ob m : Nat) (vs : Nat → Value) (f : Nat → List Int) : List Rw :=
  ⟨33, 1, .slice (some ⟨ob, 0, none⟩) m m, m, (List.range m).map vs⟩ :: (List.range m).map (fun l => (⟨3, 1, vs l, (f l).length, (f l).flatMap encI⟩ : Rw))
theorem range_map_set {α : Type} {m l : Nat} (g : Nat → α) (x : α) : ((List.range m).map g).set l x = (List.range m).map (upd g l x) := by
  apply List.ext_getElem?
  intro i
  rw [List.getElem?_set]
  by_cases h : i < m
  · by_cases e : l = i
    · subst e; simp [h, upd]
    · rw [if_neg e]
      simp [h, upd, show ¬ i = l from fun e2 => e e2.symm]
  · by_cases e : l = i
    · subst e; simp [h]
    · rw [if_neg e]; simp [h]
theorem FR.set {ob m l : Nat} {vs : Nat → Value} {f : Nat → List Int} (v : Value) (ys : List Int) (rest : List Rw) (hl : l < m) :
    (((FR ob m vs f ++ rest).set (l + 1) ⟨3, 1, v, ys.length, ys.flatMap encI⟩).set 0 ⟨33, 1, .slice (some ⟨ob, 0, none⟩) m m, m, ((List.range m).map vs).set l v⟩) = FR ob m (upd vs l v) (upd f l ys) ++ rest := by
  unfold FR
  rw [List.cons_append, List.set_cons_succ, List.set_cons_zero, List.set_append_left _ _ (by simpa using hl), range_map_set, range_map_set, List.cons_append]
  congr 2
  apply List.map_congr_left
  intro i _
  unfold upd
  split <;> rfl
section
variable {w0 w w' w1 w2 : World} {rest : List Rw} {ob m : Nat} {vs : Nat → Value} {f : Nat → List Int}
theorem Rws.frMade (h : Rws w0 w rest) (hm : m ≤ maxLen) : Rws w0 (w.alloc (.cells (madeCells #[.slice none 0 0] m) 33)) (FR w.heap.size m (fun _ => .slice none 0 0) (fun _ => []) ++ rest) := by
  have key : ∀ k, Rws w0 w ((List.range k).map (fun _ => (⟨3, 1, .slice none 0 0, 0, []⟩ : Rw)) ++ rest) := fun k => by
    induction k with
    | zero => exact h
    | succ k ih =>
      rw [List.range_succ_eq_map, List.map_cons, List.map_map]
      exact ih.addNil _ _
  have h2 := (key m).addLit (madeCells #[.slice none 0 0] m) 33 (k := 1) (n := m) hm (by simp [size_madeCells])
  have e : (madeCells #[.slice none 0 0] m).toList = (List.range m).map (fun _ => (.slice none 0 0 : Value)) := by
    rw [toList_madeCells_one]
    apply List.ext_getElem?
    intro i
    by_cases hi : i < m <;> simp [hi]
  rw [e] at h2
  exact h2
theorem Rws.frCell (h : Rws w0 w (FR ob m vs f ++ rest)) {l : Nat} (hl : l < m) : w.cell? ⟨ob, l, none⟩ = some (vs l) ∧ w.frozen? ⟨ob, l, none⟩ = false ∧ ob < w.heap.size ∧ w0.heap.size ≤ ob :=
  ⟨h.cell (i := 0) rfl (by simp [hl]), h.fz (i := 0) rfl l, (h.lt (i := 0) rfl).2, (h.lt (i := 0) rfl).1⟩
theorem Rws.frOwn (h : Rws w0 w (FR ob m vs f ++ rest)) {l : Nat} (hl : l < m) : w.ownsRow w0.heap.size 3 1 (vs l) (f l).length ((f l).flatMap encI) :=
  h.get (i := l + 1) (r := ⟨3, 1, vs l, (f l).length, (f l).flatMap encI⟩) (by unfold FR; rw [List.cons_append, List.getElem?_cons_succ, List.getElem?_append_left (by simpa using hl)]; simp [hl])
theorem Rws.frGrow {w2 : World} (h : Rws w0 w (FR ob m vs f ++ rest)) (hB2 : Below w.heap.size w w2) {l : Nat} (hl : l < m) {v' : Value} {ys : List Int} (ho : w1.ownsRow w0.heap.size 3 1 v' ys.length (ys.flatMap encI)) (hg : w2.grownBy w1 (vs l).ownBlock)
    (hh : ∀ g, v'.ownBlock = some g → (vs l).ownBlock = some g ∨ w.heap.size ≤ g) :
    w1.cell? ⟨ob, l, none⟩ = some (vs l) ∧ w1.frozen? ⟨ob, l, none⟩ = false ∧ ob < w1.heap.size ∧ Rws w0 (w1.setCell ⟨ob, l, none⟩ v') (FR ob m (upd vs l v') (upd f l ys) ++ rest) := by
  have hi : (FR ob m vs f ++ rest)[l + 1]? = some (⟨3, 1, vs l, (f l).length, (f l).flatMap encI⟩ : Rw) := by
    unfold FR; rw [List.cons_append, List.getElem?_cons_succ, List.getElem?_append_left (by simpa using hl)]; simp [hl]
  have hs := h.grown hB2 (l + 1) hi ho hg hh
  have h0 : ((FR ob m vs f ++ rest).set (l + 1) ⟨3, 1, v', ys.length, ys.flatMap encI⟩)[0]? = some (⟨33, 1, .slice (some ⟨ob, 0, none⟩) m m, m, (List.range m).map vs⟩ : Rw) := by
    unfold FR; rw [List.cons_append, List.set_cons_succ]; rfl
  have h2 := hs.set 0 h0 l v'
  rw [FR.set v' ys rest hl] at h2
  exact ⟨hs.cell h0 (by simp [hl]), hs.fz h0 l, (hs.lt h0).2, h2⟩
end
end Go.Proofs.YtdhloijdefnkpaaGreatDoor
namespace Go.Proofs.YtdhloijdefnkpaaGreatDoor
open Go.RowKit Pl
def encT (x : B3) : List Value := [.int .i64 x.1, .int .i64 x.2.1, .int .i64 x.2.2]
theorem lenT (x : B3) : (encT x).length = 3 := rfl
def flN (n : Nat) (f : Nat → Nat) : List Int := fl n (fun i => (f i : Int))
theorem flN_len (n : Nat) (f : Nat → Nat) : (flN n f).length = n := fl_len _ _
theorem flN_get {n : Nat} (f : Nat → Nat) {i : Nat} (h : i < n) : (flN n f)[i]? = some (f i : Int) := fl_get _ h
theorem rowT : IsRow Tryz.prog 196 254 3 24 (.agg #[.int .i64 0, .int .i64 0, .int .i64 0]) := isRow_of Tryz.underlying196 (by kernel_rfl) rfl (by decide)
theorem flatI (L : List Int) : L.flatMap encI = L.map (Value.int .i64) := by
  induction L with
  | nil => rfl
  | cons x l ih => rw [List.flatMap_cons, ih]; rfl
theorem flN_map (n : Nat) (f : Nat → Nat) : (flN n f).flatMap encI = (List.range n).map (fun i => Value.int .i64 (f i : Int)) := by
  rw [flatI]; unfold flN fl; rw [List.map_map]; rfl
theorem range_map_set' {α : Type} {m l : Nat} (g : Nat → α) (x : α) : ((List.range m).map g).set l x = (List.range m).map (fun i => if i = l then x else g i) := by
  apply List.ext_getElem?
  intro i
  rw [List.getElem?_set]
  by_cases h : i < m
  · by_cases e : l = i
    · subst e; simp [h]
    · rw [if_neg e]
      simp [h, show ¬ i = l from fun e2 => e e2.symm]
  · by_cases e : l = i
    · subst e; simp [h]
    · rw [if_neg e]; simp [h]
theorem flN_set (n : Nat) (f : Nat → Nat) (j v : Nat) : ((flN n f).flatMap encI).set j (.int .i64 (v : Int)) = (flN n (upd f j v)).flatMap encI := by
  rw [flN_map, flN_map, range_map_set']
  apply List.map_congr_left
  intro i _
  unfold upd
  split <;> rfl
theorem flN_at {n : Nat} (f : Nat → Nat) {i : Nat} (h : i < n) : ((flN n f).flatMap encI)[i]? = some (.int .i64 (f i : Int)) := by
  rw [flN_map]; simp [h]
theorem flT_at {bl : List B3} {b : Nat} {x : B3} (h : bl[b]? = some x) : (bl.flatMap encT)[b * 3]? = some (.int .i64 (x.1 : Int)) ∧ (bl.flatMap encT)[b * 3 + 1]? = some (.int .i64 (x.2.1 : Int)) ∧ (bl.flatMap encT)[b * 3 + 2]? = some (.int .i64 (x.2.2 : Int)) :=
  ⟨by simpa using getElem?_flatMap lenT bl b x h 0 _ rfl, getElem?_flatMap lenT bl b x h 1 _ rfl, getElem?_flatMap lenT bl b x h 2 _ rfl⟩
theorem flT_set : ∀ {bl : List B3} {b : Nat} {x y : B3} (j : Nat) (v : Value), bl[b]? = some x → j < 3 → (encT x).set j v = encT y → (bl.flatMap encT).set (b * 3 + j) v = (bl.set b y).flatMap encT
  | [], b, x, y, j, v, h, _, _ => by simp at h
  | z :: bl, 0, x, y, j, v, h, hj, he => by
    simp at h; subst h
    rw [Nat.zero_mul, Nat.zero_add, List.flatMap_cons, List.set_cons_zero, List.flatMap_cons, List.set_append_left _ _ (by rw [lenT]; exact hj), he]
  | z :: bl, b + 1, x, y, j, v, h, hj, he => by
    rw [List.flatMap_cons, List.set_cons_succ, List.flatMap_cons, List.set_append_right _ _ (by rw [lenT, Nat.add_mul]; omega), lenT]
    rw [show (b + 1) * 3 + j - 3 = b * 3 + j by rw [Nat.add_mul]; omega, flT_set j v (by simpa using h) hj he]
structure PK where
  pb : Nat
  eb : Nat
  qb : Nat
  ib : Nat
  bb : Nat
  ce : Nat
  cq : Nat
  ci : Nat
  cb : Nat
def PR (K : PK) (n : Nat) (el pl inn : Nat → Nat) (bl : List B3) : List Rw :=
  [⟨198, 4, .slice (some ⟨K.pb, 0, none⟩) 1 1, 1, [.slice (some ⟨K.eb, 0, none⟩) n K.ce, .slice (some ⟨K.qb, 0, none⟩) n K.cq, .slice (some ⟨K.ib, 0, none⟩) n K.ci, .slice (some ⟨K.bb, 0, none⟩) bl.length K.cb]⟩,
   ⟨3, 1, .slice (some ⟨K.eb, 0, none⟩) n K.ce, n, (flN n el).flatMap encI⟩,
   ⟨3, 1, .slice (some ⟨K.qb, 0, none⟩) n K.cq, n, (flN n pl).flatMap encI⟩,
   ⟨3, 1, .slice (some ⟨K.ib, 0, none⟩) n K.ci, n, (flN n inn).flatMap encI⟩,
   ⟨254, 3, .slice (some ⟨K.bb, 0, none⟩) bl.length K.cb, bl.length, bl.flatMap encT⟩]
section
variable {w0 w w' w1 : World} {K : PK} {n : Nat} {el pl inn : Nat → Nat} {bl : List B3} {rest : List Rw}
theorem own_caps {base : Nat} {e : TypeId} {k n g c : Nat} {xs : List Value} (h : w.ownsRow base e k (.slice (some ⟨g, 0, none⟩) n c) n xs) : n ≤ c ∧ c ≤ maxLen := by
  rcases h.2 with ⟨h2, _⟩ | ⟨g', c', cur, hv, _, _, h3, h4, _⟩
  · simp at h2
  · simp only [Value.slice.injEq] at hv
    obtain ⟨_, _, rfl⟩ := hv
    exact ⟨h3, h4⟩
theorem Rws.pCells (h : Rws w0 w (PR K n el pl inn bl ++ rest)) :
    w.cell? ⟨K.pb, 0, none⟩ = some (.slice (some ⟨K.eb, 0, none⟩) n K.ce) ∧ w.cell? ⟨K.pb, 1, none⟩ = some (.slice (some ⟨K.qb, 0, none⟩) n K.cq) ∧ w.cell? ⟨K.pb, 2, none⟩ = some (.slice (some ⟨K.ib, 0, none⟩) n K.ci) ∧ w.cell? ⟨K.pb, 3, none⟩ = some (.slice (some ⟨K.bb, 0, none⟩) bl.length K.cb) :=
  ⟨h.cell (i := 0) rfl rfl, h.cell (i := 0) rfl rfl, h.cell (i := 0) rfl rfl, h.cell (i := 0) rfl rfl⟩
theorem Rws.pLts (h : Rws w0 w (PR K n el pl inn bl ++ rest)) : K.pb < w.heap.size ∧ K.eb < w.heap.size ∧ K.qb < w.heap.size ∧ K.ib < w.heap.size ∧ K.bb < w.heap.size :=
  ⟨(h.lt (i := 0) rfl).2, (h.lt (i := 1) rfl).2, (h.lt (i := 2) rfl).2, (h.lt (i := 3) rfl).2, (h.lt (i := 4) rfl).2⟩
theorem Rws.pCaps (h : Rws w0 w (PR K n el pl inn bl ++ rest)) : n ≤ K.ce ∧ n ≤ K.cq ∧ n ≤ K.ci ∧ bl.length ≤ K.cb :=
  ⟨(own_caps (h.get (i := 1) rfl)).1, (own_caps (h.get (i := 2) rfl)).1, (own_caps (h.get (i := 3) rfl)).1, (own_caps (h.get (i := 4) rfl)).1⟩
theorem Rws.pNe (h : Rws w0 w (PR K n el pl inn bl ++ rest)) : K.pb ≠ K.eb ∧ K.pb ≠ K.qb ∧ K.pb ≠ K.ib ∧ K.pb ≠ K.bb ∧ K.eb ≠ K.qb ∧ K.eb ≠ K.ib ∧ K.eb ≠ K.bb ∧ K.qb ≠ K.ib ∧ K.qb ≠ K.bb ∧ K.ib ≠ K.bb :=
  ⟨h.ne' (i := 0) (j := 1) rfl rfl (by decide), h.ne' (i := 0) (j := 2) rfl rfl (by decide), h.ne' (i := 0) (j := 3) rfl rfl (by decide), h.ne' (i := 0) (j := 4) rfl rfl (by decide), h.ne' (i := 1) (j := 2) rfl rfl (by decide), h.ne' (i := 1) (j := 3) rfl rfl (by decide), h.ne' (i := 1) (j := 4) rfl rfl (by decide), h.ne' (i := 2) (j := 3) rfl rfl (by decide), h.ne' (i := 2) (j := 4) rfl rfl (by decide), h.ne' (i := 3) (j := 4) rfl rfl (by decide)⟩
theorem Rws.pFz (h : Rws w0 w (PR K n el pl inn bl ++ rest)) (j : Nat) : w.frozen? ⟨K.pb, j, none⟩ = false ∧ w.frozen? ⟨K.eb, j, none⟩ = false ∧ w.frozen? ⟨K.qb, j, none⟩ = false ∧ w.frozen? ⟨K.ib, j, none⟩ = false ∧ w.frozen? ⟨K.bb, j, none⟩ = false :=
  ⟨h.fz (i := 0) rfl j, h.fz (i := 1) rfl j, h.fz (i := 2) rfl j, h.fz (i := 3) rfl j, h.fz (i := 4) rfl j⟩
theorem Rws.pEl (h : Rws w0 w (PR K n el pl inn bl ++ rest)) {i : Nat} (hi : i < n) : w.cell? ⟨K.eb, i, none⟩ = some (.int .i64 (el i : Int)) := h.cell (i := 1) rfl (flN_at _ hi)
theorem Rws.pPl (h : Rws w0 w (PR K n el pl inn bl ++ rest)) {i : Nat} (hi : i < n) : w.cell? ⟨K.qb, i, none⟩ = some (.int .i64 (pl i : Int)) := h.cell (i := 2) rfl (flN_at _ hi)
theorem Rws.pIn (h : Rws w0 w (PR K n el pl inn bl ++ rest)) {i : Nat} (hi : i < n) : w.cell? ⟨K.ib, i, none⟩ = some (.int .i64 (inn i : Int)) := h.cell (i := 3) rfl (flN_at _ hi)
theorem Rws.pBl (h : Rws w0 w (PR K n el pl inn bl ++ rest)) {b : Nat} {x : B3} (hb : bl[b]? = some x) : w.cell? ⟨K.bb, b * 3, none⟩ = some (.int .i64 (x.1 : Int)) ∧ w.cell? ⟨K.bb, b * 3 + 1, none⟩ = some (.int .i64 (x.2.1 : Int)) ∧ w.cell? ⟨K.bb, b * 3 + 2, none⟩ = some (.int .i64 (x.2.2 : Int)) := by
  obtain ⟨h0, h1, h2⟩ := flT_at hb
  exact ⟨h.cell (i := 4) rfl h0, h.cell (i := 4) rfl h1, h.cell (i := 4) rfl h2⟩
theorem Rws.pSetEl (h : Rws w0 w (PR K n el pl inn bl ++ rest)) (j v : Nat) : Rws w0 (w.setCell ⟨K.eb, j, none⟩ (.int .i64 (v : Int))) (PR K n (upd el j v) pl inn bl ++ rest) := by
  have := h.set 1 rfl j (.int .i64 (v : Int)); rw [flN_set] at this; exact this
theorem Rws.pSetPl (h : Rws w0 w (PR K n el pl inn bl ++ rest)) (j v : Nat) : Rws w0 (w.setCell ⟨K.qb, j, none⟩ (.int .i64 (v : Int))) (PR K n el (upd pl j v) inn bl ++ rest) := by
  have := h.set 2 rfl j (.int .i64 (v : Int)); rw [flN_set] at this; exact this
theorem Rws.pSetIn (h : Rws w0 w (PR K n el pl inn bl ++ rest)) (j v : Nat) : Rws w0 (w.setCell ⟨K.ib, j, none⟩ (.int .i64 (v : Int))) (PR K n el pl (upd inn j v) bl ++ rest) := by
  have := h.set 3 rfl j (.int .i64 (v : Int)); rw [flN_set] at this; exact this
theorem Rws.pSetBl (h : Rws w0 w (PR K n el pl inn bl ++ rest)) {b : Nat} {x y : B3} (hb : bl[b]? = some x) (j : Nat) (v : Value) (hj : j < 3) (he : (encT x).set j v = encT y) : Rws w0 (w.setCell ⟨K.bb, b * 3 + j, none⟩ v) (PR K n el pl inn (bl.set b y) ++ rest) := by
  have := h.set 4 rfl (b * 3 + j) v; rw [flT_set j v hb hj he] at this
  have e : PR K n el pl inn (bl.set b y) = (PR K n el pl inn bl).set 4 ⟨254, 3, .slice (some ⟨K.bb, 0, none⟩) bl.length K.cb, bl.length, (bl.set b y).flatMap encT⟩ := by
    unfold PR; rw [List.length_set]; rfl
  rw [e]
  exact this
end
structure PW (w0 w : World) (K : PK) (n : Nat) (el pl inn : Nat → Nat) (bl : List B3) (rest : List Rw) : Prop where
  rws : Rws w0 w (PR K n el pl inn bl ++ rest)
  pi : PI n el pl inn bl
  n1 : n ≤ 1000
end Go.Proofs.YtdhloijdefnkpaaGreatDoor
namespace Go.Proofs.YtdhloijdefnkpaaGreatDoor
open Go.RowKit Pl
theorem bdrewP {w0 w : World} {B : Nat} (h : Below B w0 w) (n : Nat) : Below B w0 (w.drewN n) := ⟨h.os, h.tape, h.output, h.size, h.block⟩
section
variable {w0 w : World} {K : PK} {n : Nat} {el pl inn : Nat → Nat} {bl : List B3} {rest : List Rw}
set_option maxRecDepth 100000 in
theorem parOwn_any (w : World) (b : Nat) : Calls Tryz.prog 137 #[.pointer (some ⟨b, 0, none⟩)] w fun e w' => e = .returned (.pointer (some ⟨b, 0, none⟩)) ∧ w = w' := by
  go_enter Tryz.func137, Tryz.ntmps137
  go_wp2_with fail
  go_ret
  exact ⟨rfl, rfl⟩
set_option maxRecDepth 100000 in
theorem asked_ok (w : World) (b i n : Nat) (hi : i < n) : Calls Tryz.prog 169 #[.pointer (some ⟨b, 0, none⟩), .int .i64 i, .int .i64 n] w fun e w' => e = .returned .nilIface ∧ w = w' := by
  have h1 : ¬ (n : Int) ≤ (i : Int) := by omega
  go_enter Tryz.func169, Tryz.ntmps169
  go_wp2_with fail
  go_ret
  exact ⟨rfl, rfl⟩
set_option maxRecDepth 100000 in
theorem parSize_any (h : Rws w0 w (PR K n el pl inn bl ++ rest)) : Calls Tryz.prog 182 #[.pointer (some ⟨K.pb, 0, none⟩)] w fun e w' => e = .returned (.int .i64 n) ∧ w = w' := by
  obtain ⟨c0, c1, c2, c3⟩ := h.pCells
  have l0 := h.pLts.1
  clear h
  go_enter Tryz.func182, Tryz.ntmps182
  go_wp2_with fail
  refine (parOwn_any w K.pb).mono ?_
  rintro e w1 ⟨rfl, rfl⟩
  go_wp2_with fail
  go_ret
  exact ⟨rfl, rfl⟩
set_option maxRecDepth 100000 in
theorem parBlocks_any (h : Rws w0 w (PR K n el pl inn bl ++ rest)) : Calls Tryz.prog 166 #[.pointer (some ⟨K.pb, 0, none⟩)] w fun e w' => e = .returned (.int .i64 bl.length) ∧ w = w' := by
  obtain ⟨c0, c1, c2, c3⟩ := h.pCells
  have l0 := h.pLts.1
  obtain ⟨m, hm⟩ : ∃ m, m = bl.length := ⟨_, rfl⟩
  rw [← hm] at c3 ⊢
  clear h hm
  go_enter Tryz.func166, Tryz.ntmps166
  go_wp2_with fail
  refine (parOwn_any w K.pb).mono ?_
  rintro e w1 ⟨rfl, rfl⟩
  go_wp2_with fail
  go_ret
  exact ⟨rfl, rfl⟩
set_option maxRecDepth 100000 in
theorem parRow_any' (h : Rws w0 w (PR K n el pl inn bl ++ rest)) (_hn : n ≤ 1000) {b : Nat} {x : B3} (hx : bl[b]? = some x) (b1 : x.1 < x.2.1) (b2 : x.2.1 ≤ n) : Calls Tryz.prog 168 #[.pointer (some ⟨K.pb, 0, none⟩), .int .i64 b] w fun e w' =>
    e = .returned (.slice (some ⟨K.eb, x.1, none⟩) (x.2.1 - x.1) (x.2.1 - x.1)) ∧ Below w.heap.size w w' := by
  obtain ⟨c0, c1, c2, c3⟩ := h.pCells
  obtain ⟨l0, l1, l2, l3, l4⟩ := h.pLts
  obtain ⟨d0, d1, d2⟩ := h.pBl hx
  obtain ⟨k0, k1, k2, k3⟩ := h.pCaps
  have hbl := (List.getElem?_eq_some_iff.1 hx).1
  obtain ⟨m, hm⟩ : ∃ m, m = bl.length := ⟨_, rfl⟩
  rw [← hm] at c3 hbl
  obtain ⟨x1, x2, x3⟩ := x
  simp only at d0 d1 d2 b1 b2 ⊢
  have q1 : (b : Int) < (m : Int) := by omega
  have q2 : (x1 : Int) ≤ (x2 : Int) := by omega
  have q3 : (x2 : Int) ≤ (K.ce : Int) := by omega
  have q4 : x1 < x2 := by omega
  clear h hx hm k0 k1 k2 k3
  go_enter Tryz.func168, Tryz.ntmps168
  go_wp2_with fail
  go_quiet (fail)
  go_wp2_with fail
  go_ret
  exact ⟨rfl, bdrewP ((Below.refl _ _).alloc (Nat.le_refl _) _) _⟩
theorem parRow_any (h : PW w0 w K n el pl inn bl rest) {b : Nat} {x : B3} (hx : bl[b]? = some x) : Calls Tryz.prog 168 #[.pointer (some ⟨K.pb, 0, none⟩), .int .i64 b] w fun e w' =>
    e = .returned (.slice (some ⟨K.eb, x.1, none⟩) (x.2.1 - x.1) (x.2.1 - x.1)) ∧ Below w.heap.size w w' := by
  obtain ⟨b1, b2, b3⟩ := h.pi.blk b x hx
  exact parRow_any' h.rws h.n1 hx b1 b2
set_option maxRecDepth 100000 in
theorem parFirst_any (h : PW w0 w K n el pl inn bl rest) {b : Nat} {x : B3} (hx : bl[b]? = some x) : Calls Tryz.prog 167 #[.pointer (some ⟨K.pb, 0, none⟩), .int .i64 b] w fun e w' =>
    e = .returned (.int .i64 (el x.1 : Int)) ∧ Below w.heap.size w w' := by
  obtain ⟨b1, b2, b3⟩ := h.pi.blk b x hx
  have HR := Lib.hid (parRow_any h hx)
  have H := Lib.hid h
  obtain ⟨x1, x2, x3⟩ := x
  simp only at b1 b2 b3 HR ⊢
  have q4 : 0 < x2 - x1 := by omega
  have q5 : x1 < n := by omega
  clear h hx b1 b2 b3
  go_enter Tryz.func167, Tryz.ntmps167
  go_wp2_with fail
  refine HR.out.mono ?_
  rintro e w1 ⟨rfl, hB⟩
  have h1 := H.out.rws.call hB
  have c0 := h1.pEl q5
  have l0 := h1.pLts.2.1
  have HB := Lib.hid hB
  clear h1 hB
  go_wp2_with fail
  go_ret
  exact ⟨rfl, HB.out⟩
set_option maxRecDepth 100000 in
theorem parLen_any (h : PW w0 w K n el pl inn bl rest) {b : Nat} {x : B3} (hx : bl[b]? = some x) : Calls Tryz.prog 135 #[.pointer (some ⟨K.pb, 0, none⟩), .int .i64 b] w fun e w' =>
    e = .returned (.int .i64 ((memN n inn b).length : Int)) ∧ Below w.heap.size w w' := by
  have HR := Lib.hid (parRow_any h hx)
  rw [h.pi.rowE_len hx]
  clear h hx
  go_enter Tryz.func135, Tryz.ntmps135
  go_wp2_with fail
  refine HR.out.mono ?_
  rintro e w1 ⟨rfl, hB⟩
  have HB := Lib.hid hB
  clear hB
  go_wp2_with fail
  go_ret
  exact ⟨rfl, HB.out⟩
end
end Go.Proofs.YtdhloijdefnkpaaGreatDoor
namespace Go.Proofs.YtdhloijdefnkpaaGreatDoor
open Go.RowKit Pl
section
variable {w0 w : World} {K : PK} {n : Nat} {el pl inn : Nat → Nat} {bl : List B3} {rest : List Rw}
set_option maxRecDepth 100000 in
set_option maxHeartbeats 2000000 in
theorem swap_any (h : Rws w0 w (PR K n el pl inn bl ++ rest)) {i k : Nat} (hi : i < n) (hk : k < n) (hei : el i < n) (hek : el k < n) :
    Calls Tryz.prog 183 #[.pointer (some ⟨K.pb, 0, none⟩), .int .i64 i, .int .i64 k] w fun e w' => e = .returned (.tuple #[]) ∧ Rws w0 w' (PR K n (swE el i k) (swP el pl i k) inn bl ++ rest) := by
  obtain ⟨c0, c1, c2, c3⟩ := h.pCells
  obtain ⟨l0, l1, l2, l3, l4⟩ := h.pLts
  have d1 := h.pEl hi; have d2 := h.pEl hk
  have f1 := (h.pFz i).2.1; have f2 := (h.pFz k).2.1
  obtain ⟨n1, n2, n3, n4, n5, n6, n7, n8, n9, n10⟩ := h.pNe
  obtain ⟨a, ha⟩ : ∃ a, a = el i := ⟨_, rfl⟩
  obtain ⟨b, hb⟩ : ∃ b, b = el k := ⟨_, rfl⟩
  have hiI : (i : Int) < (n : Int) := by omega
  have hkI : (k : Int) < (n : Int) := by omega
  have haI : (a : Int) < (n : Int) := by omega
  have hbI : (b : Int) < (n : Int) := by omega
  have h1 : Rws w0 ((w.setCell ⟨K.eb, i, none⟩ (.int .i64 (b : Int))).setCell ⟨K.eb, k, none⟩ (.int .i64 (a : Int))).drew (PR K n (swE el i k) pl inn bl ++ rest) := by
    have := ((h.pSetEl i b).pSetEl k a).drew
    rw [ha, hb] at this ⊢
    exact this
  have g1 : swE el i k i = b := by
    unfold swE upd
    by_cases e : i = k
    · subst e; simp [hb]
    · simp [e, hb]
  have g2 : swE el i k k = a := by unfold swE upd; simp [ha]
  rw [← ha] at d1; rw [← hb] at d2
  have d3 := (h.pSetEl i b).pEl hk
  have f3 := ((h.pSetEl i b).pFz k).2.1
  obtain ⟨u, hu⟩ : ∃ u, u = upd el i b k := ⟨_, rfl⟩
  rw [← hu] at d3
  have H1 := Lib.hid h1; have G1 := Lib.hid g1; have G2 := Lib.hid g2
  have HA := Lib.hid ha; have HB := Lib.hid hb
  have han : a < n := by omega
  have hbn : b < n := by omega
  clear h h1 g1 g2 ha hb hei hek c1 c2 c3 hu
  go_enter Tryz.func183, Tryz.ntmps183
  go_wp2_with fail
  go_region
  obtain ⟨W, hW⟩ : ∃ W, W = ((w.setCell ⟨K.eb, i, none⟩ (.int .i64 (b : Int))).setCell ⟨K.eb, k, none⟩ (.int .i64 (a : Int))).drew := ⟨_, rfl⟩
  rw [← hW] at H1 ⊢
  clear hW c0 l0 l1 l2 l3 l4 d1 d2 d3 f1 f2 f3
  obtain ⟨c0, c1, c2, c3⟩ := H1.out.pCells
  obtain ⟨l0, l1, l2, l3, l4⟩ := H1.out.pLts
  have d1 := H1.out.pEl hi; have d2 := H1.out.pEl hk
  rw [G1.out] at d1; rw [G2.out] at d2
  have e1 := H1.out.pPl han; have e2 := H1.out.pPl hbn
  have f1 := (H1.out.pFz a).2.2.1; have f2 := (H1.out.pFz b).2.2.1
  have e3 := (H1.out.pSetPl b i).pPl han
  have f3 := ((H1.out.pSetPl b i).pFz a).2.2.1
  obtain ⟨v, hv⟩ : ∃ v, v = upd pl b i a := ⟨_, rfl⟩
  rw [← hv] at e3
  have h2 : Rws w0 ((W.setCell ⟨K.qb, b, none⟩ (.int .i64 (i : Int))).setCell ⟨K.qb, a, none⟩ (.int .i64 (k : Int))).drew (PR K n (swE el i k) (swP el pl i k) inn bl ++ rest) := by
    unfold swP
    rw [← HA.out, ← HB.out]
    exact ((H1.out.pSetPl b i).pSetPl a k).drew
  have H2 := Lib.hid h2
  clear c2 c3 l3 l4 hv h2 H1 HA HB G1 G2
  go_wp2_with fail
  go_region
  go_end0
  exact ⟨rfl, H2.out⟩
end
end Go.Proofs.YtdhloijdefnkpaaGreatDoor

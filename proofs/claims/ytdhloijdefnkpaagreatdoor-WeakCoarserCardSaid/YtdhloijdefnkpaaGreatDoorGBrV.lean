/-
  Plain: what branching.Classes answers.
  A collapsed system, collapsed and ordered anew.
  branching.Classes.
-/
import Derived.Test.YtdhloijdefnkpaaGreatDoorGBrQ
import Derived.Test.YtdhloijdefnkpaaGreatDoorGTauJ
import Derived.Test.YtdhloijdefnkpaaGreatDoorTauK
import Derived.Test.YtdhloijdefnkpaaGreatDoorBrD
import Derived.Test.YtdhloijdefnkpaaGreatDoorNewC
import Derived.Test.YtdhloijdefnkpaaGreatDoorGCheck
import Derived.Test.YtdhloijdefnkpaaGreatDoorAs
namespace Go.Proofs.YtdhloijdefnkpaaGreatDoor
namespace Pl

/-- The list that branching.Classes answers. -/
def BrRes (s : Lts) (n : Nat) (R : List Int) : Prop :=
  ∃ f C, Cyc s n f ∧ Rounds (col s (fl n (clf n f))) (dist (fl n f)).length C ∧ Still (col s (fl n (clf n f))) (dist (fl n f)).length C ∧ R = fl n (clf n (fun p => C (asF n f p)))
section
variable {s : Lts} {n : Nat} {R : List Int}
theorem asF_col {f g : Nat → Int} (e : fl n (clf n f) = fl n (clf n g)) {p : Nat} (hp : p < n) : asF n f p = asF n g p := by
  unfold asF; rw [fl_inj e hp]
theorem BrRes.at (h : BrRes s n R) {g : Nat → Int} (hg : Cyc s n g) : ∃ C, Rounds (col s (fl n (clf n g))) (dist (fl n g)).length C ∧ Still (col s (fl n (clf n g))) (dist (fl n g)).length C ∧ R = fl n (clf n (fun p => C (asF n g p))) := by
  obtain ⟨f, C, hf, h1, h2, h3⟩ := h
  have e := hf.unique hg
  rw [canon_fl, canon_fl] at e
  have e2 : (dist (fl n f)).length = (dist (fl n g)).length := by rw [← dist_clf_len (f := f), e, dist_clf_len]
  rw [e, e2] at h1 h2
  refine ⟨C, h1, h2, ?_⟩
  rw [h3, ← canon_fl, ← canon_fl]
  congr 1
  unfold fl
  apply List.map_congr_left
  intro p hp
  rw [asF_col e (List.mem_range.1 hp)]
theorem BrRes.big (hr : s.Right) (hn : s.st = (n : Int)) (h : BrRes s n R) : ∃ C, BrBig s n C ∧ R = fl n C ∧ canon R = R ∧ ∀ p, p < n → 0 ≤ C p ∧ C p < (n : Int) := by
  obtain ⟨f, C, hf, h1, h2, h3⟩ := h
  refine ⟨_, (h1.big hr hn hf h2).clf hr hn, h3, ?_, fun p hp => ?_⟩
  · rw [h3, ← canon_fl, canon_canon]
  · have a := clf_rng (f := fun p => C (asF n f p)) hp
    have b := dist_len (fl n (fun p => C (asF n f p)))
    rw [fl_len] at b
    omega
theorem BrRes.len (h : BrRes s n R) : R.length = n := by obtain ⟨f, C, _, _, _, rfl⟩ := h; exact fl_len _ _
/-- .. of the collapsed system. -/
theorem BrRes.col {R' : List Int} (hr : s.Right) (hn : s.st = (n : Int)) (h : BrRes s n R) {g : Nat → Int} (hg : Cyc s n g) (h' : BrRes (col s (fl n (clf n g))) (dist (fl n g)).length R') : ∃ C C', R = fl n C ∧ R' = fl (dist (fl n g)).length C' ∧ ∀ p q, p < n → q < n → (C p = C q ↔ C' (asF n g p) = C' (asF n g q)) := by
  obtain ⟨C, h1, h2, h3⟩ := h.at hg
  obtain ⟨D, h4, h5, _⟩ := h'.big (col_right hr hn) (col_st s n g)
  refine ⟨_, D, h3, h5, fun p q hp hq => ?_⟩
  rw [clf_eq (f := fun p => C (asF n g p)) hp hq]
  exact big_col hr hn h1 h2 h4 hp hq
end
end Pl
end Go.Proofs.YtdhloijdefnkpaaGreatDoor

namespace Go.Proofs.YtdhloijdefnkpaaGreatDoor
open Go.RowKit Pl

theorem collapseSelf_any {p : Addr} {s : Lts} {n m : Nat} {f : Nat → Int} (hr : s.Right) (hn : s.st = (n : Int)) (hc : Cyc s n f) {t : Lts} (ht : t = col s (fl n (clf n f))) (hm : t.st = (m : Int)) {a : Option Addr} {b off c : Nat} {w : World}
    (hG : GErr 1 p w) (hS : SlAt encE 3 w a b off t.es) :
    Calls Tryz.prog 44 #[.agg #[.int .i64 m, .int .i64 t.lb, .int .i64 t.s0, .slice a t.es.length c]] w fun e w' => ∃ v ve, e = .returned (.tuple #[.agg #[.int .i64 m, .int .i64 t.lb, .int .i64 t.s0, ve], v, .nilIface]) ∧
      (∃ L : List Int, L.length = m ∧ w'.ownsRow w.heap.size 3 1 v L.length (L.flatMap encI)) ∧ w'.ownsRow w.heap.size 35 3 ve t.es.length (t.es.flatMap encE) ∧ Below w.heap.size w w' := by
  have htr : t.Right := by rw [ht]; exact col_right hr hn
  have h := collapseYes_any (c := c) htr hm hG hS
  rw [hm] at h
  refine h.mono ?_
  rintro e w' ⟨g, v, ve, hg, rfl, h1, h2, hB⟩
  have hcc : col t (fl m (clf m g)) = t := by
    rw [ht] at hg hm ⊢
    exact self_col hr hn hc hm hg
  rw [hcc, hm]
  rw [hcc] at h2
  exact ⟨v, ve, rfl, ⟨fl m (clf m g), fl_len _ _, by rw [fl_len]; exact h1⟩, h2, hB⟩

theorem orderSelf_any {p : Addr} {s : Lts} {n m : Nat} {f : Nat → Int} (hr : s.Right) (hn : s.st = (n : Int)) (hc : Cyc s n f) {t : Lts} (ht : t = col s (fl n (clf n f))) (hm : t.st = (m : Int)) {a : Option Addr} {b off c : Nat} {w : World}
    (hG : GErr 1 p w) (hS : SlAt encE 3 w a b off t.es) :
    Calls Tryz.prog 45 #[.agg #[.int .i64 m, .int .i64 t.lb, .int .i64 t.s0, .slice a t.es.length c]] w fun e w' => ∃ (D : List Nat) (v : Value), e = .returned (.tuple #[v, .nilIface]) ∧ OrdL t m D ∧ D.length = m ∧ (∀ k, k < m → k ∈ D) ∧
      w'.ownsRow w.heap.size 3 1 v (D.map Int.ofNat).length ((D.map Int.ofNat).flatMap encI) ∧ Below w.heap.size w w' := by
  have htr : t.Right := by rw [ht]; exact col_right hr hn
  have h := orderYes_any (c := c) htr hm hG hS
  rw [hm] at h
  refine h.mono ?_
  rintro e w' ⟨g, D, v, hg, hD, hall, rfl, h1, hB⟩
  have hcc : col t (fl m (clf m g)) = t := by
    rw [ht] at hg hm ⊢
    exact self_col hr hn hc hm hg
  have hcl : fl m (clf m g) = (List.range m).map Int.ofNat := by
    rw [ht] at hg
    exact self_cls hr hn hc hg
  rw [hcc, hcl] at hD
  rw [hcl] at hall h1
  have hml : (dist ((List.range m).map Int.ofNat)).length = m := by rw [dist_ofNat]; simp
  rw [hml] at hD hall
  have hl := ord_len hD hall
  rw [flat_self D hD.rng] at h1
  exact ⟨D, v, rfl, hD, hl, hall, by rw [List.length_map, hl]; exact h1, hB⟩
end Go.Proofs.YtdhloijdefnkpaaGreatDoor

namespace Go.Proofs.YtdhloijdefnkpaaGreatDoor
open Go.RowKit Pl

def brName : ByteArray := ⟨#[98, 114, 97, 110, 99, 104, 105, 110, 103]⟩
/-- What Classes answers of a right system. -/
def BrPost (s : Lts) (n : Nat) (w : World) (e : Ending) (w' : World) : Prop :=
  ∃ (R : List Int) (a : Option Addr) (b c : Nat), BrRes s n R ∧ e = .returned (.tuple #[.slice a n c, .nilIface]) ∧ w'.ownsRow w.heap.size 3 1 (.slice a n c) n (R.flatMap encI) ∧ SlAt encI 1 w' a b 0 R ∧ Below w.heap.size w w'

theorem sysB {w : World} {B : Nat} {x y z : Int} {v : Value} (h : w.heap[B]? = some (.cells #[.int .i64 x, .int .i64 y, .int .i64 z, v] 24 (0, 0))) :
    w.cell? ⟨B, 0, none⟩ = some (.int .i64 x) ∧ w.cell? ⟨B, 1, none⟩ = some (.int .i64 y) ∧ w.cell? ⟨B, 2, none⟩ = some (.int .i64 z) ∧ w.cell? ⟨B, 3, none⟩ = some v ∧ B < w.heap.size := by
  refine ⟨?_, ?_, ?_, ?_, (Array.getElem?_eq_some_iff.1 h).1⟩ <;> simp [World.cell?, h]

set_option maxRecDepth 100000 in
set_option maxHeartbeats 8000000 in
theorem brClasses_any {p : Addr} {s : Lts} {n : Nat} (hr : s.Right) (hn : s.st = (n : Int)) (hel : s.es.length ≤ 900) {a : Option Addr} {b off c : Nat} {w : World} (hG : GErr 1 p w) (htab : Lib.TabIs Tryz.prog w "internal/strconv.uint64pow10" .u64 Lib.pow10Tab) (hS : SlAt encE 3 w a b off s.es) :
    Calls Tryz.prog 21 #[.agg #[.int .i64 s.st, .int .i64 s.lb, .int .i64 s.s0, .slice a s.es.length c]] w (BrPost s n w) := by
  have hst := hr.st0
  have hn1 : n ≤ 1000 := by omega
  have hB0 := (Below.refl w.heap.size w).alloc (Nat.le_refl _) (Obj.cells #[.int .i64 s.st, .int .i64 s.lb, .int .i64 s.s0, .slice a s.es.length c] 24)
  have hbx := heap_alloc_new w (Obj.cells #[.int .i64 s.st, .int .i64 s.lb, .int .i64 s.s0, .slice a s.es.length c] 24)
  have HCK := Lib.hid (check_ok hr a b off c _ (hG.below hB0) (hS.below hB0 (Nat.le_refl _)))
  have HG := Lib.hid hG; have HS := Lib.hid hS; have HB0 := Lib.hid hB0; have HBX := Lib.hid hbx; have HR := Lib.hid hr; have HN := Lib.hid hn; have HT := Lib.hid (Lib.tabBelow_of_tabIs htab); have HEL := Lib.hid hel
  rw [hn] at HCK HB0 HBX ⊢
  clear hG hS hB0 hbx hr hn hst htab hel
  go_enter Tryz.func21, Tryz.ntmps21
  go_wp2_with fail
  refine HCK.out.mono ?_
  rintro e w1 ⟨rfl, hB1⟩
  have hb1 := HB0.out.trans (hB1.mono (by simp))
  have hx1 := (hB1.block w.heap.size (by simp)).trans HBX.out
  have hco := collapseYes_any (c := c) HR.out HN.out (HG.out.below hb1) (HS.out.below hb1 (Nat.le_refl _))
  rw [HN.out] at hco
  have HCO := Lib.hid hco; have HB1 := Lib.hid hb1; have HX1 := Lib.hid hx1
  obtain ⟨x0, x1, x2, x3, x4⟩ := sysB hx1
  clear hb1 hx1 hco hB1 HB0 HBX HCK
  go_wp2_with fail
  refine HCO.out.mono ?_
  unfold ColPost
  rintro e w2 ⟨f, v, ve, hcyc, rfl, hown, howne, hB2⟩
  obtain ⟨t, ht⟩ : ∃ t, t = col s (fl n (clf n f)) := ⟨_, rfl⟩
  obtain ⟨m, hm⟩ : ∃ m, m = (dist (fl n f)).length := ⟨_, rfl⟩
  have htst : t.st = (m : Int) := by rw [ht, hm]; exact col_st s n f
  rw [← ht] at howne ⊢
  obtain ⟨ca, cc, cb, rfl, _, _, hcs, _⟩ := slAt_own (xs := fl n (clf n f)) lenI (by rw [fl_len]; exact hown)
  obtain ⟨ea, ec, eb, rfl, _, _, hes, _⟩ := slAt_own lenE howne
  rw [fl_len]
  have hmn : m ≤ n := by rw [hm]; have := dist_len (fl n f); rw [fl_len] at this; exact this
  have htr : t.Right := by rw [ht]; exact col_right HR.out HN.out
  have hts : Srt ltE t.es := by rw [ht]; exact col_srt s _
  have htl : t.es.length ≤ 900 := by
    rw [ht]
    have h1 := colE_len (fl n (clf n f)) s.es
    have h2 := length_nf (lt := ltE) (colE (fl n (clf n f)) s.es)
    have h3 := HEL.out
    show (nf ltE (colE (fl n (clf n f)) s.es)).length ≤ 900
    omega
  have htn : t.norm = t := by
    have h1 : nf ltE t.es = t.es := nf_of_srt stoE hts
    unfold Lts.norm
    rw [h1]
  rw [htst]
  have hb2 := HB1.out.trans (hB2.mono HB1.out.size)
  have hx2 := (hB2.block w.heap.size (Array.getElem?_eq_some_iff.1 HX1.out).1).trans HX1.out
  have hBe := (Below.refl w2.heap.size w2).alloc (Nat.le_refl _) (Obj.cells #[.int .i64 m, .int .i64 t.lb, .int .i64 t.s0, .slice ea t.es.length ec] 24)
  have hb3 := hb2.trans (hBe.mono hb2.size)
  have HX3 := Lib.hid ((hBe.block w.heap.size (Array.getElem?_eq_some_iff.1 hx2).1).trans hx2)
  have HU3 := Lib.hid (heap_alloc_new w2 (Obj.cells #[.int .i64 m, .int .i64 t.lb, .int .i64 t.s0, .slice ea t.es.length ec] 24))
  have HES := Lib.hid (hes.below hBe (Nat.le_refl _)); have HCS := Lib.hid (hcs.below hBe (Nat.le_refl _)); have HB3 := Lib.hid hb3
  have HOS := Lib.hid (orderSelf_any (c := ec) HR.out HN.out hcyc ht htst (HG.out.below hb3) HES.out)
  have HTR := Lib.hid htr; have HTS := Lib.hid hts; have HTL := Lib.hid htl; have HTN := Lib.hid htn; have HTST := Lib.hid htst
  have HRES : RowKit.Hid (∀ C, Rounds t m C → Still t m C → BrRes s n (fl n (clf n (fun p => C (asF n f p))))) := Lib.hid (fun C h1 h2 => ⟨f, C, hcyc, by rw [← ht, ← hm]; exact h1, by rw [← ht, ← hm]; exact h2, rfl⟩)
  have HAS : RowKit.Hid (∀ p, p < n → clf n f p = (asF n f p : Int) ∧ asF n f p < m) := Lib.hid (fun p hp => ⟨asF_eq hp, by rw [hm]; exact asF_lt hp⟩)
  clear hown howne hcs hes hB2 ht hm htst htr hts htl htn hb2 hx2 hBe hb3 hcyc x0 x1 x2 x3 x4 HCO HB1 HX1
  go_upto_region 5 with fail
  obtain ⟨W3, hW3⟩ : ∃ W3, W3 = w2.alloc (Obj.cells #[.int .i64 m, .int .i64 t.lb, .int .i64 t.s0, .slice ea t.es.length ec] 24) := ⟨_, rfl⟩
  obtain ⟨tb, htb⟩ : ∃ tb, tb = w2.heap.size := ⟨_, rfl⟩
  rw [← hW3] at HX3 HU3 HES HCS HB3 HOS ⊢
  rw [← htb] at HU3 ⊢
  clear hW3 htb
  obtain ⟨y0, y1, y2, y3, y4⟩ := sysB HU3.out
  go_wp2_with fail
  refine HOS.out.mono ?_
  rintro e w4 ⟨D, v, rfl, hD, hDl, hDa, hown, hB4⟩
  obtain ⟨oa, oc, ob, rfl, _, _, hos, _⟩ := slAt_own lenI hown
  rw [List.length_map, hDl]
  have hb4 := HB3.out.trans (hB4.mono HB3.out.size)
  have HX4 := Lib.hid ((hB4.block w.heap.size (Array.getElem?_eq_some_iff.1 HX3.out).1).trans HX3.out)
  have hu4 := (hB4.block tb (Array.getElem?_eq_some_iff.1 HU3.out).1).trans HU3.out
  have hnw := new_ok (c := ec) HTR.out (HG.out.below hb4) (HES.out.below hB4 (Nat.le_refl _))
  rw [HTST.out, HTN.out] at hnw
  have HNW := Lib.hid hnw; have HCS4 := Lib.hid (HCS.out.below hB4 (Nat.le_refl _)); have HB4 := Lib.hid hb4; have HOS4 := Lib.hid hos
  have HD := Lib.hid hD; have HDL := Lib.hid hDl; have HDA := Lib.hid hDa
  clear y0 y1 y2 y3 y4
  obtain ⟨y0, y1, y2, y3, y4⟩ := sysB hu4
  clear hown hos hD hDl hDa hB4 hb4 hu4 hnw HX3 HU3 HES HCS HB3 HOS
  go_wp2_with fail
  refine HNW.out.mono ?_
  rintro e w5 ⟨gb, rfl, hgr, hB5, _⟩
  have hb5 := HB4.out.trans (hB5.mono HB4.out.size)
  have HX5 := Lib.hid ((hB5.block w.heap.size (Array.getElem?_eq_some_iff.1 HX4.out).1).trans HX4.out)
  have HPA := Lib.hid (part_any (oc := oc) hgr HTR.out HTST.out HTS.out HD.out HDL.out HDA.out HTL.out (HOS4.out.below hB5 (Nat.le_refl _)) (HT.out _ hb5))
  have HCS5 := Lib.hid (HCS4.out.below hB5 (Nat.le_refl _)); have HB5 := Lib.hid hb5
  clear hgr hB5 hb5 HNW HX4 HCS4 HB4 HOS4 y0 y1 y2 y3 y4
  go_wp2_with fail
  refine HPA.out.mono ?_
  rintro e w6 ⟨qb, C, rfl, hqs, hro, hsti, hCr, hB6⟩
  have hb6 := HB5.out.trans (hB6.mono HB5.out.size)
  have hx6 := (hB6.block w.heap.size (Array.getElem?_eq_some_iff.1 HX5.out).1).trans HX5.out
  have HCS6 := Lib.hid (HCS5.out.below hB6 (Nat.le_refl _)); have HB6 := Lib.hid hb6; have HQS := Lib.hid hqs
  have HRS := Lib.hid (HRES.out C hro hsti)
  have HCR := Lib.hid hCr
  have hmk := run_make_row' (P := Tryz.prog) 33 3 (.int .i64 0) 8 Tryz.underlying33 (by kernel_rfl) rfl .i64 .i64 n (by omega) (by omega)
  obtain ⟨x0, x1, x2, x3, x4⟩ := sysB hx6
  have hrow := (World.rowIs_made w6 (.int .i64 0) n 3).congr (g := fun j => .int .i64 (if j < 0 then C (asF n f j) else 0)) (fun j _ => by simp)
  have HROW := Lib.hid hrow
  have hbz := (Below.refl w6.heap.size w6).alloc (Nat.le_refl _) (.cells (madeCells #[.int .i64 0] n) 3)
  have HBZ := Lib.hid hbz
  have hw6 := hb6.size
  clear hqs hro hsti hCr hB6 hb6 hx6 hrow hbz HPA HX5 HCS5 HB5
  go_wp2_with fail
  obtain ⟨zb, hzb⟩ : ∃ zb, zb = w6.heap.size := ⟨_, rfl⟩
  rw [← hzb] at HROW ⊢
  have hzlo : w6.heap.size ≤ zb := by omega
  clear hzb x0 x1 x2 x3 x4 hmk
  go_loopw [14, 15, 46] (fun _ _ v46 wx => ∃ i : Nat, v46 = .int .i64 i ∧ i ≤ n ∧ wx.rowIs zb 3 n (fun j => .int .i64 (if j < i then C (asF n f j) else 0)) ∧ Below w6.heap.size w6 wx) (fun _ _ v46 _ => n - (intOf v46).toNat)
  case atStart => exact ⟨0, rfl, Nat.zero_le _, HROW.out, HBZ.out⟩
  case round =>
    obtain ⟨i, rfl, hi, hrow, hB⟩ := hrel
    have HRO := Lib.hid hrow; have HBX := Lib.hid hB
    have hwx := hB.size
    have hzl := hrow.lt
    clear hrow hB HROW HBZ
    by_cases hin : i < n
    · have hcs := HCS6.out.below HBX.out (Nat.le_refl _)
      obtain rfl := hcs.ad (by rw [fl_len]; omega)
      have c0 := hcs.ci (fl_get (clf n f) hin)
      have cl := hcs.lt (by rw [fl_len]; omega)
      have has := HAS.out i hin
      rw [has.1] at c0
      obtain ⟨k, hk⟩ : ∃ k, k = asF n f i := ⟨_, rfl⟩
      rw [← hk] at c0 has
      have hkm := has.2
      have hqs := HQS.out.below HBX.out (Nat.le_refl _)
      have q0 := hqs.ci (fl_get C hkm)
      have ql := hqs.lt (by rw [fl_len]; omega)
      simp only [Nat.zero_add] at c0 q0
      have zf := HRO.out.frozen i
      have zc := HRO.out.cell hin
      have HNX := Lib.hid ((HRO.out.set i (.int .i64 (C k))).congr (g := fun j => .int .i64 (if j < i + 1 then C (asF n f j) else 0)) (fun j _ => by
        by_cases e : j = i
        · subst e; rw [if_pos rfl, if_pos (by omega), hk]
        · rw [if_neg e]
          by_cases h : j < i
          · rw [if_pos h, if_pos (by omega)]
          · rw [if_neg h, if_neg (by omega)]))
      obtain ⟨ck, hck⟩ : ∃ ck, ck = C k := ⟨_, rfl⟩
      rw [← hck] at q0 HNX
      have hiI : (i : Int) < (n : Int) := by omega
      have hkI : (k : Int) < (m : Int) := by omega
      clear hcs has hk hqs hck HRO
      go_wp2_with fail
      go_roundw
      case rel => exact ⟨i + 1, by go_num, by omega, HNX.out, HBX.out.setCell hzlo _⟩
      case measure => simp [intOf]; omega
    · obtain rfl : n = i := by omega
      have hr2 : wr.rowIs zb 3 n (fun j => .int .i64 (C (asF n f j))) := HRO.out.congr (fun j hj => by simp only [if_pos hj])
      have hsl := rowIs_sl (f := fun j => C (asF n f j)) hr2
      have hcn := canon_any (c := n) hsl (by rw [fl_len]; omega) (fun x hx => by
        obtain ⟨j, hj, rfl⟩ := List.mem_map.1 hx
        have h1 := HAS.out j (List.mem_range.1 hj)
        have h2 := HCR.out _ h1.2
        exact WalkArith.wf_i64 (by omega))
      rw [fl_len, canon_fl] at hcn
      have HCN := Lib.hid hcn
      have hbz := HB6.out.trans (HBX.out.mono hw6)
      have HBZ := Lib.hid hbz
      clear hr2 hsl hcn hbz HRO HBX
      go_wp2_with fail
      refine HCN.out.mono ?_
      rintro e w9 ⟨v, rfl, hown, hB9⟩
      have hlen : (fl n (clf n (fun j => C (asF n f j)))).length = n := fl_len _ _
      obtain ⟨R, hR⟩ : ∃ R, R = fl n (clf n (fun j => C (asF n f j))) := ⟨_, rfl⟩
      have hres := HRS.out
      rw [← hR] at hown hlen hres
      have hown2 : w9.ownsRow wr.heap.size 3 1 v R.length (R.flatMap encI) := by rw [hlen]; exact hown
      obtain ⟨ra, rc, rb, rfl, _, _, hrs, _⟩ := slAt_own lenI hown2
      rw [hlen] at hown2 ⊢
      have hb9 := HBZ.out.trans (hB9.mono HBZ.out.size)
      have HO9 := Lib.hid (own_mono hown2 HBZ.out.size); have HB9 := Lib.hid hb9; have HRS9 := Lib.hid hrs; have HRES9 := Lib.hid hres
      clear hown hown2 hrs hb9 hB9 hlen hR hres
      go_wp2_with fail
      go_ret2
      exact ⟨R, ra, rb, rc, HRES9.out, rfl, HO9.out, HRS9.out, HB9.out⟩

set_option maxRecDepth 100000 in
set_option maxHeartbeats 2000000 in
theorem brClassesNo_any {p : Addr} {s : Lts} (h : ¬ s.Right) {a : Option Addr} {b off c : Nat} {w : World} (hG : GErr 1 p w) (hT : ErrType w) (hS : SlAt encE 3 w a b off s.es) :
    Calls Tryz.prog 21 #[.agg #[.int .i64 s.st, .int .i64 s.lb, .int .i64 s.s0, .slice a s.es.length c]] w fun e w' => ∃ fb : Nat, e = .returned (.tuple #[.slice none 0 0, .iface 73 (.pointer (some ⟨fb, 0, none⟩))]) ∧ Below w.heap.size w w' := by
  have hB0 := (Below.refl w.heap.size w).alloc (Nat.le_refl _) (Obj.cells #[.int .i64 s.st, .int .i64 s.lb, .int .i64 s.s0, .slice a s.es.length c] 24)
  have HCK := Lib.hid (check_no h a b off c _ (hG.below hB0) (hS.below hB0 (Nat.le_refl _)))
  have HB0 := Lib.hid hB0; have HT := Lib.hid hT
  clear hB0 hS hG hT h
  go_enter Tryz.func21, Tryz.ntmps21
  go_wp2_with fail
  refine HCK.out.mono ?_
  rintro e w1 ⟨v, rfl, hF, hB1⟩
  obtain ⟨fb, rfl, hfb⟩ := hF.ex
  have HB1 := Lib.hid (HB0.out.trans (hB1.mono (by simp)))
  have HA := Lib.hid (faultAs_any brName (HT.out.below HB1.out) hfb)
  clear hB1 hfb hF HB0 HCK
  unfold brName at HA
  go_wp2_with fail
  refine HA.out.mono ?_
  rintro e w2 ⟨v, rfl, hF2, hB2⟩
  obtain ⟨fb, rfl, hfb⟩ := hF2.ex
  have HB2 := Lib.hid (HB1.out.trans (hB2.mono HB1.out.size))
  clear hF2 hfb hB2 HB1 HA
  go_wp2_with fail
  go_ret2
  exact ⟨fb, rfl, HB2.out⟩
end Go.Proofs.YtdhloijdefnkpaaGreatDoor

/-
  branching.inert, branching.signatures.
-/
import Derived.Test.YtdhloijdefnkpaaGreatDoorBrS
import Derived.Test.YtdhloijdefnkpaaGreatDoorGWkC
import Derived.Test.YtdhloijdefnkpaaGreatDoorGGraphC
import Derived.Test.YtdhloijdefnkpaaGreatDoorGTauJ
import Derived.Deep.QuietTactic
import Derived.BigQuiet
namespace Go.Proofs.YtdhloijdefnkpaaGreatDoor
open Go.RowKit Pl

set_option maxRecDepth 100000 in
theorem inert_any {w : World} {a : Option Addr} {b off c n : Nat} {C : Nat → Int} (hC : SlAt encI 1 w a b off (fl n C)) {p t : Nat} (hp : p < n) (ht : t < n) (l : Int) :
    Calls Tryz.prog 126 #[.int .i64 (p : Int), .agg #[.int .i64 l, .int .i64 (t : Int)], .slice a n c] w fun e w' => e = .returned (.bool (decide (l = 0) && decide (C t = C p))) ∧ Below w.heap.size w w' := by
  obtain rfl := hC.ad (by rw [fl_len]; omega)
  have hcp := hC.ci (fl_get C hp)
  have hct := hC.ci (fl_get C ht)
  have hb := hC.lt (by rw [fl_len]; omega)
  have hpI : (p : Int) < (n : Int) := by omega
  have htI : (t : Int) < (n : Int) := by omega
  obtain ⟨x, hx⟩ : ∃ x, x = C p := ⟨_, rfl⟩
  obtain ⟨y, hy⟩ : ∃ y, y = C t := ⟨_, rfl⟩
  rw [← hx] at hcp ⊢; rw [← hy] at hct ⊢
  clear hC hx hy
  have hB := (Below.refl w.heap.size w).alloc (Nat.le_refl _) (.cells #[.int .i64 l, .int .i64 (t : Int)] 107)
  have HB := Lib.hid hB; clear hB
  by_cases hl : l = 0
  · subst hl
    go_enter Tryz.func126, Tryz.ntmps126
    go_wp2_with fail
    go_region
    all_goals
      go_wp2_with fail
      go_ret
      exact ⟨by congr 1; simp [eq_comm, Bool.beq_eq_decide_eq], bdrew HB.out⟩
  · have hd : (l == 0) = false := by simp [hl]
    go_enter Tryz.func126, Tryz.ntmps126
    go_wp2_with fail
    go_region
    all_goals
      go_wp2_with fail
      go_ret
      exact ⟨by simp [hl], bdrew HB.out⟩

theorem oneES' (x : S) : ∀ u ∈ encS x, u.oneCell' = true := by
  intro u hu
  simp [encS] at hu
  rcases hu with rfl | rfl <;> rfl

set_option maxRecDepth 100000 in
set_option maxHeartbeats 8000000 in
/-- branching.signatures: what states do behind inert steps, by classes. -/
theorem sig_any {w : World} {gb : Nat} {t : Lts} {m : Nat} (hg : GraphAt w gb t) (hr : t.Right) (hn : t.st = (m : Int)) (hs : Srt ltE t.es) {C : Nat → Int} {D : List Nat} (hD : OrdL t m D) (hDl : D.length = m) (hall : ∀ k, k < m → k ∈ D) (he : t.es.length ≤ 900)
    {ca oa : Option Addr} {cb co cc ob oo oc : Nat} (hC : SlAt encI 1 w ca cb co (fl m C)) (hO : SlAt encI 1 w oa ob oo (D.map Int.ofNat)) :
    Calls Tryz.prog 96 #[.pointer (some ⟨gb, 0, none⟩), .slice ca m cc, .slice oa m oc] w fun e w' => ∃ (tb base : Nat) (F : Nat → List S), e = .returned (.slice (some ⟨tb, 0, none⟩) m m) ∧ OwnRows encS 2 107 104 w' base tb m F ∧ w.heap.size ≤ tb ∧ base ≤ w'.heap.size ∧ Below w.heap.size w w' ∧ ∀ p, p < m → SigOk t C p (F p) := by
  have hm1 : m ≤ 1000 := by have := hr.st0; omega
  have hmk := run_make_row' (P := Tryz.prog) 78 104 (.slice none 0 0) 24 Tryz.underlying78 (by kernel_rfl) rfl .i64 .i64 m (by omega) (by omega)
  have hgs := getStates_any hg
  rw [hn] at hgs
  have HG := Lib.hid hg; have HR := Lib.hid hr; have HN := Lib.hid hn; have HSR := Lib.hid hs; have HD := Lib.hid hD; have HDL := Lib.hid hDl; have HALL := Lib.hid hall; have HE := Lib.hid he; have HC := Lib.hid hC; have HO := Lib.hid hO; have HGS := Lib.hid hgs
  clear hg hr hn hs hD hDl hall he hC hO hgs
  go_enter Tryz.func96, Tryz.ntmps96
  go_wp2_with fail
  refine HGS.out.mono ?_
  rintro e w1 ⟨rfl, hB1⟩
  have hrw := OwnRows.made (enc := encS) (k := 2) (e := 107) (T := 104) (w := w1) (n := m)
  have hb1 := (hB1.alloc hB1.size (.cells (madeCells #[.slice none 0 0] m) 104))
  have HRW := Lib.hid hrw; have HB1 := Lib.hid hb1
  have hTB : w.heap.size ≤ w1.heap.size := hB1.size
  clear hrw hb1 hB1 HGS
  go_wp2_with fail
  obtain ⟨tb, htb⟩ : ∃ tb, tb = w1.heap.size := ⟨_, rfl⟩
  obtain ⟨base, hbase⟩ : ∃ base, base = w1.heap.size + 1 := ⟨_, rfl⟩
  have hbs0 : (w1.alloc (.cells (madeCells #[.slice none 0 0] m) 104)).heap.size = base := by rw [hbase]; simp
  rw [← hbase] at HRW
  rw [← htb] at HRW hTB ⊢
  have hbt : tb < base := by omega
  have hbsz : base ≤ (w1.alloc (.cells (madeCells #[.slice none 0 0] m) 104)).heap.size := by omega
  have HBSZ := Lib.hid hbsz
  clear htb hbase hbs0 hbsz
  go_loopw [9, 10, 12, 18] (fun _ _ _ v18 wr => ∃ (i : Nat) (F : Nat → List S), v18 = .int .i64 i ∧ i ≤ m ∧ OwnRows encS 2 107 104 wr base tb m F ∧ base ≤ wr.heap.size ∧ Below w.heap.size w wr ∧ (∀ p, p ∈ D.take i → SigOk t C p (F p)) ∧ (∀ p, p ∉ D.take i → F p = [])) (fun _ _ _ v18 _ => m - (intOf v18).toNat)
  case atStart => exact ⟨0, fun _ => [], rfl, Nat.zero_le _, HRW.out, HBSZ.out, HB1.out, by simp, fun _ _ => rfl⟩
  case round =>
    obtain ⟨i, F, rfl, hi, hrw, hbs, hB, hF, hF0⟩ := hrel
    have HRX := Lib.hid hrw; have HB := Lib.hid hB; have HF := Lib.hid hF; have HF0 := Lib.hid hF0
    have hws := hB.size
    clear hrw hB hF hF0 HRW HB1 HBSZ
    by_cases him : i < m
    · obtain ⟨p, hp⟩ := getElem?_of_lt (xs := D) (i := i) (by have := HDL.out; omega)
      have hpm := HD.out.rng p (List.mem_of_getElem? hp)
      have hos := HO.out.below HB.out (Nat.le_refl _)
      have hpI : (D.map Int.ofNat)[i]? = some (p : Int) := by rw [List.getElem?_map, hp]; rfl
      obtain rfl := hos.ad (by rw [List.length_map]; have := HDL.out; omega)
      have d0 := hos.ci hpI
      have dl := hos.lt (by rw [List.length_map]; have := HDL.out; omega)
      have hiI : (i : Int) < (m : Int) := by omega
      have HEA := Lib.hid (each_any HG.out HB.out (p : Int))
      have HAH : RowKit.Hid (∀ x, tau t p x → SigOk t C x (F x)) := Lib.hid (fun x hx => HF.out x (HD.out.ahead HR.out HSR.out _ _ _ hp hx))
      have HP := Lib.hid hp
      clear hos hpI hp
      go_wp2_with fail
      refine HEA.out.mono ?_
      rintro e wb ⟨⟨a2, c2, b2, off2, rfl, hc2, hm2, hss⟩, hBb⟩
      have HSS := Lib.hid hss
      have HRB := Lib.hid (HRX.out.call hBb)
      have hBB : Below w.heap.size w wb := HB.out.trans (hBb.mono hws)
      have HBB := Lib.hid hBB
      have hbs2 : base ≤ wb.heap.size := by have := hBb.size; omega
      have hws2 := hBB.size
      obtain ⟨ol, hole⟩ : ∃ ol, ol = (t.outs (p : Int)).length := ⟨_, rfl⟩
      have hole2 : ol ≤ 900 := by have := HE.out; have := outs_leB t (p : Int); omega
      rw [← hole]
      have HOL := Lib.hid hole
      clear hss hBb hc2 hm2 hBB HEA HRX HB hole d0 dl hws hbs
      go_wp2_with fail
      go_loopw [10, 12, 26] (fun v10 _ v26 wx => ∃ (r ll : Nat), v26 = .int .i64 r ∧ r ≤ ol ∧ ll = (((t.outs (p : Int)).take r).flatMap (shareB C F p)).length ∧ wx.ownsRow wb.heap.size 107 2 v10 ll ((((t.outs (p : Int)).take r).flatMap (shareB C F p)).flatMap encS) ∧ Below wb.heap.size wb wx) (fun _ _ v26 _ => ol - (intOf v26).toNat)
      case atStart => exact ⟨0, 0, rfl, Nat.zero_le _, rfl, World.ownsRow_nil _ _ _ _, Below.refl _ _⟩
      case round =>
        obtain ⟨r, ll, rfl, hr, hll, hown, hBx⟩ := hrel
        have HOW := Lib.hid hown; have HBX := Lib.hid hBx; have HLL := Lib.hid hll
        have hwx := hBx.size
        clear hown hBx hll
        by_cases hro : r < ol
        · obtain ⟨y, hy⟩ := getElem?_of_lt (xs := t.outs (p : Int)) (i := r) (by rw [← HOL.out]; exact hro)
          have hss := HSS.out.below (HBB.out.trans (HBX.out.mono hws2)) (Nat.le_refl _)
          obtain rfl := hss.ad (by rw [← HOL.out]; omega)
          have d0 := hss.s0 hy; have d1 := hss.s1 hy
          have dl := hss.lt (by rw [← HOL.out]; omega)
          have hyr := offB_false.1 (HR.out.edges _ (mem_outs.1 (List.mem_of_getElem? hy)))
          have HSN : RowKit.Hid (((t.outs (p : Int)).take (r + 1)).flatMap (shareB C F p) = ((t.outs (p : Int)).take r).flatMap (shareB C F p) ++ shareB C F p y) := Lib.hid (by rw [take_snoc hy, List.flatMap_append]; simp)
          obtain ⟨y1, y2⟩ := y
          simp only at hyr d0 d1
          obtain ⟨q, rfl⟩ := Int.eq_ofNat_of_zero_le hyr.2.2.2.2.1
          have hqm : q < m := by have := HN.out; omega
          have hrI : (r : Int) < (ol : Int) := by omega
          have hqI : (q : Int) < (m : Int) := by omega
          have hbw : Below wb.heap.size wb (wr.alloc (.cells #[.int .i64 y1, .int .i64 (q : Int)] 107)) := HBX.out.alloc hwx _
          have HIN := Lib.hid (inert_any (c := cc) (HC.out.below (HBB.out.trans (hbw.mono hws2)) (Nat.le_refl _)) hpm hqm y1)
          have hx0 := heap_alloc_new wr (.cells #[.int .i64 y1, .int .i64 (q : Int)] 107)
          have HX0 := Lib.hid hx0; have HBW := Lib.hid hbw
          have hlm : ll ≤ 900 * 900 := by
            rw [HLL.out]
            refine Nat.le_trans (share_len (k := 900) (by omega) (fun x => ?_) _) (Nat.mul_le_mul_right _ (by rw [List.length_take]; omega))
            by_cases hx : x ∈ D.take i
            · have h1 := (HF.out x hx).len; have h2 := HE.out; omega
            · rw [HF0.out x hx]; simp
          clear hss hy hyr hbw hx0
          go_upto_region 9 with fail
          go_wp2_with fail
          refine HIN.out.mono ?_
          rintro e V ⟨rfl, hBV⟩
          have hxv := (hBV.block wr.heap.size (by simp)).trans HX0.out
          have f0 : V.cell? ⟨wr.heap.size, 0, none⟩ = some (.int .i64 y1) := by simp [World.cell?, hxv]
          have f1 : V.cell? ⟨wr.heap.size, 1, none⟩ = some (.int .i64 (q : Int)) := by simp [World.cell?, hxv]
          have fl0 := (Array.getElem?_eq_some_iff.1 hxv).1
          have hbv := HBW.out.trans (hBV.mono (by simp; omega))
          have hwv := hbv.size
          have hov : V.ownsRow wb.heap.size 107 2 u10 ll ((((t.outs (p : Int)).take r).flatMap (shareB C F p)).flatMap encS) := own_below (HOW.out.alloc _) hBV
          have HBV := Lib.hid hbv; have HOV := Lib.hid hov
          clear hxv hBV hbv hov HIN HX0 HBW d0 d1 dl
          by_cases hin : y1 = 0 ∧ C q = C p
          · obtain ⟨rfl, hcq⟩ := hin
            have hbt1 : (decide ((0 : Int) = 0) && decide (C q = C p)) = true := by simp [hcq]
            have HSH : RowKit.Hid (shareB C F p (0, (q : Int)) = F q) := Lib.hid (by unfold shareB; simp [hcq])
            rw [hbt1]
            obtain ⟨vq, hvq, hvf, hvo⟩ := (HRB.out.call HBV.out).at hqm
            obtain ⟨va, vc, vb, rfl, _, _, hsl, _⟩ := slAt_own lenS hvo
            have htl := (HRB.out.call HBV.out).size
            have hFl : (F q).length ≤ 900 := by
              by_cases hx : q ∈ D.take i
              · have h1 := (HF.out q hx).len; have h2 := HE.out; omega
              · rw [HF0.out q hx]; simp
            have HSL := Lib.hid hsl
            obtain ⟨fq, hfq⟩ : ∃ fq, fq = (F q).length := ⟨_, rfl⟩
            rw [← hfq] at hvq hFl
            have HFQ := Lib.hid hfq
            clear hbt1 hcq hvf hvo hsl hfq
            go_wp2_with (at_builtin; refine wpList_appS rfl _ _ _ rfl rowS (base := wb.heap.size) hwv rfl HOV.out lenS oneES' HSL.out (by rw [← HFQ.out]; rfl) (by rw [← HFQ.out]; omega) (by rw [← HFQ.out]; unfold maxLen; omega) ?_; intro v3 w3 hown3 hg3; have hb3 := HBV.out.grown hg3 hwv (fun k hk => (HOV.out.lt k hk).1); have HO3 := Lib.hid hown3; have HB3 := Lib.hid hb3; clear hown3 hg3 hb3)
            go_roundw
            case rel => exact ⟨r + 1, ll + (F q).length, by go_num, by omega, by rw [HSN.out, List.length_append, HSH.out, ← HLL.out], by rw [HSN.out, HSH.out, List.flatMap_append]; exact HO3.out, HB3.out⟩
            case measure => simp [intOf]; omega
          · have hbt1 : (decide (y1 = 0) && decide (C q = C p)) = false := by
              by_cases h1 : y1 = 0
              · by_cases h2 : C q = C p
                · exact absurd ⟨h1, h2⟩ hin
                · simp [h2]
              · simp [h1]
            have HSH : RowKit.Hid (shareB C F p (y1, (q : Int)) = [(y1, C q)]) := Lib.hid (by unfold shareB; simp only [Int.toNat_natCast]; rw [if_neg hin])
            rw [hbt1]
            have hcs := HC.out.below (HBB.out.trans (HBV.out.mono hws2)) (Nat.le_refl _)
            obtain rfl := hcs.ad (by rw [fl_len]; omega)
            have cq := hcs.ci (fl_get C hqm)
            have cl := hcs.lt (by rw [fl_len]; omega)
            obtain ⟨cv, hcv⟩ : ∃ cv, cv = C q := ⟨_, rfl⟩
            rw [← hcv] at cq HSH
            clear hbt1 hin hcs hcv
            go_wp2_with fail
            go_region_law (first
              | (refine step_app1 rfl _ _ _ rfl rowS rfl (World.ownsRow.drew (HOV.out.alloc _)) ⟨V.heap.size, 0, none⟩ 1 1 [.int .i64 y1, .int .i64 cv] rfl rfl (cells2 (by simp [go_sem]) (by simp [go_sem])) (by simp [Value.oneCell']) (by decide) (by omega) (by unfold maxLen; omega) (by simp; omega) ?_; intro g cap w3 hown3 hg3))
            all_goals
              have hb3 := (bdrew (n := 1) (HBV.out.alloc hwv (.cells #[.int .i64 y1, .int .i64 cv] 107))).grown hg3 (by simp [World.drewN]; omega) (fun k hk => (HOV.out.lt k hk).1)
              have HO3 := Lib.hid hown3; have HB3 := Lib.hid hb3
              clear hown3 hg3 hb3 cq cl f0 f1 fl0
              go_wp2_with fail
              go_roundw
              case rel => exact ⟨r + 1, ll + 1, by go_num, by omega, by rw [HSN.out, List.length_append, HSH.out, ← HLL.out]; rfl, by rw [HSN.out, HSH.out, List.flatMap_append]; exact HO3.out, HB3.out⟩
              case measure => simp [intOf]; omega
        · obtain rfl : r = ol := by omega
          have e1 : (t.outs (p : Int)).take r = t.outs (p : Int) := by rw [List.take_of_length_le]; have := HOL.out; omega
          have hown := HOW.out
          rw [e1] at hown
          obtain ⟨L, hL⟩ : ∃ L, L = (t.outs (p : Int)).flatMap (shareB C F p) := ⟨_, rfl⟩
          have hll : ll = L.length := by rw [HLL.out, e1, hL]
          have hlm : ll ≤ 900 * 900 := by
            rw [HLL.out]
            refine Nat.le_trans (share_len (k := 900) (by omega) (fun x => ?_) _) (Nat.mul_le_mul_right _ (by rw [List.length_take]; omega))
            by_cases hx : x ∈ D.take i
            · have h1 := (HF.out x hx).len; have h2 := HE.out; omega
            · rw [HF0.out x hx]; simp
          rw [← hL, hll] at hown
          have HST := Lib.hid (sortedS_any hown (by omega))
          have HLE := Lib.hid hL
          clear e1 hown hL hll HOW HLL
          go_wp2_with fail
          refine HST.out.mono ?_
          rintro e w4 ⟨v4, rfl, hown4, hB4⟩
          obtain ⟨va4, vc4, vb4, rfl, _, _, _, _⟩ := slAt_own lenS hown4
          have hb4 : Below wb.heap.size wb w4 := hB4 HBX.out
          have hput := HRB.out.put (p := p) hb4 hbs2 hown4
          have hbw4 := (HBB.out.trans (hb4.mono hws2)).setCell (p := ⟨tb, p, none⟩) hTB (.slice va4 (nf ltS L).length vc4)
          have hbs4 : base ≤ (w4.setCell ⟨tb, p, none⟩ (.slice va4 (nf ltS L).length vc4)).heap.size := by rw [size_setCell]; have := hb4.size; omega
          obtain ⟨vp, tc, tf, _⟩ := (HRB.out.call hb4).at hpm
          have tl := (HRB.out.call hb4).size
          have HPUT := Lib.hid hput; have HBW4 := Lib.hid hbw4
          have HSG : RowKit.Hid (SigOk t C p (nf ltS L)) := Lib.hid (by rw [HLE.out]; exact sig_step HR.out HAH.out)
          have hpI2 : (p : Int) < (m : Int) := by omega
          clear hown4 hB4 hb4 hput hbw4 HST HBX
          go_wp2_with fail
          go_roundw
          case rel => exact ⟨i + 1, fun x => if x = p then nf ltS L else F x, by go_num, by omega, HPUT.out, hbs4, HBW4.out, fun x hx => by
            by_cases e : x = p
            · subst e; simp only [if_true]; exact HSG.out
            · simp only [if_neg e]; rw [take_snoc HP.out] at hx; simp [e] at hx; exact HF.out x hx, fun x hx => by
            rw [take_snoc HP.out] at hx; simp at hx; simp only [if_neg hx.2]; exact HF0.out x hx.1⟩
          case measure => simp [intOf]; omega
    · obtain rfl : i = m := by omega
      go_wp2_with fail
      go_ret
      refine ⟨tb, base, F, rfl, HRX.out, hTB, hbs, HB.out, fun p hp => HF.out p ?_⟩
      rw [List.take_of_length_le (by have := HDL.out; omega)]
      exact HALL.out p hp
end Go.Proofs.YtdhloijdefnkpaaGreatDoor

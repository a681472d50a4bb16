/-
  law17.SimulOrder.
-/
import Derived.Test.YtbbjmompbmgnmaaDoorSimT
namespace Go.Proofs.YtbbjmompbmgnmaaDoor
open Go.RowKit Pl

set_option maxRecDepth 100000 in
set_option maxHeartbeats 8000000 in
theorem simulOrder_any {w : World} {p0 : Addr} (hG : GErr 0 p0 w) (hT : Tab w) {s : Lts} {a : Option Addr} {b off c : Nat} (hS : SlAt encE 3 w a b off s.es) :
    Calls Tryd.prog 4 #[.agg #[.int .i64 s.st, .int .i64 s.lb, .int .i64 s.s0, .slice a s.es.length c]] w fun e w' => e = .returned (.bool true) ∧ Below w.heap.size w w' := by
  have hB0 := (Below.refl w.heap.size w).alloc (Nat.le_refl _) (Obj.cells #[.int .i64 s.st, .int .i64 s.lb, .int .i64 s.s0, .slice a s.es.length c] 24)
  have hbx := heap_alloc_new w (Obj.cells #[.int .i64 s.st, .int .i64 s.lb, .int .i64 s.s0, .slice a s.es.length c] 24)
  have HG := Lib.hid hG; have HT := Lib.hid hT; have HS := Lib.hid hS; have HB0 := Lib.hid hB0; have HBX := Lib.hid hbx
  have HSM := Lib.hid (small17_any (c := c) (hG.below hB0) (hS.below hB0 (Nat.le_refl _)))
  clear hG hT hS hB0 hbx
  have ALV : RowKit.Hid (∀ w1 : World, Below w.heap.size w w1 → Calls Tryd.prog 13 #[] w1 fun e w' => e = .returned (.bool true) ∧ Below w.heap.size w w') := Lib.hid (by
    intro w1 h1
    refine (alive17_any (HG.out.below h1) (HT.out.below h1)).mono ?_
    rintro e w' ⟨rfl, hB⟩
    exact ⟨rfl, h1.trans (hB.mono h1.size)⟩)
  go_enter Tryd.func4, Tryd.ntmps4
  go_wp2_with fail
  refine HSM.out.mono ?_
  unfold Small17
  rintro e w1 ⟨m, rfl, hm, hB⟩
  have hb1 := HB0.out.trans (hB.mono (by simp))
  have hx1 := (hB.block w.heap.size (by simp)).trans HBX.out
  have HB1 := Lib.hid hb1; have HM := Lib.hid hm
  obtain ⟨x0, x1, x2, x3, x4⟩ := sysS hx1
  have HX1 := Lib.hid hx1
  clear hb1 hm hB hx1 HBX HB0 HSM
  cases m
  · go_wp2_with fail
    refine (ALV.out _ HB1.out).mono ?_
    rintro e w2 ⟨rfl, hB⟩
    go_wp2
    go_ret
    exact ⟨rfl, hB⟩
  obtain ⟨h25, _, hr⟩ := HM.out.1 rfl
  have h0 := hr.st0
  obtain ⟨st, lb, s0, es⟩ := s
  simp only at h25 h0 x0 x1 x2 x3 HX1 HS
  obtain ⟨n, rfl⟩ := Int.eq_ofNat_of_zero_le h0.1
  have hn3 : n ≤ 25 := by omega
  have HR := Lib.hid hr
  have HRN : RowKit.Hid (Lts.Right ⟨n, lb, s0, nf ltE es⟩) := Lib.hid hr.norm
  obtain ⟨t, ht⟩ : ∃ t : Lts, t = ⟨n, lb, s0, nf ltE es⟩ := ⟨_, rfl⟩
  have HTT := Lib.hid ht
  have hst : t.st = (n : Int) := by rw [ht]
  rw [← ht] at HRN
  have HST := Lib.hid hst
  have HAB := Lib.hid (above17_any (c := c) HR.out hn3 (HG.out.below HB1.out) (HT.out.below HB1.out) (HS.out.below HB1.out (Nat.le_refl _)))
  rw [← ht] at HAB
  clear h25 h0 hr ht hst HM
  go_wp2_with fail
  refine HAB.out.mono ?_
  unfold Ab17
  rintro e w2 ⟨R, v, rfl, hgt, htb, hB⟩
  have hb2 := HB1.out.trans (hB.mono HB1.out.size)
  have hx2 := (hB.block w.heap.size x4).trans HX1.out
  clear x0 x1 x2 x3 x4
  have HB2 := Lib.hid hb2; have HGT := Lib.hid hgt; have HTB := Lib.hid htb
  obtain ⟨x0, x1, x2, x3, x4⟩ := sysS hx2
  have HX2 := Lib.hid hx2
  have HCL := Lib.hid (simClasses_any (c := c) HR.out (by omega) (HG.out.below hb2) (HT.out.below hb2) (HS.out.below hb2 (Nat.le_refl _)))
  rw [← HTT.out] at HCL
  clear hb2 hgt htb hB hx2 HAB HX1 HB1
  go_wp2_with fail
  refine HCL.out.mono ?_
  unfold ClPost
  rintro e w3 ⟨R2, v2, rfl, hgt2, hown, hB⟩
  have hb3 := HB2.out.trans (hB.mono HB2.out.size)
  have hx3 := (hB.block w.heap.size x4).trans HX2.out
  obtain ⟨C, hC⟩ : ∃ C, C = canon (fl n (fun p => (clsN R2 p : Int))) := ⟨_, rfl⟩
  have hCl : C.length = n := by rw [hC, canon_len, fl_len]
  rw [← hC] at hown
  have hown' : w3.ownsRow w2.heap.size 3 1 v2 C.length (C.flatMap encI) := by rw [hCl]; exact hown
  obtain ⟨ca, cc, cb, rfl, _, _, hcs, _⟩ := slAt_own lenI hown'
  rw [hCl]
  clear x0 x1 x2 x3 x4
  have HB3 := Lib.hid hb3; have HCS := Lib.hid hcs; have HCLN := Lib.hid hCl; have HX3 := Lib.hid hx3
  have HTB3 := Lib.hid (HTB.out.below hB)
  have HEQ : RowKit.Hid (∀ p q : Nat, p < n → q < n → ∀ x y : Int, C[p]? = some x → C[q]? = some y → (x = y ↔ (R p q = true ∧ R q p = true))) := Lib.hid (by
    intro p q hp hq x y hx hy
    rw [hC] at hx hy
    rw [canon_clsN hgt2 HRN.out HST.out (by omega) hp hq hx hy, hgt2.uniq HGT.out hp, hgt2.uniq HGT.out hq])
  obtain ⟨x0, x1, x2, x3, x4⟩ := sysS hx3
  clear hb3 hx3 hown hown' hcs hCl hC hB hgt2 HCL HX2 HB2 HTB
  obtain ⟨ob, rb, hv, htb⟩ := HTB3.out.ex
  subst hv
  have HTB4 := Lib.hid htb
  clear htb HTB3
  go_wp2_with fail
  clear x0 x1 x2 x3 x4
  go_loopw [7, 8, 9] (fun v7 _ _ wr => ∃ p : Nat, v7 = .int .i64 p ∧ p ≤ n ∧ Below w3.heap.size w3 wr) (fun v7 _ _ _ => n - (intOf v7).toNat)
  case atStart => exact ⟨0, rfl, Nat.zero_le _, Below.refl _ _⟩
  case round =>
    obtain ⟨p, rfl, hp, hbe⟩ := hrel
    have HBE := Lib.hid hbe
    have hx := (hbe.block w.heap.size (Array.getElem?_eq_some_iff.1 HX3.out).1).trans HX3.out
    have y0 : wr.cell? ⟨w.heap.size, 0, none⟩ = some (.int .i64 n) := (sysS hx).1
    have yl := (sysS hx).2.2.2.2
    clear hbe hx
    by_cases hpn : p < n
    · have hpI : (p : Int) < (n : Int) := by omega
      go_wp2_with fail
      go_loopw [8, 9] (fun v8 _ wr => ∃ q : Nat, v8 = .int .i64 q ∧ q ≤ n ∧ Below w3.heap.size w3 wr) (fun v8 _ _ => n - (intOf v8).toNat)
      case atStart => exact ⟨0, rfl, Nat.zero_le _, HBE.out⟩
      case round =>
        obtain ⟨q, rfl, hq, hbe⟩ := hrel
        have HBF := Lib.hid hbe
        have hx := (hbe.block w.heap.size (Array.getElem?_eq_some_iff.1 HX3.out).1).trans HX3.out
        have y0 : wr.cell? ⟨w.heap.size, 0, none⟩ = some (.int .i64 n) := (sysS hx).1
        have yl := (sysS hx).2.2.2.2
        clear hbe hx HBE
        by_cases hqn : q < n
        · have hqI : (q : Int) < (n : Int) := by omega
          have hcl := HCLN.out
          have hcs := HCS.out.below HBF.out (Nat.le_refl _)
          obtain rfl := hcs.ad (by omega)
          obtain ⟨x, hx⟩ := getElem?_of_lt (xs := C) (i := p) (by omega)
          obtain ⟨y, hy⟩ := getElem?_of_lt (xs := C) (i := q) (by omega)
          have e1 := hcs.ci hx; have e2 := hcs.ci hy
          have el := hcs.lt (by omega)
          simp only [Nat.zero_add] at e1 e2
          have heq := HEQ.out p q hpn hqn x y hx hy
          have hob := HTB4.out.1.of_block (HBF.out.block _ HTB4.out.1.lt)
          have o1 := hob.cell hpn
          have o2 := hob.cell hqn
          have ol := hob.lt
          have hrp := (HTB4.out.2 p hpn).of_block (HBF.out.block _ (HTB4.out.2 p hpn).lt)
          have hrq := (HTB4.out.2 q hqn).of_block (HBF.out.block _ (HTB4.out.2 q hqn).lt)
          have r1 := hrp.cell hqn
          have r2 := hrq.cell hpn
          have rl1 := hrp.lt
          have rl2 := hrq.lt
          have hrefl : p = q → R p q = true := fun e => by subst e; exact HGT.out.refl HRN.out HST.out hpn
          obtain ⟨b1, hb1⟩ : ∃ b1, b1 = R p q := ⟨_, rfl⟩
          obtain ⟨b2, hb2⟩ : ∃ b2, b2 = R q p := ⟨_, rfl⟩
          rw [← hb1] at r1 heq hrefl
          rw [← hb2] at r2 heq
          have hcase : (b1 = false ∧ (x == y) = false ∧ ((p : Int) == (q : Int)) = false) ∨ (b1 = true ∧ b2 = false ∧ (x == y) = false ∧ ((p : Int) == (q : Int)) = false) ∨ (b1 = true ∧ b2 = true ∧ x = y ∧ ((p : Int) == (q : Int)) = false) ∨ (b1 = true ∧ b2 = true ∧ x = y ∧ ((p : Int) == (q : Int)) = true) := by
            by_cases e : p = q
            · subst e
              have h1 := hrefl rfl
              have h2 : b2 = true := by rw [hb2, ← hb1]; exact h1
              exact .inr (.inr (.inr ⟨h1, h2, heq.2 ⟨h1, h2⟩, by simp⟩))
            · have e2 : ((p : Int) == (q : Int)) = false := by simp; omega
              cases b1
              · exact .inl ⟨rfl, by rw [beq_eq_false_iff_ne]; intro h; exact absurd (heq.1 h).1 (by decide), e2⟩
              · cases b2
                · exact .inr (.inl ⟨rfl, rfl, by rw [beq_eq_false_iff_ne]; intro h; exact absurd (heq.1 h).2 (by decide), e2⟩)
                · exact .inr (.inr (.inl ⟨rfl, rfl, heq.2 ⟨rfl, rfl⟩, e2⟩))
          clear hcl hcs hx hy hob hrp hrq hb1 hb2 heq hrefl
          have hnx : ∀ nq : Nat, Below w3.heap.size w3 (wr.drewN nq) := fun nq => ⟨HBF.out.os, HBF.out.tape, HBF.out.output, HBF.out.size, HBF.out.block⟩
          have HNX := Lib.hid hnx
          clear hnx
          rcases hcase with ⟨rfl, h1, h2⟩ | ⟨rfl, rfl, h1, h2⟩ | ⟨rfl, rfl, rfl, h2⟩ | ⟨rfl, rfl, rfl, h2⟩
          all_goals
            go_wp2_with fail
            go_quiet (fail)
            go_wp2_with fail
            have HNQ := Lib.hid (HNX.out nq)
            clear y0 yl e1 e2 el o1 o2 ol r1 r2 rl1 rl2 HNX HBF
            go_loopw [9] (fun v9 wr => ∃ r : Nat, v9 = .int .i64 r ∧ r ≤ n ∧ Below w3.heap.size w3 wr) (fun v9 _ => n - (intOf v9).toNat)
            case atStart => exact ⟨0, rfl, Nat.zero_le _, HNQ.out⟩
            case round =>
              obtain ⟨r, rfl, hr, hbe⟩ := hrel
              have HBR := Lib.hid hbe
              have hx := (hbe.block w.heap.size (Array.getElem?_eq_some_iff.1 HX3.out).1).trans HX3.out
              have y0 : wr.cell? ⟨w.heap.size, 0, none⟩ = some (.int .i64 n) := (sysS hx).1
              have yl := (sysS hx).2.2.2.2
              by_cases hrn : r < n
              · have hrI : (r : Int) < (n : Int) := by omega
                have hob := HTB4.out.1.of_block (hbe.block _ HTB4.out.1.lt)
                have o1 := hob.cell hpn
                have o2 := hob.cell hqn
                have ol := hob.lt
                have hrp := (HTB4.out.2 _ hpn).of_block (hbe.block _ (HTB4.out.2 _ hpn).lt)
                have hrq := (HTB4.out.2 _ hqn).of_block (hbe.block _ (HTB4.out.2 _ hqn).lt)
                have r1 := hrp.cell hqn
                have r2 := hrq.cell hrn
                have r3 := hrp.cell hrn
                have rl1 := hrp.lt
                have rl2 := hrq.lt
                have htr := HGT.out.trans HRN.out HST.out (q := q) (r := r) hpn
                obtain ⟨b1, hb1⟩ : ∃ b1, b1 = R p q := ⟨_, rfl⟩
                obtain ⟨b3, hb3⟩ : ∃ b3, b3 = R q r := ⟨_, rfl⟩
                obtain ⟨b4, hb4⟩ : ∃ b4, b4 = R p r := ⟨_, rfl⟩
                rw [← hb1] at r1; rw [← hb3] at r2; rw [← hb4] at r3
                have hc3 : b1 = false ∨ (b1 = true ∧ b3 = false) ∨ (b1 = true ∧ b3 = true ∧ b4 = true) := by
                  rw [← hb1, ← hb3, ← hb4] at htr
                  cases b1
                  · exact .inl rfl
                  · cases b3
                    · exact .inr (.inl ⟨rfl, rfl⟩)
                    · exact .inr (.inr ⟨rfl, rfl, htr rfl rfl⟩)
                clear hbe hx hob hrp hrq HNQ htr hb1 hb3 hb4
                rcases hc3 with rfl | ⟨rfl, rfl⟩ | ⟨rfl, rfl, rfl⟩
                all_goals
                  go_wp2_with fail
                  go_roundw
                  case rel => exact ⟨r + 1, by go_num, by omega, HBR.out⟩
                  case measure => simp [intOf]; omega
              · obtain rfl : n = r := by omega
                clear hbe hx HNQ
                go_wp2_with fail
                go_roundw
                case rel => exact ⟨q + 1, by go_num, by omega, HBR.out⟩
                case measure => simp [intOf]; omega
        · obtain rfl : q = n := by omega
          go_wp2_with fail
          go_roundw
          case rel => exact ⟨p + 1, by go_num, by omega, HBF.out⟩
          case measure => simp [intOf]; omega
    · obtain rfl : p = n := by omega
      have HBZ := Lib.hid (HB3.out.trans (HBE.out.mono HB3.out.size))
      go_wp2_with fail
      refine (ALV.out _ HBZ.out).mono ?_
      rintro e w5 ⟨rfl, hB⟩
      go_wp2
      go_ret
      exact ⟨rfl, hB⟩
end Go.Proofs.YtbbjmompbmgnmaaDoor

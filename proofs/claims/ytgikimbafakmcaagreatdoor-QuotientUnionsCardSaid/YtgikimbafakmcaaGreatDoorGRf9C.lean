/-
  Lemmas.
-/
import Derived.Test.YtgikimbafakmcaaGreatDoorGForms
import Derived.Test.YtgikimbafakmcaaGreatDoorRefNext
import Derived.Test.YtgikimbafakmcaaGreatDoorRefOut
import Derived.Test.YtgikimbafakmcaaGreatDoorGQuoE
import Derived.Test.YtgikimbafakmcaaGreatDoorGTold
import Derived.Test.YtgikimbafakmcaaGreatDoorRefSort2
set_option maxHeartbeats 8000000
set_option maxRecDepth 100000
namespace Go.Proofs.YtgikimbafakmcaaGreatDoor
open Go.RowKit Pl
open Lib (hid)
theorem rowII9 : IsRow Tryz.prog 32 58 1 24 (.slice none 0 0) := isRow_of Tryz.underlying32 (by kernel_rfl) rfl (by decide)
theorem refRounds9_any {s : Lts} {n : Nat} (hr : s.Right) (hn : s.st = (n : Int)) {a : Option Addr} {b off c : Nat} {w : World} (hS : SlAt encE 3 w a b off s.es) (hc : s.es.length <= c) (hcm : c <= maxLen) :
    Calls Tryz.prog 99 #[.agg #[.int .i64 s.st, .int .i64 s.lb, .int .i64 s.s0, .slice a s.es.length c]] w fun e w' => ∃ (ra : Option Addr) (rc m : Nat) (xs : List Value) (cb : Nat) (C : Nat -> Int), e = .returned (.slice ra (m + 1) rc) /\ w'.ownsRow w.heap.size 58 1 (.slice ra (m + 1) rc) (m + 1) xs /\ m <= 2000 /\ xs[m]? = some (.slice (some ⟨cb, 0, none⟩) n n) /\ SlAt encI 1 w' (some ⟨cb, 0, none⟩) cb 0 (fl n C) /\ Big s n C /\ canon (fl n C) = fl n C /\ w.heap.size <= cb /\ Below w.heap.size w w' := by
 have hst := hr.st0
 have hn1 : n <= 1000 := by omega
 have hmk := run_make_row' (P := Tryz.prog) 58 3 (.int .i64 0) 8 Tryz.underlying58 (by kernel_rfl) rfl .i64 .i64 n (by omega) (by omega)
 obtain ⟨W, hW⟩ : ∃ W, W = w.alloc (Obj.cells #[.int .i64 s.st, .int .i64 s.lb, .int .i64 s.s0, .slice a s.es.length c] 24) := ⟨_, rfl⟩
 have hB0 : Below w.heap.size w W := by rw [hW]; exact (Below.refl w.heap.size w).alloc (Nat.le_refl _) _
 have hbx := heap_alloc_new w (Obj.cells #[.int .i64 s.st, .int .i64 s.lb, .int .i64 s.s0, .slice a s.es.length c] 24)
 rw [<- hW] at hbx
 have HOU : Hid (Calls Tryz.prog 113 #[.agg #[.int .i64 s.st, .int .i64 s.lb, .int .i64 s.s0, .slice a s.es.length c]] W fun e w' => ∃ ob, e = .returned (.slice (some ⟨ob, 0, none⟩) n n) /\ StepsIn w' ob n (fun p => s.norm.outs (p : Int)) /\ Below W.heap.size W w') := hid (by (
 refine (refOut_any hr (hS.below hB0 (Nat.le_refl _)) hc hcm).mono ?_
 rintro e w' ⟨ob, n', base, hn', rfl, hrows, _, hB⟩
 obtain rfl : n = n' := by omega
 exact ⟨ob, rfl, StepsIn.of hrows, hB⟩))
 obtain ⟨el, hel⟩ : ∃ el, el = s.es.length := ⟨_, rfl⟩
 rw [hn, <- hel] at HOU hbx hW
 rw [hn, <- hel]
 have HWE := hid hW; have HB0 := hid hB0; have HBX := hid hbx; have HR := hid hr; have HN := hid hn
 obtain ⟨x0, x1, x2, x3, x4⟩ := sysC hbx
 clear hW hB0 hbx hr hn hS hc hcm hst hel
 go_enter Tryz.func99, Tryz.ntmps99
 go_wp2_with fail
 rw [<- HWE.out]
 refine HOU.out.mono ?_
 rintro e w1 ⟨ob, rfl, hso, hB1⟩
 have hx := (hB1.block w.heap.size x4).trans HBX.out
 have HSO := hid hso
 have HBW := hid (HB0.out.trans (hB1.mono HB0.out.size))
 clear x0 x1 x2 x3 x4 hso hB1 HOU HBX HWE HB0
 obtain ⟨x0, x1, x2, x3, x4⟩ := sysC hx
 clear hx x1 x2 x3
 go_upto_region 3 with fail
 obtain ⟨w2, hw2⟩ : ∃ w2, w2 = w1.alloc (.cells (madeCells #[.int .i64 0] n) 3) := ⟨_, rfl⟩
 have hrow : w2.rowIs w1.heap.size 3 n (fun _ => .int .i64 0) := by rw [hw2]; exact World.rowIs_made w1 (.int .i64 0) n 3
 have hb1 : Below w1.heap.size w1 w2 := by rw [hw2]; exact (Below.refl _ _).alloc (Nat.le_refl _) _
 rw [<- hw2]
 obtain ⟨c0, hc0⟩ : ∃ c0, c0 = w1.heap.size := ⟨_, rfl⟩
 rw [<- hc0] at hrow ⊢
 have HROW := hid (rowIs_sl (n := n) (f := fun _ => 0) hrow); have HB1 := hid hb1; have HC0 := hid hc0
 clear hw2 hrow hb1 hc0 x0 x4 hmk
 go_wp2_with fail
 obtain ⟨w3, hw3⟩ : ∃ w3, w3 = w2.alloc (.cells #[.slice (some ⟨c0, 0, none⟩) n n] 58) := ⟨_, rfl⟩
 have hown3 : w3.ownsRow w1.heap.size 58 1 (.slice (some ⟨w2.heap.size, 0, none⟩) 1 1) 1 [.slice (some ⟨c0, 0, none⟩) n n] := by
   rw [hw3]
   exact World.ownsRow_lit (e := 58) (base := w1.heap.size) w2 #[.slice (some ⟨c0, 0, none⟩) n n] 1 (size := 1) HB1.out.size (by unfold maxLen; omega) rfl
 have hb3 : Below w2.heap.size w2 w3 := by rw [hw3]; exact (Below.refl _ _).alloc (Nat.le_refl _) _
 rw [<- hw3]
 have HOWN := hid hown3; have HB3 := hid (HB1.out.trans (hb3.mono HB1.out.size)); have HCS := hid (HROW.out.below hb3 (Nat.le_refl _))
 clear hw3 hown3 hb3 HROW
 go_loopg [4, 5, 6] (n + 1) (fun g v4 v5 _ wr => ∃ (cb : Nat) (C : Nat -> Int) (ra : Option Addr) (rc m : Nat) (xs : List Value), n + 1 <= g + (dist (fl n C)).length /\ m <= (dist (fl n C)).length /\ v4 = .slice (some ⟨cb, 0, none⟩) n n /\ v5 = .slice ra (m + 1) rc /\ wr.ownsRow w1.heap.size 58 1 (.slice ra (m + 1) rc) (m + 1) xs /\ xs[m]? = some (.slice (some ⟨cb, 0, none⟩) n n) /\ SlAt encI 1 wr (some ⟨cb, 0, none⟩) cb 0 (fl n C) /\ HoldsS s n C /\ canon (fl n C) = fl n C /\ w1.heap.size <= cb /\ Below w1.heap.size w1 wr)
 case atStart => exact ⟨c0, fun _ => 0, _, 1, 0, _, by omega, Nat.zero_le _, rfl, rfl, HOWN.out, rfl, HCS.out, .zero, canon_zeroB n, by have := HC0.out; omega, HB3.out⟩
 case round => (
 obtain ⟨cb, C, ra, rc, m, xs, hgk, hmd, rfl, rfl, hown, hxm, hrow, hro, hca, hcl, hB⟩ := hrel
 have hws := hB.size
 have hcr : ∀ p, p < n -> 0 <= C p /\ C p <= 1000 := fun p hp => by have := can_rng12 hca hp; omega
 have hnx := refNext_any (c := n) (C := fl n C) (cc := n) (fl_len n C) (by omega) (HSO.out.below hB) (fun p hp => outs_ok9 HR.out HN.out p) hrow (fun x hx => by
   obtain ⟨k, hk, rfl⟩ := List.mem_map.1 hx
   exact hcr k (List.mem_range.1 hk))
 have hns := next_str HR.out HN.out hcr
 have hcd : canon (fl n (clf n (fun i => (rep (nkey (fl n C) (fun p => s.norm.outs (p : Int))) i : Int)))) = fl n (clf n (fun i => (rep (nkey (fl n C) (fun p => s.norm.outs (p : Int))) i : Int))) := by rw [<- canon_fl, canon_canon]
 obtain ⟨D, hD⟩ : ∃ D : Nat -> Int, D = clf n (fun i => (rep (nkey (fl n C) (fun p => s.norm.outs (p : Int))) i : Int)) := ⟨_, rfl⟩
 rw [<- hD] at hnx hns hcd
 have HROWC := hid hrow; have HRO := hid hro; have HCA := hid hca; have HB := hid hB; have HNX := hid hnx; have HNS := hid hns; have HCD := hid hcd; have HOW := hid hown; have HXM := hid hxm
 clear hrow hro hca hB hnx hns hcd hD hcr HOWN HB3 HCS HB1 hown hxm
 go_wp2_with fail
 refine HNX.out.mono ?_
 rintro e w4 ⟨nb, rfl, hnw, hnb, hB2⟩
 have hcs := HROWC.out.below hB2 (Nat.le_refl _)
 have hT1 := refTogether_any (c := n) hnw (by rw [fl_len]; omega)
 have hT2 : ∀ V, Below w4.heap.size w4 V -> _ := fun V (hV : Below w4.heap.size w4 V) => refTogether_any (c := n) (hcs.below hV (Nat.le_refl _)) (by rw [fl_len]; omega)
 rw [fl_len] at hT1
 have HT1 := hid hT1
 have HT2 : Hid (∀ V, Below w4.heap.size w4 V -> Calls Tryz.prog 115 #[.slice (some ⟨cb, 0, none⟩) n n] V fun e w' => e = .returned (.int .i64 ((dist (fl n C)).length : Int)) /\ Below V.heap.size V w') := hid (fun V hV => by (
 have h := hT2 V hV
 rw [fl_len] at h
 exact h))
 have hmore : fl n D ≠ fl n C -> (dist (fl n C)).length < (dist (fl n D)).length := next_moreS HNS.out HCA.out HCD.out
 have hle := dist_le n D
 have HMO := hid hmore
 obtain ⟨dc, hdc⟩ : ∃ dc, dc = (dist (fl n C)).length := ⟨_, rfl⟩
 obtain ⟨dd, hdd⟩ : ∃ dd, dd = (dist (fl n D)).length := ⟨_, rfl⟩
 rw [<- hdc] at HT2 HMO hgk hmd
 rw [<- hdd] at HT1 HMO hle
 have HNW := hid hnw; have HCS2 := hid hcs
 have HBZ := hid (HB.out.trans (hB2.mono hws)); have HDD := hid hdd; have HDC := hid hdc
 have hnbl : w1.heap.size <= nb := by omega
 have HNB := hid hnb
 have HOW4 := hid (own_below HOW.out hB2)
 have hoL : ∀ g, (Value.slice ra (m + 1) rc).ownBlock = some g -> g < nb := fun g hg => Nat.lt_of_lt_of_le (HOW.out.lt g hg).2 hnb
 have HOL := hid hoL
 clear hcs hnw hnb hB2 HNX hT1 hT2 hmore hdc hdd hoL
 by_cases he : dd = dc
 · (
 have hflat : fl n D = fl n C := Classical.byContradiction fun h => by have := HMO.out h; omega
 have heI : (dd : Int) = (dc : Int) := by omega
 have HFE := hid hflat
 clear hflat
 go_wp2_with fail
 refine HT1.out.mono ?_
 rintro e w5 ⟨rfl, hB3⟩
 have HB3 := hid hB3
 clear hB3
 go_wp2_with fail
 refine (HT2.out _ HB3.out).mono ?_
 rintro e w6 ⟨rfl, hB4⟩
 have HB4 := hid (HB3.out.trans (hB4.mono HB3.out.size))
 clear hB4
 go_wp2_with fail
 go_ret
 have hw01 := HBW.out.size
 exact ⟨ra, rc, m, xs, cb, C, rfl, own_mono (own_below HOW4.out HB4.out) hw01, by omega, HXM.out, HCS2.out.below HB4.out (Nat.le_refl _), HRO.out.done HNS.out (fun p hp => fl_inj HFE.out hp), HCA.out, by omega, HBW.out.trans ((HBZ.out.trans (HB4.out.mono HBZ.out.size)).mono hw01)⟩)
 · (
 have hlt : dc < dd := HMO.out (fun h => he (by rw [HDD.out, HDC.out, h]))
 have heI : ¬ (dd : Int) = (dc : Int) := by omega
 go_wp2_with fail
 refine HT1.out.mono ?_
 rintro e w5 ⟨rfl, hB3⟩
 have HB3 := hid hB3
 clear hB3
 go_wp2_with fail
 refine (HT2.out _ HB3.out).mono ?_
 rintro e w6 ⟨rfl, hB4⟩
 have HB4 := hid (HB3.out.trans (hB4.mono HB3.out.size))
 have HOW6 := hid (own_below HOW4.out HB4.out)
 have HNW6 := hid (HNW.out.below HB4.out (Nat.le_refl _))
 have HB16 := hid (HBZ.out.trans (HB4.out.mono HBZ.out.size))
 have hw16 : w1.heap.size <= w6.heap.size := HB16.out.size
 have hnb6 : nb < w6.heap.size ∨ n = 0 := by (
 by_cases h0 : n = 0
 · exact .inr h0
 · exact .inl (HNW6.out.lt (by rw [fl_len]; omega)))
 have HNX : Hid (∀ (w7 : World) (g cap : Nat), w7.ownsRow w1.heap.size 58 1 (.slice (some ⟨g, 0, none⟩) (m + 1 + 1) cap) (m + 1 + 1) (xs ++ [.slice (some ⟨nb, 0, none⟩) n n]) -> (w6.alloc (.cells #[.slice (some ⟨nb, 0, none⟩) n n] 58)).grownBy w7 (Value.slice ra (m + 1) rc).ownBlock -> SlAt encI 1 w7 (some ⟨nb, 0, none⟩) nb 0 (fl n D) /\ Below w1.heap.size w1 w7) := hid (fun w7 g cap ho hg => by (
 have hba := (Below.refl w6.heap.size w6).alloc (Nat.le_refl _) (.cells #[.slice (some ⟨nb, 0, none⟩) n n] 58)
 refine ⟨?_, (HB16.out.trans (hba.mono hw16)).grown hg (by have := hba.size; omega) (fun q hq => (HOW6.out.lt q hq).1)⟩
 have h6 := HNW6.out.below hba (Nat.le_refl _)
 refine ⟨h6.ad, fun hp => by have := h6.lt hp; have := hg.size; omega, fun i x hx j u hu => ?_⟩
 have hp : 0 < (fl n D).length := by have := (List.getElem?_eq_some_iff.1 hx).1; omega
 rw [World.cell?_of_block (a := ⟨nb, 0 + i * 1 + j, none⟩) (hg.block nb (h6.lt hp) (fun e => by have := HOL.out nb e.symm; omega))]
 exact h6.cell i x hx j u hu))
 have hxl : xs.length = m + 1 := by have := HOW6.out.1; simpa using this
 have HXL := hid hxl
 clear hB4 hxl hnb6
 go_wp2_with (at_builtin; refine wpList_lie rfl _ _ _ rfl rowII9 (base := w1.heap.size) (by simp; omega) rfl (HOW6.out.alloc _) ⟨w6.heap.size, 0, none⟩ 1 1 [.slice (some ⟨nb, 0, none⟩) n n] rfl rfl (cells1 (by simp [go_sem])) (by simp [Value.oneCell']) (by decide) (by omega) (by unfold maxLen; omega) w6.heap.size (by simp) ?_; intro g2 cap2 w7 hown7 hg7 hl7 hlt7; obtain ⟨hsl7, hb7⟩ := HNX.out w7 g2 cap2 hown7 hg7; have HO7 := hid hown7; have HS7 := hid hsl7; have HB7 := hid hb7; clear hown7 hg7 hl7 hsl7 hb7)
 go_roundg (gk - 1)
 case rel => exact ⟨nb, D, _, _, m + 1, _, by have := HDD.out; omega, by have := HDD.out; omega, rfl, rfl, HO7.out, by rw [List.getElem?_append_right (by rw [HXL.out]; exact Nat.le_refl _), HXL.out]; simp, HS7.out, HRO.out.next HNS.out, HCD.out, hnbl, HB7.out⟩
 case measure => omega))
theorem refClasses9_any {s : Lts} {n : Nat} (hr : s.Right) (hn : s.st = (n : Int)) {a : Option Addr} {b off c : Nat} {w : World} (hS : SlAt encE 3 w a b off s.es) (hc : s.es.length <= c) (hcm : c <= maxLen) :
    Calls Tryz.prog 70 #[.agg #[.int .i64 s.st, .int .i64 s.lb, .int .i64 s.s0, .slice a s.es.length c]] w fun e w' => ∃ (cb : Nat) (C : Nat -> Int), e = .returned (.slice (some ⟨cb, 0, none⟩) n n) /\ SlAt encI 1 w' (some ⟨cb, 0, none⟩) cb 0 (fl n C) /\ Big s n C /\ canon (fl n C) = fl n C /\ w.heap.size <= cb /\ Below w.heap.size w w' := by
 have hB0 := (Below.refl w.heap.size w).alloc (Nat.le_refl _) (Obj.cells #[.int .i64 s.st, .int .i64 s.lb, .int .i64 s.s0, .slice a s.es.length c] 24)
 have HRO := hid (refRounds9_any hr hn (hS.below hB0 (Nat.le_refl _)) hc hcm)
 have HB0 := hid hB0
 obtain ⟨el, hel⟩ : ∃ el, el = s.es.length := ⟨_, rfl⟩
 rw [<- hel] at HRO HB0 ⊢
 clear hr hn hS hc hcm hB0 hel
 go_enter Tryz.func70, Tryz.ntmps70
 go_wp2_with fail
 refine HRO.out.mono ?_
 rintro e w1 ⟨ra, rc, m, xs, cb, C, rfl, hown, hm2, hxm, hcs, hbig, hca, hcb, hB1⟩
 have hcell : ∃ g, ra = some ⟨g, 0, none⟩ /\ w1.cell? ⟨g, m, none⟩ = some (.slice (some ⟨cb, 0, none⟩) n n) /\ g < w1.heap.size := by (
 rcases hown.2 with ⟨h, _⟩ | ⟨g, cap, cur, hv, _, hh, _, _, _, ht⟩
 · simp at h
 · (
 simp only [Value.slice.injEq] at hv
 refine ⟨g, hv.1, ?_, (Array.getElem?_eq_some_iff.1 hh).1⟩
 rw [<- ht, List.getElem?_take] at hxm
 split at hxm
 · have h2 : cur[m]? = some (.slice (some ⟨cb, 0, none⟩) n n) := by simpa using hxm
   simp [World.cell?, hh, h2]
 · cases hxm))
 obtain ⟨g, rfl, c0, cl⟩ := hcell
 have HCS := hid hcs; have HBG := hid hbig; have HCA := hid hca
 have HB1 := hid (HB0.out.trans (hB1.mono (by simp)))
 have hcb2 : w.heap.size <= cb := by simp at hcb; omega
 have k1 : ((m + 1 : Nat) : Int) - 1 = (m : Int) := by omega
 have k2 : (m : Int) < ((m + 1 : Nat) : Int) := by omega
 clear hown hxm hcs hbig hca hB1 HRO hcb
 go_wp2_with fail
 go_ret
 exact ⟨cb, C, rfl, HCS.out, HBG.out, HCA.out, hcb2, HB1.out⟩
end Go.Proofs.YtgikimbafakmcaaGreatDoor
namespace Go.Proofs.YtgikimbafakmcaaGreatDoor
open Go.RowKit Pl
theorem bad_any (l : ByteArray) (hl : l.size <= 1000) (k : Int) (w : World) : Calls Tryz.prog 18 #[.string l, .int .i64 k] w fun e w' => e = .returned (.agg #[.int .i64 k, .int .i64 0, .int .i64 0, .string (l ++ ⟨#[32]⟩)]) /\ Below w.heap.size w w' := by
 have hz2 : ¬ 9223372036854775807 < l.size + 1 := by omega
 go_enter Tryz.func18, Tryz.ntmps18
 go_wp2_with fail
 refine bodyPost_ret (v := .agg #[.int .i64 k, .int .i64 0, .int .i64 0, .string (l ++ ⟨#[32]⟩)]) (by simp [results, Tryz.results18, go_sem]) rfl ⟨rfl, (Below.refl _ _).alloc (Nat.le_refl _) _⟩
end Go.Proofs.YtgikimbafakmcaaGreatDoor
namespace Go.Proofs.YtgikimbafakmcaaGreatDoor
open Go.RowKit Pl
open Lib (hid)
theorem right_head (st lb s0 : Int) (a : Option Addr) (n c : Nat) (w : World) (h : HeadBad st lb s0 n) :
    Calls Tryz.prog 16 #[.agg #[.int .i64 st, .int .i64 lb, .int .i64 s0, .slice a n c]] w fun e w' => e = .returned (.bool false) /\ Below w.heap.size w w' := by
 have key : (st < 0) ∨ (¬ st < 0 /\ 1000 < st) ∨ (¬ st < 0 /\ ¬ 1000 < st /\ lb < 1) ∨ (¬ st < 0 /\ ¬ 1000 < st /\ ¬ lb < 1 /\ 201 < lb) ∨ (¬ st < 0 /\ ¬ 1000 < st /\ ¬ lb < 1 /\ ¬ 201 < lb /\ (10000 : Int) < (n : Int)) ∨
     (¬ st < 0 /\ ¬ 1000 < st /\ ¬ lb < 1 /\ ¬ 201 < lb /\ ¬ (10000 : Int) < (n : Int) /\ (st == 0) = true /\ (s0 != 0) = true) ∨
     (¬ st < 0 /\ ¬ 1000 < st /\ ¬ lb < 1 /\ ¬ 201 < lb /\ ¬ (10000 : Int) < (n : Int) /\ (st == 0) = false /\ 0 < st /\ s0 < 0) ∨
     (¬ st < 0 /\ ¬ 1000 < st /\ ¬ lb < 1 /\ ¬ 201 < lb /\ ¬ (10000 : Int) < (n : Int) /\ (st == 0) = false /\ 0 < st /\ ¬ s0 < 0 /\ st <= s0) := by
   unfold HeadBad at h
   simp only [beq_iff_eq, bne_iff_ne, beq_eq_false_iff_ne]
   omega
 clear h
 rcases key with h1 | ⟨h1, h2⟩ | ⟨h1, h2, h3⟩ | ⟨h1, h2, h3, h4⟩ | ⟨h1, h2, h3, h4, h5⟩ | ⟨h1, h2, h3, h4, h5, h6, h7⟩ | ⟨h1, h2, h3, h4, h5, h6, h7, h8⟩ | ⟨h1, h2, h3, h4, h5, h6, h7, h8, h9⟩
 all_goals
   go_enter Tryz.func16, Tryz.ntmps16
   go_wp2
   go_ret
   exact ⟨rfl, (Below.refl _ _).alloc (Nat.le_refl _) _⟩
theorem right_body {st lb s0 : Int} {xs : List E} (hh : ¬ HeadBad st lb s0 xs.length) {a : Option Addr} {b off c : Nat} {w : World} (hS : SlAt encE 3 w a b off xs) :
    Calls Tryz.prog 16 #[.agg #[.int .i64 st, .int .i64 lb, .int .i64 s0, .slice a xs.length c]] w fun e w' => e = .returned (.bool (xs.all fun x => !offB st lb x)) /\ Below w.heap.size w w' := by
 unfold HeadBad at hh
 obtain ⟨h1, h2, h3, h4, h5, h6, h7⟩ : ¬ st < 0 /\ ¬ 1000 < st /\ ¬ lb < 1 /\ ¬ 201 < lb /\ ¬ s0 < 0 /\ (s0 = 0 ∨ s0 < st) /\ ¬ (10000 : Int) < (xs.length : Int) := by omega
 have key : ((st == 0) = true /\ (s0 != 0) = false /\ ¬ 0 < st) ∨ ((st == 0) = false /\ 0 < st /\ ¬ st <= s0) := by
   simp only [beq_iff_eq, bne_eq_false_iff_eq, beq_eq_false_iff_ne]
   omega
 have HS := hid hS
 clear hh h6 hS
 obtain ⟨C, hC⟩ : ∃ C, C = Obj.cells #[.int .i64 st, .int .i64 lb, .int .i64 s0, .slice a xs.length c] 24 := ⟨_, rfl⟩
 have HC := hid hC
 clear hC
 rcases key with ⟨k1, k2, k3⟩ | ⟨k1, k2, k3⟩
 · obtain rfl : st = 0 := by simpa using k1
   obtain rfl : s0 = 0 := by simpa using k2
   clear k1 k2 k3 h1 h2 h5
   go_enter Tryz.func16, Tryz.ntmps16
   go_wp2
   rw [<- HC.out]
   go_loopw [3, 4] (fun i _ wr => ∃ k : Nat, k <= xs.length /\ i = .int .i64 k /\ (∀ j x, j < k -> xs[j]? = some x -> offB 0 lb x = false) /\ Below (w.heap.size + 1) (w.alloc C) wr)
     (fun i _ _ => xs.length - (intOf i).toNat)
   case atStart => exact ⟨0, Nat.zero_le _, rfl, by intro j x hj; omega, Below.refl _ _⟩
   case round =>
     obtain ⟨k, hk, rfl, hz, hB⟩ := hrel
     have HZ := hid hz; clear hz
     have hsz : w.heap.size + 1 <= wr.heap.size := by simpa using hB.size
     have q0 : wr.heap[w.heap.size]? = some C := by
       rw [hB.block _ (by omega), heap_alloc_new]
     rw [HC.out] at q0
     have s0' : wr.cell? ⟨w.heap.size, 0, none⟩ = some (.int .i64 0) := by simp [World.cell?, q0]
     have s1' : wr.cell? ⟨w.heap.size, 1, none⟩ = some (.int .i64 lb) := by simp [World.cell?, q0]
     have s2' : wr.cell? ⟨w.heap.size, 2, none⟩ = some (.int .i64 0) := by simp [World.cell?, q0]
     have s3' : wr.cell? ⟨w.heap.size, 3, none⟩ = some (.slice a xs.length c) := by simp [World.cell?, q0]
     have hBw : Below w.heap.size w wr := ((Below.refl _ _).alloc (Nat.le_refl _) C).trans (hB.mono (by omega))
     have hltr : w.heap.size < wr.heap.size := by omega
     have HB := hid hB; have HBW := hid hBw
     clear q0 hB hBw
     by_cases hlt2 : k < xs.length
     · obtain ⟨x, hx⟩ := getElem?_of_lt hlt2
       have hS' := HS.out.below HBW.out (Nat.le_refl _)
       obtain rfl := hS'.ad (by omega)
       have c0 := hS'.e0 hx; have c1 := hS'.e1 hx; have c2 := hS'.e2 hx
       have hbl := hS'.lt (by omega)
       have hik : (k : Int) < (xs.length : Int) := by omega
       have HX := hid hx
       clear hx hS'
       obtain ⟨x1, x2, x3⟩ := x
       simp only at c0 c1 c2
       by_cases ho : offB 0 lb (x1, x2, x3) = true
       · have HO := hid ho
         have hall : xs.all (fun x => !offB 0 lb x) = false := by
           rw [List.all_eq_false]
           exact ⟨_, List.mem_of_getElem? HX.out, by simp [HO.out]⟩
         have HALL := hid hall
         have key2 : (x1 < 0) ∨ (¬ x1 < 0 /\ 0 <= x1) := by
           simp only [offB, Bool.or_eq_true, decide_eq_true_eq] at ho
           omega
         clear ho hall
         rcases key2 with g1 | ⟨g1, g2⟩
         all_goals
           go_wp2
           go_ret
           exact ⟨ret_b (a := false) HALL.out.symm, ((HBW.out).alloc (by omega) _)⟩
       · exact absurd (by simp only [offB, Bool.or_eq_true, decide_eq_true_eq]; omega) ho
     · go_wp2
       go_ret
       have hall : xs.all (fun x => !offB 0 lb x) = true := by
         rw [List.all_eq_true]
         intro x hx
         obtain ⟨j, hj, rfl⟩ := List.getElem_of_mem hx
         simp [HZ.out j _ (by omega) (List.getElem?_eq_getElem hj)]
       exact ⟨ret_b (a := true) hall.symm, HBW.out⟩
 · go_enter Tryz.func16, Tryz.ntmps16
   go_wp2
   rw [<- HC.out]
   go_loopw [3, 4] (fun i _ wr => ∃ k : Nat, k <= xs.length /\ i = .int .i64 k /\ (∀ j x, j < k -> xs[j]? = some x -> offB st lb x = false) /\ Below (w.heap.size + 1) (w.alloc C) wr)
     (fun i _ _ => xs.length - (intOf i).toNat)
   case atStart => exact ⟨0, Nat.zero_le _, rfl, by intro j x hj; omega, Below.refl _ _⟩
   case round =>
     obtain ⟨k, hk, rfl, hz, hB⟩ := hrel
     have HZ := hid hz; clear hz
     have hsz : w.heap.size + 1 <= wr.heap.size := by simpa using hB.size
     have q0 : wr.heap[w.heap.size]? = some C := by
       rw [hB.block _ (by omega), heap_alloc_new]
     rw [HC.out] at q0
     have s0' : wr.cell? ⟨w.heap.size, 0, none⟩ = some (.int .i64 st) := by simp [World.cell?, q0]
     have s1' : wr.cell? ⟨w.heap.size, 1, none⟩ = some (.int .i64 lb) := by simp [World.cell?, q0]
     have s2' : wr.cell? ⟨w.heap.size, 2, none⟩ = some (.int .i64 s0) := by simp [World.cell?, q0]
     have s3' : wr.cell? ⟨w.heap.size, 3, none⟩ = some (.slice a xs.length c) := by simp [World.cell?, q0]
     have hBw : Below w.heap.size w wr := ((Below.refl _ _).alloc (Nat.le_refl _) C).trans (hB.mono (by omega))
     have hltr : w.heap.size < wr.heap.size := by omega
     have HB := hid hB; have HBW := hid hBw
     clear q0 hB hBw
     by_cases hlt2 : k < xs.length
     · obtain ⟨x, hx⟩ := getElem?_of_lt hlt2
       have hS' := HS.out.below HBW.out (Nat.le_refl _)
       obtain rfl := hS'.ad (by omega)
       have c0 := hS'.e0 hx; have c1 := hS'.e1 hx; have c2 := hS'.e2 hx
       have hbl := hS'.lt (by omega)
       have hik : (k : Int) < (xs.length : Int) := by omega
       have HX := hid hx
       clear hx hS'
       obtain ⟨x1, x2, x3⟩ := x
       simp only at c0 c1 c2
       by_cases ho : offB st lb (x1, x2, x3) = true
       · have HO := hid ho
         have hall : xs.all (fun x => !offB st lb x) = false := by
           rw [List.all_eq_false]
           exact ⟨_, List.mem_of_getElem? HX.out, by simp [HO.out]⟩
         have HALL := hid hall
         have key2 : (x1 < 0) ∨ (¬ x1 < 0 /\ st <= x1) ∨ (¬ x1 < 0 /\ ¬ st <= x1 /\ x3 < 0) ∨ (¬ x1 < 0 /\ ¬ st <= x1 /\ ¬ x3 < 0 /\ st <= x3) ∨ (¬ x1 < 0 /\ ¬ st <= x1 /\ ¬ x3 < 0 /\ ¬ st <= x3 /\ x2 < 0) ∨ (¬ x1 < 0 /\ ¬ st <= x1 /\ ¬ x3 < 0 /\ ¬ st <= x3 /\ ¬ x2 < 0 /\ lb <= x2) := by
           simp only [offB, Bool.or_eq_true, decide_eq_true_eq] at ho
           omega
         clear ho hall
         rcases key2 with g1 | ⟨g1, g2⟩ | ⟨g1, g2, g3⟩ | ⟨g1, g2, g3, g4⟩ | ⟨g1, g2, g3, g4, g5⟩ | ⟨g1, g2, g3, g4, g5, g6⟩
         all_goals
           go_wp2
           go_ret
           exact ⟨ret_b (a := false) HALL.out.symm, ((HBW.out).alloc (by omega) _)⟩
       · have ho' : offB st lb (x1, x2, x3) = false := by simpa using ho
         have HO := hid ho'
         obtain ⟨g1, g2, g3, g4, g5, g6⟩ : ¬ x1 < 0 /\ ¬ st <= x1 /\ ¬ x3 < 0 /\ ¬ st <= x3 /\ ¬ x2 < 0 /\ ¬ lb <= x2 := by
           simp only [offB, Bool.or_eq_true, decide_eq_true_eq] at ho
           omega
         clear ho ho'
         go_wp2
         go_roundw
         case rel => exact ⟨k + 1, by omega, by go_num, by
           intro j y hj hy
           by_cases hjk : j = k
           · subst hjk
             rw [HX.out] at hy
             simp at hy; subst hy
             exact HO.out
           · exact HZ.out j y (by omega) hy, HB.out.alloc (by omega) _⟩
         case measure => simp [intOf]; omega
     · go_wp2
       go_ret
       have hall : xs.all (fun x => !offB st lb x) = true := by
         rw [List.all_eq_true]
         intro x hx
         obtain ⟨j, hj, rfl⟩ := List.getElem_of_mem hx
         simp [HZ.out j _ (by omega) (List.getElem?_eq_getElem hj)]
       exact ⟨ret_b (a := true) hall.symm, HBW.out⟩
theorem right_yes {s : Lts} (h : s.Right) {a : Option Addr} {b off c : Nat} {w : World} (hS : SlAt encE 3 w a b off s.es) :
    Calls Tryz.prog 16 #[.agg #[.int .i64 s.st, .int .i64 s.lb, .int .i64 s.s0, .slice a s.es.length c]] w fun e w' => e = .returned (.bool true) /\ Below w.heap.size w w' := by
 refine (right_body h.head hS).mono ?_
 rintro e w' ⟨rfl, hB⟩
 have : s.es.all (fun x => !offB s.st s.lb x) = true := by rw [List.all_eq_true]; intro x hx; simp [h.edges x hx]
 exact ⟨by rw [this], hB⟩
theorem right_no {s : Lts} (h : ¬ s.Right) {a : Option Addr} {b off c : Nat} {w : World} (hS : SlAt encE 3 w a b off s.es) :
    Calls Tryz.prog 16 #[.agg #[.int .i64 s.st, .int .i64 s.lb, .int .i64 s.s0, .slice a s.es.length c]] w fun e w' => e = .returned (.bool false) /\ Below w.heap.size w w' := by
 by_cases hh : HeadBad s.st s.lb s.s0 s.es.length
 · exact right_head s.st s.lb s.s0 a s.es.length c w hh
 · (
 refine (right_body hh hS).mono ?_
 rintro e w' ⟨rfl, hB⟩
 have : s.es.all (fun x => !offB s.st s.lb x) = false := by
   rw [Bool.eq_false_iff]; intro ha; rw [List.all_eq_true] at ha
   exact h ⟨hh, fun x hx => by simpa using ha x hx⟩
 exact ⟨by rw [this], hB⟩)
end Go.Proofs.YtgikimbafakmcaaGreatDoor
namespace Go.Proofs.YtgikimbafakmcaaGreatDoor
open Go.RowKit Pl
theorem refOn_any (l x : ByteArray) (hl : l.size <= 1000) (hx : x.size <= 1000) {k : Int} (hk : k ≠ 0) (i j : Int) (w : World) : Calls Tryz.prog 17 #[.string l, .agg #[.int .i64 k, .int .i64 i, .int .i64 j, .string x]] w fun e w' => e = .returned (.agg #[.int .i64 k, .int .i64 i, .int .i64 j, .string (l ++ ⟨#[32]⟩ ++ x)]) /\ Below w.heap.size w w' := by
 have hz1 : ¬ 9223372036854775807 < l.size + 1 := by omega
 have hz2 : ¬ 9223372036854775807 < l.size + 1 + x.size := by omega
 have hk1 : (k == 0) = false := by simp [hk]
 go_enter Tryz.func17, Tryz.ntmps17
 go_wp2_with fail
 refine bodyPost_ret (v := .agg #[.int .i64 k, .int .i64 i, .int .i64 j, .string (l ++ ⟨#[32]⟩ ++ x)]) (by simp [results, Tryz.results17, go_sem]) rfl ⟨rfl, ((Below.refl _ _).alloc (Nat.le_refl _) _).alloc (by simp) _⟩
theorem errC {w : World} {B : Nat} {x y z : Int} {u : ByteArray} (h : w.heap[B]? = some (.cells #[.int .i64 x, .int .i64 y, .int .i64 z, .string u] 28 (0, 0))) :
    (w.cell? ⟨B, 0, none⟩ = some (.int .i64 x) /\ w.cell? ⟨B, 1, none⟩ = some (.int .i64 y) /\ w.cell? ⟨B, 2, none⟩ = some (.int .i64 z) /\ w.cell? ⟨B, 3, none⟩ = some (.string u)) /\ (w.frozen? ⟨B, 0, none⟩ = false /\ w.frozen? ⟨B, 1, none⟩ = false /\ w.frozen? ⟨B, 2, none⟩ = false /\ w.frozen? ⟨B, 3, none⟩ = false) /\ B < w.heap.size := by
 refine ⟨⟨?_, ?_, ?_, ?_⟩, ⟨?_, ?_, ?_, ?_⟩, (Array.getElem?_eq_some_iff.1 h).1⟩ <;> simp [World.cell?, World.frozen?, h]
end Go.Proofs.YtgikimbafakmcaaGreatDoor

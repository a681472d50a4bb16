/-
  Lemmas.
-/
import Derived.Test.YtbaccmlfnbgehaaGreatDoorGOMap
import Derived.Test.YtbaccmlfnbgehaaGreatDoorGBkRow
import Derived.Test.YtbaccmlfnbgehaaGreatDoorGAlive13
import Derived.Test.YtbaccmlfnbgehaaGreatDoorGRefRight
import Derived.Test.YtbaccmlfnbgehaaGreatDoorGLentS
import Derived.Test.YtbaccmlfnbgehaaGreatDoorGBkBo
import Derived.Test.YtbaccmlfnbgehaaGreatDoorGTauG
import Derived.Test.YtbaccmlfnbgehaaGreatDoorGRefReach
import Derived.Test.YtbaccmlfnbgehaaGreatDoorGBkEa
import Derived.Test.YtbaccmlfnbgehaaGreatDoorGRowTwo
import Derived.Deep.RegionHeldLaw
open List renaming getElem_toArray -> qga, getElem_cons_zero -> qgz, getElem_cons_succ -> qgs, setIfInBounds_toArray -> qgt, set_cons_zero -> qgx, set_cons_succ -> qgy
open Array renaming getElem?_eq_some_iff → l0
open Nat renaming le_refl → l1, lt_of_lt_of_le → l2
open Go.Proofs.Tryz
namespace Go.Proofs.YtbaccmlfnbgehaaGreatDoor
open Go.RowKit Pl
open Lib (hid)
theorem z2a {w : World} {base g k : Nat} {T : TypeId} {cs : Array Value} (h : w.ownsRow base T k (.slice (some ⟨g, 0, none⟩) 1 1) 1 cs.toList) : w.heap[g]? = some (.cells cs T (0, 0)) := by
 have hl := h.1
 rcases h.2 with ⟨e, _⟩ | ⟨g', cap, cur, e, _, hh, _, _, hs, ht⟩
 · cases e
 · (
 simp only [Value.slice.injEq, Option.some.injEq, Addr.mk.injEq, and_true] at e
 obtain ⟨rfl, _, rfl⟩ := e
 rw [hh]
 have : cur = cs := by
   apply Array.toList_inj.1
   rw [<- ht, List.take_of_length_le (by rw [Array.length_toList]; omega)]
 rw [this])
theorem p3c {w : World} {B : Nat} {x y z : Int} {u : ByteArray} (h : w.heap[B]? = some (.cells #[.int .i64 x, .int .i64 y, .int .i64 z, .string u] 29 (0, 0))) :
    (w.cell? ⟨B, 0, none⟩ = some (.int .i64 x) /\ w.cell? ⟨B, 1, none⟩ = some (.int .i64 y) /\ w.cell? ⟨B, 2, none⟩ = some (.int .i64 z) /\ w.cell? ⟨B, 3, none⟩ = some (.string u)) /\ B < w.heap.size := by
 refine ⟨⟨?_, ?_, ?_, ?_⟩, (l0.1 h).1⟩ <;> simp [World.cell?, h]
theorem y1s {f g : Nat -> Bool} {n : Nat} (h : ∀ q, q < n -> f q = g q) : idsN f n = idsN g n := by
 unfold idsN
 exact List.filter_congr (fun q hq => h q (List.mem_range.1 hq))
set_option maxRecDepth 100000 in
set_option maxHeartbeats 16000000 in
theorem x1m {w : World} {p p2 pe : Addr} (hG : WkErr p w) (hE : ErrsK 14 p w) (hE2 : ErrsK 2 p2 w) (hE3 : ErrsK 13 pe w) (hT : ErrType w) (hTab : Tab w) {s : Lts} {a : Option Addr} {b off c : Nat} (hS : SlAt encE 3 w a b off s.es) (hc : s.es.length <= c) (hcm : c <= maxLen) :
    Calls prog 4 #[.agg #[.int .i64 s.st, .int .i64 s.lb, .int .i64 s.s0, .slice a s.es.length c]] w fun e w' => e = .returned (.bool true) /\ Below w.heap.size w w' := by
 have hB0 := (Below.refl w.heap.size w).alloc (l1 _) (Obj.cells #[.int .i64 s.st, .int .i64 s.lb, .int .i64 s.s0, .slice a s.es.length c] 24)
 have hbx := heap_alloc_new w (Obj.cells #[.int .i64 s.st, .int .i64 s.lb, .int .i64 s.s0, .slice a s.es.length c] 24)
 have HLI := hid (y1m (c := c) (hS.below hB0 (l1 _)))
 have ALV : Hid (∀ w1 : World, Below w.heap.size w w1 -> Calls prog 23 #[] w1 fun e w' => e = .returned (.bool true) /\ Below w1.heap.size w1 w') := hid (fun w1 h1 => z1o (hG.below h1) (hE3.sys.below h1) (hTab.below h1))
 have HPK : Hid ((s.Right -> s.st <= 40 ∨ 300 < s.st) -> _) := hid (fun h => u2q hG hE hE2 hE3 hT hTab h hS hc hcm)
 have HRB : Hid (∀ n : Nat, s.Right -> s.st = (n : Int) -> ∀ V, Below w.heap.size w V -> Calls prog 29 #[.agg #[.int .i64 s.st, .int .i64 s.lb, .int .i64 s.s0, .slice a s.es.length c]] V fun e w' => ∃ la lb lc, e = .returned (.slice la n lc) /\ (0 < n -> la = some ⟨lb, 0, none⟩) /\ BoolsIn w' lb n (silG s) /\ Below V.heap.size V w') := hid (fun n hr hn V hV => x0p hr hn (hS.below hV (l1 _)) hc hcm)
 have HS := hid hS
 obtain ⟨el, hel⟩ : ∃ el, el = s.es.length := ⟨_, rfl⟩
 rw [<- hel] at HLI hbx hB0 HRB ⊢
 have HB0 := hid hB0; have HBX := hid hbx; have HEL := hid hel
 clear hG hE hE2 hE3 hT hTab hS hB0 hbx hc hcm hel
 go_enter func4, ntmps4
 go_wp2_with fail
 refine HLI.out.mono ?_
 rintro e w1 ⟨bv, rfl, hbv, hB1⟩
 have HBX1 := hid ((hB1.block w.heap.size (by simp)).trans HBX.out)
 have HB1 := hid (HB0.out.trans (hB1.mono (by simp)))
 have HBV := hid hbv
 clear hbv hB1 HLI HB0 HBX
 cases bv
 · (
 go_wp2_with fail
 refine (ALV.out _ HB1.out).mono ?_
 rintro e w2 ⟨rfl, hB⟩
 have HB2 := hid (HB1.out.trans (hB.mono HB1.out.size))
 clear hB
 go_wp2
 go_ret
 exact ⟨rfl, HB2.out⟩)
 have hlt := HBV.out rfl
 have hel1 : el <= 11000 := by rcases hlt with h | h <;> omega
 have hpk := HPK.out (fun h => by rcases hlt with h2 | h2; exact .inl h2.1; exact .inr (h2.1.resolve_left (fun h3 => h3 h)))
 obtain ⟨k, kf, x, xf, T, Q, QF, I, hQb, hQFb, hTl, hSI, hSA, hRS, hGU, hTE, hTF, hKK⟩ := hpk
 have hls := z2o (c := c) (HS.out.below HB1.out (l1 _)) (by rw [<- HEL.out]; omega)
 rw [<- HEL.out] at hls hSI hSA hRS hGU
 have HLS := hid hls; have HQB := hid hQb; have HQFB := hid hQFb; have HSI := hid hSI; have HSA := hid hSA; have HRS := hid hRS; have HGU := hid hGU; have HTE := hid hTE; have HTF := hid hTF; have HKK := hid hKK; have HTL := hid hTl
 obtain ⟨⟨x0, x1, x2, x3⟩, xl⟩ := (⟨u2g HBX1.out, (l0.1 HBX1.out).1⟩ : _ /\ _)
 clear hlt hls hQb hQFb hSI hSA hRS hGU hTE hTF hKK hTl HBV HPK
 go_wp2_with fail
 refine HLS.out.mono ?_
 rintro e w2 ⟨g, gc, rfl, hls2, hB2⟩
 obtain ⟨W2, hW2⟩ : ∃ W2, W2 = w2.alloc (Obj.cells #[.int .i64 s.st, .int .i64 s.lb, .int .i64 s.s0, .slice (some ⟨g, 0, none⟩) el gc] 24) := ⟨_, rfl⟩
 have hbW : Below w2.heap.size w2 W2 := by rw [hW2]; exact (Below.refl _ _).alloc (l1 _) _
 have hLB : W2.heap[w2.heap.size]? = some (.cells #[.int .i64 s.st, .int .i64 s.lb, .int .i64 s.s0, .slice (some ⟨g, 0, none⟩) el gc] 24 (0, 0)) := by rw [hW2]; exact heap_alloc_new w2 _
 have hb12 := hB2.trans (hbW.mono hB2.size)
 have HX2 := hid ((hb12.block w.heap.size xl).trans HBX1.out)
 have HB2 := hid (HB1.out.trans (hb12.mono HB1.out.size))
 have HL2 := hid (hls2.below hbW); have HLB := hid hLB; have HW2 := hid hW2
 clear x0 x1 x2 x3 xl hls2 hB2 hbW hLB hb12 hW2 HLS HBX1
 have HGU2 := hid (HGU.out W2 HB2.out)
 obtain ⟨⟨x0, x1, x2, x3⟩, xl⟩ := (⟨u2g HX2.out, (l0.1 HX2.out).1⟩ : _ /\ _)
 go_upto_region 4 with fail
 rw [<- HW2.out]
 obtain ⟨lb, hlb⟩ : ∃ lb, lb = w2.heap.size := ⟨_, rfl⟩
 rw [<- hlb] at HLB ⊢
 clear hlb HW2
 go_wp2_with fail
 refine HGU2.out.mono ?_
 rintro e w3 ⟨rfl, hB3⟩
 obtain ⟨W3, hW3⟩ : ∃ W3, W3 = w3.alloc (Obj.cells #[.int .i64 k, .int .i64 0, .int .i64 0, .string x] 29) := ⟨_, rfl⟩
 have hbW : Below w3.heap.size w3 W3 := by rw [hW3]; exact (Below.refl _ _).alloc (l1 _) _
 have hEB : W3.heap[w3.heap.size]? = some (.cells #[.int .i64 k, .int .i64 0, .int .i64 0, .string x] 29 (0, 0)) := by rw [hW3]; exact heap_alloc_new w3 _
 have hb23 := hB3.trans (hbW.mono hB3.size)
 have HX3 := hid ((hb23.block w.heap.size xl).trans HX2.out)
 have HB3 := hid (HB2.out.trans (hb23.mono HB2.out.size))
 have HL3 := hid (HL2.out.below hb23); have HLB3 := hid ((hb23.block lb (l0.1 HLB.out).1).trans HLB.out)
 have HEB := hid hEB; have HW3 := hid hW3
 clear x0 x1 x2 x3 xl hB3 hbW hEB hb23 hW3 HGU2 HX2 HB2 HL2 HLB
 have HRS3 := hid (HRS.out W3 HB3.out)
 obtain ⟨⟨x0, x1, x2, x3⟩, xl⟩ := (⟨u2g HX3.out, (l0.1 HX3.out).1⟩ : _ /\ _)
 go_upto_region 5 with fail
 rw [<- HW3.out]
 obtain ⟨eb, heb⟩ : ∃ eb, eb = w3.heap.size := ⟨_, rfl⟩
 rw [<- heb] at HEB ⊢
 clear heb HW3
 go_wp2_with fail
 refine HRS3.out.mono ?_
 rintro e w4 ⟨ta, tbk, tc, rfl, hts, hB4⟩
 obtain ⟨W5, hW5⟩ : ∃ W5, W5 = (w4.alloc (Obj.cells #[.int .i64 T.st, .int .i64 T.lb, .int .i64 T.s0, .slice ta T.es.length tc] 24)).alloc (Obj.cells #[.int .i64 kf, .int .i64 0, .int .i64 0, .string xf] 29) := ⟨_, rfl⟩
 have hbW : Below w4.heap.size w4 W5 := by rw [hW5]; exact ((Below.refl _ _).alloc (l1 _) _).alloc (by simp) _
 have hTB : W5.heap[w4.heap.size]? = some (.cells #[.int .i64 T.st, .int .i64 T.lb, .int .i64 T.s0, .slice ta T.es.length tc] 24 (0, 0)) := by
   rw [hW5, Below.heap_alloc _ _ _ (by simp)]; exact heap_alloc_new w4 _
 have hFB : W5.heap[w4.heap.size + 1]? = some (.cells #[.int .i64 kf, .int .i64 0, .int .i64 0, .string xf] 29 (0, 0)) := by (
 have h := heap_alloc_new (w4.alloc (Obj.cells #[.int .i64 T.st, .int .i64 T.lb, .int .i64 T.s0, .slice ta T.es.length tc] 24)) (Obj.cells #[.int .i64 kf, .int .i64 0, .int .i64 0, .string xf] 29)
 rw [show (w4.alloc (Obj.cells #[.int .i64 T.st, .int .i64 T.lb, .int .i64 T.s0, .slice ta T.es.length tc] 24)).heap.size = w4.heap.size + 1 by simp] at h
 rw [hW5]; exact h)
 have hb35 := hB4.trans (hbW.mono hB4.size)
 have hX5 := (hb35.block w.heap.size xl).trans HX3.out
 have hB5 := HB3.out.trans (hb35.mono HB3.out.size)
 have hL5 := HL3.out.below hb35
 have hLB5 := (hb35.block lb (l0.1 HLB3.out).1).trans HLB3.out
 have hEB5 := (hb35.block eb (l0.1 HEB.out).1).trans HEB.out
 have hts5 := hts.below hbW (l1 _)
 obtain ⟨tb, htb⟩ : ∃ tb, tb = w4.heap.size := ⟨_, rfl⟩
 rw [<- htb] at hTB hFB
 have HSYS : Hid (∀ V, Below W5.heap.size W5 V -> ((V.cell? ⟨w.heap.size, 0, none⟩ = some (.int .i64 s.st) /\ V.cell? ⟨w.heap.size, 1, none⟩ = some (.int .i64 s.lb) /\ V.cell? ⟨w.heap.size, 2, none⟩ = some (.int .i64 s.s0) /\ V.cell? ⟨w.heap.size, 3, none⟩ = some (.slice a el c)) /\ w.heap.size < V.heap.size) /\
     ((V.cell? ⟨lb, 0, none⟩ = some (.int .i64 s.st) /\ V.cell? ⟨lb, 1, none⟩ = some (.int .i64 s.lb) /\ V.cell? ⟨lb, 2, none⟩ = some (.int .i64 s.s0) /\ V.cell? ⟨lb, 3, none⟩ = some (.slice (some ⟨g, 0, none⟩) el gc)) /\ lb < V.heap.size) /\
     ((V.cell? ⟨eb, 0, none⟩ = some (.int .i64 k) /\ V.cell? ⟨eb, 1, none⟩ = some (.int .i64 0) /\ V.cell? ⟨eb, 2, none⟩ = some (.int .i64 0) /\ V.cell? ⟨eb, 3, none⟩ = some (.string x)) /\ eb < V.heap.size) /\
     ((V.cell? ⟨tb, 0, none⟩ = some (.int .i64 T.st) /\ V.cell? ⟨tb, 1, none⟩ = some (.int .i64 T.lb) /\ V.cell? ⟨tb, 2, none⟩ = some (.int .i64 T.s0) /\ V.cell? ⟨tb, 3, none⟩ = some (.slice ta T.es.length tc)) /\ tb < V.heap.size) /\
     ((V.cell? ⟨tb + 1, 0, none⟩ = some (.int .i64 kf) /\ V.cell? ⟨tb + 1, 1, none⟩ = some (.int .i64 0) /\ V.cell? ⟨tb + 1, 2, none⟩ = some (.int .i64 0) /\ V.cell? ⟨tb + 1, 3, none⟩ = some (.string xf)) /\ tb + 1 < V.heap.size)) := hid (fun V hV => by
   have h1 := (hV.block _ (l0.1 hX5).1).trans hX5
   have h2 := (hV.block _ (l0.1 hLB5).1).trans hLB5
   have h3 := (hV.block _ (l0.1 hEB5).1).trans hEB5
   have h4 := (hV.block _ (l0.1 hTB).1).trans hTB
   have h5 := (hV.block _ (l0.1 hFB).1).trans hFB
   exact ⟨⟨u2g h1, (l0.1 h1).1⟩, ⟨u2g h2, (l0.1 h2).1⟩, p3c h3, ⟨u2g h4, (l0.1 h4).1⟩, p3c h5⟩)
 have HLE : Hid (∀ V, Below W5.heap.size W5 V -> LentS V w1.heap.size g gc s.es /\ SlAt encE 3 V (some ⟨g, 0, none⟩) g 0 s.es /\ SlAt encE 3 V ta tbk 0 T.es /\ Below w.heap.size w V) := hid (fun V hV =>
   ⟨hL5.below hV, SlAt.preE (hL5.below hV).all.1, hts5.below hV (l1 _), hB5.trans (hV.mono hB5.size)⟩)
 have HST : Hid (∀ V, Below W5.heap.size W5 V -> Calls prog 13 #[.agg #[.int .i64 s.st, .int .i64 s.lb, .int .i64 s.s0, .slice (some ⟨g, 0, none⟩) el gc], .agg #[.int .i64 s.st, .int .i64 s.lb, .int .i64 s.s0, .slice a el c]] V fun e w' => e = .returned (.bool true) /\ Below V.heap.size V w') := hid (fun V hV => by (
 obtain ⟨h1, _, _, h5⟩ := HLE.out V hV
 have h := p2b (st := s.st) (lb := s.lb) (s0 := s.s0) (st' := s.st) (lb' := s.lb) (s0' := s.s0) (c := c) h1 (HS.out.below h5 (l1 _)) (by rw [<- HEL.out]; omega)
 rw [<- HEL.out] at h
 exact h))
 have HW5 := hid hW5; have HTBE := hid htb
 clear x0 x1 x2 x3 xl hts hB4 hW5 hbW hTB hFB hb35 hX5 hB5 hL5 hLB5 hEB5 hts5 htb HRS3 HX3 HB3 HL3 HLB3 HEB HS HEL
 go_upto_region 6 with fail
 rw [<- HW5.out, <- HTBE.out]
 clear HW5 HTBE
 have HBK := hid (Bk.start W5)
 go_upto_region 7 with fail
 refine v2s (fun W => Bk W5 W W5.heap.size [] []) HBK.out (fun W1 hW1 => ?_)
 replace HBK := hid hW1
 clear hW1
 obtain ⟨bb, hbb⟩ : ∃ bb, bb = W5.heap.size := ⟨_, rfl⟩
 rw [<- hbb] at HBK ⊢
 clear hbb
 go_wp2_with fail
 go_loopw [8, 9, 10, 11, 12, 13, 14] (fun v8 _ _ _ _ _ _ wr => ∃ (i : Nat) (Z : List Rw), v8 = .int .i64 i /\ i <= 2 /\ Bk W5 wr bb Z []) (fun v8 _ _ _ _ _ _ _ => 2 - (intOf v8).toNat)
 case atStart => exact ⟨0, [], rfl, by omega, HBK.out⟩
 case round => as_aux_lemma => (
 obtain ⟨i, Z, rfl, hi, hbk⟩ := hrel
 replace HBK := hid hbk
 clear hbk
 by_cases hi2 : i < 2
 · (
 have hiI : (i : Int) < 2 := by omega
 obtain ⟨_, ⟨⟨y0, y1, y2, y3⟩, yl⟩, _⟩ := HSYS.out _ HBK.out.bel
 have hsi := HSI.out wr (some ⟨g, 0, none⟩) g gc (HLE.out _ HBK.out.bel).2.2.2 (HLE.out _ HBK.out.bel).2.1
 have HSI1 := hid hsi
 clear hsi
 go_wp2_with fail
 refine HSI1.out.mono ?_
 rintro e w6 ⟨v9, v, N, rfl, hq, hN, hI⟩
 have hbk := HBK.out.join hN
 rw [List.append_nil] at hbk
 replace HBK := hid hbk
 have HQ := hid hq; have HI := hid hI
 clear hq hN hI hbk HSI1 y0 y1 y2 y3 yl
 obtain ⟨_, ⟨⟨y0, y1, y2, y3⟩, yl⟩, _⟩ := HSYS.out _ HBK.out.bel
 have hsa := HSA.out w6 (some ⟨g, 0, none⟩) g gc (HLE.out _ HBK.out.bel).2.2.2 (HLE.out _ HBK.out.bel).2.1
 have HSA1 := hid hsa
 clear hsa
 go_wp2_with fail
 refine HSA1.out.mono ?_
 rintro e w7 ⟨ve, vg, rfl, hqf, hown, hB⟩
 obtain ⟨ua, uc, rfl⟩ := v1c hown
 replace HBK := hid (HBK.out.add hB hown)
 obtain ⟨W7, hW7⟩ : ∃ W7, W7 = w7.alloc (Obj.cells #[.int .i64 T.st, .int .i64 T.lb, .int .i64 T.s0, .slice ua T.es.length uc] 24) := ⟨_, rfl⟩
 have hbW7 : Below w7.heap.size w7 W7 := by rw [hW7]; exact (Below.refl _ _).alloc (l1 _) _
 have hub : W7.heap[w7.heap.size]? = some (.cells #[.int .i64 T.st, .int .i64 T.lb, .int .i64 T.s0, .slice ua T.es.length uc] 24 (0, 0)) := by rw [hW7]; exact heap_alloc_new w7 _
 replace HBK := hid (HBK.out.add (v := .slice (some ⟨w7.heap.size, 0, none⟩) 1 1) (n := 1) (k := 4) (T := 24) (xs := [.int .i64 T.st, .int .i64 T.lb, .int .i64 T.s0, .slice ua T.es.length uc]) hbW7 (by rw [hW7]; exact World.ownsRow_lit (e := 24) (base := w7.heap.size) w7 #[.int .i64 T.st, .int .i64 T.lb, .int .i64 T.s0, .slice ua T.es.length uc] 1 (size := 4) (l1 _) (by unfold maxLen; omega) rfl))
 replace HQ := hid (HQB.out _ _ _ (HQB.out _ _ _ HQ.out hB) hbW7)
 have HQF := hid (HQFB.out _ _ _ hqf hbW7); have HUB := hid hub; have HW7 := hid hW7
 clear hqf hown hB hW7 hbW7 hub HSA1 y0 y1 y2 y3 yl
 go_upto_region 12 with fail
 rw [<- HW7.out]
 obtain ⟨ub, hubE⟩ : ∃ ub, ub = w7.heap.size := ⟨_, rfl⟩
 rw [<- hubE] at HUB HBK ⊢
 clear hubE HW7
 obtain ⟨_, _, ⟨⟨z0, z1, z2, z3⟩, zl⟩, _, _⟩ := HSYS.out _ HBK.out.bel
 have HTE1 := hid (HTE.out W7 v (HLE.out _ HBK.out.bel).2.2.2 HQ.out)
 go_wp2_with fail
 refine HTE1.out.mono ?_
 rintro e w8 ⟨rfl, hB⟩
 replace HBK := hid (HBK.out.call hB)
 replace HUB := hid ((hB.block ub (l0.1 HUB.out).1).trans HUB.out)
 replace HQF := hid (HQFB.out _ _ _ HQF.out hB)
 clear hB z0 z1 z2 z3 zl HTE1 HQ
 obtain ⟨_, _, _, _, ⟨⟨z0, z1, z2, z3⟩, zl⟩⟩ := HSYS.out _ HBK.out.bel
 have HTF1 := hid (HTF.out w8 vg (HLE.out _ HBK.out.bel).2.2.2 HQF.out)
 go_wp2_with fail
 refine HTF1.out.mono ?_
 rintro e w9 ⟨rfl, hB⟩
 replace HBK := hid (HBK.out.call hB)
 replace HUB := hid ((hB.block ub (l0.1 HUB.out).1).trans HUB.out)
 clear hB z0 z1 z2 z3 zl HTF1 HQF
 obtain ⟨⟨⟨x0, x1, x2, x3⟩, xl⟩, ⟨⟨y0, y1, y2, y3⟩, yl⟩, _⟩ := HSYS.out _ HBK.out.bel
 have HST1 := hid (HST.out w9 HBK.out.bel)
 go_wp2_with fail
 refine HST1.out.mono ?_
 rintro e w10 ⟨rfl, hB⟩
 replace HBK := hid (HBK.out.call hB)
 replace HUB := hid ((hB.block ub (l0.1 HUB.out).1).trans HUB.out)
 clear hB x0 x1 x2 x3 xl y0 y1 y2 y3 yl HST1
 obtain ⟨_, _, _, ⟨⟨x0, x1, x2, x3⟩, xl⟩, _⟩ := HSYS.out _ HBK.out.bel
 obtain ⟨y0, y1, y2, y3⟩ := u2g HUB.out
 have yl := (l0.1 HUB.out).1
 have hou := HBK.out.own (r := ⟨71, 3, .slice ua T.es.length uc, T.es.length, T.es.flatMap encE⟩) (.inr (by simp))
 obtain ⟨ua2, uc2, ub2, hue, _, _, hus, _⟩ := j0d k0q hou
 simp only [Value.slice.injEq] at hue
 have hse := u0l (c1 := uc) (c2 := tc) T.st T.lb T.s0 hus (HLE.out _ HBK.out.bel).2.2.1 (by have := HTL.out; omega)
 rw [<- hue.1] at hse
 have HSE := hid hse
 clear hou hue hus hse
 go_wp2_with fail
 refine HSE.out.mono ?_
 rintro e w11 ⟨rfl, hB⟩
 replace HBK := hid (HBK.out.call hB)
 clear hB x0 x1 x2 x3 xl y0 y1 y2 y3 yl HSE HUB
 obtain ⟨⟨⟨x0, x1, x2, x3⟩, xl⟩, _, ⟨⟨z0, z1, z2, z3⟩, zl⟩, _, _⟩ := HSYS.out _ HBK.out.bel
 rcases HKK.out with hk0 | ⟨hk0, hr, n, hn, hn40, hIS⟩
 · (
 have hkb : (k != 0) = true := by simp [hk0]
 clear x0 x1 x2 x3 xl
 go_wp2_with fail
 go_roundw
 case rel => exact ⟨i + 1, Z, by go_num, by omega, HBK.out.sub (List.nil_sublist _)⟩
 case measure => simp [intOf]; omega)
 · (
 obtain ⟨F, oa, oc, vf, rfl, hF, rfl⟩ := hIS _ _ HI.out
 subst hk0
 have hrb := HRB.out n hr hn w11 (HLE.out _ HBK.out.bel).2.2.2
 have HRB1 := hid hrb; have HR := hid hr; have HN := hid hn; have HF := hid hF
 clear hrb hr hn hF hIS HI
 go_wp2_with fail
 refine HRB1.out.mono ?_
 rintro e w12 ⟨ia, ib, ic, rfl, hia, hbi, hB⟩
 replace HBK := hid (HBK.out.call hB)
 have HBI := hid hbi; have HIA := hid hia
 clear hB hbi hia x0 x1 x2 x3 xl z0 z1 z2 z3 zl HRB1
 obtain ⟨⟨⟨x0, x1, x2, x3⟩, xl⟩, _⟩ := HSYS.out _ HBK.out.bel
 have hnn : ((n : Int) != (n : Int)) = false := by simp
 rw [HN.out] at x0
 go_wp2_with fail
 clear x0 x1 x2 x3 xl
 go_loopw [14] (fun v14 wx => ∃ q : Nat, v14 = .int .i64 q /\ q <= n /\ Below w12.heap.size w12 wx /\ Bk W5 wx bb Z (⟨24, 4, .slice (some ⟨ub, 0, none⟩) 1 1, 1, [.int .i64 T.st, .int .i64 T.lb, .int .i64 T.s0, .slice ua T.es.length uc]⟩ :: ⟨71, 3, .slice ua T.es.length uc, T.es.length, T.es.flatMap encE⟩ :: (wRowsI n vf (fun j => intsOf (idsN (F j) n)) ++ [wOuterV oa oc n vf]))) (fun v14 _ => n - (intOf v14).toNat)
 case atStart => exact ⟨0, rfl, Nat.zero_le _, Below.refl _ _, HBK.out⟩
 case round => as_aux_lemma => (
 obtain ⟨q, rfl, hq, hBx, hbk⟩ := hrel
 replace HBK := hid hbk
 obtain ⟨⟨⟨x0, x1, x2, x3⟩, xl⟩, _⟩ := HSYS.out _ hbk.bel
 rw [HN.out] at x0
 by_cases hqn : q < n
 · (
 have hqI : (q : Int) < (n : Int) := by omega
 have ho := hbk.own (r := wOuterV oa oc n vf) (.inr (by simp))
 obtain ⟨ga, rfl, c0, cl⟩ := p2y (vs := vf) ho hqn
 have hrw := hbk.own (r := ⟨3, 1, vf q, (intsOf (idsN (F q) n)).length, (intsOf (idsN (F q) n)).flatMap encI⟩) (.inr (by
   simp only [List.mem_cons, List.mem_append]
   exact .inr (.inr (.inl (List.mem_map.2 ⟨q, List.mem_range.2 hqn, rfl⟩)))))
 dsimp only at hrw
 obtain ⟨ra, rc, rbk, hre, _, _, hrs, _⟩ := j0d p0v hrw
 obtain ⟨bq, hb0, hbr⟩ := (HBI.out.below hBx).at_ q hqn
 have hbl := World.block_lt_of_cell? _ _ hb0
 obtain rfl := HIA.out (by omega)
 rw [hre] at c0
 have hids : idsN (F q) n = idsN (fun r => silG s q r) n := y1s (fun r _ => by
   rw [Bool.eq_iff_iff, HF.out q hqn r, p2m HR.out HN.out hqn])
 obtain ⟨LL, hLL⟩ : ∃ LL, LL = intsOf (idsN (F q) n) := ⟨_, rfl⟩
 have hll40 : LL.length <= 40 := by rw [hLL, j0p]; exact Nat.le_trans (p0q _ _) hn40
 rw [<- hLL] at c0 hrs
 obtain ⟨rl, hrl⟩ : ∃ rl, rl = LL.length := ⟨_, rfl⟩
 have HRO : Hid (∀ V, Below wr.heap.size wr V -> Calls prog 15 #[.slice (some ⟨bq, 0, none⟩) n n] V fun e w' => ∃ v, e = .returned v /\ w'.ownsRow V.heap.size 3 1 v LL.length (LL.flatMap encI) /\ Below V.heap.size V w') := hid (fun V hV => by
   rw [hLL, hids]
   exact j2c (hbr.of_block (hV.block _ hbr.lt)) (by omega))
 have HSM : Hid (∀ (V : World) (B : Nat) (va : Value), Below wr.heap.size wr V -> V.ownsRow B 3 1 va LL.length (LL.flatMap encI) -> Calls prog 14 #[.slice ra rl rc, va] V fun e w' => e = .returned (.bool true) /\ ∃ m, w' = V.drewN m) := hid (fun V B va hV ho => by (
 obtain ⟨ca, cc, cb, rfl, _, _, hcs, _⟩ := j0d p0v ho
 have h := sameInts_any (c1 := rc) (c2 := cc) (hrs.below hV (l1 _)) hcs (by omega) (by omega)
 rw [<- hrl] at h ⊢
 simpa using h))
 rw [<- hrl] at c0
 have HKP : Hid (∀ V, Below wr.heap.size wr V -> (V.cell? ⟨ga, q, none⟩ = some (.slice ra rl rc) /\ ga < V.heap.size) /\ (V.cell? ⟨ib, q, none⟩ = some (.slice (some ⟨bq, 0, none⟩) n n) /\ ib < V.heap.size) /\ Below wr.heap.size wr V) := hid (fun V hV =>
   ⟨⟨by rw [hV.cell (p := ⟨ga, q, none⟩) cl]; exact c0, l2 cl hV.size⟩, ⟨by rw [hV.cell (p := ⟨ib, q, none⟩) hbl]; exact hb0, l2 hbl hV.size⟩, hV⟩)
 have HBX := hid hBx
 clear hbk ho c0 cl hrw hre hrs hb0 hbr hbl hids hLL hll40 hrl hBx
 go_wp2_with fail
 clear x0 x1 x2 x3 xl
 refine wp_region_held_drew (S := (fun V => (V.cell? ⟨ga, q, none⟩ = some (.slice ra rl rc) /\ ga < V.heap.size) /\ (V.cell? ⟨ib, q, none⟩ = some (.slice (some ⟨bq, 0, none⟩) n n) /\ ib < V.heap.size) /\ Below wr.heap.size wr V)) (by kernel_rfl) (by (try dsimp only); exact HKP.out _ (Below.refl _ _).drew) (fun hHeld => ?_)
 refine qT 0 (v := ?_) ?_ ?_
 rotate_left
 · intro w hSw; (try dsimp only at hSw); go_simp; try with_reducible rfl
 try simp only [qga, qgz, Act.put, qgt, qgx, qgy]
 refine qT 1 (v := ?_) ?_ ?_
 rotate_left
 · intro w hSw; (try dsimp only at hSw); go_simp; try with_reducible rfl
 try simp only [qga, qgz, qgs, Act.put, qgt, qgx, qgy]
 refine qT 2 (v := ?_) ?_ ?_
 rotate_left
 · intro w hSw; (try dsimp only at hSw); go_simp; try with_reducible rfl
 try simp only [qga, qgz, qgs, Act.put, qgt, qgx, qgy]
 refine qT 3 (v := ?_) ?_ ?_
 rotate_left
 · intro w hSw; (try dsimp only at hSw); go_simp; try with_reducible rfl
 try simp only [qga, qgz, qgs, Act.put, qgt, qgx, qgy]
 refine qT 4 (v := ?_) ?_ ?_
 rotate_left
 · intro w hSw; (try dsimp only at hSw); go_simp; try with_reducible rfl
 try simp only [qga, qgz, qgs, Act.put, qgt, qgx, qgy]
 refine qT 5 (v := ?_) ?_ ?_
 rotate_left
 · intro w hSw; (try dsimp only at hSw); go_simp; try with_reducible rfl
 try simp only [qga, qgz, qgs, Act.put, qgt, qgx, qgy]
 refine qT 6 (v := ?_) ?_ ?_
 rotate_left
 · intro w hSw; (try dsimp only at hSw); go_simp; try with_reducible rfl
 try simp only [qga, qgz, qgs, Act.put, qgt, qgx, qgy]
 refine qT 7 (v := ?_) ?_ ?_
 rotate_left
 · intro w hSw; (try dsimp only at hSw); go_simp; try with_reducible rfl
 try simp only [qga, qgz, qgs, Act.put, qgt, qgx, qgy]
 refine wpAnyH_ready (rs := [8]) (by kernel_rfl) (by simp) ?_
 refine AllReadyH.cons rfl (fun K hK => ?_) AllReadyH.nil
 go_simp
 refine (HRO.out _ (Below.refl _ _).drew).mono ?_
 rintro e wa ⟨va, rfl, hoa, hBa⟩
 have HBa := hid ((Below.refl wr.heap.size wr).drew.trans hBa)
 have HOA := hid hoa
 clear hoa hBa
 refine hK.out _ _ (by (try dsimp only); exact HKP.out _ HBa.out) (fun hHeld => ?_)
 clear hK K
 try simp only [qga, qgz, qgs, Act.put, qgt, qgx, qgy]
 refine wpAnyH_ready (rs := [9]) (by kernel_rfl) (by simp) ?_
 refine AllReadyH.cons rfl (fun K hK => ?_) AllReadyH.nil
 go_simp
 refine (HSM.out wa _ va HBa.out HOA.out).mono ?_
 rintro e wb ⟨rfl, mm, hwb⟩
 have HBb : Hid (Below wr.heap.size wr wb) := hid (by rw [hwb]; exact j0q HBa.out)
 clear hwb
 refine hK.out _ _ (by (try dsimp only); exact HKP.out _ HBb.out) (fun hHeld => ?_)
 clear hK K
 try simp only [qga, qgz, qgs, Act.put, qgt, qgx, qgy]
 refine qT 10 (v := ?_) ?_ ?_
 rotate_left
 · intro w hSw; (try dsimp only at hSw); go_simp; try with_reducible rfl
 try simp only [qga, qgz, qgs, Act.put, qgt, qgx, qgy]
 refine wpAnyH_done (by kernel_rfl) ?_ _
 go_wp2_with fail
 go_roundw
 case rel => exact ⟨q + 1, by go_num, by omega, HBX.out.trans (HBb.out.mono HBX.out.size), HBK.out.call HBb.out⟩
 case measure => simp [intOf]; omega)
 · (
 obtain rfl : n = q := by omega
 clear hbk
 replace HBK := hid (HBK.out.perm (R' := wRowsI n vf (fun j => intsOf (idsN (F j) n)) ++ wOuterV oa oc n vf :: [⟨24, 4, .slice (some ⟨ub, 0, none⟩) 1 1, 1, [.int .i64 T.st, .int .i64 T.lb, .int .i64 T.s0, .slice ua T.es.length uc]⟩, ⟨71, 3, .slice ua T.es.length uc, T.es.length, T.es.flatMap encE⟩]) (by
   have h := List.perm_append_comm (l₁ := [(⟨24, 4, .slice (some ⟨ub, 0, none⟩) 1 1, 1, [.int .i64 T.st, .int .i64 T.lb, .int .i64 T.s0, .slice ua T.es.length uc]⟩ : Rw), ⟨71, 3, .slice ua T.es.length uc, T.es.length, T.es.flatMap encE⟩]) (l₂ := wRowsI n vf (fun j => intsOf (idsN (F j) n)) ++ [wOuterV oa oc n vf])
   simpa using h))
 have hrv := HBK.out.rowV (by omega) (fun q _ => by rw [j0p]; have := p0q (F q) n; omega)
 have HRV := hid hrv
 clear hrv
 go_wp2_with fail
 refine HRV.out.mono ?_
 rintro e w13 ⟨rfl, Z', hbk, _⟩
 replace HBK := hid (hbk.perm (List.Perm.swap _ _ _))
 clear hbk HRV x0 x1 x2 x3 xl
 have hob := HBK.out.own (r := ⟨24, 4, .slice (some ⟨ub, 0, none⟩) 1 1, 1, [.int .i64 T.st, .int .i64 T.lb, .int .i64 T.s0, .slice ua T.es.length uc]⟩) (.inr (by simp))
 dsimp only at hob
 have hbx := z2a (cs := #[.int .i64 T.st, .int .i64 T.lb, .int .i64 T.s0, .slice ua T.es.length uc]) hob
 obtain ⟨_, _, _, t3⟩ := u2g hbx
 have tl := (l0.1 hbx).1
 clear hob hbx
 go_wp2_with fail
 refine (HBK.out.giveE rfl rfl (by have := HTL.out; omega)).mono ?_
 rintro e w14 ⟨rfl, hbk⟩
 replace HBK := hid (hbk.sub (R' := []) (List.nil_sublist _))
 clear hbk t3 tl
 go_wp2_with fail
 go_roundw
 case rel => exact ⟨i + 1, _, by go_num, by omega, HBK.out⟩
 case measure => simp [intOf]; omega))))
 · (
 have HALV1 := hid (ALV.out _ (HLE.out _ HBK.out.bel).2.2.2)
 go_wp2_with fail
 refine HALV1.out.mono ?_
 rintro e w6 ⟨rfl, hB⟩
 replace HBK := hid (HBK.out.call hB)
 clear hB
 go_wp2_with fail
 refine HBK.out.apart.mono ?_
 rintro e w7 ⟨rfl, hB⟩
 have HB7 := hid hB
 clear hB
 go_wp2_with fail
 go_ret
 exact ⟨rfl, (HLE.out _ HB7.out).2.2.2⟩))
theorem p1n {w : World} {p p0 p2 pe : Addr} (hG : WkErr p w) (hE : ErrsK 14 p0 w) (hE2 : ErrsK 2 p2 w) (hE3 : ErrsK 13 pe w) (hT : ErrType w) (hTab : Tab w) {s : Lts} {a : Option Addr} {b off c : Nat} (hS : SlAt encE 3 w a b off s.es) (hc : s.es.length <= c) (hcm : c <= maxLen) :
    Calls prog 4 #[.agg #[.int .i64 s.st, .int .i64 s.lb, .int .i64 s.s0, .slice a s.es.length c]] w fun e w' => e = .returned (.bool true) /\ Below w.heap.size w w' := by
 obtain rfl : p = p0 := by (
 have h1 := hG.sys.cell
 have h2 := hE.sys.cell
 rw [show gE 14 = 15 from rfl, h1] at h2
 simpa using h2)
 exact x1m hG hE hE2 hE3 hT hTab hS hc hcm
end Go.Proofs.YtbaccmlfnbgehaaGreatDoor

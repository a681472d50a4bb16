/-
  Lemmas.
-/
import Derived.Test.YtffjcehopoaboaaGreatDoorGWitW
import Derived.Test.YtffjcehopoaboaaGreatDoorLentS
import Derived.Test.YtffjcehopoaboaaGreatDoorGLent
import Derived.Test.YtffjcehopoaboaaGreatDoorGSameInts
import Derived.Test.YtffjcehopoaboaaGreatDoorGRefErr
import Derived.Test.YtffjcehopoaboaaGreatDoorWitI
import Derived.Deep.RegionHeldLaw
namespace Go.Proofs.YtffjcehopoaboaaGreatDoor
open Go.RowKit Pl
open Lib (hid)
theorem neqRF (a b c d x y z u : Int) (w : World) : (binOp .neq 71 (.agg #[.int .i64 a, .int .i64 b, .int .i64 c, .int .i64 d]) (.agg #[.int .i64 x, .int .i64 y, .int .i64 z, .int .i64 u])).run Tryz.prog w = .ok (.bool (!decide (a = x ∧ b = y ∧ c = z ∧ d = u))) w := by
  have h := eqlRF a b c d x y z u w
  rw [run_eql_struct] at h
  rw [run_neq_struct]
  cases hr : (Op.equalIn 10000 71 (.agg #[.int .i64 a, .int .i64 b, .int .i64 c, .int .i64 d]) (.agg #[.int .i64 x, .int .i64 y, .int .i64 z, .int .i64 u])).run Tryz.prog w with
  | ok b w' => rw [hr] at h; simp [Result.andThen] at h ⊢; exact ⟨h.1, h.2⟩
  | halt b w' => rw [hr] at h; simp [Result.andThen] at h
theorem errGl {w : World} {B : Nat} {x y z : Int} {u : ByteArray} (h : w.heap[B]? = some (.cells #[.int .i64 x, .int .i64 y, .int .i64 z, .string u] 29 (0, 0))) :
    (w.cell? ⟨B, 0, none⟩ = some (.int .i64 x) ∧ w.cell? ⟨B, 1, none⟩ = some (.int .i64 y) ∧ w.cell? ⟨B, 2, none⟩ = some (.int .i64 z) ∧ w.cell? ⟨B, 3, none⟩ = some (.string u)) ∧ B < w.heap.size := by
  refine ⟨⟨?_, ?_, ?_, ?_⟩, (Array.getElem?_eq_some_iff.1 h).1⟩ <;> simp [World.cell?, h]
theorem fGl {w : World} {B : Nat} {T : TypeId} {x y z u : Int} (h : w.heap[B]? = some (.cells #[.int .i64 x, .int .i64 y, .int .i64 z, .int .i64 u] T (0, 0))) :
    (w.cell? ⟨B, 0, none⟩ = some (.int .i64 x) ∧ w.cell? ⟨B, 1, none⟩ = some (.int .i64 y) ∧ w.cell? ⟨B, 2, none⟩ = some (.int .i64 z) ∧ w.cell? ⟨B, 3, none⟩ = some (.int .i64 u)) ∧ (w.frozen? ⟨B, 0, none⟩ = false ∧ w.frozen? ⟨B, 1, none⟩ = false ∧ w.frozen? ⟨B, 2, none⟩ = false ∧ w.frozen? ⟨B, 3, none⟩ = false) ∧ B < w.heap.size := by
  refine ⟨⟨?_, ?_, ?_, ?_⟩, ⟨?_, ?_, ?_, ?_⟩, (Array.getElem?_eq_some_iff.1 h).1⟩ <;> simp [World.cell?, World.frozen?, h]
set_option maxRecDepth 100000 in
set_option maxHeartbeats 16000000 in
theorem wLooks_any {w : World} {p pc : Addr} (hE : ErrsK 14 p w) (hE2 : ErrsK 15 pc w) (hT : ErrType w) {s : Lts} {a : Option Addr} {b off c : Nat} (hS : SlAt encE 3 w a b off s.es) (hc : s.es.length ≤ c) (hcm : c ≤ maxLen) {L : List Int} {ca : Option Addr} {cb co cc : Nat} (hC : SlAt encI 1 w ca cb co L) (hwf : ∀ x ∈ L, (Lit.int .i64 x).wf = true) :
    Calls Tryz.prog 4 #[.agg #[.int .i64 s.st, .int .i64 s.lb, .int .i64 s.s0, .slice a s.es.length c], .slice ca L.length cc] w fun e w' => e = .returned (.bool true) ∧ Below w.heap.size w w' := by
  have hB0 := (Below.refl w.heap.size w).alloc (Nat.le_refl _) (Obj.cells #[.int .i64 s.st, .int .i64 s.lb, .int .i64 s.s0, .slice a s.es.length c] 24)
  have hbx := heap_alloc_new w (Obj.cells #[.int .i64 s.st, .int .i64 s.lb, .int .i64 s.s0, .slice a s.es.length c] 24)
  have HLI := hid (light19b_any (c := c) (hS.below hB0 (Nat.le_refl _)))
  have HE := hid hE; have HE2 := hid hE2; have HTY := hid hT; have HS := hid hS; have HCI := hid hC; have HWF := hid hwf
  have ALV : Hid (∀ w1 : World, Below w.heap.size w w1 → Calls Tryz.prog 24 #[] w1 fun e w' => e = .returned (.bool true) ∧ Below w1.heap.size w1 w') := hid (fun w1 h1 => alive19_any (hE.sys.below h1))
  have HC := hid hc; have HCM := hid hcm
  obtain ⟨el, hel⟩ : ∃ el, el = s.es.length := ⟨_, rfl⟩
  obtain ⟨m, hm⟩ : ∃ m, m = L.length := ⟨_, rfl⟩
  rw [← hel] at HLI hbx hB0 ⊢
  rw [← hm]
  have HB0 := hid hB0; have HBX := hid hbx; have HEL := hid hel; have HM := hid hm
  clear hE hE2 hT hS hB0 hbx hc hcm hel hC hwf hm
  go_enter Tryz.func4, Tryz.ntmps4
  go_wp2_with fail
  refine HLI.out.mono ?_
  rintro e w1 ⟨bv, rfl, hbv, hB1⟩
  have HBX1 := hid ((hB1.block w.heap.size (by simp)).trans HBX.out)
  have HB1 := hid (HB0.out.trans (hB1.mono (by simp)))
  have HBV := hid hbv
  clear hbv hB1 HLI HB0 HBX
  cases bv
  · go_wp2_with fail
    refine (ALV.out _ HB1.out).mono ?_
    rintro e w2 ⟨rfl, hB⟩
    have HB2 := hid (HB1.out.trans (hB.mono HB1.out.size))
    clear hB
    go_wp2
    go_ret
    exact ⟨rfl, HB2.out⟩
  by_cases hm12 : (1200 : Int) < (m : Int)
  · go_wp2_with fail
    refine (ALV.out _ HB1.out).mono ?_
    rintro e w2 ⟨rfl, hB⟩
    have HB2 := hid (HB1.out.trans (hB.mono HB1.out.size))
    clear hB
    go_wp2
    go_ret
    exact ⟨rfl, HB2.out⟩
  have hlt := HBV.out rfl
  have hel1 : el ≤ 11000 := by rcases hlt with h | h <;> omega
  have hlt30 : s.Right → s.st ≤ 30 := fun h => by rcases hlt with h2 | h2; exact h2.1; exact absurd h h2.1
  have hpk := looks_pk (cc := cc) HE.out HE2.out HTY.out hlt30 HS.out HC.out HCM.out HCI.out (by rw [← HM.out]; omega) HWF.out
  obtain ⟨k, x, Q, A, hQb, hQf, hP1, hP2, hP3, hGU, hTO, hLK⟩ := hpk
  rw [← HEL.out, ← HM.out] at hP1 hP2 hP3 hGU hLK
  have hls := lent_any (c := c) (HS.out.below HB1.out (Nat.le_refl _)) (by rw [← HEL.out]; omega)
  rw [← HEL.out] at hls
  have hci := HCI.out
  have hli : ∀ V, Below w.heap.size w V → _ := fun V (hV : Below w.heap.size w V) => lentInts_any (c := cc) (hci.below hV (Nat.le_refl _)) (by rw [← HM.out]; omega)
  rw [← HM.out] at hli
  obtain ⟨y0, y1, y2, y3, y4⟩ := sysC HBX1.out
  have HLS := hid hls; have HLN := hid hli
  have HQB := hid hQb; have HQF := hid hQf; have HP1 := hid hP1; have HP2 := hid hP2; have HP3 := hid hP3; have HGU := hid hGU; have HTO := hid hTO; have HLK := hid hLK
  clear hlt hlt30 hls hli hci hQb hQf hP1 hP2 hP3 hGU hTO hLK HBV HE HE2 HTY HC HCM HWF
  go_wp2_with fail
  refine HLS.out.mono ?_
  rintro e w2 ⟨g, gc, rfl, hls2, hB2⟩
  have HB2 := hid (HB1.out.trans (hB2.mono HB1.out.size))
  have HX2 := hid ((hB2.block w.heap.size (Array.getElem?_eq_some_iff.1 HBX1.out).1).trans HBX1.out)
  have HL2 := hid hls2
  have hln2 := HLN.out w2 HB2.out
  have HLN2 := hid hln2
  clear hls2 hB2 hln2 y0 y1 y2 y3 y4 HLS HLN HBX1 HB1
  go_wp2_with fail
  refine HLN2.out.mono ?_
  rintro e w3 ⟨lv, rfl, hlent, hB3⟩
  obtain ⟨h, hcap, hlv, _, _, hlg⟩ := hlent.ex
  rw [← HM.out] at hlv
  subst hlv
  obtain ⟨W3, hW3⟩ : ∃ W3, W3 = w3.alloc (Obj.cells #[.int .i64 s.st, .int .i64 s.lb, .int .i64 s.s0, .slice (some ⟨g, 0, none⟩) el gc] 24) := ⟨_, rfl⟩
  have hbW3 : Below w3.heap.size w3 W3 := by rw [hW3]; exact (Below.refl _ _).alloc (Nat.le_refl _) _
  have hLB : W3.heap[w3.heap.size]? = some (.cells #[.int .i64 s.st, .int .i64 s.lb, .int .i64 s.s0, .slice (some ⟨g, 0, none⟩) el gc] 24 (0, 0)) := by rw [hW3]; exact heap_alloc_new w3 _
  have hb23 := hB3.trans (hbW3.mono hB3.size)
  have hX3 := (hb23.block _ (Array.getElem?_eq_some_iff.1 HX2.out).1).trans HX2.out
  have hBW := HB2.out.trans (hb23.mono HB2.out.size)
  have HKS : Hid (∀ V, Below W3.heap.size W3 V → (V.cell? ⟨w.heap.size, 0, none⟩ = some (.int .i64 s.st) ∧ V.cell? ⟨w.heap.size, 1, none⟩ = some (.int .i64 s.lb) ∧ V.cell? ⟨w.heap.size, 2, none⟩ = some (.int .i64 s.s0) ∧ V.cell? ⟨w.heap.size, 3, none⟩ = some (.slice a el c)) ∧ w.heap.size < V.heap.size) := hid (fun V hV => by
    have h1 := (hV.block _ (Array.getElem?_eq_some_iff.1 hX3).1).trans hX3
    exact ⟨sysG h1, (Array.getElem?_eq_some_iff.1 h1).1⟩)
  obtain ⟨lb, hlb⟩ : ∃ lb, lb = w3.heap.size := ⟨_, rfl⟩
  rw [← hlb] at hLB
  have HKL : Hid (∀ V, Below W3.heap.size W3 V → (V.cell? ⟨lb, 0, none⟩ = some (.int .i64 s.st) ∧ V.cell? ⟨lb, 1, none⟩ = some (.int .i64 s.lb) ∧ V.cell? ⟨lb, 2, none⟩ = some (.int .i64 s.s0) ∧ V.cell? ⟨lb, 3, none⟩ = some (.slice (some ⟨g, 0, none⟩) el gc)) ∧ lb < V.heap.size) := hid (fun V hV => by
    have h1 := (hV.block _ (Array.getElem?_eq_some_iff.1 hLB).1).trans hLB
    exact ⟨sysG h1, (Array.getElem?_eq_some_iff.1 h1).1⟩)
  have HLE : Hid (∀ V, Below W3.heap.size W3 V → LentS V w1.heap.size g gc s.es ∧ LentI V (.slice (some ⟨h, 0, none⟩) m hcap) L ∧ SlAt encE 3 V (some ⟨g, 0, none⟩) g 0 s.es ∧ SlAt encI 1 V (some ⟨h, 0, none⟩) h 0 L ∧ Below w.heap.size w V) := hid (fun V hV => by
    have h23 := hb23.trans (hV.mono hb23.size)
    have h3 := hbW3.trans (hV.mono hbW3.size)
    have hl := HL2.out.below h23
    exact ⟨hl, hlent.below h3, SlAt.preE hl.all.1, (hlg.pre).below h3 (Nat.le_refl _), hBW.trans (hV.mono hBW.size)⟩)
  have HST : Hid (∀ V, Below W3.heap.size W3 V → Calls Tryz.prog 14 #[.agg #[.int .i64 s.st, .int .i64 s.lb, .int .i64 s.s0, .slice (some ⟨g, 0, none⟩) el gc], .agg #[.int .i64 s.st, .int .i64 s.lb, .int .i64 s.s0, .slice a el c]] V fun e w' => e = .returned (.bool true) ∧ Below V.heap.size V w') := hid (fun V hV => by
    obtain ⟨h1, _, _, _, h5⟩ := HLE.out V hV
    have h := stays_any (st := s.st) (lb := s.lb) (s0 := s.s0) (st' := s.st) (lb' := s.lb) (s0' := s.s0) (c := c) h1 (HS.out.below h5 (Nat.le_refl _)) (by rw [← HEL.out]; omega)
    rw [← HEL.out] at h
    exact h)
  have HSI : Hid (∀ V, Below W3.heap.size W3 V → Calls Tryz.prog 30 #[.slice (some ⟨h, 0, none⟩) m hcap, .slice ca m cc] V fun e w' => e = .returned (.bool true) ∧ ∃ m, w' = V.drewN m) := hid (fun V hV => by
    obtain ⟨_, h2, _, _, h5⟩ := HLE.out V hV
    have h := staysInts_any (c := cc) h2 (HCI.out.below h5 (Nat.le_refl _)) (by rw [← HM.out]; omega)
    rw [← HM.out] at h
    exact h)
  have HW3 := hid hW3; have HLB := hid hlb
  clear hW3 hbW3 hLB hb23 hX3 hBW hlent hlg hB3 hlb HLN2 HX2 HL2 HB2 HS HCI HEL HM
  go_wp2_with fail
  rw [← HW3.out, ← HLB.out]
  clear HW3 HLB
  go_loopw [7, 8, 9, 10, 11, 12, 13, 39, 48] (fun v7 _ _ _ _ _ _ _ _ wr => ∃ kd : Nat, v7 = .int .i64 kd ∧ 1 ≤ kd ∧ kd ≤ 4 ∧ Below W3.heap.size W3 wr) (fun v7 _ _ _ _ _ _ _ _ _ => 4 - (intOf v7).toNat)
  case atStart => exact ⟨1, rfl, by omega, by omega, Below.refl _ _⟩
  case round =>
    obtain ⟨kd, rfl, hk1, hk4, hB⟩ := hrel
    have HB := hid hB
    clear hB
    by_cases hk3 : kd ≤ 3
    · have h123 : kd = 1 ∨ kd = 2 ∨ kd = 3 := by omega
      rcases h123 with rfl | rfl | rfl
      · obtain ⟨wF, hwF⟩ : ∃ wF, wF = wr.alloc (Obj.cells #[.int .i64 0, .int .i64 0, .int .i64 0, .int .i64 0] 67) := ⟨_, rfl⟩
        have hbF := HB.out.alloc HB.out.size (Obj.cells #[.int .i64 0, .int .i64 0, .int .i64 0, .int .i64 0] 67)
        have hfb := heap_alloc_new wr (Obj.cells #[.int .i64 0, .int .i64 0, .int .i64 0, .int .i64 0] 67)
        rw [← hwF] at hbF hfb
        obtain ⟨fb, hfbE⟩ : ∃ fb, fb = wr.heap.size := ⟨_, rfl⟩
        have hfl : W3.heap.size ≤ fb := by rw [hfbE]; exact HB.out.size
        rw [← hfbE] at hfb
        obtain ⟨_, _, s1, s2, h5⟩ := HLE.out wF hbF
        have hp := HP1.out wF (some ⟨g, 0, none⟩) g gc (some ⟨h, 0, none⟩) h hcap h5 s1 s2
        obtain ⟨⟨y0, y1, y2, y3⟩, y4⟩ := HKL.out wF hbF
        have HWF := hid hwF; have HBF := hid hbF; have HFB := hid hfb; have HFE := hid hfbE; have HPP := hid hp
        clear hwF hbF hfb hfbE s1 s2 h5 hp
        go_upto_region 13 with fail
        rw [← HWF.out, ← HFE.out]
        go_wp2_with fail
        refine HPP.out.mono ?_
        rintro e w4 ⟨fa, f2, fc, fd, ok, v, rfl, hq, hA, hB4⟩
        have hf4 := (hB4.block fb (Array.getElem?_eq_some_iff.1 HFB.out).1).trans HFB.out
        have hb4 := HBF.out.trans (hB4.mono HBF.out.size)
        have hsf := HQF.out w4 v fb _ (.int .i64 fa) (.int .i64 f2) (.int .i64 fc) (.int .i64 fd) hq hf4
        have hf5 : ((((w4.setCell ⟨fb, 0, none⟩ (.int .i64 fa)).setCell ⟨fb, 1, none⟩ (.int .i64 f2)).setCell ⟨fb, 2, none⟩ (.int .i64 fc)).setCell ⟨fb, 3, none⟩ (.int .i64 fd)).heap[fb]? = some (.cells #[.int .i64 fa, .int .i64 f2, .int .i64 fc, .int .i64 fd] 67 (0, 0)) := heap_setCell_same _ _ 3 _ _ _ (heap_setCell_same _ _ 2 _ _ _ (heap_setCell_same _ _ 1 _ _ _ (heap_setCell_same _ _ 0 _ _ _ hf4)))
        have hb5 := (((hb4.setCell (p := ⟨fb, 0, none⟩) hfl (.int .i64 fa)).setCell (p := ⟨fb, 1, none⟩) hfl (.int .i64 f2)).setCell (p := ⟨fb, 2, none⟩) hfl (.int .i64 fc)).setCell (p := ⟨fb, 3, none⟩) hfl (.int .i64 fd)
        obtain ⟨_, ⟨z0, z1, z2, z3⟩, zl⟩ := fGl hf4
        have HQ4 := hid hsf; have HF5 := hid hf5; have HB5 := hid hb5; have HA := hid hA
        clear hf4 hb4 hsf hf5 hb5 hq hA hB4 y0 y1 y2 y3 y4 HPP HWF HFE HBF HFB
        go_upto_region 16 with fail
        obtain ⟨W5, hW5⟩ : ∃ W5, W5 = (((w4.setCell ⟨fb, 0, none⟩ (.int .i64 fa)).setCell ⟨fb, 1, none⟩ (.int .i64 f2)).setCell ⟨fb, 2, none⟩ (.int .i64 fc)).setCell ⟨fb, 3, none⟩ (.int .i64 fd) := ⟨_, rfl⟩
        rw [← hW5] at HQ4 HF5 HB5 ⊢
        replace HF5 : Hid (W5.heap[fb]? = some (.cells #[.int .i64 fa, .int .i64 f2, .int .i64 fc, .int .i64 fd] 67 (0, 0))) := hid HF5.out
        clear hW5 z0 z1 z2 z3 zl
        obtain ⟨⟨x0, x1, x2, x3⟩, xl⟩ := HKS.out W5 HB5.out
        have HGU5 := hid (HGU.out W5 1 (HLE.out W5 HB5.out).2.2.2.2)
        go_wp2_with fail
        refine HGU5.out.mono ?_
        rintro e w6 ⟨rfl, hB6⟩
        obtain ⟨W6, hW6⟩ : ∃ W6, W6 = w6.alloc (Obj.cells #[.int .i64 k, .int .i64 0, .int .i64 0, .string x] 29) := ⟨_, rfl⟩
        have hbW6 : Below w6.heap.size w6 W6 := by rw [hW6]; exact (Below.refl _ _).alloc (Nat.le_refl _) _
        have hEB : W6.heap[w6.heap.size]? = some (.cells #[.int .i64 k, .int .i64 0, .int .i64 0, .string x] 29 (0, 0)) := by rw [hW6]; exact heap_alloc_new w6 _
        have hb56 := hB6.trans (hbW6.mono hB6.size)
        have HF6 := hid ((hb56.block fb (Array.getElem?_eq_some_iff.1 HF5.out).1).trans HF5.out)
        have HB6 := hid (HB5.out.trans (hb56.mono HB5.out.size))
        have HQ6 := hid (HQB.out _ _ _ HQ4.out hb56)
        have HEB := hid hEB; have HW6 := hid hW6
        clear hbW6 hEB hW6 hB6 hb56 x0 x1 x2 x3 xl HF5 HB5 HQ4 HGU5
        go_upto_region 17 with fail
        rw [← HW6.out]
        obtain ⟨eb, heb⟩ : ∃ eb, eb = w6.heap.size := ⟨_, rfl⟩
        rw [← heb] at HEB ⊢
        clear heb HW6
        obtain ⟨⟨z0, z1, z2, z3⟩, zl⟩ := errGl HEB.out
        have HTO6 := hid (HTO.out W6 v (HLE.out W6 HB6.out).2.2.2.2 HQ6.out)
        go_wp2_with fail
        refine HTO6.out.mono ?_
        rintro e w7 ⟨rfl, hB7⟩
        have HB7 := hid hB7
        clear hB7 z0 z1 z2 z3 zl HTO6
        have h67 := HB6.out.trans (HB7.out.mono HB6.out.size)
        obtain ⟨⟨x0, x1, x2, x3⟩, xl⟩ := HKS.out w7 h67
        obtain ⟨⟨y0, y1, y2, y3⟩, y4⟩ := HKL.out w7 h67
        have HST7 := hid (HST.out w7 h67)
        clear h67
        go_wp2_with fail
        refine HST7.out.mono ?_
        rintro e w8 ⟨rfl, hB8⟩
        have HB8 := hid (HB7.out.trans (hB8.mono HB7.out.size))
        have HSI8 := hid (HSI.out w8 (HB6.out.trans (HB8.out.mono HB6.out.size)))
        clear hB8 x0 x1 x2 x3 xl y0 y1 y2 y3 y4 HST7 HB7
        go_wp2_with fail
        refine HSI8.out.mono ?_
        rintro e w9 ⟨rfl, q9, hw9⟩
        have hB9 : Below w8.heap.size w8 w9 := by rw [hw9]; exact bdrew (Below.refl _ _)
        have hb69 := HB8.out.trans (hB9.mono HB8.out.size)
        obtain ⟨⟨z0, z1, z2, z3⟩, zl⟩ := errGl ((hb69.block eb (Array.getElem?_eq_some_iff.1 HEB.out).1).trans HEB.out)
        have hf9 := (hb69.block fb (Array.getElem?_eq_some_iff.1 HF6.out).1).trans HF6.out
        have HB9 := hid (HB6.out.trans (hb69.mono HB6.out.size)); have HF9 := hid hf9
        clear hw9 hB9 hb69 hf9 HSI8 HB8 HEB HQ6 HF6 HB6
        rcases HLK.out with ⟨hk0, hno⟩ | ⟨hk0, hlk⟩
        · obtain ⟨rfl, rfl, rfl, rfl, rfl⟩ := hno _ _ _ _ _ _ HA.out
          have hkb : (k != 0) = true := by simp [hk0]
          obtain ⟨⟨g0, g1, g2, g3⟩, _, gl⟩ := fGl HF9.out
          have hqn : ∀ w, (binOp .neq 71 (.agg #[.int .i64 0, .int .i64 0, .int .i64 0, .int .i64 0]) (.agg #[.int .i64 0, .int .i64 0, .int .i64 0, .int .i64 0])).run Tryz.prog w = .ok (.bool false) w := fun w => by
            have h := neqRF 0 0 0 0 0 0 0 0 w
            simpa using h
          have hgf := guardRF
          clear hno
          go_wp2_with fail
          refine (as19_any 0 0 0 0 _).mono ?_
          rintro e wa ⟨rfl, hBa⟩
          have HBa := hid (HB9.out.trans (hBa.mono HB9.out.size))
          clear hBa z0 z1 z2 z3 zl g0 g1 g2 g3 gl
          go_wp2_with fail
          go_roundw
          case rel => exact ⟨1 + 1, by go_num, by omega, by omega, HBa.out⟩
          case measure => simp [intOf]
        · subst hk0
          obtain ⟨⟨x0, x1, x2, x3⟩, xl⟩ := HKS.out w9 HB9.out
          have HLK9 := hid (hlk w9 1 (by decide) (by decide) (HLE.out w9 HB9.out).2.2.2.2)
          clear hlk
          go_wp2_with fail
          refine HLK9.out.mono ?_
          rintro e wl ⟨hel, hBl⟩
          have hel := hel _ _ _ _ _ HA.out
          subst hel
          obtain ⟨W8, hW8⟩ : ∃ W8, W8 = wl.alloc (Obj.cells #[.int .i64 fa, .int .i64 f2, .int .i64 fc, .int .i64 fd] 71) := ⟨_, rfl⟩
          have hbW8 : Below wl.heap.size wl W8 := by rw [hW8]; exact (Below.refl _ _).alloc (Nat.le_refl _) _
          have hRB : W8.heap[wl.heap.size]? = some (.cells #[.int .i64 fa, .int .i64 f2, .int .i64 fc, .int .i64 fd] 71 (0, 0)) := by rw [hW8]; exact heap_alloc_new wl _
          have hb98 := hBl.trans (hbW8.mono hBl.size)
          have hf8 := (hb98.block fb (Array.getElem?_eq_some_iff.1 HF9.out).1).trans HF9.out
          obtain ⟨rb, hrb⟩ : ∃ rb, rb = wl.heap.size := ⟨_, rfl⟩
          rw [← hrb] at hRB
          have HK8 : Hid (∀ V, Below W8.heap.size W8 V → ((V.cell? ⟨fb, 0, none⟩ = some (.int .i64 fa) ∧ V.cell? ⟨fb, 1, none⟩ = some (.int .i64 f2) ∧ V.cell? ⟨fb, 2, none⟩ = some (.int .i64 fc) ∧ V.cell? ⟨fb, 3, none⟩ = some (.int .i64 fd)) ∧ fb < V.heap.size) ∧ ((V.cell? ⟨rb, 0, none⟩ = some (.int .i64 fa) ∧ V.cell? ⟨rb, 1, none⟩ = some (.int .i64 f2) ∧ V.cell? ⟨rb, 2, none⟩ = some (.int .i64 fc) ∧ V.cell? ⟨rb, 3, none⟩ = some (.int .i64 fd)) ∧ rb < V.heap.size) ∧ Below W8.heap.size W8 V) := hid (fun V hV => by
            obtain ⟨h1, _, h2⟩ := fGl ((hV.block fb (Array.getElem?_eq_some_iff.1 hf8).1).trans hf8)
            obtain ⟨h3, _, h4⟩ := fGl ((hV.block rb (Array.getElem?_eq_some_iff.1 hRB).1).trans hRB)
            exact ⟨⟨h1, h2⟩, ⟨h3, h4⟩, hV⟩)
          have HB8 := hid (HB9.out.trans (hb98.mono HB9.out.size))
          have HW8 := hid hW8; have HRBE := hid hrb
          have hqn : ∀ w, (binOp .neq 71 (.agg #[.int .i64 fa, .int .i64 f2, .int .i64 fc, .int .i64 fd]) (.agg #[.int .i64 fa, .int .i64 f2, .int .i64 fc, .int .i64 fd])).run Tryz.prog w = .ok (.bool false) w := fun w => by
            have h := neqRF fa f2 fc fd fa f2 fc fd w
            simpa using h
          have hgf := guardRF
          have hbb : (ok != ok) = false := by simp
          clear hW8 hbW8 hRB hb98 hf8 hBl hrb x0 x1 x2 x3 xl z0 z1 z2 z3 zl HLK9 HF9
          go_upto_region 23 with fail
          rw [← HW8.out, ← HRBE.out]
          refine wp_region_held_drew (S := (fun V => ((V.cell? ⟨fb, 0, none⟩ = some (.int .i64 fa) ∧ V.cell? ⟨fb, 1, none⟩ = some (.int .i64 f2) ∧ V.cell? ⟨fb, 2, none⟩ = some (.int .i64 fc) ∧ V.cell? ⟨fb, 3, none⟩ = some (.int .i64 fd)) ∧ fb < V.heap.size) ∧ ((V.cell? ⟨rb, 0, none⟩ = some (.int .i64 fa) ∧ V.cell? ⟨rb, 1, none⟩ = some (.int .i64 f2) ∧ V.cell? ⟨rb, 2, none⟩ = some (.int .i64 fc) ∧ V.cell? ⟨rb, 3, none⟩ = some (.int .i64 fd)) ∧ rb < V.heap.size) ∧ Below W8.heap.size W8 V)) (by kernel_rfl) (by (try dsimp only); exact HK8.out _ (Below.refl _ _).drew) (fun hHeld => ?_)
          refine wpAnyH_take (i := 0) (v := ?_) rfl (by kernel_rfl) (by kernel_rfl) (by kernel_rfl) (fun _ _ _ h => h) (Or.inl ⟨by rfl, ?_⟩) (by assumption) ?_
          rotate_left
          · intro w hSw
            try dsimp only at hSw
            go_simp
            try with_reducible rfl
          try simp only [List.getElem_toArray, List.getElem_cons_zero, Act.put, List.setIfInBounds_toArray, List.set_cons_zero, List.set_cons_succ]
          refine wpAnyH_take (i := 2) (v := ?_) rfl (by kernel_rfl) (by kernel_rfl) (by kernel_rfl) (fun _ _ _ h => h) (Or.inl ⟨by rfl, ?_⟩) (by assumption) ?_
          rotate_left
          · intro w hSw
            try dsimp only at hSw
            go_simp
            try with_reducible rfl
          try simp only [List.getElem_toArray, List.getElem_cons_zero, List.getElem_cons_succ, Act.put, List.setIfInBounds_toArray, List.set_cons_zero, List.set_cons_succ]
          refine wpAnyH_ready (rs := [1]) (by kernel_rfl) (by simp) ?_
          refine AllReadyH.cons rfl (fun K hK => ?_) AllReadyH.nil
          go_simp
          refine (as19_any fa f2 fc fd _).mono ?_
          rintro e w9 ⟨rfl, hB9⟩
          have HB9 := hid ((Below.refl W8.heap.size W8).drew.trans hB9)
          refine hK.out _ _ (by (try dsimp only); exact HK8.out _ HB9.out) (fun hHeld => ?_)
          clear hK K
          try simp only [List.getElem_toArray, List.getElem_cons_zero, List.getElem_cons_succ, Act.put, List.setIfInBounds_toArray, List.set_cons_zero, List.set_cons_succ]
          refine wpAnyH_take (i := 3) (v := ?_) rfl (by kernel_rfl) (by kernel_rfl) (by kernel_rfl) (fun _ _ _ h => h) (Or.inl ⟨by rfl, ?_⟩) (by assumption) ?_
          rotate_left
          · intro w hSw
            try dsimp only at hSw
            go_simp
            try with_reducible rfl
          try simp only [List.getElem_toArray, List.getElem_cons_zero, List.getElem_cons_succ, Act.put, List.setIfInBounds_toArray, List.set_cons_zero, List.set_cons_succ]
          refine wpAnyH_take (i := 4) (v := ?_) rfl (by kernel_rfl) (by kernel_rfl) (by kernel_rfl) (fun _ _ _ h => h) (Or.inl ⟨by rfl, ?_⟩) (by assumption) ?_
          rotate_left
          · intro w hSw
            try dsimp only at hSw
            go_simp
            try with_reducible rfl
          try simp only [List.getElem_toArray, List.getElem_cons_zero, List.getElem_cons_succ, Act.put, List.setIfInBounds_toArray, List.set_cons_zero, List.set_cons_succ]
          refine wpAnyH_take (i := 5) (v := ?_) rfl (by kernel_rfl) (by kernel_rfl) (by kernel_rfl) (fun _ _ _ h => h) (Or.inl ⟨by rfl, ?_⟩) (by assumption) ?_
          rotate_left
          · intro w hSw
            try dsimp only at hSw
            go_simp
            try with_reducible rfl
          try simp only [List.getElem_toArray, List.getElem_cons_zero, List.getElem_cons_succ, Act.put, List.setIfInBounds_toArray, List.set_cons_zero, List.set_cons_succ]
          refine wpAnyH_take (i := 6) (v := ?_) rfl (by kernel_rfl) (by kernel_rfl) (by kernel_rfl) (fun _ _ _ h => h) (Or.inl ⟨by rfl, ?_⟩) (by assumption) ?_
          rotate_left
          · intro w hSw
            try dsimp only at hSw
            go_simp
            try with_reducible rfl
          try simp only [List.getElem_toArray, List.getElem_cons_zero, List.getElem_cons_succ, Act.put, List.setIfInBounds_toArray, List.set_cons_zero, List.set_cons_succ]
          refine wpAnyH_take (i := 7) (v := ?_) rfl (by kernel_rfl) (by kernel_rfl) (by kernel_rfl) (fun _ _ _ h => h) (Or.inl ⟨by rfl, ?_⟩) (by assumption) ?_
          rotate_left
          · intro w hSw
            try dsimp only at hSw
            go_simp
            try with_reducible rfl
          try simp only [List.getElem_toArray, List.getElem_cons_zero, List.getElem_cons_succ, Act.put, List.setIfInBounds_toArray, List.set_cons_zero, List.set_cons_succ]
          refine wpAnyH_take (i := 8) (v := ?_) rfl (by kernel_rfl) (by kernel_rfl) (by kernel_rfl) (fun _ _ _ h => h) (Or.inl ⟨by rfl, ?_⟩) (by assumption) ?_
          rotate_left
          · intro w hSw
            try dsimp only at hSw
            go_simp
            try with_reducible rfl
          try simp only [List.getElem_toArray, List.getElem_cons_zero, List.getElem_cons_succ, Act.put, List.setIfInBounds_toArray, List.set_cons_zero, List.set_cons_succ]
          refine wpAnyH_done (by kernel_rfl) ?_ _
          go_wp2_with fail
          go_roundw
          case rel => exact ⟨1 + 1, by go_num, by omega, by omega, HB8.out.trans (HB9.out.mono HB8.out.size)⟩
          case measure => simp [intOf]
      · obtain ⟨wF, hwF⟩ : ∃ wF, wF = wr.alloc (Obj.cells #[.int .i64 0, .int .i64 0, .int .i64 0, .int .i64 0] 67) := ⟨_, rfl⟩
        have hbF := HB.out.alloc HB.out.size (Obj.cells #[.int .i64 0, .int .i64 0, .int .i64 0, .int .i64 0] 67)
        have hfb := heap_alloc_new wr (Obj.cells #[.int .i64 0, .int .i64 0, .int .i64 0, .int .i64 0] 67)
        rw [← hwF] at hbF hfb
        obtain ⟨fb, hfbE⟩ : ∃ fb, fb = wr.heap.size := ⟨_, rfl⟩
        have hfl : W3.heap.size ≤ fb := by rw [hfbE]; exact HB.out.size
        rw [← hfbE] at hfb
        obtain ⟨_, _, s1, s2, h5⟩ := HLE.out wF hbF
        have hp := HP2.out wF (some ⟨g, 0, none⟩) g gc (some ⟨h, 0, none⟩) h hcap h5 s1 s2
        obtain ⟨⟨y0, y1, y2, y3⟩, y4⟩ := HKL.out wF hbF
        have HWF := hid hwF; have HBF := hid hbF; have HFB := hid hfb; have HFE := hid hfbE; have HPP := hid hp
        clear hwF hbF hfb hfbE s1 s2 h5 hp
        go_upto_region 15 with fail
        rw [← HWF.out, ← HFE.out]
        go_wp2_with fail
        refine HPP.out.mono ?_
        rintro e w4 ⟨fa, f2, fc, fd, ok, v, rfl, hq, hA, hB4⟩
        have hf4 := (hB4.block fb (Array.getElem?_eq_some_iff.1 HFB.out).1).trans HFB.out
        have hb4 := HBF.out.trans (hB4.mono HBF.out.size)
        have hsf := HQF.out w4 v fb _ (.int .i64 fa) (.int .i64 f2) (.int .i64 fc) (.int .i64 fd) hq hf4
        have hf5 : ((((w4.setCell ⟨fb, 0, none⟩ (.int .i64 fa)).setCell ⟨fb, 1, none⟩ (.int .i64 f2)).setCell ⟨fb, 2, none⟩ (.int .i64 fc)).setCell ⟨fb, 3, none⟩ (.int .i64 fd)).heap[fb]? = some (.cells #[.int .i64 fa, .int .i64 f2, .int .i64 fc, .int .i64 fd] 67 (0, 0)) := heap_setCell_same _ _ 3 _ _ _ (heap_setCell_same _ _ 2 _ _ _ (heap_setCell_same _ _ 1 _ _ _ (heap_setCell_same _ _ 0 _ _ _ hf4)))
        have hb5 := (((hb4.setCell (p := ⟨fb, 0, none⟩) hfl (.int .i64 fa)).setCell (p := ⟨fb, 1, none⟩) hfl (.int .i64 f2)).setCell (p := ⟨fb, 2, none⟩) hfl (.int .i64 fc)).setCell (p := ⟨fb, 3, none⟩) hfl (.int .i64 fd)
        obtain ⟨_, ⟨z0, z1, z2, z3⟩, zl⟩ := fGl hf4
        have HQ4 := hid hsf; have HF5 := hid hf5; have HB5 := hid hb5; have HA := hid hA
        clear hf4 hb4 hsf hf5 hb5 hq hA hB4 y0 y1 y2 y3 y4 HPP HWF HFE HBF HFB
        go_upto_region 16 with fail
        obtain ⟨W5, hW5⟩ : ∃ W5, W5 = (((w4.setCell ⟨fb, 0, none⟩ (.int .i64 fa)).setCell ⟨fb, 1, none⟩ (.int .i64 f2)).setCell ⟨fb, 2, none⟩ (.int .i64 fc)).setCell ⟨fb, 3, none⟩ (.int .i64 fd) := ⟨_, rfl⟩
        rw [← hW5] at HQ4 HF5 HB5 ⊢
        replace HF5 : Hid (W5.heap[fb]? = some (.cells #[.int .i64 fa, .int .i64 f2, .int .i64 fc, .int .i64 fd] 67 (0, 0))) := hid HF5.out
        clear hW5 z0 z1 z2 z3 zl
        obtain ⟨⟨x0, x1, x2, x3⟩, xl⟩ := HKS.out W5 HB5.out
        have HGU5 := hid (HGU.out W5 2 (HLE.out W5 HB5.out).2.2.2.2)
        go_wp2_with fail
        refine HGU5.out.mono ?_
        rintro e w6 ⟨rfl, hB6⟩
        obtain ⟨W6, hW6⟩ : ∃ W6, W6 = w6.alloc (Obj.cells #[.int .i64 k, .int .i64 0, .int .i64 0, .string x] 29) := ⟨_, rfl⟩
        have hbW6 : Below w6.heap.size w6 W6 := by rw [hW6]; exact (Below.refl _ _).alloc (Nat.le_refl _) _
        have hEB : W6.heap[w6.heap.size]? = some (.cells #[.int .i64 k, .int .i64 0, .int .i64 0, .string x] 29 (0, 0)) := by rw [hW6]; exact heap_alloc_new w6 _
        have hb56 := hB6.trans (hbW6.mono hB6.size)
        have HF6 := hid ((hb56.block fb (Array.getElem?_eq_some_iff.1 HF5.out).1).trans HF5.out)
        have HB6 := hid (HB5.out.trans (hb56.mono HB5.out.size))
        have HQ6 := hid (HQB.out _ _ _ HQ4.out hb56)
        have HEB := hid hEB; have HW6 := hid hW6
        clear hbW6 hEB hW6 hB6 hb56 x0 x1 x2 x3 xl HF5 HB5 HQ4 HGU5
        go_upto_region 17 with fail
        rw [← HW6.out]
        obtain ⟨eb, heb⟩ : ∃ eb, eb = w6.heap.size := ⟨_, rfl⟩
        rw [← heb] at HEB ⊢
        clear heb HW6
        obtain ⟨⟨z0, z1, z2, z3⟩, zl⟩ := errGl HEB.out
        have HTO6 := hid (HTO.out W6 v (HLE.out W6 HB6.out).2.2.2.2 HQ6.out)
        go_wp2_with fail
        refine HTO6.out.mono ?_
        rintro e w7 ⟨rfl, hB7⟩
        have HB7 := hid hB7
        clear hB7 z0 z1 z2 z3 zl HTO6
        have h67 := HB6.out.trans (HB7.out.mono HB6.out.size)
        obtain ⟨⟨x0, x1, x2, x3⟩, xl⟩ := HKS.out w7 h67
        obtain ⟨⟨y0, y1, y2, y3⟩, y4⟩ := HKL.out w7 h67
        have HST7 := hid (HST.out w7 h67)
        clear h67
        go_wp2_with fail
        refine HST7.out.mono ?_
        rintro e w8 ⟨rfl, hB8⟩
        have HB8 := hid (HB7.out.trans (hB8.mono HB7.out.size))
        have HSI8 := hid (HSI.out w8 (HB6.out.trans (HB8.out.mono HB6.out.size)))
        clear hB8 x0 x1 x2 x3 xl y0 y1 y2 y3 y4 HST7 HB7
        go_wp2_with fail
        refine HSI8.out.mono ?_
        rintro e w9 ⟨rfl, q9, hw9⟩
        have hB9 : Below w8.heap.size w8 w9 := by rw [hw9]; exact bdrew (Below.refl _ _)
        have hb69 := HB8.out.trans (hB9.mono HB8.out.size)
        obtain ⟨⟨z0, z1, z2, z3⟩, zl⟩ := errGl ((hb69.block eb (Array.getElem?_eq_some_iff.1 HEB.out).1).trans HEB.out)
        have hf9 := (hb69.block fb (Array.getElem?_eq_some_iff.1 HF6.out).1).trans HF6.out
        have HB9 := hid (HB6.out.trans (hb69.mono HB6.out.size)); have HF9 := hid hf9
        clear hw9 hB9 hb69 hf9 HSI8 HB8 HEB HQ6 HF6 HB6
        rcases HLK.out with ⟨hk0, hno⟩ | ⟨hk0, hlk⟩
        · obtain ⟨rfl, rfl, rfl, rfl, rfl⟩ := hno _ _ _ _ _ _ HA.out
          have hkb : (k != 0) = true := by simp [hk0]
          obtain ⟨⟨g0, g1, g2, g3⟩, _, gl⟩ := fGl HF9.out
          have hqn : ∀ w, (binOp .neq 71 (.agg #[.int .i64 0, .int .i64 0, .int .i64 0, .int .i64 0]) (.agg #[.int .i64 0, .int .i64 0, .int .i64 0, .int .i64 0])).run Tryz.prog w = .ok (.bool false) w := fun w => by
            have h := neqRF 0 0 0 0 0 0 0 0 w
            simpa using h
          have hgf := guardRF
          clear hno
          go_wp2_with fail
          refine (as19_any 0 0 0 0 _).mono ?_
          rintro e wa ⟨rfl, hBa⟩
          have HBa := hid (HB9.out.trans (hBa.mono HB9.out.size))
          clear hBa z0 z1 z2 z3 zl g0 g1 g2 g3 gl
          go_wp2_with fail
          go_roundw
          case rel => exact ⟨2 + 1, by go_num, by omega, by omega, HBa.out⟩
          case measure => simp [intOf]
        · subst hk0
          obtain ⟨⟨x0, x1, x2, x3⟩, xl⟩ := HKS.out w9 HB9.out
          have HLK9 := hid (hlk w9 2 (by decide) (by decide) (HLE.out w9 HB9.out).2.2.2.2)
          clear hlk
          go_wp2_with fail
          refine HLK9.out.mono ?_
          rintro e wl ⟨hel, hBl⟩
          have hel := hel _ _ _ _ _ HA.out
          subst hel
          obtain ⟨W8, hW8⟩ : ∃ W8, W8 = wl.alloc (Obj.cells #[.int .i64 fa, .int .i64 f2, .int .i64 fc, .int .i64 fd] 71) := ⟨_, rfl⟩
          have hbW8 : Below wl.heap.size wl W8 := by rw [hW8]; exact (Below.refl _ _).alloc (Nat.le_refl _) _
          have hRB : W8.heap[wl.heap.size]? = some (.cells #[.int .i64 fa, .int .i64 f2, .int .i64 fc, .int .i64 fd] 71 (0, 0)) := by rw [hW8]; exact heap_alloc_new wl _
          have hb98 := hBl.trans (hbW8.mono hBl.size)
          have hf8 := (hb98.block fb (Array.getElem?_eq_some_iff.1 HF9.out).1).trans HF9.out
          obtain ⟨rb, hrb⟩ : ∃ rb, rb = wl.heap.size := ⟨_, rfl⟩
          rw [← hrb] at hRB
          have HK8 : Hid (∀ V, Below W8.heap.size W8 V → ((V.cell? ⟨fb, 0, none⟩ = some (.int .i64 fa) ∧ V.cell? ⟨fb, 1, none⟩ = some (.int .i64 f2) ∧ V.cell? ⟨fb, 2, none⟩ = some (.int .i64 fc) ∧ V.cell? ⟨fb, 3, none⟩ = some (.int .i64 fd)) ∧ fb < V.heap.size) ∧ ((V.cell? ⟨rb, 0, none⟩ = some (.int .i64 fa) ∧ V.cell? ⟨rb, 1, none⟩ = some (.int .i64 f2) ∧ V.cell? ⟨rb, 2, none⟩ = some (.int .i64 fc) ∧ V.cell? ⟨rb, 3, none⟩ = some (.int .i64 fd)) ∧ rb < V.heap.size) ∧ Below W8.heap.size W8 V) := hid (fun V hV => by
            obtain ⟨h1, _, h2⟩ := fGl ((hV.block fb (Array.getElem?_eq_some_iff.1 hf8).1).trans hf8)
            obtain ⟨h3, _, h4⟩ := fGl ((hV.block rb (Array.getElem?_eq_some_iff.1 hRB).1).trans hRB)
            exact ⟨⟨h1, h2⟩, ⟨h3, h4⟩, hV⟩)
          have HB8 := hid (HB9.out.trans (hb98.mono HB9.out.size))
          have HW8 := hid hW8; have HRBE := hid hrb
          have hqn : ∀ w, (binOp .neq 71 (.agg #[.int .i64 fa, .int .i64 f2, .int .i64 fc, .int .i64 fd]) (.agg #[.int .i64 fa, .int .i64 f2, .int .i64 fc, .int .i64 fd])).run Tryz.prog w = .ok (.bool false) w := fun w => by
            have h := neqRF fa f2 fc fd fa f2 fc fd w
            simpa using h
          have hgf := guardRF
          have hbb : (ok != ok) = false := by simp
          clear hW8 hbW8 hRB hb98 hf8 hBl hrb x0 x1 x2 x3 xl z0 z1 z2 z3 zl HLK9 HF9
          go_upto_region 23 with fail
          rw [← HW8.out, ← HRBE.out]
          refine wp_region_held_drew (S := (fun V => ((V.cell? ⟨fb, 0, none⟩ = some (.int .i64 fa) ∧ V.cell? ⟨fb, 1, none⟩ = some (.int .i64 f2) ∧ V.cell? ⟨fb, 2, none⟩ = some (.int .i64 fc) ∧ V.cell? ⟨fb, 3, none⟩ = some (.int .i64 fd)) ∧ fb < V.heap.size) ∧ ((V.cell? ⟨rb, 0, none⟩ = some (.int .i64 fa) ∧ V.cell? ⟨rb, 1, none⟩ = some (.int .i64 f2) ∧ V.cell? ⟨rb, 2, none⟩ = some (.int .i64 fc) ∧ V.cell? ⟨rb, 3, none⟩ = some (.int .i64 fd)) ∧ rb < V.heap.size) ∧ Below W8.heap.size W8 V)) (by kernel_rfl) (by (try dsimp only); exact HK8.out _ (Below.refl _ _).drew) (fun hHeld => ?_)
          refine wpAnyH_take (i := 0) (v := ?_) rfl (by kernel_rfl) (by kernel_rfl) (by kernel_rfl) (fun _ _ _ h => h) (Or.inl ⟨by rfl, ?_⟩) (by assumption) ?_
          rotate_left
          · intro w hSw
            try dsimp only at hSw
            go_simp
            try with_reducible rfl
          try simp only [List.getElem_toArray, List.getElem_cons_zero, Act.put, List.setIfInBounds_toArray, List.set_cons_zero, List.set_cons_succ]
          refine wpAnyH_take (i := 2) (v := ?_) rfl (by kernel_rfl) (by kernel_rfl) (by kernel_rfl) (fun _ _ _ h => h) (Or.inl ⟨by rfl, ?_⟩) (by assumption) ?_
          rotate_left
          · intro w hSw
            try dsimp only at hSw
            go_simp
            try with_reducible rfl
          try simp only [List.getElem_toArray, List.getElem_cons_zero, List.getElem_cons_succ, Act.put, List.setIfInBounds_toArray, List.set_cons_zero, List.set_cons_succ]
          refine wpAnyH_ready (rs := [1]) (by kernel_rfl) (by simp) ?_
          refine AllReadyH.cons rfl (fun K hK => ?_) AllReadyH.nil
          go_simp
          refine (as19_any fa f2 fc fd _).mono ?_
          rintro e w9 ⟨rfl, hB9⟩
          have HB9 := hid ((Below.refl W8.heap.size W8).drew.trans hB9)
          refine hK.out _ _ (by (try dsimp only); exact HK8.out _ HB9.out) (fun hHeld => ?_)
          clear hK K
          try simp only [List.getElem_toArray, List.getElem_cons_zero, List.getElem_cons_succ, Act.put, List.setIfInBounds_toArray, List.set_cons_zero, List.set_cons_succ]
          refine wpAnyH_take (i := 3) (v := ?_) rfl (by kernel_rfl) (by kernel_rfl) (by kernel_rfl) (fun _ _ _ h => h) (Or.inl ⟨by rfl, ?_⟩) (by assumption) ?_
          rotate_left
          · intro w hSw
            try dsimp only at hSw
            go_simp
            try with_reducible rfl
          try simp only [List.getElem_toArray, List.getElem_cons_zero, List.getElem_cons_succ, Act.put, List.setIfInBounds_toArray, List.set_cons_zero, List.set_cons_succ]
          refine wpAnyH_take (i := 4) (v := ?_) rfl (by kernel_rfl) (by kernel_rfl) (by kernel_rfl) (fun _ _ _ h => h) (Or.inl ⟨by rfl, ?_⟩) (by assumption) ?_
          rotate_left
          · intro w hSw
            try dsimp only at hSw
            go_simp
            try with_reducible rfl
          try simp only [List.getElem_toArray, List.getElem_cons_zero, List.getElem_cons_succ, Act.put, List.setIfInBounds_toArray, List.set_cons_zero, List.set_cons_succ]
          refine wpAnyH_take (i := 5) (v := ?_) rfl (by kernel_rfl) (by kernel_rfl) (by kernel_rfl) (fun _ _ _ h => h) (Or.inl ⟨by rfl, ?_⟩) (by assumption) ?_
          rotate_left
          · intro w hSw
            try dsimp only at hSw
            go_simp
            try with_reducible rfl
          try simp only [List.getElem_toArray, List.getElem_cons_zero, List.getElem_cons_succ, Act.put, List.setIfInBounds_toArray, List.set_cons_zero, List.set_cons_succ]
          refine wpAnyH_take (i := 6) (v := ?_) rfl (by kernel_rfl) (by kernel_rfl) (by kernel_rfl) (fun _ _ _ h => h) (Or.inl ⟨by rfl, ?_⟩) (by assumption) ?_
          rotate_left
          · intro w hSw
            try dsimp only at hSw
            go_simp
            try with_reducible rfl
          try simp only [List.getElem_toArray, List.getElem_cons_zero, List.getElem_cons_succ, Act.put, List.setIfInBounds_toArray, List.set_cons_zero, List.set_cons_succ]
          refine wpAnyH_take (i := 7) (v := ?_) rfl (by kernel_rfl) (by kernel_rfl) (by kernel_rfl) (fun _ _ _ h => h) (Or.inl ⟨by rfl, ?_⟩) (by assumption) ?_
          rotate_left
          · intro w hSw
            try dsimp only at hSw
            go_simp
            try with_reducible rfl
          try simp only [List.getElem_toArray, List.getElem_cons_zero, List.getElem_cons_succ, Act.put, List.setIfInBounds_toArray, List.set_cons_zero, List.set_cons_succ]
          refine wpAnyH_take (i := 8) (v := ?_) rfl (by kernel_rfl) (by kernel_rfl) (by kernel_rfl) (fun _ _ _ h => h) (Or.inl ⟨by rfl, ?_⟩) (by assumption) ?_
          rotate_left
          · intro w hSw
            try dsimp only at hSw
            go_simp
            try with_reducible rfl
          try simp only [List.getElem_toArray, List.getElem_cons_zero, List.getElem_cons_succ, Act.put, List.setIfInBounds_toArray, List.set_cons_zero, List.set_cons_succ]
          refine wpAnyH_done (by kernel_rfl) ?_ _
          go_wp2_with fail
          go_roundw
          case rel => exact ⟨2 + 1, by go_num, by omega, by omega, HB8.out.trans (HB9.out.mono HB8.out.size)⟩
          case measure => simp [intOf]
      · obtain ⟨wF, hwF⟩ : ∃ wF, wF = wr.alloc (Obj.cells #[.int .i64 0, .int .i64 0, .int .i64 0, .int .i64 0] 67) := ⟨_, rfl⟩
        have hbF := HB.out.alloc HB.out.size (Obj.cells #[.int .i64 0, .int .i64 0, .int .i64 0, .int .i64 0] 67)
        have hfb := heap_alloc_new wr (Obj.cells #[.int .i64 0, .int .i64 0, .int .i64 0, .int .i64 0] 67)
        rw [← hwF] at hbF hfb
        obtain ⟨fb, hfbE⟩ : ∃ fb, fb = wr.heap.size := ⟨_, rfl⟩
        have hfl : W3.heap.size ≤ fb := by rw [hfbE]; exact HB.out.size
        rw [← hfbE] at hfb
        obtain ⟨_, _, s1, s2, h5⟩ := HLE.out wF hbF
        have hp := HP3.out wF (some ⟨g, 0, none⟩) g gc (some ⟨h, 0, none⟩) h hcap h5 s1 s2
        obtain ⟨⟨y0, y1, y2, y3⟩, y4⟩ := HKL.out wF hbF
        have HWF := hid hwF; have HBF := hid hbF; have HFB := hid hfb; have HFE := hid hfbE; have HPP := hid hp
        clear hwF hbF hfb hfbE s1 s2 h5 hp
        go_upto_region 11 with fail
        rw [← HWF.out, ← HFE.out]
        go_wp2_with fail
        refine HPP.out.mono ?_
        rintro e w4 ⟨fa, f2, fc, fd, ok, v, rfl, hq, hA, hB4⟩
        have hf4 := (hB4.block fb (Array.getElem?_eq_some_iff.1 HFB.out).1).trans HFB.out
        have hb4 := HBF.out.trans (hB4.mono HBF.out.size)
        have hsf := HQF.out w4 v fb _ (.int .i64 fa) (.int .i64 f2) (.int .i64 fc) (.int .i64 fd) hq hf4
        have hf5 : ((((w4.setCell ⟨fb, 0, none⟩ (.int .i64 fa)).setCell ⟨fb, 1, none⟩ (.int .i64 f2)).setCell ⟨fb, 2, none⟩ (.int .i64 fc)).setCell ⟨fb, 3, none⟩ (.int .i64 fd)).heap[fb]? = some (.cells #[.int .i64 fa, .int .i64 f2, .int .i64 fc, .int .i64 fd] 67 (0, 0)) := heap_setCell_same _ _ 3 _ _ _ (heap_setCell_same _ _ 2 _ _ _ (heap_setCell_same _ _ 1 _ _ _ (heap_setCell_same _ _ 0 _ _ _ hf4)))
        have hb5 := (((hb4.setCell (p := ⟨fb, 0, none⟩) hfl (.int .i64 fa)).setCell (p := ⟨fb, 1, none⟩) hfl (.int .i64 f2)).setCell (p := ⟨fb, 2, none⟩) hfl (.int .i64 fc)).setCell (p := ⟨fb, 3, none⟩) hfl (.int .i64 fd)
        obtain ⟨_, ⟨z0, z1, z2, z3⟩, zl⟩ := fGl hf4
        have HQ4 := hid hsf; have HF5 := hid hf5; have HB5 := hid hb5; have HA := hid hA
        clear hf4 hb4 hsf hf5 hb5 hq hA hB4 y0 y1 y2 y3 y4 HPP HWF HFE HBF HFB
        go_upto_region 16 with fail
        obtain ⟨W5, hW5⟩ : ∃ W5, W5 = (((w4.setCell ⟨fb, 0, none⟩ (.int .i64 fa)).setCell ⟨fb, 1, none⟩ (.int .i64 f2)).setCell ⟨fb, 2, none⟩ (.int .i64 fc)).setCell ⟨fb, 3, none⟩ (.int .i64 fd) := ⟨_, rfl⟩
        rw [← hW5] at HQ4 HF5 HB5 ⊢
        replace HF5 : Hid (W5.heap[fb]? = some (.cells #[.int .i64 fa, .int .i64 f2, .int .i64 fc, .int .i64 fd] 67 (0, 0))) := hid HF5.out
        clear hW5 z0 z1 z2 z3 zl
        obtain ⟨⟨x0, x1, x2, x3⟩, xl⟩ := HKS.out W5 HB5.out
        have HGU5 := hid (HGU.out W5 3 (HLE.out W5 HB5.out).2.2.2.2)
        go_wp2_with fail
        refine HGU5.out.mono ?_
        rintro e w6 ⟨rfl, hB6⟩
        obtain ⟨W6, hW6⟩ : ∃ W6, W6 = w6.alloc (Obj.cells #[.int .i64 k, .int .i64 0, .int .i64 0, .string x] 29) := ⟨_, rfl⟩
        have hbW6 : Below w6.heap.size w6 W6 := by rw [hW6]; exact (Below.refl _ _).alloc (Nat.le_refl _) _
        have hEB : W6.heap[w6.heap.size]? = some (.cells #[.int .i64 k, .int .i64 0, .int .i64 0, .string x] 29 (0, 0)) := by rw [hW6]; exact heap_alloc_new w6 _
        have hb56 := hB6.trans (hbW6.mono hB6.size)
        have HF6 := hid ((hb56.block fb (Array.getElem?_eq_some_iff.1 HF5.out).1).trans HF5.out)
        have HB6 := hid (HB5.out.trans (hb56.mono HB5.out.size))
        have HQ6 := hid (HQB.out _ _ _ HQ4.out hb56)
        have HEB := hid hEB; have HW6 := hid hW6
        clear hbW6 hEB hW6 hB6 hb56 x0 x1 x2 x3 xl HF5 HB5 HQ4 HGU5
        go_upto_region 17 with fail
        rw [← HW6.out]
        obtain ⟨eb, heb⟩ : ∃ eb, eb = w6.heap.size := ⟨_, rfl⟩
        rw [← heb] at HEB ⊢
        clear heb HW6
        obtain ⟨⟨z0, z1, z2, z3⟩, zl⟩ := errGl HEB.out
        have HTO6 := hid (HTO.out W6 v (HLE.out W6 HB6.out).2.2.2.2 HQ6.out)
        go_wp2_with fail
        refine HTO6.out.mono ?_
        rintro e w7 ⟨rfl, hB7⟩
        have HB7 := hid hB7
        clear hB7 z0 z1 z2 z3 zl HTO6
        have h67 := HB6.out.trans (HB7.out.mono HB6.out.size)
        obtain ⟨⟨x0, x1, x2, x3⟩, xl⟩ := HKS.out w7 h67
        obtain ⟨⟨y0, y1, y2, y3⟩, y4⟩ := HKL.out w7 h67
        have HST7 := hid (HST.out w7 h67)
        clear h67
        go_wp2_with fail
        refine HST7.out.mono ?_
        rintro e w8 ⟨rfl, hB8⟩
        have HB8 := hid (HB7.out.trans (hB8.mono HB7.out.size))
        have HSI8 := hid (HSI.out w8 (HB6.out.trans (HB8.out.mono HB6.out.size)))
        clear hB8 x0 x1 x2 x3 xl y0 y1 y2 y3 y4 HST7 HB7
        go_wp2_with fail
        refine HSI8.out.mono ?_
        rintro e w9 ⟨rfl, q9, hw9⟩
        have hB9 : Below w8.heap.size w8 w9 := by rw [hw9]; exact bdrew (Below.refl _ _)
        have hb69 := HB8.out.trans (hB9.mono HB8.out.size)
        obtain ⟨⟨z0, z1, z2, z3⟩, zl⟩ := errGl ((hb69.block eb (Array.getElem?_eq_some_iff.1 HEB.out).1).trans HEB.out)
        have hf9 := (hb69.block fb (Array.getElem?_eq_some_iff.1 HF6.out).1).trans HF6.out
        have HB9 := hid (HB6.out.trans (hb69.mono HB6.out.size)); have HF9 := hid hf9
        clear hw9 hB9 hb69 hf9 HSI8 HB8 HEB HQ6 HF6 HB6
        rcases HLK.out with ⟨hk0, hno⟩ | ⟨hk0, hlk⟩
        · obtain ⟨rfl, rfl, rfl, rfl, rfl⟩ := hno _ _ _ _ _ _ HA.out
          have hkb : (k != 0) = true := by simp [hk0]
          obtain ⟨⟨g0, g1, g2, g3⟩, _, gl⟩ := fGl HF9.out
          have hqn : ∀ w, (binOp .neq 71 (.agg #[.int .i64 0, .int .i64 0, .int .i64 0, .int .i64 0]) (.agg #[.int .i64 0, .int .i64 0, .int .i64 0, .int .i64 0])).run Tryz.prog w = .ok (.bool false) w := fun w => by
            have h := neqRF 0 0 0 0 0 0 0 0 w
            simpa using h
          have hgf := guardRF
          clear hno
          go_wp2_with fail
          refine (as19_any 0 0 0 0 _).mono ?_
          rintro e wa ⟨rfl, hBa⟩
          have HBa := hid (HB9.out.trans (hBa.mono HB9.out.size))
          clear hBa z0 z1 z2 z3 zl g0 g1 g2 g3 gl
          go_wp2_with fail
          go_roundw
          case rel => exact ⟨3 + 1, by go_num, by omega, by omega, HBa.out⟩
          case measure => simp [intOf]
        · subst hk0
          obtain ⟨⟨x0, x1, x2, x3⟩, xl⟩ := HKS.out w9 HB9.out
          have HLK9 := hid (hlk w9 3 (by decide) (by decide) (HLE.out w9 HB9.out).2.2.2.2)
          clear hlk
          go_wp2_with fail
          refine HLK9.out.mono ?_
          rintro e wl ⟨hel, hBl⟩
          have hel := hel _ _ _ _ _ HA.out
          subst hel
          obtain ⟨W8, hW8⟩ : ∃ W8, W8 = wl.alloc (Obj.cells #[.int .i64 fa, .int .i64 f2, .int .i64 fc, .int .i64 fd] 71) := ⟨_, rfl⟩
          have hbW8 : Below wl.heap.size wl W8 := by rw [hW8]; exact (Below.refl _ _).alloc (Nat.le_refl _) _
          have hRB : W8.heap[wl.heap.size]? = some (.cells #[.int .i64 fa, .int .i64 f2, .int .i64 fc, .int .i64 fd] 71 (0, 0)) := by rw [hW8]; exact heap_alloc_new wl _
          have hb98 := hBl.trans (hbW8.mono hBl.size)
          have hf8 := (hb98.block fb (Array.getElem?_eq_some_iff.1 HF9.out).1).trans HF9.out
          obtain ⟨rb, hrb⟩ : ∃ rb, rb = wl.heap.size := ⟨_, rfl⟩
          rw [← hrb] at hRB
          have HK8 : Hid (∀ V, Below W8.heap.size W8 V → ((V.cell? ⟨fb, 0, none⟩ = some (.int .i64 fa) ∧ V.cell? ⟨fb, 1, none⟩ = some (.int .i64 f2) ∧ V.cell? ⟨fb, 2, none⟩ = some (.int .i64 fc) ∧ V.cell? ⟨fb, 3, none⟩ = some (.int .i64 fd)) ∧ fb < V.heap.size) ∧ ((V.cell? ⟨rb, 0, none⟩ = some (.int .i64 fa) ∧ V.cell? ⟨rb, 1, none⟩ = some (.int .i64 f2) ∧ V.cell? ⟨rb, 2, none⟩ = some (.int .i64 fc) ∧ V.cell? ⟨rb, 3, none⟩ = some (.int .i64 fd)) ∧ rb < V.heap.size) ∧ Below W8.heap.size W8 V) := hid (fun V hV => by
            obtain ⟨h1, _, h2⟩ := fGl ((hV.block fb (Array.getElem?_eq_some_iff.1 hf8).1).trans hf8)
            obtain ⟨h3, _, h4⟩ := fGl ((hV.block rb (Array.getElem?_eq_some_iff.1 hRB).1).trans hRB)
            exact ⟨⟨h1, h2⟩, ⟨h3, h4⟩, hV⟩)
          have HB8 := hid (HB9.out.trans (hb98.mono HB9.out.size))
          have HW8 := hid hW8; have HRBE := hid hrb
          have hqn : ∀ w, (binOp .neq 71 (.agg #[.int .i64 fa, .int .i64 f2, .int .i64 fc, .int .i64 fd]) (.agg #[.int .i64 fa, .int .i64 f2, .int .i64 fc, .int .i64 fd])).run Tryz.prog w = .ok (.bool false) w := fun w => by
            have h := neqRF fa f2 fc fd fa f2 fc fd w
            simpa using h
          have hgf := guardRF
          have hbb : (ok != ok) = false := by simp
          clear hW8 hbW8 hRB hb98 hf8 hBl hrb x0 x1 x2 x3 xl z0 z1 z2 z3 zl HLK9 HF9
          go_upto_region 23 with fail
          rw [← HW8.out, ← HRBE.out]
          refine wp_region_held_drew (S := (fun V => ((V.cell? ⟨fb, 0, none⟩ = some (.int .i64 fa) ∧ V.cell? ⟨fb, 1, none⟩ = some (.int .i64 f2) ∧ V.cell? ⟨fb, 2, none⟩ = some (.int .i64 fc) ∧ V.cell? ⟨fb, 3, none⟩ = some (.int .i64 fd)) ∧ fb < V.heap.size) ∧ ((V.cell? ⟨rb, 0, none⟩ = some (.int .i64 fa) ∧ V.cell? ⟨rb, 1, none⟩ = some (.int .i64 f2) ∧ V.cell? ⟨rb, 2, none⟩ = some (.int .i64 fc) ∧ V.cell? ⟨rb, 3, none⟩ = some (.int .i64 fd)) ∧ rb < V.heap.size) ∧ Below W8.heap.size W8 V)) (by kernel_rfl) (by (try dsimp only); exact HK8.out _ (Below.refl _ _).drew) (fun hHeld => ?_)
          refine wpAnyH_take (i := 0) (v := ?_) rfl (by kernel_rfl) (by kernel_rfl) (by kernel_rfl) (fun _ _ _ h => h) (Or.inl ⟨by rfl, ?_⟩) (by assumption) ?_
          rotate_left
          · intro w hSw
            try dsimp only at hSw
            go_simp
            try with_reducible rfl
          try simp only [List.getElem_toArray, List.getElem_cons_zero, Act.put, List.setIfInBounds_toArray, List.set_cons_zero, List.set_cons_succ]
          refine wpAnyH_take (i := 2) (v := ?_) rfl (by kernel_rfl) (by kernel_rfl) (by kernel_rfl) (fun _ _ _ h => h) (Or.inl ⟨by rfl, ?_⟩) (by assumption) ?_
          rotate_left
          · intro w hSw
            try dsimp only at hSw
            go_simp
            try with_reducible rfl
          try simp only [List.getElem_toArray, List.getElem_cons_zero, List.getElem_cons_succ, Act.put, List.setIfInBounds_toArray, List.set_cons_zero, List.set_cons_succ]
          refine wpAnyH_ready (rs := [1]) (by kernel_rfl) (by simp) ?_
          refine AllReadyH.cons rfl (fun K hK => ?_) AllReadyH.nil
          go_simp
          refine (as19_any fa f2 fc fd _).mono ?_
          rintro e w9 ⟨rfl, hB9⟩
          have HB9 := hid ((Below.refl W8.heap.size W8).drew.trans hB9)
          refine hK.out _ _ (by (try dsimp only); exact HK8.out _ HB9.out) (fun hHeld => ?_)
          clear hK K
          try simp only [List.getElem_toArray, List.getElem_cons_zero, List.getElem_cons_succ, Act.put, List.setIfInBounds_toArray, List.set_cons_zero, List.set_cons_succ]
          refine wpAnyH_take (i := 3) (v := ?_) rfl (by kernel_rfl) (by kernel_rfl) (by kernel_rfl) (fun _ _ _ h => h) (Or.inl ⟨by rfl, ?_⟩) (by assumption) ?_
          rotate_left
          · intro w hSw
            try dsimp only at hSw
            go_simp
            try with_reducible rfl
          try simp only [List.getElem_toArray, List.getElem_cons_zero, List.getElem_cons_succ, Act.put, List.setIfInBounds_toArray, List.set_cons_zero, List.set_cons_succ]
          refine wpAnyH_take (i := 4) (v := ?_) rfl (by kernel_rfl) (by kernel_rfl) (by kernel_rfl) (fun _ _ _ h => h) (Or.inl ⟨by rfl, ?_⟩) (by assumption) ?_
          rotate_left
          · intro w hSw
            try dsimp only at hSw
            go_simp
            try with_reducible rfl
          try simp only [List.getElem_toArray, List.getElem_cons_zero, List.getElem_cons_succ, Act.put, List.setIfInBounds_toArray, List.set_cons_zero, List.set_cons_succ]
          refine wpAnyH_take (i := 5) (v := ?_) rfl (by kernel_rfl) (by kernel_rfl) (by kernel_rfl) (fun _ _ _ h => h) (Or.inl ⟨by rfl, ?_⟩) (by assumption) ?_
          rotate_left
          · intro w hSw
            try dsimp only at hSw
            go_simp
            try with_reducible rfl
          try simp only [List.getElem_toArray, List.getElem_cons_zero, List.getElem_cons_succ, Act.put, List.setIfInBounds_toArray, List.set_cons_zero, List.set_cons_succ]
          refine wpAnyH_take (i := 6) (v := ?_) rfl (by kernel_rfl) (by kernel_rfl) (by kernel_rfl) (fun _ _ _ h => h) (Or.inl ⟨by rfl, ?_⟩) (by assumption) ?_
          rotate_left
          · intro w hSw
            try dsimp only at hSw
            go_simp
            try with_reducible rfl
          try simp only [List.getElem_toArray, List.getElem_cons_zero, List.getElem_cons_succ, Act.put, List.setIfInBounds_toArray, List.set_cons_zero, List.set_cons_succ]
          refine wpAnyH_take (i := 7) (v := ?_) rfl (by kernel_rfl) (by kernel_rfl) (by kernel_rfl) (fun _ _ _ h => h) (Or.inl ⟨by rfl, ?_⟩) (by assumption) ?_
          rotate_left
          · intro w hSw
            try dsimp only at hSw
            go_simp
            try with_reducible rfl
          try simp only [List.getElem_toArray, List.getElem_cons_zero, List.getElem_cons_succ, Act.put, List.setIfInBounds_toArray, List.set_cons_zero, List.set_cons_succ]
          refine wpAnyH_take (i := 8) (v := ?_) rfl (by kernel_rfl) (by kernel_rfl) (by kernel_rfl) (fun _ _ _ h => h) (Or.inl ⟨by rfl, ?_⟩) (by assumption) ?_
          rotate_left
          · intro w hSw
            try dsimp only at hSw
            go_simp
            try with_reducible rfl
          try simp only [List.getElem_toArray, List.getElem_cons_zero, List.getElem_cons_succ, Act.put, List.setIfInBounds_toArray, List.set_cons_zero, List.set_cons_succ]
          refine wpAnyH_done (by kernel_rfl) ?_ _
          go_wp2_with fail
          go_roundw
          case rel => exact ⟨3 + 1, by go_num, by omega, by omega, HB8.out.trans (HB9.out.mono HB8.out.size)⟩
          case measure => simp [intOf]
    · obtain rfl : kd = 4 := by omega
      go_wp2_with fail
      refine (ALV.out _ (HLE.out _ HB.out).2.2.2.2).mono ?_
      rintro e w5 ⟨rfl, hB5⟩
      have HB5 := hid (HB.out.trans (hB5.mono HB.out.size))
      clear hB5
      go_wp2
      go_ret
      exact ⟨rfl, (HLE.out _ HB5.out).2.2.2.2⟩
end Go.Proofs.YtffjcehopoaboaaGreatDoor

/-
  semblanceref19.Simulation.
-/
import Derived.Test.YtclannenknhfpaaGreatDoorGRefSil
import Derived.Test.YtclannenknhfpaaGreatDoorGRefRight
import Derived.Test.YtclannenknhfpaaGreatDoorGTogether
import Derived.Test.YtclannenknhfpaaGreatDoorWitN
import Derived.Deep.RegionHeld3
import Derived.Deep.QuietTactic
import Derived.BigQuiet
namespace Go.Proofs.YtclannenknhfpaaGreatDoor
open Go.RowKit Pl

def SimF (o : Option ((Int × Int) × S)) (e : Ending) : Prop :=
  match o with
  | some y => e = .returned (.tuple #[.agg #[.int .i64 y.1.1, .int .i64 y.1.2, .int .i64 y.2.1, .int .i64 y.2.2], .bool false, .agg #[.int .i64 0, .int .i64 0, .int .i64 0, .string ⟨#[]⟩]])
  | none => e = .returned (.tuple #[.agg #[.int .i64 0, .int .i64 0, .int .i64 0, .int .i64 0], .bool true, .agg #[.int .i64 0, .int .i64 0, .int .i64 0, .string ⟨#[]⟩]])
/-- The answers' blocks. -/
structure ResP (w wr : World) (sv : Array Value) : Prop where
  sys : wr.heap[w.heap.size]? = some (.cells sv 24 (0, 0))
  fail : wr.heap[w.heap.size + 1]? = some (.cells #[.int .i64 0, .int .i64 0, .int .i64 0, .int .i64 0] 35 (0, 0))
  err : wr.heap[w.heap.size + 1 + 1]? = some (.cells #[.int .i64 0, .int .i64 0, .int .i64 0, .string ⟨#[]⟩] 37 (0, 0))
theorem ResP.call {w wr w' : World} {sv : Array Value} (h : ResP w wr sv) (hB : Below wr.heap.size wr w') : ResP w w' sv :=
  ⟨(hB.block _ (Array.getElem?_eq_some_iff.1 h.sys).1).trans h.sys, (hB.block _ (Array.getElem?_eq_some_iff.1 h.fail).1).trans h.fail, (hB.block _ (Array.getElem?_eq_some_iff.1 h.err).1).trans h.err⟩
theorem ResP.made (w : World) (sv : Array Value) : ResP w (((w.alloc (.cells sv 24)).alloc (.cells #[.int .i64 0, .int .i64 0, .int .i64 0, .int .i64 0] 35)).alloc (.cells #[.int .i64 0, .int .i64 0, .int .i64 0, .string ⟨#[]⟩] 37)) sv := by
  refine ⟨?_, ?_, ?_⟩
  · rw [Below.heap_alloc _ _ _ (by simp; omega), Below.heap_alloc _ _ _ (by simp)]; exact heap_alloc_new w _
  · rw [Below.heap_alloc _ _ _ (by simp)]
    have h := heap_alloc_new (w.alloc (.cells sv 24)) (.cells #[.int .i64 0, .int .i64 0, .int .i64 0, .int .i64 0] 35)
    rwa [show (w.alloc (.cells sv 24)).heap.size = w.heap.size + 1 by simp] at h
  · have h := heap_alloc_new ((w.alloc (.cells sv 24)).alloc (.cells #[.int .i64 0, .int .i64 0, .int .i64 0, .int .i64 0] 35)) (.cells #[.int .i64 0, .int .i64 0, .int .i64 0, .string ⟨#[]⟩] 37)
    rwa [show ((w.alloc (.cells sv 24)).alloc (.cells #[.int .i64 0, .int .i64 0, .int .i64 0, .int .i64 0] 35)).heap.size = w.heap.size + 1 + 1 by simp] at h
theorem ResP.cells {w wr : World} {sv : Array Value} (h : ResP w wr sv) :
    (wr.cell? ⟨w.heap.size + 1, 0, none⟩ = some (.int .i64 0) ∧ wr.cell? ⟨w.heap.size + 1, 1, none⟩ = some (.int .i64 0) ∧ wr.cell? ⟨w.heap.size + 1, 2, none⟩ = some (.int .i64 0) ∧ wr.cell? ⟨w.heap.size + 1, 3, none⟩ = some (.int .i64 0)) ∧
    (wr.frozen? ⟨w.heap.size + 1, 0, none⟩ = false ∧ wr.frozen? ⟨w.heap.size + 1, 1, none⟩ = false ∧ wr.frozen? ⟨w.heap.size + 1, 2, none⟩ = false ∧ wr.frozen? ⟨w.heap.size + 1, 3, none⟩ = false) ∧
    (wr.cell? ⟨w.heap.size + 1 + 1, 0, none⟩ = some (.int .i64 0) ∧ wr.cell? ⟨w.heap.size + 1 + 1, 1, none⟩ = some (.int .i64 0) ∧ wr.cell? ⟨w.heap.size + 1 + 1, 2, none⟩ = some (.int .i64 0) ∧ wr.cell? ⟨w.heap.size + 1 + 1, 3, none⟩ = some (.string ⟨#[]⟩)) ∧
    (wr.frozen? ⟨w.heap.size + 1 + 1, 0, none⟩ = false ∧ wr.frozen? ⟨w.heap.size + 1 + 1, 1, none⟩ = false ∧ wr.frozen? ⟨w.heap.size + 1 + 1, 2, none⟩ = false ∧ wr.frozen? ⟨w.heap.size + 1 + 1, 3, none⟩ = false) ∧ w.heap.size + 1 < wr.heap.size ∧ w.heap.size + 1 + 1 < wr.heap.size := by
  have h1 := h.fail; have h2 := h.err
  refine ⟨⟨?_, ?_, ?_, ?_⟩, ⟨?_, ?_, ?_, ?_⟩, ⟨?_, ?_, ?_, ?_⟩, ⟨?_, ?_, ?_, ?_⟩, (Array.getElem?_eq_some_iff.1 h1).1, (Array.getElem?_eq_some_iff.1 h2).1⟩ <;> simp [World.cell?, World.frozen?, h1, h2]
theorem set8 {w w' : World} (h : Below w.heap.size w w') (a b c d e f g i : Value) : Below w.heap.size w ((((((((w'.setCell ⟨w.heap.size + 1, 0, none⟩ a).setCell ⟨w.heap.size + 1, 1, none⟩ b).setCell ⟨w.heap.size + 1, 2, none⟩ c).setCell ⟨w.heap.size + 1, 3, none⟩ d).setCell ⟨w.heap.size + 1 + 1, 0, none⟩ e).setCell ⟨w.heap.size + 1 + 1, 1, none⟩ f).setCell ⟨w.heap.size + 1 + 1, 2, none⟩ g).setCell ⟨w.heap.size + 1 + 1, 3, none⟩ i) := by
  have h1 := (((h.setCell (p := ⟨w.heap.size + 1, 0, none⟩) (by simp) a).setCell (p := ⟨w.heap.size + 1, 1, none⟩) (by simp) b).setCell (p := ⟨w.heap.size + 1, 2, none⟩) (by simp) c).setCell (p := ⟨w.heap.size + 1, 3, none⟩) (by simp) d
  exact (((h1.setCell (p := ⟨w.heap.size + 1 + 1, 0, none⟩) (by simp; omega) e).setCell (p := ⟨w.heap.size + 1 + 1, 1, none⟩) (by simp; omega) f).setCell (p := ⟨w.heap.size + 1 + 1, 2, none⟩) (by simp; omega) g).setCell (p := ⟨w.heap.size + 1 + 1, 3, none⟩) (by simp; omega) i

/-- Which pairs are there. -/
def inZ (Z : List (Int × Int)) (a c : Nat) : Bool := decide (((a : Int), (c : Int)) ∈ Z)

set_option maxRecDepth 100000 in
set_option maxHeartbeats 16000000 in
theorem refPairs_any {s : Lts} {n : Nat} (hr : s.Right) (hn : s.st = (n : Int)) (hn3 : n ≤ 300) {a : Option Addr} {b off c : Nat} {w : World} (hS : SlAt encE 3 w a b off s.es) (hc : s.es.length ≤ c) (hcm : c ≤ maxLen)
    {Z : List (Int × Int)} (hZ : Z.length ≤ 10000) {za : Option Addr} {zb zo zc : Nat} (hZS : SlAt encPr 2 w za zb zo Z) (hrg : ∀ z ∈ Z, 0 ≤ z.1 ∧ z.1 < (n : Int) ∧ 0 ≤ z.2 ∧ z.2 < (n : Int)) :
    Calls Tryz.prog 9 #[.agg #[.int .i64 s.st, .int .i64 s.lb, .int .i64 s.s0, .slice a s.es.length c], .slice za Z.length zc] w fun e w' => SimF (simR s.norm Z) e ∧ Below w.heap.size w w' := by
  have hmkR := run_make_row' (P := Tryz.prog) 65 4 (.bool false) 1 Tryz.underlying65 (by kernel_rfl) rfl .i64 .i64 n (by omega) (by omega)
  obtain ⟨W, hW⟩ : ∃ W, W = ((w.alloc (.cells #[.int .i64 s.st, .int .i64 s.lb, .int .i64 s.s0, .slice a s.es.length c] 24)).alloc (.cells #[.int .i64 0, .int .i64 0, .int .i64 0, .int .i64 0] 35)).alloc (.cells #[.int .i64 0, .int .i64 0, .int .i64 0, .string ⟨#[]⟩] 37) := ⟨_, rfl⟩
  have hres : ResP w W #[.int .i64 s.st, .int .i64 s.lb, .int .i64 s.s0, .slice a s.es.length c] := by rw [hW]; exact ResP.made w _
  have hB0 : Below w.heap.size w W := by rw [hW]; exact (((Below.refl _ _).alloc (Nat.le_refl _) _).alloc (by simp) _).alloc (by simp; omega) _
  have HRI := Lib.hid (right_yes (c := c) hr (hS.below hB0 (Nat.le_refl _)))
  have HOU : RowKit.Hid (∀ V, Below w.heap.size w V → Calls Tryz.prog 25 #[.agg #[.int .i64 s.st, .int .i64 s.lb, .int .i64 s.s0, .slice a s.es.length c]] V fun e w' => ∃ ob, e = .returned (.slice (some ⟨ob, 0, none⟩) n n) ∧ StepsIn w' ob n (fun p => s.norm.outs (p : Int)) ∧ Below V.heap.size V w') := Lib.hid (fun V hV => by
    refine (refOut_any hr (hS.below hV (Nat.le_refl _)) hc hcm).mono ?_
    rintro e w' ⟨ob, n', base, hn', rfl, hrows, _, hB⟩
    obtain rfl : n = n' := by omega
    exact ⟨ob, rfl, StepsIn.of hrows, hB⟩)
  obtain ⟨el, hel⟩ : ∃ el, el = s.es.length := ⟨_, rfl⟩
  obtain ⟨m, hm⟩ : ∃ m, m = Z.length := ⟨_, rfl⟩
  rw [hn, ← hel] at HRI HOU hW hres
  rw [hn, ← hel, ← hm]
  have HR := Lib.hid hr; have HN := Lib.hid hn; have HW := Lib.hid hW; have HRES := Lib.hid hres; have HB0 := Lib.hid hB0; have HM := Lib.hid hm; have HZS := Lib.hid hZS; have HRG := Lib.hid hrg
  have hm1 : m ≤ 10000 := by omega
  have c300 : decide (300 < (n : Int)) = false := by simp; omega
  have cZ : decide (10000 < (m : Int)) = false := by simp; omega
  clear hr hn hS hc hcm hZ hZS hrg hW hres hB0 hel hm
  go_enter Tryz.func9, Tryz.ntmps9
  go_wp2_with fail
  rw [← HW.out]
  obtain ⟨x0, x1, x2, x3, x4⟩ := sysC HRES.out.sys
  go_wp2_with fail
  refine HRI.out.mono ?_
  rintro e w1 ⟨rfl, hB1⟩
  have hres1 := HRES.out.call hB1
  have hb1 := HB0.out.trans (hB1.mono HB0.out.size)
  clear x0 x1 x2 x3 x4
  obtain ⟨x0, x1, x2, x3, x4⟩ := sysC hres1.sys
  have HRES1 := Lib.hid hres1; have HB1 := Lib.hid hb1
  clear hres1 hb1 hB1 HRI HRES HB0 HW
  go_wp2_with fail
  clear x0 x1 x2 x3 x4
  go_loopw [7, 8] (fun v7 v8 wr => ∃ (p : Nat) (bk : Nat → Nat), v8 = .int .i64 p ∧ p ≤ n ∧ LsM w1.heap.size w1 wr n (fun _ _ => false) v7 bk p) (fun _ v8 _ => n - (intOf v8).toNat)
  case atStart => exact ⟨0, fun _ => 0, rfl, Nat.zero_le _, LsM.start _ _ _ _ _⟩
  case round =>
    obtain ⟨p, bk, rfl, hp, hls⟩ := hrel
    have HL := Lib.hid hls
    have hsz := hls.bel.size
    have hres2 := HRES1.out.call hls.bel
    obtain ⟨x0, x1, x2, x3, x4⟩ := sysC hres2.sys
    clear hls hres2
    by_cases hpn : p < n
    · have hpI : (p : Int) < (n : Int) := by omega
      have hrw := World.rowIs_made wr (.bool false) n 4
      have hb2 := (Below.refl wr.heap.size wr).alloc (Nat.le_refl _) (.cells (madeCells #[.bool false] n) 4)
      have hl2 := HL.out.call hsz hb2
      have hnew : ∀ j, j < p → bk j ≠ wr.heap.size := fun j hj => by have := (HL.out.rows j hj).2.lt; omega
      have hb3 := (Below.refl (wr.alloc (.cells (madeCells #[.bool false] n) 4)).heap.size _).alloc (Nat.le_refl _) (.cells #[.slice (some ⟨wr.heap.size, 0, none⟩) n n] 65)
      have hl3 := hl2.call (by simp; omega) hb3
      have HL3 := Lib.hid hl3; have HNEW := Lib.hid hnew
      have HR3 := Lib.hid (hrw.of_block (hb3.block _ hrw.lt))
      clear hrw hb2 hl2 hnew hb3 hl3 x1 x2 x3
      go_wp2_with (at_builtin; refine wpList_lies rfl _ _ 82 rfl rowBBS (base := w1.heap.size) (by simp; omega) rfl HL3.out.own ⟨wr.heap.size + 1, 0, none⟩ 1 1 [.slice (some ⟨wr.heap.size, 0, none⟩) n n] rfl rfl (cells1 (by simp [go_sem])) (by simp [Value.oneCell']) (by omega) (by omega) (by unfold maxLen; omega) _ rfl ?_; intro g cap w6 hown6 hg6 _ _)
      have hnx := HL3.out.push (v' := .slice (some ⟨g, 0, none⟩) (p + 1) cap) (by simp; omega) (b := wr.heap.size) (by omega) HR3.out HNEW.out hown6 hg6
      have HNX := Lib.hid hnx
      clear hnx hown6 hg6 HL3 HNEW HR3 HL
      go_roundw
      case rel => exact ⟨p + 1, _, by go_num, by omega, HNX.out⟩
      case measure => simp [intOf]; omega
    · obtain rfl : n = p := by omega
      obtain ⟨va, vc, rfl⟩ := HL.out.form
      obtain ⟨w2, hw2⟩ : ∃ w2, w2 = wr := ⟨_, rfl⟩
      have HWE := Lib.hid hw2
      clear hw2
      go_wp2_with fail
      rw [← HWE.out]
      have hl2 := HL.out
      rw [← HWE.out] at hl2
      have HL2 := Lib.hid hl2
      clear hl2 HL HWE hmkR x0 x1 x2 x3 x4
      go_loopw [9, 10, 11] (fun v9 _ _ wr => ∃ i : Nat, v9 = .int .i64 i ∧ i ≤ m ∧ LsM w1.heap.size w1 wr n (inZ (Z.take i)) (.slice va n vc) bk n) (fun v9 _ _ _ => m - (intOf v9).toNat)
      case atStart => exact ⟨0, rfl, Nat.zero_le _, HL2.out.congr (fun a c _ _ => by simp [inZ])⟩
      case round =>
        obtain ⟨i, rfl, hi, hls⟩ := hrel
        have HL := Lib.hid hls
        have hsz := hls.bel.size
        have hres2 := HRES1.out.call hls.bel
        obtain ⟨x0, x1, x2, x3, x4⟩ := sysC hres2.sys
        clear hls hres2 HL2
        by_cases him : i < m
        · have himI : (i : Int) < (m : Int) := by omega
          obtain ⟨z, hz⟩ := getElem?_of_lt (xs := Z) (i := i) (by rw [← HM.out]; exact him)
          have hzs := HZS.out.below (HB1.out.trans (HL.out.bel.mono HB1.out.size)) (Nat.le_refl _)
          obtain rfl := hzs.ad (by rw [← HM.out]; omega)
          have e0 := hzs.cell i z hz 0 _ rfl
          have e1 := hzs.cell i z hz 1 _ rfl
          rw [Nat.add_zero] at e0
          have el0 := World.block_lt_of_cell? _ _ e0
          obtain ⟨r1, r2, r3, r4⟩ := HRG.out z (List.mem_of_getElem? hz)
          have HZI := Lib.hid hz
          obtain ⟨z1, z2⟩ := z
          simp only at e0 e1 r1 r2 r3 r4
          obtain ⟨p, rfl⟩ := Int.eq_ofNat_of_zero_le r1
          obtain ⟨q, rfl⟩ := Int.eq_ofNat_of_zero_le r3
          have hp : p < n := by omega
          have hq : q < n := by omega
          obtain ⟨ob, oc, hv, s0, sl, _, sl2, hsee⟩ := HL.out.see hp
          simp only [Value.slice.injEq] at hv
          obtain ⟨rfl, _, rfl⟩ := hv
          obtain ⟨s1, sf⟩ := hsee q hq
          have q1 : decide ((p : Int) < 0) = false := by simp
          have q2 : decide ((n : Int) ≤ (p : Int)) = false := by simp; omega
          have q3 : decide ((q : Int) < 0) = false := by simp
          have q4 : decide ((n : Int) ≤ (q : Int)) = false := by simp; omega
          have HMK := Lib.hid (fun nq => ((HL.out.call (w' := wr.drewN nq) hsz (bdrew (Below.refl _ _))).mark hp (q := q)).congr (G' := inZ (Z.take (i + 1))) (fun a c _ _ => by
            unfold inZ
            rw [take_snoc HZI.out]
            by_cases e : a = p ∧ c = q
            · obtain ⟨rfl, rfl⟩ := e; simp
            · rw [if_neg e]
              have : ¬ (((a : Int), (c : Int)) = ((p : Int), (q : Int))) := fun h => e (by simp only [Prod.mk.injEq] at h; omega)
              simp only [List.mem_append, List.mem_singleton, this, or_false]))
          clear hz hzs hsee
          go_wp2_with fail
          go_quiet (fail)
          go_wp2_with fail
          go_roundw
          case rel => exact ⟨i + 1, by go_num, by omega, HMK.out _⟩
          case measure => simp [intOf]; omega
        · obtain rfl : m = i := by omega
          have hl := HL.out
          rw [HM.out, List.take_length] at hl
          have hb2 := HB1.out.trans (HL.out.bel.mono HB1.out.size)
          have HLF := Lib.hid hl; have HB2 := Lib.hid hb2
          have HRE := Lib.hid (HRES1.out.call HL.out.bel)
          clear hl hb2 HL HRES1
          go_wp2_with fail
          refine (HOU.out _ HB2.out).mono ?_
          rintro e w5 ⟨xb, rfl, hst, hB5⟩
          have HL5 := Lib.hid (HLF.out.call hsz hB5)
          have HRE5 := Lib.hid (HRE.out.call hB5)
          have HB5 := Lib.hid (HB2.out.trans (hB5.mono HB2.out.size))
          have HST := Lib.hid hst
          have HSZ := Lib.hid (HL5.out.bel.size)
          clear hst hB5 HLF HRE HB2 HOU x0 x1 x2 x3 x4 hsz
          go_wp2_with fail
          go_loopw [13, 14, 15, 16, 17, 18, 19] (fun v13 _ _ _ _ _ _ wr => ∃ i : Nat, v13 = .int .i64 i ∧ i ≤ m ∧ Below w5.heap.size w5 wr ∧ ∀ z ∈ Z.take i, failP s.norm Z z.1 z.2 = none) (fun v13 _ _ _ _ _ _ _ => m - (intOf v13).toNat)
          case atStart => exact ⟨0, rfl, Nat.zero_le _, Below.refl _ _, by simp⟩
          case round =>
            obtain ⟨i, rfl, hi, hB, hno⟩ := hrel
            have HB := Lib.hid hB; have HNO := Lib.hid hno
            clear hB hno
            by_cases him : i < m
            · have himI : (i : Int) < (m : Int) := by omega
              obtain ⟨z, hz⟩ := getElem?_of_lt (xs := Z) (i := i) (by rw [← HM.out]; exact him)
              have hzs := HZS.out.below (HB5.out.trans (HB.out.mono HB5.out.size)) (Nat.le_refl _)
              obtain rfl := hzs.ad (by rw [← HM.out]; omega)
              have e0 := hzs.cell i z hz 0 _ rfl
              have e1 := hzs.cell i z hz 1 _ rfl
              rw [Nat.add_zero] at e0
              have el0 := World.block_lt_of_cell? _ _ e0
              obtain ⟨r1, r2, r3, r4⟩ := HRG.out z (List.mem_of_getElem? hz)
              have HZI := Lib.hid hz
              obtain ⟨z1, z2⟩ := z
              simp only at e0 e1 r1 r2 r3 r4
              obtain ⟨p, rfl⟩ := Int.eq_ofNat_of_zero_le r1
              obtain ⟨q, rfl⟩ := Int.eq_ofNat_of_zero_le r3
              have hp : p < n := by omega
              have hq : q < n := by omega
              have hpI : (p : Int) < (n : Int) := by omega
              have hqI : (q : Int) < (n : Int) := by omega
              clear hz hzs
              go_wp2_with fail
              go_quiet (fail)
              go_wp2_with fail
              obtain ⟨wq, hwq⟩ : ∃ wq, wq = wr.drewN nq := ⟨_, rfl⟩
              have HBq : RowKit.Hid (Below w5.heap.size w5 wq) := Lib.hid (by rw [hwq]; exact bdrew HB.out)
              rw [← hwq]
              clear hwq e0 e1 el0 HB r1 r2 r3 r4
              obtain ⟨pL, hpL⟩ : ∃ pL, pL = s.norm.outs (p : Int) := ⟨_, rfl⟩
              obtain ⟨qL, hqL⟩ : ∃ qL, qL = s.norm.outs (q : Int) := ⟨_, rfl⟩
              have hpl : pL.length ≤ 10000 := by rw [hpL]; exact outs_len HR.out.norm _
              have hql : qL.length ≤ 10000 := by rw [hqL]; exact outs_len HR.out.norm _
              have HPR : RowKit.Hid (∀ V, Below w5.heap.size w5 V → ∃ ra rc rb ro, V.cell? ⟨xb, p, none⟩ = some (.slice ra pL.length rc) ∧ SlAt encS 2 V ra rb ro pL ∧ xb < V.heap.size) := Lib.hid (fun V hV => by
                obtain ⟨ra, rc, rb, ro, h1, h2⟩ := (HST.out.below hV).at_ p hp
                rw [← hpL] at h1 h2
                exact ⟨ra, rc, rb, ro, h1, h2, (HST.out.below hV).lt⟩)
              have HQR : RowKit.Hid (∀ V, Below w5.heap.size w5 V → ∃ ra rc rb ro, V.cell? ⟨xb, q, none⟩ = some (.slice ra qL.length rc) ∧ SlAt encS 2 V ra rb ro qL ∧ xb < V.heap.size) := Lib.hid (fun V hV => by
                obtain ⟨ra, rc, rb, ro, h1, h2⟩ := (HST.out.below hV).at_ q hq
                rw [← hqL] at h1 h2
                exact ⟨ra, rc, rb, ro, h1, h2, (HST.out.below hV).lt⟩)
              have HPX : RowKit.Hid (∀ x ∈ pL, 0 ≤ x.2 ∧ x.2 < (n : Int)) := Lib.hid (fun x hx => by
                rw [hpL] at hx
                have h := offB_false.1 (HR.out.norm.edges _ (mem_outs.1 hx))
                have hn := HN.out
                have e : s.norm.st = s.st := rfl
                simp only at h
                omega)
              have HQX : RowKit.Hid (∀ x ∈ qL, 0 ≤ x.2 ∧ x.2 < (n : Int)) := Lib.hid (fun x hx => by
                rw [hqL] at hx
                have h := offB_false.1 (HR.out.norm.edges _ (mem_outs.1 hx))
                have hn := HN.out
                have e : s.norm.st = s.st := rfl
                simp only at h
                omega)
              have HPL := Lib.hid hpL; have HQL := Lib.hid hqL
              clear hpL hqL
              go_loopw [16, 17, 18, 19] (fun v16 _ _ _ wr => ∃ k : Nat, v16 = .int .i64 k ∧ k ≤ pL.length ∧ Below w5.heap.size w5 wr ∧ ∀ x ∈ pL.take k, meetsP s.norm Z (q : Int) x = true) (fun v16 _ _ _ _ => pL.length - (intOf v16).toNat)
              case atStart => exact ⟨0, rfl, Nat.zero_le _, HBq.out, by simp⟩
              case round =>
                obtain ⟨k, rfl, hk, hB, hall⟩ := hrel
                have HB := Lib.hid hB; have HALL := Lib.hid hall
                obtain ⟨ra, rc, rb, ro, c0, hrs, xl⟩ := HPR.out _ hB
                clear hB hall HBq
                by_cases hkl : k < pL.length
                · have hkI : (k : Int) < (pL.length : Int) := by omega
                  obtain ⟨x, hx⟩ := getElem?_of_lt hkl
                  obtain rfl := hrs.ad (by omega)
                  have d0 := hrs.s0 hx; have d1 := hrs.s1 hx
                  have dl := hrs.lt (by omega)
                  obtain ⟨t1, t2⟩ := HPX.out x (List.mem_of_getElem? hx)
                  have HX := Lib.hid hx
                  obtain ⟨x1, x2⟩ := x
                  simp only at d0 d1 t1 t2
                  obtain ⟨t, rfl⟩ := Int.eq_ofNat_of_zero_le t1
                  have htn : t < n := by omega
                  have htI : (t : Int) < (n : Int) := by omega
                  clear hrs hx t1 t2
                  go_wp2_with fail
                  obtain ⟨wA, hwA⟩ : ∃ wA, wA = wr.alloc (.cells #[.int .i64 x1, .int .i64 (t : Int)] 84) := ⟨_, rfl⟩
                  have hbA : Below w5.heap.size w5 wA := by rw [hwA]; exact HB.out.alloc HB.out.size _
                  have hxA := heap_alloc_new wr (.cells #[.int .i64 x1, .int .i64 (t : Int)] 84)
                  rw [← hwA] at hxA
                  obtain ⟨xk, hxk⟩ : ∃ xk, xk = wr.heap.size := ⟨_, rfl⟩
                  rw [← hxk] at hxA
                  rw [← hwA, ← hxk]
                  have HXA := Lib.hid hxA; have HBA := Lib.hid hbA
                  clear hwA hbA hxA hxk HB d0 d1 dl c0 xl
                  go_loopw [18, 19] (fun v18 v19 wr => ∃ j : Nat, v19 = .int .i64 j ∧ j ≤ qL.length ∧ v18 = .bool ((qL.take j).any (fun y => decide (((t : Int), y.2) ∈ Z) && decide (y.1 = x1))) ∧ Below wA.heap.size wA wr) (fun _ v19 _ => qL.length - (intOf v19).toNat)
                  case atStart => exact ⟨0, rfl, Nat.zero_le _, rfl, Below.refl _ _⟩
                  case round =>
                    obtain ⟨j, rfl, hj, rfl, hBj⟩ := hrel
                    have HBJ := Lib.hid hBj
                    have hb5 := HBA.out.trans (hBj.mono HBA.out.size)
                    obtain ⟨qa, qc, qb, qo, c0, hqs, xl⟩ := HQR.out _ hb5
                    have hxr := (hBj.block xk (Array.getElem?_eq_some_iff.1 HXA.out).1).trans HXA.out
                    have a0 : wr.cell? ⟨xk, 0, none⟩ = some (.int .i64 x1) := by simp [World.cell?, hxr]
                    have a1 : wr.cell? ⟨xk, 1, none⟩ = some (.int .i64 (t : Int)) := by simp [World.cell?, hxr]
                    have al := (Array.getElem?_eq_some_iff.1 hxr).1
                    have HB5J := Lib.hid hb5
                    clear hBj hxr hb5
                    by_cases hjl : j < qL.length
                    · have hjI : (j : Int) < (qL.length : Int) := by omega
                      by_cases hbt : (qL.take j).any (fun y => decide (((t : Int), y.2) ∈ Z) && decide (y.1 = x1)) = true
                      · rw [hbt]
                        have HMT : RowKit.Hid (meetsP s.norm Z (q : Int) (x1, (t : Int)) = true) := Lib.hid (by
                          unfold meetsP
                          rw [← HQL.out]
                          obtain ⟨y, hy, h2⟩ := List.any_eq_true.1 hbt
                          exact List.any_eq_true.2 ⟨y, List.mem_of_mem_take hy, h2⟩)
                        clear hbt
                        have HALL2 : RowKit.Hid (∀ x ∈ pL.take (k + 1), meetsP s.norm Z (q : Int) x = true) := Lib.hid (fun x hx => by
                          rw [take_snoc HX.out] at hx
                          rcases List.mem_append.1 hx with hx | hx
                          · exact HALL.out x hx
                          · simp at hx; subst hx; exact HMT.out)
                        clear hqs a0 a1 al HBJ HMT HALL HXA
                        go_wp2_with fail
                        go_roundw
                        case rel => exact ⟨k + 1, by go_num, by omega, HB5J.out, HALL2.out⟩
                        case measure => simp [intOf]; omega
                      · have hbf : (qL.take j).any (fun y => decide (((t : Int), y.2) ∈ Z) && decide (y.1 = x1)) = false := by simpa using hbt
                        rw [hbf]
                        obtain ⟨y, hy⟩ := getElem?_of_lt hjl
                        obtain rfl := hqs.ad (by omega)
                        have d0 := hqs.s0 hy; have d1 := hqs.s1 hy
                        have dl := hqs.lt (by omega)
                        obtain ⟨u1, u2⟩ := HQX.out y (List.mem_of_getElem? hy)
                        have HY := Lib.hid hy; have HBF := Lib.hid hbf
                        obtain ⟨y1, y2⟩ := y
                        simp only at d0 d1 u1 u2
                        obtain ⟨u, rfl⟩ := Int.eq_ofNat_of_zero_le u1
                        have hun : u < n := by omega
                        have huI : (u : Int) < (n : Int) := by omega
                        have hl6 := HL5.out.call HSZ.out HB5J.out
                        obtain ⟨ob, oc, hv, s0, sl, _, sl2, hsee⟩ := hl6.see htn
                        simp only [Value.slice.injEq] at hv
                        obtain ⟨rfl, _, rfl⟩ := hv
                        obtain ⟨s1, _⟩ := hsee u hun
                        have HNX : RowKit.Hid ((qL.take (j + 1)).any (fun y => decide (((t : Int), y.2) ∈ Z) && decide (y.1 = x1)) = (decide (((t : Int), (u : Int)) ∈ Z) && decide (y1 = x1))) := Lib.hid (by
                          rw [take_snoc HY.out, List.any_append, HBF.out]; simp)
                        clear hqs hy hbf hbt hl6 hsee u1 u2
                        by_cases hxy : y1 = x1
                        · subst hxy
                          obtain ⟨ib, hib⟩ : ∃ ib, ib = inZ Z t u := ⟨_, rfl⟩
                          rw [← hib] at s1
                          have HIB := Lib.hid hib
                          clear hib
                          go_wp2_with fail
                          go_quiet (fail)
                          go_wp2_with fail
                          go_roundw
                          case rel => exact ⟨j + 1, by go_num, by omega, by rw [HNX.out, HIB.out]; simp [inZ], bdrew HBJ.out⟩
                          case measure => simp [intOf]; omega
                        · have hne : (y1 == x1) = false := by simp [hxy]
                          go_wp2_with fail
                          go_quiet (fail)
                          go_wp2_with fail
                          go_roundw
                          case rel => exact ⟨j + 1, by go_num, by omega, by rw [HNX.out]; simp [hxy], bdrew HBJ.out⟩
                          case measure => simp [intOf]; omega
                    · obtain rfl : j = qL.length := by omega
                      rw [List.take_length]
                      have hjI : ¬ (qL.length : Int) < (qL.length : Int) := by omega
                      obtain ⟨mb, hmb⟩ : ∃ mb, mb = meetsP s.norm Z (q : Int) (x1, (t : Int)) := ⟨_, rfl⟩
                      have hme : (qL.any (fun y => decide (((t : Int), y.2) ∈ Z) && decide (y.1 = x1))) = mb := by rw [hmb, HQL.out]; rfl
                      rw [hme]
                      clear hme
                      cases mb
                      · have hf : failP s.norm Z (p : Int) (q : Int) = some (x1, (t : Int)) := by
                          unfold failP
                          rw [← HPL.out, ← List.take_append_drop k pL, List.find?_append, List.find?_eq_none.2 (fun x hx => by simp [HALL.out x hx])]
                          rw [List.drop_eq_getElem_cons hkl, List.find?_cons_of_pos]
                          · have := (List.getElem?_eq_some_iff.1 HX.out).2
                            rw [this]; rfl
                          · have := (List.getElem?_eq_some_iff.1 HX.out).2
                            rw [this]; simp [← hmb]
                        have HFIN := Lib.hid (simR_some HZI.out HNO.out hf)
                        have HREX := Lib.hid (HRE5.out.call HB5J.out)
                        obtain ⟨⟨f0, f1, f2, f3⟩, ⟨z0, z1, z2, z3⟩, ⟨g0, g1, g2, g3⟩, ⟨y0, y1, y2, y3⟩, fl, gl⟩ := HREX.out.cells
                        have HBE := Lib.hid (HB5.out.trans (HB5J.out.mono HB5.out.size))
                        clear hqs HBJ HALL HXA hf hmb HREX
                        go_wp2_with fail
                        refine bodyPost_ret (v := .tuple #[.agg #[.int .i64 p, .int .i64 q, .int .i64 x1, .int .i64 t], .bool false, .agg #[.int .i64 0, .int .i64 0, .int .i64 0, .string ⟨#[]⟩]]) (by simp [results, Tryz.results9, go_sem, f0, f1, f2, f3, g0, g1, g2, g3]) rfl ⟨by rw [HFIN.out]; rfl, set8 HBE.out _ _ _ _ _ _ _ _⟩
                      · have HMT := Lib.hid hmb.symm
                        clear hmb
                        have HALL2 : RowKit.Hid (∀ x ∈ pL.take (k + 1), meetsP s.norm Z (q : Int) x = true) := Lib.hid (fun x hx => by
                          rw [take_snoc HX.out] at hx
                          rcases List.mem_append.1 hx with hx | hx
                          · exact HALL.out x hx
                          · simp at hx; subst hx; exact HMT.out)
                        clear hqs a0 a1 al HBJ HMT HALL HXA
                        go_wp2_with fail
                        go_roundw
                        case rel => exact ⟨k + 1, by go_num, by omega, HB5J.out, HALL2.out⟩
                        case measure => simp [intOf]; omega
                · obtain rfl : k = pL.length := by omega
                  have hall2 := HALL.out
                  rw [List.take_length] at hall2
                  have HNO2 : RowKit.Hid (∀ z ∈ Z.take (i + 1), failP s.norm Z z.1 z.2 = none) := Lib.hid (fun z hz => by
                    rw [take_snoc HZI.out] at hz
                    rcases List.mem_append.1 hz with hz | hz
                    · exact HNO.out z hz
                    · simp at hz; subst hz
                      unfold failP
                      rw [← HPL.out, List.find?_eq_none]
                      intro x hx
                      simp [hall2 x hx])
                  have hkI : ¬ (pL.length : Int) < (pL.length : Int) := by omega
                  clear hall2 hrs HALL HNO
                  go_wp2_with fail
                  go_roundw
                  case rel => exact ⟨i + 1, by go_num, by omega, HB.out, HNO2.out⟩
                  case measure => simp [intOf]; omega
            · obtain rfl : m = i := by omega
              have hno2 := HNO.out
              rw [HM.out, List.take_length] at hno2
              have HFIN := Lib.hid (simR_none hno2)
              have HREX := Lib.hid (HRE5.out.call HB.out)
              obtain ⟨⟨f0, f1, f2, f3⟩, ⟨z0, z1, z2, z3⟩, ⟨g0, g1, g2, g3⟩, ⟨y0, y1, y2, y3⟩, fl, gl⟩ := HREX.out.cells
              have HBE := Lib.hid (HB5.out.trans (HB.out.mono HB5.out.size))
              clear hno2 HNO HREX HB
              go_wp2_with fail
              refine bodyPost_ret (v := .tuple #[.agg #[.int .i64 0, .int .i64 0, .int .i64 0, .int .i64 0], .bool true, .agg #[.int .i64 0, .int .i64 0, .int .i64 0, .string ⟨#[]⟩]]) (by simp [results, Tryz.results9, go_sem, f0, f1, f2, f3, g0, g1, g2, g3]) rfl ⟨by rw [HFIN.out]; rfl, set8 HBE.out _ _ _ _ _ _ _ _⟩
end Go.Proofs.YtclannenknhfpaaGreatDoor

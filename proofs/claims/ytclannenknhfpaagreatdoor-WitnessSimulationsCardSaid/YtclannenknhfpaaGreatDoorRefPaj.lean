/-
  semblanceref19.Simulation: its errors.
-/
import Derived.Test.YtclannenknhfpaaGreatDoorRefPai
import Derived.Test.YtclannenknhfpaaGreatDoorGWkS
namespace Go.Proofs.YtclannenknhfpaaGreatDoor
open Go.RowKit Pl

set_option maxRecDepth 100000 in
set_option maxHeartbeats 16000000 in
theorem refPairsIx_any {s : Lts} {n : Nat} (hr : s.Right) (hn : s.st = (n : Int)) (hn3 : n ≤ 300) {a : Option Addr} {b off c : Nat} {w : World} (hS : SlAt encE 3 w a b off s.es) (hc : s.es.length ≤ c) (hcm : c ≤ maxLen)
    {Z : List (Int × Int)} (hZ : Z.length ≤ 10000) {za : Option Addr} {zb zo zc : Nat} (hZS : SlAt encPr 2 w za zb zo Z) {K : Nat} {zx : Int × Int} (hK : Z[K]? = some zx) (hbad : ¬ (0 ≤ zx.1 ∧ zx.1 < (n : Int) ∧ 0 ≤ zx.2 ∧ zx.2 < (n : Int))) (hrg : ∀ z ∈ Z.take K, 0 ≤ z.1 ∧ z.1 < (n : Int) ∧ 0 ≤ z.2 ∧ z.2 < (n : Int)) :
    Calls Tryz.prog 9 #[.agg #[.int .i64 s.st, .int .i64 s.lb, .int .i64 s.s0, .slice a s.es.length c], .slice za Z.length zc] w fun e w' => e = .returned (.tuple #[.agg #[.int .i64 0, .int .i64 0, .int .i64 0, .int .i64 0], .bool false, .agg #[.int .i64 3, .int .i64 0, .int .i64 0, .string (witName ++ ⟨#[32]⟩)]]) ∧ Below w.heap.size w w' := by
  have hbd := bad_any witName (by decide) 3
  obtain ⟨wn, hwn⟩ : ∃ wn, wn = witName ++ ⟨#[32]⟩ := ⟨_, rfl⟩
  rw [← hwn] at hbd ⊢
  unfold witName at hbd
  clear hwn
  have hKm : K < Z.length := (List.getElem?_eq_some_iff.1 hK).1
  have HKZ := Lib.hid hK; have HBAD := Lib.hid hbad
  clear hK hbad
  have hmkR := run_make_row' (P := Tryz.prog) 65 4 (.bool false) 1 Tryz.underlying65 (by kernel_rfl) rfl .i64 .i64 n (by omega) (by omega)
  obtain ⟨W, hW⟩ : ∃ W, W = ((w.alloc (.cells #[.int .i64 s.st, .int .i64 s.lb, .int .i64 s.s0, .slice a s.es.length c] 24)).alloc (.cells #[.int .i64 0, .int .i64 0, .int .i64 0, .int .i64 0] 35)).alloc (.cells #[.int .i64 0, .int .i64 0, .int .i64 0, .string ⟨#[]⟩] 37) := ⟨_, rfl⟩
  have hres : ResP w W #[.int .i64 s.st, .int .i64 s.lb, .int .i64 s.s0, .slice a s.es.length c] := by rw [hW]; exact ResP.made w _
  have hB0 : Below w.heap.size w W := by rw [hW]; exact (((Below.refl _ _).alloc (Nat.le_refl _) _).alloc (by simp) _).alloc (by simp; omega) _
  have HRI := Lib.hid (right_yes (c := c) hr (hS.below hB0 (Nat.le_refl _)))
  obtain ⟨el, hel⟩ : ∃ el, el = s.es.length := ⟨_, rfl⟩
  obtain ⟨m, hm⟩ : ∃ m, m = Z.length := ⟨_, rfl⟩
  rw [hn, ← hel] at HRI hW hres
  rw [hn, ← hel, ← hm]
  rw [← hm] at hKm
  have HN := Lib.hid hn; have HW := Lib.hid hW; have HRES := Lib.hid hres; have HB0 := Lib.hid hB0; have HM := Lib.hid hm; have HZS := Lib.hid hZS; have HRG := Lib.hid hrg
  have hm1 : m ≤ 10000 := by omega
  have c300 : decide (300 < (n : Int)) = false := by simp; omega
  have cZ : decide (10000 < (m : Int)) = false := by simp; omega
  clear hr hn hS hc hcm hZ hZS hrg hW hres hB0 hel hm
  go_enter Tryz.func9, Tryz.ntmps9
  go_wp2_with fail
  rw [← HW.out]
  obtain ⟨x0, x1, x2, x3, x4⟩ := sysC HRES.out.sys
  go_wp2_with fail
  refine HRI.out.mono ?_
  rintro e w1 ⟨rfl, hB1⟩
  have hres1 := HRES.out.call hB1
  have hb1 := HB0.out.trans (hB1.mono HB0.out.size)
  clear x0 x1 x2 x3 x4
  obtain ⟨x0, x1, x2, x3, x4⟩ := sysC hres1.sys
  have HRES1 := Lib.hid hres1; have HB1 := Lib.hid hb1
  clear hres1 hb1 hB1 HRI HRES HB0 HW
  go_wp2_with fail
  clear x0 x1 x2 x3 x4
  go_loopw [7, 8] (fun v7 v8 wr => ∃ (p : Nat) (bk : Nat → Nat), v8 = .int .i64 p ∧ p ≤ n ∧ LsM w1.heap.size w1 wr n (fun _ _ => false) v7 bk p) (fun _ v8 _ => n - (intOf v8).toNat)
  case atStart => exact ⟨0, fun _ => 0, rfl, Nat.zero_le _, LsM.start _ _ _ _ _⟩
  case round =>
    obtain ⟨p, bk, rfl, hp, hls⟩ := hrel
    have HL := Lib.hid hls
    have hsz := hls.bel.size
    have hres2 := HRES1.out.call hls.bel
    obtain ⟨x0, x1, x2, x3, x4⟩ := sysC hres2.sys
    clear hls hres2
    by_cases hpn : p < n
    · have hpI : (p : Int) < (n : Int) := by omega
      have hrw := World.rowIs_made wr (.bool false) n 4
      have hb2 := (Below.refl wr.heap.size wr).alloc (Nat.le_refl _) (.cells (madeCells #[.bool false] n) 4)
      have hl2 := HL.out.call hsz hb2
      have hnew : ∀ j, j < p → bk j ≠ wr.heap.size := fun j hj => by have := (HL.out.rows j hj).2.lt; omega
      have hb3 := (Below.refl (wr.alloc (.cells (madeCells #[.bool false] n) 4)).heap.size _).alloc (Nat.le_refl _) (.cells #[.slice (some ⟨wr.heap.size, 0, none⟩) n n] 65)
      have hl3 := hl2.call (by simp; omega) hb3
      have HL3 := Lib.hid hl3; have HNEW := Lib.hid hnew
      have HR3 := Lib.hid (hrw.of_block (hb3.block _ hrw.lt))
      clear hrw hb2 hl2 hnew hb3 hl3 x1 x2 x3
      go_wp2_with (at_builtin; refine wpList_lies rfl _ _ 82 rfl rowBBS (base := w1.heap.size) (by simp; omega) rfl HL3.out.own ⟨wr.heap.size + 1, 0, none⟩ 1 1 [.slice (some ⟨wr.heap.size, 0, none⟩) n n] rfl rfl (cells1 (by simp [go_sem])) (by simp [Value.oneCell']) (by omega) (by omega) (by unfold maxLen; omega) _ rfl ?_; intro g cap w6 hown6 hg6 _ _)
      have hnx := HL3.out.push (v' := .slice (some ⟨g, 0, none⟩) (p + 1) cap) (by simp; omega) (b := wr.heap.size) (by omega) HR3.out HNEW.out hown6 hg6
      have HNX := Lib.hid hnx
      clear hnx hown6 hg6 HL3 HNEW HR3 HL
      go_roundw
      case rel => exact ⟨p + 1, _, by go_num, by omega, HNX.out⟩
      case measure => simp [intOf]; omega
    · obtain rfl : n = p := by omega
      obtain ⟨va, vc, rfl⟩ := HL.out.form
      obtain ⟨w2, hw2⟩ : ∃ w2, w2 = wr := ⟨_, rfl⟩
      have HWE := Lib.hid hw2
      clear hw2
      go_wp2_with fail
      rw [← HWE.out]
      have hl2 := HL.out
      rw [← HWE.out] at hl2
      have HL2 := Lib.hid hl2
      clear hl2 HL HWE hmkR x0 x1 x2 x3 x4
      go_loopw [9, 10, 11] (fun v9 _ _ wr => ∃ i : Nat, v9 = .int .i64 i ∧ i ≤ K ∧ LsM w1.heap.size w1 wr n (inZ (Z.take i)) (.slice va n vc) bk n) (fun v9 _ _ _ => m - (intOf v9).toNat)
      case atStart => exact ⟨0, rfl, Nat.zero_le _, HL2.out.congr (fun a c _ _ => by simp [inZ])⟩
      case round =>
        obtain ⟨i, rfl, hi, hls⟩ := hrel
        have HL := Lib.hid hls
        have hsz := hls.bel.size
        have hres2 := HRES1.out.call hls.bel
        obtain ⟨x0, x1, x2, x3, x4⟩ := sysC hres2.sys
        clear hls hres2 HL2
        have him : i < m := by omega
        by_cases hiK : i < K
        · have himI : (i : Int) < (m : Int) := by omega
          obtain ⟨z, hz⟩ := getElem?_of_lt (xs := Z) (i := i) (by rw [← HM.out]; exact him)
          have hzs := HZS.out.below (HB1.out.trans (HL.out.bel.mono HB1.out.size)) (Nat.le_refl _)
          obtain rfl := hzs.ad (by rw [← HM.out]; omega)
          have e0 := hzs.cell i z hz 0 _ rfl
          have e1 := hzs.cell i z hz 1 _ rfl
          rw [Nat.add_zero] at e0
          have el0 := World.block_lt_of_cell? _ _ e0
          obtain ⟨r1, r2, r3, r4⟩ := HRG.out z (List.mem_of_getElem? (i := i) (by rw [List.getElem?_take, if_pos hiK]; exact hz))
          have HZI := Lib.hid hz
          obtain ⟨z1, z2⟩ := z
          simp only at e0 e1 r1 r2 r3 r4
          obtain ⟨p, rfl⟩ := Int.eq_ofNat_of_zero_le r1
          obtain ⟨q, rfl⟩ := Int.eq_ofNat_of_zero_le r3
          have hp : p < n := by omega
          have hq : q < n := by omega
          obtain ⟨ob, oc, hv, s0, sl, _, sl2, hsee⟩ := HL.out.see hp
          simp only [Value.slice.injEq] at hv
          obtain ⟨rfl, _, rfl⟩ := hv
          obtain ⟨s1, sf⟩ := hsee q hq
          have q1 : decide ((p : Int) < 0) = false := by simp
          have q2 : decide ((n : Int) ≤ (p : Int)) = false := by simp; omega
          have q3 : decide ((q : Int) < 0) = false := by simp
          have q4 : decide ((n : Int) ≤ (q : Int)) = false := by simp; omega
          have HMK := Lib.hid (fun nq => ((HL.out.call (w' := wr.drewN nq) hsz (bdrew (Below.refl _ _))).mark hp (q := q)).congr (G' := inZ (Z.take (i + 1))) (fun a c _ _ => by
            unfold inZ
            rw [take_snoc HZI.out]
            by_cases e : a = p ∧ c = q
            · obtain ⟨rfl, rfl⟩ := e; simp
            · rw [if_neg e]
              have : ¬ (((a : Int), (c : Int)) = ((p : Int), (q : Int))) := fun h => e (by simp only [Prod.mk.injEq] at h; omega)
              simp only [List.mem_append, List.mem_singleton, this, or_false]))
          clear hz hzs hsee
          go_wp2_with fail
          go_quiet (fail)
          go_wp2_with fail
          go_roundw
          case rel => exact ⟨i + 1, by go_num, by omega, HMK.out _⟩
          case measure => simp [intOf]; omega
        · obtain rfl : i = K := by omega
          have himI : (i : Int) < (m : Int) := by omega
          have hz := HKZ.out
          have hzs := HZS.out.below (HB1.out.trans (HL.out.bel.mono HB1.out.size)) (Nat.le_refl _)
          obtain rfl := hzs.ad (by rw [← HM.out]; omega)
          have e0 := hzs.cell i zx hz 0 _ rfl
          have e1 := hzs.cell i zx hz 1 _ rfl
          rw [Nat.add_zero] at e0
          have el0 := World.block_lt_of_cell? _ _ e0
          have hbad := HBAD.out
          obtain ⟨z1, z2⟩ := zx
          simp only at e0 e1 hbad
          have FIN : RowKit.Hid (∀ nq, Calls Tryz.prog 47 #[.string ⟨#[119, 105, 116, 110, 101, 115, 115]⟩, .int .i64 3] (wr.drewN nq) fun e w' => e = .returned (.agg #[.int .i64 3, .int .i64 0, .int .i64 0, .string wn]) ∧ ResP w w' #[.int .i64 n, .int .i64 s.lb, .int .i64 s.s0, .slice a el c] ∧ Below w.heap.size w w') := Lib.hid (fun nq => by
            refine (hbd _).mono ?_
            rintro e w5 ⟨rfl, hB5⟩
            have h1 : Below w1.heap.size w1 (wr.drewN nq) := bdrew HL.out.bel
            exact ⟨rfl, (HRES1.out.call h1).call hB5, (HB1.out.trans (h1.mono HB1.out.size)).trans (hB5.mono (HB1.out.trans (h1.mono HB1.out.size)).size)⟩)
          clear hz hzs HL hbd HRES1 HB1 hsz
          by_cases q1 : z1 < 0
          · clear hbad
            have d1 : decide (z1 < 0) = true := by simp [q1]
            go_wp2_with fail
            go_quiet (fail)
            go_wp2_with fail
            refine (FIN.out _).mono ?_
            rintro e w5 ⟨rfl, hre, hB5⟩
            obtain ⟨⟨f0, f1, f2, f3⟩, ⟨z0, z1', z2', z3⟩, ⟨g0, g1, g2, g3⟩, ⟨y0, y1, y2, y3⟩, fl, gl⟩ := hre.cells
            have HBE := Lib.hid hB5
            clear hre hB5 FIN x0 x1 x2 x3 x4 e0 e1 el0
            go_wp2_with fail
            refine bodyPost_ret (v := .tuple #[.agg #[.int .i64 0, .int .i64 0, .int .i64 0, .int .i64 0], .bool false, .agg #[.int .i64 3, .int .i64 0, .int .i64 0, .string wn]]) (by simp [results, Tryz.results9, go_sem, f0, f1, f2, f3, g0, g1, g2, g3]) rfl ⟨rfl, set8 HBE.out _ _ _ _ _ _ _ _⟩
          have d1 : decide (z1 < 0) = false := by simp [q1]
          by_cases q2 : (n : Int) ≤ z1
          · clear hbad
            have d2 : decide ((n : Int) ≤ z1) = true := by simp [q2]
            go_wp2_with fail
            go_quiet (fail)
            go_wp2_with fail
            refine (FIN.out _).mono ?_
            rintro e w5 ⟨rfl, hre, hB5⟩
            obtain ⟨⟨f0, f1, f2, f3⟩, ⟨z0, z1', z2', z3⟩, ⟨g0, g1, g2, g3⟩, ⟨y0, y1, y2, y3⟩, fl, gl⟩ := hre.cells
            have HBE := Lib.hid hB5
            clear hre hB5 FIN x0 x1 x2 x3 x4 e0 e1 el0
            go_wp2_with fail
            refine bodyPost_ret (v := .tuple #[.agg #[.int .i64 0, .int .i64 0, .int .i64 0, .int .i64 0], .bool false, .agg #[.int .i64 3, .int .i64 0, .int .i64 0, .string wn]]) (by simp [results, Tryz.results9, go_sem, f0, f1, f2, f3, g0, g1, g2, g3]) rfl ⟨rfl, set8 HBE.out _ _ _ _ _ _ _ _⟩
          have d2 : decide ((n : Int) ≤ z1) = false := by simp [q2]
          by_cases q3 : z2 < 0
          · clear hbad
            have d3 : decide (z2 < 0) = true := by simp [q3]
            go_wp2_with fail
            go_quiet (fail)
            go_wp2_with fail
            refine (FIN.out _).mono ?_
            rintro e w5 ⟨rfl, hre, hB5⟩
            obtain ⟨⟨f0, f1, f2, f3⟩, ⟨z0, z1', z2', z3⟩, ⟨g0, g1, g2, g3⟩, ⟨y0, y1, y2, y3⟩, fl, gl⟩ := hre.cells
            have HBE := Lib.hid hB5
            clear hre hB5 FIN x0 x1 x2 x3 x4 e0 e1 el0
            go_wp2_with fail
            refine bodyPost_ret (v := .tuple #[.agg #[.int .i64 0, .int .i64 0, .int .i64 0, .int .i64 0], .bool false, .agg #[.int .i64 3, .int .i64 0, .int .i64 0, .string wn]]) (by simp [results, Tryz.results9, go_sem, f0, f1, f2, f3, g0, g1, g2, g3]) rfl ⟨rfl, set8 HBE.out _ _ _ _ _ _ _ _⟩
          have d3 : decide (z2 < 0) = false := by simp [q3]
          have q4 : (n : Int) ≤ z2 := by omega
          · clear hbad
            have d4 : decide ((n : Int) ≤ z2) = true := by simp [q4]
            go_wp2_with fail
            go_quiet (fail)
            go_wp2_with fail
            refine (FIN.out _).mono ?_
            rintro e w5 ⟨rfl, hre, hB5⟩
            obtain ⟨⟨f0, f1, f2, f3⟩, ⟨z0, z1', z2', z3⟩, ⟨g0, g1, g2, g3⟩, ⟨y0, y1, y2, y3⟩, fl, gl⟩ := hre.cells
            have HBE := Lib.hid hB5
            clear hre hB5 FIN x0 x1 x2 x3 x4 e0 e1 el0
            go_wp2_with fail
            refine bodyPost_ret (v := .tuple #[.agg #[.int .i64 0, .int .i64 0, .int .i64 0, .int .i64 0], .bool false, .agg #[.int .i64 3, .int .i64 0, .int .i64 0, .string wn]]) (by simp [results, Tryz.results9, go_sem, f0, f1, f2, f3, g0, g1, g2, g3]) rfl ⟨rfl, set8 HBE.out _ _ _ _ _ _ _ _⟩

set_option maxRecDepth 100000 in
theorem refPairsNo_any {s : Lts} (hr : ¬ s.Right) {a : Option Addr} {b off c : Nat} {m : Nat} {za : Option Addr} {zc : Nat} {w : World} (hS : SlAt encE 3 w a b off s.es) :
    Calls Tryz.prog 9 #[.agg #[.int .i64 s.st, .int .i64 s.lb, .int .i64 s.s0, .slice a s.es.length c], .slice za m zc] w fun e w' => e = .returned (.tuple #[.agg #[.int .i64 0, .int .i64 0, .int .i64 0, .int .i64 0], .bool false, .agg #[.int .i64 14, .int .i64 0, .int .i64 0, .string (witName ++ ⟨#[32]⟩ ++ sysName ++ ⟨#[32]⟩)]]) ∧ Below w.heap.size w w' := by
  obtain ⟨W, hW⟩ : ∃ W, W = ((w.alloc (.cells #[.int .i64 s.st, .int .i64 s.lb, .int .i64 s.s0, .slice a s.es.length c] 24)).alloc (.cells #[.int .i64 0, .int .i64 0, .int .i64 0, .int .i64 0] 35)).alloc (.cells #[.int .i64 0, .int .i64 0, .int .i64 0, .string ⟨#[]⟩] 37) := ⟨_, rfl⟩
  have hres : ResP w W #[.int .i64 s.st, .int .i64 s.lb, .int .i64 s.s0, .slice a s.es.length c] := by rw [hW]; exact ResP.made w _
  have hB0 : Below w.heap.size w W := by rw [hW]; exact (((Below.refl _ _).alloc (Nat.le_refl _) _).alloc (by simp) _).alloc (by simp; omega) _
  have HRI := Lib.hid (right_no (c := c) hr (hS.below hB0 (Nat.le_refl _)))
  have HEX : RowKit.Hid (∀ V, Below w.heap.size w V → Calls Tryz.prog 46 #[.string ⟨#[119, 105, 116, 110, 101, 115, 115]⟩, .agg #[.int .i64 s.st, .int .i64 s.lb, .int .i64 s.s0, .slice a s.es.length c]] V fun e w' => e = .returned (.agg #[.int .i64 14, .int .i64 0, .int .i64 0, .string (witName ++ ⟨#[32]⟩ ++ sysName ++ ⟨#[32]⟩)]) ∧ Below V.heap.size V w') := Lib.hid (fun V hV => refHanded_no witName (by decide) hr (hS.below hV (Nat.le_refl _)))
  obtain ⟨wn, hwn⟩ : ∃ wn, wn = witName ++ ⟨#[32]⟩ ++ sysName ++ ⟨#[32]⟩ := ⟨_, rfl⟩
  rw [← hwn] at HEX ⊢
  clear hwn
  obtain ⟨el, hel⟩ : ∃ el, el = s.es.length := ⟨_, rfl⟩
  rw [← hel] at HRI hW hres HEX
  rw [← hel]
  have HW := Lib.hid hW; have HRES := Lib.hid hres; have HB0 := Lib.hid hB0
  clear hr hS hW hres hB0 hel
  go_enter Tryz.func9, Tryz.ntmps9
  go_wp2_with fail
  rw [← HW.out]
  obtain ⟨x0, x1, x2, x3, x4⟩ := sysC HRES.out.sys
  go_wp2_with fail
  refine HRI.out.mono ?_
  rintro e w1 ⟨rfl, hB1⟩
  have hres1 := HRES.out.call hB1
  have hb1 := HB0.out.trans (hB1.mono HB0.out.size)
  clear x0 x1 x2 x3 x4
  obtain ⟨x0, x1, x2, x3, x4⟩ := sysC hres1.sys
  have HRES1 := Lib.hid hres1; have HB1 := Lib.hid hb1
  clear hres1 hb1 hB1 HRI HRES HB0 HW
  go_wp2_with fail
  refine (HEX.out _ HB1.out).mono ?_
  rintro e w5 ⟨rfl, hB5⟩
  have hre := HRES1.out.call hB5
  obtain ⟨⟨f0, f1, f2, f3⟩, ⟨z0, z1', z2', z3⟩, ⟨g0, g1, g2, g3⟩, ⟨y0, y1, y2, y3⟩, fl, gl⟩ := hre.cells
  have HBE := Lib.hid (HB1.out.trans (hB5.mono HB1.out.size))
  clear hre hB5 x0 x1 x2 x3 x4
  go_wp2_with fail
  refine bodyPost_ret (v := .tuple #[.agg #[.int .i64 0, .int .i64 0, .int .i64 0, .int .i64 0], .bool false, .agg #[.int .i64 14, .int .i64 0, .int .i64 0, .string wn]]) (by simp [results, Tryz.results9, go_sem, f0, f1, f2, f3, g0, g1, g2, g3]) rfl ⟨rfl, set8 HBE.out _ _ _ _ _ _ _ _⟩

set_option maxRecDepth 100000 in
theorem refPairsBig_any {s : Lts} (hr : s.Right) {a : Option Addr} {b off c : Nat} {m : Nat} {za : Option Addr} {zc : Nat} {w : World} (hS : SlAt encE 3 w a b off s.es) (hbig : 300 < s.st ∨ 10000 < m) :
    Calls Tryz.prog 9 #[.agg #[.int .i64 s.st, .int .i64 s.lb, .int .i64 s.s0, .slice a s.es.length c], .slice za m zc] w fun e w' => e = .returned (.tuple #[.agg #[.int .i64 0, .int .i64 0, .int .i64 0, .int .i64 0], .bool false, .agg #[.int .i64 2, .int .i64 0, .int .i64 0, .string (witName ++ ⟨#[32]⟩)]]) ∧ Below w.heap.size w w' := by
  obtain ⟨W, hW⟩ : ∃ W, W = ((w.alloc (.cells #[.int .i64 s.st, .int .i64 s.lb, .int .i64 s.s0, .slice a s.es.length c] 24)).alloc (.cells #[.int .i64 0, .int .i64 0, .int .i64 0, .int .i64 0] 35)).alloc (.cells #[.int .i64 0, .int .i64 0, .int .i64 0, .string ⟨#[]⟩] 37) := ⟨_, rfl⟩
  have hres : ResP w W #[.int .i64 s.st, .int .i64 s.lb, .int .i64 s.s0, .slice a s.es.length c] := by rw [hW]; exact ResP.made w _
  have hB0 : Below w.heap.size w W := by rw [hW]; exact (((Below.refl _ _).alloc (Nat.le_refl _) _).alloc (by simp) _).alloc (by simp; omega) _
  have HRI := Lib.hid (right_yes (c := c) hr (hS.below hB0 (Nat.le_refl _)))
  have HEX : RowKit.Hid (∀ V, Below w.heap.size w V → Calls Tryz.prog 47 #[.string ⟨#[119, 105, 116, 110, 101, 115, 115]⟩, .int .i64 2] V fun e w' => e = .returned (.agg #[.int .i64 2, .int .i64 0, .int .i64 0, .string (witName ++ ⟨#[32]⟩)]) ∧ Below V.heap.size V w') := Lib.hid (fun V _ => bad_any witName (by decide) 2 V)
  have hel0 : s.es.length = s.es.length := rfl
  obtain ⟨wn, hwn⟩ : ∃ wn, wn = witName ++ ⟨#[32]⟩ := ⟨_, rfl⟩
  rw [← hwn] at HEX ⊢
  clear hwn hel0
  obtain ⟨el, hel⟩ : ∃ el, el = s.es.length := ⟨_, rfl⟩
  rw [← hel] at HRI hW hres
  rw [← hel]
  have HW := Lib.hid hW; have HRES := Lib.hid hres; have HB0 := Lib.hid hB0
  clear hr hS hW hres hB0 hel
  go_enter Tryz.func9, Tryz.ntmps9
  go_wp2_with fail
  rw [← HW.out]
  obtain ⟨x0, x1, x2, x3, x4⟩ := sysC HRES.out.sys
  go_wp2_with fail
  refine HRI.out.mono ?_
  rintro e w1 ⟨rfl, hB1⟩
  have hres1 := HRES.out.call hB1
  have hb1 := HB0.out.trans (hB1.mono HB0.out.size)
  clear x0 x1 x2 x3 x4
  obtain ⟨x0, x1, x2, x3, x4⟩ := sysC hres1.sys
  have HRES1 := Lib.hid hres1; have HB1 := Lib.hid hb1
  clear hres1 hb1 hB1 HRI HRES HB0 HW
  by_cases q1 : 300 < s.st
  · have e1 : decide (300 < s.st) = true := by simp [q1]
    clear hbig
    go_wp2_with fail
    refine (HEX.out _ HB1.out).mono ?_
    rintro e w5 ⟨rfl, hB5⟩
    have hre := HRES1.out.call hB5
    obtain ⟨⟨f0, f1, f2, f3⟩, ⟨z0, z1', z2', z3⟩, ⟨g0, g1, g2, g3⟩, ⟨y0, y1, y2, y3⟩, fl, gl⟩ := hre.cells
    have HBE := Lib.hid (HB1.out.trans (hB5.mono HB1.out.size))
    clear hre hB5 x0 x1 x2 x3 x4
    go_wp2_with fail
    refine bodyPost_ret (v := .tuple #[.agg #[.int .i64 0, .int .i64 0, .int .i64 0, .int .i64 0], .bool false, .agg #[.int .i64 2, .int .i64 0, .int .i64 0, .string wn]]) (by simp [results, Tryz.results9, go_sem, f0, f1, f2, f3, g0, g1, g2, g3]) rfl ⟨rfl, set8 HBE.out _ _ _ _ _ _ _ _⟩
  · have e1 : decide (300 < s.st) = false := by simp [q1]
    have q2 : 10000 < m := by omega
    have e2 : decide (10000 < (m : Int)) = true := by simp; omega
    clear hbig
    go_wp2_with fail
    refine (HEX.out _ HB1.out).mono ?_
    rintro e w5 ⟨rfl, hB5⟩
    have hre := HRES1.out.call hB5
    obtain ⟨⟨f0, f1, f2, f3⟩, ⟨z0, z1', z2', z3⟩, ⟨g0, g1, g2, g3⟩, ⟨y0, y1, y2, y3⟩, fl, gl⟩ := hre.cells
    have HBE := Lib.hid (HB1.out.trans (hB5.mono HB1.out.size))
    clear hre hB5 x0 x1 x2 x3 x4
    go_wp2_with fail
    refine bodyPost_ret (v := .tuple #[.agg #[.int .i64 0, .int .i64 0, .int .i64 0, .int .i64 0], .bool false, .agg #[.int .i64 2, .int .i64 0, .int .i64 0, .string wn]]) (by simp [results, Tryz.results9, go_sem, f0, f1, f2, f3, g0, g1, g2, g3]) rfl ⟨rfl, set8 HBE.out _ _ _ _ _ _ _ _⟩
end Go.Proofs.YtclannenknhfpaaGreatDoor

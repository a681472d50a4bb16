/-
  law19.WitnessJoined.
-/
import Derived.Test.YtfakdgljilmpkaaGreatDoorG49
import Derived.Test.YtfakdgljilmpkaaGreatDoorG25
import Derived.Test.YtfakdgljilmpkaaGreatDoorG15
namespace Go.Proofs.YtfakdgljilmpkaaGreatDoor
open Go.RowKit Pl

theorem sysJ {w : World} {B : Nat} {x y z : Int} {v : Value} (h : w.heap[B]? = some (.cells #[.int .i64 x, .int .i64 y, .int .i64 z, v] 24 (0, 0))) :
    w.cell? ⟨B, 0, none⟩ = some (.int .i64 x) ∧ w.cell? ⟨B, 1, none⟩ = some (.int .i64 y) ∧ w.cell? ⟨B, 2, none⟩ = some (.int .i64 z) ∧ w.cell? ⟨B, 3, none⟩ = some v ∧ B < w.heap.size := by
  refine ⟨?_, ?_, ?_, ?_, (Array.getElem?_eq_some_iff.1 h).1⟩ <;> simp [World.cell?, h]

/-- The classes' numbers, and with b made a up to k. -/
def clN (n : Nat) (inn : Nat → Nat) (x : Nat) : Nat := (dist (flN n inn)).idxOf (inn x : Int)
def mixN (n : Nat) (inn : Nat → Nat) (a b k : Nat) (x : Nat) : Nat := if x < k then (if clN n inn x = b then a else clN n inn x) else clN n inn x
theorem canon_flN (n : Nat) (inn : Nat → Nat) : canon (flN n inn) = flN n (clN n inn) := by
  unfold flN
  rw [canon_fl]; rfl
theorem mix_zero (n : Nat) (inn : Nat → Nat) (a b : Nat) : flN n (mixN n inn a b 0) = flN n (clN n inn) := rfl
theorem mix_at {n : Nat} {inn : Nat → Nat} {a b k : Nat} : mixN n inn a b k k = clN n inn k := by unfold mixN; rw [if_neg (by omega)]
theorem mix_skip {n : Nat} {inn : Nat → Nat} {a b k : Nat} (h : clN n inn k ≠ b) : mixN n inn a b (k + 1) = mixN n inn a b k := by
  funext x
  unfold mixN
  by_cases e : x = k
  · subst e; simp [h]
  · by_cases e2 : x < k
    · simp [e2, show x < k + 1 by omega]
    · simp [e2, show ¬ x < k + 1 by omega]
theorem mix_set {n : Nat} {inn : Nat → Nat} {a b k : Nat} (h : clN n inn k = b) : upd (mixN n inn a b k) k a = mixN n inn a b (k + 1) := by
  funext x
  unfold upd mixN
  by_cases e : x = k
  · subst e; simp [h]
  · by_cases e2 : x < k
    · simp [e, e2, show x < k + 1 by omega]
    · simp [e, e2, show ¬ x < k + 1 by omega]
theorem mix_done (n : Nat) (inn : Nat → Nat) (a b : Nat) : flN n (mixN n inn a b n) = fl n (joinF (clf n (fun p => (inn p : Int))) (a : Int) (b : Int)) := by
  unfold flN fl
  apply List.map_congr_left
  intro x hx
  have hx := List.mem_range.1 hx
  unfold mixN joinF
  rw [if_pos hx]
  have e : clf n (fun p => (inn p : Int)) x = (clN n inn x : Int) := rfl
  rw [e]
  by_cases h : clN n inn x = b
  · rw [if_pos h, if_pos (by omega)]
  · rw [if_neg h, if_neg (by omega)]

theorem mix_wf {n : Nat} {inn : Nat → Nat} {a b k : Nat} (ha : a ≤ 1000000) (hn : n ≤ 1000000) : ∀ z ∈ flN n (mixN n inn a b k), (Lit.int .i64 z).wf = true := by
  intro z hz
  unfold flN fl at hz
  obtain ⟨x, hx, rfl⟩ := List.mem_map.1 hz
  have h1 := dist_len (flN n inn)
  rw [flN_len] at h1
  have h2 : clN n inn x ≤ (dist (flN n inn)).length := List.idxOf_le_length
  have h3 : mixN n inn a b k x ≤ 1000000 := by
    unfold mixN
    by_cases e : x < k
    · rw [if_pos e]
      by_cases e2 : clN n inn x = b
      · rw [if_pos e2]; exact ha
      · rw [if_neg e2]; omega
    · rw [if_neg e]; omega
  exact WalkArith.wf_i64 (by omega)
theorem jAlloc {w0 w : World} {o : Obj} (h : Below w0.heap.size w0 w) : Below w0.heap.size w0 (w.alloc o) := h.alloc h.size o
theorem jSet4 {w0 w : World} {B : Nat} {a b c d : Value} (h : Below w0.heap.size w0 w) (hb : w0.heap.size ≤ B) : Below w0.heap.size w0 ((((w.setCell ⟨B, 0, none⟩ a).setCell ⟨B, 1, none⟩ b).setCell ⟨B, 2, none⟩ c).setCell ⟨B, 3, none⟩ d) :=
  (((h.setCell hb a).setCell hb b).setCell hb c).setCell hb d
/-- A zero Fail's block. -/
def ZB (W : World) (B : Nat) : Prop := W.heap[B]? = some (.cells #[.int .i64 0, .int .i64 0, .int .i64 0, .int .i64 0] 58 (0, 0))
theorem ZB.new (W : World) : ZB (W.alloc (.cells #[.int .i64 0, .int .i64 0, .int .i64 0, .int .i64 0] 58)) W.heap.size := heap_alloc_new W _
theorem ZB.newD (W : World) : ZB (W.alloc (.cells #[.int .i64 0, .int .i64 0, .int .i64 0, .int .i64 0] 58)).drew W.heap.size := heap_alloc_new W _
theorem ZB.call {W w' : World} {B : Nat} (h : ZB W B) (hB : Below W.heap.size W w') : ZB w' B := (hB.block B (Array.getElem?_eq_some_iff.1 h).1).trans h
theorem ZB.cells {W : World} {B : Nat} (h : ZB W B) : W.cell? ⟨B, 0, none⟩ = some (.int .i64 0) ∧ W.cell? ⟨B, 1, none⟩ = some (.int .i64 0) ∧ W.cell? ⟨B, 2, none⟩ = some (.int .i64 0) ∧ W.cell? ⟨B, 3, none⟩ = some (.int .i64 0) ∧
    W.frozen? ⟨B, 0, none⟩ = false ∧ W.frozen? ⟨B, 1, none⟩ = false ∧ W.frozen? ⟨B, 2, none⟩ = false ∧ W.frozen? ⟨B, 3, none⟩ = false ∧ B < W.heap.size := by
  unfold ZB at h
  refine ⟨?_, ?_, ?_, ?_, ?_, ?_, ?_, ?_, (Array.getElem?_eq_some_iff.1 h).1⟩ <;> simp [World.cell?, World.frozen?, h]
/-- A row reads as a list, wherever it lies. -/
def CanJ (W : World) (a1 : Option Addr) (L : List Int) : Prop := ∃ b1, SlAt encI 1 W a1 b1 0 L
theorem CanJ.alloc {W : World} {a1 : Option Addr} {L : List Int} {o : Obj} (h : CanJ W a1 L) : CanJ (W.alloc o) a1 L := by
  obtain ⟨b, h⟩ := h
  exact ⟨b, h.below ((Below.refl _ _).alloc (Nat.le_refl _) o) (Nat.le_refl _)⟩
theorem oneIJ (x : Int) : ∀ u ∈ encI x, u.oneCell' = true := by intro u hu; simp [encI] at hu; subst hu; rfl
theorem joinForm {w w1 : World} {v' : Value} {n : Nat} {l : List Int} (hn : 0 < n) (hl : l.length = n) (ho : w1.ownsRow w.heap.size 3 1 v' (0 + l.length) ([] ++ l.flatMap encI)) (hg : w.grownBy w1 none) :
    ∃ (db dc : Nat), v' = .slice (some ⟨db, 0, none⟩) n dc ∧ Rws w w1 [⟨3, 1, .slice (some ⟨db, 0, none⟩) n dc, n, l.flatMap encI⟩] := by
  rw [Nat.zero_add, List.nil_append, hl] at ho
  have hs := ((Rws.nil (Below.refl w.heap.size w)).addNil 3 1).grown (Below.refl _ _) 0 rfl ho hg (fun g hg' => .inr (ho.lt g hg').1)
  obtain ⟨g, c, hv, _⟩ := hs.form (i := 0) rfl hn
  have hv' : v' = .slice (some ⟨g, 0, none⟩) n c := hv
  subst hv'
  exact ⟨g, c, rfl, hs⟩

set_option maxRecDepth 100000 in
set_option maxHeartbeats 8000000 in
theorem witnessJoined_any {w : World} {p0 : Addr} (hG : GErr 0 p0 w) (hT : ErrType w) {s : Lts} {a : Option Addr} {b off c : Nat} (hS : SlAt encE 3 w a b off s.es) (x y : Int) :
    Calls Tryz.prog 10 #[.agg #[.int .i64 s.st, .int .i64 s.lb, .int .i64 s.s0, .slice a s.es.length c], .int .i64 x, .int .i64 y] w fun e w' => e = .returned (.bool true) ∧ Below w.heap.size w w' := by
  have hB0 := (Below.refl w.heap.size w).alloc (Nat.le_refl _) (Obj.cells #[.int .i64 s.st, .int .i64 s.lb, .int .i64 s.s0, .slice a s.es.length c] 24)
  have hbx := heap_alloc_new w (Obj.cells #[.int .i64 s.st, .int .i64 s.lb, .int .i64 s.s0, .slice a s.es.length c] 24)
  have HG := Lib.hid hG; have HT := Lib.hid hT; have HS := Lib.hid hS; have HB0 := Lib.hid hB0; have HBX := Lib.hid hbx
  have HSM := Lib.hid (smallW_any s.s0 s.st s.lb a s.es.length c (w.alloc (Obj.cells #[.int .i64 s.st, .int .i64 s.lb, .int .i64 s.s0, .slice a s.es.length c] 24)))
  clear hG hT hS hB0 hbx
  have ALV : RowKit.Hid (∀ w1 : World, Below w.heap.size w w1 → Calls Tryz.prog 30 #[] w1 fun e w' => e = .returned (.bool true) ∧ Below w.heap.size w w') := Lib.hid (by
    intro w1 h1
    refine (alive19_any (HG.out.below h1)).mono ?_
    rintro e w' ⟨rfl, hB⟩
    exact ⟨rfl, h1.trans (hB.mono h1.size)⟩)
  go_enter Tryz.func10, Tryz.ntmps10
  go_wp2_with fail
  refine HSM.out.mono ?_
  rintro e w1 ⟨rfl, hB⟩
  obtain ⟨m, hm⟩ : ∃ m, m = (decide (s.st ≤ 25) && decide (s.es.length ≤ 150)) := ⟨_, rfl⟩
  rw [← hm]
  have hb1 := HB0.out.trans (hB.mono (by simp))
  have hx1 := (hB.block w.heap.size (by simp)).trans HBX.out
  have HB1 := Lib.hid hb1; have HM := Lib.hid hm
  obtain ⟨x0, x1, x2, x3, x4⟩ := sysJ hx1
  have HX1 := Lib.hid hx1
  clear hb1 hm hB hx1 HBX HB0 HSM
  cases m
  · go_wp2_with fail
    refine (ALV.out _ HB1.out).mono ?_
    rintro e w2 ⟨rfl, hB⟩
    go_wp2
    go_ret
    exact ⟨rfl, hB⟩
  by_cases hr : ¬ s.Right
  · have HNO := Lib.hid (strClassesNo_any (c := c) hr (HG.out.below HB1.out) (HT.out.below HB1.out) (HS.out.below HB1.out (Nat.le_refl _)))
    clear hr
    go_wp2_with fail
    refine HNO.out.mono ?_
    rintro e w2 ⟨v, rfl, hf, hB⟩
    obtain ⟨v1, hf, _⟩ := hf
    obtain ⟨fb, rfl, _⟩ := hf.ex
    have HB2 := Lib.hid (HB1.out.trans (hB.mono HB1.out.size))
    clear hB hf HNO
    go_wp2_with fail
    refine (ALV.out _ HB2.out).mono ?_
    rintro e w3 ⟨rfl, hB⟩
    go_wp2
    go_ret
    exact ⟨rfl, hB⟩
  have hr := Classical.not_not.1 hr
  have h0 := hr.st0
  have hm := HM.out
  simp only [Bool.true_eq, Bool.and_eq_true, decide_eq_true_eq] at hm
  obtain ⟨h25, h150⟩ := hm
  obtain ⟨st, lb, s0, es⟩ := s
  simp only at h25 h150 h0 x0 x1 x2 x3 HX1 HS
  obtain ⟨n, rfl⟩ := Int.eq_ofNat_of_zero_le h0.1
  have hn3 : n ≤ 25 := by omega
  have HR := Lib.hid hr
  have HCL := Lib.hid (strClasses_any (c := c) (n := n) HR.out rfl (HG.out.below HB1.out) (HS.out.below HB1.out (Nat.le_refl _)))
  clear h25 h0 hr HM
  go_wp2_with fail
  refine HCL.out.mono ?_
  unfold StrClasses
  rintro e w3 ⟨inn, ca, cc, hbig, rfl, hown, hB⟩
  have hb3 := HB1.out.trans (hB.mono HB1.out.size)
  have hx3 := (hB.block w.heap.size x4).trans HX1.out
  clear x0 x1 x2 x3 x4
  have hcl : (canon (flN n inn)).length = n := by rw [canon_len, flN_len]
  have hos : SlAt encI 1 w3 ca (blkOf ca) 0 (canon (flN n inn)) := ((Rws.nil (Below.refl w1.heap.size w1)).add hB hown).slO (i := 0) rfl lenI hcl.symm
  have HB3 := Lib.hid hb3; have HX3 := Lib.hid hx3; have HCS := Lib.hid hos; have HBIG := Lib.hid hbig
  have hto := together_any (c := cc) hos (by rw [hcl]; omega) (canonW_wf (by rw [flN_len]; omega))
  rw [hcl] at hto
  have HCLN := Lib.hid hcl
  have HTO := Lib.hid hto
  obtain ⟨x0, x1, x2, x3, x4⟩ := sysJ hx3
  clear hb3 hx3 hB hown hos hbig hcl hto HCL HX1 HB1
  go_wp2_with fail
  refine HTO.out.mono ?_
  rintro e w4 ⟨rfl, hB4⟩
  have hb4 := HB3.out.trans (hB4.mono HB3.out.size)
  have hx4 := (hB4.block w.heap.size x4).trans HX3.out
  have hc4 := HCS.out.below hB4 (Nat.le_refl _)
  rw [canon_flN] at hc4
  clear x0 x1 x2 x3 x4
  obtain ⟨m, hm⟩ : ∃ m, m = (dist (canon (flN n inn))).length := ⟨_, rfl⟩
  rw [← hm]
  have hmd : m = (dist (fl n (fun p => (inn p : Int)))).length := by rw [hm]; unfold flN; rw [canon_fl, dist_clf_len]
  have hmn : m ≤ n := by rw [hmd]; exact dist_le _ _
  have HMD := Lib.hid hmd; have HB4 := Lib.hid hb4; have HX4 := Lib.hid hx4; have HC4 := Lib.hid hc4
  obtain ⟨x0, x1, x2, x3, x4⟩ := sysJ hx4
  clear hb4 hx4 hc4 hB4 hm hmd HTO HCS HX3 HB3 HCLN
  by_cases q1 : x < 0
  · go_wp2_with fail
    refine (ALV.out _ HB4.out).mono ?_
    rintro e w2 ⟨rfl, hB⟩
    go_wp2
    go_ret
    exact ⟨rfl, hB⟩
  by_cases q2 : y < 0
  · go_wp2_with fail
    refine (ALV.out _ HB4.out).mono ?_
    rintro e w2 ⟨rfl, hB⟩
    go_wp2
    go_ret
    exact ⟨rfl, hB⟩
  by_cases q3 : (m : Int) ≤ x
  · go_wp2_with fail
    refine (ALV.out _ HB4.out).mono ?_
    rintro e w2 ⟨rfl, hB⟩
    go_wp2
    go_ret
    exact ⟨rfl, hB⟩
  by_cases q4 : (m : Int) ≤ y
  · go_wp2_with fail
    refine (ALV.out _ HB4.out).mono ?_
    rintro e w2 ⟨rfl, hB⟩
    go_wp2
    go_ret
    exact ⟨rfl, hB⟩
  by_cases q5 : x = y
  · go_wp2_with fail
    refine (ALV.out _ HB4.out).mono ?_
    rintro e w2 ⟨rfl, hB⟩
    go_wp2
    go_ret
    exact ⟨rfl, hB⟩
  have k1 : decide (x < 0) = false := decide_eq_false q1
  have k2 : decide (y < 0) = false := decide_eq_false q2
  have k3 : decide ((m : Int) ≤ x) = false := decide_eq_false q3
  have k4 : decide ((m : Int) ≤ y) = false := decide_eq_false q4
  have k5 : decide (x = y) = false := decide_eq_false q5
  go_upto_region 9 with fail
  clear k1 k2 k3 k4 k5
  obtain ⟨ja, rfl⟩ := Int.eq_ofNat_of_zero_le (show 0 ≤ x by omega)
  obtain ⟨jb, rfl⟩ := Int.eq_ofNat_of_zero_le (show 0 ≤ y by omega)
  have hn0 : 0 < n := by omega
  have hq1 : ¬ ((ja : Int) < 0) := by omega
  have hq2 : ¬ ((jb : Int) < 0) := by omega
  have hfl : (flN n (clN n inn)).length = n := flN_len _ _
  have hc5 : SlAt encI 1 w4 ca (blkOf ca) 0 (flN n (clN n inn)) := HC4.out
  have HC5 := Lib.hid hc5
  have HFL := Lib.hid hfl
  clear hc5 q1 q2 hfl HC4
  go_wp2_with (at_builtin; go_must (refine wpList_appS rfl _ _ _ rfl rowI (Nat.le_refl _) rfl (World.ownsRow_nil _ _ _ _) lenI oneIJ HC5.out (by rw [HFL.out]; rfl) (by rw [HFL.out]; omega) (by rw [HFL.out]; unfold maxLen; omega) ?_); intro v' w5 hown5 hg5; obtain ⟨db, dc, rfl, hr5⟩ := joinForm hn0 HFL.out hown5 hg5; have HR5 := Lib.hid hr5; have hu := sysJ ((hr5.bel.block w.heap.size x4).trans HX4.out); obtain ⟨u0, u1, u2, u3, u4⟩ := hu; clear hown5 hg5 hr5)
  clear x0 x1 x2 x3 x4
  go_loopw [11] (fun v11 wr => ∃ k : Nat, v11 = .int .i64 k ∧ k ≤ n ∧ Rws w4 wr [⟨3, 1, .slice (some ⟨db, 0, none⟩) n dc, n, (flN n (mixN n inn ja jb k)).flatMap encI⟩]) (fun v11 _ => n - (intOf v11).toNat)
  case atStart => exact ⟨0, rfl, Nat.zero_le _, HR5.out⟩
  case round =>
    obtain ⟨k, rfl, hk, hrw⟩ := hrel
    have HRW := Lib.hid hrw
    by_cases hkn : k < n
    · have hkI : (k : Int) < (n : Int) := by omega
      have d0 := hrw.cell (i := 0) rfl (flN_at (mixN n inn ja jb k) hkn)
      have dl := (hrw.lt (i := 0) rfl).2
      have df := hrw.fz (i := 0) rfl k
      rw [mix_at] at d0
      have hst := hrw.set 0 rfl k (.int .i64 (ja : Int))
      have HST := Lib.hid hst
      clear hrw hst
      by_cases hcb : clN n inn k = jb
      · have HCB := Lib.hid hcb
        rw [hcb] at d0
        clear hcb
        go_wp2_with fail
        go_roundw
        case rel => exact ⟨k + 1, by go_num, by omega, by rw [← mix_set HCB.out, ← flN_set]; exact HST.out⟩
        case measure => simp [intOf]; omega
      · have HCB := Lib.hid hcb
        have hci : ¬ (clN n inn k : Int) = (jb : Int) := by omega
        clear hcb
        go_wp2_with fail
        go_roundw
        case rel => exact ⟨k + 1, by go_num, by omega, by rw [mix_skip HCB.out]; exact HRW.out⟩
        case measure => simp [intOf]; omega
    · have hke : n = k := by omega
      subst hke
      clear hkn hk
      obtain ⟨wq, hwq⟩ : ∃ wq, wq = wr := ⟨_, rfl⟩
      have hx := (HRW.out.bel.block w.heap.size (Array.getElem?_eq_some_iff.1 HX4.out).1).trans HX4.out
      have hb := HB4.out.trans (HRW.out.bel.mono HB4.out.size)
      have hd := HRW.out.slO (i := 0) rfl lenI (flN_len _ _).symm
      have hdl : (flN n (mixN n inn ja jb n)).length = n := flN_len _ _
      obtain ⟨D, hD⟩ : ∃ D, D = flN n (mixN n inn ja jb n) := ⟨_, rfl⟩
      rw [← hD] at hd hdl
      have hjc : canon D = fl n (clf n (joinF (clf n (fun p => (inn p : Int))) (ja : Int) (jb : Int))) := by rw [hD, mix_done, canon_fl]
      rw [← hwq] at hx hb hd ⊢
      have HD := Lib.hid hd; have HDL := Lib.hid hdl; have HJC := Lib.hid hjc; have HB := Lib.hid hb; have HX := Lib.hid hx
      have HJN : RowKit.Hid (ja < (dist (fl n (fun p => (inn p : Int)))).length ∧ jb < (dist (fl n (fun p => (inn p : Int)))).length ∧ ja ≠ jb) := Lib.hid (by rw [← HMD.out]; omega)
      have HWFD : RowKit.Hid (∀ z ∈ D, (Lit.int .i64 z).wf = true) := Lib.hid (by rw [hD]; exact mix_wf (by omega) (by omega))
      clear hd hdl hjc hb hx hD hwq
      have HC1 : RowKit.Hid (∀ W, Below wq.heap.size wq W → Calls Tryz.prog 33 #[.slice (some ⟨db, 0, none⟩) n dc] W fun e w' => ∃ (a1 : Option Addr) (c1 : Nat), e = .returned (.slice a1 n c1) ∧ CanJ w' a1 (canon D) ∧ Below wq.heap.size wq w' ∧ Below W.heap.size W w') := Lib.hid (by
        intro W hW
        have hq := canon_any (c := dc) (HD.out.below hW (Nat.le_refl _)) (by rw [HDL.out]; omega) HWFD.out
        rw [HDL.out] at hq
        refine hq.mono ?_
        rintro e w' ⟨v, rfl, hown, hB⟩
        have hs := (Rws.nil (Below.refl W.heap.size W)).add hB hown
        obtain ⟨g, c1, hv, _⟩ := hs.form (i := 0) rfl hn0
        subst hv
        exact ⟨_, c1, rfl, ⟨_, hs.slO (i := 0) rfl lenI (by rw [canon_len, HDL.out])⟩, hW.trans (hB.mono hW.size), hB⟩)
      have HC2 : RowKit.Hid (∀ (W : World) (a1 : Option Addr) (c1 : Nat), CanJ W a1 (canon D) → Below wq.heap.size wq W → Calls Tryz.prog 32 #[.agg #[.int .i64 n, .int .i64 lb, .int .i64 s0, .slice a es.length c], .slice a1 n c1] W fun e w' => ∃ q1 q2 q3 q4 : Int, e = .returned (.tuple #[.agg #[.int .i64 q1, .int .i64 q2, .int .i64 q3, .int .i64 q4], .bool false, .nilIface]) ∧ Below wq.heap.size wq w' ∧ Below W.heap.size W w') := Lib.hid (by
        rintro W a1 c1 ⟨b1, h1⟩ hW
        have hbW := HB.out.trans (hW.mono HB.out.size)
        have hcl : (canon D).length = n := by rw [canon_len, HDL.out]
        have hst := strongYes_any (c := c) (cc := c1) (C := canon D) HR.out (by unfold clB; rw [canon_canon, hcl]; simp) (HG.out.below hbW) (HS.out.below hbW (Nat.le_refl _)) h1 (by rw [hcl]; omega) (canonW_wf (by rw [HDL.out]; omega))
        rw [hcl] at hst
        refine hst.mono ?_
        rintro e w' ⟨hw, hB⟩
        rw [HJC.out] at hw
        obtain ⟨q1, q2, q3, q4, rfl⟩ := joined_no HR.out rfl HBIG.out HJN.out.1 HJN.out.2.1 HJN.out.2.2 hw
        exact ⟨q1, q2, q3, q4, rfl, hW.trans (hB.mono hW.size), hB⟩)
      have HKEEP : RowKit.Hid (∀ W, Below wq.heap.size wq W → W.cell? ⟨w.heap.size, 0, none⟩ = some (.int .i64 n) ∧ W.cell? ⟨w.heap.size, 1, none⟩ = some (.int .i64 lb) ∧ W.cell? ⟨w.heap.size, 2, none⟩ = some (.int .i64 s0) ∧ W.cell? ⟨w.heap.size, 3, none⟩ = some (.slice a es.length c) ∧ w.heap.size < W.heap.size ∧ Below wq.heap.size wq W) := Lib.hid (fun W hW => by
        obtain ⟨a0, a1, a2, a3, a4⟩ := sysJ ((hW.block w.heap.size (Array.getElem?_eq_some_iff.1 HX.out).1).trans HX.out)
        exact ⟨a0, a1, a2, a3, a4, hW⟩)
      obtain ⟨p0, p1, p2, p3, p4, p5⟩ := HKEEP.out wq (Below.refl _ _)
      have hdr : Below wq.heap.size wq wq.drew := (Below.refl _ _).drew
      have hds := hdr.size
      clear HRW HMD HR5
      go_upto_region 15 with fail
      go_region_held3 (fun W => W.cell? ⟨w.heap.size, 0, none⟩ = some (.int .i64 n) ∧ W.cell? ⟨w.heap.size, 1, none⟩ = some (.int .i64 lb) ∧ W.cell? ⟨w.heap.size, 2, none⟩ = some (.int .i64 s0) ∧ W.cell? ⟨w.heap.size, 3, none⟩ = some (.slice a es.length c) ∧ w.heap.size < W.heap.size ∧ Below wq.heap.size wq W)
        (first | (exact HKEEP.out _ (by assumption)) | (exact HKEEP.out _ (jAlloc (by assumption))) | (exact HKEEP.out _ (jSet4 (by assumption) (by omega))))
        (first
          | (go_at_call 33; go_split_ands; refine (HC1.out _ (by first | assumption | exact jAlloc (by assumption))).mono ?_; rintro e w' ⟨a1, c1, rfl, hs1, hB, hBw⟩; have hzs := hB.size; (try have hz := ZB.call (ZB.newD _) hBw))
          | (go_at_call 32; go_split_ands; refine (HC2.out _ _ _ (by first | assumption | exact CanJ.alloc (by assumption)) (by first | assumption | exact jAlloc (by assumption))).mono ?_; rintro e w' ⟨q1, q2, q3, q4, rfl, hB, hBw⟩; (try (have hz := ZB.call (ZB.new _) hBw; obtain ⟨z0, z1, z2, z3, z4, z5, z6, z7, z8⟩ := hz.cells)); (try (have hz2 := ZB.call hz hBw; obtain ⟨z0, z1, z2, z3, z4, z5, z6, z7, z8⟩ := hz2.cells))))
      all_goals go_split_ands
      all_goals go_wp2_with fail
      all_goals (refine (ALV.out _ (HB.out.trans (Below.mono (by assumption) HB.out.size))).mono ?_; rintro e w9 ⟨rfl, hBz⟩; go_wp2; go_ret; exact ⟨rfl, hBz⟩)
end Go.Proofs.YtfakdgljilmpkaaGreatDoor

/-
  Lemmas.
-/
import Derived.Test.YtbaccmlfnbgehaaGreatDoorGSimQ
import Derived.Test.YtbaccmlfnbgehaaGreatDoorGCanon
import Derived.Test.YtbaccmlfnbgehaaGreatDoorGRfCls17
import Derived.Test.YtbaccmlfnbgehaaGreatDoorGSimG
import Derived.Test.YtbaccmlfnbgehaaGreatDoorTold
import Derived.Test.YtbaccmlfnbgehaaGreatDoorBkQF
namespace Go.Proofs.YtbaccmlfnbgehaaGreatDoor
open Go.RowKit Pl
open Lib (hid)
def FaultSm (w : World) (p : Addr) (v : Value) : Prop := ∃ vi, FaultAt w v simName vi ∧ FaultAt w vi sysName (.iface 278 (.pointer (some p)))
theorem FaultSm.below {w w' : World} {p : Addr} {v : Value} (h : FaultSm w p v) (hB : Below w.heap.size w w') : FaultSm w' p v := by
  obtain ⟨vi, h1, h2⟩ := h
  exact ⟨vi, h1.below hB, h2.below hB⟩
theorem FaultSm.shape {w : World} {p : Addr} {v : Value} (h : FaultSm w p v) : ∃ fb, v = .iface 85 (.pointer (some ⟨fb, 0, none⟩)) := by
  obtain ⟨vi, h1, _⟩ := h
  obtain ⟨fb, rfl, _⟩ := h1.ex
  exact ⟨fb, rfl⟩
def FaultSt (w : World) (p : Addr) (v : Value) : Prop := FaultAt w v simName (.iface 278 (.pointer (some p)))
theorem FaultSt.below {w w' : World} {p : Addr} {v : Value} (h : FaultSt w p v) (hB : Below w.heap.size w w') : FaultSt w' p v := FaultAt.below (show FaultAt w v simName _ from h) hB
theorem FaultSt.shape {w : World} {p : Addr} {v : Value} (h : FaultSt w p v) : ∃ fb, v = .iface 85 (.pointer (some ⟨fb, 0, none⟩)) := by
  obtain ⟨fb, rfl, _⟩ := FaultAt.ex (show FaultAt w v simName _ from h)
  exact ⟨fb, rfl⟩
set_option maxRecDepth 100000 in
set_option maxHeartbeats 1000000 in
theorem aboveNoF_any {p : Addr} {s : Lts} (h : ¬ s.Right) {a : Option Addr} {b off c : Nat} {w : World} (hG : GErr 15 p w) (hT : ErrType w) (hS : SlAt encE 3 w a b off s.es) :
    Calls Tryz.prog 35 #[.agg #[.int .i64 s.st, .int .i64 s.lb, .int .i64 s.s0, .slice a s.es.length c]] w fun e w' =>
      ∃ v, e = .returned (.tuple #[.slice none 0 0, v]) ∧ FaultSm w' p v ∧ Below w.heap.size w w' := by
  have hB0 := (Below.refl w.heap.size w).alloc (Nat.le_refl _) (Obj.cells #[.int .i64 s.st, .int .i64 s.lb, .int .i64 s.s0, .slice a s.es.length c] 24)
  have hN := new_no (c := c) h (hG.below hB0) (hS.below hB0 (Nat.le_refl _))
  have HN := hid hN; have HT := hid (hT.below hB0); have HB0 := hid hB0
  clear hN hT hB0 hS hG h
  go_enter Tryz.func35, Tryz.ntmps35
  go_wp2_with fail
  go_step3
  go_wp2_with fail
  refine HN.out.mono ?_
  rintro e w1 ⟨v, rfl, hF, hB1⟩
  have HF1 := hid hF
  obtain ⟨fb, rfl, hfb⟩ := hF.ex
  have HT1 := hid (HT.out.below hB1)
  have HA := hid (faultAs_any simName HT1.out hfb)
  have HB1 := hid (HB0.out.trans (hB1.mono (by simp)))
  clear hB1 hfb hF
  go_wp2_with fail
  refine HA.out.mono ?_
  rintro e w2 ⟨v, rfl, hF2, hB2⟩
  have HB2 := hid (HB1.out.trans (hB2.mono HB1.out.size))
  have HFS : Hid (FaultSm w2 p v) := hid ⟨_, hF2, HF1.out.below hB2⟩
  obtain ⟨fc, rfl, _⟩ := hF2.ex
  clear hF2 hB2
  go_wp2_with fail
  rw [Exit.noGoto_ret]
  go_ret2
  exact ⟨_, rfl, HFS.out, HB2.out⟩
set_option maxRecDepth 100000 in
set_option maxHeartbeats 1000000 in
theorem aboveBig_any {p p2 : Addr} {s : Lts} (hr : s.Right) (h300 : 300 < s.st) {a : Option Addr} {b off c : Nat} {w : World} (hG : GErr 15 p w) (hL : GErr 2 p2 w) (hS : SlAt encE 3 w a b off s.es) :
    Calls Tryz.prog 35 #[.agg #[.int .i64 s.st, .int .i64 s.lb, .int .i64 s.s0, .slice a s.es.length c]] w fun e w' =>
      ∃ v, e = .returned (.tuple #[.slice none 0 0, v]) ∧ FaultSt w' p2 v ∧ Below w.heap.size w w' := by
  have hB0 := (Below.refl w.heap.size w).alloc (Nat.le_refl _) (Obj.cells #[.int .i64 s.st, .int .i64 s.lb, .int .i64 s.s0, .slice a s.es.length c] 24)
  have hbx := heap_alloc_new w (Obj.cells #[.int .i64 s.st, .int .i64 s.lb, .int .i64 s.s0, .slice a s.es.length c] 24)
  have HN := hid (new_ok (c := c) hr (hG.below hB0) (hS.below hB0 (Nat.le_refl _)))
  obtain ⟨el, hel⟩ : ∃ el, el = s.es.length := ⟨_, rfl⟩
  rw [← hel] at HN hB0 hbx ⊢
  have HL := hid hL; have HB0 := hid hB0; have HBX := hid hbx
  have hg1 : decide (300 < s.st) = true := by simp [h300]
  clear hB0 hS hG hr hL hbx hel
  go_enter Tryz.func35, Tryz.ntmps35
  go_wp2_with fail
  go_step3
  go_wp2_with fail
  refine HN.out.mono ?_
  rintro e w1 ⟨gb, rfl, hgr, hB1, _⟩
  have hb1 := HB0.out.trans (hB1.mono (by simp))
  obtain ⟨x0, x1, x2, x3, x4⟩ := sysC ((hB1.block w.heap.size (by simp)).trans HBX.out)
  have l0 := (HL.out.below hb1).cell; have ll := (HL.out.below hb1).lt
  have hfn := faultNew_any simName 278 (.pointer (some p2))
  unfold simName at hfn
  have HB1 := hid hb1
  clear hgr hB1 hb1 HN HB0 HBX
  go_wp2_with fail
  refine (hfn _).mono ?_
  rintro e w3 ⟨rfl, rfl⟩
  have hF : FaultSt (w1.alloc (.cells #[.string simName, .int .i64 0, .int .i64 0, .iface 278 (.pointer (some p2))] 88)) p2 (.iface 85 (.pointer (some ⟨w1.heap.size, 0, none⟩))) := ⟨_, rfl, heap_alloc_new w1 _⟩
  unfold simName at hF
  have hB := HB1.out.alloc HB1.out.size (.cells #[.string simName, .int .i64 0, .int .i64 0, .iface 278 (.pointer (some p2))] 88)
  unfold simName at hB
  have HF := hid hF; have HB := hid hB
  clear hF hB hfn
  go_wp2_with fail
  rw [Exit.noGoto_ret]
  go_ret2
  exact ⟨_, rfl, HF.out, HB.out⟩
section
variable {Q : World → Value → Prop} (hQs : ∀ w v, Q w v → ∃ fb, v = .iface 85 (.pointer (some ⟨fb, 0, none⟩))) {w : World} {st lb s0 : Int} {a : Option Addr} {n c : Nat}
  (hM : ∀ V, Below w.heap.size w V → Calls Tryz.prog 35 #[.agg #[.int .i64 st, .int .i64 lb, .int .i64 s0, .slice a n c]] V fun e w' => ∃ v, e = .returned (.tuple #[.slice none 0 0, v]) ∧ Q w' v ∧ Below V.heap.size V w')
include hQs hM
set_option maxRecDepth 100000 in
theorem aboveLF_any : Calls Tryz.prog 10 #[.agg #[.int .i64 st, .int .i64 lb, .int .i64 s0, .slice a n c]] w fun e w' => ∃ v, e = .returned (.tuple #[.slice none 0 0, v]) ∧ Q w' v ∧ Below w.heap.size w w' := by
  have hB0 := (Below.refl w.heap.size w).alloc (Nat.le_refl _) (Obj.cells #[.int .i64 st, .int .i64 lb, .int .i64 s0, .slice a n c] 24)
  have HM := hid (hM _ hB0); have HB0 := hid hB0; have HQ := hid hQs
  clear hM hB0 hQs
  go_enter Tryz.func10, Tryz.ntmps10
  go_wp2_with fail
  refine HM.out.mono ?_
  rintro e w1 ⟨v, rfl, hF, hB1⟩
  obtain ⟨fb, rfl⟩ := HQ.out _ _ hF
  have HF := hid hF; have HB1 := hid (HB0.out.trans (hB1.mono (by simp)))
  clear hF hB1 HM HB0 HQ
  go_wp2_with fail
  go_ret2
  exact ⟨_, rfl, HF.out, HB1.out⟩
set_option maxRecDepth 100000 in
theorem simClassesF_any : Calls Tryz.prog 11 #[.agg #[.int .i64 st, .int .i64 lb, .int .i64 s0, .slice a n c]] w fun e w' => ∃ v, e = .returned (.tuple #[.slice none 0 0, v]) ∧ Q w' v ∧ Below w.heap.size w w' := by
  have hB0 := (Below.refl w.heap.size w).alloc (Nat.le_refl _) (Obj.cells #[.int .i64 st, .int .i64 lb, .int .i64 s0, .slice a n c] 24)
  have HM := hid (hM _ hB0); have HB0 := hid hB0; have HQ := hid hQs
  clear hM hB0 hQs
  go_enter Tryz.func11, Tryz.ntmps11
  go_wp2_with fail
  refine HM.out.mono ?_
  rintro e w1 ⟨v, rfl, hF, hB1⟩
  obtain ⟨fb, rfl⟩ := HQ.out _ _ hF
  have HF := hid hF; have HB1 := hid (HB0.out.trans (hB1.mono (by simp)))
  clear hF hB1 HM HB0 HQ
  go_wp2_with fail
  go_ret2
  exact ⟨_, rfl, HF.out, HB1.out⟩
set_option maxRecDepth 100000 in
theorem belowF_any (p q : Int) : Calls Tryz.prog 19 #[.agg #[.int .i64 st, .int .i64 lb, .int .i64 s0, .slice a n c], .int .i64 p, .int .i64 q] w fun e w' => ∃ v, e = .returned (.tuple #[.bool false, v]) ∧ Q w' v ∧ Below w.heap.size w w' := by
  have hB0 := (Below.refl w.heap.size w).alloc (Nat.le_refl _) (Obj.cells #[.int .i64 st, .int .i64 lb, .int .i64 s0, .slice a n c] 24)
  have HM := hid (hM _ hB0); have HB0 := hid hB0; have HQ := hid hQs
  clear hM hB0 hQs
  go_enter Tryz.func19, Tryz.ntmps19
  go_wp2_with fail
  refine HM.out.mono ?_
  rintro e w1 ⟨v, rfl, hF, hB1⟩
  obtain ⟨fb, rfl⟩ := HQ.out _ _ hF
  have HF := hid hF; have HB1 := hid (HB0.out.trans (hB1.mono (by simp)))
  clear hF hB1 HM HB0 HQ
  go_wp2_with fail
  go_ret2
  exact ⟨_, rfl, HF.out, HB1.out⟩
end
set_option maxRecDepth 100000 in
set_option maxHeartbeats 4000000 in
theorem belowIx_any {p0 p3 : Addr} {n : Nat} {lb s0 : Int} {es : List E} (h : Lts.Right ⟨n, lb, s0, es⟩) (hn3 : n ≤ 300) {a : Option Addr} {b off c : Nat} {w : World} (hG : GErr 15 p0 w) (hI : GErr 0 p3 w) (hT : Tab w) (hS : SlAt encE 3 w a b off es) {p q : Int} (hpq : ¬ (0 ≤ p ∧ p < n ∧ 0 ≤ q ∧ q < n)) :
    Calls Tryz.prog 19 #[.agg #[.int .i64 n, .int .i64 lb, .int .i64 s0, .slice a es.length c], .int .i64 p, .int .i64 q] w fun e w' =>
      ∃ v, e = .returned (.tuple #[.bool false, v]) ∧ FaultSt w' p3 v ∧ Below w.heap.size w w' := by
  have hB0 := (Below.refl w.heap.size w).alloc (Nat.le_refl _) (Obj.cells #[.int .i64 n, .int .i64 lb, .int .i64 s0, .slice a es.length c] 24)
  have hbx := heap_alloc_new w (Obj.cells #[.int .i64 n, .int .i64 lb, .int .i64 s0, .slice a es.length c] 24)
  have HA := hid (above_any (c := c) h hn3 (hG.below hB0) (hT.below hB0) (hS.below hB0 (Nat.le_refl _)))
  have HB0 := hid hB0; have HBX := hid hbx; have HI := hid hI
  clear hB0 hbx hS hG hT h hI
  have hfn := faultNew_any simName 278 (.pointer (some p3))
  unfold simName at hfn
  go_enter Tryz.func19, Tryz.ntmps19
  go_wp2_with fail
  refine HA.out.mono ?_
  rintro e w1 ⟨ob, R, rfl, hR, hblk, hob, hgt, hB1⟩
  obtain ⟨x0, x1, x2, x3, xl⟩ := sysC ((hB1.block w.heap.size (by simp)).trans HBX.out)
  have hb1 := HB0.out.trans (hB1.mono (by simp))
  have HB1 := hid hb1
  have l0 := (HI.out.below hb1).cell; have ll := (HI.out.below hb1).lt
  have hF : FaultSt (w1.alloc (.cells #[.string simName, .int .i64 0, .int .i64 0, .iface 278 (.pointer (some p3))] 88)) p3 (.iface 85 (.pointer (some ⟨w1.heap.size, 0, none⟩))) := ⟨_, rfl, heap_alloc_new w1 _⟩
  unfold simName at hF
  have hB := HB1.out.alloc HB1.out.size (.cells #[.string simName, .int .i64 0, .int .i64 0, .iface 278 (.pointer (some p3))] 88)
  unfold simName at hB
  have HF := hid hF; have HB := hid hB
  clear hB1 hR hgt hblk hb1 hF hB HA HBX HB0 hob x1 x2 x3
  by_cases h1 : p < 0
  · have d1 : decide (p < 0) = true := by simp [h1]
    go_wp2_with fail
    refine (hfn _).mono ?_
    rintro e w3 ⟨rfl, rfl⟩
    go_wp2_with fail
    go_ret2
    exact ⟨_, rfl, HF.out, HB.out⟩
  have d1 : decide (p < 0) = false := by simpa using h1
  by_cases h2 : (n : Int) ≤ p
  · have d2 : decide ((n : Int) ≤ p) = true := by simp [h2]
    go_wp2_with fail
    refine (hfn _).mono ?_
    rintro e w3 ⟨rfl, rfl⟩
    go_wp2_with fail
    go_ret2
    exact ⟨_, rfl, HF.out, HB.out⟩
  have d2 : decide ((n : Int) ≤ p) = false := by simpa using h2
  by_cases h3 : q < 0
  · have d3 : decide (q < 0) = true := by simp [h3]
    go_wp2_with fail
    refine (hfn _).mono ?_
    rintro e w3 ⟨rfl, rfl⟩
    go_wp2_with fail
    go_ret2
    exact ⟨_, rfl, HF.out, HB.out⟩
  have d3 : decide (q < 0) = false := by simpa using h3
  have h4 : (n : Int) ≤ q := by omega
  have d4 : decide ((n : Int) ≤ q) = true := by simp [h4]
  go_wp2_with fail
  refine (hfn _).mono ?_
  rintro e w3 ⟨rfl, rfl⟩
  go_wp2_with fail
  go_ret2
  exact ⟨_, rfl, HF.out, HB.out⟩
end Go.Proofs.YtbaccmlfnbgehaaGreatDoor
namespace Go.Proofs.YtbaccmlfnbgehaaGreatDoor
open Go.RowKit Pl
theorem idsN_congrU {f g : Nat → Bool} {n : Nat} (h : ∀ q, q < n → f q = g q) : idsN f n = idsN g n := by
  unfold idsN
  exact List.filter_congr (fun q hq => h q (List.mem_range.1 hq))
def D17 (R : Nat → Nat → Bool) (n : Nat) : List Int := canon (fl n (fun p => (clsN R p : Int)))
theorem D17_len (R : Nat → Nat → Bool) (n : Nat) : (D17 R n).length = n := by unfold D17; rw [canon_len, fl_len]
theorem clsN_uniq {s : Lts} {n : Nat} {R R' : Nat → Nat → Bool} (h : Great s n R) (h' : Great s n R') (hn3 : n ≤ 300) {p : Nat} (hp : p < n) : clsN R p = clsN R' p := by
  have e : idsN (R p) 320 = idsN (R' p) 320 := by
    rw [idsN_rng (n := n) (fun i hi => h.left.rng p i hp hi) (by omega), idsN_rng (n := n) (fun i hi => h'.left.rng p i hp hi) (by omega)]
    exact idsN_congrU (fun q _ => h.uniq h' hp)
  unfold clsN
  rw [e]
  congr 1
  have : ∀ l : List Nat, (∀ q ∈ l, q < n) → l.find? (fun q => R q p) = l.find? (fun q => R' q p) := by
    intro l
    induction l with
    | nil => intro _; rfl
    | cons x l ih =>
      intro hl
      rw [List.find?_cons, List.find?_cons, h.uniq h' (hl x (by simp)), ih (fun q hq => hl q (by simp [hq]))]
  refine this _ (fun q hq => ?_)
  unfold idsN at hq
  exact h'.left.rng p q hp (List.mem_filter.1 hq).2
theorem D17_uniq {s : Lts} {n : Nat} {R R' : Nat → Nat → Bool} (h : Great s n R) (h' : Great s n R') (hn3 : n ≤ 300) : D17 R n = D17 R' n := by
  unfold D17
  have : fl n (fun p => (clsN R p : Int)) = fl n (fun p => (clsN R' p : Int)) := by
    unfold fl
    exact List.map_congr_left (fun p hp => by rw [clsN_uniq h h' hn3 (List.mem_range.1 hp)])
  rw [this]
def KeptF (w w' : World) : Prop := ∀ k cs, isF w k cs → w'.heap[k]? = some (.cells cs 88 (0, 0))
theorem FaultAt.kept {w w' : World} {v vi : Value} {l : ByteArray} (h : FaultAt w v l vi) (hk : KeptF w w') : FaultAt w' v l vi := by
  obtain ⟨fb, rfl, hf⟩ := h.ex
  exact ⟨fb, rfl, hk fb _ ⟨hf, rfl⟩⟩
theorem FaultSt.kept {w w' : World} {p : Addr} {v : Value} (h : FaultSt w p v) (hk : KeptF w w') : FaultSt w' p v := FaultAt.kept (show FaultAt w v simName _ from h) hk
theorem FaultSm.kept {w w' : World} {p : Addr} {v : Value} (h : FaultSm w p v) (hk : KeptF w w') : FaultSm w' p v := by
  obtain ⟨vi, h1, h2⟩ := h
  exact ⟨vi, h1.kept hk, h2.kept hk⟩
def UpR (n : Nat) (R : Nat → Nat → Bool) (w : World) (e : Ending) (w' : World) : Prop :=
  ∃ (oa : Option Addr) (oc : Nat) (vf : Nat → Value), e = .returned (.tuple #[.slice oa n oc, .nilIface]) ∧ Rws w w' (wRowsI n vf (fun j => intsOf (idsN (R j) n)) ++ [wOuterV oa oc n vf])
def ClR (n : Nat) (R : Nat → Nat → Bool) (w : World) (e : Ending) (w' : World) : Prop :=
  ∃ v : Value, e = .returned (.tuple #[v, .nilIface]) ∧ w'.ownsRow w.heap.size 3 1 v n ((D17 R n).flatMap encI) ∧ Below w.heap.size w w'
def RClR (n : Nat) (R : Nat → Nat → Bool) (w : World) (e : Ending) (w' : World) : Prop :=
  ∃ v : Value, e = .returned v ∧ w'.ownsRow w.heap.size 3 1 v n ((D17 R n).flatMap encI) ∧ Below w.heap.size w w'
theorem simst_yes {w : World} {p0 p3 : Addr} (hG : GErr 15 p0 w) (hE3 : ErrsK 3 p3 w) (hTab : Tab w) {s : Lts} {n : Nat} (hr : s.Right) (hn : s.st = (n : Int)) (hn3 : n ≤ 300) {a : Option Addr} {b off c : Nat} (hS : SlAt encE 3 w a b off s.es) (hc : s.es.length ≤ c) (hcm : c ≤ maxLen) {R : Nat → Nat → Bool} (hgt : Great s.norm n R) :
    (∀ V la lb lc, Below w.heap.size w V → SlAt encE 3 V la lb 0 s.es → Calls Tryz.prog 10 #[.agg #[.int .i64 s.st, .int .i64 s.lb, .int .i64 s.s0, .slice la s.es.length lc]] V (UpR n R V)) ∧
    (∀ V la lb lc, Below w.heap.size w V → SlAt encE 3 V la lb 0 s.es → Calls Tryz.prog 11 #[.agg #[.int .i64 s.st, .int .i64 s.lb, .int .i64 s.s0, .slice la s.es.length lc]] V (ClR n R V)) ∧
    (∀ V, Below w.heap.size w V → Calls Tryz.prog 16 #[.agg #[.int .i64 s.st, .int .i64 s.lb, .int .i64 s.s0, .slice a s.es.length c]] V (RClR n R V)) ∧
    (∀ V, Below w.heap.size w V → ∀ p q : Nat, p < n → q < n → Calls Tryz.prog 19 #[.agg #[.int .i64 s.st, .int .i64 s.lb, .int .i64 s.s0, .slice a s.es.length c], .int .i64 p, .int .i64 q] V fun e w' => e = .returned (.tuple #[.bool (R p q), .nilIface]) ∧ Below V.heap.size V w') ∧
    (∀ V, Below w.heap.size w V → ∀ p q : Int, ¬ (0 ≤ p ∧ p < n ∧ 0 ≤ q ∧ q < n) → Calls Tryz.prog 19 #[.agg #[.int .i64 s.st, .int .i64 s.lb, .int .i64 s.s0, .slice a s.es.length c], .int .i64 p, .int .i64 q] V fun e w' => ∃ v, e = .returned (.tuple #[.bool false, v]) ∧ FaultSt w' p3 v ∧ Below V.heap.size V w') := by
  refine ⟨fun V la lb lc hV hSV => ?_, fun V la lb lc hV hSV => ?_, fun V hV => ?_, fun V hV p q hp hq => ?_, fun V hV p q hpq => ?_⟩
  · have hr2 : Lts.Right ⟨(n : Int), s.lb, s.s0, s.es⟩ := by rw [← hn]; exact hr
    have h := aboveLA_any (c := lc) hr2 hn3 (hG.below hV) (hTab.below hV) hSV
    rw [hn]
    rw [show s.norm = ⟨(n : Int), s.lb, s.s0, nf ltE s.es⟩ by rw [← hn]; rfl] at hgt
    refine h.mono ?_
    intro e w' h
    obtain ⟨F, oa, oc, vf, he, hF, hN⟩ := upA_rws hn3 h
    refine ⟨oa, oc, vf, he, ?_⟩
    have e2 : wRowsI n vf (fun j => intsOf (idsN (F j) n)) = wRowsI n vf (fun j => intsOf (idsN (R j) n)) := by
      unfold wRowsI
      refine List.map_congr_left (fun j hj => ?_)
      have e3 : idsN (F j) n = idsN (R j) n := idsN_congrU (fun q _ => hF.uniq hgt (List.mem_range.1 hj))
      simp only [e3]
    rw [← e2]; exact hN
  · have hr2 : Lts.Right ⟨(n : Int), s.lb, s.s0, s.es⟩ := by rw [← hn]; exact hr
    have h := simClasses_any (c := lc) hr2 hn3 (hG.below hV) (hTab.below hV) hSV
    rw [hn]
    rw [show s.norm = ⟨(n : Int), s.lb, s.s0, nf ltE s.es⟩ by rw [← hn]; rfl] at hgt
    refine h.mono ?_
    rintro e w' ⟨F, v, rfl, hF, ho, hB⟩
    refine ⟨v, rfl, ?_, hB⟩
    rw [← D17_uniq hF hgt hn3]; exact ho
  · refine (classes17r_any hr hn hn3 (hS.below hV (Nat.le_refl _)) hc hcm).mono ?_
    rintro e w' ⟨F, v, rfl, hF, ho, hB⟩
    refine ⟨v, rfl, ?_, hB⟩
    rw [← D17_uniq hF hgt hn3]; exact ho
  · have hr2 : Lts.Right ⟨(n : Int), s.lb, s.s0, s.es⟩ := by rw [← hn]; exact hr
    have h := below_any (c := c) hr2 hn3 (hG.below hV) (hTab.below hV) (hS.below hV (Nat.le_refl _)) hp hq
    rw [hn]
    rw [show s.norm = ⟨(n : Int), s.lb, s.s0, nf ltE s.es⟩ by rw [← hn]; rfl] at hgt
    refine h.mono ?_
    rintro e w' ⟨F, rfl, hF, hB⟩
    rw [hF.uniq hgt hp]
    exact ⟨rfl, hB⟩
  · have hr2 : Lts.Right ⟨(n : Int), s.lb, s.s0, s.es⟩ := by rw [← hn]; exact hr
    have h := belowIx_any (c := c) hr2 hn3 (hG.below hV) (hE3.sys.below hV) (hTab.below hV) (hS.below hV (Nat.le_refl _)) hpq
    rw [hn]
    exact h
theorem simst_no {w : World} {p p2 : Addr} (hE : ErrsK 14 p w) (hE2 : ErrsK 2 p2 w) (hT : ErrType w) {s : Lts} (hbad : ¬ (s.Right ∧ s.st ≤ 300)) {a : Option Addr} {b off c : Nat} (hS : SlAt encE 3 w a b off s.es) :
    ∃ (k : Int) (x : ByteArray) (Q : World → Value → Prop), k ≠ 0 ∧ (∀ w w' v, Q w v → Below w.heap.size w w' → Q w' v) ∧ (∀ w w' v, Q w v → KeptF w w' → Q w' v) ∧
      (∀ V la lb lc, Below w.heap.size w V → SlAt encE 3 V la lb 0 s.es → Calls Tryz.prog 10 #[.agg #[.int .i64 s.st, .int .i64 s.lb, .int .i64 s.s0, .slice la s.es.length lc]] V fun e w' => ∃ v, e = .returned (.tuple #[.slice none 0 0, v]) ∧ Q w' v ∧ Below V.heap.size V w') ∧
      (∀ V la lb lc, Below w.heap.size w V → SlAt encE 3 V la lb 0 s.es → Calls Tryz.prog 11 #[.agg #[.int .i64 s.st, .int .i64 s.lb, .int .i64 s.s0, .slice la s.es.length lc]] V fun e w' => ∃ v, e = .returned (.tuple #[.slice none 0 0, v]) ∧ Q w' v ∧ Below V.heap.size V w') ∧
      (∀ V, Below w.heap.size w V → ∀ p q : Int, Calls Tryz.prog 19 #[.agg #[.int .i64 s.st, .int .i64 s.lb, .int .i64 s.s0, .slice a s.es.length c], .int .i64 p, .int .i64 q] V fun e w' => ∃ v, e = .returned (.tuple #[.bool false, v]) ∧ Q w' v ∧ Below V.heap.size V w') ∧
      (∀ V, Below w.heap.size w V → Calls Tryz.prog 8 #[.agg #[.int .i64 s.st, .int .i64 s.lb, .int .i64 s.s0, .slice a s.es.length c]] V fun e w' => e = .returned (.agg #[.int .i64 k, .int .i64 0, .int .i64 0, .string x]) ∧ Below V.heap.size V w') ∧
      (∀ V v, Below w.heap.size w V → Q V v → Calls Tryz.prog 12 #[v, .agg #[.int .i64 k, .int .i64 0, .int .i64 0, .string x]] V fun e w' => e = .returned (.bool true) ∧ Below V.heap.size V w') := by
  by_cases hr : s.Right
  · have h3 : 300 < s.st := by
      rcases Int.lt_or_le 300 s.st with h | h
      · exact h
      · exact absurd ⟨hr, h⟩ hbad
    have hM : ∀ V la lb lc, Below w.heap.size w V → SlAt encE 3 V la lb 0 s.es → ∀ U, Below V.heap.size V U → _ := fun V la lb lc (hV : Below w.heap.size w V) (hSV : SlAt encE 3 V la lb 0 s.es) U (hU : Below V.heap.size V U) =>
      aboveBig_any (c := lc) hr h3 ((hE.sys.below hV).below hU) ((hE2.sys.below hV).below hU) (hSV.below hU (Nat.le_refl _))
    have hM2 : ∀ V, Below w.heap.size w V → ∀ U, Below V.heap.size V U → _ := fun V (hV : Below w.heap.size w V) U (hU : Below V.heap.size V U) =>
      aboveBig_any (c := c) hr h3 ((hE.sys.below hV).below hU) ((hE2.sys.below hV).below hU) ((hS.below hV (Nat.le_refl _)).below hU (Nat.le_refl _))
    refine ⟨2, _, fun w v => FaultSt w p2 v, by decide, fun _ _ _ h hB => h.below hB, fun _ _ _ h hk => h.kept hk, fun V la lb lc hV hSV => aboveLF_any (fun _ _ h => FaultSt.shape h) (hM V la lb lc hV hSV), fun V la lb lc hV hSV => simClassesF_any (fun _ _ h => FaultSt.shape h) (hM V la lb lc hV hSV), fun V hV p q => belowF_any (fun _ _ h => FaultSt.shape h) (hM2 V hV) p q, fun V hV => ?_, fun V v hV h => told_one (k := 2) (by unfold CodeIn; omega) (hE2.below hV) h (by decide)⟩
    have h := refGuard17_yes (c := c) hr (hS.below hV (Nat.le_refl _))
    rw [if_pos h3] at h
    exact h
  · have hM : ∀ V la lb lc, Below w.heap.size w V → SlAt encE 3 V la lb 0 s.es → ∀ U, Below V.heap.size V U → _ := fun V la lb lc (hV : Below w.heap.size w V) (hSV : SlAt encE 3 V la lb 0 s.es) U (hU : Below V.heap.size V U) =>
      aboveNoF_any (c := lc) hr ((hE.sys.below hV).below hU) ((hT.below hV).below hU) (hSV.below hU (Nat.le_refl _))
    have hM2 : ∀ V, Below w.heap.size w V → ∀ U, Below V.heap.size V U → _ := fun V (hV : Below w.heap.size w V) U (hU : Below V.heap.size V U) =>
      aboveNoF_any (c := c) hr ((hE.sys.below hV).below hU) ((hT.below hV).below hU) ((hS.below hV (Nat.le_refl _)).below hU (Nat.le_refl _))
    refine ⟨14, _, fun w v => FaultSm w p v, by decide, fun _ _ _ h hB => h.below hB, fun _ _ _ h hk => h.kept hk, fun V la lb lc hV hSV => aboveLF_any (fun _ _ h => FaultSm.shape h) (hM V la lb lc hV hSV), fun V la lb lc hV hSV => simClassesF_any (fun _ _ h => FaultSm.shape h) (hM V la lb lc hV hSV), fun V hV p q => belowF_any (fun _ _ h => FaultSm.shape h) (hM2 V hV) p q, fun V hV => refGuard17_no (c := c) hr (hS.below hV (Nat.le_refl _)), fun V v hV h => ?_⟩
    obtain ⟨vi, h1, h2⟩ := h
    exact told_two (k := 14) (by unfold CodeIn; omega) (hE.below hV) h1 h2 (by decide) (by decide)
end Go.Proofs.YtbaccmlfnbgehaaGreatDoor

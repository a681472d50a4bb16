/-
  Lemmas.
-/
import Derived.Test.YtdhloijdefnkpaaGreatDoorWkN
import Derived.Test.YtdhloijdefnkpaaGreatDoorGWkC
import Derived.Test.YtdhloijdefnkpaaGreatDoorGTauG
import Derived.Test.YtdhloijdefnkpaaGreatDoorGJoinP
import Derived.Test.YtdhloijdefnkpaaGreatDoorGWitW
import Derived.Test.YtdhloijdefnkpaaGreatDoorGStrK
import Derived.Test.YtdhloijdefnkpaaGreatDoorGBrV
import Derived.Test.YtdhloijdefnkpaaGreatDoorWitH
namespace Go.Proofs.YtdhloijdefnkpaaGreatDoor
open Go.RowKit Pl
open Lib (hid)
theorem canon_zeroW (n : Nat) : canon (fl n (fun _ => 0)) = fl n (fun _ => 0) := by
  by_cases h : n = 0
  · subst h; rfl
  · exact canon_zeroB n
structure WkRes (s : Lts) (n lb : Nat) (C : Nat → Int) : Prop where
  big : ∀ K, KOk s n lb K → Big (satS s n lb K) n C
  can : canon (fl n C) = fl n C
  rng : ∀ p, p < n → 0 ≤ C p ∧ C p < (n : Int)
theorem can_rng {n : Nat} {C : Nat → Int} (h : canon (fl n C) = fl n C) {p : Nat} (hp : p < n) : 0 ≤ C p ∧ C p < (n : Int) := by
  have h1 := clf_rng (f := C) hp
  have h2 : clf n C p = C p := fl_inj (by rw [← canon_fl, h]) hp
  have h3 := dist_le n C
  rw [h2] at h1
  omega
set_option maxRecDepth 100000 in
set_option maxHeartbeats 8000000 in
theorem weakClasses_any {p : Addr} {s : Lts} {n lb : Nat} (hr : s.Right) (hn : s.st = (n : Int)) (hlb : s.lb = (lb : Int)) (h300 : n ≤ 300) {a : Option Addr} {b off c : Nat} {w : World} (hG : WkErr p w) (hT : Tab w) (hS : SlAt encE 3 w a b off s.es) :
    Calls Tryz.prog 13 #[.agg #[.int .i64 s.st, .int .i64 s.lb, .int .i64 s.s0, .slice a s.es.length c]] w fun e w' => ∃ (cb : Nat) (C : Nat → Int), e = .returned (.tuple #[.slice (some ⟨cb, 0, none⟩) n n, .nilIface]) ∧ SlAt encI 1 w' (some ⟨cb, 0, none⟩) cb 0 (fl n C) ∧ WkRes s n lb C ∧ w.heap.size ≤ cb ∧ Below w.heap.size w w' := by
  have hmk := run_make_row' (P := Tryz.prog) 33 3 (.int .i64 0) 8 Tryz.underlying33 (by kernel_rfl) rfl .i64 .i64 n (by omega) (by omega)
  have hB0 := (Below.refl w.heap.size w).alloc (Nat.le_refl _) (Obj.cells #[.int .i64 s.st, .int .i64 s.lb, .int .i64 s.s0, .slice a s.es.length c] 24)
  have hbx := heap_alloc_new w (Obj.cells #[.int .i64 s.st, .int .i64 s.lb, .int .i64 s.s0, .slice a s.es.length c] 24)
  have HMD := hid (madeW_any (c := c) hr hn h300 (hG.below hB0) (hS.below hB0 (Nat.le_refl _)))
  obtain ⟨el, hel⟩ : ∃ el, el = s.es.length := ⟨_, rfl⟩
  rw [hn, ← hel] at HMD hB0 hbx ⊢
  have HB0 := hid hB0; have HBX := hid hbx; have HR := hid hr; have HN := hid hn; have HLB := hid hlb; have HT := hid hT
  clear hG hS hB0 hbx hr hn hlb hT hel
  go_enter Tryz.func13, Tryz.ntmps13
  go_wp2_with fail
  refine HMD.out.mono ?_
  rintro e w1 ⟨xb, gb, sb, F, rfl, hX, hxb, hB1⟩
  have hb1 := HB0.out.trans (hB1.mono (by simp))
  have hx := (hB1.block w.heap.size (by simp)).trans HBX.out
  have xl := (Array.getElem?_eq_some_iff.1 hx).1
  have x0 : w1.cell? ⟨w.heap.size, 0, none⟩ = some (.int .i64 n) := by simp [World.cell?, hx]
  have hrw := World.rowIs_made w1 (.int .i64 0) n 3
  have hq1 := (Below.refl w1.heap.size w1).alloc (Nat.le_refl _) (.cells (madeCells #[.int .i64 0] n) 3)
  have HX := hid hX; have HB1 := hid hb1; have HRW := hid hrw; have HQ1 := hid hq1
  clear hX hxb hB1 hb1 hx HMD HB0 HBX hrw hq1
  go_wp2_with fail
  clear x0 xl
  go_loopg [6, 7] (n + 1) (fun g v6 _ wr => ∃ (cb : Nat) (C : Nat → Int), n + 1 ≤ g + (dist (fl n C)).length ∧ v6 = .slice (some ⟨cb, 0, none⟩) n n ∧ wr.rowIs cb 3 n (fun i => .int .i64 (C i)) ∧ (∀ K, KOk s n lb K → HoldsS (satS s n lb K) n C) ∧ canon (fl n C) = fl n C ∧ w1.heap.size ≤ cb ∧ Below w1.heap.size w1 wr)
  case atStart => exact ⟨w1.heap.size, fun _ => 0, by omega, rfl, HRW.out, fun K _ => .zero, canon_zeroW n, Nat.le_refl _, HQ1.out⟩
  case round =>
    obtain ⟨cb, C, hgk, rfl, hrow, hro, hca, hcl, hB⟩ := hrel
    have HROW := hid hrow; have HRO := hid hro; have HCA := hid hca; have HB := hid hB
    have hws := hB.size
    have hcbl := hrow.lt
    have HNX := hid (next_any (cc := n) (HX.out.call hB) HLB.out (HT.out.below (HB1.out.trans (hB.mono HB1.out.size))) hca (rowIs_sl hrow))
    clear hrow hro hca hB HRW HQ1
    go_wp2_with fail
    refine HNX.out.mono ?_
    rintro e w2 ⟨nb, D, rfl, hnx, hns, hcd, hnb, hB2⟩
    have hsl := rowIs_sl hnx
    have hcs := (rowIs_sl HROW.out).below hB2 (Nat.le_refl _)
    have heq := slicesEqual_any (c1 := n) (c2 := n) hsl hcs (by rw [fl_len]; omega) (by rw [fl_len]; omega)
    rw [fl_len, fl_len] at heq
    have HEQ := hid heq; have HNX2 := hid hnx; have HCS := hid hcs; have HNS := hid hns; have HCD := hid hcd
    have HBZ := hid (HB.out.trans (hB2.mono hws))
    have hnbl : w1.heap.size ≤ nb := by omega
    clear hsl hcs heq hnx hns hcd hnb hB2 HNX
    by_cases he : fl n D = fl n C
    · have hde : decide (fl n D = fl n C) = true := by simp [he]
      rw [hde] at HEQ
      have HEE := hid he
      clear hde he
      go_wp2_with fail
      refine HEQ.out.mono ?_
      rintro e w7 ⟨rfl, q7, rfl⟩
      go_wp2_with fail
      go_ret2
      exact ⟨cb, C, rfl, HCS.out.below (bdrew (Below.refl _ _)) (Nat.le_refl _), ⟨fun K hK => (HRO.out K hK).done (HNS.out.sat HR.out HN.out HLB.out hK) (fun p hp => fl_inj HEE.out hp), HCA.out, fun p hp => can_rng HCA.out hp⟩, by have := HB1.out.size; omega, bdrew (HB1.out.trans (HBZ.out.mono HB1.out.size))⟩
    · have hde : decide (fl n D = fl n C) = false := by simp [he]
      rw [hde] at HEQ
      have hmore := next_moreS HNS.out HCA.out HCD.out he
      have hle := dist_le n D
      clear hde he
      go_wp2_with fail
      refine HEQ.out.mono ?_
      rintro e w7 ⟨rfl, q7, rfl⟩
      go_wp2_with fail
      go_roundg (gk - 1)
      case rel => exact ⟨nb, D, by omega, rfl, HNX2.out, fun K hK => (HRO.out K hK).next (HNS.out.sat HR.out HN.out HLB.out hK), HCD.out, hnbl, bdrew HBZ.out⟩
      case measure => omega
end Go.Proofs.YtdhloijdefnkpaaGreatDoor
namespace Go.Proofs.YtdhloijdefnkpaaGreatDoor
open Go.RowKit Pl
open Lib (hid)
theorem WalkE.told {s : Lts} {n : Nat} {C : List Int} {D : Nat → List S} {e : Ending} (h : WalkE s n C D e) : ∃ (a b c d : Int) (r : Bool), e = .returned (.tuple #[.agg #[.int .i64 a, .int .i64 b, .int .i64 c, .int .i64 d], .bool r, .nilIface]) ∧ (r = true ↔ PassD s n C D) := by
  rcases h with ⟨p, q, x, hp, hq, hpq, hf, _, rfl⟩ | ⟨h, rfl⟩
  · refine ⟨_, _, _, _, false, rfl, by simp, fun h2 => ?_⟩
    rw [h2 p q hp hq hpq] at hf; cases hf
  · exact ⟨_, _, _, _, true, rfl, fun _ => h, fun _ => rfl⟩
def ToldPost (k : Nat) (s : Lts) (n : Nat) (w : World) (e : Ending) (w' : World) : Prop :=
  ∃ (C : Nat → Int) (a : Option Addr) (b c : Nat), e = .returned (.tuple #[.slice a n c, .nilIface]) ∧ SlAt encI 1 w' a b 0 (fl n C) ∧ canon (fl n C) = fl n C ∧ KindBig k s n C ∧ Below w.heap.size w w'
def PassPost (k : Nat) (s : Lts) (C : List Int) (w : World) (e : Ending) (w' : World) : Prop :=
  ∃ r : Bool, e = .returned (.tuple #[.bool r, .nilIface]) ∧ (r = true ↔ PassD s.norm C.length C (DKind k s.norm C)) ∧ Below w.heap.size w w'
def PassErr (w : World) (e : Ending) (w' : World) : Prop := ∃ fb : Nat, e = .returned (.tuple #[.bool false, .iface 73 (.pointer (some ⟨fb, 0, none⟩))]) ∧ Below w.heap.size w w'
set_option maxRecDepth 100000 in
set_option maxHeartbeats 2000000 in
theorem told0_any {p : Addr} {s : Lts} {n lb : Nat} (h : s.Right) (hn : s.st = (n : Int)) (hlb : s.lb = (lb : Int)) (hel : s.es.length ≤ 900) (h300 : n ≤ 300) {a : Option Addr} {b off c : Nat} {w : World} (hG : WkErr p w) (hT : Tab w) (htab : Lib.TabIs Tryz.prog w "internal/strconv.uint64pow10" .u64 Lib.pow10Tab) (hS : SlAt encE 3 w a b off s.es) :
    Calls Tryz.prog 27 #[.agg #[.int .i64 s.st, .int .i64 s.lb, .int .i64 s.s0, .slice a s.es.length c], .int .i64 0] w (ToldPost 0 s n w) := by
  have hB0 := (Below.refl w.heap.size w).alloc (Nat.le_refl _) (Obj.cells #[.int .i64 s.st, .int .i64 s.lb, .int .i64 s.s0, .slice a s.es.length c] 24)
  have HC := hid (strClasses_any (c := c) h hn (hG.below hB0).sys (hS.below hB0 (Nat.le_refl _)))
  have HB0 := hid hB0; have HR := hid h; have HN := hid hn; have HLB := hid hlb
  clear hB0 hS hG hT htab h hn hlb hel h300
  unfold ToldPost
  go_enter Tryz.func27, Tryz.ntmps27
  go_wp2_with fail
  refine HC.out.mono ?_
  unfold StrClasses
  rintro e w1 ⟨inn, da, dc, hsb, rfl, hown, hB1⟩
  rw [canon9] at hown
  have hown2 : w1.ownsRow (w.heap.size + 1) 3 1 (.slice da n dc) (fl n (cl9 n inn)).length ((fl n (cl9 n inn)).flatMap encI) := by rw [fl_len]; simpa using hown
  obtain ⟨_, _, db, hv, hz1, hz2, hds, hz3⟩ := slAt_own lenI hown2
  clear hz1 hz2 hz3
  simp only [Value.slice.injEq] at hv
  obtain ⟨rfl, hv2, rfl⟩ := hv
  clear hv2
  have HRES : Hid (ToldPost 0 s n w (.returned (.tuple #[.slice da n dc, .nilIface])) w1) := hid ⟨cl9 n inn, da, db, dc, rfl, hds, by rw [← canon9, canon_canon], kind0 (cl9_big hsb), HB0.out.trans (hB1.mono (by simp))⟩
  clear hsb hown hown2 hds hB1
  go_wp2_with fail
  go_ret2
  exact HRES.out
set_option maxRecDepth 100000 in
set_option maxHeartbeats 2000000 in
theorem passesYes0_any {p : Addr} {s : Lts} {C : List Int} {a : Option Addr} {b off c : Nat} {ca : Option Addr} {cb co cc : Nat} {w : World} (h : s.Right) (h300 : s.st ≤ 300) (hc : clB s.st C = true) (hn : C.length ≤ 1000000) (hwf : ∀ x ∈ C, (Lit.int .i64 x).wf = true) (hG : WkErr p w) (hS : SlAt encE 3 w a b off s.es) (hCS : SlAt encI 1 w ca cb co C) :
    Calls Tryz.prog 28 #[.agg #[.int .i64 s.st, .int .i64 s.lb, .int .i64 s.s0, .slice a s.es.length c], .slice ca C.length cc, .int .i64 0] w (PassPost 0 s C w) := by
  have hB0 := (Below.refl w.heap.size w).alloc (Nat.le_refl _) (Obj.cells #[.int .i64 s.st, .int .i64 s.lb, .int .i64 s.s0, .slice a s.es.length c] 24)
  have HY := hid (strongYes_any (c := c) (cc := cc) h hc (hG.below hB0).sys (hS.below hB0 (Nat.le_refl _)) (hCS.below hB0 (Nat.le_refl _)) hn hwf)
  have HB0 := hid hB0
  clear hB0 hG hS hCS h h300 hc hn hwf
  unfold PassPost
  go_enter Tryz.func28, Tryz.ntmps28
  go_wp2_with fail
  refine HY.out.mono ?_
  rintro e w1 ⟨hW, hB1⟩
  obtain ⟨a0, a1, a2, a3, r, rfl, hr⟩ := hW.told
  have HR : Hid (r = true ↔ PassD s.norm C.length C (DKind 0 s.norm C)) := hid (by rw [dkind0]; exact hr)
  have hb1 := HB0.out.trans (hB1.mono (by simp))
  have HB1 := hid (hb1.alloc hb1.size (.cells #[.int .i64 a0, .int .i64 a1, .int .i64 a2, .int .i64 a3] 98))
  clear hW hr hB1 hb1
  go_wp2_with fail
  go_ret2
  exact ⟨r, rfl, HR.out, HB1.out⟩
set_option maxRecDepth 100000 in
set_option maxHeartbeats 2000000 in
theorem passesNo0_any {p : Addr} {s : Lts} {C : List Int} {a : Option Addr} {b off c : Nat} {ca : Option Addr} {cb co cc : Nat} {w : World} (h : ¬ s.Right) (hT : ErrType w) (hG : WkErr p w) (hS : SlAt encE 3 w a b off s.es) (hCS : SlAt encI 1 w ca cb co C) :
    Calls Tryz.prog 28 #[.agg #[.int .i64 s.st, .int .i64 s.lb, .int .i64 s.s0, .slice a s.es.length c], .slice ca C.length cc, .int .i64 0] w (PassErr w) := by
  have hB0 := (Below.refl w.heap.size w).alloc (Nat.le_refl _) (Obj.cells #[.int .i64 s.st, .int .i64 s.lb, .int .i64 s.s0, .slice a s.es.length c] 24)
  have HY := hid (strongNo_any (C := C) (ca := ca) (c := c) (cc := cc) h (hG.below hB0).sys (hT.below hB0) (hS.below hB0 (Nat.le_refl _)))
  have HB0 := hid hB0
  clear hB0 hG hS hCS h hT
  unfold PassErr
  go_enter Tryz.func28, Tryz.ntmps28
  go_wp2_with fail
  refine HY.out.mono ?_
  rintro e w1 ⟨v, rfl, hf, hB1⟩
  obtain ⟨v2, hf, _⟩ := hf
  obtain ⟨fb, rfl, _⟩ := hf.ex
  have hb1 := HB0.out.trans (hB1.mono (by simp))
  have HB1 := hid (hb1.alloc hb1.size (.cells #[.int .i64 0, .int .i64 0, .int .i64 0, .int .i64 0] 98))
  clear hf hB1 hb1
  go_wp2_with fail
  go_ret2
  exact ⟨fb, rfl, HB1.out⟩
set_option maxRecDepth 100000 in
set_option maxHeartbeats 2000000 in
theorem passesBad0_any {p pc : Addr} {s : Lts} {C : List Int} {a : Option Addr} {b off c : Nat} {ca : Option Addr} {cb co cc : Nat} {w : World} (h : s.Right) (hE : GErr 16 pc w) (hc : clB s.st C = false) (hn : C.length ≤ 1000000) (hwf : ∀ x ∈ C, (Lit.int .i64 x).wf = true) (hG : WkErr p w) (hS : SlAt encE 3 w a b off s.es) (hCS : SlAt encI 1 w ca cb co C) :
    Calls Tryz.prog 28 #[.agg #[.int .i64 s.st, .int .i64 s.lb, .int .i64 s.s0, .slice a s.es.length c], .slice ca C.length cc, .int .i64 0] w (PassErr w) := by
  have hB0 := (Below.refl w.heap.size w).alloc (Nat.le_refl _) (Obj.cells #[.int .i64 s.st, .int .i64 s.lb, .int .i64 s.s0, .slice a s.es.length c] 24)
  have HY := hid (strongBad_any (c := c) (cc := cc) h (hG.below hB0).sys (hE.below hB0) (hS.below hB0 (Nat.le_refl _)) (noCls_of hc (hCS.below hB0 (Nat.le_refl _)) hwf hn))
  have HB0 := hid hB0
  clear hB0 hG hS hCS h hE hc hn hwf
  unfold PassErr
  go_enter Tryz.func28, Tryz.ntmps28
  go_wp2_with fail
  refine HY.out.mono ?_
  rintro e w1 ⟨v, rfl, hf, hB1⟩
  obtain ⟨fb, rfl, _⟩ := hf.ex
  have hb1 := HB0.out.trans (hB1.mono (by simp))
  have HB1 := hid (hb1.alloc hb1.size (.cells #[.int .i64 0, .int .i64 0, .int .i64 0, .int .i64 0] 98))
  clear hf hB1 hb1
  go_wp2_with fail
  go_ret2
  exact ⟨fb, rfl, HB1.out⟩
set_option maxRecDepth 100000 in
set_option maxHeartbeats 2000000 in
theorem told1_any {p : Addr} {s : Lts} {n lb : Nat} (h : s.Right) (hn : s.st = (n : Int)) (hlb : s.lb = (lb : Int)) (hel : s.es.length ≤ 900) (h300 : n ≤ 300) {a : Option Addr} {b off c : Nat} {w : World} (hG : WkErr p w) (hT : Tab w) (htab : Lib.TabIs Tryz.prog w "internal/strconv.uint64pow10" .u64 Lib.pow10Tab) (hS : SlAt encE 3 w a b off s.es) :
    Calls Tryz.prog 27 #[.agg #[.int .i64 s.st, .int .i64 s.lb, .int .i64 s.s0, .slice a s.es.length c], .int .i64 1] w (ToldPost 1 s n w) := by
  have hB0 := (Below.refl w.heap.size w).alloc (Nat.le_refl _) (Obj.cells #[.int .i64 s.st, .int .i64 s.lb, .int .i64 s.s0, .slice a s.es.length c] 24)
  have HC := hid (brClasses_any (c := c) h hn hel (hG.below hB0).sys ((Lib.tabBelow_of_tabIs htab) _ hB0) (hS.below hB0 (Nat.le_refl _)))
  have HB0 := hid hB0; have HR := hid h; have HN := hid hn; have HLB := hid hlb
  clear hB0 hS hG hT htab h hn hlb hel h300
  unfold ToldPost
  go_enter Tryz.func27, Tryz.ntmps27
  go_wp2_with fail
  refine HC.out.mono ?_
  unfold BrPost
  rintro e w1 ⟨R, da, db, dc, hres, rfl, _, hds, hB1⟩
  obtain ⟨C, hbig, rfl, hcan, _⟩ := hres.big HR.out HN.out
  have HRES : Hid (ToldPost 1 s n w (.returned (.tuple #[.slice da n dc, .nilIface])) w1) := hid ⟨C, da, db, dc, rfl, hds, hcan, kind1 hbig, HB0.out.trans (hB1.mono (by simp))⟩
  clear hbig hcan hres hds hB1
  go_wp2_with fail
  go_ret2
  exact HRES.out
set_option maxRecDepth 100000 in
set_option maxHeartbeats 2000000 in
theorem passesYes1_any {p : Addr} {s : Lts} {C : List Int} {a : Option Addr} {b off c : Nat} {ca : Option Addr} {cb co cc : Nat} {w : World} (h : s.Right) (h300 : s.st ≤ 300) (hc : clB s.st C = true) (hn : C.length ≤ 1000000) (hwf : ∀ x ∈ C, (Lit.int .i64 x).wf = true) (hG : WkErr p w) (hS : SlAt encE 3 w a b off s.es) (hCS : SlAt encI 1 w ca cb co C) :
    Calls Tryz.prog 28 #[.agg #[.int .i64 s.st, .int .i64 s.lb, .int .i64 s.s0, .slice a s.es.length c], .slice ca C.length cc, .int .i64 1] w (PassPost 1 s C w) := by
  have hB0 := (Below.refl w.heap.size w).alloc (Nat.le_refl _) (Obj.cells #[.int .i64 s.st, .int .i64 s.lb, .int .i64 s.s0, .slice a s.es.length c] 24)
  have HY := hid (branchingYes_any (c := c) (cc := cc) h hc (hG.below hB0).sys (hS.below hB0 (Nat.le_refl _)) (hCS.below hB0 (Nat.le_refl _)) hn hwf)
  have HB0 := hid hB0
  clear hB0 hG hS hCS h h300 hc hn hwf
  unfold PassPost
  go_enter Tryz.func28, Tryz.ntmps28
  go_wp2_with fail
  refine HY.out.mono ?_
  rintro e w1 ⟨hW, hB1⟩
  obtain ⟨a0, a1, a2, a3, r, rfl, hr⟩ := hW.told
  have HR : Hid (r = true ↔ PassD s.norm C.length C (DKind 1 s.norm C)) := hid (by rw [dkind1]; exact hr)
  have hb1 := HB0.out.trans (hB1.mono (by simp))
  have HB1 := hid (hb1.alloc hb1.size (.cells #[.int .i64 a0, .int .i64 a1, .int .i64 a2, .int .i64 a3] 98))
  clear hW hr hB1 hb1
  go_wp2_with fail
  go_ret2
  exact ⟨r, rfl, HR.out, HB1.out⟩
set_option maxRecDepth 100000 in
set_option maxHeartbeats 2000000 in
theorem passesNo1_any {p : Addr} {s : Lts} {C : List Int} {a : Option Addr} {b off c : Nat} {ca : Option Addr} {cb co cc : Nat} {w : World} (h : ¬ s.Right) (hT : ErrType w) (hG : WkErr p w) (hS : SlAt encE 3 w a b off s.es) (hCS : SlAt encI 1 w ca cb co C) :
    Calls Tryz.prog 28 #[.agg #[.int .i64 s.st, .int .i64 s.lb, .int .i64 s.s0, .slice a s.es.length c], .slice ca C.length cc, .int .i64 1] w (PassErr w) := by
  have hB0 := (Below.refl w.heap.size w).alloc (Nat.le_refl _) (Obj.cells #[.int .i64 s.st, .int .i64 s.lb, .int .i64 s.s0, .slice a s.es.length c] 24)
  have HY := hid (branchingNo_any (C := C) (ca := ca) (c := c) (cc := cc) h (hG.below hB0).sys (hT.below hB0) (hS.below hB0 (Nat.le_refl _)))
  have HB0 := hid hB0
  clear hB0 hG hS hCS h hT
  unfold PassErr
  go_enter Tryz.func28, Tryz.ntmps28
  go_wp2_with fail
  refine HY.out.mono ?_
  rintro e w1 ⟨v, rfl, hf, hB1⟩
  obtain ⟨v2, hf, _⟩ := hf
  obtain ⟨fb, rfl, _⟩ := hf.ex
  have hb1 := HB0.out.trans (hB1.mono (by simp))
  have HB1 := hid (hb1.alloc hb1.size (.cells #[.int .i64 0, .int .i64 0, .int .i64 0, .int .i64 0] 98))
  clear hf hB1 hb1
  go_wp2_with fail
  go_ret2
  exact ⟨fb, rfl, HB1.out⟩
set_option maxRecDepth 100000 in
set_option maxHeartbeats 2000000 in
theorem passesBad1_any {p pc : Addr} {s : Lts} {C : List Int} {a : Option Addr} {b off c : Nat} {ca : Option Addr} {cb co cc : Nat} {w : World} (h : s.Right) (hE : GErr 16 pc w) (hc : clB s.st C = false) (hn : C.length ≤ 1000000) (hwf : ∀ x ∈ C, (Lit.int .i64 x).wf = true) (hG : WkErr p w) (hS : SlAt encE 3 w a b off s.es) (hCS : SlAt encI 1 w ca cb co C) :
    Calls Tryz.prog 28 #[.agg #[.int .i64 s.st, .int .i64 s.lb, .int .i64 s.s0, .slice a s.es.length c], .slice ca C.length cc, .int .i64 1] w (PassErr w) := by
  have hB0 := (Below.refl w.heap.size w).alloc (Nat.le_refl _) (Obj.cells #[.int .i64 s.st, .int .i64 s.lb, .int .i64 s.s0, .slice a s.es.length c] 24)
  have HY := hid (branchingBad_any (c := c) (cc := cc) h (hG.below hB0).sys (hE.below hB0) (hS.below hB0 (Nat.le_refl _)) (noCls_of hc (hCS.below hB0 (Nat.le_refl _)) hwf hn))
  have HB0 := hid hB0
  clear hB0 hG hS hCS h hE hc hn hwf
  unfold PassErr
  go_enter Tryz.func28, Tryz.ntmps28
  go_wp2_with fail
  refine HY.out.mono ?_
  rintro e w1 ⟨v, rfl, hf, hB1⟩
  obtain ⟨fb, rfl, _⟩ := hf.ex
  have hb1 := HB0.out.trans (hB1.mono (by simp))
  have HB1 := hid (hb1.alloc hb1.size (.cells #[.int .i64 0, .int .i64 0, .int .i64 0, .int .i64 0] 98))
  clear hf hB1 hb1
  go_wp2_with fail
  go_ret2
  exact ⟨fb, rfl, HB1.out⟩
set_option maxRecDepth 100000 in
set_option maxHeartbeats 2000000 in
theorem told2_any {p : Addr} {s : Lts} {n lb : Nat} (h : s.Right) (hn : s.st = (n : Int)) (hlb : s.lb = (lb : Int)) (hel : s.es.length ≤ 900) (h300 : n ≤ 300) {a : Option Addr} {b off c : Nat} {w : World} (hG : WkErr p w) (hT : Tab w) (htab : Lib.TabIs Tryz.prog w "internal/strconv.uint64pow10" .u64 Lib.pow10Tab) (hS : SlAt encE 3 w a b off s.es) :
    Calls Tryz.prog 27 #[.agg #[.int .i64 s.st, .int .i64 s.lb, .int .i64 s.s0, .slice a s.es.length c], .int .i64 2] w (ToldPost 2 s n w) := by
  have hB0 := (Below.refl w.heap.size w).alloc (Nat.le_refl _) (Obj.cells #[.int .i64 s.st, .int .i64 s.lb, .int .i64 s.s0, .slice a s.es.length c] 24)
  have HC := hid (weakClasses_any (c := c) h hn hlb h300 (hG.below hB0) (hT.below hB0) (hS.below hB0 (Nat.le_refl _)))
  have HB0 := hid hB0; have HR := hid h; have HN := hid hn; have HLB := hid hlb
  clear hB0 hS hG hT htab h hn hlb hel h300
  unfold ToldPost
  go_enter Tryz.func27, Tryz.ntmps27
  go_wp2_with fail
  refine HC.out.mono ?_
  rintro e w1 ⟨cb, C, rfl, hds, hres, _, hB1⟩
  have HRES : Hid (ToldPost 2 s n w (.returned (.tuple #[.slice (some ⟨cb, 0, none⟩) n n, .nilIface])) w1) := hid ⟨C, _, cb, n, rfl, hds, hres.can, kind2 (fun lb' K hl hK => by
    have := HLB.out.symm.trans hl
    obtain rfl : lb = lb' := by omega
    exact hres.big K hK), HB0.out.trans (hB1.mono (by simp))⟩
  clear hres hds hB1
  go_wp2_with fail
  go_ret2
  exact HRES.out
set_option maxRecDepth 100000 in
set_option maxHeartbeats 2000000 in
theorem passesYes2_any {p : Addr} {s : Lts} {C : List Int} {a : Option Addr} {b off c : Nat} {ca : Option Addr} {cb co cc : Nat} {w : World} (h : s.Right) (h300 : s.st ≤ 300) (hc : clB s.st C = true) (hn : C.length ≤ 1000000) (hwf : ∀ x ∈ C, (Lit.int .i64 x).wf = true) (hG : WkErr p w) (hS : SlAt encE 3 w a b off s.es) (hCS : SlAt encI 1 w ca cb co C) :
    Calls Tryz.prog 28 #[.agg #[.int .i64 s.st, .int .i64 s.lb, .int .i64 s.s0, .slice a s.es.length c], .slice ca C.length cc, .int .i64 2] w (PassPost 2 s C w) := by
  have hB0 := (Below.refl w.heap.size w).alloc (Nat.le_refl _) (Obj.cells #[.int .i64 s.st, .int .i64 s.lb, .int .i64 s.s0, .slice a s.es.length c] 24)
  have HY := hid (weakYes_any (c := c) (cc := cc) h h300 hc (hG.below hB0).sys (hS.below hB0 (Nat.le_refl _)) (hCS.below hB0 (Nat.le_refl _)) hn hwf)
  have HB0 := hid hB0
  clear hB0 hG hS hCS h h300 hc hn hwf
  unfold PassPost
  go_enter Tryz.func28, Tryz.ntmps28
  go_wp2_with fail
  refine HY.out.mono ?_
  rintro e w1 ⟨hW, hB1⟩
  obtain ⟨a0, a1, a2, a3, r, rfl, hr⟩ := hW.told
  have HR : Hid (r = true ↔ PassD s.norm C.length C (DKind 2 s.norm C)) := hid (by rw [dkind2]; exact hr)
  have hb1 := HB0.out.trans (hB1.mono (by simp))
  have HB1 := hid (hb1.alloc hb1.size (.cells #[.int .i64 a0, .int .i64 a1, .int .i64 a2, .int .i64 a3] 98))
  clear hW hr hB1 hb1
  go_wp2_with fail
  go_ret2
  exact ⟨r, rfl, HR.out, HB1.out⟩
set_option maxRecDepth 100000 in
set_option maxHeartbeats 2000000 in
theorem passesNo2_any {p : Addr} {s : Lts} {C : List Int} {a : Option Addr} {b off c : Nat} {ca : Option Addr} {cb co cc : Nat} {w : World} (h : ¬ s.Right) (hT : ErrType w) (hG : WkErr p w) (hS : SlAt encE 3 w a b off s.es) (hCS : SlAt encI 1 w ca cb co C) :
    Calls Tryz.prog 28 #[.agg #[.int .i64 s.st, .int .i64 s.lb, .int .i64 s.s0, .slice a s.es.length c], .slice ca C.length cc, .int .i64 2] w (PassErr w) := by
  have hB0 := (Below.refl w.heap.size w).alloc (Nat.le_refl _) (Obj.cells #[.int .i64 s.st, .int .i64 s.lb, .int .i64 s.s0, .slice a s.es.length c] 24)
  have HY := hid (weakNo_any (C := C) (ca := ca) (c := c) (cc := cc) h (hG.below hB0).sys (hT.below hB0) (hS.below hB0 (Nat.le_refl _)))
  have HB0 := hid hB0
  clear hB0 hG hS hCS h hT
  unfold PassErr
  go_enter Tryz.func28, Tryz.ntmps28
  go_wp2_with fail
  refine HY.out.mono ?_
  rintro e w1 ⟨v, rfl, hf, hB1⟩
  obtain ⟨v2, hf, _⟩ := hf
  obtain ⟨fb, rfl, _⟩ := hf.ex
  have hb1 := HB0.out.trans (hB1.mono (by simp))
  have HB1 := hid (hb1.alloc hb1.size (.cells #[.int .i64 0, .int .i64 0, .int .i64 0, .int .i64 0] 98))
  clear hf hB1 hb1
  go_wp2_with fail
  go_ret2
  exact ⟨fb, rfl, HB1.out⟩
set_option maxRecDepth 100000 in
set_option maxHeartbeats 2000000 in
theorem passesBad2_any {p pc : Addr} {s : Lts} {C : List Int} {a : Option Addr} {b off c : Nat} {ca : Option Addr} {cb co cc : Nat} {w : World} (h : s.Right) (hE : GErr 16 pc w) (hc : clB s.st C = false) (hn : C.length ≤ 1000000) (hwf : ∀ x ∈ C, (Lit.int .i64 x).wf = true) (hG : WkErr p w) (hS : SlAt encE 3 w a b off s.es) (hCS : SlAt encI 1 w ca cb co C) :
    Calls Tryz.prog 28 #[.agg #[.int .i64 s.st, .int .i64 s.lb, .int .i64 s.s0, .slice a s.es.length c], .slice ca C.length cc, .int .i64 2] w (PassErr w) := by
  have hB0 := (Below.refl w.heap.size w).alloc (Nat.le_refl _) (Obj.cells #[.int .i64 s.st, .int .i64 s.lb, .int .i64 s.s0, .slice a s.es.length c] 24)
  have HY := hid (weakBad_any (c := c) (cc := cc) h (hG.below hB0).sys (hE.below hB0) (hS.below hB0 (Nat.le_refl _)) (noCls_of hc (hCS.below hB0 (Nat.le_refl _)) hwf hn))
  have HB0 := hid hB0
  clear hB0 hG hS hCS h hE hc hn hwf
  unfold PassErr
  go_enter Tryz.func28, Tryz.ntmps28
  go_wp2_with fail
  refine HY.out.mono ?_
  rintro e w1 ⟨v, rfl, hf, hB1⟩
  obtain ⟨fb, rfl, _⟩ := hf.ex
  have hb1 := HB0.out.trans (hB1.mono (by simp))
  have HB1 := hid (hb1.alloc hb1.size (.cells #[.int .i64 0, .int .i64 0, .int .i64 0, .int .i64 0] 98))
  clear hf hB1 hb1
  go_wp2_with fail
  go_ret2
  exact ⟨fb, rfl, HB1.out⟩
set_option maxRecDepth 100000 in
set_option maxHeartbeats 2000000 in
theorem toldNo_any {p : Addr} {s : Lts} (h : ¬ s.Right) {a : Option Addr} {b off c : Nat} {w : World} (hG : WkErr p w) (hT : ErrType w) (hS : SlAt encE 3 w a b off s.es) :
    Calls Tryz.prog 27 #[.agg #[.int .i64 s.st, .int .i64 s.lb, .int .i64 s.s0, .slice a s.es.length c], .int .i64 0] w fun e w' => ∃ v, e = .returned (.tuple #[.slice none 0 0, v]) ∧ FaultS w' p v ∧ Below w.heap.size w w' := by
  have hB0 := (Below.refl w.heap.size w).alloc (Nat.le_refl _) (Obj.cells #[.int .i64 s.st, .int .i64 s.lb, .int .i64 s.s0, .slice a s.es.length c] 24)
  have HC := hid (strClassesNo_any (c := c) h (hG.below hB0).sys (hT.below hB0) (hS.below hB0 (Nat.le_refl _)))
  have HB0 := hid hB0
  clear hB0 hS hG hT h
  go_enter Tryz.func27, Tryz.ntmps27
  go_wp2_with fail
  refine HC.out.mono ?_
  rintro e w1 ⟨v, rfl, hf, hB1⟩
  obtain ⟨vi, hf1, hf2⟩ := id hf
  obtain ⟨fb, rfl, _⟩ := hf1.ex
  have HF := hid hf; have HB1 := hid (HB0.out.trans (hB1.mono (by simp)))
  clear hf hf1 hf2 hB1
  go_wp2_with fail
  go_ret2
  exact ⟨_, rfl, HF.out, HB1.out⟩
theorem toldK_any {p : Addr} {s : Lts} {n lb : Nat} (h : s.Right) (hn : s.st = (n : Int)) (hlb : s.lb = (lb : Int)) (hel : s.es.length ≤ 900) (h300 : n ≤ 300) {a : Option Addr} {b off c : Nat} {w : World} (hG : WkErr p w) (hT : Tab w) (htab : Lib.TabIs Tryz.prog w "internal/strconv.uint64pow10" .u64 Lib.pow10Tab) (hS : SlAt encE 3 w a b off s.es) {k : Nat} (hk : k < 3) :
    Calls Tryz.prog 27 #[.agg #[.int .i64 s.st, .int .i64 s.lb, .int .i64 s.s0, .slice a s.es.length c], .int .i64 (k : Int)] w (ToldPost k s n w) := by
  have h3 : k = 0 ∨ k = 1 ∨ k = 2 := by omega
  rcases h3 with rfl | rfl | rfl
  · exact told0_any h hn hlb hel h300 hG hT htab hS
  · exact told1_any h hn hlb hel h300 hG hT htab hS
  · exact told2_any h hn hlb hel h300 hG hT htab hS
theorem passesK_any {p : Addr} {s : Lts} {C : List Int} {m : Nat} (hm : C.length = m) {a : Option Addr} {b off c : Nat} {ca : Option Addr} {cb co cc : Nat} {w : World} (h : s.Right) (h300 : s.st ≤ 300) (hc : clB s.st C = true) (hn : C.length ≤ 1000000) (hwf : ∀ x ∈ C, (Lit.int .i64 x).wf = true) (hG : WkErr p w) (hS : SlAt encE 3 w a b off s.es) (hCS : SlAt encI 1 w ca cb co C) {k : Nat} (hk : k < 3) :
    Calls Tryz.prog 28 #[.agg #[.int .i64 s.st, .int .i64 s.lb, .int .i64 s.s0, .slice a s.es.length c], .slice ca m cc, .int .i64 (k : Int)] w (PassPost k s C w) := by
  subst hm
  have h3 : k = 0 ∨ k = 1 ∨ k = 2 := by omega
  rcases h3 with rfl | rfl | rfl
  · exact passesYes0_any h h300 hc hn hwf hG hS hCS
  · exact passesYes1_any h h300 hc hn hwf hG hS hCS
  · exact passesYes2_any h h300 hc hn hwf hG hS hCS
theorem passesE_any {p pc : Addr} {s : Lts} {C : List Int} {m : Nat} (hm : C.length = m) {a : Option Addr} {b off c : Nat} {ca : Option Addr} {cb co cc : Nat} {w : World} (h : ¬ (s.Right ∧ clB s.st C = true)) (hT : ErrType w) (hE : GErr 16 pc w) (hn : C.length ≤ 1000000) (hwf : ∀ x ∈ C, (Lit.int .i64 x).wf = true) (hG : WkErr p w) (hS : SlAt encE 3 w a b off s.es) (hCS : SlAt encI 1 w ca cb co C) {k : Nat} (hk : k < 3) :
    Calls Tryz.prog 28 #[.agg #[.int .i64 s.st, .int .i64 s.lb, .int .i64 s.s0, .slice a s.es.length c], .slice ca m cc, .int .i64 (k : Int)] w (PassErr w) := by
  subst hm
  have h3 : k = 0 ∨ k = 1 ∨ k = 2 := by omega
  by_cases hr : s.Right
  · have hc : clB s.st C = false := by
      cases e : clB s.st C
      · rfl
      · exact absurd ⟨hr, e⟩ h
    rcases h3 with rfl | rfl | rfl
    · exact passesBad0_any hr hE hc hn hwf hG hS hCS
    · exact passesBad1_any hr hE hc hn hwf hG hS hCS
    · exact passesBad2_any hr hE hc hn hwf hG hS hCS
  · rcases h3 with rfl | rfl | rfl
    · exact passesNo0_any hr hT hG hS hCS
    · exact passesNo1_any hr hT hG hS hCS
    · exact passesNo2_any hr hT hG hS hCS
end Go.Proofs.YtdhloijdefnkpaaGreatDoor
namespace Go.Proofs.YtdhloijdefnkpaaGreatDoor
open Go.RowKit Pl
open Lib (hid)
theorem eqlFail (a b c d x y z u : Int) (w : World) : (binOp .eql 98 (.agg #[.int .i64 a, .int .i64 b, .int .i64 c, .int .i64 d]) (.agg #[.int .i64 x, .int .i64 y, .int .i64 z, .int .i64 u])).run Tryz.prog w = .ok (.bool (decide (a = x ∧ b = y ∧ c = z ∧ d = u))) w := by
  have u3 := Tryz.underlying3
  have a3 := Tryz.isAgg3
  have z3 := Tryz.sizeOf3
  have hS : Tryz.prog.underlying 98 = some (.struct (Tryz.prog.fieldsOf 98)) := by kernel_rfl
  have hp : Tryz.prog.stoodInHeld 98 = false := by kernel_rfl
  rw [run_eql_struct, show (10000 : Nat) = 9999 + 1 from rfl, run_equalIn_agg w 9999 98 _ _ hS hp]
  simp only [Program.fieldsOf, Tryz.underlying98]
  go_simp
  by_cases h1 : a = x <;> by_cases h2 : b = y <;> by_cases h3 : c = z <;> by_cases h4 : d = u <;> simp [h1, h2, h3, h4]
theorem guardFail : Tryz.prog.eqGuardType Tryz.prog.depth 98 = false := by kernel_rfl
namespace Pl
def aliveW : Lts := ⟨5, 2, 0, [(0, 1, 4), (1, 0, 0), (2, 0, 3), (2, 1, 4)]⟩
theorem aliveW_right : aliveW.Right := ⟨by unfold HeadBad aliveW; simp, by decide⟩
theorem aliveW_norm : aliveW.norm = aliveW := by
  unfold Lts.norm
  have : nf ltE aliveW.es = aliveW.es := by decide
  rw [this]
end Pl
theorem aliveW_cl : clB aliveW.st [0, 0, 1, 2, 2] = true := by decide
theorem aliveW_strong {e : Ending} (h : WalkE aliveW 5 [0, 0, 1, 2, 2] (fun q => plainD aliveW [0, 0, 1, 2, 2] (q : Int)) e) : e = .returned (.tuple #[.agg #[.int .i64 0, .int .i64 1, .int .i64 1, .int .i64 4], .bool false, .nilIface]) := by
  have h00 : failD aliveW [0, 0, 1, 2, 2] (fun q => plainD aliveW [0, 0, 1, 2, 2] (q : Int)) 0 0 = none := by decide
  have h01 : failD aliveW [0, 0, 1, 2, 2] (fun q => plainD aliveW [0, 0, 1, 2, 2] (q : Int)) 0 1 = some (1, 4) := by decide
  rcases h with ⟨p, q, x, hp, hq, hpq, hf, hmin, rfl⟩ | ⟨hall, rfl⟩
  · have h1 : p = 0 ∧ q = 1 := by
      by_cases e : p = 0
      · subst e
        refine ⟨rfl, ?_⟩
        by_cases e2 : q = 0
        · subst e2; rw [h00] at hf; cases hf
        · by_cases e3 : q = 1
          · exact e3
          · have := hmin 0 1 (by omega) (by omega) (.inr ⟨rfl, by omega⟩) (by decide)
            rw [h01] at this; cases this
      · have := hmin 0 1 (by omega) (by omega) (.inl (by omega)) (by decide)
        rw [h01] at this; cases this
    obtain ⟨rfl, rfl⟩ := h1
    rw [h01] at hf
    cases hf
    rfl
  · have := hall 0 1 (by omega) (by omega) (by decide)
    rw [h01] at this; cases this
theorem lateD_plain {s : Lts} (hr : s.Right) {C : List Int} {q : Nat} {m : Int} {x : S} (hq : (q : Int) < s.st) (hm : Rch (tauOf s (q : Int)) m) (hC : atL C m = atL C (q : Int)) (hx : x ∈ plainD s C m) : x ∈ lateD s C q := by
  unfold lateD
  have hR := tauOf_right (q := (q : Int)) hr (by omega) hq
  refine List.mem_cons_of_mem _ (List.mem_flatMap.2 ⟨m, List.mem_filter.2 ⟨(mem_reachL hR (by show s.st ≠ 0; omega)).2 hm, by simp [hC]⟩, hx⟩)
theorem lateD_self (s : Lts) (C : List Int) (q : Nat) : (0, atL C (q : Int)) ∈ lateD s C q := List.mem_cons_self
theorem aliveW_late {e : Ending} (h : WalkE aliveW 5 [0, 0, 1, 2, 2] (fun q => lateD aliveW [0, 0, 1, 2, 2] q) e) : e = .returned (.tuple #[.agg #[.int .i64 0, .int .i64 0, .int .i64 0, .int .i64 0], .bool true, .nilIface]) := by
  have hall : ∀ p q : Nat, p < 5 → q < 5 → atL [0, 0, 1, 2, 2] (p : Int) = atL [0, 0, 1, 2, 2] (q : Int) → failD aliveW [0, 0, 1, 2, 2] (fun q => lateD aliveW [0, 0, 1, 2, 2] q) p q = none := by
    intro p q hp hq hpq
    unfold failD
    rw [List.find?_eq_none]
    intro x hx
    have h0 : (1, 2) ∈ lateD aliveW [0, 0, 1, 2, 2] 0 := lateD_plain aliveW_right (m := 0) (by decide) (Rch.start _) rfl (by decide)
    have h1 : (1, 2) ∈ lateD aliveW [0, 0, 1, 2, 2] 1 := lateD_plain aliveW_right (m := 0) (by decide) ((Rch.start _).step (l := 0) (by decide)) rfl (by decide)
    have h2 : (0, 0) ∈ lateD aliveW [0, 0, 1, 2, 2] 0 := lateD_self _ _ 0
    have h3 : (0, 0) ∈ lateD aliveW [0, 0, 1, 2, 2] 1 := lateD_self _ _ 1
    have h4 : (0, 2) ∈ lateD aliveW [0, 0, 1, 2, 2] 2 := lateD_plain aliveW_right (m := 2) (by decide) (Rch.start _) rfl (by decide)
    have h5 : (1, 2) ∈ lateD aliveW [0, 0, 1, 2, 2] 2 := lateD_plain aliveW_right (m := 2) (by decide) (Rch.start _) rfl (by decide)
    simp only [Bool.not_eq_true', decide_eq_false_iff_not, Classical.not_not]
    have hpc : p = 0 ∨ p = 1 ∨ p = 2 ∨ p = 3 ∨ p = 4 := by omega
    have hqc : q = 0 ∨ q = 1 ∨ q = 2 ∨ q = 3 ∨ q = 4 := by omega
    rcases hpc with rfl | rfl | rfl | rfl | rfl
    · have : x = (1, 4) := by
        have h : aliveW.outs ((0 : Nat) : Int) = [(1, 4)] := by decide
        rw [h] at hx; simpa using hx
      subst this
      rcases hqc with rfl | rfl | rfl | rfl | rfl
      · exact h0
      · exact h1
      all_goals exact absurd hpq (by decide)
    · have : x = (0, 0) := by
        have h : aliveW.outs ((1 : Nat) : Int) = [(0, 0)] := by decide
        rw [h] at hx; simpa using hx
      subst this
      rcases hqc with rfl | rfl | rfl | rfl | rfl
      · exact h2
      · exact h3
      all_goals exact absurd hpq (by decide)
    · have : x = (0, 3) ∨ x = (1, 4) := by
        have h : aliveW.outs ((2 : Nat) : Int) = [(0, 3), (1, 4)] := by decide
        rw [h] at hx; simpa using hx
      rcases hqc with rfl | rfl | rfl | rfl | rfl
      · exact absurd hpq (by decide)
      · exact absurd hpq (by decide)
      · rcases this with rfl | rfl
        · exact h4
        · exact h5
      all_goals exact absurd hpq (by decide)
    · have h : aliveW.outs ((3 : Nat) : Int) = [] := by decide
      rw [h] at hx; cases hx
    · have h : aliveW.outs ((4 : Nat) : Int) = [] := by decide
      rw [h] at hx; cases hx
  rcases h with ⟨p, q, x, hp, hq, hpq, hf, hmin, rfl⟩ | ⟨_, rfl⟩
  · rw [hall p q hp hq hpq] at hf; cases hf
  · rfl
theorem slAt_lit5 {w : World} : SlAt encI 1 (w.alloc (.cells #[.int .i64 0, .int .i64 0, .int .i64 1, .int .i64 2, .int .i64 2] 3)) (some ⟨w.heap.size, 0, none⟩) w.heap.size 0 [0, 0, 1, 2, 2] := by
  have h := World.ownsRow_lit (e := 3) (size := 1) (base := w.heap.size) w #[.int .i64 0, .int .i64 0, .int .i64 1, .int .i64 2, .int .i64 2] 5 (Nat.le_refl _) (by unfold maxLen; omega) rfl
  obtain ⟨a, c, b, hv, _, _, hs, _⟩ := slAt_own (xs := [0, 0, 1, 2, 2]) lenI h
  simp only [Value.slice.injEq] at hv
  obtain ⟨rfl, _, _⟩ := hv
  have := hs.ad (by decide)
  simp at this
  subst this
  exact hs
set_option maxRecDepth 100000 in
set_option maxHeartbeats 1000000 in
theorem alive19_any {w : World} {p : Addr} (hG : GErr 1 p w) :
    Calls Tryz.prog 26 #[] w fun e w' => e = .returned (.bool true) ∧ Below w.heap.size w w' := by
  have HG := hid hG
  have hq := eqlFail 0 1 1 4 0 1 1 4
  have hgd := guardFail
  clear hG
  go_enter Tryz.func26, Tryz.ntmps26
  go_wp2_with fail
  have hS : SlAt encE 3 (w.alloc (.cells #[.int .i64 0, .int .i64 1, .int .i64 4, .int .i64 1, .int .i64 0, .int .i64 0, .int .i64 2, .int .i64 0, .int .i64 3, .int .i64 2, .int .i64 1, .int .i64 4] 35)) (some ⟨w.heap.size, 0, none⟩) w.heap.size 0 aliveW.es := by
    have h := World.ownsRow_lit (e := 35) (size := 3) (base := w.heap.size) w #[.int .i64 0, .int .i64 1, .int .i64 4, .int .i64 1, .int .i64 0, .int .i64 0, .int .i64 2, .int .i64 0, .int .i64 3, .int .i64 2, .int .i64 1, .int .i64 4] 4 (Nat.le_refl _) (by unfold maxLen; omega) rfl
    obtain ⟨a, c, b, hv, _, _, hs, _⟩ := slAt_own (xs := aliveW.es) lenE h
    simp only [Value.slice.injEq] at hv
    obtain ⟨rfl, _, _⟩ := hv
    have := hs.ad (by decide)
    simp at this
    subst this
    exact hs
  obtain ⟨W1, hW1⟩ : ∃ W1, W1 = w.alloc (.cells #[.int .i64 0, .int .i64 1, .int .i64 4, .int .i64 1, .int .i64 0, .int .i64 0, .int .i64 2, .int .i64 0, .int .i64 3, .int .i64 2, .int .i64 1, .int .i64 4] 35) := ⟨_, rfl⟩
  have hb1 : Below w.heap.size w W1 := by rw [hW1]; exact (Below.refl _ _).alloc (Nat.le_refl _) _
  have hz1 : W1.heap.size = w.heap.size + 1 := by rw [hW1]; simp
  rw [← hW1] at hS ⊢
  have hx0 := heap_alloc_new W1 (.cells #[.int .i64 5, .int .i64 2, .int .i64 0, .slice (some ⟨w.heap.size, 0, none⟩) 4 4] 24)
  obtain ⟨W2, hW2⟩ : ∃ W2, W2 = W1.alloc (.cells #[.int .i64 5, .int .i64 2, .int .i64 0, .slice (some ⟨w.heap.size, 0, none⟩) 4 4] 24) := ⟨_, rfl⟩
  have hb2 : Below W1.heap.size W1 W2 := by rw [hW2]; exact (Below.refl _ _).alloc (Nat.le_refl _) _
  have hz2 : W2.heap.size = w.heap.size + 1 + 1 := by rw [hW2]; simp [hz1]
  rw [← hW2] at hx0 ⊢
  rw [hz1] at hx0
  have hS2 := hS.below hb2 (Nat.le_refl _)
  have hb02 := hb1.trans (hb2.mono hb1.size)
  have hl := slAt_lit5 (w := W2)
  have hb3 := (Below.refl W2.heap.size W2).alloc (Nat.le_refl _) (.cells #[.int .i64 0, .int .i64 0, .int .i64 1, .int .i64 2, .int .i64 2] 3)
  rw [hz2] at hl
  have HS2 := hid hS2; have HX0 := hid hx0; have HB02 := hid hb02; have HZ2 := hid hz2
  have hcall := strongYes_any (s := aliveW) (C := [0, 0, 1, 2, 2]) (c := 4) (cc := 5) aliveW_right aliveW_cl (HG.out.below (hb02.trans (hb3.mono hb02.size))) (hS2.below hb3 (Nat.le_refl _)) hl (by decide) (by decide)
  rw [aliveW_norm] at hcall
  have HCALL := hid hcall
  clear hW1 hb1 hz1 hS hx0 hW2 hb2 hz2 hS2 hb02 hl hcall
  refine HCALL.out.mono ?_
  rintro e w5 ⟨hW, hB5⟩
  obtain rfl := aliveW_strong hW
  have hb25 : Below W2.heap.size W2 w5 := hb3.trans (hB5.mono (by simp))
  have HB05 := hid (HB02.out.trans (hb25.mono HB02.out.size))
  have HS5 := hid (HS2.out.below hb25 (Nat.le_refl _))
  have hx5 := (hb25.block (w.heap.size + 1) (by rw [HZ2.out]; omega)).trans HX0.out
  have hl5 := (Array.getElem?_eq_some_iff.1 hx5).1
  have x0 : w5.cell? ⟨w.heap.size + 1, 0, none⟩ = some (.int .i64 5) := by simp [World.cell?, hx5]
  have x1 : w5.cell? ⟨w.heap.size + 1, 1, none⟩ = some (.int .i64 2) := by simp [World.cell?, hx5]
  have x2 : w5.cell? ⟨w.heap.size + 1, 2, none⟩ = some (.int .i64 0) := by simp [World.cell?, hx5]
  have x3 : w5.cell? ⟨w.heap.size + 1, 3, none⟩ = some (.slice (some ⟨w.heap.size, 0, none⟩) 4 4) := by simp [World.cell?, hx5]
  clear hW hB5 hb25 hx5 HS2 HX0 HB02 HZ2 HCALL hb3
  go_wp2_with fail
  have hF6 := heap_alloc_new w5 (.cells #[.int .i64 0, .int .i64 1, .int .i64 1, .int .i64 4] 98)
  obtain ⟨W6, hW6⟩ : ∃ W6, W6 = w5.alloc (.cells #[.int .i64 0, .int .i64 1, .int .i64 1, .int .i64 4] 98) := ⟨_, rfl⟩
  have hb6 : Below w5.heap.size w5 W6 := by rw [hW6]; exact (Below.refl _ _).alloc (Nat.le_refl _) _
  have hz6 : W6.heap.size = w5.heap.size + 1 := by rw [hW6]; simp
  rw [← hW6] at hF6 ⊢
  have hb06 := HB05.out.trans (hb6.mono HB05.out.size)
  have hS6 := HS5.out.below hb6 (Nat.le_refl _)
  have hl := slAt_lit5 (w := W6)
  have hb7 := (Below.refl W6.heap.size W6).alloc (Nat.le_refl _) (.cells #[.int .i64 0, .int .i64 0, .int .i64 1, .int .i64 2, .int .i64 2] 3)
  rw [hz6] at hl
  have hcall := branchingYes_any (s := aliveW) (C := [0, 0, 1, 2, 2]) (c := 4) (cc := 5) aliveW_right aliveW_cl (HG.out.below (hb06.trans (hb7.mono hb06.size))) (hS6.below hb7 (Nat.le_refl _)) hl (by decide) (by decide)
  rw [aliveW_norm] at hcall
  have HCALL := hid hcall; have HF6 := hid hF6; have HB06 := hid hb06; have HZ6 := hid hz6
  clear hW6 hb6 hz6 hS6 hl hcall hF6 hb06 x0 x1 x2 x3 HS5 HB05 HG
  refine HCALL.out.mono ?_
  rintro e w8 ⟨hW, hB8⟩
  obtain rfl := aliveW_late hW
  have hb68 : Below W6.heap.size W6 w8 := hb7.trans (hB8.mono (by simp))
  have HB08 := hid (HB06.out.trans (hb68.mono HB06.out.size))
  have hx8 := (hb68.block w5.heap.size (by rw [HZ6.out]; omega)).trans HF6.out
  have hl8 := (Array.getElem?_eq_some_iff.1 hx8).1
  have x0 : w8.cell? ⟨w5.heap.size, 0, none⟩ = some (.int .i64 0) := by simp [World.cell?, hx8]
  have x1 : w8.cell? ⟨w5.heap.size, 1, none⟩ = some (.int .i64 1) := by simp [World.cell?, hx8]
  have x2 : w8.cell? ⟨w5.heap.size, 2, none⟩ = some (.int .i64 1) := by simp [World.cell?, hx8]
  have x3 : w8.cell? ⟨w5.heap.size, 3, none⟩ = some (.int .i64 4) := by simp [World.cell?, hx8]
  clear hW hB8 hb68 hx8 HCALL HF6 HB06 HZ6 hb7
  go_wp2_with fail
  go_ret
  exact ⟨rfl, HB08.out.alloc HB08.out.size _⟩
end Go.Proofs.YtdhloijdefnkpaaGreatDoor
namespace Go.Proofs.YtdhloijdefnkpaaGreatDoor
open Go.RowKit Pl
theorem smallW_any (s0 st lb : Int) (a : Option Addr) (m c : Nat) (w : World) :
    Calls Tryz.prog 25 #[.agg #[.int .i64 st, .int .i64 lb, .int .i64 s0, .slice a m c]] w fun e w' => e = .returned (.bool (decide (st ≤ 25) && decide (m ≤ 150))) ∧ Below w.heap.size w w' := by
  have hb := (Below.refl w.heap.size w).alloc (Nat.le_refl _) (.cells #[.int .i64 st, .int .i64 lb, .int .i64 s0, .slice a m c] 24)
  by_cases h1 : st ≤ 25
  · have e1 : decide (st ≤ 25) = true := by simp [h1]
    have HE1 := Lib.hid e1
    by_cases h2 : m ≤ 150
    · have e2 : decide (m ≤ 150) = true := by simp [h2]
      have HE2 := Lib.hid e2
      have h2' : (m : Int) ≤ 150 := by omega
      clear e1 e2
      rw [HE1.out, HE2.out]
      go_enter Tryz.func25, Tryz.ntmps25
      go_wp2
      go_ret
      exact ⟨rfl, hb⟩
    · have e2 : decide (m ≤ 150) = false := by simp [h2]
      have HE2 := Lib.hid e2
      have h2' : ¬ (m : Int) ≤ 150 := by omega
      clear e1 e2
      rw [HE1.out, HE2.out]
      go_enter Tryz.func25, Tryz.ntmps25
      go_wp2
      go_ret
      exact ⟨rfl, hb⟩
  · have e1 : decide (st ≤ 25) = false := by simp [h1]
    rw [e1, Bool.false_and]
    clear e1
    go_enter Tryz.func25, Tryz.ntmps25
    go_wp2
    go_ret
    exact ⟨rfl, hb⟩
end Go.Proofs.YtdhloijdefnkpaaGreatDoor

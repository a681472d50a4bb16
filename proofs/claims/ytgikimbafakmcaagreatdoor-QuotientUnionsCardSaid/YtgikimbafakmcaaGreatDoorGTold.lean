/-
  Lemmas.
-/
import Derived.Test.YtgikimbafakmcaaGreatDoorGAs
import Derived.Deep.RegionHeld3
import Derived.Deep.QuietTactic
import Derived.BigQuiet
import Derived.Stop.LaidTwo
set_option maxHeartbeats 2000000
set_option maxRecDepth 100000
namespace Go.Proofs.YtgikimbafakmcaaGreatDoor
open Go.RowKit Go.Extern.Stop Go.Stop Go.Extern Pl
open Lib (hid)
theorem is_raw_same (b : Addr) (w : World) :
    Calls Tryz.prog 75 #[.iface 270 (.pointer (some b)), .iface 270 (.pointer (some b))] w fun e w' => e = .returned (.bool true) /\ w = w' := by
 obtain ⟨i, hi, hcmp⟩ := Option.map_eq_some_iff.1 isComp
 obtain ⟨j, hj, hjs⟩ := Option.map_eq_some_iff.1 isSize
 have tT := isTypeOf
 have cT := isComparable
 have mR := isMethodComparable
 have nE := noIsE
 have uE := noUnwrapE
 have vE := noUnwrapsE
 have heq := run_eql_iface_ptr_same (P := Tryz.prog) w b Tryz.underlying46 Tryz.underlying270 hi hcmp hj
 go_enter Tryz.func75, Tryz.ntmps75
 go_wp2
 refine wp_loop_rounds 1 ?_
 rw [rounds_succ]
 go_wp2
 go_ret
 exact ⟨rfl, rfl⟩
theorem is_raw_other (b a : Addr) (ca cb : Array Value) (ta tb : TypeId) (w : World) (hne : a ≠ b) (ha : w.heap[a.block]? = some (.cells ca ta (0, 0))) (hb : w.heap[b.block]? = some (.cells cb tb (0, 0))) :
    Calls Tryz.prog 75 #[.iface 270 (.pointer (some a)), .iface 270 (.pointer (some b))] w fun e w' => e = .returned (.bool false) /\ w = w' := by
 obtain ⟨i, hi, hcmp⟩ := Option.map_eq_some_iff.1 isComp
 obtain ⟨j, hj, hjs⟩ := Option.map_eq_some_iff.1 isSize
 have tT := isTypeOf
 have cT := isComparable
 have mR := isMethodComparable
 have nE := noIsE
 have uE := noUnwrapE
 have vE := noUnwrapsE
 have heq := run_eql_iface_ptr_other (P := Tryz.prog) w Tryz.underlying46 Tryz.underlying270 hi hcmp hj (by rw [hjs]; decide) hne ha hb
 go_enter Tryz.func75, Tryz.ntmps75
 go_wp2
 refine wp_loop_rounds 1 ?_
 rw [rounds_succ]
 go_wp2
 go_ret
 exact ⟨rfl, rfl⟩
def gE : Nat -> Nat
  | 1 => 2
  | 2 => 3
  | 3 => 1
  | 4 => 4
  | 5 => 5
  | 6 => 6
  | 7 => 7
  | 8 => 8
  | 9 => 9
  | 10 => 10
  | 11 => 12
  | 12 => 13
  | 13 => 14
  | 14 => 0
  | 15 => 15
  | 16 => 16
  | 17 => 17
  | 18 => 18
  | 19 => 19
  | _ => 0
structure ErrsK (k : Nat) (p : Addr) (w : World) : Prop where
  sys : GErr (gE k) p w
  blk : ∃ c t, w.heap[p.block]? = some (.cells c t (0, 0))
  oth : ∀ j, 1 <= j -> j < k -> SentQ (gE j) p w
theorem ErrsK.below {k : Nat} {p : Addr} {w w' : World} (h : ErrsK k p w) (hB : Below w.heap.size w w') : ErrsK k p w' :=
  ⟨h.sys.below hB, by obtain ⟨c, t, h1⟩ := h.blk; exact ⟨c, t, by rw [hB.block _ (Array.getElem?_eq_some_iff.1 h1).1]; exact h1⟩, fun j h1 h2 => (h.oth j h1 h2).below hB⟩
structure CodeW (w : World) (v : Value) (k : Nat) : Prop where
  same : ∃ q, w.cell? ⟨gE k, 0, none⟩ = some (.iface 270 (.pointer (some q))) /\ Calls Tryz.prog 75 #[v, .iface 270 (.pointer (some q))] w fun e w' => e = .returned (.bool true) /\ w = w'
  oth : ∀ j, 1 <= j -> j < k -> ∃ q, w.cell? ⟨gE j, 0, none⟩ = some (.iface 270 (.pointer (some q))) /\ Calls Tryz.prog 75 #[v, .iface 270 (.pointer (some q))] w fun e w' => e = .returned (.bool false) /\ w = w'
theorem codeW0 {k : Nat} {p : Addr} {w : World} (h : ErrsK k p w) : CodeW w (.iface 270 (.pointer (some p))) k :=
  ⟨⟨p, h.sys.cell, is_raw_same p w⟩, fun j h1 h2 => by
    obtain ⟨q, c, t, h3, h4, h5⟩ := h.oth j h1 h2
    obtain ⟨c2, t2, h6⟩ := h.blk
    exact ⟨q, h3.cell, is_raw_other q p c2 c t2 t w (Ne.symm h4) h6 h5⟩⟩
theorem codeW1 {k : Nat} {p : Addr} {w : World} {fb : Nat} (h : ErrsK k p w) (hc : w.cell? ⟨fb, 3, none⟩ = some (.iface 270 (.pointer (some p)))) : CodeW w (.iface 69 (.pointer (some ⟨fb, 0, none⟩))) k :=
  ⟨⟨p, h.sys.cell, is_fault_same fb p w hc⟩, fun j h1 h2 => by
    obtain ⟨q, c, t, h3, h4, h5⟩ := h.oth j h1 h2
    obtain ⟨c2, t2, h6⟩ := h.blk
    exact ⟨q, h3.cell, is_fault_other fb q p c2 c t2 t w hc (Ne.symm h4) h6 h5⟩⟩
theorem codeW2 {k : Nat} {p : Addr} {w : World} {fb fc : Nat} (h : ErrsK k p w) (h0 : w.cell? ⟨fb, 3, none⟩ = some (.iface 69 (.pointer (some ⟨fc, 0, none⟩)))) (hc : w.cell? ⟨fc, 3, none⟩ = some (.iface 270 (.pointer (some p)))) : CodeW w (.iface 69 (.pointer (some ⟨fb, 0, none⟩))) k :=
  ⟨⟨p, h.sys.cell, is_faultQ_same fb fc p w h0 hc⟩, fun j h1 h2 => by
    obtain ⟨q, c, t, h3, h4, h5⟩ := h.oth j h1 h2
    obtain ⟨c2, t2, h6⟩ := h.blk
    exact ⟨q, h3.cell, is_faultQ_other fb fc q p c2 c t2 t w h0 hc (Ne.symm h4) h6 h5⟩⟩
theorem code3_any {w : World} {T : TypeId} {x : Value} (h : CodeW w (.iface T x) 3) :
    Calls Tryz.prog 23 #[.iface T x] w fun e w' => e = .returned (.int .i64 3) /\ w = w' := by
 obtain ⟨q1, c1, i1⟩ := h.oth 1 (by decide) (by decide)
 have I1 := hid i1; clear i1
 simp only [gE] at c1
 obtain ⟨q2, c2, i2⟩ := h.oth 2 (by decide) (by decide)
 have I2 := hid i2; clear i2
 simp only [gE] at c2
 obtain ⟨q3, c3, i3⟩ := h.same
 have I3 := hid i3; clear i3
 simp only [gE] at c3
 clear h
 go_enter Tryz.func23, Tryz.ntmps23
 go_wp2_with fail
 refine I1.out.mono ?_
 rintro e w' ⟨rfl, rfl⟩
 go_wp2_with fail
 refine I2.out.mono ?_
 rintro e w' ⟨rfl, rfl⟩
 go_wp2_with fail
 refine I3.out.mono ?_
 rintro e w' ⟨rfl, rfl⟩
 go_wp2
 go_ret
 exact ⟨rfl, rfl⟩
theorem rest14_any {w : World} {T : TypeId} {x : Value} (h : CodeW w (.iface T x) 14) :
    Calls Tryz.prog 76 #[.iface T x] w fun e w' => e = .returned (.int .i64 14) /\ w = w' := by
 obtain ⟨q11, c11, i11⟩ := h.oth 11 (by decide) (by decide)
 have I11 := hid i11; clear i11
 simp only [gE] at c11
 obtain ⟨q12, c12, i12⟩ := h.oth 12 (by decide) (by decide)
 have I12 := hid i12; clear i12
 simp only [gE] at c12
 obtain ⟨q13, c13, i13⟩ := h.oth 13 (by decide) (by decide)
 have I13 := hid i13; clear i13
 simp only [gE] at c13
 obtain ⟨q14, c14, i14⟩ := h.same
 have I14 := hid i14; clear i14
 simp only [gE] at c14
 clear h
 go_enter Tryz.func76, Tryz.ntmps76
 go_wp2_with fail
 refine I11.out.mono ?_
 rintro e w' ⟨rfl, rfl⟩
 go_wp2_with fail
 refine I12.out.mono ?_
 rintro e w' ⟨rfl, rfl⟩
 go_wp2_with fail
 refine I13.out.mono ?_
 rintro e w' ⟨rfl, rfl⟩
 go_wp2_with fail
 refine I14.out.mono ?_
 rintro e w' ⟨rfl, rfl⟩
 go_wp2
 go_ret
 exact ⟨rfl, rfl⟩
theorem code14_any {w : World} {T : TypeId} {x : Value} (h : CodeW w (.iface T x) 14) :
    Calls Tryz.prog 23 #[.iface T x] w fun e w' => e = .returned (.int .i64 14) /\ w = w' := by
 obtain ⟨q1, c1, i1⟩ := h.oth 1 (by decide) (by decide)
 have I1 := hid i1; clear i1
 simp only [gE] at c1
 obtain ⟨q2, c2, i2⟩ := h.oth 2 (by decide) (by decide)
 have I2 := hid i2; clear i2
 simp only [gE] at c2
 obtain ⟨q3, c3, i3⟩ := h.oth 3 (by decide) (by decide)
 have I3 := hid i3; clear i3
 simp only [gE] at c3
 obtain ⟨q4, c4, i4⟩ := h.oth 4 (by decide) (by decide)
 have I4 := hid i4; clear i4
 simp only [gE] at c4
 obtain ⟨q5, c5, i5⟩ := h.oth 5 (by decide) (by decide)
 have I5 := hid i5; clear i5
 simp only [gE] at c5
 obtain ⟨q6, c6, i6⟩ := h.oth 6 (by decide) (by decide)
 have I6 := hid i6; clear i6
 simp only [gE] at c6
 obtain ⟨q7, c7, i7⟩ := h.oth 7 (by decide) (by decide)
 have I7 := hid i7; clear i7
 simp only [gE] at c7
 obtain ⟨q8, c8, i8⟩ := h.oth 8 (by decide) (by decide)
 have I8 := hid i8; clear i8
 simp only [gE] at c8
 obtain ⟨q9, c9, i9⟩ := h.oth 9 (by decide) (by decide)
 have I9 := hid i9; clear i9
 simp only [gE] at c9
 obtain ⟨q10, c10, i10⟩ := h.oth 10 (by decide) (by decide)
 have I10 := hid i10; clear i10
 simp only [gE] at c10
 have HR := hid (rest14_any h)
 clear h
 go_enter Tryz.func23, Tryz.ntmps23
 go_wp2_with fail
 refine I1.out.mono ?_
 rintro e w' ⟨rfl, rfl⟩
 go_wp2_with fail
 refine I2.out.mono ?_
 rintro e w' ⟨rfl, rfl⟩
 go_wp2_with fail
 refine I3.out.mono ?_
 rintro e w' ⟨rfl, rfl⟩
 go_wp2_with fail
 refine I4.out.mono ?_
 rintro e w' ⟨rfl, rfl⟩
 go_wp2_with fail
 refine I5.out.mono ?_
 rintro e w' ⟨rfl, rfl⟩
 go_wp2_with fail
 refine I6.out.mono ?_
 rintro e w' ⟨rfl, rfl⟩
 go_wp2_with fail
 refine I7.out.mono ?_
 rintro e w' ⟨rfl, rfl⟩
 go_wp2_with fail
 refine I8.out.mono ?_
 rintro e w' ⟨rfl, rfl⟩
 go_wp2_with fail
 refine I9.out.mono ?_
 rintro e w' ⟨rfl, rfl⟩
 go_wp2_with fail
 refine I10.out.mono ?_
 rintro e w' ⟨rfl, rfl⟩
 go_wp2_with fail
 refine HR.out.mono ?_
 rintro e w' ⟨rfl, rfl⟩
 go_wp2
 go_ret
 exact ⟨rfl, rfl⟩
def CodeIn (k : Nat) : Prop := k = 3 ∨ k = 14
theorem code_any {w : World} {T : TypeId} {x : Value} {k : Nat} (hk : CodeIn k) (h : CodeW w (.iface T x) k) :
    Calls Tryz.prog 23 #[.iface T x] w fun e w' => e = .returned (.int .i64 (k : Int)) /\ w = w' := by
 unfold CodeIn at hk
 rcases hk with rfl | rfl
 · exact code3_any h
 · exact code14_any h
/-! Told -/
theorem asFault (v : Value) (xT : TypeId) (w : World) : (Instr.typeAssert (.iface 69 v) xT 69 true).run Tryz.prog w = .ok (.tuple #[v, .bool true]) w := by kernel_rfl
theorem asFaultE (v : Value) (xT : TypeId) (w : World) : (Instr.typeAssert (.iface 270 v) xT 69 true).run Tryz.prog w = .ok (.tuple #[.pointer none, .bool false]) w := by kernel_rfl
theorem told_nil (a b : Int) (s : ByteArray) (w : World) : Calls Tryz.prog 8 #[.nilIface, .agg #[.int .i64 0, .int .i64 a, .int .i64 b, .string s]] w fun e w' => e = .returned (.bool true) /\ Below w.heap.size w w' := by
 go_enter Tryz.func8, Tryz.ntmps8
 go_wp2_with fail
 go_ret
 exact ⟨rfl, (Below.refl _ _).alloc (Nat.le_refl _) _⟩
theorem told_one {p : Addr} {w : World} {k : Nat} (hk : CodeIn k) (hE : ErrsK k p w) {v : Value} {l : ByteArray} (hF : FaultAt w v l (.iface 270 (.pointer (some p)))) (hl : l.size <= 1000) :
    Calls Tryz.prog 8 #[v, .agg #[.int .i64 (k : Int), .int .i64 0, .int .i64 0, .string (l ++ ⟨#[32]⟩)]] w fun e w' => e = .returned (.bool true) /\ Below w.heap.size w w' := by
 obtain ⟨fb, rfl, hf⟩ := hF.ex
 obtain ⟨W, hW⟩ : ∃ W, W = w.alloc (.cells #[.int .i64 (k : Int), .int .i64 0, .int .i64 0, .string (l ++ ⟨#[32]⟩)] 28) := ⟨_, rfl⟩
 have hB : Below w.heap.size w W := by rw [hW]; exact (Below.refl w.heap.size w).alloc (Nat.le_refl _) _
 have hb := heap_alloc_new w (.cells #[.int .i64 (k : Int), .int .i64 0, .int .i64 0, .string (l ++ ⟨#[32]⟩)] 28)
 rw [<- hW] at hb
 have hf1 := (hB.block fb (Array.getElem?_eq_some_iff.1 hf).1).trans hf
 have e0 : W.cell? ⟨w.heap.size, 0, none⟩ = some (.int .i64 (k : Int)) := by simp [World.cell?, hb]
 have e1 : W.cell? ⟨w.heap.size, 1, none⟩ = some (.int .i64 0) := by simp [World.cell?, hb]
 have e2 : W.cell? ⟨w.heap.size, 2, none⟩ = some (.int .i64 0) := by simp [World.cell?, hb]
 have e3 : W.cell? ⟨w.heap.size, 3, none⟩ = some (.string (l ++ ⟨#[32]⟩)) := by simp [World.cell?, hb]
 have el := (Array.getElem?_eq_some_iff.1 hb).1
 have f0 : W.cell? ⟨fb, 0, none⟩ = some (.string l) := by simp [World.cell?, hf1]
 have f1 : W.cell? ⟨fb, 1, none⟩ = some (.int .i64 0) := by simp [World.cell?, hf1]
 have f2 : W.cell? ⟨fb, 2, none⟩ = some (.int .i64 0) := by simp [World.cell?, hf1]
 have f3 : W.cell? ⟨fb, 3, none⟩ = some (.iface 270 (.pointer (some p))) := by simp [World.cell?, hf1]
 have fl := (Array.getElem?_eq_some_iff.1 hf1).1
 have HC1 : Hid (∀ V, Below W.heap.size W V -> Calls Tryz.prog 23 #[.iface 69 (.pointer (some ⟨fb, 0, none⟩))] V fun e w' => e = .returned (.int .i64 (k : Int)) /\ V = w') := hid (fun V hV => code_any hk (codeW1 ((hE.below hB).below hV) (by rw [hV.cell (p := ⟨fb, 3, none⟩) fl]; exact f3)))
 have HC0 : Hid (∀ V, Below W.heap.size W V -> Calls Tryz.prog 23 #[.iface 270 (.pointer (some p))] V fun e w' => e = .returned (.int .i64 (k : Int)) /\ V = w') := hid (fun V hV => code_any hk (codeW0 ((hE.below hB).below hV)))
 have hk0 : ((k : Int) == 0) = false := by unfold CodeIn at hk; simp; omega
 have HB := hid hB
 have hz1 : ¬ 9223372036854775807 < l.size := by omega
 have hz2 : ¬ 9223372036854775807 < l.size + 1 := by omega
 have hem : ({ data := #[] } : ByteArray) ++ l = l := ByteArray.empty_append
 have aF := asFault
 have aE := asFaultE
 have HWE := hid hW
 clear hE hf hB hf1 hk hF hb hW
 go_enter Tryz.func8, Tryz.ntmps8
 go_wp2_with fail
 rw [<- HWE.out]
 go_region_held3 (fun w' => w'.cell? ⟨w.heap.size, 0, none⟩ = some (.int .i64 (k : Int))) (first | exact e0 | assumption) ((go_at_call 23; refine (HC1.out _ (Below.refl _ _).drew).mono ?_; rintro e w5 ⟨rfl, rfl⟩))
 go_wp2_with fail
 refine wp_loop_rounds 2 ?_
 rw [rounds_succ]
 go_wp2_with fail
 go_quiet (fail)
 go_wp2_with fail
 try rw [hem]
 rw [rounds_succ]
 go_wp2_with fail
 go_region_held3 (fun w' => w'.cell? ⟨w.heap.size, 0, none⟩ = some (.int .i64 (k : Int)) /\ w'.cell? ⟨w.heap.size, 3, none⟩ = some (.string (l ++ ⟨#[32]⟩))) (first | exact ⟨e0, e3⟩ | assumption) ((go_at_call 23; refine (HC0.out (W.drewN _) (bdrew (Below.refl _ _))).mono ?_; rintro e w5 ⟨rfl, rfl⟩))
 go_wp2_with fail
 go_ret
 exact ⟨rfl, bdrew HB.out⟩
theorem told_two {p : Addr} {w : World} {k : Nat} (hk : CodeIn k) (hE : ErrsK k p w) {v vi : Value} {l m : ByteArray} (hF : FaultAt w v l vi) (hF2 : FaultAt w vi m (.iface 270 (.pointer (some p)))) (hl : l.size <= 1000) (hm : m.size <= 1000) :
    Calls Tryz.prog 8 #[v, .agg #[.int .i64 (k : Int), .int .i64 0, .int .i64 0, .string (l ++ ⟨#[32]⟩ ++ m ++ ⟨#[32]⟩)]] w fun e w' => e = .returned (.bool true) /\ Below w.heap.size w w' := by
 obtain ⟨fb, rfl, hf⟩ := hF.ex
 obtain ⟨fc, rfl, hg⟩ := hF2.ex
 obtain ⟨W, hW⟩ : ∃ W, W = w.alloc (.cells #[.int .i64 (k : Int), .int .i64 0, .int .i64 0, .string (l ++ ⟨#[32]⟩ ++ m ++ ⟨#[32]⟩)] 28) := ⟨_, rfl⟩
 have hB : Below w.heap.size w W := by rw [hW]; exact (Below.refl w.heap.size w).alloc (Nat.le_refl _) _
 have hb := heap_alloc_new w (.cells #[.int .i64 (k : Int), .int .i64 0, .int .i64 0, .string (l ++ ⟨#[32]⟩ ++ m ++ ⟨#[32]⟩)] 28)
 rw [<- hW] at hb
 have hf1 := (hB.block fb (Array.getElem?_eq_some_iff.1 hf).1).trans hf
 have hg1 := (hB.block fc (Array.getElem?_eq_some_iff.1 hg).1).trans hg
 have e0 : W.cell? ⟨w.heap.size, 0, none⟩ = some (.int .i64 (k : Int)) := by simp [World.cell?, hb]
 have e1 : W.cell? ⟨w.heap.size, 1, none⟩ = some (.int .i64 0) := by simp [World.cell?, hb]
 have e2 : W.cell? ⟨w.heap.size, 2, none⟩ = some (.int .i64 0) := by simp [World.cell?, hb]
 have e3 : W.cell? ⟨w.heap.size, 3, none⟩ = some (.string (l ++ ⟨#[32]⟩ ++ m ++ ⟨#[32]⟩)) := by simp [World.cell?, hb]
 have el := (Array.getElem?_eq_some_iff.1 hb).1
 have f0 : W.cell? ⟨fb, 0, none⟩ = some (.string l) := by simp [World.cell?, hf1]
 have f1 : W.cell? ⟨fb, 1, none⟩ = some (.int .i64 0) := by simp [World.cell?, hf1]
 have f2 : W.cell? ⟨fb, 2, none⟩ = some (.int .i64 0) := by simp [World.cell?, hf1]
 have f3 : W.cell? ⟨fb, 3, none⟩ = some (.iface 69 (.pointer (some ⟨fc, 0, none⟩))) := by simp [World.cell?, hf1]
 have g0 : W.cell? ⟨fc, 0, none⟩ = some (.string m) := by simp [World.cell?, hg1]
 have g1 : W.cell? ⟨fc, 1, none⟩ = some (.int .i64 0) := by simp [World.cell?, hg1]
 have g2 : W.cell? ⟨fc, 2, none⟩ = some (.int .i64 0) := by simp [World.cell?, hg1]
 have g3 : W.cell? ⟨fc, 3, none⟩ = some (.iface 270 (.pointer (some p))) := by simp [World.cell?, hg1]
 have gl := (Array.getElem?_eq_some_iff.1 hg1).1
 have fl := (Array.getElem?_eq_some_iff.1 hf1).1
 have HC1 : Hid (∀ V, Below W.heap.size W V -> Calls Tryz.prog 23 #[.iface 69 (.pointer (some ⟨fb, 0, none⟩))] V fun e w' => e = .returned (.int .i64 (k : Int)) /\ V = w') := hid (fun V hV => code_any hk (codeW2 ((hE.below hB).below hV) (by rw [hV.cell (p := ⟨fb, 3, none⟩) fl]; exact f3) (by rw [hV.cell (p := ⟨fc, 3, none⟩) gl]; exact g3)))
 have HC0 : Hid (∀ V, Below W.heap.size W V -> Calls Tryz.prog 23 #[.iface 270 (.pointer (some p))] V fun e w' => e = .returned (.int .i64 (k : Int)) /\ V = w') := hid (fun V hV => code_any hk (codeW0 ((hE.below hB).below hV)))
 have hk0 : ((k : Int) == 0) = false := by unfold CodeIn at hk; simp; omega
 have HB := hid hB
 have hz1 : ¬ 9223372036854775807 < l.size := by omega
 have hz2 : ¬ 9223372036854775807 < l.size + 1 := by omega
 have hz3 : ¬ 9223372036854775807 < l.size + 1 + m.size := by omega
 have hz4 : ¬ 9223372036854775807 < l.size + 1 + m.size + 1 := by omega
 have hem : ({ data := #[] } : ByteArray) ++ l = l := ByteArray.empty_append
 have aF := asFault
 have aE := asFaultE
 have HWE := hid hW
 clear hE hf hg hB hf1 hg1 hk hF hF2 hb hW
 go_enter Tryz.func8, Tryz.ntmps8
 go_wp2_with fail
 rw [<- HWE.out]
 go_region_held3 (fun w' => w'.cell? ⟨w.heap.size, 0, none⟩ = some (.int .i64 (k : Int))) (first | exact e0 | assumption) ((go_at_call 23; refine (HC1.out _ (Below.refl _ _).drew).mono ?_; rintro e w5 ⟨rfl, rfl⟩))
 go_wp2_with fail
 refine wp_loop_rounds 3 ?_
 rw [rounds_succ]
 go_wp2_with fail
 go_quiet (fail)
 go_wp2_with fail
 try rw [hem]
 rw [rounds_succ]
 go_wp2_with fail
 go_quiet (fail)
 go_wp2_with fail
 rw [rounds_succ]
 go_wp2_with fail
 go_region_held3 (fun w' => w'.cell? ⟨w.heap.size, 0, none⟩ = some (.int .i64 (k : Int)) /\ w'.cell? ⟨w.heap.size, 3, none⟩ = some (.string (l ++ ⟨#[32]⟩ ++ m ++ ⟨#[32]⟩))) (first | exact ⟨e0, e3⟩ | assumption) ((go_at_call 23; refine (HC0.out (W.drewN _) (bdrew (Below.refl _ _))).mono ?_; rintro e w5 ⟨rfl, rfl⟩))
 go_wp2_with fail
 go_ret
 exact ⟨rfl, bdrew HB.out⟩
end Go.Proofs.YtgikimbafakmcaaGreatDoor
namespace Go.Proofs.YtgikimbafakmcaaGreatDoor
open Go.ChangeShapes Go.WideShapes Go.ChangeAt Go.RowKit Go.Lib
theorem GErr.uniq {g : Nat} {p q : Addr} {W : World} (h : GErr g p W) (h' : GErr g q W) : p = q := by
 have h1 := h.cell
 rw [h'.cell] at h1
 simp only [Option.some.injEq, Value.iface.injEq, Value.pointer.injEq, true_and] at h1
 exact h1.symm
theorem sent_pair {n0 n1 : String} {g0 g1 : Nat} {d0 d1 : List UInt8} {W : World} (h : laidMet Tryz.prog [(n0, .iface "*errors.errorString" (.ptr (.agg [.lit (.string d0)]))), (n1, .iface "*errors.errorString" (.ptr (.agg [.lit (.string d1)])))] W)
    (hg0 : Tryz.prog.globalNamed n0 = some g0) (ht0 : (Tryz.prog.globals[g0]?).map (·.type) = some 46) (hg1 : Tryz.prog.globalNamed n1 = some g1) (ht1 : (Tryz.prog.globals[g1]?).map (·.type) = some 46) :
    ∃ a0 a1, GErr g0 a0 W /\ GErr g1 a1 W /\ a0 ≠ a1 /\ (∃ c t, W.heap[a0.block]? = some (.cells c t (0, 0))) /\ (∃ c t, W.heap[a1.block]? = some (.cells c t (0, 0))) := by
 obtain ⟨a0, a1, s0, s1, c0, c1, t0, t1, hv0, hv1, _, _, _, _, _, _, hne, hb0, hb1⟩ := laid_sentinels2 (g0 := g0) (g1 := g1) h hg0 ht0 hg1 ht1 Tryz.underlying46 row_es Tryz.underlying270 Tryz.underlying290 rfl rfl Tryz.underlying9 (by kernel_rfl) (by kernel_rfl)
 have hcell0 := World.var?_cell (g := g0) hg0 hv0 0
 have hcell0 : W.cell? ⟨g0, 0, none⟩ = some (.iface 270 (.pointer (some a0))) := by simpa using hcell0
 have hcell1 := World.var?_cell (g := g1) hg1 hv1 0
 have hcell1 : W.cell? ⟨g1, 0, none⟩ = some (.iface 270 (.pointer (some a1))) := by simpa using hcell1
 exact ⟨a0, a1, ⟨World.block_lt_of_cell? _ _ hcell0, hcell0⟩, ⟨World.block_lt_of_cell? _ _ hcell1, hcell1⟩, hne, ⟨c0, t0, hb0⟩, ⟨c1, t1, hb1⟩⟩
theorem sent_first {gk gj : Nat} {p : Addr} {W : World} (hk : GErr gk p W) (h : ∃ a0 a1, GErr gj a0 W /\ GErr gk a1 W /\ a0 ≠ a1 /\ (∃ c t, W.heap[a0.block]? = some (.cells c t (0, 0))) /\ (∃ c t, W.heap[a1.block]? = some (.cells c t (0, 0)))) : SentQ gj p W /\ ∃ c t, W.heap[p.block]? = some (.cells c t (0, 0)) := by
 obtain ⟨a0, a1, h0, h1, hne, ⟨c, t, hb⟩, hc⟩ := h
 obtain rfl := hk.uniq h1
 exact ⟨⟨a0, c, t, h0, hne, hb⟩, hc⟩
end Go.Proofs.YtgikimbafakmcaaGreatDoor

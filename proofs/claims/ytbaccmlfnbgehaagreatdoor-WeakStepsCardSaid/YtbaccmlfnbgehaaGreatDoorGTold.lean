/-
  Lemmas.
-/
import Derived.Test.YtbaccmlfnbgehaaGreatDoorGAs
import Derived.Deep.RegionHeld3
import Derived.Deep.QuietTactic
import Derived.BigQuiet
import Derived.Stop.LaidTwo
import Derived.Test.YtbaccmlfnbgehaaGreatDoorGMem
set_option maxHeartbeats 2000000
set_option maxRecDepth 100000
open Array renaming getElem?_eq_some_iff → l0
open Option renaming map_eq_some_iff → l1
open Nat renaming le_refl → l2
open List renaming length_filter_le → l3, length_map → l4, getD → l5
open Go.Proofs.Tryz
namespace Go.Proofs.YtbaccmlfnbgehaaGreatDoor
open Go.RowKit Go.Extern.Stop Go.Stop Go.Extern Pl
open Lib (hid)
theorem v0t (b : Addr) (w : World) :
    Calls prog 105 #[.iface 278 (.pointer (some b)), .iface 278 (.pointer (some b))] w fun e w' => e = .returned (.bool true) /\ w = w' := by
 obtain ⟨i, hi, hcmp⟩ := l1.1 isComp
 obtain ⟨j, hj, hjs⟩ := l1.1 isSize
 have tT := isTypeOf
 have cT := isComparable
 have mR := isMethodComparable
 have nE := noIsE
 have uE := noUnwrapE
 have vE := noUnwrapsE
 have heq := run_eql_iface_ptr_same (P := prog) w b underlying47 underlying278 hi hcmp hj
 go_enter func105, ntmps105
 go_wp2
 refine wp_loop_rounds 1 ?_
 rw [rounds_succ]
 go_wp2
 go_ret
 exact ⟨rfl, rfl⟩
theorem q1v (b a : Addr) (ca cb : Array Value) (ta tb : TypeId) (w : World) (hne : a ≠ b) (ha : w.heap[a.block]? = some (.cells ca ta (0, 0))) (hb : w.heap[b.block]? = some (.cells cb tb (0, 0))) :
    Calls prog 105 #[.iface 278 (.pointer (some a)), .iface 278 (.pointer (some b))] w fun e w' => e = .returned (.bool false) /\ w = w' := by
 obtain ⟨i, hi, hcmp⟩ := l1.1 isComp
 obtain ⟨j, hj, hjs⟩ := l1.1 isSize
 have tT := isTypeOf
 have cT := isComparable
 have mR := isMethodComparable
 have nE := noIsE
 have uE := noUnwrapE
 have vE := noUnwrapsE
 have heq := run_eql_iface_ptr_other (P := prog) w underlying47 underlying278 hi hcmp hj (by rw [hjs]; decide) hne ha hb
 go_enter func105, ntmps105
 go_wp2
 refine wp_loop_rounds 1 ?_
 rw [rounds_succ]
 go_wp2
 go_ret
 exact ⟨rfl, rfl⟩
def gE : Nat -> Nat
  | 1 => 3
  | 2 => 2
  | 3 => 0
  | 4 => 4
  | 5 => 5
  | 6 => 6
  | 7 => 7
  | 8 => 8
  | 9 => 9
  | 10 => 10
  | 11 => 13
  | 12 => 14
  | 13 => 1
  | 14 => 15
  | 15 => 16
  | 16 => 17
  | 17 => 18
  | 18 => 19
  | 19 => 20
  | _ => 0
structure ErrsK (k : Nat) (p : Addr) (w : World) : Prop where
  sys : GErr (gE k) p w
  blk : ∃ c t, w.heap[p.block]? = some (.cells c t (0, 0))
  oth : ∀ j, 1 <= j -> j < k -> SentQ (gE j) p w
theorem ErrsK.below {k : Nat} {p : Addr} {w w' : World} (h : ErrsK k p w) (hB : Below w.heap.size w w') : ErrsK k p w' :=
  ⟨h.sys.below hB, by obtain ⟨c, t, h1⟩ := h.blk; exact ⟨c, t, by rw [hB.block _ (l0.1 h1).1]; exact h1⟩, fun j h1 h2 => (h.oth j h1 h2).below hB⟩
structure CodeW (w : World) (v : Value) (k : Nat) : Prop where
  same : ∃ q, w.cell? ⟨gE k, 0, none⟩ = some (.iface 278 (.pointer (some q))) /\ Calls prog 105 #[v, .iface 278 (.pointer (some q))] w fun e w' => e = .returned (.bool true) /\ w = w'
  oth : ∀ j, 1 <= j -> j < k -> ∃ q, w.cell? ⟨gE j, 0, none⟩ = some (.iface 278 (.pointer (some q))) /\ Calls prog 105 #[v, .iface 278 (.pointer (some q))] w fun e w' => e = .returned (.bool false) /\ w = w'
theorem u2n {k : Nat} {p : Addr} {w : World} (h : ErrsK k p w) : CodeW w (.iface 278 (.pointer (some p))) k :=
  ⟨⟨p, h.sys.cell, v0t p w⟩, fun j h1 h2 => by
    obtain ⟨q, c, t, h3, h4, h5⟩ := h.oth j h1 h2
    obtain ⟨c2, t2, h6⟩ := h.blk
    exact ⟨q, h3.cell, q1v q p c2 c t2 t w (Ne.symm h4) h6 h5⟩⟩
theorem p3g {k : Nat} {p : Addr} {w : World} {fb : Nat} (h : ErrsK k p w) (hc : w.cell? ⟨fb, 3, none⟩ = some (.iface 278 (.pointer (some p)))) : CodeW w (.iface 85 (.pointer (some ⟨fb, 0, none⟩))) k :=
  ⟨⟨p, h.sys.cell, k1t fb p w hc⟩, fun j h1 h2 => by
    obtain ⟨q, c, t, h3, h4, h5⟩ := h.oth j h1 h2
    obtain ⟨c2, t2, h6⟩ := h.blk
    exact ⟨q, h3.cell, u0r fb q p c2 c t2 t w hc (Ne.symm h4) h6 h5⟩⟩
theorem p3f {k : Nat} {p : Addr} {w : World} {fb fc : Nat} (h : ErrsK k p w) (h0 : w.cell? ⟨fb, 3, none⟩ = some (.iface 85 (.pointer (some ⟨fc, 0, none⟩)))) (hc : w.cell? ⟨fc, 3, none⟩ = some (.iface 278 (.pointer (some p)))) : CodeW w (.iface 85 (.pointer (some ⟨fb, 0, none⟩))) k :=
  ⟨⟨p, h.sys.cell, u0s fb fc p w h0 hc⟩, fun j h1 h2 => by
    obtain ⟨q, c, t, h3, h4, h5⟩ := h.oth j h1 h2
    obtain ⟨c2, t2, h6⟩ := h.blk
    exact ⟨q, h3.cell, q0v fb fc q p c2 c t2 t w h0 hc (Ne.symm h4) h6 h5⟩⟩
theorem x2j {w : World} {T : TypeId} {x : Value} (h : CodeW w (.iface T x) 2) :
    Calls prog 39 #[.iface T x] w fun e w' => e = .returned (.int .i64 2) /\ w = w' := by
 obtain ⟨q1, c1, i1⟩ := h.oth 1 (by decide) (by decide)
 have I1 := hid i1; clear i1
 simp only [gE] at c1
 obtain ⟨q2, c2, i2⟩ := h.same
 have I2 := hid i2; clear i2
 simp only [gE] at c2
 clear h
 go_enter func39, ntmps39
 go_wp2_with fail
 refine I1.out.mono ?_
 rintro e w' ⟨rfl, rfl⟩
 go_wp2_with fail
 refine I2.out.mono ?_
 rintro e w' ⟨rfl, rfl⟩
 go_wp2
 go_ret
 exact ⟨rfl, rfl⟩
theorem j2b {w : World} {T : TypeId} {x : Value} (h : CodeW w (.iface T x) 13) :
    Calls prog 106 #[.iface T x] w fun e w' => e = .returned (.int .i64 13) /\ w = w' := by
 obtain ⟨q11, c11, i11⟩ := h.oth 11 (by decide) (by decide)
 have I11 := hid i11; clear i11
 simp only [gE] at c11
 obtain ⟨q12, c12, i12⟩ := h.oth 12 (by decide) (by decide)
 have I12 := hid i12; clear i12
 simp only [gE] at c12
 obtain ⟨q13, c13, i13⟩ := h.same
 have I13 := hid i13; clear i13
 simp only [gE] at c13
 clear h
 go_enter func106, ntmps106
 go_wp2_with fail
 refine I11.out.mono ?_
 rintro e w' ⟨rfl, rfl⟩
 go_wp2_with fail
 refine I12.out.mono ?_
 rintro e w' ⟨rfl, rfl⟩
 go_wp2_with fail
 refine I13.out.mono ?_
 rintro e w' ⟨rfl, rfl⟩
 go_wp2
 go_ret
 exact ⟨rfl, rfl⟩
theorem j2y {w : World} {T : TypeId} {x : Value} (h : CodeW w (.iface T x) 13) :
    Calls prog 39 #[.iface T x] w fun e w' => e = .returned (.int .i64 13) /\ w = w' := by
 obtain ⟨q1, c1, i1⟩ := h.oth 1 (by decide) (by decide)
 have I1 := hid i1; clear i1
 simp only [gE] at c1
 obtain ⟨q2, c2, i2⟩ := h.oth 2 (by decide) (by decide)
 have I2 := hid i2; clear i2
 simp only [gE] at c2
 obtain ⟨q3, c3, i3⟩ := h.oth 3 (by decide) (by decide)
 have I3 := hid i3; clear i3
 simp only [gE] at c3
 obtain ⟨q4, c4, i4⟩ := h.oth 4 (by decide) (by decide)
 have I4 := hid i4; clear i4
 simp only [gE] at c4
 obtain ⟨q5, c5, i5⟩ := h.oth 5 (by decide) (by decide)
 have I5 := hid i5; clear i5
 simp only [gE] at c5
 obtain ⟨q6, c6, i6⟩ := h.oth 6 (by decide) (by decide)
 have I6 := hid i6; clear i6
 simp only [gE] at c6
 obtain ⟨q7, c7, i7⟩ := h.oth 7 (by decide) (by decide)
 have I7 := hid i7; clear i7
 simp only [gE] at c7
 obtain ⟨q8, c8, i8⟩ := h.oth 8 (by decide) (by decide)
 have I8 := hid i8; clear i8
 simp only [gE] at c8
 obtain ⟨q9, c9, i9⟩ := h.oth 9 (by decide) (by decide)
 have I9 := hid i9; clear i9
 simp only [gE] at c9
 obtain ⟨q10, c10, i10⟩ := h.oth 10 (by decide) (by decide)
 have I10 := hid i10; clear i10
 simp only [gE] at c10
 have HR := hid (j2b h)
 clear h
 go_enter func39, ntmps39
 go_wp2_with fail
 refine I1.out.mono ?_
 rintro e w' ⟨rfl, rfl⟩
 go_wp2_with fail
 refine I2.out.mono ?_
 rintro e w' ⟨rfl, rfl⟩
 go_wp2_with fail
 refine I3.out.mono ?_
 rintro e w' ⟨rfl, rfl⟩
 go_wp2_with fail
 refine I4.out.mono ?_
 rintro e w' ⟨rfl, rfl⟩
 go_wp2_with fail
 refine I5.out.mono ?_
 rintro e w' ⟨rfl, rfl⟩
 go_wp2_with fail
 refine I6.out.mono ?_
 rintro e w' ⟨rfl, rfl⟩
 go_wp2_with fail
 refine I7.out.mono ?_
 rintro e w' ⟨rfl, rfl⟩
 go_wp2_with fail
 refine I8.out.mono ?_
 rintro e w' ⟨rfl, rfl⟩
 go_wp2_with fail
 refine I9.out.mono ?_
 rintro e w' ⟨rfl, rfl⟩
 go_wp2_with fail
 refine I10.out.mono ?_
 rintro e w' ⟨rfl, rfl⟩
 go_wp2_with fail
 refine HR.out.mono ?_
 rintro e w' ⟨rfl, rfl⟩
 go_wp2
 go_ret
 exact ⟨rfl, rfl⟩
theorem j2a {w : World} {T : TypeId} {x : Value} (h : CodeW w (.iface T x) 14) :
    Calls prog 106 #[.iface T x] w fun e w' => e = .returned (.int .i64 14) /\ w = w' := by
 obtain ⟨q11, c11, i11⟩ := h.oth 11 (by decide) (by decide)
 have I11 := hid i11; clear i11
 simp only [gE] at c11
 obtain ⟨q12, c12, i12⟩ := h.oth 12 (by decide) (by decide)
 have I12 := hid i12; clear i12
 simp only [gE] at c12
 obtain ⟨q13, c13, i13⟩ := h.oth 13 (by decide) (by decide)
 have I13 := hid i13; clear i13
 simp only [gE] at c13
 obtain ⟨q14, c14, i14⟩ := h.same
 have I14 := hid i14; clear i14
 simp only [gE] at c14
 clear h
 go_enter func106, ntmps106
 go_wp2_with fail
 refine I11.out.mono ?_
 rintro e w' ⟨rfl, rfl⟩
 go_wp2_with fail
 refine I12.out.mono ?_
 rintro e w' ⟨rfl, rfl⟩
 go_wp2_with fail
 refine I13.out.mono ?_
 rintro e w' ⟨rfl, rfl⟩
 go_wp2_with fail
 refine I14.out.mono ?_
 rintro e w' ⟨rfl, rfl⟩
 go_wp2
 go_ret
 exact ⟨rfl, rfl⟩
theorem j2x {w : World} {T : TypeId} {x : Value} (h : CodeW w (.iface T x) 14) :
    Calls prog 39 #[.iface T x] w fun e w' => e = .returned (.int .i64 14) /\ w = w' := by
 obtain ⟨q1, c1, i1⟩ := h.oth 1 (by decide) (by decide)
 have I1 := hid i1; clear i1
 simp only [gE] at c1
 obtain ⟨q2, c2, i2⟩ := h.oth 2 (by decide) (by decide)
 have I2 := hid i2; clear i2
 simp only [gE] at c2
 obtain ⟨q3, c3, i3⟩ := h.oth 3 (by decide) (by decide)
 have I3 := hid i3; clear i3
 simp only [gE] at c3
 obtain ⟨q4, c4, i4⟩ := h.oth 4 (by decide) (by decide)
 have I4 := hid i4; clear i4
 simp only [gE] at c4
 obtain ⟨q5, c5, i5⟩ := h.oth 5 (by decide) (by decide)
 have I5 := hid i5; clear i5
 simp only [gE] at c5
 obtain ⟨q6, c6, i6⟩ := h.oth 6 (by decide) (by decide)
 have I6 := hid i6; clear i6
 simp only [gE] at c6
 obtain ⟨q7, c7, i7⟩ := h.oth 7 (by decide) (by decide)
 have I7 := hid i7; clear i7
 simp only [gE] at c7
 obtain ⟨q8, c8, i8⟩ := h.oth 8 (by decide) (by decide)
 have I8 := hid i8; clear i8
 simp only [gE] at c8
 obtain ⟨q9, c9, i9⟩ := h.oth 9 (by decide) (by decide)
 have I9 := hid i9; clear i9
 simp only [gE] at c9
 obtain ⟨q10, c10, i10⟩ := h.oth 10 (by decide) (by decide)
 have I10 := hid i10; clear i10
 simp only [gE] at c10
 have HR := hid (j2a h)
 clear h
 go_enter func39, ntmps39
 go_wp2_with fail
 refine I1.out.mono ?_
 rintro e w' ⟨rfl, rfl⟩
 go_wp2_with fail
 refine I2.out.mono ?_
 rintro e w' ⟨rfl, rfl⟩
 go_wp2_with fail
 refine I3.out.mono ?_
 rintro e w' ⟨rfl, rfl⟩
 go_wp2_with fail
 refine I4.out.mono ?_
 rintro e w' ⟨rfl, rfl⟩
 go_wp2_with fail
 refine I5.out.mono ?_
 rintro e w' ⟨rfl, rfl⟩
 go_wp2_with fail
 refine I6.out.mono ?_
 rintro e w' ⟨rfl, rfl⟩
 go_wp2_with fail
 refine I7.out.mono ?_
 rintro e w' ⟨rfl, rfl⟩
 go_wp2_with fail
 refine I8.out.mono ?_
 rintro e w' ⟨rfl, rfl⟩
 go_wp2_with fail
 refine I9.out.mono ?_
 rintro e w' ⟨rfl, rfl⟩
 go_wp2_with fail
 refine I10.out.mono ?_
 rintro e w' ⟨rfl, rfl⟩
 go_wp2_with fail
 refine HR.out.mono ?_
 rintro e w' ⟨rfl, rfl⟩
 go_wp2
 go_ret
 exact ⟨rfl, rfl⟩
def CodeIn (k : Nat) : Prop := k = 2 ∨ k = 13 ∨ k = 14
theorem z0m {w : World} {T : TypeId} {x : Value} {k : Nat} (hk : CodeIn k) (h : CodeW w (.iface T x) k) :
    Calls prog 39 #[.iface T x] w fun e w' => e = .returned (.int .i64 (k : Int)) /\ w = w' := by
 unfold CodeIn at hk
 rcases hk with rfl | rfl | rfl
 · exact x2j h
 · exact j2y h
 · exact j2x h
/-! Told -/
theorem x2v (v : Value) (xT : TypeId) (w : World) : (Instr.typeAssert (.iface 85 v) xT 85 true).run prog w = .ok (.tuple #[v, .bool true]) w := by kernel_rfl
theorem u1m (v : Value) (xT : TypeId) (w : World) : (Instr.typeAssert (.iface 278 v) xT 85 true).run prog w = .ok (.tuple #[.pointer none, .bool false]) w := by kernel_rfl
theorem j1t (a b : Int) (s : ByteArray) (w : World) : Calls prog 12 #[.nilIface, .agg #[.int .i64 0, .int .i64 a, .int .i64 b, .string s]] w fun e w' => e = .returned (.bool true) /\ Below w.heap.size w w' := by
 go_enter func12, ntmps12
 go_wp2_with fail
 go_ret
 exact ⟨rfl, (Below.refl _ _).alloc (l2 _) _⟩
theorem j1s {p : Addr} {w : World} {k : Nat} (hk : CodeIn k) (hE : ErrsK k p w) {v : Value} {l : ByteArray} (hF : FaultAt w v l (.iface 278 (.pointer (some p)))) (hl : l.size <= 1000) :
    Calls prog 12 #[v, .agg #[.int .i64 (k : Int), .int .i64 0, .int .i64 0, .string (l ++ ⟨#[32]⟩)]] w fun e w' => e = .returned (.bool true) /\ Below w.heap.size w w' := by
 obtain ⟨fb, rfl, hf⟩ := hF.ex
 obtain ⟨W, hW⟩ : ∃ W, W = w.alloc (.cells #[.int .i64 (k : Int), .int .i64 0, .int .i64 0, .string (l ++ ⟨#[32]⟩)] 29) := ⟨_, rfl⟩
 have hB : Below w.heap.size w W := by rw [hW]; exact (Below.refl w.heap.size w).alloc (l2 _) _
 have hb := heap_alloc_new w (.cells #[.int .i64 (k : Int), .int .i64 0, .int .i64 0, .string (l ++ ⟨#[32]⟩)] 29)
 rw [<- hW] at hb
 have hf1 := (hB.block fb (l0.1 hf).1).trans hf
 have e0 : W.cell? ⟨w.heap.size, 0, none⟩ = some (.int .i64 (k : Int)) := by simp [World.cell?, hb]
 have e1 : W.cell? ⟨w.heap.size, 1, none⟩ = some (.int .i64 0) := by simp [World.cell?, hb]
 have e2 : W.cell? ⟨w.heap.size, 2, none⟩ = some (.int .i64 0) := by simp [World.cell?, hb]
 have e3 : W.cell? ⟨w.heap.size, 3, none⟩ = some (.string (l ++ ⟨#[32]⟩)) := by simp [World.cell?, hb]
 have el := (l0.1 hb).1
 have f0 : W.cell? ⟨fb, 0, none⟩ = some (.string l) := by simp [World.cell?, hf1]
 have f1 : W.cell? ⟨fb, 1, none⟩ = some (.int .i64 0) := by simp [World.cell?, hf1]
 have f2 : W.cell? ⟨fb, 2, none⟩ = some (.int .i64 0) := by simp [World.cell?, hf1]
 have f3 : W.cell? ⟨fb, 3, none⟩ = some (.iface 278 (.pointer (some p))) := by simp [World.cell?, hf1]
 have fl := (l0.1 hf1).1
 have HC1 : Hid (∀ V, Below W.heap.size W V -> Calls prog 39 #[.iface 85 (.pointer (some ⟨fb, 0, none⟩))] V fun e w' => e = .returned (.int .i64 (k : Int)) /\ V = w') := hid (fun V hV => z0m hk (p3g ((hE.below hB).below hV) (by rw [hV.cell (p := ⟨fb, 3, none⟩) fl]; exact f3)))
 have HC0 : Hid (∀ V, Below W.heap.size W V -> Calls prog 39 #[.iface 278 (.pointer (some p))] V fun e w' => e = .returned (.int .i64 (k : Int)) /\ V = w') := hid (fun V hV => z0m hk (u2n ((hE.below hB).below hV)))
 have hk0 : ((k : Int) == 0) = false := by unfold CodeIn at hk; simp; omega
 have HB := hid hB
 have hz1 : ¬ 9223372036854775807 < l.size := by omega
 have hz2 : ¬ 9223372036854775807 < l.size + 1 := by omega
 have hem : ({ data := #[] } : ByteArray) ++ l = l := ByteArray.empty_append
 have aF := x2v
 have aE := u1m
 have HWE := hid hW
 clear hE hf hB hf1 hk hF hb hW
 go_enter func12, ntmps12
 go_wp2_with fail
 rw [<- HWE.out]
 go_region_held3 (fun w' => w'.cell? ⟨w.heap.size, 0, none⟩ = some (.int .i64 (k : Int))) (first | exact e0 | assumption) ((go_at_call 39; refine (HC1.out _ (Below.refl _ _).drew).mono ?_; rintro e w5 ⟨rfl, rfl⟩))
 go_wp2_with fail
 refine wp_loop_rounds 2 ?_
 rw [rounds_succ]
 go_wp2_with fail
 go_quiet (fail)
 go_wp2_with fail
 try rw [hem]
 rw [rounds_succ]
 go_wp2_with fail
 go_region_held3 (fun w' => w'.cell? ⟨w.heap.size, 0, none⟩ = some (.int .i64 (k : Int)) /\ w'.cell? ⟨w.heap.size, 3, none⟩ = some (.string (l ++ ⟨#[32]⟩))) (first | exact ⟨e0, e3⟩ | assumption) ((go_at_call 39; refine (HC0.out (W.drewN _) (j0q (Below.refl _ _))).mono ?_; rintro e w5 ⟨rfl, rfl⟩))
 go_wp2_with fail
 go_ret
 exact ⟨rfl, j0q HB.out⟩
theorem z1t {p : Addr} {w : World} {k : Nat} (hk : CodeIn k) (hE : ErrsK k p w) {v vi : Value} {l m : ByteArray} (hF : FaultAt w v l vi) (hF2 : FaultAt w vi m (.iface 278 (.pointer (some p)))) (hl : l.size <= 1000) (hm : m.size <= 1000) :
    Calls prog 12 #[v, .agg #[.int .i64 (k : Int), .int .i64 0, .int .i64 0, .string (l ++ ⟨#[32]⟩ ++ m ++ ⟨#[32]⟩)]] w fun e w' => e = .returned (.bool true) /\ Below w.heap.size w w' := by
 obtain ⟨fb, rfl, hf⟩ := hF.ex
 obtain ⟨fc, rfl, hg⟩ := hF2.ex
 obtain ⟨W, hW⟩ : ∃ W, W = w.alloc (.cells #[.int .i64 (k : Int), .int .i64 0, .int .i64 0, .string (l ++ ⟨#[32]⟩ ++ m ++ ⟨#[32]⟩)] 29) := ⟨_, rfl⟩
 have hB : Below w.heap.size w W := by rw [hW]; exact (Below.refl w.heap.size w).alloc (l2 _) _
 have hb := heap_alloc_new w (.cells #[.int .i64 (k : Int), .int .i64 0, .int .i64 0, .string (l ++ ⟨#[32]⟩ ++ m ++ ⟨#[32]⟩)] 29)
 rw [<- hW] at hb
 have hf1 := (hB.block fb (l0.1 hf).1).trans hf
 have hg1 := (hB.block fc (l0.1 hg).1).trans hg
 have e0 : W.cell? ⟨w.heap.size, 0, none⟩ = some (.int .i64 (k : Int)) := by simp [World.cell?, hb]
 have e1 : W.cell? ⟨w.heap.size, 1, none⟩ = some (.int .i64 0) := by simp [World.cell?, hb]
 have e2 : W.cell? ⟨w.heap.size, 2, none⟩ = some (.int .i64 0) := by simp [World.cell?, hb]
 have e3 : W.cell? ⟨w.heap.size, 3, none⟩ = some (.string (l ++ ⟨#[32]⟩ ++ m ++ ⟨#[32]⟩)) := by simp [World.cell?, hb]
 have el := (l0.1 hb).1
 have f0 : W.cell? ⟨fb, 0, none⟩ = some (.string l) := by simp [World.cell?, hf1]
 have f1 : W.cell? ⟨fb, 1, none⟩ = some (.int .i64 0) := by simp [World.cell?, hf1]
 have f2 : W.cell? ⟨fb, 2, none⟩ = some (.int .i64 0) := by simp [World.cell?, hf1]
 have f3 : W.cell? ⟨fb, 3, none⟩ = some (.iface 85 (.pointer (some ⟨fc, 0, none⟩))) := by simp [World.cell?, hf1]
 have g0 : W.cell? ⟨fc, 0, none⟩ = some (.string m) := by simp [World.cell?, hg1]
 have g1 : W.cell? ⟨fc, 1, none⟩ = some (.int .i64 0) := by simp [World.cell?, hg1]
 have g2 : W.cell? ⟨fc, 2, none⟩ = some (.int .i64 0) := by simp [World.cell?, hg1]
 have g3 : W.cell? ⟨fc, 3, none⟩ = some (.iface 278 (.pointer (some p))) := by simp [World.cell?, hg1]
 have gl := (l0.1 hg1).1
 have fl := (l0.1 hf1).1
 have HC1 : Hid (∀ V, Below W.heap.size W V -> Calls prog 39 #[.iface 85 (.pointer (some ⟨fb, 0, none⟩))] V fun e w' => e = .returned (.int .i64 (k : Int)) /\ V = w') := hid (fun V hV => z0m hk (p3f ((hE.below hB).below hV) (by rw [hV.cell (p := ⟨fb, 3, none⟩) fl]; exact f3) (by rw [hV.cell (p := ⟨fc, 3, none⟩) gl]; exact g3)))
 have HC0 : Hid (∀ V, Below W.heap.size W V -> Calls prog 39 #[.iface 278 (.pointer (some p))] V fun e w' => e = .returned (.int .i64 (k : Int)) /\ V = w') := hid (fun V hV => z0m hk (u2n ((hE.below hB).below hV)))
 have hk0 : ((k : Int) == 0) = false := by unfold CodeIn at hk; simp; omega
 have HB := hid hB
 have hz1 : ¬ 9223372036854775807 < l.size := by omega
 have hz2 : ¬ 9223372036854775807 < l.size + 1 := by omega
 have hz3 : ¬ 9223372036854775807 < l.size + 1 + m.size := by omega
 have hz4 : ¬ 9223372036854775807 < l.size + 1 + m.size + 1 := by omega
 have hem : ({ data := #[] } : ByteArray) ++ l = l := ByteArray.empty_append
 have aF := x2v
 have aE := u1m
 have HWE := hid hW
 clear hE hf hg hB hf1 hg1 hk hF hF2 hb hW
 go_enter func12, ntmps12
 go_wp2_with fail
 rw [<- HWE.out]
 go_region_held3 (fun w' => w'.cell? ⟨w.heap.size, 0, none⟩ = some (.int .i64 (k : Int))) (first | exact e0 | assumption) ((go_at_call 39; refine (HC1.out _ (Below.refl _ _).drew).mono ?_; rintro e w5 ⟨rfl, rfl⟩))
 go_wp2_with fail
 refine wp_loop_rounds 3 ?_
 rw [rounds_succ]
 go_wp2_with fail
 go_quiet (fail)
 go_wp2_with fail
 try rw [hem]
 rw [rounds_succ]
 go_wp2_with fail
 go_quiet (fail)
 go_wp2_with fail
 rw [rounds_succ]
 go_wp2_with fail
 go_region_held3 (fun w' => w'.cell? ⟨w.heap.size, 0, none⟩ = some (.int .i64 (k : Int)) /\ w'.cell? ⟨w.heap.size, 3, none⟩ = some (.string (l ++ ⟨#[32]⟩ ++ m ++ ⟨#[32]⟩))) (first | exact ⟨e0, e3⟩ | assumption) ((go_at_call 39; refine (HC0.out (W.drewN _) (j0q (Below.refl _ _))).mono ?_; rintro e w5 ⟨rfl, rfl⟩))
 go_wp2_with fail
 go_ret
 exact ⟨rfl, j0q HB.out⟩
end Go.Proofs.YtbaccmlfnbgehaaGreatDoor
namespace Go.Proofs.YtbaccmlfnbgehaaGreatDoor
open Go.ChangeShapes Go.WideShapes Go.ChangeAt Go.RowKit Go.Lib
theorem GErr.uniq {g : Nat} {p q : Addr} {W : World} (h : GErr g p W) (h' : GErr g q W) : p = q := by
 have h1 := h.cell
 rw [h'.cell] at h1
 simp only [Option.some.injEq, Value.iface.injEq, Value.pointer.injEq, true_and] at h1
 exact h1.symm
theorem j0k {n0 n1 : String} {g0 g1 : Nat} {d0 d1 : List UInt8} {W : World} (h : laidMet prog [(n0, .iface "*errors.errorString" (.ptr (.agg [.lit (.string d0)]))), (n1, .iface "*errors.errorString" (.ptr (.agg [.lit (.string d1)])))] W)
    (hg0 : prog.globalNamed n0 = some g0) (ht0 : (prog.globals[g0]?).map (·.type) = some 47) (hg1 : prog.globalNamed n1 = some g1) (ht1 : (prog.globals[g1]?).map (·.type) = some 47) :
    ∃ a0 a1, GErr g0 a0 W /\ GErr g1 a1 W /\ a0 ≠ a1 /\ (∃ c t, W.heap[a0.block]? = some (.cells c t (0, 0))) /\ (∃ c t, W.heap[a1.block]? = some (.cells c t (0, 0))) := by
 obtain ⟨a0, a1, s0, s1, c0, c1, t0, t1, hv0, hv1, _, _, _, _, _, _, hne, hb0, hb1⟩ := laid_sentinels2 (g0 := g0) (g1 := g1) h hg0 ht0 hg1 ht1 underlying47 p2p underlying278 underlying296 rfl rfl underlying9 (by kernel_rfl) (by kernel_rfl)
 have hcell0 := World.var?_cell (g := g0) hg0 hv0 0
 have hcell0 : W.cell? ⟨g0, 0, none⟩ = some (.iface 278 (.pointer (some a0))) := by simpa using hcell0
 have hcell1 := World.var?_cell (g := g1) hg1 hv1 0
 have hcell1 : W.cell? ⟨g1, 0, none⟩ = some (.iface 278 (.pointer (some a1))) := by simpa using hcell1
 exact ⟨a0, a1, ⟨World.block_lt_of_cell? _ _ hcell0, hcell0⟩, ⟨World.block_lt_of_cell? _ _ hcell1, hcell1⟩, hne, ⟨c0, t0, hb0⟩, ⟨c1, t1, hb1⟩⟩
theorem j0i {gk gj : Nat} {p : Addr} {W : World} (hk : GErr gk p W) (h : ∃ a0 a1, GErr gj a0 W /\ GErr gk a1 W /\ a0 ≠ a1 /\ (∃ c t, W.heap[a0.block]? = some (.cells c t (0, 0))) /\ (∃ c t, W.heap[a1.block]? = some (.cells c t (0, 0)))) : SentQ gj p W /\ ∃ c t, W.heap[p.block]? = some (.cells c t (0, 0)) := by
 obtain ⟨a0, a1, h0, h1, hne, ⟨c, t, hb⟩, hc⟩ := h
 obtain rfl := hk.uniq h1
 exact ⟨⟨a0, c, t, h0, hne, hb⟩, hc⟩
end Go.Proofs.YtbaccmlfnbgehaaGreatDoor
namespace Go.Proofs.YtbaccmlfnbgehaaGreatDoor
open Go.RowKit Pl
def fil (label : Int) (ss : List S) : List Value := (ss.filter (fun s => s.1 == label)).map fun s => .int .i64 s.2
theorem v2f (label : Int) (ss : List S) (k : Nat) (h : k < ss.length) : fil label (ss.take (k+1)) = fil label (ss.take k) ++ (if (ss.getD k (0,0)).1 == label then [.int .i64 (ss.getD k (0,0)).2] else []) := by
 rw [List.take_succ_eq_append_getElem h]
 unfold fil
 rw [List.filter_append, List.map_append]
 simp only [l5, List.getElem?_eq_getElem h, Option.getD_some]
 by_cases hx : (ss[k].1 == label) = true <;> simp [List.filter, hx]
theorem p3a (label : Int) (ss : List S) (k : Nat) : (fil label (ss.take k)).length <= ss.length := by
 unfold fil; rw [l4]; exact Nat.le_trans (l3 _ _) (by simp; omega)
theorem y2e (a : Option Addr) (b off c : Nat) (ss : List S) (label : Int) (w : World) (hlen : ss.length <= 20000)
    (ha : 0 < ss.length -> a = some ⟨b, off, none⟩) (hb : b < w.heap.size)
    (h0 : ∀ i, i < ss.length -> w.cell? ⟨b, off + i * 2, none⟩ = some (.int .i64 (ss.getD i (0,0)).1))
    (h1 : ∀ i, i < ss.length -> w.cell? ⟨b, off + i * 2 + 1, none⟩ = some (.int .i64 (ss.getD i (0,0)).2)) :
    Calls prog 194 #[.slice a ss.length c, .int .i64 label] w fun e w' =>
      ∃ v, e = .returned v /\ w'.ownsRow w.heap.size 3 1 v ((fil label ss).length) (fil label ss) /\ Below w.heap.size w w' := by
 go_enter func194, ntmps194
 go_wp2
 go_loopw [5, 10] (fun v i wr => ∃ k : Nat, k <= ss.length /\ i = .int .i64 k /\ wr.ownsRow w.heap.size 3 1 v ((fil label (ss.take k)).length) (fil label (ss.take k)) /\ Below w.heap.size w wr)
   (fun _ i _ => ss.length - (intOf i).toNat)
 case atStart => exact ⟨0, Nat.zero_le _, rfl, World.ownsRow_nil _ _ _ _, Below.refl _ _⟩
 case round => (
 obtain ⟨k, hk, rfl, hown, hnx⟩ := hrel
 by_cases hlt : k < ss.length
 · (
 obtain rfl := ha (by omega)
 have hs := v2f label ss k hlt
 obtain ⟨x, hx⟩ : ∃ x, x = ss.getD k (0,0) := ⟨_, rfl⟩
 have hc0 : wr.cell? ⟨b, off + k * 2, none⟩ = some (.int .i64 x.1) := by rw [hx]; exact (hnx.cell (by exact hb)).trans (h0 k hlt)
 have hc1 : wr.cell? ⟨b, off + k * 2 + 1, none⟩ = some (.int .i64 x.2) := by rw [hx]; exact (hnx.cell (by exact hb)).trans (h1 k hlt)
 have hbr : b < wr.heap.size := Nat.lt_of_lt_of_le hb hnx.size
 rw [<- hx] at hs
 have hle := p3a label ss k
 have hsz := hnx.size
 clear h0 h1 hx ha
 generalize fil label (ss.take k) = f at *
 by_cases hxl : (x.1 == label) = true
 · (
 rw [if_pos hxl] at hs
 have HS := Lib.hid hs; clear hs
 go_wp2_with (at_builtin; refine p0e rfl _ _ _ rfl p2q ((hnx.alloc hsz _).alloc (by simp; omega) _) (by simp; omega) rfl ((hown.alloc _).alloc _) ⟨wr.heap.size + 1, 0, none⟩ 1 1 [.int .i64 x.2] rfl rfl (k0c (by simp [go_sem])) (by simp [Value.oneCell']) (by omega) (by unfold maxLen; omega) ?_; intro v' w1 hown1 hb1 _)
 clear hown hnx
 go_roundw
 case rel => exact ⟨k + 1, by omega, by go_num, by rw [HS.out]; simpa using hown1, hb1⟩
 case measure => simp [intOf]; omega)
 · (
 rw [if_neg hxl] at hs
 have hxl' : (x.1 == label) = false := by simpa using hxl
 have HS := Lib.hid hs; clear hs
 clear hxl
 go_wp2
 go_roundw
 case rel => exact ⟨k + 1, by omega, by go_num, by rw [HS.out]; simpa using hown.alloc _, hnx.alloc hsz _⟩
 case measure => simp [intOf]; omega))
 · (
 clear h0 h1 ha
 go_wp2
 go_ret
 have : k = ss.length := by omega
 subst this
 exact ⟨_, rfl, by simpa using hown, hnx⟩))
theorem y2d (a : Option Addr) (c : Nat) (label : Int) (w : World) :
    Calls prog 194 #[.slice a 0 c, .int .i64 label] w fun e w' =>
      ∃ v, e = .returned v /\ w'.ownsRow w.heap.size 3 1 v 0 [] /\ Below w.heap.size w w' := by
 go_enter func194, ntmps194
 go_wp2
 refine wp_loop_rounds 1 ?_
 rw [rounds_succ]
 go_wp2
 go_ret
 exact ⟨_, rfl, World.ownsRow_nil _ _ _ _, Below.refl _ _⟩
theorem v2g (label : Int) (ss : List S) : fil label ss = (((ss.filter (fun s => s.1 == label)).map fun s => s.2)).flatMap encI := by
 unfold fil
 rw [List.flatMap_map]
 induction (ss.filter (fun s => s.1 == label)) with
 | nil => rfl
 | cons x l ih => simp [ih, encI]
def withL (label : Int) (ss : List S) : List Int := (ss.filter (fun s => s.1 == label)).map fun s => s.2
theorem k2o {a : Option Addr} {b off c : Nat} {ss : List S} {w : World} (h : SlAt encS 2 w a b off ss) (hlen : ss.length <= 20000) (label : Int) :
    Calls prog 194 #[.slice a ss.length c, .int .i64 label] w fun e w' =>
      ∃ v, e = .returned v /\ w'.ownsRow w.heap.size 3 1 v (withL label ss).length ((withL label ss).flatMap encI) /\ Below w.heap.size w w' := by
 by_cases h0 : 0 < ss.length
 · (
 refine (y2e a b off c ss label w hlen h.ad (h.lt h0) (fun i hi => ?_) (fun i hi => ?_)).mono ?_
 · obtain ⟨x, hx⟩ := j0a hi
   rw [l5, hx]; exact h.s0 hx
 · obtain ⟨x, hx⟩ := j0a hi
   rw [l5, hx]; exact h.s1 hx
 · (
 rintro e w' ⟨v, rfl, ho, hB⟩
 rw [v2g] at ho
 refine ⟨v, rfl, ?_, hB⟩
 have hl : (withL label ss).length = ((withL label ss).flatMap encI).length := by rw [j0b p0v]; omega
 unfold withL at *
 rw [hl]; exact ho))
 · have hz : ss = [] := List.eq_nil_of_length_eq_zero (by omega)
   subst hz
   exact y2d a c label w
end Go.Proofs.YtbaccmlfnbgehaaGreatDoor
namespace Go.Proofs.YtbaccmlfnbgehaaGreatDoor
open Go.RowKit Pl
open Lib (hid)
theorem y1w (x y z : Int) (v : Value) (w : World) : (Instr.field 24 (.agg #[.int .i64 x, .int .i64 y, .int .i64 z, v]) 0).run prog w = .ok (.int .i64 x) w := by kernel_rfl
theorem y1v (x y z : Int) (v : Value) (w : World) : (Instr.field 24 (.agg #[.int .i64 x, .int .i64 y, .int .i64 z, v]) 1).run prog w = .ok (.int .i64 y) w := by kernel_rfl
theorem y1u (x y z : Int) (v : Value) (w : World) : (Instr.field 24 (.agg #[.int .i64 x, .int .i64 y, .int .i64 z, v]) 2).run prog w = .ok (.int .i64 z) w := by kernel_rfl
theorem j3u (x y z : Int) (v : Value) (w : World) : (Instr.field 24 (.agg #[.int .i64 x, .int .i64 y, .int .i64 z, v]) 3).run prog w = .ok v w := by kernel_rfl
theorem q0c {s : Lts} (h : s.Right) (i : Int) : (s.outs i).length <= 10000 := by
 have := h.st0
 unfold Lts.outs; rw [l4]
 have := l3 (fun x => x.1 == i) s.es; omega
theorem y1p {s : Lts} (h : s.Right) (i : Int) : (s.ins i).length <= 10000 := by
 have := h.st0
 unfold Lts.ins; rw [l4]
 have := l3 (fun x => x.2.2 == i) (nf ltB s.es)
 have := k0s (lt := ltB) s.es; omega
theorem k1e {w : World} {gb : Nat} {s : Lts} (h : GraphAt w gb s) :
    Calls prog 162 #[.pointer (some ⟨gb, 0, none⟩)] w fun e w' => ∃ a c b off, e = .returned (.agg #[.int .i64 s.st, .int .i64 s.lb, .int .i64 s.s0, .slice a s.es.length c]) /\ s.es.length <= c /\ SlAt encE 3 w' a b off s.es /\ Below w.heap.size w w' := by
 obtain ⟨ve, oa, of, ia, if_, h1, ⟨a, c, b, off, rfl, hcc, h3⟩, _, _⟩ := h.blk
 have c0 : w.cell? ⟨gb, 0, none⟩ = some (.int .i64 s.st) := by simp [World.cell?, h1]
 have c1 : w.cell? ⟨gb, 1, none⟩ = some (.int .i64 s.lb) := by simp [World.cell?, h1]
 have c2 : w.cell? ⟨gb, 2, none⟩ = some (.int .i64 s.s0) := by simp [World.cell?, h1]
 have c3 : w.cell? ⟨gb, 3, none⟩ = some (.slice a s.es.length c) := by simp [World.cell?, h1]
 have hgb := h.lt
 have H3 := hid h3
 clear h h1 h3
 go_enter func162, ntmps162
 go_wp2
 have hB : Below w.heap.size w _ := (Below.refl w.heap.size w).alloc (l2 _) (Obj.cells #[.int .i64 s.st, .int .i64 s.lb, .int .i64 s.s0, .slice a s.es.length c] 24)
 exact bodyPost_ret (v := .agg #[.int .i64 s.st, .int .i64 s.lb, .int .i64 s.s0, .slice a s.es.length c]) (by simp [results, results162, go_sem]) rfl ⟨a, c, b, off, rfl, hcc, H3.out.below hB (l2 _), hB⟩
theorem p0c {w : World} {gb : Nat} {s : Lts} (h : GraphAt w gb s) :
    Calls prog 131 #[.pointer (some ⟨gb, 0, none⟩)] w fun e w' => e = .returned (.int .i64 s.st) /\ Below w.heap.size w w' := by
 have HO := hid (k1e h); clear h
 have hfl := y1w
 have hfl := y1w
 have hfl := y1w
 go_enter func131, ntmps131
 go_wp2_with (go_at_call 162; refine (HO.out).mono ?_; rintro e w1 ⟨a, c, b, off, rfl, hcc, hS, hB⟩; have HS := hid hS; clear hS)
 go_ret
 exact ⟨rfl, hB⟩
theorem k1z {w : World} {gb : Nat} {s : Lts} (h : GraphAt w gb s) :
    Calls prog 130 #[.pointer (some ⟨gb, 0, none⟩)] w fun e w' => e = .returned (.int .i64 s.lb) /\ Below w.heap.size w w' := by
 have HO := hid (k1e h); clear h
 have hfl := y1v
 have hfl := y1v
 have hfl := y1v
 go_enter func130, ntmps130
 go_wp2_with (go_at_call 162; refine (HO.out).mono ?_; rintro e w1 ⟨a, c, b, off, rfl, hcc, hS, hB⟩; have HS := hid hS; clear hS)
 go_ret
 exact ⟨rfl, hB⟩
theorem q1x {w : World} {gb : Nat} {s : Lts} (h : GraphAt w gb s) (i label : Int) :
    Calls prog 175 #[.pointer (some ⟨gb, 0, none⟩), .int .i64 i, .int .i64 label] w fun e w' => ∃ v, e = .returned v /\ w'.ownsRow w.heap.size 3 1 v (withL label (s.outs i)).length ((withL label (s.outs i)).flatMap encI) /\ Below w.heap.size w w' := by
 have hl : (s.outs i).length <= 20000 := by have := q0c h.right i; omega
 have HO := hid (p1e h (Below.refl _ w) i); clear h
 go_enter func175, ntmps175
 go_wp2_with (go_at_call 132; refine (HO.out).mono ?_; rintro e w1 ⟨⟨a, c, b, off, rfl, hc1, hc2, hS⟩, hB⟩; have HS := hid hS; clear hS)
 have hsz := hB.size
 refine (k2o (HS.out.below hB (l2 _)) hl label).mono ?_
 rintro e w2 ⟨v, rfl, hown, hB2⟩
 have HW := hid hown; clear hown
 go_wp2
 go_ret
 exact ⟨v, rfl, j0r HW.out hsz, hB.trans (hB2.mono hsz)⟩
set_option maxRecDepth 100000 in
theorem getFrom_any {w : World} {gb : Nat} {s : Lts} (h : GraphAt w gb s) (i label : Int) :
    Calls prog 176 #[.pointer (some ⟨gb, 0, none⟩), .int .i64 i, .int .i64 label] w fun e w' => ∃ v, e = .returned v /\ w'.ownsRow w.heap.size 3 1 v (withL label (s.ins i)).length ((withL label (s.ins i)).flatMap encI) /\ Below w.heap.size w w' := by
  have hl : (s.ins i).length <= 20000 := by have := y1p h.right i; omega
  have HO := hid (u1l h (Below.refl _ w) i); clear h
  go_enter func176, ntmps176
  go_wp2_with (go_at_call 195; refine (HO.out).mono ?_; rintro e w1 ⟨⟨a, c, b, off, rfl, hc1, hc2, hS⟩, hB⟩; have HS := hid hS; clear hS)
  have hsz := hB.size
  refine (k2o (HS.out.below hB (l2 _)) hl label).mono ?_
  rintro e w2 ⟨v, rfl, hown, hB2⟩
  have HW := hid hown; clear hown
  go_wp2
  go_ret
  exact ⟨v, rfl, j0r HW.out hsz, hB.trans (hB2.mono hsz)⟩
end Go.Proofs.YtbaccmlfnbgehaaGreatDoor

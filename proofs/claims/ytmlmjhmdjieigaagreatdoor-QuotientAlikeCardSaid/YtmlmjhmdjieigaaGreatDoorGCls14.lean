/-
  law14.classes of a right system, of either kind.
  Plain: by either kind, a state that has one is together with its state of the quotient, in their union.
-/
import Derived.Test.YtmlmjhmdjieigaaGreatDoorGQuoY
import Derived.Test.YtmlmjhmdjieigaaGreatDoorGQuoK
namespace Go.Proofs.YtmlmjhmdjieigaaGreatDoor
open Go.RowKit Pl

/-- What classes answers. -/
def Q2 (kind : Bool) (s : Lts) (n : Nat) (w : World) (e : Ending) (w' : World) : Prop :=
  ∃ (C : Nat → Int) (a : Option Addr) (b c : Nat), KBig kind s n C ∧ (∀ p, p < n → 0 ≤ C p ∧ C p < (n : Int)) ∧ e = .returned (.tuple #[.slice a n c, .nilIface]) ∧ SlAt encI 1 w' a b 0 (fl n C) ∧ Below w.heap.size w w'

set_option maxRecDepth 100000 in
set_option maxHeartbeats 4000000 in
theorem cls14Str_any {p : Addr} {s : Lts} {n : Nat} (h : s.Right) (hn : s.st = (n : Int)) {a : Option Addr} {b off c : Nat} {w : World} (hG : GErr 10 p w) (hS : SlAt encE 3 w a b off s.es) :
    Calls Tryz.prog 15 #[.agg #[.int .i64 s.st, .int .i64 s.lb, .int .i64 s.s0, .slice a s.es.length c], .bool true] w (Q2 true s n w) := by
  have hB0 := (Below.refl w.heap.size w).alloc (Nat.le_refl _) (Obj.cells #[.int .i64 s.st, .int .i64 s.lb, .int .i64 s.s0, .slice a s.es.length c] 24)
  have HCL := Lib.hid (strClasses_any (c := c) h hn (hG.below hB0) (hS.below hB0 (Nat.le_refl _)))
  have HB0 := Lib.hid hB0
  clear hB0 hS hG h hn
  go_enter Tryz.func15, Tryz.ntmps15
  go_wp2_with fail
  refine HCL.out.mono ?_
  unfold StrClasses
  rintro e w1 ⟨inn, ca, cc, hbig, rfl, hown, hB1⟩
  have HB1 := Lib.hid (HB0.out.trans (hB1.mono (by simp)))
  rw [canon9] at hown
  have hown2 : w1.ownsRow (w.alloc (Obj.cells #[.int .i64 s.st, .int .i64 s.lb, .int .i64 s.s0, .slice a s.es.length c] 24)).heap.size 3 1 (.slice ca n cc) (fl n (cl9 n inn)).length ((fl n (cl9 n inn)).flatMap encI) := by rw [fl_len]; exact hown
  obtain ⟨_, _, cb, hv, hz1, hz2, hcs, hz3⟩ := slAt_own lenI hown2
  simp only [Value.slice.injEq] at hv
  obtain ⟨rfl, hz4, rfl⟩ := hv
  have HK : RowKit.Hid (KBig true s n (cl9 n inn)) := Lib.hid ⟨cl9_big hbig, by unfold cl9; rw [← canon_fl, canon_canon]⟩
  have HRG : RowKit.Hid (∀ p, p < n → 0 ≤ cl9 n inn p ∧ cl9 n inn p < (n : Int)) := Lib.hid (fun p hp => by
    have a1 := clf_rng (f := fun p => (inn p : Int)) hp
    have b1 := dist_len (fl n (fun p => (inn p : Int)))
    rw [fl_len] at b1
    unfold cl9
    omega)
  have HSL := Lib.hid hcs
  clear hown hown2 hz1 hz2 hz3 hz4 hcs hbig hB1 HCL
  go_wp2_with fail
  go_ret2
  exact ⟨_, _, _, _, HK.out, HRG.out, rfl, HSL.out, HB1.out⟩

set_option maxRecDepth 100000 in
set_option maxHeartbeats 4000000 in
theorem cls14Bra_any {p : Addr} {s : Lts} {n : Nat} (h : s.Right) (hn : s.st = (n : Int)) {a : Option Addr} {b off c : Nat} {w : World} (hG : GErr 10 p w) (htab : Lib.TabIs Tryz.prog w "internal/strconv.uint64pow10" .u64 Lib.pow10Tab) (hel : s.es.length ≤ 900) (hS : SlAt encE 3 w a b off s.es) :
    Calls Tryz.prog 15 #[.agg #[.int .i64 s.st, .int .i64 s.lb, .int .i64 s.s0, .slice a s.es.length c], .bool false] w (Q2 false s n w) := by
  have hB0 := (Below.refl w.heap.size w).alloc (Nat.le_refl _) (Obj.cells #[.int .i64 s.st, .int .i64 s.lb, .int .i64 s.s0, .slice a s.es.length c] 24)
  have HR9 := Lib.hid h; have HN9 := Lib.hid hn
  have HCL := Lib.hid (brClasses_any (c := c) h hn hel (hG.below hB0) (Lib.tabBelow_of_tabIs htab _ hB0) (hS.below hB0 (Nat.le_refl _)))
  have HB0 := Lib.hid hB0
  clear hB0 hS hG h hn htab hel
  go_enter Tryz.func15, Tryz.ntmps15
  go_wp2_with fail
  refine HCL.out.mono ?_
  unfold BrPost
  rintro e w1 ⟨R, ca, cb, cc, hres, rfl, hown, hcs, hB1⟩
  have HB1 := Lib.hid (HB0.out.trans (hB1.mono (by simp)))
  obtain ⟨C, hbig, rfl, hcan, hrng⟩ := hres.big HR9.out HN9.out
  have HK : RowKit.Hid (KBig false s n C) := Lib.hid ⟨hbig, hcan⟩
  have HRG := Lib.hid hrng
  have HSL := Lib.hid hcs
  clear hown hcs hbig hcan hrng hres hB1 HCL
  go_wp2_with fail
  go_ret2
  exact ⟨_, _, _, _, HK.out, HRG.out, rfl, HSL.out, HB1.out⟩

theorem cls14_any {p : Addr} {s : Lts} {n : Nat} (h : s.Right) (hn : s.st = (n : Int)) (hel : s.es.length ≤ 900) {a : Option Addr} {b off c : Nat} {w : World} (hG : GErr 10 p w) (htab : Lib.TabIs Tryz.prog w "internal/strconv.uint64pow10" .u64 Lib.pow10Tab) (hS : SlAt encE 3 w a b off s.es) (kind : Bool) :
    Calls Tryz.prog 15 #[.agg #[.int .i64 s.st, .int .i64 s.lb, .int .i64 s.s0, .slice a s.es.length c], .bool kind] w (Q2 kind s n w) := by
  cases kind with
  | true => exact cls14Str_any h hn hG hS
  | false => exact cls14Bra_any h hn hG htab hel hS
/-- Two answers of one kind are one. -/
theorem kbig_one {kind : Bool} {s : Lts} {n : Nat} (hr : s.Right) (hn : s.st = (n : Int)) {C D : Nat → Int} (h : KBig kind s n C) (h' : KBig kind s n D) : fl n C = fl n D := by
  refine canon_same_list h.2 h'.2 (fun p q hp hq => ?_)
  cases kind with
  | true => exact Big.same (show Big s n C from h.1) (show Big s n D from h'.1) hp hq
  | false => exact BrBig.same hr hn (show BrBig s n C from h.1) (show BrBig s n D from h'.1) hp hq
end Go.Proofs.YtmlmjhmdjieigaaGreatDoor

namespace Go.Proofs.YtmlmjhmdjieigaaGreatDoor
open Go.RowKit Pl

theorem uni_norm {s t : Lts} {a b : Nat} {l : Int} : stp (uniS s t) a l b ↔ stp (uniS s.norm t) a l b := by
  unfold stp uniS
  simp only [List.mem_append]
  constructor
  · rintro (h | h)
    · exact .inl ((mem_nf stoE _ s.es).2 h)
    · exact .inr h
  · rintro (h | h)
    · exact .inl ((mem_nf stoE _ s.es).1 h)
    · exact .inr h
theorem kbig_uni {kind : Bool} {s t : Lts} {k : Nat} {K : Nat → Int} (h : KBig kind (uniS s t) k K) : KBig kind (uniS s.norm t) k K := by
  refine ⟨?_, h.2⟩
  cases kind with
  | true => exact Big.steps (show Big (uniS s t) k K from h.1) (fun _ _ _ _ _ => uni_norm)
  | false => exact BrBig.stepsW (fun _ _ _ => uni_norm) (show BrBig (uniS s t) k K from h.1)

theorem alike_all {kind : Bool} {s : Lts} {n m : Nat} {C K : Nat → Int} (hr : s.Right) (hn : s.st = (n : Int)) (hn0 : 0 < n) (hl : s.norm.es.length ≤ 10000) (h : KBig kind s n C) (hm : (quoSI (!kind) s.norm (fl n C)).st = (m : Int)) (hK : KBig kind (uniS s (quoSI (!kind) s.norm (fl n C))) (n + m) K) {p : Nat} (hp : p < n) :
    -1 ≤ toI (quoD s.norm (fl n C)) (C p) ∧ toI (quoD s.norm (fl n C)) (C p) < (m : Int) ∧ ∀ i : Nat, toI (quoD s.norm (fl n C)) (C p) = (i : Int) → i < m ∧ K p = K (n + i) := by
  have hrn := hr.norm
  have hnn : s.norm.st = (n : Int) := hn
  have hQ := (quo_RightI (inert := !kind) hrn hnn hn0 (fl n C) hl).1
  have hml : (quoD s.norm (fl n C)).length = m := by
    have h2 : ((quoD s.norm (fl n C)).length : Int) = (m : Int) := hm
    omega
  have hlt : toI (quoD s.norm (fl n C)) (C p) < (m : Int) := by
    by_cases hc : C p ∈ quoD s.norm (fl n C)
    · have := toI_in hc; omega
    · unfold toI; rw [if_neg hc]; omega
  have hge : -1 ≤ toI (quoD s.norm (fl n C)) (C p) := by
    by_cases hc : C p ∈ quoD s.norm (fl n C)
    · have := toI_in hc; omega
    · unfold toI; rw [if_neg hc]; omega
  refine ⟨hge, hlt, fun i hi => ?_⟩
  have him : i < m := by omega
  refine ⟨him, ?_⟩
  have hC := h.norm
  have hK2 := kbig_uni hK
  cases kind with
  | true =>
    have e := alike_strong hrn hnn hn0 (show Big s.norm n C from hC.1) hi
    rw [hml] at e
    exact (uni_big hrn hQ hnn (show Big (uniS s.norm (quoSI false s.norm (fl n C))) (n + m) K from hK2.1) hp him).2 e
  | false => exact alike_br hrn hnn hn0 (show BrBig s.norm n C from hC.1) hm hQ (show BrBig (uniS s.norm (quoSI true s.norm (fl n C))) (n + m) K from hK2.1) hp hi him
/-- The start's number is the quotient's start. -/
theorem alike_start {kind : Bool} {s : Lts} {n z : Nat} {C : Nat → Int} (hz : s.s0 = (z : Int)) (hzn : z < n) : toI (quoD s.norm (fl n C)) (C z) = (quoSI (!kind) s.norm (fl n C)).s0 := by
  show _ = toI (quoD s.norm (fl n C)) (atL (fl n C) s.norm.s0)
  have h1 : s.norm.s0 = (z : Int) := hz
  rw [h1, atLF hzn]
end Go.Proofs.YtmlmjhmdjieigaaGreatDoor

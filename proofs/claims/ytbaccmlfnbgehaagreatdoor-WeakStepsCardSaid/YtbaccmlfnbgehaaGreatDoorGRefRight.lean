/-
  Lemmas.
-/
import Derived.Test.YtbaccmlfnbgehaaGreatDoorRefSort2
import Derived.Test.YtbaccmlfnbgehaaGreatDoorGLentS
import Derived.Test.YtbaccmlfnbgehaaGreatDoorTauI
import Derived.Test.YtbaccmlfnbgehaaGreatDoorWkC
import Derived.Test.YtbaccmlfnbgehaaGreatDoorGRws
set_option maxHeartbeats 2000000
set_option maxRecDepth 100000
open Nat renaming le_refl → l0, zero_le → l8
open Array renaming getElem?_eq_some_iff → l1
open List renaming all_eq_true → l2, getElem?_eq_getElem → l4, mem_of_getElem? → l5, getElem_of_mem → l6, all_eq_false → l7
open Bool renaming or_eq_true → l3
open Go.Proofs.Tryz
namespace Go.Proofs.YtbaccmlfnbgehaaGreatDoor
open Go.RowKit Pl
open Lib (hid)
theorem u1z (st lb s0 : Int) (a : Option Addr) (n c : Nat) (w : World) (h : HeadBad st lb s0 n) :
    Calls prog 31 #[.agg #[.int .i64 st, .int .i64 lb, .int .i64 s0, .slice a n c]] w fun e w' => e = .returned (.bool false) /\ Below w.heap.size w w' := by
 have key : (st < 0) ∨ (¬ st < 0 /\ 1000 < st) ∨ (¬ st < 0 /\ ¬ 1000 < st /\ lb < 1) ∨ (¬ st < 0 /\ ¬ 1000 < st /\ ¬ lb < 1 /\ 201 < lb) ∨ (¬ st < 0 /\ ¬ 1000 < st /\ ¬ lb < 1 /\ ¬ 201 < lb /\ (10000 : Int) < (n : Int)) ∨
     (¬ st < 0 /\ ¬ 1000 < st /\ ¬ lb < 1 /\ ¬ 201 < lb /\ ¬ (10000 : Int) < (n : Int) /\ (st == 0) = true /\ (s0 != 0) = true) ∨
     (¬ st < 0 /\ ¬ 1000 < st /\ ¬ lb < 1 /\ ¬ 201 < lb /\ ¬ (10000 : Int) < (n : Int) /\ (st == 0) = false /\ 0 < st /\ s0 < 0) ∨
     (¬ st < 0 /\ ¬ 1000 < st /\ ¬ lb < 1 /\ ¬ 201 < lb /\ ¬ (10000 : Int) < (n : Int) /\ (st == 0) = false /\ 0 < st /\ ¬ s0 < 0 /\ st <= s0) := by
   unfold HeadBad at h
   simp only [beq_iff_eq, bne_iff_ne, beq_eq_false_iff_ne]
   omega
 clear h
 rcases key with h1 | ⟨h1, h2⟩ | ⟨h1, h2, h3⟩ | ⟨h1, h2, h3, h4⟩ | ⟨h1, h2, h3, h4, h5⟩ | ⟨h1, h2, h3, h4, h5, h6, h7⟩ | ⟨h1, h2, h3, h4, h5, h6, h7, h8⟩ | ⟨h1, h2, h3, h4, h5, h6, h7, h8, h9⟩
 all_goals
   go_enter func31, ntmps31
   go_wp2
   go_ret
   exact ⟨rfl, (Below.refl _ _).alloc (l0 _) _⟩
theorem u0w {st lb s0 : Int} {xs : List E} (hh : ¬ HeadBad st lb s0 xs.length) {a : Option Addr} {b off c : Nat} {w : World} (hS : SlAt encE 3 w a b off xs) :
    Calls prog 31 #[.agg #[.int .i64 st, .int .i64 lb, .int .i64 s0, .slice a xs.length c]] w fun e w' => e = .returned (.bool (xs.all fun x => !offB st lb x)) /\ Below w.heap.size w w' := by
 unfold HeadBad at hh
 obtain ⟨h1, h2, h3, h4, h5, h6, h7⟩ : ¬ st < 0 /\ ¬ 1000 < st /\ ¬ lb < 1 /\ ¬ 201 < lb /\ ¬ s0 < 0 /\ (s0 = 0 ∨ s0 < st) /\ ¬ (10000 : Int) < (xs.length : Int) := by omega
 have key : ((st == 0) = true /\ (s0 != 0) = false /\ ¬ 0 < st) ∨ ((st == 0) = false /\ 0 < st /\ ¬ st <= s0) := by
   simp only [beq_iff_eq, bne_eq_false_iff_eq, beq_eq_false_iff_ne]
   omega
 have HS := hid hS
 clear hh h6 hS
 obtain ⟨C, hC⟩ : ∃ C, C = Obj.cells #[.int .i64 st, .int .i64 lb, .int .i64 s0, .slice a xs.length c] 24 := ⟨_, rfl⟩
 have HC := hid hC
 clear hC
 rcases key with ⟨k1, k2, k3⟩ | ⟨k1, k2, k3⟩
 · obtain rfl : st = 0 := by simpa using k1
   obtain rfl : s0 = 0 := by simpa using k2
   clear k1 k2 k3 h1 h2 h5
   go_enter func31, ntmps31
   go_wp2
   rw [<- HC.out]
   go_loopw [3, 4] (fun i _ wr => ∃ k : Nat, k <= xs.length /\ i = .int .i64 k /\ (∀ j x, j < k -> xs[j]? = some x -> offB 0 lb x = false) /\ Below (w.heap.size + 1) (w.alloc C) wr)
     (fun i _ _ => xs.length - (intOf i).toNat)
   case atStart => exact ⟨0, l8 _, rfl, by intro j x hj; omega, Below.refl _ _⟩
   case round =>
     obtain ⟨k, hk, rfl, hz, hB⟩ := hrel
     have HZ := hid hz; clear hz
     have hsz : w.heap.size + 1 <= wr.heap.size := by simpa using hB.size
     have q0 : wr.heap[w.heap.size]? = some C := by
       rw [hB.block _ (by omega), heap_alloc_new]
     rw [HC.out] at q0
     have s0' : wr.cell? ⟨w.heap.size, 0, none⟩ = some (.int .i64 0) := by simp [World.cell?, q0]
     have s1' : wr.cell? ⟨w.heap.size, 1, none⟩ = some (.int .i64 lb) := by simp [World.cell?, q0]
     have s2' : wr.cell? ⟨w.heap.size, 2, none⟩ = some (.int .i64 0) := by simp [World.cell?, q0]
     have s3' : wr.cell? ⟨w.heap.size, 3, none⟩ = some (.slice a xs.length c) := by simp [World.cell?, q0]
     have hBw : Below w.heap.size w wr := ((Below.refl _ _).alloc (l0 _) C).trans (hB.mono (by omega))
     have hltr : w.heap.size < wr.heap.size := by omega
     have HB := hid hB; have HBW := hid hBw
     clear q0 hB hBw
     by_cases hlt2 : k < xs.length
     · obtain ⟨x, hx⟩ := j0a hlt2
       have hS' := HS.out.below HBW.out (l0 _)
       obtain rfl := hS'.ad (by omega)
       have c0 := hS'.e0 hx; have c1 := hS'.e1 hx; have c2 := hS'.e2 hx
       have hbl := hS'.lt (by omega)
       have hik : (k : Int) < (xs.length : Int) := by omega
       have HX := hid hx
       clear hx hS'
       obtain ⟨x1, x2, x3⟩ := x
       simp only at c0 c1 c2
       by_cases ho : offB 0 lb (x1, x2, x3) = true
       · have HO := hid ho
         have hall : xs.all (fun x => !offB 0 lb x) = false := by
           rw [l7]
           exact ⟨_, l5 HX.out, by simp [HO.out]⟩
         have HALL := hid hall
         have key2 : (x1 < 0) ∨ (¬ x1 < 0 /\ 0 <= x1) := by
           simp only [offB, l3, decide_eq_true_eq] at ho
           omega
         clear ho hall
         rcases key2 with g1 | ⟨g1, g2⟩
         all_goals
           go_wp2
           go_ret
           exact ⟨y2s (a := false) HALL.out.symm, ((HBW.out).alloc (by omega) _)⟩
       · exact absurd (by simp only [offB, l3, decide_eq_true_eq]; omega) ho
     · go_wp2
       go_ret
       have hall : xs.all (fun x => !offB 0 lb x) = true := by
         rw [l2]
         intro x hx
         obtain ⟨j, hj, rfl⟩ := l6 hx
         simp [HZ.out j _ (by omega) (l4 hj)]
       exact ⟨y2s (a := true) hall.symm, HBW.out⟩
 · go_enter func31, ntmps31
   go_wp2
   rw [<- HC.out]
   go_loopw [3, 4] (fun i _ wr => ∃ k : Nat, k <= xs.length /\ i = .int .i64 k /\ (∀ j x, j < k -> xs[j]? = some x -> offB st lb x = false) /\ Below (w.heap.size + 1) (w.alloc C) wr)
     (fun i _ _ => xs.length - (intOf i).toNat)
   case atStart => exact ⟨0, l8 _, rfl, by intro j x hj; omega, Below.refl _ _⟩
   case round =>
     obtain ⟨k, hk, rfl, hz, hB⟩ := hrel
     have HZ := hid hz; clear hz
     have hsz : w.heap.size + 1 <= wr.heap.size := by simpa using hB.size
     have q0 : wr.heap[w.heap.size]? = some C := by
       rw [hB.block _ (by omega), heap_alloc_new]
     rw [HC.out] at q0
     have s0' : wr.cell? ⟨w.heap.size, 0, none⟩ = some (.int .i64 st) := by simp [World.cell?, q0]
     have s1' : wr.cell? ⟨w.heap.size, 1, none⟩ = some (.int .i64 lb) := by simp [World.cell?, q0]
     have s2' : wr.cell? ⟨w.heap.size, 2, none⟩ = some (.int .i64 s0) := by simp [World.cell?, q0]
     have s3' : wr.cell? ⟨w.heap.size, 3, none⟩ = some (.slice a xs.length c) := by simp [World.cell?, q0]
     have hBw : Below w.heap.size w wr := ((Below.refl _ _).alloc (l0 _) C).trans (hB.mono (by omega))
     have hltr : w.heap.size < wr.heap.size := by omega
     have HB := hid hB; have HBW := hid hBw
     clear q0 hB hBw
     by_cases hlt2 : k < xs.length
     · obtain ⟨x, hx⟩ := j0a hlt2
       have hS' := HS.out.below HBW.out (l0 _)
       obtain rfl := hS'.ad (by omega)
       have c0 := hS'.e0 hx; have c1 := hS'.e1 hx; have c2 := hS'.e2 hx
       have hbl := hS'.lt (by omega)
       have hik : (k : Int) < (xs.length : Int) := by omega
       have HX := hid hx
       clear hx hS'
       obtain ⟨x1, x2, x3⟩ := x
       simp only at c0 c1 c2
       by_cases ho : offB st lb (x1, x2, x3) = true
       · have HO := hid ho
         have hall : xs.all (fun x => !offB st lb x) = false := by
           rw [l7]
           exact ⟨_, l5 HX.out, by simp [HO.out]⟩
         have HALL := hid hall
         have key2 : (x1 < 0) ∨ (¬ x1 < 0 /\ st <= x1) ∨ (¬ x1 < 0 /\ ¬ st <= x1 /\ x3 < 0) ∨ (¬ x1 < 0 /\ ¬ st <= x1 /\ ¬ x3 < 0 /\ st <= x3) ∨ (¬ x1 < 0 /\ ¬ st <= x1 /\ ¬ x3 < 0 /\ ¬ st <= x3 /\ x2 < 0) ∨ (¬ x1 < 0 /\ ¬ st <= x1 /\ ¬ x3 < 0 /\ ¬ st <= x3 /\ ¬ x2 < 0 /\ lb <= x2) := by
           simp only [offB, l3, decide_eq_true_eq] at ho
           omega
         clear ho hall
         rcases key2 with g1 | ⟨g1, g2⟩ | ⟨g1, g2, g3⟩ | ⟨g1, g2, g3, g4⟩ | ⟨g1, g2, g3, g4, g5⟩ | ⟨g1, g2, g3, g4, g5, g6⟩
         all_goals
           go_wp2
           go_ret
           exact ⟨y2s (a := false) HALL.out.symm, ((HBW.out).alloc (by omega) _)⟩
       · have ho' : offB st lb (x1, x2, x3) = false := by simpa using ho
         have HO := hid ho'
         obtain ⟨g1, g2, g3, g4, g5, g6⟩ : ¬ x1 < 0 /\ ¬ st <= x1 /\ ¬ x3 < 0 /\ ¬ st <= x3 /\ ¬ x2 < 0 /\ ¬ lb <= x2 := by
           simp only [offB, l3, decide_eq_true_eq] at ho
           omega
         clear ho ho'
         go_wp2
         go_roundw
         case rel => exact ⟨k + 1, by omega, by go_num, by
           intro j y hj hy
           by_cases hjk : j = k
           · subst hjk
             rw [HX.out] at hy
             simp at hy; subst hy
             exact HO.out
           · exact HZ.out j y (by omega) hy, HB.out.alloc (by omega) _⟩
         case measure => simp [intOf]; omega
     · go_wp2
       go_ret
       have hall : xs.all (fun x => !offB st lb x) = true := by
         rw [l2]
         intro x hx
         obtain ⟨j, hj, rfl⟩ := l6 hx
         simp [HZ.out j _ (by omega) (l4 hj)]
       exact ⟨y2s (a := true) hall.symm, HBW.out⟩
theorem q1a {s : Lts} (h : s.Right) {a : Option Addr} {b off c : Nat} {w : World} (hS : SlAt encE 3 w a b off s.es) :
    Calls prog 31 #[.agg #[.int .i64 s.st, .int .i64 s.lb, .int .i64 s.s0, .slice a s.es.length c]] w fun e w' => e = .returned (.bool true) /\ Below w.heap.size w w' := by
 refine (u0w h.head hS).mono ?_
 rintro e w' ⟨rfl, hB⟩
 have : s.es.all (fun x => !offB s.st s.lb x) = true := by rw [l2]; intro x hx; simp [h.edges x hx]
 exact ⟨by rw [this], hB⟩
theorem k1a {s : Lts} (h : ¬ s.Right) {a : Option Addr} {b off c : Nat} {w : World} (hS : SlAt encE 3 w a b off s.es) :
    Calls prog 31 #[.agg #[.int .i64 s.st, .int .i64 s.lb, .int .i64 s.s0, .slice a s.es.length c]] w fun e w' => e = .returned (.bool false) /\ Below w.heap.size w w' := by
 by_cases hh : HeadBad s.st s.lb s.s0 s.es.length
 · exact u1z s.st s.lb s.s0 a s.es.length c w hh
 · (
 refine (u0w hh hS).mono ?_
 rintro e w' ⟨rfl, hB⟩
 have : s.es.all (fun x => !offB s.st s.lb x) = false := by
   rw [Bool.eq_false_iff]; intro ha; rw [l2] at ha
   exact h ⟨hh, fun x hx => by simpa using ha x hx⟩
 exact ⟨by rw [this], hB⟩)
end Go.Proofs.YtbaccmlfnbgehaaGreatDoor
namespace Go.Proofs.YtbaccmlfnbgehaaGreatDoor
open Go.RowKit Pl
open Lib (hid)
theorem p2r (l x : ByteArray) (hl : l.size <= 1000) (hx : x.size <= 1000) {k : Int} (hk : k ≠ 0) (i j : Int) (w : World) : Calls prog 95 #[.string l, .agg #[.int .i64 k, .int .i64 i, .int .i64 j, .string x]] w fun e w' => e = .returned (.agg #[.int .i64 k, .int .i64 i, .int .i64 j, .string (l ++ ⟨#[32]⟩ ++ x)]) /\ Below w.heap.size w w' := by
 have hz1 : ¬ 9223372036854775807 < l.size + 1 := by omega
 have hz2 : ¬ 9223372036854775807 < l.size + 1 + x.size := by omega
 have hk1 : (k == 0) = false := by simp [hk]
 go_enter func95, ntmps95
 go_wp2_with fail
 refine bodyPost_ret (v := .agg #[.int .i64 k, .int .i64 i, .int .i64 j, .string (l ++ ⟨#[32]⟩ ++ x)]) (by simp [results, results95, go_sem]) rfl ⟨rfl, ((Below.refl _ _).alloc (l0 _) _).alloc (by simp) _⟩
theorem p3d {w : World} {B : Nat} {x y z : Int} {u : ByteArray} (h : w.heap[B]? = some (.cells #[.int .i64 x, .int .i64 y, .int .i64 z, .string u] 29 (0, 0))) :
    (w.cell? ⟨B, 0, none⟩ = some (.int .i64 x) /\ w.cell? ⟨B, 1, none⟩ = some (.int .i64 y) /\ w.cell? ⟨B, 2, none⟩ = some (.int .i64 z) /\ w.cell? ⟨B, 3, none⟩ = some (.string u)) /\ (w.frozen? ⟨B, 0, none⟩ = false /\ w.frozen? ⟨B, 1, none⟩ = false /\ w.frozen? ⟨B, 2, none⟩ = false /\ w.frozen? ⟨B, 3, none⟩ = false) /\ B < w.heap.size := by
 refine ⟨⟨?_, ?_, ?_, ?_⟩, ⟨?_, ?_, ?_, ?_⟩, (l1.1 h).1⟩ <;> simp [World.cell?, World.frozen?, h]
theorem p3u (w : World) (o : Obj) : Below w.heap.size w ((w.alloc o).alloc (Obj.cells #[.int .i64 0, .int .i64 0, .int .i64 0, .string ⟨#[]⟩] 29)) /\ ((w.alloc o).alloc (Obj.cells #[.int .i64 0, .int .i64 0, .int .i64 0, .string ⟨#[]⟩] 29)).heap[w.heap.size + 1]? = some (.cells #[.int .i64 0, .int .i64 0, .int .i64 0, .string ⟨#[]⟩] 29 (0, 0)) := by
 refine ⟨((Below.refl _ _).alloc (l0 _) _).alloc (by simp) _, ?_⟩
 have h := heap_alloc_new (w.alloc o) (Obj.cells #[.int .i64 0, .int .i64 0, .int .i64 0, .string ⟨#[]⟩] 29)
 rw [show (w.alloc o).heap.size = w.heap.size + 1 by simp] at h
 exact h
theorem p3b {w w' : World} (h : Below w.heap.size w w') (a b c d : Value) : Below w.heap.size w ((((w'.setCell ⟨w.heap.size + 1, 0, none⟩ a).setCell ⟨w.heap.size + 1, 1, none⟩ b).setCell ⟨w.heap.size + 1, 2, none⟩ c).setCell ⟨w.heap.size + 1, 3, none⟩ d) :=
  (((h.setCell (by show w.heap.size <= w.heap.size + 1; omega) _).setCell (by show w.heap.size <= w.heap.size + 1; omega) _).setCell (by show w.heap.size <= w.heap.size + 1; omega) _).setCell (by show w.heap.size <= w.heap.size + 1; omega) _
theorem x1v {s : Lts} (h : ¬ s.Right) {a : Option Addr} {b off c : Nat} {w : World} (hS : SlAt encE 3 w a b off s.es) :
    Calls prog 96 #[.agg #[.int .i64 s.st, .int .i64 s.lb, .int .i64 s.s0, .slice a s.es.length c]] w fun e w' => e = .returned (.agg #[.int .i64 14, .int .i64 0, .int .i64 0, .string (sysName ++ ⟨#[32]⟩)]) /\ Below w.heap.size w w' := by
 have hbd := z1j sysName (by decide) 14
 obtain ⟨el, hel⟩ : ∃ el, el = s.es.length := ⟨_, rfl⟩
 have hR : ∀ V, Below w.heap.size w V -> _ := fun V (hV : Below w.heap.size w V) => k1a (c := c) h (hS.below hV (l0 _))
 rw [<- hel] at hR ⊢
 obtain ⟨hB0, hE0⟩ := p3u w (Obj.cells #[.int .i64 s.st, .int .i64 s.lb, .int .i64 s.s0, .slice a el c] 24)
 have HR := hid (hR _ hB0); have HB0 := hid hB0; have HE0 := hid hE0
 unfold sysName at hbd ⊢
 clear hS h hel hR hB0 hE0
 go_enter func96, ntmps96
 go_wp2_with fail
 refine HR.out.mono ?_
 rintro e w2 ⟨rfl, hB2⟩
 have hx2 := (hB2.block (w.heap.size + 1) (by simp)).trans HE0.out
 have hb2 := HB0.out.trans (hB2.mono HB0.out.size)
 have HX2 := hid hx2; have HB2 := hid hb2
 clear hx2 hb2 hB2 HR HB0 HE0
 go_wp2_with fail
 refine (hbd _).mono ?_
 rintro e w3 ⟨rfl, hB3⟩
 have hx3 := (hB3.block _ (l1.1 HX2.out).1).trans HX2.out
 have HB3 := hid (HB2.out.trans (hB3.mono HB2.out.size))
 obtain ⟨⟨z0, z1, z2, z3⟩, ⟨f0, f1, f2, f3⟩, zl⟩ := p3d hx3
 clear hx3 hB3 HX2 HB2 hbd
 go_wp2_with fail
 refine bodyPost_ret (v := .agg #[.int .i64 14, .int .i64 0, .int .i64 0, .string (⟨#[115, 121, 115, 116, 101, 109]⟩ ++ ⟨#[32]⟩)]) (by simp [results, results96, go_sem, z0, z1, z2, z3]) rfl ⟨rfl, p3b HB3.out _ _ _ _⟩
theorem q1d (l : ByteArray) (hl : l.size <= 900) {s : Lts} (h : ¬ s.Right) {a : Option Addr} {b off c : Nat} {w : World} (hS : SlAt encE 3 w a b off s.es) :
    Calls prog 32 #[.string l, .agg #[.int .i64 s.st, .int .i64 s.lb, .int .i64 s.s0, .slice a s.es.length c]] w fun e w' => e = .returned (.agg #[.int .i64 14, .int .i64 0, .int .i64 0, .string (l ++ ⟨#[32]⟩ ++ sysName ++ ⟨#[32]⟩)]) /\ Below w.heap.size w w' := by
 obtain ⟨hB0, hE0⟩ := p3u w (Obj.cells #[.int .i64 s.st, .int .i64 s.lb, .int .i64 s.s0, .slice a s.es.length c] 24)
 have HCK := hid (x1v (c := c) h (hS.below hB0 (l0 _)))
 have hon := p2r l (sysName ++ ⟨#[32]⟩) (by omega) (by decide) (k := 14) (by decide) 0 0
 rw [<- ByteArray.append_assoc] at hon
 obtain ⟨el, hel⟩ : ∃ el, el = s.es.length := ⟨_, rfl⟩
 rw [<- hel] at HCK hB0 hE0 ⊢
 have HB0 := hid hB0; have HE0 := hid hE0
 obtain ⟨sx, hsx⟩ : ∃ sx, sx = sysName ++ ⟨#[32]⟩ := ⟨_, rfl⟩
 obtain ⟨rx, hrx⟩ : ∃ rx, rx = l ++ ⟨#[32]⟩ ++ sysName ++ ⟨#[32]⟩ := ⟨_, rfl⟩
 rw [<- hsx] at HCK
 rw [<- hrx] at hon ⊢
 rw [<- hsx] at hon
 clear hS h hel hB0 hE0 hsx hrx
 go_enter func32, ntmps32
 go_wp2_with fail
 refine HCK.out.mono ?_
 rintro e w2 ⟨rfl, hB2⟩
 have hx2 := (hB2.block (w.heap.size + 1) (by simp)).trans HE0.out
 have hb2 := HB0.out.trans (hB2.mono HB0.out.size)
 have HX2 := hid hx2; have HB2 := hid hb2
 clear hx2 hb2 hB2 HCK HB0 HE0
 go_wp2_with fail
 refine (hon _).mono ?_
 rintro e w3 ⟨rfl, hB3⟩
 have hx3 := (hB3.block _ (l1.1 HX2.out).1).trans HX2.out
 have HB3 := hid (HB2.out.trans (hB3.mono HB2.out.size))
 obtain ⟨⟨z0, z1, z2, z3⟩, ⟨f0, f1, f2, f3⟩, zl⟩ := p3d hx3
 clear hx3 hB3 HX2 HB2 hon
 go_wp2_with fail
 refine bodyPost_ret (v := .agg #[.int .i64 14, .int .i64 0, .int .i64 0, .string rx]) (by simp [results, results32, go_sem, z0, z1, z2, z3]) rfl ⟨rfl, p3b HB3.out _ _ _ _⟩
end Go.Proofs.YtbaccmlfnbgehaaGreatDoor
namespace Go.Proofs.YtbaccmlfnbgehaaGreatDoor
open Go.RowKit Pl
open Lib (hid)
theorem x1t {s : Lts} (h : ¬ s.Right) {a : Option Addr} {b off c : Nat} {w : World} (hS : SlAt encE 3 w a b off s.es) :
    Calls prog 24 #[.agg #[.int .i64 s.st, .int .i64 s.lb, .int .i64 s.s0, .slice a s.es.length c]] w fun e w' => e = .returned (.agg #[.int .i64 14, .int .i64 0, .int .i64 0, .string (weakName ++ ⟨#[32]⟩ ++ sysName ++ ⟨#[32]⟩)]) /\ Below w.heap.size w w' := by
 obtain ⟨hB0, hE0⟩ := p3u w (Obj.cells #[.int .i64 s.st, .int .i64 s.lb, .int .i64 s.s0, .slice a s.es.length c] 24)
 have HR := hid (k1a (c := c) h (hS.below hB0 (l0 _)))
 have HHA : Hid (∀ V, Below w.heap.size w V -> Calls prog 32 #[.string ⟨#[119, 101, 97, 107]⟩, .agg #[.int .i64 s.st, .int .i64 s.lb, .int .i64 s.s0, .slice a s.es.length c]] V fun e w' => e = .returned (.agg #[.int .i64 14, .int .i64 0, .int .i64 0, .string (weakName ++ ⟨#[32]⟩ ++ sysName ++ ⟨#[32]⟩)]) /\ Below V.heap.size V w') := hid (fun V hV => q1d weakName (by decide) h (hS.below hV (l0 _)))
 obtain ⟨rx, hrx⟩ : ∃ rx, rx = weakName ++ ⟨#[32]⟩ ++ sysName ++ ⟨#[32]⟩ := ⟨_, rfl⟩
 rw [<- hrx] at HHA ⊢
 obtain ⟨el, hel⟩ : ∃ el, el = s.es.length := ⟨_, rfl⟩
 rw [<- hel] at HR HHA hB0 hE0 ⊢
 have HB0 := hid hB0; have HE0 := hid hE0
 have hbx : ((w.alloc (Obj.cells #[.int .i64 s.st, .int .i64 s.lb, .int .i64 s.s0, .slice a el c] 24)).alloc (Obj.cells #[.int .i64 0, .int .i64 0, .int .i64 0, .string ⟨#[]⟩] 29)).heap[w.heap.size]? = some (Obj.cells #[.int .i64 s.st, .int .i64 s.lb, .int .i64 s.s0, .slice a el c] 24) := by
   rw [((Below.refl (w.alloc (Obj.cells #[.int .i64 s.st, .int .i64 s.lb, .int .i64 s.s0, .slice a el c] 24)).heap.size _).alloc (l0 _) (Obj.cells #[.int .i64 0, .int .i64 0, .int .i64 0, .string ⟨#[]⟩] 29)).block _ (by simp)]
   exact heap_alloc_new w _
 have HBX := hid hbx
 clear hS h hel hB0 hE0 hrx hbx
 go_enter func24, ntmps24
 go_wp2_with fail
 refine HR.out.mono ?_
 rintro e w2 ⟨rfl, hB2⟩
 have hx2 := (hB2.block (w.heap.size + 1) (by simp)).trans HE0.out
 obtain ⟨y0, y1, y2, y3, y4⟩ := q0j ((hB2.block w.heap.size (by simp; omega)).trans HBX.out)
 have hb2 := HB0.out.trans (hB2.mono HB0.out.size)
 have HX2 := hid hx2; have HB2 := hid hb2
 clear hx2 hb2 hB2 HR HB0 HE0 HBX
 go_wp2_with fail
 refine (HHA.out _ HB2.out).mono ?_
 rintro e w3 ⟨rfl, hB3⟩
 have hx3 := (hB3.block _ (l1.1 HX2.out).1).trans HX2.out
 have HB3 := hid (HB2.out.trans (hB3.mono HB2.out.size))
 obtain ⟨⟨z0, z1, z2, z3⟩, ⟨f0, f1, f2, f3⟩, zl⟩ := p3d hx3
 clear hx3 hB3 HX2 HB2 HHA y0 y1 y2 y3 y4
 go_wp2_with fail
 refine bodyPost_ret (v := .agg #[.int .i64 14, .int .i64 0, .int .i64 0, .string rx]) (by simp [results, results24, go_sem, z0, z1, z2, z3]) rfl ⟨rfl, p3b HB3.out _ _ _ _⟩
theorem q0o {s : Lts} (h : s.Right) {a : Option Addr} {b off c : Nat} {w : World} (hS : SlAt encE 3 w a b off s.es) :
    Calls prog 24 #[.agg #[.int .i64 s.st, .int .i64 s.lb, .int .i64 s.s0, .slice a s.es.length c]] w fun e w' => e = .returned (if 300 < s.st then .agg #[.int .i64 2, .int .i64 0, .int .i64 0, .string (weakName ++ ⟨#[32]⟩)] else .agg #[.int .i64 0, .int .i64 0, .int .i64 0, .string ⟨#[]⟩]) /\ Below w.heap.size w w' := by
 obtain ⟨hB0, hE0⟩ := p3u w (Obj.cells #[.int .i64 s.st, .int .i64 s.lb, .int .i64 s.s0, .slice a s.es.length c] 24)
 have HR := hid (q1a (c := c) h (hS.below hB0 (l0 _)))
 have hbd := z1j weakName (by decide) 2
 unfold weakName at hbd ⊢
 obtain ⟨gv, hgv⟩ : ∃ gv, gv = (if 300 < s.st then Value.agg #[.int .i64 2, .int .i64 0, .int .i64 0, .string ((⟨#[119, 101, 97, 107]⟩ : ByteArray) ++ ⟨#[32]⟩)] else .agg #[.int .i64 0, .int .i64 0, .int .i64 0, .string ⟨#[]⟩]) := ⟨_, rfl⟩
 rw [<- hgv]
 obtain ⟨el, hel⟩ : ∃ el, el = s.es.length := ⟨_, rfl⟩
 rw [<- hel] at HR hB0 hE0 ⊢
 have HB0 := hid hB0; have HE0 := hid hE0
 have hbx : ((w.alloc (Obj.cells #[.int .i64 s.st, .int .i64 s.lb, .int .i64 s.s0, .slice a el c] 24)).alloc (Obj.cells #[.int .i64 0, .int .i64 0, .int .i64 0, .string ⟨#[]⟩] 29)).heap[w.heap.size]? = some (Obj.cells #[.int .i64 s.st, .int .i64 s.lb, .int .i64 s.s0, .slice a el c] 24) := by
   rw [((Below.refl (w.alloc (Obj.cells #[.int .i64 s.st, .int .i64 s.lb, .int .i64 s.s0, .slice a el c] 24)).heap.size _).alloc (l0 _) (Obj.cells #[.int .i64 0, .int .i64 0, .int .i64 0, .string ⟨#[]⟩] 29)).block _ (by simp)]
   exact heap_alloc_new w _
 have HBX := hid hbx
 clear hS h hel hB0 hE0 hbx
 go_enter func24, ntmps24
 go_wp2_with fail
 refine HR.out.mono ?_
 rintro e w2 ⟨rfl, hB2⟩
 have hx2 := (hB2.block (w.heap.size + 1) (by simp)).trans HE0.out
 obtain ⟨y0, y1, y2, y3, y4⟩ := q0j ((hB2.block w.heap.size (by simp; omega)).trans HBX.out)
 have hb2 := HB0.out.trans (hB2.mono HB0.out.size)
 have HX2 := hid hx2; have HB2 := hid hb2
 clear hx2 hb2 hB2 HR HB0 HE0 HBX
 by_cases hg : 300 < s.st
 · (
 have hg1 : decide (300 < s.st) = true := by simp [hg]
 rw [if_pos hg] at hgv
 go_wp2_with fail
 refine (hbd _).mono ?_
 rintro e w3 ⟨rfl, hB3⟩
 have hx3 := (hB3.block _ (l1.1 HX2.out).1).trans HX2.out
 have HB3 := hid (HB2.out.trans (hB3.mono HB2.out.size))
 obtain ⟨⟨z0, z1, z2, z3⟩, ⟨f0, f1, f2, f3⟩, zl⟩ := p3d hx3
 clear hx3 hB3 HX2 HB2 hbd y0 y1 y2 y3 y4
 go_wp2_with fail
 refine bodyPost_ret (v := .agg #[.int .i64 2, .int .i64 0, .int .i64 0, .string (⟨#[119, 101, 97, 107]⟩ ++ ⟨#[32]⟩)]) (by simp [results, results24, go_sem, z0, z1, z2, z3]) rfl ⟨by rw [hgv], p3b HB3.out _ _ _ _⟩)
 · have hg1 : decide (300 < s.st) = false := by simp [hg]
   rw [if_neg hg] at hgv
   obtain ⟨⟨z0, z1, z2, z3⟩, ⟨f0, f1, f2, f3⟩, zl⟩ := p3d HX2.out
   go_wp2_with fail
   refine bodyPost_ret (v := .agg #[.int .i64 0, .int .i64 0, .int .i64 0, .string ⟨#[]⟩]) (by simp [results, results24, go_sem, z0, z1, z2, z3]) rfl ⟨by rw [hgv], p3b HB2.out _ _ _ _⟩
end Go.Proofs.YtbaccmlfnbgehaaGreatDoor
namespace Go.Proofs.YtbaccmlfnbgehaaGreatDoor
open Go.RowKit Pl
open Lib (hid)
theorem y1m {s : Lts} {a : Option Addr} {b off c : Nat} {w : World} (hS : SlAt encE 3 w a b off s.es) :
    Calls prog 22 #[.agg #[.int .i64 s.st, .int .i64 s.lb, .int .i64 s.s0, .slice a s.es.length c]] w fun e w' => ∃ bv : Bool, e = .returned (.bool bv) /\ (bv = true -> (s.st <= 40 /\ s.es.length <= 300) ∨ ((¬ s.Right ∨ 300 < s.st) /\ s.es.length <= 11000)) /\ Below w.heap.size w w' := by
 obtain ⟨W, hW⟩ : ∃ W, W = w.alloc (Obj.cells #[.int .i64 s.st, .int .i64 s.lb, .int .i64 s.s0, .slice a s.es.length c] 24) := ⟨_, rfl⟩
 have hB0 : Below w.heap.size w W := by rw [hW]; exact (Below.refl w.heap.size w).alloc (l0 _) _
 have hbx := heap_alloc_new w (Obj.cells #[.int .i64 s.st, .int .i64 s.lb, .int .i64 s.s0, .slice a s.es.length c] 24)
 rw [<- hW] at hbx
 have hRY : s.Right -> _ := fun h => q1a (c := c) h (hS.below hB0 (l0 _))
 have hRN : ¬ s.Right -> _ := fun h => k1a (c := c) h (hS.below hB0 (l0 _))
 obtain ⟨el, hel⟩ : ∃ el, el = s.es.length := ⟨_, rfl⟩
 rw [<- hel] at hRY hRN hbx hW ⊢
 have HRY := hid hRY; have HRN := hid hRN; have HB0 := hid hB0; have HW := hid hW; have HBX := hid hbx
 obtain ⟨x0, x1, x2, x3, x4⟩ := q0j hbx
 clear hS hel hRY hRN hB0 hW hbx
 by_cases h1 : s.st <= 40
 · by_cases h2 : (el : Int) <= 300
   · have e1 : decide (s.st <= 40) = true := by simp [h1]
     have e2 : decide ((el : Int) <= 300) = true := by simp [h2]
     go_enter func22, ntmps22
     go_wp2_with fail
     rw [<- HW.out]
     go_wp2_with fail
     go_ret
     exact ⟨_, rfl, fun _ => .inl ⟨h1, by omega⟩, HB0.out⟩
   · have e1 : decide (s.st <= 40) = true := by simp [h1]
     have e2 : decide ((el : Int) <= 300) = false := by simp [h2]
     by_cases hr : s.Right
     · have HR := hid (HRY.out hr)
       clear HRY HRN
       go_enter func22, ntmps22
       go_wp2_with fail
       rw [<- HW.out]
       go_wp2_with fail
       refine HR.out.mono ?_
       rintro e w2 ⟨rfl, hB2⟩
       obtain ⟨y0, y1, y2, y3, y4⟩ := q0j ((hB2.block w.heap.size x4).trans HBX.out)
       have HB2 := hid (HB0.out.trans (hB2.mono HB0.out.size))
       have e3 : decide (300 < s.st) = false := by simp; omega
       clear hB2 x0 x1 x2 x3 x4 HW HBX HB0 HR
       go_wp2_with fail
       go_ret
       exact ⟨_, rfl, fun h => by simp at h, HB2.out⟩
     · have HR := hid (HRN.out hr)
       clear HRY HRN
       go_enter func22, ntmps22
       go_wp2_with fail
       rw [<- HW.out]
       go_wp2_with fail
       refine HR.out.mono ?_
       rintro e w2 ⟨rfl, hB2⟩
       obtain ⟨y0, y1, y2, y3, y4⟩ := q0j ((hB2.block w.heap.size x4).trans HBX.out)
       have HB2 := hid (HB0.out.trans (hB2.mono HB0.out.size))
       clear hB2 x0 x1 x2 x3 x4 HW HBX HB0 HR
       go_wp2_with fail
       go_ret
       exact ⟨_, rfl, fun h => .inr ⟨.inl hr, by simp at h; omega⟩, HB2.out⟩
 · have e1 : decide (s.st <= 40) = false := by simp [h1]
   by_cases hr : s.Right
   · have HR := hid (HRY.out hr)
     clear HRY HRN
     by_cases h3 : 300 < s.st
     · have e3 : decide (300 < s.st) = true := by simp [h3]
       go_enter func22, ntmps22
       go_wp2_with fail
       rw [<- HW.out]
       go_wp2_with fail
       refine HR.out.mono ?_
       rintro e w2 ⟨rfl, hB2⟩
       obtain ⟨y0, y1, y2, y3, y4⟩ := q0j ((hB2.block w.heap.size x4).trans HBX.out)
       have HB2 := hid (HB0.out.trans (hB2.mono HB0.out.size))
       clear hB2 x0 x1 x2 x3 x4 HW HBX HB0 HR
       go_wp2_with fail
       go_ret
       exact ⟨_, rfl, fun h => .inr ⟨.inr h3, by simp at h; omega⟩, HB2.out⟩
     · have e3 : decide (300 < s.st) = false := by simp [h3]
       go_enter func22, ntmps22
       go_wp2_with fail
       rw [<- HW.out]
       go_wp2_with fail
       refine HR.out.mono ?_
       rintro e w2 ⟨rfl, hB2⟩
       obtain ⟨y0, y1, y2, y3, y4⟩ := q0j ((hB2.block w.heap.size x4).trans HBX.out)
       have HB2 := hid (HB0.out.trans (hB2.mono HB0.out.size))
       clear hB2 x0 x1 x2 x3 x4 HW HBX HB0 HR
       go_wp2_with fail
       go_ret
       exact ⟨_, rfl, fun h => by simp at h, HB2.out⟩
   · have HR := hid (HRN.out hr)
     clear HRY HRN
     go_enter func22, ntmps22
     go_wp2_with fail
     rw [<- HW.out]
     go_wp2_with fail
     refine HR.out.mono ?_
     rintro e w2 ⟨rfl, hB2⟩
     obtain ⟨y0, y1, y2, y3, y4⟩ := q0j ((hB2.block w.heap.size x4).trans HBX.out)
     have HB2 := hid (HB0.out.trans (hB2.mono HB0.out.size))
     clear hB2 x0 x1 x2 x3 x4 HW HBX HB0 HR
     go_wp2_with fail
     go_ret
     exact ⟨_, rfl, fun h => .inr ⟨.inl hr, by simp at h; omega⟩, HB2.out⟩
end Go.Proofs.YtbaccmlfnbgehaaGreatDoor
namespace Go.Proofs.YtbaccmlfnbgehaaGreatDoor
open Go.RowKit Pl
open Lib (hid)
theorem Pl.idsN_no {F : Nat -> Bool} {m : Nat} (h : F m = false) : idsN F (m + 1) = idsN F m := by
 refine y0e 1 (fun k hk => ?_)
 obtain rfl : k = 0 := by omega
 simpa using h
theorem j2p {F : Nat -> Bool} {m : Nat} (h : F m = true) : intsOf (idsN F (m + 1)) = intsOf (idsN F m) ++ [(m : Int)] := by
 rw [v1x h]; simp [intsOf]
theorem j2c {n c : Nat} {g : Nat -> Bool} {w : World} {rb : Nat} (hR : w.rowIs rb 4 n (fun j => .bool (g j))) (hn : n <= 1000) :
    Calls prog 15 #[.slice (some ⟨rb, 0, none⟩) n c] w fun e w' => ∃ v, e = .returned v /\ w'.ownsRow w.heap.size 3 1 v (intsOf (idsN g n)).length ((intsOf (idsN g n)).flatMap encI) /\ Below w.heap.size w w' := by
 have HR := hid hR
 clear hR
 go_enter func15, ntmps15
 go_wp2_with fail
 go_loopw [3, 4] (fun v3 v4 wr => ∃ k : Nat, k <= n /\ v4 = .int .i64 k /\ wr.ownsRow w.heap.size 3 1 v3 (intsOf (idsN g k)).length ((intsOf (idsN g k)).flatMap encI) /\ Below w.heap.size w wr) (fun _ v4 _ => n - (intOf v4).toNat)
 case atStart => exact ⟨0, l8 _, rfl, World.ownsRow_nil _ _ _ _, Below.refl _ _⟩
 case round => (
 obtain ⟨k, hk, rfl, hown, hnx⟩ := hrel
 by_cases hlt : k < n
 · (
 have hkI : (k : Int) < (n : Int) := by omega
 have hrw := HR.out.of_block (hnx.block _ HR.out.lt)
 have c0 := hrw.cell hlt
 have cl := hrw.lt
 have hle : (intsOf (idsN g k)).length <= n := by rw [j0p]; exact Nat.le_trans (p0q g k) hk
 have hsz := hnx.size
 obtain ⟨gk, hgk⟩ : ∃ gk, gk = g k := ⟨_, rfl⟩
 rw [<- hgk] at c0
 have HGK := hid hgk
 clear hrw hgk
 cases gk
 · (
 have HQ : Hid (intsOf (idsN g (k + 1)) = intsOf (idsN g k)) := hid (by rw [idsN_no HGK.out.symm])
 have HO := hid hown; have HN := hid hnx
 clear hown hnx
 go_wp2_with fail
 go_roundw
 case rel => exact ⟨k + 1, by omega, by go_num, by rw [HQ.out]; exact HO.out, HN.out⟩
 case measure => simp [intOf]; omega)
 · (
 have HQ : Hid (intsOf (idsN g (k + 1)) = intsOf (idsN g k) ++ [(k : Int)]) := hid (j2p HGK.out.symm)
 obtain ⟨L, hL⟩ : ∃ L, L = intsOf (idsN g k) := ⟨_, rfl⟩
 rw [<- hL] at HQ hown hle
 obtain ⟨ll, hll⟩ : ∃ ll, ll = L.length := ⟨_, rfl⟩
 obtain ⟨fl', hfl⟩ : ∃ fl', fl' = L.flatMap encI := ⟨_, rfl⟩
 rw [<- hll, <- hfl] at hown
 rw [<- hll] at hle
 have HFL := hid hfl; have HLL := hid hll
 clear hL hll hfl
 go_wp2_with (at_builtin; refine p0e rfl _ _ _ rfl p2q (hnx.alloc hsz _) (by simp; omega) rfl (hown.alloc _) ⟨wr.heap.size, 0, none⟩ 1 1 [.int .i64 (k : Int)] rfl rfl (k0c (by simp [go_sem])) (by simp [Value.oneCell']) (by omega) (by unfold maxLen; omega) ?_; intro v' w1 hown1 hb1 _)
 have HO := hid hown1; have HB := hid hb1
 clear hown hnx hown1 hb1
 go_roundw
 case rel => exact ⟨k + 1, by omega, by go_num, by rw [HQ.out, List.length_append, List.flatMap_append, <- HFL.out, <- HLL.out]; exact HO.out, HB.out⟩
 case measure => simp [intOf]; omega))
 · go_wp2_with fail
   go_ret
   obtain rfl : k = n := by omega
   exact ⟨_, rfl, hown, hnx⟩)
end Go.Proofs.YtbaccmlfnbgehaaGreatDoor

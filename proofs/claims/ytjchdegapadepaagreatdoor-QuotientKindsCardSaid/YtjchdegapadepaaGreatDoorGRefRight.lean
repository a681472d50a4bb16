/-
  Lemmas.
-/
import Derived.Test.YtjchdegapadepaaGreatDoorRefSort2
import Derived.Test.YtjchdegapadepaaGreatDoorGTauK
import Derived.Test.YtjchdegapadepaaGreatDoorTauI
import Derived.Test.YtjchdegapadepaaGreatDoorGMem
import Derived.Test.YtjchdegapadepaaGreatDoorGCanon
import Derived.StringKeys
set_option maxHeartbeats 2000000
set_option maxRecDepth 100000
namespace Go.Proofs.YtjchdegapadepaaGreatDoor
open Go.RowKit Pl
open Lib (hid)
theorem v1r (st lb s0 : Int) (a : Option Addr) (n c : Nat) (w : World) (h : HeadBad st lb s0 n) :
    Calls Tryz.prog 15 #[.agg #[.int .i64 st, .int .i64 lb, .int .i64 s0, .slice a n c]] w fun e w' => e = .returned (.bool false) /\ Below w.heap.size w w' := by
 have key : (st < 0) ∨ (¬ st < 0 /\ 1000 < st) ∨ (¬ st < 0 /\ ¬ 1000 < st /\ lb < 1) ∨ (¬ st < 0 /\ ¬ 1000 < st /\ ¬ lb < 1 /\ 201 < lb) ∨ (¬ st < 0 /\ ¬ 1000 < st /\ ¬ lb < 1 /\ ¬ 201 < lb /\ (10000 : Int) < (n : Int)) ∨
     (¬ st < 0 /\ ¬ 1000 < st /\ ¬ lb < 1 /\ ¬ 201 < lb /\ ¬ (10000 : Int) < (n : Int) /\ (st == 0) = true /\ (s0 != 0) = true) ∨
     (¬ st < 0 /\ ¬ 1000 < st /\ ¬ lb < 1 /\ ¬ 201 < lb /\ ¬ (10000 : Int) < (n : Int) /\ (st == 0) = false /\ 0 < st /\ s0 < 0) ∨
     (¬ st < 0 /\ ¬ 1000 < st /\ ¬ lb < 1 /\ ¬ 201 < lb /\ ¬ (10000 : Int) < (n : Int) /\ (st == 0) = false /\ 0 < st /\ ¬ s0 < 0 /\ st <= s0) := by
   unfold HeadBad at h
   simp only [beq_iff_eq, bne_iff_ne, beq_eq_false_iff_ne]
   omega
 clear h
 rcases key with h1 | ⟨h1, h2⟩ | ⟨h1, h2, h3⟩ | ⟨h1, h2, h3, h4⟩ | ⟨h1, h2, h3, h4, h5⟩ | ⟨h1, h2, h3, h4, h5, h6, h7⟩ | ⟨h1, h2, h3, h4, h5, h6, h7, h8⟩ | ⟨h1, h2, h3, h4, h5, h6, h7, h8, h9⟩
 all_goals
   go_enter Tryz.func15, Tryz.ntmps15
   go_wp2
   go_ret
   exact ⟨rfl, (Below.refl _ _).alloc (Nat.le_refl _) _⟩
theorem u0j {st lb s0 : Int} {xs : List E} (hh : ¬ HeadBad st lb s0 xs.length) {a : Option Addr} {b off c : Nat} {w : World} (hS : SlAt encE 3 w a b off xs) :
    Calls Tryz.prog 15 #[.agg #[.int .i64 st, .int .i64 lb, .int .i64 s0, .slice a xs.length c]] w fun e w' => e = .returned (.bool (xs.all fun x => !offB st lb x)) /\ Below w.heap.size w w' := by
 unfold HeadBad at hh
 obtain ⟨h1, h2, h3, h4, h5, h6, h7⟩ : ¬ st < 0 /\ ¬ 1000 < st /\ ¬ lb < 1 /\ ¬ 201 < lb /\ ¬ s0 < 0 /\ (s0 = 0 ∨ s0 < st) /\ ¬ (10000 : Int) < (xs.length : Int) := by omega
 have key : ((st == 0) = true /\ (s0 != 0) = false /\ ¬ 0 < st) ∨ ((st == 0) = false /\ 0 < st /\ ¬ st <= s0) := by
   simp only [beq_iff_eq, bne_eq_false_iff_eq, beq_eq_false_iff_ne]
   omega
 have HS := hid hS
 clear hh h6 hS
 obtain ⟨C, hC⟩ : ∃ C, C = Obj.cells #[.int .i64 st, .int .i64 lb, .int .i64 s0, .slice a xs.length c] 24 := ⟨_, rfl⟩
 have HC := hid hC
 clear hC
 rcases key with ⟨k1, k2, k3⟩ | ⟨k1, k2, k3⟩
 · obtain rfl : st = 0 := by simpa using k1
   obtain rfl : s0 = 0 := by simpa using k2
   clear k1 k2 k3 h1 h2 h5
   go_enter Tryz.func15, Tryz.ntmps15
   go_wp2
   rw [<- HC.out]
   go_loopw [3, 4] (fun i _ wr => ∃ k : Nat, k <= xs.length /\ i = .int .i64 k /\ (∀ j x, j < k -> xs[j]? = some x -> offB 0 lb x = false) /\ Below (w.heap.size + 1) (w.alloc C) wr)
     (fun i _ _ => xs.length - (intOf i).toNat)
   case atStart => exact ⟨0, Nat.zero_le _, rfl, by intro j x hj; omega, Below.refl _ _⟩
   case round =>
     obtain ⟨k, hk, rfl, hz, hB⟩ := hrel
     have HZ := hid hz; clear hz
     have hsz : w.heap.size + 1 <= wr.heap.size := by simpa using hB.size
     have q0 : wr.heap[w.heap.size]? = some C := by
       rw [hB.block _ (by omega), heap_alloc_new]
     rw [HC.out] at q0
     have s0' : wr.cell? ⟨w.heap.size, 0, none⟩ = some (.int .i64 0) := by simp [World.cell?, q0]
     have s1' : wr.cell? ⟨w.heap.size, 1, none⟩ = some (.int .i64 lb) := by simp [World.cell?, q0]
     have s2' : wr.cell? ⟨w.heap.size, 2, none⟩ = some (.int .i64 0) := by simp [World.cell?, q0]
     have s3' : wr.cell? ⟨w.heap.size, 3, none⟩ = some (.slice a xs.length c) := by simp [World.cell?, q0]
     have hBw : Below w.heap.size w wr := ((Below.refl _ _).alloc (Nat.le_refl _) C).trans (hB.mono (by omega))
     have hltr : w.heap.size < wr.heap.size := by omega
     have HB := hid hB; have HBW := hid hBw
     clear q0 hB hBw
     by_cases hlt2 : k < xs.length
     · obtain ⟨x, hx⟩ := j0a hlt2
       have hS' := HS.out.below HBW.out (Nat.le_refl _)
       obtain rfl := hS'.ad (by omega)
       have c0 := hS'.e0 hx; have c1 := hS'.e1 hx; have c2 := hS'.e2 hx
       have hbl := hS'.lt (by omega)
       have hik : (k : Int) < (xs.length : Int) := by omega
       have HX := hid hx
       clear hx hS'
       obtain ⟨x1, x2, x3⟩ := x
       simp only at c0 c1 c2
       by_cases ho : offB 0 lb (x1, x2, x3) = true
       · have HO := hid ho
         have hall : xs.all (fun x => !offB 0 lb x) = false := by
           rw [List.all_eq_false]
           exact ⟨_, List.mem_of_getElem? HX.out, by simp [HO.out]⟩
         have HALL := hid hall
         have key2 : (x1 < 0) ∨ (¬ x1 < 0 /\ 0 <= x1) := by
           simp only [offB, Bool.or_eq_true, decide_eq_true_eq] at ho
           omega
         clear ho hall
         rcases key2 with g1 | ⟨g1, g2⟩
         all_goals
           go_wp2
           go_ret
           exact ⟨ret_b (a := false) HALL.out.symm, ((HBW.out).alloc (by omega) _)⟩
       · exact absurd (by simp only [offB, Bool.or_eq_true, decide_eq_true_eq]; omega) ho
     · go_wp2
       go_ret
       have hall : xs.all (fun x => !offB 0 lb x) = true := by
         rw [List.all_eq_true]
         intro x hx
         obtain ⟨j, hj, rfl⟩ := List.getElem_of_mem hx
         simp [HZ.out j _ (by omega) (List.getElem?_eq_getElem hj)]
       exact ⟨ret_b (a := true) hall.symm, HBW.out⟩
 · go_enter Tryz.func15, Tryz.ntmps15
   go_wp2
   rw [<- HC.out]
   go_loopw [3, 4] (fun i _ wr => ∃ k : Nat, k <= xs.length /\ i = .int .i64 k /\ (∀ j x, j < k -> xs[j]? = some x -> offB st lb x = false) /\ Below (w.heap.size + 1) (w.alloc C) wr)
     (fun i _ _ => xs.length - (intOf i).toNat)
   case atStart => exact ⟨0, Nat.zero_le _, rfl, by intro j x hj; omega, Below.refl _ _⟩
   case round =>
     obtain ⟨k, hk, rfl, hz, hB⟩ := hrel
     have HZ := hid hz; clear hz
     have hsz : w.heap.size + 1 <= wr.heap.size := by simpa using hB.size
     have q0 : wr.heap[w.heap.size]? = some C := by
       rw [hB.block _ (by omega), heap_alloc_new]
     rw [HC.out] at q0
     have s0' : wr.cell? ⟨w.heap.size, 0, none⟩ = some (.int .i64 st) := by simp [World.cell?, q0]
     have s1' : wr.cell? ⟨w.heap.size, 1, none⟩ = some (.int .i64 lb) := by simp [World.cell?, q0]
     have s2' : wr.cell? ⟨w.heap.size, 2, none⟩ = some (.int .i64 s0) := by simp [World.cell?, q0]
     have s3' : wr.cell? ⟨w.heap.size, 3, none⟩ = some (.slice a xs.length c) := by simp [World.cell?, q0]
     have hBw : Below w.heap.size w wr := ((Below.refl _ _).alloc (Nat.le_refl _) C).trans (hB.mono (by omega))
     have hltr : w.heap.size < wr.heap.size := by omega
     have HB := hid hB; have HBW := hid hBw
     clear q0 hB hBw
     by_cases hlt2 : k < xs.length
     · obtain ⟨x, hx⟩ := j0a hlt2
       have hS' := HS.out.below HBW.out (Nat.le_refl _)
       obtain rfl := hS'.ad (by omega)
       have c0 := hS'.e0 hx; have c1 := hS'.e1 hx; have c2 := hS'.e2 hx
       have hbl := hS'.lt (by omega)
       have hik : (k : Int) < (xs.length : Int) := by omega
       have HX := hid hx
       clear hx hS'
       obtain ⟨x1, x2, x3⟩ := x
       simp only at c0 c1 c2
       by_cases ho : offB st lb (x1, x2, x3) = true
       · have HO := hid ho
         have hall : xs.all (fun x => !offB st lb x) = false := by
           rw [List.all_eq_false]
           exact ⟨_, List.mem_of_getElem? HX.out, by simp [HO.out]⟩
         have HALL := hid hall
         have key2 : (x1 < 0) ∨ (¬ x1 < 0 /\ st <= x1) ∨ (¬ x1 < 0 /\ ¬ st <= x1 /\ x3 < 0) ∨ (¬ x1 < 0 /\ ¬ st <= x1 /\ ¬ x3 < 0 /\ st <= x3) ∨ (¬ x1 < 0 /\ ¬ st <= x1 /\ ¬ x3 < 0 /\ ¬ st <= x3 /\ x2 < 0) ∨ (¬ x1 < 0 /\ ¬ st <= x1 /\ ¬ x3 < 0 /\ ¬ st <= x3 /\ ¬ x2 < 0 /\ lb <= x2) := by
           simp only [offB, Bool.or_eq_true, decide_eq_true_eq] at ho
           omega
         clear ho hall
         rcases key2 with g1 | ⟨g1, g2⟩ | ⟨g1, g2, g3⟩ | ⟨g1, g2, g3, g4⟩ | ⟨g1, g2, g3, g4, g5⟩ | ⟨g1, g2, g3, g4, g5, g6⟩
         all_goals
           go_wp2
           go_ret
           exact ⟨ret_b (a := false) HALL.out.symm, ((HBW.out).alloc (by omega) _)⟩
       · have ho' : offB st lb (x1, x2, x3) = false := by simpa using ho
         have HO := hid ho'
         obtain ⟨g1, g2, g3, g4, g5, g6⟩ : ¬ x1 < 0 /\ ¬ st <= x1 /\ ¬ x3 < 0 /\ ¬ st <= x3 /\ ¬ x2 < 0 /\ ¬ lb <= x2 := by
           simp only [offB, Bool.or_eq_true, decide_eq_true_eq] at ho
           omega
         clear ho ho'
         go_wp2
         go_roundw
         case rel => exact ⟨k + 1, by omega, by go_num, by
           intro j y hj hy
           by_cases hjk : j = k
           · subst hjk
             rw [HX.out] at hy
             simp at hy; subst hy
             exact HO.out
           · exact HZ.out j y (by omega) hy, HB.out.alloc (by omega) _⟩
         case measure => simp [intOf]; omega
     · go_wp2
       go_ret
       have hall : xs.all (fun x => !offB st lb x) = true := by
         rw [List.all_eq_true]
         intro x hx
         obtain ⟨j, hj, rfl⟩ := List.getElem_of_mem hx
         simp [HZ.out j _ (by omega) (List.getElem?_eq_getElem hj)]
       exact ⟨ret_b (a := true) hall.symm, HBW.out⟩
theorem p1k {s : Lts} (h : s.Right) {a : Option Addr} {b off c : Nat} {w : World} (hS : SlAt encE 3 w a b off s.es) :
    Calls Tryz.prog 15 #[.agg #[.int .i64 s.st, .int .i64 s.lb, .int .i64 s.s0, .slice a s.es.length c]] w fun e w' => e = .returned (.bool true) /\ Below w.heap.size w w' := by
 refine (u0j h.head hS).mono ?_
 rintro e w' ⟨rfl, hB⟩
 have : s.es.all (fun x => !offB s.st s.lb x) = true := by rw [List.all_eq_true]; intro x hx; simp [h.edges x hx]
 exact ⟨by rw [this], hB⟩
theorem z1f {s : Lts} (h : ¬ s.Right) {a : Option Addr} {b off c : Nat} {w : World} (hS : SlAt encE 3 w a b off s.es) :
    Calls Tryz.prog 15 #[.agg #[.int .i64 s.st, .int .i64 s.lb, .int .i64 s.s0, .slice a s.es.length c]] w fun e w' => e = .returned (.bool false) /\ Below w.heap.size w w' := by
 by_cases hh : HeadBad s.st s.lb s.s0 s.es.length
 · exact v1r s.st s.lb s.s0 a s.es.length c w hh
 · (
 refine (u0j hh hS).mono ?_
 rintro e w' ⟨rfl, hB⟩
 have : s.es.all (fun x => !offB s.st s.lb x) = false := by
   rw [Bool.eq_false_iff]; intro ha; rw [List.all_eq_true] at ha
   exact h ⟨hh, fun x hx => by simpa using ha x hx⟩
 exact ⟨by rw [this], hB⟩)
end Go.Proofs.YtjchdegapadepaaGreatDoor
namespace Go.Proofs.YtjchdegapadepaaGreatDoor
open Go.RowKit Pl
open Lib (hid)
theorem k2v (l x : ByteArray) (hl : l.size <= 1000) (hx : x.size <= 1000) {k : Int} (hk : k ≠ 0) (i j : Int) (w : World) : Calls Tryz.prog 19 #[.string l, .agg #[.int .i64 k, .int .i64 i, .int .i64 j, .string x]] w fun e w' => e = .returned (.agg #[.int .i64 k, .int .i64 i, .int .i64 j, .string (l ++ ⟨#[32]⟩ ++ x)]) /\ Below w.heap.size w w' := by
 have hz1 : ¬ 9223372036854775807 < l.size + 1 := by omega
 have hz2 : ¬ 9223372036854775807 < l.size + 1 + x.size := by omega
 have hk1 : (k == 0) = false := by simp [hk]
 go_enter Tryz.func19, Tryz.ntmps19
 go_wp2_with fail
 refine bodyPost_ret (v := .agg #[.int .i64 k, .int .i64 i, .int .i64 j, .string (l ++ ⟨#[32]⟩ ++ x)]) (by simp [results, Tryz.results19, go_sem]) rfl ⟨rfl, ((Below.refl _ _).alloc (Nat.le_refl _) _).alloc (by simp) _⟩
theorem errC {w : World} {B : Nat} {x y z : Int} {u : ByteArray} (h : w.heap[B]? = some (.cells #[.int .i64 x, .int .i64 y, .int .i64 z, .string u] 33 (0, 0))) :
    (w.cell? ⟨B, 0, none⟩ = some (.int .i64 x) /\ w.cell? ⟨B, 1, none⟩ = some (.int .i64 y) /\ w.cell? ⟨B, 2, none⟩ = some (.int .i64 z) /\ w.cell? ⟨B, 3, none⟩ = some (.string u)) /\ (w.frozen? ⟨B, 0, none⟩ = false /\ w.frozen? ⟨B, 1, none⟩ = false /\ w.frozen? ⟨B, 2, none⟩ = false /\ w.frozen? ⟨B, 3, none⟩ = false) /\ B < w.heap.size := by
 refine ⟨⟨?_, ?_, ?_, ?_⟩, ⟨?_, ?_, ?_, ?_⟩, (Array.getElem?_eq_some_iff.1 h).1⟩ <;> simp [World.cell?, World.frozen?, h]
theorem errW (w : World) (o : Obj) : Below w.heap.size w ((w.alloc o).alloc (Obj.cells #[.int .i64 0, .int .i64 0, .int .i64 0, .string ⟨#[]⟩] 33)) /\ ((w.alloc o).alloc (Obj.cells #[.int .i64 0, .int .i64 0, .int .i64 0, .string ⟨#[]⟩] 33)).heap[w.heap.size + 1]? = some (.cells #[.int .i64 0, .int .i64 0, .int .i64 0, .string ⟨#[]⟩] 33 (0, 0)) := by
 refine ⟨((Below.refl _ _).alloc (Nat.le_refl _) _).alloc (by simp) _, ?_⟩
 have h := heap_alloc_new (w.alloc o) (Obj.cells #[.int .i64 0, .int .i64 0, .int .i64 0, .string ⟨#[]⟩] 33)
 rw [show (w.alloc o).heap.size = w.heap.size + 1 by simp] at h
 exact h
theorem errS {w w' : World} (h : Below w.heap.size w w') (a b c d : Value) : Below w.heap.size w ((((w'.setCell ⟨w.heap.size + 1, 0, none⟩ a).setCell ⟨w.heap.size + 1, 1, none⟩ b).setCell ⟨w.heap.size + 1, 2, none⟩ c).setCell ⟨w.heap.size + 1, 3, none⟩ d) :=
  (((h.setCell (by show w.heap.size <= w.heap.size + 1; omega) _).setCell (by show w.heap.size <= w.heap.size + 1; omega) _).setCell (by show w.heap.size <= w.heap.size + 1; omega) _).setCell (by show w.heap.size <= w.heap.size + 1; omega) _
theorem x1t {s : Lts} (h : ¬ s.Right) {a : Option Addr} {b off c : Nat} {w : World} (hS : SlAt encE 3 w a b off s.es) :
    Calls Tryz.prog 20 #[.agg #[.int .i64 s.st, .int .i64 s.lb, .int .i64 s.s0, .slice a s.es.length c]] w fun e w' => e = .returned (.agg #[.int .i64 14, .int .i64 0, .int .i64 0, .string (sysName ++ ⟨#[32]⟩)]) /\ Below w.heap.size w w' := by
 have hbd := bad_any sysName (by decide) 14
 obtain ⟨el, hel⟩ : ∃ el, el = s.es.length := ⟨_, rfl⟩
 have hR : ∀ V, Below w.heap.size w V -> _ := fun V (hV : Below w.heap.size w V) => z1f (c := c) h (hS.below hV (Nat.le_refl _))
 rw [<- hel] at hR ⊢
 obtain ⟨hB0, hE0⟩ := errW w (Obj.cells #[.int .i64 s.st, .int .i64 s.lb, .int .i64 s.s0, .slice a el c] 24)
 have HR := hid (hR _ hB0); have HB0 := hid hB0; have HE0 := hid hE0
 unfold sysName at hbd ⊢
 clear hS h hel hR hB0 hE0
 go_enter Tryz.func20, Tryz.ntmps20
 go_wp2_with fail
 refine HR.out.mono ?_
 rintro e w2 ⟨rfl, hB2⟩
 have hx2 := (hB2.block (w.heap.size + 1) (by simp)).trans HE0.out
 have hb2 := HB0.out.trans (hB2.mono HB0.out.size)
 have HX2 := hid hx2; have HB2 := hid hb2
 clear hx2 hb2 hB2 HR HB0 HE0
 go_wp2_with fail
 refine (hbd _).mono ?_
 rintro e w3 ⟨rfl, hB3⟩
 have hx3 := (hB3.block _ (Array.getElem?_eq_some_iff.1 HX2.out).1).trans HX2.out
 have HB3 := hid (HB2.out.trans (hB3.mono HB2.out.size))
 obtain ⟨⟨z0, z1, z2, z3⟩, ⟨f0, f1, f2, f3⟩, zl⟩ := errC hx3
 clear hx3 hB3 HX2 HB2 hbd
 go_wp2_with fail
 refine bodyPost_ret (v := .agg #[.int .i64 14, .int .i64 0, .int .i64 0, .string (⟨#[115, 121, 115, 116, 101, 109]⟩ ++ ⟨#[32]⟩)]) (by simp [results, Tryz.results20, go_sem, z0, z1, z2, z3]) rfl ⟨rfl, errS HB3.out _ _ _ _⟩
theorem p1p (l : ByteArray) (hl : l.size <= 900) {s : Lts} (h : ¬ s.Right) {a : Option Addr} {b off c : Nat} {w : World} (hS : SlAt encE 3 w a b off s.es) :
    Calls Tryz.prog 8 #[.string l, .agg #[.int .i64 s.st, .int .i64 s.lb, .int .i64 s.s0, .slice a s.es.length c]] w fun e w' => e = .returned (.agg #[.int .i64 14, .int .i64 0, .int .i64 0, .string (l ++ ⟨#[32]⟩ ++ sysName ++ ⟨#[32]⟩)]) /\ Below w.heap.size w w' := by
 obtain ⟨hB0, hE0⟩ := errW w (Obj.cells #[.int .i64 s.st, .int .i64 s.lb, .int .i64 s.s0, .slice a s.es.length c] 24)
 have HCK := hid (x1t (c := c) h (hS.below hB0 (Nat.le_refl _)))
 have hon := k2v l (sysName ++ ⟨#[32]⟩) (by omega) (by decide) (k := 14) (by decide) 0 0
 rw [<- ByteArray.append_assoc] at hon
 obtain ⟨el, hel⟩ : ∃ el, el = s.es.length := ⟨_, rfl⟩
 rw [<- hel] at HCK hB0 hE0 ⊢
 have HB0 := hid hB0; have HE0 := hid hE0
 obtain ⟨sx, hsx⟩ : ∃ sx, sx = sysName ++ ⟨#[32]⟩ := ⟨_, rfl⟩
 obtain ⟨rx, hrx⟩ : ∃ rx, rx = l ++ ⟨#[32]⟩ ++ sysName ++ ⟨#[32]⟩ := ⟨_, rfl⟩
 rw [<- hsx] at HCK
 rw [<- hrx] at hon ⊢
 rw [<- hsx] at hon
 clear hS h hel hB0 hE0 hsx hrx
 go_enter Tryz.func8, Tryz.ntmps8
 go_wp2_with fail
 refine HCK.out.mono ?_
 rintro e w2 ⟨rfl, hB2⟩
 have hx2 := (hB2.block (w.heap.size + 1) (by simp)).trans HE0.out
 have hb2 := HB0.out.trans (hB2.mono HB0.out.size)
 have HX2 := hid hx2; have HB2 := hid hb2
 clear hx2 hb2 hB2 HCK HB0 HE0
 go_wp2_with fail
 refine (hon _).mono ?_
 rintro e w3 ⟨rfl, hB3⟩
 have hx3 := (hB3.block _ (Array.getElem?_eq_some_iff.1 HX2.out).1).trans HX2.out
 have HB3 := hid (HB2.out.trans (hB3.mono HB2.out.size))
 obtain ⟨⟨z0, z1, z2, z3⟩, ⟨f0, f1, f2, f3⟩, zl⟩ := errC hx3
 clear hx3 hB3 HX2 HB2 hon
 go_wp2_with fail
 refine bodyPost_ret (v := .agg #[.int .i64 14, .int .i64 0, .int .i64 0, .string rx]) (by simp [results, Tryz.results8, go_sem, z0, z1, z2, z3]) rfl ⟨rfl, errS HB3.out _ _ _ _⟩
end Go.Proofs.YtjchdegapadepaaGreatDoor
namespace Go.Proofs.YtjchdegapadepaaGreatDoor
open Go.RowKit Pl
open Lib (hid)
theorem z0y {s : Lts} {a : Option Addr} {b off c : Nat} {w : World} (hS : SlAt encE 3 w a b off s.es) :
    Calls Tryz.prog 4 #[.agg #[.int .i64 s.st, .int .i64 s.lb, .int .i64 s.s0, .slice a s.es.length c]] w fun e w' => ∃ bv : Bool, e = .returned (.bool bv) /\ (bv = true -> (s.st <= 60 /\ s.es.length <= 400) ∨ (¬ s.Right /\ s.es.length <= 11000)) /\ Below w.heap.size w w' := by
 obtain ⟨W, hW⟩ : ∃ W, W = w.alloc (Obj.cells #[.int .i64 s.st, .int .i64 s.lb, .int .i64 s.s0, .slice a s.es.length c] 24) := ⟨_, rfl⟩
 have hB0 : Below w.heap.size w W := by rw [hW]; exact (Below.refl w.heap.size w).alloc (Nat.le_refl _) _
 have hbx := heap_alloc_new w (Obj.cells #[.int .i64 s.st, .int .i64 s.lb, .int .i64 s.s0, .slice a s.es.length c] 24)
 rw [<- hW] at hbx
 have hRY : s.Right -> _ := fun h => p1k (c := c) h (hS.below hB0 (Nat.le_refl _))
 have hRN : ¬ s.Right -> _ := fun h => z1f (c := c) h (hS.below hB0 (Nat.le_refl _))
 obtain ⟨el, hel⟩ : ∃ el, el = s.es.length := ⟨_, rfl⟩
 rw [<- hel] at hRY hRN hbx hW ⊢
 have HRY := hid hRY; have HRN := hid hRN; have HB0 := hid hB0; have HW := hid hW; have HBX := hid hbx
 obtain ⟨x0, x1, x2, x3, x4⟩ := x0v hbx
 clear hS hel hRY hRN hB0 hW hbx
 by_cases h1 : s.st <= 60
 · have e1 : decide (s.st <= 60) = true := by simp [h1]
   by_cases h2 : (el : Int) <= 400
   · have e2 : decide ((el : Int) <= 400) = true := by simp [h2]
     go_enter Tryz.func4, Tryz.ntmps4
     go_wp2_with fail
     rw [<- HW.out]
     go_wp2_with fail
     go_ret
     exact ⟨_, rfl, fun _ => .inl ⟨h1, by omega⟩, HB0.out⟩
   · have e2 : decide ((el : Int) <= 400) = false := by simp [h2]
     by_cases hr : s.Right
     · have HR := hid (HRY.out hr)
       clear HRY HRN
       go_enter Tryz.func4, Tryz.ntmps4
       go_wp2_with fail
       rw [<- HW.out]
       go_wp2_with fail
       refine HR.out.mono ?_
       rintro e w2 ⟨rfl, hB2⟩
       obtain ⟨y0, y1, y2, y3, y4⟩ := x0v ((hB2.block w.heap.size x4).trans HBX.out)
       have HB2 := hid (HB0.out.trans (hB2.mono HB0.out.size))
       clear hB2 x0 x1 x2 x3 x4 HW HBX HB0 HR
       go_wp2_with fail
       go_ret
       exact ⟨_, rfl, fun h => by simp at h, HB2.out⟩
     · have HR := hid (HRN.out hr)
       clear HRY HRN
       by_cases h3 : (el : Int) <= 11000
       · have e3 : decide ((el : Int) <= 11000) = true := by simp [h3]
         go_enter Tryz.func4, Tryz.ntmps4
         go_wp2_with fail
         rw [<- HW.out]
         go_wp2_with fail
         refine HR.out.mono ?_
         rintro e w2 ⟨rfl, hB2⟩
         obtain ⟨y0, y1, y2, y3, y4⟩ := x0v ((hB2.block w.heap.size x4).trans HBX.out)
         have HB2 := hid (HB0.out.trans (hB2.mono HB0.out.size))
         clear hB2 x0 x1 x2 x3 x4 HW HBX HB0 HR
         go_wp2_with fail
         go_ret
         exact ⟨_, rfl, fun _ => .inr ⟨hr, by omega⟩, HB2.out⟩
       · have e3 : decide ((el : Int) <= 11000) = false := by simp [h3]
         go_enter Tryz.func4, Tryz.ntmps4
         go_wp2_with fail
         rw [<- HW.out]
         go_wp2_with fail
         refine HR.out.mono ?_
         rintro e w2 ⟨rfl, hB2⟩
         obtain ⟨y0, y1, y2, y3, y4⟩ := x0v ((hB2.block w.heap.size x4).trans HBX.out)
         have HB2 := hid (HB0.out.trans (hB2.mono HB0.out.size))
         clear hB2 x0 x1 x2 x3 x4 HW HBX HB0 HR
         go_wp2_with fail
         go_ret
         exact ⟨_, rfl, fun h => by simp at h, HB2.out⟩
 · have e1 : decide (s.st <= 60) = false := by simp [h1]
   by_cases hr : s.Right
   · have HR := hid (HRY.out hr)
     clear HRY HRN
     go_enter Tryz.func4, Tryz.ntmps4
     go_wp2_with fail
     rw [<- HW.out]
     go_wp2_with fail
     refine HR.out.mono ?_
     rintro e w2 ⟨rfl, hB2⟩
     obtain ⟨y0, y1, y2, y3, y4⟩ := x0v ((hB2.block w.heap.size x4).trans HBX.out)
     have HB2 := hid (HB0.out.trans (hB2.mono HB0.out.size))
     clear hB2 x0 x1 x2 x3 x4 HW HBX HB0 HR
     go_wp2_with fail
     go_ret
     exact ⟨_, rfl, fun h => by simp at h, HB2.out⟩
   · have HR := hid (HRN.out hr)
     clear HRY HRN
     by_cases h3 : (el : Int) <= 11000
     · have e3 : decide ((el : Int) <= 11000) = true := by simp [h3]
       go_enter Tryz.func4, Tryz.ntmps4
       go_wp2_with fail
       rw [<- HW.out]
       go_wp2_with fail
       refine HR.out.mono ?_
       rintro e w2 ⟨rfl, hB2⟩
       obtain ⟨y0, y1, y2, y3, y4⟩ := x0v ((hB2.block w.heap.size x4).trans HBX.out)
       have HB2 := hid (HB0.out.trans (hB2.mono HB0.out.size))
       clear hB2 x0 x1 x2 x3 x4 HW HBX HB0 HR
       go_wp2_with fail
       go_ret
       exact ⟨_, rfl, fun _ => .inr ⟨hr, by omega⟩, HB2.out⟩
     · have e3 : decide ((el : Int) <= 11000) = false := by simp [h3]
       go_enter Tryz.func4, Tryz.ntmps4
       go_wp2_with fail
       rw [<- HW.out]
       go_wp2_with fail
       refine HR.out.mono ?_
       rintro e w2 ⟨rfl, hB2⟩
       obtain ⟨y0, y1, y2, y3, y4⟩ := x0v ((hB2.block w.heap.size x4).trans HBX.out)
       have HB2 := hid (HB0.out.trans (hB2.mono HB0.out.size))
       clear hB2 x0 x1 x2 x3 x4 HW HBX HB0 HR
       go_wp2_with fail
       go_ret
       exact ⟨_, rfl, fun h => by simp at h, HB2.out⟩
end Go.Proofs.YtjchdegapadepaaGreatDoor
namespace Go.Proofs.YtjchdegapadepaaGreatDoor
open Go.RowKit Pl
open Lib (hid)
theorem v1w (l : ByteArray) (w : World) : Calls Tryz.prog 19 #[.string l, .agg #[.int .i64 0, .int .i64 0, .int .i64 0, .string ⟨#[]⟩]] w fun e w' => e = .returned (.agg #[.int .i64 0, .int .i64 0, .int .i64 0, .string ⟨#[]⟩]) /\ Below w.heap.size w w' := by
 go_enter Tryz.func19, Tryz.ntmps19
 go_wp2_with fail
 refine bodyPost_ret (v := .agg #[.int .i64 0, .int .i64 0, .int .i64 0, .string ⟨#[]⟩]) (by simp [results, Tryz.results19, go_sem]) rfl ⟨rfl, ((Below.refl _ _).alloc (Nat.le_refl _) _).alloc (by simp) _⟩
theorem p1q {s : Lts} (h : s.Right) {a : Option Addr} {b off c : Nat} {w : World} (hS : SlAt encE 3 w a b off s.es) :
    Calls Tryz.prog 20 #[.agg #[.int .i64 s.st, .int .i64 s.lb, .int .i64 s.s0, .slice a s.es.length c]] w fun e w' => e = .returned (.agg #[.int .i64 0, .int .i64 0, .int .i64 0, .string ⟨#[]⟩]) /\ Below w.heap.size w w' := by
 obtain ⟨el, hel⟩ : ∃ el, el = s.es.length := ⟨_, rfl⟩
 have hR : ∀ V, Below w.heap.size w V -> _ := fun V (hV : Below w.heap.size w V) => p1k (c := c) h (hS.below hV (Nat.le_refl _))
 rw [<- hel] at hR ⊢
 obtain ⟨hB0, hE0⟩ := errW w (Obj.cells #[.int .i64 s.st, .int .i64 s.lb, .int .i64 s.s0, .slice a el c] 24)
 have HR := hid (hR _ hB0); have HB0 := hid hB0; have HE0 := hid hE0
 clear hS h hel hR hB0 hE0
 go_enter Tryz.func20, Tryz.ntmps20
 go_wp2_with fail
 refine HR.out.mono ?_
 rintro e w2 ⟨rfl, hB2⟩
 have hx2 := (hB2.block (w.heap.size + 1) (by simp)).trans HE0.out
 have HB2 := hid (HB0.out.trans (hB2.mono HB0.out.size))
 obtain ⟨⟨z0, z1, z2, z3⟩, ⟨f0, f1, f2, f3⟩, zl⟩ := errC hx2
 clear hx2 hB2 HR HB0 HE0
 go_wp2_with fail
 refine bodyPost_ret (v := .agg #[.int .i64 0, .int .i64 0, .int .i64 0, .string ⟨#[]⟩]) (by simp [results, Tryz.results20, go_sem, z0, z1, z2, z3]) rfl ⟨rfl, errS HB2.out _ _ _ _⟩
theorem j1l (l : ByteArray) {s : Lts} (h : s.Right) {a : Option Addr} {b off c : Nat} {w : World} (hS : SlAt encE 3 w a b off s.es) :
    Calls Tryz.prog 8 #[.string l, .agg #[.int .i64 s.st, .int .i64 s.lb, .int .i64 s.s0, .slice a s.es.length c]] w fun e w' => e = .returned (.agg #[.int .i64 0, .int .i64 0, .int .i64 0, .string ⟨#[]⟩]) /\ Below w.heap.size w w' := by
 obtain ⟨hB0, hE0⟩ := errW w (Obj.cells #[.int .i64 s.st, .int .i64 s.lb, .int .i64 s.s0, .slice a s.es.length c] 24)
 have HCK := hid (p1q (c := c) h (hS.below hB0 (Nat.le_refl _)))
 obtain ⟨el, hel⟩ : ∃ el, el = s.es.length := ⟨_, rfl⟩
 rw [<- hel] at HCK hB0 hE0 ⊢
 have HB0 := hid hB0; have HE0 := hid hE0
 have HON := hid (v1w l)
 clear hS h hel hB0 hE0
 go_enter Tryz.func8, Tryz.ntmps8
 go_wp2_with fail
 refine HCK.out.mono ?_
 rintro e w2 ⟨rfl, hB2⟩
 have hx2 := (hB2.block (w.heap.size + 1) (by simp)).trans HE0.out
 have hb2 := HB0.out.trans (hB2.mono HB0.out.size)
 have HX2 := hid hx2; have HB2 := hid hb2
 clear hx2 hb2 hB2 HCK HB0 HE0
 go_wp2_with fail
 refine (HON.out _).mono ?_
 rintro e w3 ⟨rfl, hB3⟩
 have hx3 := (hB3.block _ (Array.getElem?_eq_some_iff.1 HX2.out).1).trans HX2.out
 have HB3 := hid (HB2.out.trans (hB3.mono HB2.out.size))
 obtain ⟨⟨z0, z1, z2, z3⟩, ⟨f0, f1, f2, f3⟩, zl⟩ := errC hx3
 clear hx3 hB3 HX2 HB2 HON
 go_wp2_with fail
 refine bodyPost_ret (v := .agg #[.int .i64 0, .int .i64 0, .int .i64 0, .string ⟨#[]⟩]) (by simp [results, Tryz.results8, go_sem, z0, z1, z2, z3]) rfl ⟨rfl, errS HB3.out _ _ _ _⟩
end Go.Proofs.YtjchdegapadepaaGreatDoor
namespace Go.Proofs.YtjchdegapadepaaGreatDoor
open Go.RowKit Pl Go.Maps
section
variable {α : Type} {enc : α -> List Value} {k : Nat} {e T : TypeId} {w w' : World} {base ob n : Nat} {f : Nat -> List α}
theorem OwnRows.congr {g : Nat -> List α} (h : OwnRows enc k e T w base ob n f) (hf : ∀ i, f i = g i) : OwnRows enc k e T w base ob n g := by
 have : f = g := funext hf
 rw [<- this]; exact h
theorem OwnRows.put (h : OwnRows enc k e T w base ob n f) {p : Nat} (hB : Below w.heap.size w w') (hbs : base <= w.heap.size) {v : Value} {ys : List α} (ho : w'.ownsRow w.heap.size e k v ys.length (ys.flatMap enc)) :
    OwnRows enc k e T (w'.setCell ⟨ob, p, none⟩ v) base ob n (fun i => if i = p then ys else f i) := by
 obtain ⟨vs, h1, h2, h3⟩ := h.ex
 refine ⟨⟨fun i => if i = p then v else vs i, (h1.of_block (hB.block ob h1.lt)).set p v, fun q hq => ?_, ?_⟩, h.lt⟩
 · (
 by_cases e1 : q = p
 · subst e1
   simp only [if_true]
   exact ownsRow_setCell_below (j0o ho hbs) h.lt _
 · simp only [if_neg e1]
   exact ownsRow_setCell_below (own_below (h2 q hq) hB) h.lt _)
 · (
 intro a b g ha hb hab hga
 by_cases e1 : a = p
 · (
 subst e1
 simp only [if_true] at hga
 simp only [if_neg (Ne.symm hab)]
 intro e2
 have h4 := (ho.lt g hga).1
 have h5 := ((h2 b hb).lt g e2).2
 omega)
 · (
 simp only [if_neg e1] at hga
 by_cases e2 : b = p
 · (
 subst e2
 simp only [if_true]
 intro e3
 have h4 := (ho.lt g e3).1
 have h5 := ((h2 a ha).lt g hga).2
 omega)
 · simp only [if_neg e2]; exact h3 a b g ha hb hab hga))
end
def encTx (x : List UInt8) : Value := .string ⟨x.toArray⟩
def okTx (x : List UInt8) : Prop := x.length <= 1000000
theorem q2w : KeyEnc Tryz.prog 9 encTx okTx where
  K := string_keyed Tryz.underlying9
  key x h := ⟨_, Go.WideMaps.keyOf_string_mk Tryz.underlying9 (by unfold maxLen; unfold okTx at h; show x.toArray.size <= _; rw [List.size_toArray]; omega)⟩
  inj x y h := by
    unfold encTx at h
    simp only [Value.string.injEq, ByteArray.mk.injEq] at h
    exact congrArg Array.toList h |>.trans (by rfl) |> fun e => by simpa using e
end Go.Proofs.YtjchdegapadepaaGreatDoor

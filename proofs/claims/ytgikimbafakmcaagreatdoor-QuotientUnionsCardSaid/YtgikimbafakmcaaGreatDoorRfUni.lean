/-
  Lemmas.
-/
import Derived.Test.YtgikimbafakmcaaGreatDoorGQuoB
import Derived.Test.YtgikimbafakmcaaGreatDoorGRf9C
import Derived.Test.YtgikimbafakmcaaGreatDoorGQuoE
set_option maxHeartbeats 8000000
set_option maxRecDepth 100000
namespace Go.Proofs.YtgikimbafakmcaaGreatDoor
open Go.RowKit Pl
open Lib (hid)
def RUni (u : Lts) (n k : Int) (x : ByteArray) (w : World) (e : Ending) (w' : World) : Prop :=
  ∃ (ea : Option Addr) (eb ec : Nat), e = .returned (.tuple #[.agg #[.int .i64 u.st, .int .i64 u.lb, .int .i64 u.s0, .slice ea u.es.length ec], .int .i64 n, .agg #[.int .i64 k, .int .i64 0, .int .i64 0, .string x]]) /\ SlAt encE 3 w' ea eb 0 u.es /\ u.es.length <= ec /\ ec <= maxLen /\ Below w.heap.size w w'
def zeroU : Lts := ⟨0, 0, 0, []⟩
def uniW0 (w : World) (cs ds : Array Value) : World := (((w.alloc (.cells cs 24)).alloc (.cells ds 24)).alloc (.cells #[.int .i64 0, .int .i64 0, .int .i64 0, .slice none 0 0] 24)).alloc (.cells #[.int .i64 0, .int .i64 0, .int .i64 0, .string ⟨#[]⟩] 28)
theorem uniW (w : World) (cs ds : Array Value) : Below w.heap.size w (uniW0 w cs ds) /\ (uniW0 w cs ds).heap[w.heap.size]? = some (.cells cs 24 (0, 0)) /\ (uniW0 w cs ds).heap[w.heap.size + 1]? = some (.cells ds 24 (0, 0)) /\
    (uniW0 w cs ds).heap[w.heap.size + 1 + 1]? = some (.cells #[.int .i64 0, .int .i64 0, .int .i64 0, .slice none 0 0] 24 (0, 0)) /\ (uniW0 w cs ds).heap[w.heap.size + 1 + 1 + 1]? = some (.cells #[.int .i64 0, .int .i64 0, .int .i64 0, .string ⟨#[]⟩] 28 (0, 0)) := by
 unfold uniW0
 refine ⟨(((((Below.refl w.heap.size w).alloc (Nat.le_refl _) _).alloc (by simp) _).alloc (by simp; omega) _).alloc (by simp; omega) _), ?_, ?_, ?_, ?_⟩
 · rw [Below.heap_alloc _ _ _ (by simp; omega), Below.heap_alloc _ _ _ (by simp; omega), Below.heap_alloc _ _ _ (by simp)]; exact heap_alloc_new w _
 · rw [Below.heap_alloc _ _ _ (by simp), Below.heap_alloc _ _ _ (by simp)]; exact heap_alloc_at _ _ (w.heap.size + 1) (by simp)
 · rw [Below.heap_alloc _ _ _ (by simp)]; exact heap_alloc_at _ _ (w.heap.size + 1 + 1) (by simp)
 · exact heap_alloc_at _ _ (w.heap.size + 1 + 1 + 1) (by simp)
theorem refUniS_any {s t : Lts} (hs : ¬ s.Right) {a a2 : Option Addr} {b off c b2 off2 c2 : Nat} {w : World} (hS : SlAt encE 3 w a b off s.es) (hT : SlAt encE 3 w a2 b2 off2 t.es) :
    Calls Tryz.prog 6 #[.agg #[.int .i64 s.st, .int .i64 s.lb, .int .i64 s.s0, .slice a s.es.length c], .agg #[.int .i64 t.st, .int .i64 t.lb, .int .i64 t.s0, .slice a2 t.es.length c2]] w (RUni zeroU 0 14 (quoName ++ ⟨#[32]⟩ ++ sysName ++ ⟨#[32]⟩) w) := by
 obtain ⟨hB0, hx0, hz0, hy0, hv0⟩ := uniW w #[.int .i64 s.st, .int .i64 s.lb, .int .i64 s.s0, .slice a s.es.length c] #[.int .i64 t.st, .int .i64 t.lb, .int .i64 t.s0, .slice a2 t.es.length c2]
 have HB0 := hid hB0; have HX := hid hx0; have HZ := hid hz0; have HY := hid hy0; have HV := hid hv0
 have HS := hid (hS.below hB0 (Nat.le_refl _)); have HT := hid (hT.below hB0 (Nat.le_refl _))
 clear hS hT hB0 hx0 hz0 hy0 hv0
 go_enter Tryz.func6, Tryz.ntmps6
 go_upto_region 1 with fail
 obtain ⟨w0, hw0⟩ : ∃ w0, w0 = uniW0 w #[.int .i64 s.st, .int .i64 s.lb, .int .i64 s.s0, .slice a s.es.length c] #[.int .i64 t.st, .int .i64 t.lb, .int .i64 t.s0, .slice a2 t.es.length c2] := ⟨_, rfl⟩
 rw [<- hw0] at HB0 HX HZ HY HV HS HT
 unfold uniW0 at hw0
 rw [<- hw0]
 obtain ⟨X, hX⟩ : ∃ X, X = w.heap.size := ⟨_, rfl⟩
 obtain ⟨Z, hZ⟩ : ∃ Z, Z = w.heap.size + 1 := ⟨_, rfl⟩
 obtain ⟨Y, hY⟩ : ∃ Y, Y = w.heap.size + 1 + 1 := ⟨_, rfl⟩
 obtain ⟨V, hV⟩ : ∃ V, V = w.heap.size + 1 + 1 + 1 := ⟨_, rfl⟩
 have HYW : Hid (w.heap.size <= Y /\ w.heap.size <= V) := hid (by omega)
 have HYV : Hid (¬ Y = V /\ ¬ V = Y /\ ¬ X = Y /\ ¬ X = V) := hid (by omega)
 rw [<- hX] at HX
 rw [<- hZ] at HZ
 rw [<- hY] at HY
 rw [<- hV] at HV
 rw [<- hV, <- hY, <- hZ, <- hX]
 obtain ⟨el, hel⟩ : ∃ el, el = s.es.length := ⟨_, rfl⟩
 obtain ⟨tl, htl⟩ : ∃ tl, tl = t.es.length := ⟨_, rfl⟩
 rw [<- hel] at HX ⊢
 rw [<- htl] at HZ ⊢
 have HEL := hid hel; have HTL := hid htl
 obtain ⟨x0, x1, x2, x3, x4⟩ := sys9 HX.out
 clear hw0 hX hZ hY hV hel htl
 have hrt := right_no (c := c) hs (HS.out.below (Below.refl _ _) (Nat.le_refl _))
 rw [<- HEL.out] at hrt
 have HRT1 := hid hrt
 clear hrt
 go_wp2_with fail
 refine HRT1.out.mono ?_
 rintro e w1 ⟨rfl, hB⟩
 have HB1 := hid (hB)
 clear hB HRT1 x0 x1 x2 x3 x4
 have hbd := bad_any sysName (by decide) 14
 have hon := fun V => refOn_any quoName (sysName ++ ⟨#[32]⟩) (by decide) (by decide) (k := 14) (by decide) 0 0 V
 unfold sysName at hbd hon
 unfold quoName at hon
 go_wp2_with fail
 refine (hbd _).mono ?_
 rintro e w6 ⟨rfl, hB6⟩
 go_wp2_with fail
 refine (hon _).mono ?_
 rintro e w7 ⟨rfl, hB7⟩
 have HBe := hid (HB1.out.trans ((hB6.trans (hB7.mono hB6.size)).mono HB1.out.size))
 clear hB6 hB7 hbd hon
 have hy2 := (HBe.out.block Y (Array.getElem?_eq_some_iff.1 HY.out).1).trans HY.out
 have hv2 := (HBe.out.block V (Array.getElem?_eq_some_iff.1 HV.out).1).trans HV.out
 obtain ⟨y0, y1, y2, y3, y4⟩ := sys9 hy2
 obtain ⟨⟨v0, v1, v2, v3⟩, ⟨vf0, vf1, vf2, vf3⟩, v4⟩ := errC hv2
 have yf0 : w7.frozen? ⟨Y, 0, none⟩ = false := by simp [World.frozen?, hy2]
 have yf1 : w7.frozen? ⟨Y, 1, none⟩ = false := by simp [World.frozen?, hy2]
 have yf2 : w7.frozen? ⟨Y, 2, none⟩ = false := by simp [World.frozen?, hy2]
 have yf3 : w7.frozen? ⟨Y, 3, none⟩ = false := by simp [World.frozen?, hy2]
 obtain ⟨hyv, hvy, _, _⟩ := HYV.out
 clear hy2 hv2
 go_wp2_with fail
 obtain ⟨hyw, hvw⟩ := HYW.out
 refine bodyPost_ret (v := .tuple #[.agg #[.int .i64 0, .int .i64 0, .int .i64 0, .slice none 0 0], .int .i64 0, .agg #[.int .i64 14, .int .i64 0, .int .i64 0, .string (quoName ++ ⟨#[32]⟩ ++ sysName ++ ⟨#[32]⟩)]]) (by simp [results, Tryz.results6, go_sem, y0, y1, y2, y3, v0, v1, v2, v3]; rfl) rfl ⟨none, 0, 0, rfl, slAt_nil _ _ _ _, Nat.le_refl _, Nat.zero_le _, ?_⟩
 exact (((((((HB0.out.trans (HBe.out.mono HB0.out.size)).setCell hyw _).setCell hyw _).setCell hyw _).setCell hyw _).setCell hvw _).setCell hvw _).setCell hvw _ |>.setCell hvw _
theorem refUniT_any {s t : Lts} (hs : s.Right) (ht : ¬ t.Right) {a a2 : Option Addr} {b off c b2 off2 c2 : Nat} {w : World} (hS : SlAt encE 3 w a b off s.es) (hT : SlAt encE 3 w a2 b2 off2 t.es) :
    Calls Tryz.prog 6 #[.agg #[.int .i64 s.st, .int .i64 s.lb, .int .i64 s.s0, .slice a s.es.length c], .agg #[.int .i64 t.st, .int .i64 t.lb, .int .i64 t.s0, .slice a2 t.es.length c2]] w (RUni zeroU 0 14 (quoName ++ ⟨#[32]⟩ ++ sysName ++ ⟨#[32]⟩) w) := by
 obtain ⟨hB0, hx0, hz0, hy0, hv0⟩ := uniW w #[.int .i64 s.st, .int .i64 s.lb, .int .i64 s.s0, .slice a s.es.length c] #[.int .i64 t.st, .int .i64 t.lb, .int .i64 t.s0, .slice a2 t.es.length c2]
 have HB0 := hid hB0; have HX := hid hx0; have HZ := hid hz0; have HY := hid hy0; have HV := hid hv0
 have HS := hid (hS.below hB0 (Nat.le_refl _)); have HT := hid (hT.below hB0 (Nat.le_refl _))
 clear hS hT hB0 hx0 hz0 hy0 hv0
 go_enter Tryz.func6, Tryz.ntmps6
 go_upto_region 1 with fail
 obtain ⟨w0, hw0⟩ : ∃ w0, w0 = uniW0 w #[.int .i64 s.st, .int .i64 s.lb, .int .i64 s.s0, .slice a s.es.length c] #[.int .i64 t.st, .int .i64 t.lb, .int .i64 t.s0, .slice a2 t.es.length c2] := ⟨_, rfl⟩
 rw [<- hw0] at HB0 HX HZ HY HV HS HT
 unfold uniW0 at hw0
 rw [<- hw0]
 obtain ⟨X, hX⟩ : ∃ X, X = w.heap.size := ⟨_, rfl⟩
 obtain ⟨Z, hZ⟩ : ∃ Z, Z = w.heap.size + 1 := ⟨_, rfl⟩
 obtain ⟨Y, hY⟩ : ∃ Y, Y = w.heap.size + 1 + 1 := ⟨_, rfl⟩
 obtain ⟨V, hV⟩ : ∃ V, V = w.heap.size + 1 + 1 + 1 := ⟨_, rfl⟩
 have HYW : Hid (w.heap.size <= Y /\ w.heap.size <= V) := hid (by omega)
 have HYV : Hid (¬ Y = V /\ ¬ V = Y /\ ¬ X = Y /\ ¬ X = V) := hid (by omega)
 rw [<- hX] at HX
 rw [<- hZ] at HZ
 rw [<- hY] at HY
 rw [<- hV] at HV
 rw [<- hV, <- hY, <- hZ, <- hX]
 obtain ⟨el, hel⟩ : ∃ el, el = s.es.length := ⟨_, rfl⟩
 obtain ⟨tl, htl⟩ : ∃ tl, tl = t.es.length := ⟨_, rfl⟩
 rw [<- hel] at HX ⊢
 rw [<- htl] at HZ ⊢
 have HEL := hid hel; have HTL := hid htl
 obtain ⟨x0, x1, x2, x3, x4⟩ := sys9 HX.out
 clear hw0 hX hZ hY hV hel htl
 have hrt := right_yes (c := c) hs (HS.out.below (Below.refl _ _) (Nat.le_refl _))
 rw [<- HEL.out] at hrt
 have HRT1 := hid hrt
 clear hrt
 go_wp2_with fail
 refine HRT1.out.mono ?_
 rintro e w1 ⟨rfl, hB⟩
 have HB1 := hid (hB)
 clear hB HRT1 x0 x1 x2 x3 x4
 obtain ⟨x0, x1, x2, x3, x4⟩ := sys9 ((HB1.out.block Z (Array.getElem?_eq_some_iff.1 HZ.out).1).trans HZ.out)
 have hrt := right_no (c := c2) ht (HT.out.below HB1.out (Nat.le_refl _))
 rw [<- HTL.out] at hrt
 have HRT1 := hid hrt
 clear hrt
 go_wp2_with fail
 refine HRT1.out.mono ?_
 rintro e w2 ⟨rfl, hB⟩
 have HB2 := hid (HB1.out.trans (hB.mono HB1.out.size))
 clear hB HRT1 x0 x1 x2 x3 x4
 have hbd := bad_any sysName (by decide) 14
 have hon := fun V => refOn_any quoName (sysName ++ ⟨#[32]⟩) (by decide) (by decide) (k := 14) (by decide) 0 0 V
 unfold sysName at hbd hon
 unfold quoName at hon
 go_wp2_with fail
 refine (hbd _).mono ?_
 rintro e w6 ⟨rfl, hB6⟩
 go_wp2_with fail
 refine (hon _).mono ?_
 rintro e w7 ⟨rfl, hB7⟩
 have HBe := hid (HB2.out.trans ((hB6.trans (hB7.mono hB6.size)).mono HB2.out.size))
 clear hB6 hB7 hbd hon
 have hy2 := (HBe.out.block Y (Array.getElem?_eq_some_iff.1 HY.out).1).trans HY.out
 have hv2 := (HBe.out.block V (Array.getElem?_eq_some_iff.1 HV.out).1).trans HV.out
 obtain ⟨y0, y1, y2, y3, y4⟩ := sys9 hy2
 obtain ⟨⟨v0, v1, v2, v3⟩, ⟨vf0, vf1, vf2, vf3⟩, v4⟩ := errC hv2
 have yf0 : w7.frozen? ⟨Y, 0, none⟩ = false := by simp [World.frozen?, hy2]
 have yf1 : w7.frozen? ⟨Y, 1, none⟩ = false := by simp [World.frozen?, hy2]
 have yf2 : w7.frozen? ⟨Y, 2, none⟩ = false := by simp [World.frozen?, hy2]
 have yf3 : w7.frozen? ⟨Y, 3, none⟩ = false := by simp [World.frozen?, hy2]
 obtain ⟨hyv, hvy, _, _⟩ := HYV.out
 clear hy2 hv2
 go_wp2_with fail
 obtain ⟨hyw, hvw⟩ := HYW.out
 refine bodyPost_ret (v := .tuple #[.agg #[.int .i64 0, .int .i64 0, .int .i64 0, .slice none 0 0], .int .i64 0, .agg #[.int .i64 14, .int .i64 0, .int .i64 0, .string (quoName ++ ⟨#[32]⟩ ++ sysName ++ ⟨#[32]⟩)]]) (by simp [results, Tryz.results6, go_sem, y0, y1, y2, y3, v0, v1, v2, v3]; rfl) rfl ⟨none, 0, 0, rfl, slAt_nil _ _ _ _, Nat.le_refl _, Nat.zero_le _, ?_⟩
 exact (((((((HB0.out.trans (HBe.out.mono HB0.out.size)).setCell hyw _).setCell hyw _).setCell hyw _).setCell hyw _).setCell hvw _).setCell hvw _).setCell hvw _ |>.setCell hvw _
theorem refUniB_any {s t : Lts} (hs : s.Right) (ht : t.Right) (hno : ¬ (s.st + t.st <= 1000 /\ s.es.length + t.es.length <= 10000)) {a a2 : Option Addr} {b off c b2 off2 c2 : Nat} {w : World} (hS : SlAt encE 3 w a b off s.es) (hT : SlAt encE 3 w a2 b2 off2 t.es) :
    Calls Tryz.prog 6 #[.agg #[.int .i64 s.st, .int .i64 s.lb, .int .i64 s.s0, .slice a s.es.length c], .agg #[.int .i64 t.st, .int .i64 t.lb, .int .i64 t.s0, .slice a2 t.es.length c2]] w (RUni zeroU 0 14 (quoName ++ ⟨#[32]⟩) w) := by
 obtain ⟨hB0, hx0, hz0, hy0, hv0⟩ := uniW w #[.int .i64 s.st, .int .i64 s.lb, .int .i64 s.s0, .slice a s.es.length c] #[.int .i64 t.st, .int .i64 t.lb, .int .i64 t.s0, .slice a2 t.es.length c2]
 have HB0 := hid hB0; have HX := hid hx0; have HZ := hid hz0; have HY := hid hy0; have HV := hid hv0
 have HS := hid (hS.below hB0 (Nat.le_refl _)); have HT := hid (hT.below hB0 (Nat.le_refl _))
 clear hS hT hB0 hx0 hz0 hy0 hv0
 go_enter Tryz.func6, Tryz.ntmps6
 go_upto_region 1 with fail
 obtain ⟨w0, hw0⟩ : ∃ w0, w0 = uniW0 w #[.int .i64 s.st, .int .i64 s.lb, .int .i64 s.s0, .slice a s.es.length c] #[.int .i64 t.st, .int .i64 t.lb, .int .i64 t.s0, .slice a2 t.es.length c2] := ⟨_, rfl⟩
 rw [<- hw0] at HB0 HX HZ HY HV HS HT
 unfold uniW0 at hw0
 rw [<- hw0]
 obtain ⟨X, hX⟩ : ∃ X, X = w.heap.size := ⟨_, rfl⟩
 obtain ⟨Z, hZ⟩ : ∃ Z, Z = w.heap.size + 1 := ⟨_, rfl⟩
 obtain ⟨Y, hY⟩ : ∃ Y, Y = w.heap.size + 1 + 1 := ⟨_, rfl⟩
 obtain ⟨V, hV⟩ : ∃ V, V = w.heap.size + 1 + 1 + 1 := ⟨_, rfl⟩
 have HYW : Hid (w.heap.size <= Y /\ w.heap.size <= V) := hid (by omega)
 have HYV : Hid (¬ Y = V /\ ¬ V = Y /\ ¬ X = Y /\ ¬ X = V) := hid (by omega)
 rw [<- hX] at HX
 rw [<- hZ] at HZ
 rw [<- hY] at HY
 rw [<- hV] at HV
 rw [<- hV, <- hY, <- hZ, <- hX]
 obtain ⟨el, hel⟩ : ∃ el, el = s.es.length := ⟨_, rfl⟩
 obtain ⟨tl, htl⟩ : ∃ tl, tl = t.es.length := ⟨_, rfl⟩
 rw [<- hel] at HX ⊢
 rw [<- htl] at HZ ⊢
 have HEL := hid hel; have HTL := hid htl
 obtain ⟨x0, x1, x2, x3, x4⟩ := sys9 HX.out
 clear hw0 hX hZ hY hV hel htl
 have hrt := right_yes (c := c) hs (HS.out.below (Below.refl _ _) (Nat.le_refl _))
 rw [<- HEL.out] at hrt
 have HRT1 := hid hrt
 clear hrt
 go_wp2_with fail
 refine HRT1.out.mono ?_
 rintro e w1 ⟨rfl, hB⟩
 have HB1 := hid (hB)
 clear hB HRT1 x0 x1 x2 x3 x4
 obtain ⟨x0, x1, x2, x3, x4⟩ := sys9 ((HB1.out.block Z (Array.getElem?_eq_some_iff.1 HZ.out).1).trans HZ.out)
 have hrt := right_yes (c := c2) ht (HT.out.below HB1.out (Nat.le_refl _))
 rw [<- HTL.out] at hrt
 have HRT1 := hid hrt
 clear hrt
 go_wp2_with fail
 refine HRT1.out.mono ?_
 rintro e w2 ⟨rfl, hB⟩
 have HB2 := hid (HB1.out.trans (hB.mono HB1.out.size))
 clear hB HRT1 x0 x1 x2 x3 x4
 obtain ⟨x0, x1, x2, x3, x4⟩ := sys9 ((HB2.out.block X (Array.getElem?_eq_some_iff.1 HX.out).1).trans HX.out)
 obtain ⟨z0, z1, z2, z3, z4⟩ := sys9 ((HB2.out.block Z (Array.getElem?_eq_some_iff.1 HZ.out).1).trans HZ.out)
 have k1 := hs.st0; have k2 := ht.st0
 have k3 := HEL.out; have k4 := HTL.out
 have g3 : IntKind.i64.wrap (s.st + t.st) = s.st + t.st := IntWalk.i64_in _ (by omega)
 have g4 : IntKind.i64.wrap ((el : Int) + (tl : Int)) = (el : Int) + (tl : Int) := IntWalk.i64_in _ (by omega)
 have hbig : s.st + t.st > 1000 ∨ ¬ (s.st + t.st > 1000) /\ ((el : Int) + (tl : Int) > 10000) := by (
 by_cases h : s.st + t.st > 1000
 · exact .inl h
 · refine .inr ⟨h, ?_⟩
   rcases Nat.lt_or_ge 10000 (s.es.length + t.es.length) with h2 | h2
   · omega
   · exact absurd ⟨by omega, h2⟩ hno)
 have hbd := bad_any quoName (by decide) 14
 unfold quoName at hbd
 clear k1 k2 k3 k4 hno hs ht
 rcases hbig with g1 | ⟨g1, g2⟩
 · (
 go_wp2_with fail
 refine (hbd _).mono ?_
 rintro e w7 ⟨rfl, hB7⟩
 have HBe := hid (HB2.out.trans (hB7.mono HB2.out.size))
 clear hB7 hbd
 have hy2 := (HBe.out.block Y (Array.getElem?_eq_some_iff.1 HY.out).1).trans HY.out
 have hv2 := (HBe.out.block V (Array.getElem?_eq_some_iff.1 HV.out).1).trans HV.out
 obtain ⟨y0, y1, y2, y3, y4⟩ := sys9 hy2
 obtain ⟨⟨v0, v1, v2, v3⟩, ⟨vf0, vf1, vf2, vf3⟩, v4⟩ := errC hv2
 have yf0 : w7.frozen? ⟨Y, 0, none⟩ = false := by simp [World.frozen?, hy2]
 have yf1 : w7.frozen? ⟨Y, 1, none⟩ = false := by simp [World.frozen?, hy2]
 have yf2 : w7.frozen? ⟨Y, 2, none⟩ = false := by simp [World.frozen?, hy2]
 have yf3 : w7.frozen? ⟨Y, 3, none⟩ = false := by simp [World.frozen?, hy2]
 obtain ⟨hyv, hvy, _, _⟩ := HYV.out
 clear hy2 hv2
 go_wp2_with fail
 obtain ⟨hyw, hvw⟩ := HYW.out
 refine bodyPost_ret (v := .tuple #[.agg #[.int .i64 0, .int .i64 0, .int .i64 0, .slice none 0 0], .int .i64 0, .agg #[.int .i64 14, .int .i64 0, .int .i64 0, .string (quoName ++ ⟨#[32]⟩)]]) (by simp [results, Tryz.results6, go_sem, y0, y1, y2, y3, v0, v1, v2, v3]; rfl) rfl ⟨none, 0, 0, rfl, slAt_nil _ _ _ _, Nat.le_refl _, Nat.zero_le _, ?_⟩
 exact (((((((HB0.out.trans (HBe.out.mono HB0.out.size)).setCell hyw _).setCell hyw _).setCell hyw _).setCell hyw _).setCell hvw _).setCell hvw _).setCell hvw _ |>.setCell hvw _)
 · (
 go_wp2_with fail
 refine (hbd _).mono ?_
 rintro e w7 ⟨rfl, hB7⟩
 have HBe := hid (HB2.out.trans (hB7.mono HB2.out.size))
 clear hB7 hbd
 have hy2 := (HBe.out.block Y (Array.getElem?_eq_some_iff.1 HY.out).1).trans HY.out
 have hv2 := (HBe.out.block V (Array.getElem?_eq_some_iff.1 HV.out).1).trans HV.out
 obtain ⟨y0, y1, y2, y3, y4⟩ := sys9 hy2
 obtain ⟨⟨v0, v1, v2, v3⟩, ⟨vf0, vf1, vf2, vf3⟩, v4⟩ := errC hv2
 have yf0 : w7.frozen? ⟨Y, 0, none⟩ = false := by simp [World.frozen?, hy2]
 have yf1 : w7.frozen? ⟨Y, 1, none⟩ = false := by simp [World.frozen?, hy2]
 have yf2 : w7.frozen? ⟨Y, 2, none⟩ = false := by simp [World.frozen?, hy2]
 have yf3 : w7.frozen? ⟨Y, 3, none⟩ = false := by simp [World.frozen?, hy2]
 obtain ⟨hyv, hvy, _, _⟩ := HYV.out
 clear hy2 hv2
 go_wp2_with fail
 obtain ⟨hyw, hvw⟩ := HYW.out
 refine bodyPost_ret (v := .tuple #[.agg #[.int .i64 0, .int .i64 0, .int .i64 0, .slice none 0 0], .int .i64 0, .agg #[.int .i64 14, .int .i64 0, .int .i64 0, .string (quoName ++ ⟨#[32]⟩)]]) (by simp [results, Tryz.results6, go_sem, y0, y1, y2, y3, v0, v1, v2, v3]; rfl) rfl ⟨none, 0, 0, rfl, slAt_nil _ _ _ _, Nat.le_refl _, Nat.zero_le _, ?_⟩
 exact (((((((HB0.out.trans (HBe.out.mono HB0.out.size)).setCell hyw _).setCell hyw _).setCell hyw _).setCell hyw _).setCell hvw _).setCell hvw _).setCell hvw _ |>.setCell hvw _)
theorem oneEQ (e : E) : ∀ u ∈ encE e, u.oneCell' = true := fun u hu => by
  unfold encE at hu
  simp only [List.mem_cons, List.not_mem_nil, or_false] at hu
  rcases hu with rfl | rfl | rfl <;> rfl
theorem appFormU {w0 w w1 : World} {tb : Nat} {st lb s0 : Int} {v' sv : Value} {es : List E} (h : Rws w0 w [⟨57, 3, .slice none 0 0, 0, []⟩, RQ tb st lb s0 sv]) (ho : w1.ownsRow w.heap.size 57 3 v' (0 + es.length) ([] ++ es.flatMap encE)) (hg : w.grownBy w1 none) :
    ∃ (ta : Option Addr) (tc : Nat), v' = .slice ta es.length tc /\ Rws w0 w1 [REq ta es.length tc es, RQ tb st lb s0 sv] := by
 rw [Nat.zero_add, List.nil_append] at ho
 obtain ⟨a, c, b, rfl, _⟩ := slAt_own lenE ho
 exact ⟨a, c, rfl, h.grown (v' := .slice a es.length c) (n' := es.length) (xs' := es.flatMap encE) (Below.refl _ _) 0 rfl (own_mono ho h.bel.size) hg (fun g hg' => .inr (ho.lt g hg').1)⟩
theorem refUniF_any {s t : Lts} (hs : s.Right) (ht : t.Right) (h1 : s.st + t.st <= 1000) (h2 : s.es.length + t.es.length <= 10000) {a a2 : Option Addr} {b off c b2 off2 c2 : Nat} {w : World} (hS : SlAt encE 3 w a b off s.es) (hT : SlAt encE 3 w a2 b2 off2 t.es) :
    Calls Tryz.prog 6 #[.agg #[.int .i64 s.st, .int .i64 s.lb, .int .i64 s.s0, .slice a s.es.length c], .agg #[.int .i64 t.st, .int .i64 t.lb, .int .i64 t.s0, .slice a2 t.es.length c2]] w (RUni (uniS s t) s.st 0 ⟨#[]⟩ w) := by
 obtain ⟨hB0, hx0, hz0, hy0, hv0⟩ := uniW w #[.int .i64 s.st, .int .i64 s.lb, .int .i64 s.s0, .slice a s.es.length c] #[.int .i64 t.st, .int .i64 t.lb, .int .i64 t.s0, .slice a2 t.es.length c2]
 have HB0 := hid hB0; have HX := hid hx0; have HZ := hid hz0; have HY := hid hy0; have HV := hid hv0
 have HS := hid (hS.below hB0 (Nat.le_refl _)); have HT := hid (hT.below hB0 (Nat.le_refl _))
 clear hS hT hB0 hx0 hz0 hy0 hv0
 go_enter Tryz.func6, Tryz.ntmps6
 go_upto_region 1 with fail
 obtain ⟨w0, hw0⟩ : ∃ w0, w0 = uniW0 w #[.int .i64 s.st, .int .i64 s.lb, .int .i64 s.s0, .slice a s.es.length c] #[.int .i64 t.st, .int .i64 t.lb, .int .i64 t.s0, .slice a2 t.es.length c2] := ⟨_, rfl⟩
 rw [<- hw0] at HB0 HX HZ HY HV HS HT
 unfold uniW0 at hw0
 rw [<- hw0]
 obtain ⟨X, hX⟩ : ∃ X, X = w.heap.size := ⟨_, rfl⟩
 obtain ⟨Z, hZ⟩ : ∃ Z, Z = w.heap.size + 1 := ⟨_, rfl⟩
 obtain ⟨Y, hY⟩ : ∃ Y, Y = w.heap.size + 1 + 1 := ⟨_, rfl⟩
 obtain ⟨V, hV⟩ : ∃ V, V = w.heap.size + 1 + 1 + 1 := ⟨_, rfl⟩
 have HYW : Hid (w.heap.size <= Y /\ w.heap.size <= V) := hid (by omega)
 have HYV : Hid (¬ Y = V /\ ¬ V = Y /\ ¬ X = Y /\ ¬ X = V) := hid (by omega)
 rw [<- hX] at HX
 rw [<- hZ] at HZ
 rw [<- hY] at HY
 rw [<- hV] at HV
 rw [<- hV, <- hY, <- hZ, <- hX]
 obtain ⟨el, hel⟩ : ∃ el, el = s.es.length := ⟨_, rfl⟩
 obtain ⟨tl, htl⟩ : ∃ tl, tl = t.es.length := ⟨_, rfl⟩
 rw [<- hel] at HX ⊢
 rw [<- htl] at HZ ⊢
 have HEL := hid hel; have HTL := hid htl
 obtain ⟨x0, x1, x2, x3, x4⟩ := sys9 HX.out
 clear hw0 hX hZ hY hV hel htl
 have hrt := right_yes (c := c) hs (HS.out.below (Below.refl _ _) (Nat.le_refl _))
 rw [<- HEL.out] at hrt
 have HRT1 := hid hrt
 clear hrt
 go_wp2_with fail
 refine HRT1.out.mono ?_
 rintro e w1 ⟨rfl, hB⟩
 have HB1 := hid (hB)
 clear hB HRT1 x0 x1 x2 x3 x4
 obtain ⟨x0, x1, x2, x3, x4⟩ := sys9 ((HB1.out.block Z (Array.getElem?_eq_some_iff.1 HZ.out).1).trans HZ.out)
 have hrt := right_yes (c := c2) ht (HT.out.below HB1.out (Nat.le_refl _))
 rw [<- HTL.out] at hrt
 have HRT1 := hid hrt
 clear hrt
 go_wp2_with fail
 refine HRT1.out.mono ?_
 rintro e w2 ⟨rfl, hB⟩
 have HB2 := hid (HB1.out.trans (hB.mono HB1.out.size))
 clear hB HRT1 x0 x1 x2 x3 x4
 obtain ⟨x0, x1, x2, x3, x4⟩ := sys9 ((HB2.out.block X (Array.getElem?_eq_some_iff.1 HX.out).1).trans HX.out)
 obtain ⟨z0, z1, z2, z3, z4⟩ := sys9 ((HB2.out.block Z (Array.getElem?_eq_some_iff.1 HZ.out).1).trans HZ.out)
 have k1 := hs.st0; have k2 := ht.st0
 have k3 := HEL.out; have k4 := HTL.out
 have g3 : IntKind.i64.wrap (s.st + t.st) = s.st + t.st := IntWalk.i64_in _ (by omega)
 have g4 : IntKind.i64.wrap ((el : Int) + (tl : Int)) = (el : Int) + (tl : Int) := IntWalk.i64_in _ (by omega)
 have g1 : ¬ (s.st + t.st > 1000) := by omega
 have g2 : ¬ ((el : Int) + (tl : Int) > 10000) := by omega
 obtain ⟨ml, hml⟩ : ∃ ml, ml = max s.lb t.lb := ⟨_, rfl⟩
 obtain ⟨sv, hsv⟩ : ∃ sv, sv = (uniS s t).s0 := ⟨_, rfl⟩
 have key : (decide (s.lb < t.lb) = true /\ ml = t.lb) ∨ (decide (s.lb < t.lb) = false /\ ml = s.lb) := by
   simp only [decide_eq_true_eq, decide_eq_false_iff_not]; omega
 have key2 : ((s.st == 0) = true /\ sv = t.s0) ∨ ((s.st == 0) = false /\ sv = s.s0) := by (
 rw [hsv]; unfold uniS
 by_cases h : s.st = 0
 · exact .inl ⟨by simp [h], if_pos h⟩
 · exact .inr ⟨by simp [h], if_neg h⟩)
 have HML := hid hml; have HSV := hid hsv; have HR := hid hs; have HRT := hid ht; have H1 := hid h1; have H2 := hid h2
 clear k1 k2 k3 k4 hml hsv hs ht h1 h2
 rcases key with ⟨l1, e1⟩ | ⟨l1, e1⟩ <;> rcases key2 with ⟨g5, e2⟩ | ⟨g5, e2⟩
 all_goals (
 have HE1 := hid e1; have HE2 := hid e2
 clear e1 e2
 go_upto_region 10 with fail
 obtain ⟨w4, hw4⟩ : ∃ w4, w4 = w2.alloc (.cells #[.int .i64 (s.st + t.st), .int .i64 ml, .int .i64 sv, .slice none 0 0] 24) := ⟨_, rfl⟩
 have hr4 := (Rws.nil (Below.refl w2.heap.size w2)).addLit #[.int .i64 (s.st + t.st), .int .i64 ml, .int .i64 sv, .slice none 0 0] 24 (k := 4) (n := 1) (by decide) rfl
 obtain ⟨tb, htb⟩ : ∃ tb, tb = w2.heap.size := ⟨_, rfl⟩
 rw [<- hw4, <- htb] at hr4
 have hr4 : Rws w2 w4 [RQ tb (s.st + t.st) ml sv (.slice none 0 0)] := hr4
 rw [HE1.out, HE2.out] at hw4
 rw [<- hw4, <- htb]
 have HR4 := hid hr4
 have HBW : Hid (Below w.heap.size w w2) := hid (HB0.out.trans (HB2.out.mono HB0.out.size))
 have HWX : Hid (w0.heap.size <= w2.heap.size) := hid HB2.out.size
 clear hw4 htb hr4 x0 x1 x2 x3 x4 z0 z1 z2 z3 z4 g1 g2 g3 g4 g5 l1
 have HB4 := hid (HB2.out.trans (HR4.out.bel.mono HB2.out.size))
 obtain ⟨x0, x1, x2, x3, x4⟩ := sys9 ((HB4.out.block X (Array.getElem?_eq_some_iff.1 HX.out).1).trans HX.out)
 have hS4 := HS.out.below HB4.out (Nat.le_refl _)
 have HS4 := hid hS4
 have t3 := HR4.out.cell (i := 0) rfl (j := 3) rfl
 have tl0 := (HR4.out.lt (i := 0) rfl).2
 have HRN := hid (HR4.out.addNil 57 3)
 clear hS4
 go_wp2_with (at_builtin; refine wpList_appS rfl _ _ _ rfl rowE (Nat.le_refl _) rfl (World.ownsRow_nil _ _ _ _) lenE oneEQ HS4.out (by rw [<- HEL.out]; rfl) (by have := H2.out; omega) (by have := H2.out; unfold maxLen; omega) ?_; intro v' w5 hown5 hg5; obtain ⟨ra, rc, rfl, hr5⟩ := appFormU HRN.out hown5 hg5; have u3 := hr5.cell (i := 1) rfl (j := 3) rfl; have uf := hr5.fz (i := 1) rfl 3; have ul := (hr5.lt (i := 1) rfl).2; have HR5 := hid hr5; clear hown5 hg5 hr5 t3 tl0)
 have HR6 : Hid (Rws w2 (w5.setCell ⟨tb, 3, none⟩ (.slice ra s.es.length rc)) [REq ra s.es.length rc s.es, RQ tb (s.st + t.st) ml sv (.slice ra s.es.length rc)]) := hid (HR5.out.set 1 rfl 3 (.slice ra s.es.length rc))
 clear x0 x1 x2 x3 x4
 go_upto_region 11 with fail
 obtain ⟨w6, hw6⟩ : ∃ w6, w6 = w5.setCell ⟨tb, 3, none⟩ (.slice ra s.es.length rc) := ⟨_, rfl⟩
 rw [<- hw6] at HR6 ⊢
 clear hw6 u3 uf ul HR5 HRN HR4 HS4 HB4
 go_wp2_with fail
 obtain ⟨m, hm⟩ : ∃ m, m = t.es.length := ⟨_, rfl⟩
 have htm := HTL.out
 rw [<- hm] at htm
 subst htm
 have HM := hid hm
 have hmb : tl <= 10000 := by have := H2.out; omega
 clear hm
 go_loopw [8, 9] (fun v8 _ wx => ∃ (j : Nat) (ea : Option Addr) (k ec : Nat), v8 = .int .i64 j /\ j <= tl /\ k = s.es.length + j /\ Rws w2 wx [REq ea k ec (uniK s t j), RQ tb (s.st + t.st) ml sv (.slice ea k ec)]) (fun v8 _ _ => tl - (intOf v8).toNat)
 case atStart => exact ⟨0, ra, s.es.length, rc, rfl, Nat.zero_le _, rfl, by unfold uniK; simpa using HR6.out⟩
 case round => (
 obtain ⟨j, ea, k, ec, rfl, hj, hk, hrw⟩ := hrel
 have HRW := hid hrw; have HK := hid hk
 have HBX := hid (HB2.out.trans (hrw.bel.mono HB2.out.size))
 obtain ⟨x0, x1, x2, x3, x4⟩ := sys9 ((HBX.out.block X (Array.getElem?_eq_some_iff.1 HX.out).1).trans HX.out)
 obtain ⟨z0, z1, z2, z3, z4⟩ := sys9 ((HBX.out.block Z (Array.getElem?_eq_some_iff.1 HZ.out).1).trans HZ.out)
 have hw2 := hrw.bel.size
 clear hrw
 by_cases hjm : j < tl
 · (
 obtain ⟨x, hx⟩ := getElem?_of_lt (xs := t.es) (i := j) (by rw [<- HM.out]; exact hjm)
 have hss := HT.out.below HBX.out (Nat.le_refl _)
 obtain rfl := hss.ad (by rw [<- HM.out]; omega)
 have d0 := hss.e0 hx; have d1 := hss.e1 hx; have d2 := hss.e2 hx
 have dl := hss.lt (by rw [<- HM.out]; omega)
 have hxr := offB_false.1 (HRT.out.edges _ (List.mem_of_getElem? hx))
 have HSN := hid (uniK_snoc (s := s) hx)
 have k1 := HR.out.st0; have k2 := H1.out; have k4 := H2.out; have k5 := HM.out
 obtain ⟨q1, q2, q3⟩ := x
 simp only at hxr d0 d1 d2
 have g1 : IntKind.i64.wrap (q1 + s.st) = q1 + s.st := IntWalk.i64_in _ (by omega)
 have g2 : IntKind.i64.wrap (q3 + s.st) = q3 + s.st := IntWalk.i64_in _ (by omega)
 have hjI : (j : Int) < (tl : Int) := by omega
 have hkl : k <= 10000 := by omega
 have t3 := HRW.out.cell (i := 1) rfl (j := 3) rfl
 have tl1 := (HRW.out.lt (i := 1) rfl).2
 clear hx hss hxr k1 k2 k4 k5 hk
 go_wp2_with (at_builtin; refine wpList_lie rfl _ _ _ rfl rowE (base := w2.heap.size) (by simp; omega) rfl (show ((wr.alloc (.cells #[.int .i64 q1, .int .i64 q2, .int .i64 q3] 57)).alloc (.cells #[.int .i64 (q1 + s.st), .int .i64 q2, .int .i64 (q3 + s.st)] 57)).ownsRow w2.heap.size 57 3 (.slice ea k ec) k ((uniK s t j).flatMap encE) from ((HRW.out.alloc _).alloc _).get (i := 0) rfl) ⟨wr.heap.size + 1, 0, none⟩ 1 1 [.int .i64 (q1 + s.st), .int .i64 q2, .int .i64 (q3 + s.st)] rfl rfl (cells3 (by simp [go_sem]) (by simp [go_sem]) (by simp [go_sem])) (by simp [Value.oneCell']) (by decide) (by omega) (by unfold maxLen; omega) wr.heap.size (by simp; omega) ?_; intro g cap w8 hown8 hg8 hl8 hlt8; have hr8 := edGrow (x := (q1 + s.st, q2, q3 + s.st)) HRW.out (((Below.refl wr.heap.size wr).alloc (Nat.le_refl _) _).alloc (by simp) _) (i := 0) rfl hown8 hg8 hl8; have u3 := hr8.cell (i := 1) rfl (j := 3) rfl; have uf := hr8.fz (i := 1) rfl 3; have ul := (hr8.lt (i := 1) rfl).2; have HR8 := hid hr8; clear hr8 hown8 hg8 hl8 d0 d1 d2 dl t3 tl1)
 have hr9 := HR8.out.set 1 rfl 3 (.slice (some ⟨g, 0, none⟩) (k + 1) cap)
 have HR9 : Hid (Rws w2 (w8.setCell ⟨tb, 3, none⟩ (.slice (some ⟨g, 0, none⟩) (k + 1) cap)) [REq (some ⟨g, 0, none⟩) (k + 1) cap (uniK s t (j + 1)), RQ tb (s.st + t.st) ml sv (.slice (some ⟨g, 0, none⟩) (k + 1) cap)]) := hid (by rw [HSN.out]; exact hr9)
 clear hr9 HR8 u3 uf ul
 go_roundw
 case rel => exact ⟨j + 1, some ⟨g, 0, none⟩, k + 1, cap, by go_num, by omega, by have := HK.out; omega, HR9.out⟩
 case measure => simp [intOf]; omega)
 · (
 obtain rfl : j = tl := by omega
 have t0 := HRW.out.cell (i := 1) rfl (j := 0) rfl
 have t1 := HRW.out.cell (i := 1) rfl (j := 1) rfl
 have t2 := HRW.out.cell (i := 1) rfl (j := 2) rfl
 have t3 := HRW.out.cell (i := 1) rfl (j := 3) rfl
 have tl1 := (HRW.out.lt (i := 1) rfl).2
 have hy8 := (HBX.out.block Y (Array.getElem?_eq_some_iff.1 HY.out).1).trans HY.out
 have hv8 := (HBX.out.block V (Array.getElem?_eq_some_iff.1 HV.out).1).trans HV.out
 obtain ⟨y0, y1, y2, y3, y4⟩ := sys9 hy8
 obtain ⟨⟨v0, v1, v2, v3⟩, ⟨vf0, vf1, vf2, vf3⟩, v4⟩ := errC hv8
 have yf0 : wr.frozen? ⟨Y, 0, none⟩ = false := by simp [World.frozen?, hy8]
 have yf1 : wr.frozen? ⟨Y, 1, none⟩ = false := by simp [World.frozen?, hy8]
 have yf2 : wr.frozen? ⟨Y, 2, none⟩ = false := by simp [World.frozen?, hy8]
 have yf3 : wr.frozen? ⟨Y, 3, none⟩ = false := by simp [World.frozen?, hy8]
 obtain ⟨hyv, hvy, hxy, hxv⟩ := HYV.out
 have HYl := hid (Array.getElem?_eq_some_iff.1 HY.out).1; have HVl := hid (Array.getElem?_eq_some_iff.1 HV.out).1
 clear hy8 hv8 hk
 go_upto_region 16 with fail
 go_region
 go_wp2
 have hQ : uniS s t = ⟨s.st + t.st, ml, sv, uniK s t j⟩ := by
   rw [HM.out, uniK_all, HML.out, HSV.out]; rfl
 have hlen : (uniK s t j).length = k := by
   rw [uniK_len (by rw [<- HM.out]; exact Nat.le_refl _)]; exact HK.out.symm
 have hyl : Y < w2.heap.size := Nat.lt_of_lt_of_le HYl.out HWX.out
 have hvl : V < w2.heap.size := Nat.lt_of_lt_of_le HVl.out HWX.out
 have ho := HRW.out.get (i := 0) rfl
 dsimp only [REq] at ho
 have ho2 := own_below (ownsRow_setCell_below (ownsRow_setCell_below (ownsRow_setCell_below (ownsRow_setCell_below (ownsRow_setCell_below (ownsRow_setCell_below (ownsRow_setCell_below (ownsRow_setCell_below ho (a := ⟨Y, 0, none⟩) hyl (.int .i64 (s.st + t.st))) (a := ⟨Y, 1, none⟩) hyl (.int .i64 ml)) (a := ⟨Y, 2, none⟩) hyl (.int .i64 sv)) (a := ⟨Y, 3, none⟩) hyl (.slice ea k ec)) (a := ⟨V, 0, none⟩) hvl (.int .i64 0)) (a := ⟨V, 1, none⟩) hvl (.int .i64 0)) (a := ⟨V, 2, none⟩) hvl (.int .i64 0)) (a := ⟨V, 3, none⟩) hvl (.string ⟨#[]⟩)) (Below.refl _ _).drew
 obtain ⟨ae, ce, be, hve, hle, hlm, hse, _⟩ := slAt_own (xs := uniK s t j) lenE (by rw [hlen]; exact ho2)
 simp only [Value.slice.injEq] at hve
 obtain ⟨rfl, _, rfl⟩ := hve
 obtain ⟨hyw, hvw⟩ := HYW.out
 have hB := HB0.out.trans (HBX.out.mono HB0.out.size)
 refine bodyPost_ret (v := .tuple #[.agg #[.int .i64 (s.st + t.st), .int .i64 ml, .int .i64 sv, .slice ea k ec], .int .i64 s.st, .agg #[.int .i64 0, .int .i64 0, .int .i64 0, .string ⟨#[]⟩]]) (by simp [results, Tryz.results6, go_sem, y0, y1, y2, y3, v0, v1, v2, v3]) rfl ⟨ea, be, ec, by rw [hQ, <- hlen], by rw [hQ]; exact hse, by rw [hQ]; exact hle, hlm, ?_⟩
 exact (((((((hB.setCell hyw _).setCell hyw _).setCell hyw _).setCell hyw _).setCell hvw _).setCell hvw _).setCell hvw _ |>.setCell hvw _).drew)))
end Go.Proofs.YtgikimbafakmcaaGreatDoor

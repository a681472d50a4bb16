/-
  Lemmas.
-/
import Derived.Test.YtgikimbafakmcaaGreatDoorRfUni
import Derived.Test.YtgikimbafakmcaaGreatDoorGRf9C
import Derived.Test.YtgikimbafakmcaaGreatDoorGUniZ
import Derived.Test.YtgikimbafakmcaaGreatDoorGQuoE
import Derived.Test.YtgikimbafakmcaaGreatDoorGTold
import Derived.Test.YtgikimbafakmcaaGreatDoorGBkEa
set_option maxHeartbeats 8000000
set_option maxRecDepth 100000
namespace Go.Proofs.YtgikimbafakmcaaGreatDoor
open Go.RowKit Pl
open Lib (hid)
def samW0 (w : World) (cs ds : Array Value) : World := ((w.alloc (.cells cs 24)).alloc (.cells ds 24)).alloc (.cells #[.int .i64 0, .int .i64 0, .int .i64 0, .string ⟨#[]⟩] 28)
theorem samW (w : World) (cs ds : Array Value) : Below w.heap.size w (samW0 w cs ds) /\ (samW0 w cs ds).heap[w.heap.size]? = some (.cells cs 24 (0, 0)) /\ (samW0 w cs ds).heap[w.heap.size + 1]? = some (.cells ds 24 (0, 0)) /\
    (samW0 w cs ds).heap[w.heap.size + 1 + 1]? = some (.cells #[.int .i64 0, .int .i64 0, .int .i64 0, .string ⟨#[]⟩] 28 (0, 0)) := by
 unfold samW0
 refine ⟨((((Below.refl w.heap.size w).alloc (Nat.le_refl _) _).alloc (by simp) _).alloc (by simp; omega) _), ?_, ?_, ?_⟩
 · rw [Below.heap_alloc _ _ _ (by simp; omega), Below.heap_alloc _ _ _ (by simp)]; exact heap_alloc_new w _
 · rw [Below.heap_alloc _ _ _ (by simp)]; exact heap_alloc_at _ _ (w.heap.size + 1) (by simp)
 · exact heap_alloc_at _ _ (w.heap.size + 1 + 1) (by simp)
theorem refSameE_any {s t u : Lts} {N k : Int} {x : ByteArray} {a a2 : Option Addr} {c c2 : Nat} {w : World} (hU : ∀ V, Below w.heap.size w V -> Calls Tryz.prog 6 #[.agg #[.int .i64 s.st, .int .i64 s.lb, .int .i64 s.s0, .slice a s.es.length c], .agg #[.int .i64 t.st, .int .i64 t.lb, .int .i64 t.s0, .slice a2 t.es.length c2]] V (RUni u N k x V)) (hk : k ≠ 0) :
    Calls Tryz.prog 14 #[.agg #[.int .i64 s.st, .int .i64 s.lb, .int .i64 s.s0, .slice a s.es.length c], .agg #[.int .i64 t.st, .int .i64 t.lb, .int .i64 t.s0, .slice a2 t.es.length c2]] w fun e w' => e = .returned (.tuple #[.bool false, .agg #[.int .i64 k, .int .i64 0, .int .i64 0, .string x]]) /\ Below w.heap.size w w' := by
 have hk1 : (k != 0) = true := by simpa using hk
 obtain ⟨hB0, hx0, hz0, hv0⟩ := samW w #[.int .i64 s.st, .int .i64 s.lb, .int .i64 s.s0, .slice a s.es.length c] #[.int .i64 t.st, .int .i64 t.lb, .int .i64 t.s0, .slice a2 t.es.length c2]
 have HUN := hid (hU _ hB0)
 unfold RUni at HUN
 have HB0 := hid hB0; have HX := hid hx0; have HZ := hid hz0; have HV := hid hv0
 clear hU hk hB0 hx0 hz0 hv0
 go_enter Tryz.func14, Tryz.ntmps14
 go_upto_region 1 with fail
 obtain ⟨w0, hw0⟩ : ∃ w0, w0 = samW0 w #[.int .i64 s.st, .int .i64 s.lb, .int .i64 s.s0, .slice a s.es.length c] #[.int .i64 t.st, .int .i64 t.lb, .int .i64 t.s0, .slice a2 t.es.length c2] := ⟨_, rfl⟩
 rw [<- hw0] at HB0 HX HZ HV HUN
 unfold samW0 at hw0
 rw [<- hw0]
 obtain ⟨X, hX⟩ : ∃ X, X = w.heap.size := ⟨_, rfl⟩
 obtain ⟨Z, hZ⟩ : ∃ Z, Z = w.heap.size + 1 := ⟨_, rfl⟩
 obtain ⟨V, hV⟩ : ∃ V, V = w.heap.size + 1 + 1 := ⟨_, rfl⟩
 have HVW : Hid (w.heap.size <= V) := hid (by omega)
 rw [<- hX] at HX
 rw [<- hZ] at HZ
 rw [<- hV] at HV
 rw [<- hV, <- hZ, <- hX]
 obtain ⟨x0, x1, x2, x3, x4⟩ := sys9 HX.out
 obtain ⟨z0, z1, z2, z3, z4⟩ := sys9 HZ.out
 clear hw0 hX hZ hV
 go_wp2_with fail
 refine HUN.out.mono ?_
 rintro e w1 ⟨ea, eb, ec, rfl, hse, hle, hlm, hB1⟩
 obtain ⟨W1, hW1⟩ : ∃ W1, W1 = (w1.alloc (.cells #[.int .i64 u.st, .int .i64 u.lb, .int .i64 u.s0, .slice ea u.es.length ec] 24)).alloc (.cells #[.int .i64 k, .int .i64 0, .int .i64 0, .string x] 28) := ⟨_, rfl⟩
 have hbW : Below w1.heap.size w1 W1 := by rw [hW1]; exact ((Below.refl _ _).alloc (Nat.le_refl _) _).alloc (by simp) _
 have hu1 : W1.heap[w1.heap.size]? = some (.cells #[.int .i64 u.st, .int .i64 u.lb, .int .i64 u.s0, .slice ea u.es.length ec] 24 (0, 0)) := by
   rw [hW1, Below.heap_alloc _ _ _ (by simp)]; exact heap_alloc_new w1 _
 have he1 : W1.heap[w1.heap.size + 1]? = some (.cells #[.int .i64 k, .int .i64 0, .int .i64 0, .string x] 28 (0, 0)) := by
   rw [hW1]; exact heap_alloc_at _ _ (w1.heap.size + 1) (by simp)
 have HB1 := hid (hB1.trans (hbW.mono hB1.size))
 have HSE := hid (hse.below hbW (Nat.le_refl _)); have HLE := hid hle; have HLM := hid hlm
 have HU1 := hid hu1; have HE1 := hid he1; have HW1 := hid hW1
 clear x0 x1 x2 x3 x4 z0 z1 z2 z3 z4 hse hle hlm hB1 hW1 hbW hu1 he1 HUN
 go_upto_region 2 with fail
 rw [<- HW1.out]
 obtain ⟨U, hU⟩ : ∃ U, U = w1.heap.size := ⟨_, rfl⟩
 rw [<- hU] at HU1 HE1 ⊢
 clear hU HW1
 obtain ⟨⟨e0, e1, e2, e3⟩, _, e4⟩ := errC HE1.out
 obtain ⟨⟨v0, v1, v2, v3⟩, ⟨vf0, vf1, vf2, vf3⟩, v4⟩ := errC ((HB1.out.block V (Array.getElem?_eq_some_iff.1 HV.out).1).trans HV.out)
 go_upto_region 3 with fail
 go_region
 go_wp2
 have hvw := HVW.out
 refine bodyPost_ret (v := .tuple #[.bool false, .agg #[.int .i64 k, .int .i64 0, .int .i64 0, .string x]]) (by simp [results, Tryz.results14, go_sem, v0, v1, v2, v3]) rfl ⟨rfl, ?_⟩
 exact (((((HB0.out.trans (HB1.out.mono HB0.out.size)).setCell hvw _).setCell hvw _).setCell hvw _).setCell hvw _).drew
theorem refSameI_any {s t u : Lts} {N k : Int} {x : ByteArray} {a a2 : Option Addr} {c c2 : Nat} {w : World} (hU : ∀ V, Below w.heap.size w V -> Calls Tryz.prog 6 #[.agg #[.int .i64 s.st, .int .i64 s.lb, .int .i64 s.s0, .slice a s.es.length c], .agg #[.int .i64 t.st, .int .i64 t.lb, .int .i64 t.s0, .slice a2 t.es.length c2]] V (RUni u N k x V)) (hk : k = 0) (hz : s.st = 0 ∨ t.st = 0) :
    Calls Tryz.prog 14 #[.agg #[.int .i64 s.st, .int .i64 s.lb, .int .i64 s.s0, .slice a s.es.length c], .agg #[.int .i64 t.st, .int .i64 t.lb, .int .i64 t.s0, .slice a2 t.es.length c2]] w fun e w' => e = .returned (.tuple #[.bool false, .agg #[.int .i64 3, .int .i64 0, .int .i64 0, .string (quoName ++ ⟨#[32]⟩)]]) /\ Below w.heap.size w w' := by
 have key : (s.st == 0) = true ∨ ((s.st == 0) = false /\ (t.st == 0) = true) := by (
 by_cases h : s.st = 0
 · exact .inl (by simp [h])
 · exact .inr ⟨by simp [h], by simp [hz.resolve_left h]⟩)
 have hk1 : (k != 0) = false := by simp [hk]
 have hbd := bad_any quoName (by decide) 3
 unfold quoName at hbd
 obtain ⟨hB0, hx0, hz0, hv0⟩ := samW w #[.int .i64 s.st, .int .i64 s.lb, .int .i64 s.s0, .slice a s.es.length c] #[.int .i64 t.st, .int .i64 t.lb, .int .i64 t.s0, .slice a2 t.es.length c2]
 have HUN := hid (hU _ hB0)
 unfold RUni at HUN
 have HB0 := hid hB0; have HX := hid hx0; have HZ := hid hz0; have HV := hid hv0
 clear hU hk hz hB0 hx0 hz0 hv0
 go_enter Tryz.func14, Tryz.ntmps14
 go_upto_region 1 with fail
 obtain ⟨w0, hw0⟩ : ∃ w0, w0 = samW0 w #[.int .i64 s.st, .int .i64 s.lb, .int .i64 s.s0, .slice a s.es.length c] #[.int .i64 t.st, .int .i64 t.lb, .int .i64 t.s0, .slice a2 t.es.length c2] := ⟨_, rfl⟩
 rw [<- hw0] at HB0 HX HZ HV HUN
 unfold samW0 at hw0
 rw [<- hw0]
 obtain ⟨X, hX⟩ : ∃ X, X = w.heap.size := ⟨_, rfl⟩
 obtain ⟨Z, hZ⟩ : ∃ Z, Z = w.heap.size + 1 := ⟨_, rfl⟩
 obtain ⟨V, hV⟩ : ∃ V, V = w.heap.size + 1 + 1 := ⟨_, rfl⟩
 have HVW : Hid (w.heap.size <= V) := hid (by omega)
 rw [<- hX] at HX
 rw [<- hZ] at HZ
 rw [<- hV] at HV
 rw [<- hV, <- hZ, <- hX]
 obtain ⟨x0, x1, x2, x3, x4⟩ := sys9 HX.out
 obtain ⟨z0, z1, z2, z3, z4⟩ := sys9 HZ.out
 clear hw0 hX hZ hV
 go_wp2_with fail
 refine HUN.out.mono ?_
 rintro e w1 ⟨ea, eb, ec, rfl, hse, hle, hlm, hB1⟩
 obtain ⟨W1, hW1⟩ : ∃ W1, W1 = (w1.alloc (.cells #[.int .i64 u.st, .int .i64 u.lb, .int .i64 u.s0, .slice ea u.es.length ec] 24)).alloc (.cells #[.int .i64 k, .int .i64 0, .int .i64 0, .string x] 28) := ⟨_, rfl⟩
 have hbW : Below w1.heap.size w1 W1 := by rw [hW1]; exact ((Below.refl _ _).alloc (Nat.le_refl _) _).alloc (by simp) _
 have hu1 : W1.heap[w1.heap.size]? = some (.cells #[.int .i64 u.st, .int .i64 u.lb, .int .i64 u.s0, .slice ea u.es.length ec] 24 (0, 0)) := by
   rw [hW1, Below.heap_alloc _ _ _ (by simp)]; exact heap_alloc_new w1 _
 have he1 : W1.heap[w1.heap.size + 1]? = some (.cells #[.int .i64 k, .int .i64 0, .int .i64 0, .string x] 28 (0, 0)) := by
   rw [hW1]; exact heap_alloc_at _ _ (w1.heap.size + 1) (by simp)
 have HB1 := hid (hB1.trans (hbW.mono hB1.size))
 have HSE := hid (hse.below hbW (Nat.le_refl _)); have HLE := hid hle; have HLM := hid hlm
 have HU1 := hid hu1; have HE1 := hid he1; have HW1 := hid hW1
 clear x0 x1 x2 x3 x4 z0 z1 z2 z3 z4 hse hle hlm hB1 hW1 hbW hu1 he1 HUN
 go_upto_region 2 with fail
 rw [<- HW1.out]
 obtain ⟨U, hU⟩ : ∃ U, U = w1.heap.size := ⟨_, rfl⟩
 rw [<- hU] at HU1 HE1 ⊢
 clear hU HW1
 obtain ⟨⟨e0, e1, e2, e3⟩, _, e4⟩ := errC HE1.out
 obtain ⟨⟨v0, v1, v2, v3⟩, ⟨vf0, vf1, vf2, vf3⟩, v4⟩ := errC ((HB1.out.block V (Array.getElem?_eq_some_iff.1 HV.out).1).trans HV.out)
 obtain ⟨x0, x1, x2, x3, x4⟩ := sys9 ((HB1.out.block X (Array.getElem?_eq_some_iff.1 HX.out).1).trans HX.out)
 obtain ⟨z0, z1, z2, z3, z4⟩ := sys9 ((HB1.out.block Z (Array.getElem?_eq_some_iff.1 HZ.out).1).trans HZ.out)
 clear v0 v1 v2 v3 vf0 vf1 vf2 vf3 v4
 rcases key with g1 | ⟨g1, g2⟩
 · (
 go_wp2_with fail
 refine (hbd _).mono ?_
 rintro e w7 ⟨rfl, hB7⟩
 have HBe := hid (HB1.out.trans (hB7.mono HB1.out.size))
 clear hB7 hbd
 obtain ⟨⟨v0, v1, v2, v3⟩, ⟨vf0, vf1, vf2, vf3⟩, v4⟩ := errC ((HBe.out.block V (Array.getElem?_eq_some_iff.1 HV.out).1).trans HV.out)
 go_wp2_with fail
 have hvw := HVW.out
 refine bodyPost_ret (v := .tuple #[.bool false, .agg #[.int .i64 3, .int .i64 0, .int .i64 0, .string (quoName ++ ⟨#[32]⟩)]]) (by simp [results, Tryz.results14, go_sem, v0, v1, v2, v3]; rfl) rfl ⟨rfl, ?_⟩
 exact ((((HB0.out.trans (HBe.out.mono HB0.out.size)).setCell hvw _).setCell hvw _).setCell hvw _).setCell hvw _)
 · (
 go_wp2_with fail
 refine (hbd _).mono ?_
 rintro e w7 ⟨rfl, hB7⟩
 have HBe := hid (HB1.out.trans (hB7.mono HB1.out.size))
 clear hB7 hbd
 obtain ⟨⟨v0, v1, v2, v3⟩, ⟨vf0, vf1, vf2, vf3⟩, v4⟩ := errC ((HBe.out.block V (Array.getElem?_eq_some_iff.1 HV.out).1).trans HV.out)
 go_wp2_with fail
 have hvw := HVW.out
 refine bodyPost_ret (v := .tuple #[.bool false, .agg #[.int .i64 3, .int .i64 0, .int .i64 0, .string (quoName ++ ⟨#[32]⟩)]]) (by simp [results, Tryz.results14, go_sem, v0, v1, v2, v3]; rfl) rfl ⟨rfl, ?_⟩
 exact ((((HB0.out.trans (HBe.out.mono HB0.out.size)).setCell hvw _).setCell hvw _).setCell hvw _).setCell hvw _)
theorem refSameF_any {s t : Lts} {n z m y : Nat} (hs : s.Right) (ht : t.Right) (hn : s.st = (n : Int)) (hm : t.st = (m : Int)) (hn0 : 0 < n) (hm0 : 0 < m) (hzz : s.s0 = (z : Int)) (hyy : t.s0 = (y : Int)) (h1 : s.st + t.st <= 1000) (h2 : s.es.length + t.es.length <= 10000) {a a2 : Option Addr} {b off c b2 off2 c2 : Nat} {w : World} (hS : SlAt encE 3 w a b off s.es) (hT : SlAt encE 3 w a2 b2 off2 t.es) :
    Calls Tryz.prog 14 #[.agg #[.int .i64 s.st, .int .i64 s.lb, .int .i64 s.s0, .slice a s.es.length c], .agg #[.int .i64 t.st, .int .i64 t.lb, .int .i64 t.s0, .slice a2 t.es.length c2]] w fun e w' => ∃ r, e = .returned (.tuple #[.bool r, .agg #[.int .i64 0, .int .i64 0, .int .i64 0, .string ⟨#[]⟩]]) /\ (r = true ↔ Eqv s n z t m y) /\ Below w.heap.size w w' := by
 have j1 := hs.st0; have j2 := ht.st0
 have hzn : z < n := by omega
 have hym : y < m := by omega
 have g1 : (s.st == 0) = false := by simp; omega
 have g2 : (t.st == 0) = false := by simp; omega
 have HUR := hid (uni_Right hs ht h1 h2)
 have HST : Hid ((uniS s t).st = ((n + m : Nat) : Int)) := hid (by show s.st + t.st = _; omega)
 have hnm : n + m <= 1000 := by omega
 have HR := hid hs; have HRT := hid ht; have HN := hid hn; have HM := hid hm; have HZZ := hid hzz; have HYY := hid hyy
 obtain ⟨u, hu⟩ : ∃ u, u = uniS s t := ⟨_, rfl⟩
 rw [<- hu] at HUR HST
 have HU := hid hu
 obtain ⟨hB0, hx0, hz0, hv0⟩ := samW w #[.int .i64 s.st, .int .i64 s.lb, .int .i64 s.s0, .slice a s.es.length c] #[.int .i64 t.st, .int .i64 t.lb, .int .i64 t.s0, .slice a2 t.es.length c2]
 have hun := refUniF_any (c := c) (c2 := c2) hs ht h1 h2 (hS.below hB0 (Nat.le_refl _)) (hT.below hB0 (Nat.le_refl _))
 rw [<- hu] at hun
 have HUN := hid hun
 unfold RUni at HUN
 have HB0 := hid hB0; have HX := hid hx0; have HZ := hid hz0; have HV := hid hv0
 clear hun hS hT hs ht hn hm hzz hyy h1 h2 hu j1 j2 hB0 hx0 hz0 hv0
 go_enter Tryz.func14, Tryz.ntmps14
 go_upto_region 1 with fail
 obtain ⟨w0, hw0⟩ : ∃ w0, w0 = samW0 w #[.int .i64 s.st, .int .i64 s.lb, .int .i64 s.s0, .slice a s.es.length c] #[.int .i64 t.st, .int .i64 t.lb, .int .i64 t.s0, .slice a2 t.es.length c2] := ⟨_, rfl⟩
 rw [<- hw0] at HB0 HX HZ HV HUN
 unfold samW0 at hw0
 rw [<- hw0]
 obtain ⟨X, hX⟩ : ∃ X, X = w.heap.size := ⟨_, rfl⟩
 obtain ⟨Z, hZ⟩ : ∃ Z, Z = w.heap.size + 1 := ⟨_, rfl⟩
 obtain ⟨V, hV⟩ : ∃ V, V = w.heap.size + 1 + 1 := ⟨_, rfl⟩
 have HVW : Hid (w.heap.size <= V) := hid (by omega)
 rw [<- hX] at HX
 rw [<- hZ] at HZ
 rw [<- hV] at HV
 rw [<- hV, <- hZ, <- hX]
 obtain ⟨x0, x1, x2, x3, x4⟩ := sys9 HX.out
 obtain ⟨z0, z1, z2, z3, z4⟩ := sys9 HZ.out
 clear hw0 hX hZ hV
 go_wp2_with fail
 refine HUN.out.mono ?_
 rintro e w1 ⟨ea, eb, ec, rfl, hse, hle, hlm, hB1⟩
 obtain ⟨W1, hW1⟩ : ∃ W1, W1 = (w1.alloc (.cells #[.int .i64 u.st, .int .i64 u.lb, .int .i64 u.s0, .slice ea u.es.length ec] 24)).alloc (.cells #[.int .i64 0, .int .i64 0, .int .i64 0, .string ⟨#[]⟩] 28) := ⟨_, rfl⟩
 have hbW : Below w1.heap.size w1 W1 := by rw [hW1]; exact ((Below.refl _ _).alloc (Nat.le_refl _) _).alloc (by simp) _
 have hu1 : W1.heap[w1.heap.size]? = some (.cells #[.int .i64 u.st, .int .i64 u.lb, .int .i64 u.s0, .slice ea u.es.length ec] 24 (0, 0)) := by
   rw [hW1, Below.heap_alloc _ _ _ (by simp)]; exact heap_alloc_new w1 _
 have he1 : W1.heap[w1.heap.size + 1]? = some (.cells #[.int .i64 0, .int .i64 0, .int .i64 0, .string ⟨#[]⟩] 28 (0, 0)) := by
   rw [hW1]; exact heap_alloc_at _ _ (w1.heap.size + 1) (by simp)
 have HB1 := hid (hB1.trans (hbW.mono hB1.size))
 have HSE := hid (hse.below hbW (Nat.le_refl _)); have HLE := hid hle; have HLM := hid hlm
 have HU1 := hid hu1; have HE1 := hid he1; have HW1 := hid hW1
 clear x0 x1 x2 x3 x4 z0 z1 z2 z3 z4 hse hle hlm hB1 hW1 hbW hu1 he1 HUN
 go_upto_region 2 with fail
 rw [<- HW1.out]
 obtain ⟨U, hU⟩ : ∃ U, U = w1.heap.size := ⟨_, rfl⟩
 rw [<- hU] at HU1 HE1 ⊢
 clear hU HW1
 obtain ⟨⟨e0, e1, e2, e3⟩, _, e4⟩ := errC HE1.out
 obtain ⟨⟨v0, v1, v2, v3⟩, ⟨vf0, vf1, vf2, vf3⟩, v4⟩ := errC ((HB1.out.block V (Array.getElem?_eq_some_iff.1 HV.out).1).trans HV.out)
 obtain ⟨x0, x1, x2, x3, x4⟩ := sys9 ((HB1.out.block X (Array.getElem?_eq_some_iff.1 HX.out).1).trans HX.out)
 obtain ⟨z0, z1, z2, z3, z4⟩ := sys9 ((HB1.out.block Z (Array.getElem?_eq_some_iff.1 HZ.out).1).trans HZ.out)
 obtain ⟨u0, u1, u2, u3, u4⟩ := sys9 HU1.out
 have HCL := hid (refClasses9_any (c := ec) HUR.out HST.out HSE.out HLE.out HLM.out)
 clear v0 v1 v2 v3 vf0 vf1 vf2 vf3 v4
 go_wp2_with fail
 refine HCL.out.mono ?_
 rintro e w3 ⟨cb, C, rfl, hos, hbig, _, _, hB3⟩
 have HBe := hid (HB1.out.trans (hB3.mono HB1.out.size))
 have d0 := hos.ci (fl_get C (i := z) (show z < n + m by omega))
 have d1 := hos.ci (fl_get C (i := n + y) (show n + y < n + m by omega))
 have dl := hos.lt (by rw [fl_len]; omega)
 rw [HU.out] at hbig
 have HUB := hid (uni_big HR.out HRT.out HN.out hbig hzn hym)
 obtain ⟨c1, hc1⟩ : ∃ c1, c1 = C z := ⟨_, rfl⟩
 obtain ⟨c2', hc2⟩ : ∃ c2, c2 = C (n + y) := ⟨_, rfl⟩
 rw [<- hc1] at d0 HUB
 rw [<- hc2] at d1 HUB
 clear x0 x1 x2 x3 x4 z0 z1 z2 z3 z4 u0 u1 u2 u3 u4 e0 e1 e2 e3 e4
 have hx3 := (HBe.out.block X (Array.getElem?_eq_some_iff.1 HX.out).1).trans HX.out
 have hz3 := (HBe.out.block Z (Array.getElem?_eq_some_iff.1 HZ.out).1).trans HZ.out
 have x2 : w3.cell? ⟨X, 2, none⟩ = some (.int .i64 (z : Int)) := by rw [<- HZZ.out]; exact (sys9 hx3).2.2.1
 have x4 := (sys9 hx3).2.2.2.2
 have z2 : w3.cell? ⟨Z, 2, none⟩ = some (.int .i64 (y : Int)) := by rw [<- HYY.out]; exact (sys9 hz3).2.2.1
 have z4 := (sys9 hz3).2.2.2.2
 obtain ⟨⟨v0, v1, v2, v3⟩, ⟨vf0, vf1, vf2, vf3⟩, v4⟩ := errC ((HBe.out.block V (Array.getElem?_eq_some_iff.1 HV.out).1).trans HV.out)
 have g5 : IntKind.i64.wrap ((y : Int) + s.st) = ((n + y : Nat) : Int) := by rw [HN.out, IntWalk.i64_in _ (by omega)]; omega
 have g6 : ((n + y : Nat) : Int) < ((n + m : Nat) : Int) := by omega
 have g7 : (z : Int) < ((n + m : Nat) : Int) := by omega
 simp only [Nat.zero_add] at d0 d1
 clear hos hbig hB3 hx3 hz3 hc1 hc2 HCL
 go_upto_region 7 with fail
 go_region
 go_wp2
 have hvw := HVW.out
 refine bodyPost_ret (v := .tuple #[.bool (c1 == c2'), .agg #[.int .i64 0, .int .i64 0, .int .i64 0, .string ⟨#[]⟩]]) (by simp [results, Tryz.results14, go_sem, v0, v1, v2, v3]) rfl ⟨_, rfl, by rw [beq_iff_eq]; exact HUB.out, ?_⟩
 exact (((((HB0.out.trans (HBe.out.mono HB0.out.size)).setCell hvw _).setCell hvw _).setCell hvw _).setCell hvw _).drew
end Go.Proofs.YtgikimbafakmcaaGreatDoor
namespace Go.Proofs.YtgikimbafakmcaaGreatDoor
open Go.RowKit Pl
def KeptQ (w w' : World) : Prop := ∀ k cs, isF w k cs -> w'.heap[k]? = some (.cells cs 72 (0, 0))
theorem FaultAt.keptQ {w w' : World} {v vi : Value} {l : ByteArray} (h : FaultAt w v l vi) (hk : KeptQ w w') : FaultAt w' v l vi := by
 obtain ⟨fb, rfl, hf⟩ := h.ex
 exact ⟨fb, rfl, hk fb _ ⟨hf, rfl⟩⟩
theorem FaultQ.keptQ {w w' : World} {p : Addr} {v : Value} (h : FaultQ w p v) (hk : KeptQ w w') : FaultQ w' p v := by
 obtain ⟨vi, h1, h2⟩ := h
 exact ⟨vi, h1.keptQ hk, h2.keptQ hk⟩
def FaultT (p : Addr) (w : World) (v : Value) : Prop := FaultAt w v quoName (.iface 270 (.pointer (some p)))
theorem told14 {p : Addr} {w : World} {v : Value} (hE : ErrsK 14 p w) (h : FaultT p w v) : Calls Tryz.prog 8 #[v, .agg #[.int .i64 14, .int .i64 0, .int .i64 0, .string (quoName ++ ⟨#[32]⟩)]] w fun e w' => e = .returned (.bool true) /\ Below w.heap.size w w' :=
  told_one (k := 14) (l := quoName) (v := v) (p := p) (by unfold CodeIn; omega) hE h (by decide)
theorem told3 {p : Addr} {w : World} {v : Value} (hE : ErrsK 3 p w) (h : FaultT p w v) : Calls Tryz.prog 8 #[v, .agg #[.int .i64 3, .int .i64 0, .int .i64 0, .string (quoName ++ ⟨#[32]⟩)]] w fun e w' => e = .returned (.bool true) /\ Below w.heap.size w w' :=
  told_one (k := 3) (l := quoName) (v := v) (p := p) (by unfold CodeIn; omega) hE h (by decide)
def QUni (U : Lts) (N : Int) (Q : World -> Value -> Prop) (w : World) (e : Ending) (w' : World) : Prop :=
  ∃ (ea : Option Addr) (ec : Nat) (v : Value), e = .returned (.tuple #[.agg #[.int .i64 U.st, .int .i64 U.lb, .int .i64 U.s0, .slice ea U.es.length ec], .int .i64 N, v]) /\ Q w' v /\
    w'.ownsRow w.heap.size 57 3 (.slice ea U.es.length ec) U.es.length (U.es.flatMap encE) /\ Below w.heap.size w w'
structure SamP (w : World) (s t : Lts) (a a2 : Option Addr) (c c2 : Nat) (r : Bool) (k : Int) (x : ByteArray) (Q : World -> Value -> Prop) : Prop where
  bel : ∀ w w' v, Q w v -> Below w.heap.size w w' -> Q w' v
  kept : ∀ w w' v, Q w v -> KeptQ w w' -> Q w' v
  same : ∀ V, Below w.heap.size w V -> Calls Tryz.prog 13 #[.agg #[.int .i64 s.st, .int .i64 s.lb, .int .i64 s.s0, .slice a s.es.length c], .agg #[.int .i64 t.st, .int .i64 t.lb, .int .i64 t.s0, .slice a2 t.es.length c2]] V fun e w' => ∃ v, e = .returned (.tuple #[.bool r, v]) /\ Q w' v /\ Below V.heap.size V w'
  want : ∀ V, Below w.heap.size w V -> Calls Tryz.prog 14 #[.agg #[.int .i64 s.st, .int .i64 s.lb, .int .i64 s.s0, .slice a s.es.length c], .agg #[.int .i64 t.st, .int .i64 t.lb, .int .i64 t.s0, .slice a2 t.es.length c2]] V fun e w' => e = .returned (.tuple #[.bool r, .agg #[.int .i64 k, .int .i64 0, .int .i64 0, .string x]]) /\ Below V.heap.size V w'
  told : ∀ V v, Below w.heap.size w V -> Q V v -> Calls Tryz.prog 8 #[v, .agg #[.int .i64 k, .int .i64 0, .int .i64 0, .string x]] V fun e w' => e = .returned (.bool true) /\ Below V.heap.size V w'
structure UniP (w : World) (s t : Lts) (a a2 : Option Addr) (c c2 : Nat) (k : Int) (x : ByteArray) (U : Lts) (N : Int) (Q : World -> Value -> Prop) : Prop where
  len : U.es.length <= 10000
  bel : ∀ w w' v, Q w v -> Below w.heap.size w w' -> Q w' v
  want : ∀ V, Below w.heap.size w V -> Calls Tryz.prog 6 #[.agg #[.int .i64 s.st, .int .i64 s.lb, .int .i64 s.s0, .slice a s.es.length c], .agg #[.int .i64 t.st, .int .i64 t.lb, .int .i64 t.s0, .slice a2 t.es.length c2]] V (RUni U N k x V)
  uni : ∀ V la lb lc ma mb mc, Below w.heap.size w V -> SlAt encE 3 V la lb 0 s.es -> SlAt encE 3 V ma mb 0 t.es -> Calls Tryz.prog 7 #[.agg #[.int .i64 s.st, .int .i64 s.lb, .int .i64 s.s0, .slice la s.es.length lc], .agg #[.int .i64 t.st, .int .i64 t.lb, .int .i64 t.s0, .slice ma t.es.length mc]] V (QUni U N Q V)
  told : ∀ V v, Below w.heap.size w V -> Q V v -> Calls Tryz.prog 8 #[v, .agg #[.int .i64 k, .int .i64 0, .int .i64 0, .string x]] V fun e w' => e = .returned (.bool true) /\ Below V.heap.size V w'
theorem uni_pk {w : World} {p p3 : Addr} (hE : ErrsK 14 p w) (hE3 : ErrsK 3 p3 w) (hTy : ErrType w) {s t : Lts} {a a2 : Option Addr} {b off c b2 off2 c2 : Nat} (hS : SlAt encE 3 w a b off s.es) (hT : SlAt encE 3 w a2 b2 off2 t.es) :
    ∃ (k : Int) (x : ByteArray) (U : Lts) (N : Int) (Q : World -> Value -> Prop), UniP w s t a a2 c c2 k x U N Q /\
      ((k = 0 /\ (120 < U.st ∨ (¬ 120 < U.st /\ (800 : Int) < U.es.length))) ∨ ((k ≠ 0 ∨ (k = 0 /\ ¬ 120 < U.st /\ ¬ (800 : Int) < U.es.length)) /\ ∃ (r : Bool) (k2 : Int) (x2 : ByteArray) (Q2 : World -> Value -> Prop), SamP w s t a a2 c c2 r k2 x2 Q2)) := by
 have hS' : ∀ V, Below w.heap.size w V -> SlAt encE 3 V a b off s.es := fun V hV => hS.below hV (Nat.le_refl _)
 have hT' : ∀ V, Below w.heap.size w V -> SlAt encE 3 V a2 b2 off2 t.es := fun V hV => hT.below hV (Nat.le_refl _)
 have hno : ∀ (x : ByteArray) (Q : World -> Value -> Prop), ¬ (s.Right /\ t.Right /\ s.st + t.st <= 1000 /\ s.es.length + t.es.length <= 10000) -> (∀ w w' v, Q w v -> Below w.heap.size w w' -> Q w' v) -> (∀ w w' v, Q w v -> KeptQ w w' -> Q w' v) ->
     (∀ V, Below w.heap.size w V -> Calls Tryz.prog 6 #[.agg #[.int .i64 s.st, .int .i64 s.lb, .int .i64 s.s0, .slice a s.es.length c], .agg #[.int .i64 t.st, .int .i64 t.lb, .int .i64 t.s0, .slice a2 t.es.length c2]] V (RUni zeroU 0 14 x V)) ->
     (∀ (V : World) (v : Value), (s.Right /\ t.Right -> FaultAt V v quoName (.iface 270 (.pointer (some p)))) -> (¬ (s.Right /\ t.Right) -> FaultQ V p v) -> Q V v) ->
     (∀ V v, Below w.heap.size w V -> Q V v -> Calls Tryz.prog 8 #[v, .agg #[.int .i64 14, .int .i64 0, .int .i64 0, .string x]] V fun e w' => e = .returned (.bool true) /\ Below V.heap.size V w') ->
     UniP w s t a a2 c c2 14 x zeroU 0 Q /\ SamP w s t a a2 c c2 false 14 x Q := by
   intro x Q hn hb hk hu hq ht
   refine ⟨⟨Nat.zero_le _, hb, hu, fun V la lb lc ma mb mc hV hs2 ht2 => ?_, ht⟩, ⟨hb, hk, fun V hV => ?_, fun V hV => ?_, ht⟩⟩
   · refine (unionErr_any hn (hE.sys.below hV) (hTy.below hV) hs2 ht2).mono ?_
     rintro e w' ⟨v, rfl, h1, h2, hB⟩
     exact ⟨none, 0, v, rfl, hq _ _ h1 h2, World.ownsRow_nil _ _ _ _, hB⟩
   · refine (sameErr_any hn (hE.sys.below hV) (hTy.below hV) (hS' V hV) (hT' V hV)).mono ?_
     rintro e w' ⟨v, rfl, h1, h2, hB⟩
     exact ⟨v, rfl, hq _ _ h1 h2, hB⟩
   · exact refSameE_any (fun W hW => hu W (hV.trans (hW.mono hV.size))) (by decide)
 by_cases hr : s.Right /\ t.Right
 case neg => (
 obtain ⟨h1, h2⟩ := hno (quoName ++ ⟨#[32]⟩ ++ sysName ++ ⟨#[32]⟩) (fun w v => FaultQ w p v) (fun h => hr ⟨h.1, h.2.1⟩) (fun _ _ _ h hB => h.below hB) (fun _ _ _ h hk => h.keptQ hk) (fun V hV => by
   by_cases hs : s.Right
   · exact refUniT_any hs (fun ht => hr ⟨hs, ht⟩) (hS' V hV) (hT' V hV)
   · exact refUniS_any hs (hS' V hV) (hT' V hV)) (fun V v _ h2 => h2 hr) (fun V v hV h => by
   obtain ⟨vi, h1, h2⟩ := h
   exact told_two (k := 14) (by unfold CodeIn; omega) (hE.below hV) h1 h2 (by decide) (by decide))
 exact ⟨_, _, _, _, _, h1, .inr ⟨.inl (by decide), _, _, _, _, h2⟩⟩)
 obtain ⟨hs, ht⟩ := hr
 by_cases hfit : s.st + t.st <= 1000 /\ s.es.length + t.es.length <= 10000
 case neg => (
 have ht14 : ∀ V v, Below w.heap.size w V -> FaultT p V v -> Calls Tryz.prog 8 #[v, .agg #[.int .i64 14, .int .i64 0, .int .i64 0, .string (quoName ++ ⟨#[32]⟩)]] V fun e w' => e = .returned (.bool true) /\ Below V.heap.size V w' := fun V v hV h => told14 (hE.below hV) h
 have hb14 : ∀ V, Below w.heap.size w V -> _ := fun V (hV : Below w.heap.size w V) => refUniB_any (c := c) (c2 := c2) hs ht hfit (hS' V hV) (hT' V hV)
 have hq14 : ∀ (V : World) (v : Value), (s.Right /\ t.Right -> FaultAt V v quoName (.iface 270 (.pointer (some p)))) -> (¬ (s.Right /\ t.Right) -> FaultQ V p v) -> FaultT p V v := fun V v h1 _ => h1 ⟨hs, ht⟩
 have hk14 : ∀ w w' v, FaultT p w v -> KeptQ w w' -> FaultT p w' v := fun w w' v h hk => FaultAt.keptQ (w := w) (l := quoName) h hk
 have hl14 : ∀ w w' v, FaultT p w v -> Below w.heap.size w w' -> FaultT p w' v := fun w w' v h hB => FaultAt.below (w := w) (l := quoName) h hB
 have h9 := hno (quoName ++ ⟨#[32]⟩) (FaultT p) (fun h => hfit h.2.2) hl14 hk14 hb14 hq14
 clear hno hq14 hk14 hl14 hb14 hT' hS' hE hE3 hTy hS hT
 obtain ⟨h1, h2⟩ := h9 ht14
 exact ⟨_, _, _, _, _, h1, .inr ⟨.inl (by decide), _, _, _, _, h2⟩⟩)
 obtain ⟨f1, f2⟩ := hfit
 have hUP : UniP w s t a a2 c c2 0 ⟨#[]⟩ (uniS s t) s.st (fun _ v => v = .nilIface) := by (
 refine ⟨?_, fun _ _ _ h _ => h, fun V hV => refUniF_any hs ht f1 f2 (hS' V hV) (hT' V hV), fun V la lb lc ma mb mc hV hs2 ht2 => ?_, fun V v hV h => ?_⟩
 · unfold uniS
   rw [List.length_append, List.length_map]; exact f2
 · refine (unionRow_any hs ht f1 f2 (hE.sys.below hV) hs2 ht2).mono ?_
   rintro e w' ⟨ea, ec, rfl, ho, hB⟩
   exact ⟨ea, ec, _, rfl, rfl, ho, hB⟩
 · subst h; exact told_nil 0 0 ⟨#[]⟩ V)
 refine ⟨_, _, _, _, _, hUP, ?_⟩
 by_cases hb1 : 120 < (uniS s t).st
 · exact .inl ⟨rfl, .inl hb1⟩
 by_cases hb2 : (800 : Int) < (uniS s t).es.length
 · exact .inl ⟨rfl, .inr ⟨hb1, hb2⟩⟩
 refine .inr ⟨.inr ⟨rfl, hb1, hb2⟩, ?_⟩
 by_cases hz : s.st = 0 ∨ t.st = 0
 · have ht3 : ∀ V v, Below w.heap.size w V -> FaultT p3 V v -> Calls Tryz.prog 8 #[v, .agg #[.int .i64 3, .int .i64 0, .int .i64 0, .string (quoName ++ ⟨#[32]⟩)]] V fun e w' => e = .returned (.bool true) /\ Below V.heap.size V w' := fun V v hV h => told3 (hE3.below hV) h
   have hi3 : ∀ V, Below w.heap.size w V -> _ := fun V (hV : Below w.heap.size w V) => sameIx_any (c := c) (c2 := c2) hs ht f1 f2 hz (hE.sys.below hV) (hE3.sys.below hV) (hS' V hV) (hT' V hV)
   have hr3 : ∀ V, Below w.heap.size w V -> _ := fun V (hV : Below w.heap.size w V) => refSameI_any (c := c) (c2 := c2) (fun W hW => refUniF_any hs ht f1 f2 (hS' W (hV.trans (hW.mono hV.size))) (hT' W (hV.trans (hW.mono hV.size)))) rfl hz
   have h9 : SamP w s t a a2 c c2 false 3 (quoName ++ ⟨#[32]⟩) (FaultT p3) := ⟨fun w w' v h hB => FaultAt.below (w := w) (l := quoName) h hB, fun w w' v h hk => FaultAt.keptQ (w := w) (l := quoName) h hk, hi3, hr3, ht3⟩
   exact ⟨_, _, _, _, h9⟩
 · (
 have hs0 := hs.st0; have ht0 := ht.st0
 have hn0 : 0 < s.st.toNat := by omega
 have hm0 : 0 < t.st.toNat := by omega
 have hiff : ∀ r : Bool, (r = true ↔ Eqv s s.st.toNat s.s0.toNat t t.st.toNat t.s0.toNat) -> r = @decide (Eqv s s.st.toNat s.s0.toNat t t.st.toNat t.s0.toNat) (Classical.propDecidable _) := fun r h => by
   rw [Bool.eq_iff_iff, h]
   exact (@decide_eq_true_iff _ (Classical.propDecidable _)).symm
 refine ⟨@decide (Eqv s s.st.toNat s.s0.toNat t t.st.toNat t.s0.toNat) (Classical.propDecidable _), 0, ⟨#[]⟩, fun _ v => v = .nilIface, fun _ _ _ h _ => h, fun _ _ _ h _ => h, fun V hV => ?_, fun V hV => ?_, fun V v hV h => ?_⟩
 · refine (same_any (p := p) hs ht (n := s.st.toNat) (m := t.st.toNat) (z := s.s0.toNat) (y := t.s0.toNat) (by omega) (by omega) hn0 hm0 (by omega) (by omega) f1 f2 (hE.sys.below hV) (hS' V hV) (hT' V hV)).mono ?_
   rintro e w' ⟨r, rfl, h, hB⟩
   rw [hiff r h]
   exact ⟨_, rfl, rfl, hB⟩
 · refine (refSameF_any hs ht (n := s.st.toNat) (m := t.st.toNat) (z := s.s0.toNat) (y := t.s0.toNat) (by omega) (by omega) hn0 hm0 (by omega) (by omega) f1 f2 (hS' V hV) (hT' V hV)).mono ?_
   rintro e w' ⟨r, rfl, h, hB⟩
   rw [hiff r h]
   exact ⟨rfl, hB⟩
 · subst h; exact told_nil 0 0 ⟨#[]⟩ V)
end Go.Proofs.YtgikimbafakmcaaGreatDoor

/-
  Lemmas.
-/
import Derived.Test.YtgikimbafakmcaaGreatDoorQuoM
import Derived.Test.YtgikimbafakmcaaGreatDoorGStrI
set_option maxHeartbeats 8000000
set_option maxRecDepth 100000
namespace Go.Proofs.YtgikimbafakmcaaGreatDoor
open Go.RowKit Pl
open Lib (hid)
def quoName : ByteArray := ⟨#[113, 117, 111, 116, 105, 101, 110, 116]⟩
def QuoStr (s : Lts) (n : Nat) (w : World) (e : Ending) (w' : World) : Prop :=
  ∃ C : Nat -> Int, (Big s n C /\ canon (fl n C) = fl n C) /\ QuoPost s.norm n C w e w'
theorem quoBy_any {p : Addr} {s : Lts} {n : Nat} (h : s.Right) (hn : s.st = (n : Int)) (hn0 : 0 < n) (hb : n * s.es.length <= 100000) {a : Option Addr} {b off c : Nat} {w : World} (hG : GErr 0 p w) (hS : SlAt encE 3 w a b off s.es) :
    Calls Tryz.prog 71 #[.agg #[.int .i64 s.st, .int .i64 s.lb, .int .i64 s.s0, .slice a s.es.length c], .func (.func 69) #[] #[], .bool false] w (QuoStr s n w) := by
 have hst := h.st0
 have hn1 : n <= 1000 := by omega
 have hB0 := ((Below.refl w.heap.size w).alloc (Nat.le_refl _) (Obj.cells #[.int .i64 s.st, .int .i64 s.lb, .int .i64 s.s0, .slice a s.es.length c] 24)).alloc (by simp) (Obj.cells #[.int .i64 0, .int .i64 0, .int .i64 0, .slice none 0 0] 24)
 have hx0 := (((Below.refl _ _).alloc (Nat.le_refl _) (Obj.cells #[.int .i64 0, .int .i64 0, .int .i64 0, .slice none 0 0] 24)).block w.heap.size (by simp)).trans (heap_alloc_new w (Obj.cells #[.int .i64 s.st, .int .i64 s.lb, .int .i64 s.s0, .slice a s.es.length c] 24))
 have hy0 := heap_alloc_at (w.alloc (Obj.cells #[.int .i64 s.st, .int .i64 s.lb, .int .i64 s.s0, .slice a s.es.length c] 24)) (Obj.cells #[.int .i64 0, .int .i64 0, .int .i64 0, .slice none 0 0] 24) (w.heap.size + 1) (by simp)
 have HCK := hid (check_ok h a b off c _ (hG.below hB0) (hS.below hB0 (Nat.le_refl _)))
 have HB0 := hid hB0; have HX0 := hid hx0; have HY0 := hid hy0; have HS := hid hS; have HG := hid hG
 have HR := hid h; have HN := hid hn; have HBB := hid hb
 clear hB0 hx0 hy0 hS hG h hn hb hst
 go_enter Tryz.func71, Tryz.ntmps71
 go_wp2_with fail
 refine HCK.out.mono ?_
 rintro e w1 ⟨rfl, hB1⟩
 have hx1 := (hB1.block w.heap.size (by simp; omega)).trans HX0.out
 have HB1 := hid (HB0.out.trans (hB1.mono (by simp; omega))); have HX1 := hid hx1
 have HY1 := hid ((hB1.block (w.heap.size + 1) (by simp)).trans HY0.out)
 obtain ⟨x0, x1, x2, x3, x4⟩ := sys9 hx1
 have HCL := hid (strClasses_any (c := c) HR.out HN.out (HG.out.below HB1.out) (HS.out.below HB1.out (Nat.le_refl _)))
 clear hB1 hx1 HB0 HX0 HY0 HCK
 go_wp2_with fail
 refine HCL.out.mono ?_
 unfold StrClasses
 rintro e w2 ⟨inn, ca, cc, hbig, rfl, hown, hB2⟩
 have hcl : (canon (flN n inn)).length = n := by rw [canon_len, flN_len]
 have hos : SlAt encI 1 w2 ca (blkOf ca) 0 (canon (flN n inn)) := ((Rws.nil (Below.refl w1.heap.size w1)).add hB2 hown).slO (i := 0) rfl lenI hcl.symm
 have hclb : clB (n : Int) (canon (flN n inn)) = true := by unfold clB; rw [canon_canon, hcl]; simp
 have hwf := canon9_wf (l := flN n inn) (by rw [flN_len]; omega)
 rw [canon9] at hos hclb hwf
 have hx2 := (hB2.block w.heap.size x4).trans HX1.out
 have hb2 := HB1.out.trans (hB2.mono HB1.out.size)
 have HY2 := hid ((hB2.block (w.heap.size + 1) (Array.getElem?_eq_some_iff.1 HY1.out).1).trans HY1.out)
 have HOF := hid (quoOf_any (c := c) (cc := cc) HR.out HN.out hn0 (HG.out.below hb2) (HS.out.below hb2 (Nat.le_refl _)) hos hclb hwf HBB.out)
 have HB2 := hid hb2; have HBIG : Hid (Big s n (cl9 n inn) /\ canon (fl n (cl9 n inn)) = fl n (cl9 n inn)) := hid ⟨cl9_big hbig, by unfold cl9; rw [<- canon_fl, canon_canon]⟩
 clear x0 x1 x2 x3 x4
 obtain ⟨x0, x1, x2, x3, x4⟩ := sys9 hx2
 clear hB2 hx2 hb2 hos hclb hwf hcl hown hbig HB1 HX1 HY1 HCL
 go_wp2_with fail
 refine HOF.out.mono ?_
 unfold QuoPost
 rintro e w3 ⟨ea, ta, eb, ec, tb, tc, rfl, hes, hto, heb, htb, hB3⟩
 have hy3 := (hB3.block (w.heap.size + 1) (Array.getElem?_eq_some_iff.1 HY2.out).1).trans HY2.out
 have hb3 := HB2.out.trans (hB3.mono HB2.out.size)
 obtain ⟨Q, hQ⟩ : ∃ Q, Q = quoS s.norm (fl n (cl9 n inn)) := ⟨_, rfl⟩
 rw [<- hQ] at hes heb ⊢
 obtain ⟨T, hT⟩ : ∃ T, T = fl n (fun j => toI (quoD s.norm (fl n (cl9 n inn))) (cl9 n inn j)) := ⟨_, rfl⟩
 rw [<- hT] at hto
 have HQ := hid hQ; have HT := hid hT; have HES := hid hes; have HTO := hid hto; have HB3 := hid hb3; have HY3 := hid hy3
 obtain ⟨y0, y1, y2, y3, y4⟩ := sys9 hy3
 have yf0 : w3.frozen? ⟨w.heap.size + 1, 0, none⟩ = false := by simp [World.frozen?, hy3]
 have yf1 : w3.frozen? ⟨w.heap.size + 1, 1, none⟩ = false := by simp [World.frozen?, hy3]
 have yf2 : w3.frozen? ⟨w.heap.size + 1, 2, none⟩ = false := by simp [World.frozen?, hy3]
 have yf3 : w3.frozen? ⟨w.heap.size + 1, 3, none⟩ = false := by simp [World.frozen?, hy3]
 have hw2 : w.heap.size + 1 < w2.heap.size := (Array.getElem?_eq_some_iff.1 HY2.out).1
 clear hQ hT hes hto hB3 hb3 hy3 HOF HY2 HB2 x0 x1 x2 x3 x4
 go_wp2_with fail
 have hEB : 0 < Q.es.length -> eb ≠ w.heap.size + 1 := fun h => by have := heb h; omega
 have hTB : 0 < T.length -> tb ≠ w.heap.size + 1 := fun h => by have := htb hn0; omega
 refine bodyPost_ret (v := .tuple #[.agg #[.int .i64 Q.st, .int .i64 Q.lb, .int .i64 Q.s0, .slice ea Q.es.length ec], .slice ta n tc, .nilIface]) (by simp [results, Tryz.results71, go_sem, y0, y1, y2, y3]) rfl ⟨cl9 n inn, HBIG.out, ea, ta, eb, ec, tb, tc, by rw [<- HQ.out], ?_, ?_, fun h => ?_, fun h => ?_, ?_⟩
 · rw [<- HQ.out]
   exact (((HES.out.setOther hEB _).setOther hEB _).setOther hEB _).setOther hEB _
 · rw [<- HT.out]
   exact (((HTO.out.setOther hTB _).setOther hTB _).setOther hTB _).setOther hTB _
 · rw [<- HQ.out] at h; have := heb h; omega
 · have := htb h; omega
 · exact (((HB3.out.setCell (by show w.heap.size <= w.heap.size + 1; omega) _).setCell (by show w.heap.size <= w.heap.size + 1; omega) _).setCell (by show w.heap.size <= w.heap.size + 1; omega) _).setCell (by show w.heap.size <= w.heap.size + 1; omega) _
theorem quoStrong_any {p : Addr} {s : Lts} {n : Nat} (h : s.Right) (hn : s.st = (n : Int)) (hn0 : 0 < n) (hb : n * s.es.length <= 100000) {a : Option Addr} {b off c : Nat} {w : World} (hG : GErr 0 p w) (hS : SlAt encE 3 w a b off s.es) :
    Calls Tryz.prog 15 #[.agg #[.int .i64 s.st, .int .i64 s.lb, .int .i64 s.s0, .slice a s.es.length c]] w (QuoStr s n w) := by
 have hB0 := ((Below.refl w.heap.size w).alloc (Nat.le_refl _) (Obj.cells #[.int .i64 s.st, .int .i64 s.lb, .int .i64 s.s0, .slice a s.es.length c] 24)).alloc (by simp) (Obj.cells #[.int .i64 0, .int .i64 0, .int .i64 0, .slice none 0 0] 24)
 have hy0 := heap_alloc_at (w.alloc (Obj.cells #[.int .i64 s.st, .int .i64 s.lb, .int .i64 s.s0, .slice a s.es.length c] 24)) (Obj.cells #[.int .i64 0, .int .i64 0, .int .i64 0, .slice none 0 0] 24) (w.heap.size + 1) (by simp)
 have HBY := hid (quoBy_any (c := c) h hn hn0 hb (hG.below hB0) (hS.below hB0 (Nat.le_refl _)))
 have HB0 := hid hB0; have HY0 := hid hy0
 clear hB0 hy0 hS hG h hn hb
 go_enter Tryz.func15, Tryz.ntmps15
 go_wp2_with fail
 refine HBY.out.mono ?_
 unfold QuoStr QuoPost
 rintro e w3 ⟨C, hbig, ea, ta, eb, ec, tb, tc, rfl, hes, hto, heb, htb, hB3⟩
 have hy3 := (hB3.block (w.heap.size + 1) (by simp)).trans HY0.out
 have hb3 := HB0.out.trans (hB3.mono (by simp; omega))
 simp only [World.size_alloc] at heb htb
 obtain ⟨Q, hQ⟩ : ∃ Q, Q = quoS s.norm (fl n C) := ⟨_, rfl⟩
 rw [<- hQ] at hes heb ⊢
 obtain ⟨T, hT⟩ : ∃ T, T = fl n (fun j => toI (quoD s.norm (fl n C)) (C j)) := ⟨_, rfl⟩
 rw [<- hT] at hto
 have HQ := hid hQ; have HT := hid hT; have HES := hid hes; have HTO := hid hto; have HB3 := hid hb3; have HY3 := hid hy3; have HBIG := hid hbig
 obtain ⟨y0, y1, y2, y3, y4⟩ := sys9 hy3
 have yf0 : w3.frozen? ⟨w.heap.size + 1, 0, none⟩ = false := by simp [World.frozen?, hy3]
 have yf1 : w3.frozen? ⟨w.heap.size + 1, 1, none⟩ = false := by simp [World.frozen?, hy3]
 have yf2 : w3.frozen? ⟨w.heap.size + 1, 2, none⟩ = false := by simp [World.frozen?, hy3]
 have yf3 : w3.frozen? ⟨w.heap.size + 1, 3, none⟩ = false := by simp [World.frozen?, hy3]
 clear hQ hT hes hto hB3 hb3 hy3 HBY HY0 HB0 hbig
 go_wp2_with fail
 have hEB : 0 < Q.es.length -> eb ≠ w.heap.size + 1 := fun h => by have := heb h; omega
 have hTB : 0 < T.length -> tb ≠ w.heap.size + 1 := fun h => by have := htb hn0; omega
 refine bodyPost_ret (v := .tuple #[.agg #[.int .i64 Q.st, .int .i64 Q.lb, .int .i64 Q.s0, .slice ea Q.es.length ec], .slice ta n tc, .nilIface]) (by simp [results, Tryz.results15, go_sem, y0, y1, y2, y3]) rfl ⟨C, HBIG.out, ea, ta, eb, ec, tb, tc, by rw [<- HQ.out], ?_, ?_, fun h => ?_, fun h => ?_, ?_⟩
 · rw [<- HQ.out]
   exact (((HES.out.setOther hEB _).setOther hEB _).setOther hEB _).setOther hEB _
 · rw [<- HT.out]
   exact (((HTO.out.setOther hTB _).setOther hTB _).setOther hTB _).setOther hTB _
 · rw [<- HQ.out] at h; have := heb h; omega
 · have := htb h; omega
 · exact (((HB3.out.setCell (by show w.heap.size <= w.heap.size + 1; omega) _).setCell (by show w.heap.size <= w.heap.size + 1; omega) _).setCell (by show w.heap.size <= w.heap.size + 1; omega) _).setCell (by show w.heap.size <= w.heap.size + 1; omega) _
end Go.Proofs.YtgikimbafakmcaaGreatDoor
namespace Go.Proofs.YtgikimbafakmcaaGreatDoor
open Go.RowKit Pl
open Lib (hid)
def UniPost (s t : Lts) (w : World) (e : Ending) (w' : World) : Prop :=
  ∃ (ea : Option Addr) (eb ec : Nat), e = .returned (.tuple #[.agg #[.int .i64 (uniS s t).st, .int .i64 (uniS s t).lb, .int .i64 (uniS s t).s0, .slice ea (uniS s t).es.length ec], .int .i64 s.st, .nilIface]) /\
    SlAt encE 3 w' ea eb 0 (uniS s t).es /\ Below w.heap.size w w'
def uniK (s t : Lts) (j : Nat) : List E := s.es ++ (t.es.take j).map (shE s.st)
theorem uniK_len {s t : Lts} {j : Nat} (h : j <= t.es.length) : (uniK s t j).length = s.es.length + j := by
 unfold uniK
 rw [List.length_append, List.length_map, List.length_take]; omega
theorem uniK_snoc {s t : Lts} {j : Nat} {x : E} (h : t.es[j]? = some x) : uniK s t (j + 1) = uniK s t j ++ [shE s.st x] := by
 unfold uniK
 rw [take_snoc h, List.map_append, List.append_assoc]; rfl
theorem uniK_all (s t : Lts) : uniK s t t.es.length = (uniS s t).es := by unfold uniK uniS; rw [List.take_length]
theorem index2 (x0 x1 x2 x3 y0 y1 y2 y3 : Value) (w : World) :
    (Instr.index 64 (.agg #[x0, x1, x2, x3, y0, y1, y2, y3]) (.int .i64 0)).run Tryz.prog w = .ok (.agg #[x0, x1, x2, x3]) w /\
    (Instr.index 64 (.agg #[x0, x1, x2, x3, y0, y1, y2, y3]) (.int .i64 1)).run Tryz.prog w = .ok (.agg #[y0, y1, y2, y3]) w := by
 constructor <;> kernel_rfl
theorem union_any {p : Addr} {s t : Lts} (hs : s.Right) (ht : t.Right) (hn : 0 < s.st) (h1 : s.st + t.st <= 1000) (h2 : s.es.length + t.es.length <= 10000) {a a2 : Option Addr} {b off c b2 off2 c2 : Nat} {w : World} (hG : GErr 0 p w) (hS : SlAt encE 3 w a b off s.es) (hT : SlAt encE 3 w a2 b2 off2 t.es) :
    Calls Tryz.prog 7 #[.agg #[.int .i64 s.st, .int .i64 s.lb, .int .i64 s.s0, .slice a s.es.length c], .agg #[.int .i64 t.st, .int .i64 t.lb, .int .i64 t.s0, .slice a2 t.es.length c2]] w (UniPost s t w) := by
 have HR := hid hs; have HRT := hid ht; have HG := hid hG; have HS := hid hS; have HT := hid hT
 have H1 := hid h1; have H2 := hid h2; have HN := hid hn
 clear hs ht hG hS hT h1 h2 hn
 go_enter Tryz.func7, Tryz.ntmps7
 go_upto_region 1 with fail
 obtain ⟨w0, hw0⟩ : ∃ w0, w0 = ((w.alloc (.cells #[.int .i64 s.st, .int .i64 s.lb, .int .i64 s.s0, .slice a s.es.length c] 24)).alloc (.cells #[.int .i64 t.st, .int .i64 t.lb, .int .i64 t.s0, .slice a2 t.es.length c2] 24)).alloc (.cells #[.int .i64 0, .int .i64 0, .int .i64 0, .slice none 0 0] 24) := ⟨_, rfl⟩
 have hB0 : Below w.heap.size w w0 := by rw [hw0]; exact (((Below.refl w.heap.size w).alloc (Nat.le_refl _) _).alloc (by simp) _).alloc (by simp; omega) _
 have hx : w0.heap[w.heap.size]? = some (.cells #[.int .i64 s.st, .int .i64 s.lb, .int .i64 s.s0, .slice a s.es.length c] 24 (0, 0)) := by
   rw [hw0]
   exact ((((Below.refl (w.heap.size + 1) (w.alloc (Obj.cells #[.int .i64 s.st, .int .i64 s.lb, .int .i64 s.s0, .slice a s.es.length c] 24))).alloc (by simp) _).alloc (by simp) _).block w.heap.size (by omega)).trans (heap_alloc_new w _)
 have hz : w0.heap[w.heap.size + 1]? = some (.cells #[.int .i64 t.st, .int .i64 t.lb, .int .i64 t.s0, .slice a2 t.es.length c2] 24 (0, 0)) := by
   rw [hw0]
   exact ((Below.refl (w.heap.size + 2) _).alloc (by simp) _ |>.block (w.heap.size + 1) (by omega)).trans (heap_alloc_at _ _ (w.heap.size + 1) (by simp))
 have hy : w0.heap[w.heap.size + 1 + 1]? = some (.cells #[.int .i64 0, .int .i64 0, .int .i64 0, .slice none 0 0] 24 (0, 0)) := by
   rw [hw0]
   exact heap_alloc_at _ _ (w.heap.size + 1 + 1) (by simp)
 have HB0 := hid hB0; have HX := hid hx; have HZ := hid hz; have HY := hid hy
 rw [<- hw0]
 obtain ⟨X, hX⟩ : ∃ X, X = w.heap.size := ⟨_, rfl⟩
 obtain ⟨Z, hZ⟩ : ∃ Z, Z = w.heap.size + 1 := ⟨_, rfl⟩
 obtain ⟨Y, hY⟩ : ∃ Y, Y = w.heap.size + 1 + 1 := ⟨_, rfl⟩
 have HYW : Hid (w.heap.size <= Y) := hid (by omega)
 have HXY : Hid (¬ X = Y) := hid (by omega)
 rw [<- hX] at HX
 rw [<- hZ] at HZ
 rw [<- hY] at HY
 rw [<- hY, <- hZ, <- hX]
 obtain ⟨x0, x1, x2, x3, x4⟩ := sys9 HX.out
 obtain ⟨z0, z1, z2, z3, z4⟩ := sys9 HZ.out
 clear hw0 hB0 hx hz hy hX hZ hY
 go_upto_region 2 with fail
 clear x0 x1 x2 x3 x4 z0 z1 z2 z3 z4
 go_loopw [8, 9, 16] (fun _ _ v16 wx => ∃ i : Nat, v16 = .int .i64 i /\ i <= 2 /\ Below w0.heap.size w0 wx) (fun _ _ v16 _ => 2 - (intOf v16).toNat)
 case atStart => exact ⟨0, rfl, by omega, Below.refl _ _⟩
 case round => (
 obtain ⟨i, rfl, hi, hb⟩ := hrel
 have HB := hid hb
 by_cases h0 : i = 0
 · (
 subst h0
 have hix := fun W => (index2 (.int .i64 s.st) (.int .i64 s.lb) (.int .i64 s.s0) (.slice a s.es.length c) (.int .i64 t.st) (.int .i64 t.lb) (.int .i64 t.s0) (.slice a2 t.es.length c2) W).1
 have hbz := hb.alloc hb.size (.cells #[.int .i64 s.st, .int .i64 s.lb, .int .i64 s.s0, .slice a s.es.length c] 24)
 have HBZ := hid hbz
 have HCK := hid (check_ok HR.out a b off c (wr.alloc (.cells #[.int .i64 s.st, .int .i64 s.lb, .int .i64 s.s0, .slice a s.es.length c] 24)) (HG.out.below (HB0.out.trans (hbz.mono HB0.out.size))) (HS.out.below (HB0.out.trans (hbz.mono HB0.out.size)) (Nat.le_refl _)))
 clear hb hbz
 go_wp2_with fail
 refine HCK.out.mono ?_
 rintro e w1 ⟨rfl, hB1⟩
 have HB1 := hid (HBZ.out.trans (hB1.mono HBZ.out.size))
 clear hB1
 go_wp2_with fail
 go_roundw
 case rel => exact ⟨1, rfl, by omega, HB1.out⟩
 case measure => simp [intOf])
 by_cases h1 : i = 1
 · (
 subst h1
 have hix := fun W => (index2 (.int .i64 s.st) (.int .i64 s.lb) (.int .i64 s.s0) (.slice a s.es.length c) (.int .i64 t.st) (.int .i64 t.lb) (.int .i64 t.s0) (.slice a2 t.es.length c2) W).2
 have hbz := hb.alloc hb.size (.cells #[.int .i64 t.st, .int .i64 t.lb, .int .i64 t.s0, .slice a2 t.es.length c2] 24)
 have HBZ := hid hbz
 have HCK := hid (check_ok HRT.out a2 b2 off2 c2 (wr.alloc (.cells #[.int .i64 t.st, .int .i64 t.lb, .int .i64 t.s0, .slice a2 t.es.length c2] 24)) (HG.out.below (HB0.out.trans (hbz.mono HB0.out.size))) (HT.out.below (HB0.out.trans (hbz.mono HB0.out.size)) (Nat.le_refl _)))
 clear hb hbz h0
 go_wp2_with fail
 refine HCK.out.mono ?_
 rintro e w1 ⟨rfl, hB1⟩
 have HB1 := hid (HBZ.out.trans (hB1.mono HBZ.out.size))
 clear hB1
 go_wp2_with fail
 go_roundw
 case rel => exact ⟨2, rfl, by omega, HB1.out⟩
 case measure => simp [intOf])
 obtain rfl : i = 2 := by omega
 have HXR := hid ((hb.block X (Array.getElem?_eq_some_iff.1 HX.out).1).trans HX.out)
 have HZR := hid ((hb.block Z (Array.getElem?_eq_some_iff.1 HZ.out).1).trans HZ.out)
 have HYR := hid ((hb.block Y (Array.getElem?_eq_some_iff.1 HY.out).1).trans HY.out)
 obtain ⟨x0, x1, x2, x3, x4⟩ := sys9 HXR.out
 obtain ⟨z0, z1, z2, z3, z4⟩ := sys9 HZR.out
 have k1 := HR.out.st0; have k2 := HRT.out.st0; have k3 := H1.out; have k4 := H2.out; have k5 := HN.out
 have g1 : ¬ (s.st + t.st > 1000) := by omega
 have g2 : ¬ ((s.es.length : Int) + (t.es.length : Int) > 10000) := by omega
 have g3 : IntKind.i64.wrap (s.st + t.st) = s.st + t.st := IntWalk.i64_in _ (by omega)
 have g4 : IntKind.i64.wrap ((s.es.length : Int) + (t.es.length : Int)) = (s.es.length : Int) + (t.es.length : Int) := IntWalk.i64_in _ (by omega)
 have g5 : ¬ s.st = 0 := by omega
 clear hb h0 h1 hi k1 k2 k3 k4 k5
 go_upto_region 13 with fail
 obtain ⟨ml, hml⟩ : ∃ ml, ml = max s.lb t.lb := ⟨_, rfl⟩
 have HML := hid hml
 have hif : (if s.lb < t.lb then t.lb else s.lb) = ml := by rw [hml]; split <;> omega
 first | rw [hif] | rw [<- hml]
 obtain ⟨w4, hw4⟩ : ∃ w4, w4 = wr.alloc (.cells #[.int .i64 (s.st + t.st), .int .i64 ml, .int .i64 s.s0, .slice a s.es.length c] 24) := ⟨_, rfl⟩
 obtain ⟨tb, htb⟩ : ∃ tb, tb = wr.heap.size := ⟨_, rfl⟩
 have hr4 := (Rws.nil (Below.refl wr.heap.size wr)).addLit #[.int .i64 (s.st + t.st), .int .i64 ml, .int .i64 s.s0, .slice a s.es.length c] 24 (k := 4) (n := 1) (by decide) rfl
 rw [<- hw4, <- htb] at hr4
 have hr4 : Rws wr w4 [RQ tb (s.st + t.st) ml s.s0 (.slice a s.es.length c)] := hr4
 rw [<- hw4, <- htb]
 have HBW : Hid (Below w.heap.size w wr) := hid (HB0.out.trans (HB.out.mono HB0.out.size))
 have HWX : Hid (X < wr.heap.size /\ Z < wr.heap.size /\ Y < wr.heap.size) := hid ⟨x4, z4, (Array.getElem?_eq_some_iff.1 HYR.out).1⟩
 have HCN := hid (cloneE_any (c := c) (HS.out.below (HBW.out.trans (hr4.bel.mono HBW.out.size)) (Nat.le_refl _)) (by have := H2.out; omega))
 have HR4 := hid hr4
 clear hml hif hw4 htb x0 x1 x2 x3 x4 z0 z1 z2 z3 z4 g1 g2 g3 g4
 have hx4 := (hr4.bel.block X HWX.out.1).trans HXR.out
 have hz4 := (hr4.bel.block Z HWX.out.2.1).trans HZR.out
 obtain ⟨x0, x1, x2, x3, x4⟩ := sys9 hx4
 obtain ⟨z0, z1, z2, z3, z4⟩ := sys9 hz4
 have HX4 := hid hx4; have HZ4 := hid hz4
 clear hr4 hx4 hz4
 go_wp2_with fail
 refine HCN.out.mono ?_
 rintro e w5 ⟨v, rfl, hown, hB5⟩
 have hr5 := HR4.out.add hB5 hown
 obtain ⟨ra, rc, rb, rfl, _, _, _, _⟩ := slAt_own lenE hown
 have t3 := hr5.cell (i := 1) rfl (j := 3) rfl
 have tf := hr5.fz (i := 1) rfl 3
 have tl := (hr5.lt (i := 1) rfl).2
 have hr6 := hr5.set 1 rfl 3 (.slice ra s.es.length rc)
 have hr6 : Rws wr (w5.setCell ⟨tb, 3, none⟩ (.slice ra s.es.length rc)) [REq ra s.es.length rc s.es, RQ tb (s.st + t.st) ml s.s0 (.slice ra s.es.length rc)] := hr6
 have HR6 := hid hr6
 clear x0 x1 x2 x3 x4 z0 z1 z2 z3 z4
 have hx6 := (hr6.bel.block X HWX.out.1).trans HXR.out
 have hz6 := (hr6.bel.block Z HWX.out.2.1).trans HZR.out
 have HX6 := hid hx6; have HZ6 := hid hz6
 clear hr5 hr6 hown hB5 hx6 hz6 HX4 HZ4 HR4 HCN
 go_upto_region 16 with fail
 obtain ⟨w6, hw6⟩ : ∃ w6, w6 = w5.setCell ⟨tb, 3, none⟩ (.slice ra s.es.length rc) := ⟨_, rfl⟩
 rw [<- hw6] at HR6 HX6 HZ6 ⊢
 clear hw6 t3 tf tl
 obtain ⟨x0, x1, x2, x3, x4⟩ := sys9 HX6.out
 obtain ⟨z0, z1, z2, z3, z4⟩ := sys9 HZ6.out
 go_wp2_with fail
 clear x0 x1 x2 x3 x4 z0 z1 z2 z3 z4
 obtain ⟨wb, rfl⟩ : ∃ wb, wb = wr := ⟨_, rfl⟩
 obtain ⟨m, hm⟩ : ∃ m, m = t.es.length := ⟨_, rfl⟩
 rw [<- hm]
 have HM := hid hm
 have hmb : m <= 10000 := by have := H2.out; omega
 clear hm
 go_loopw [12, 72] (fun _ v72 wx => ∃ (j : Nat) (ea : Option Addr) (k ec : Nat), v72 = .int .i64 j /\ j <= m /\ k = s.es.length + j /\ Rws wb wx [REq ea k ec (uniK s t j), RQ tb (s.st + t.st) ml s.s0 (.slice ea k ec)]) (fun _ v72 _ => m - (intOf v72).toNat)
 case atStart => exact ⟨0, ra, s.es.length, rc, rfl, Nat.zero_le _, rfl, by unfold uniK; simpa using HR6.out⟩
 case round => (
 obtain ⟨j, ea, k, ec, rfl, hj, hk, hrw⟩ := hrel
 have HRW := hid hrw; have HK := hid hk
 have hw2 := hrw.bel.size
 have hx7 := (hrw.bel.block X HWX.out.1).trans HXR.out
 have hz7 := (hrw.bel.block Z HWX.out.2.1).trans HZR.out
 obtain ⟨x0, x1, x2, x3, x4⟩ := sys9 hx7
 obtain ⟨z0, z1, z2, z3, z4⟩ := sys9 hz7
 clear hrw hx7 hz7
 by_cases hjm : j < m
 · (
 obtain ⟨x, hx⟩ := getElem?_of_lt (xs := t.es) (i := j) (by rw [<- HM.out]; exact hjm)
 have HBR : Hid (Below w.heap.size w wr) := hid (HBW.out.trans (HRW.out.bel.mono HBW.out.size))
 have hss := HT.out.below HBR.out (Nat.le_refl _)
 obtain rfl := hss.ad (by rw [<- HM.out]; omega)
 have d0 := hss.e0 hx; have d1 := hss.e1 hx; have d2 := hss.e2 hx
 have dl := hss.lt (by rw [<- HM.out]; omega)
 have hxr := offB_false.1 (HRT.out.edges _ (List.mem_of_getElem? hx))
 have HSN := hid (uniK_snoc (s := s) hx)
 have k1 := HR.out.st0; have k2 := H1.out; have k3 := HN.out; have k4 := H2.out; have k5 := HM.out
 obtain ⟨q1, q2, q3⟩ := x
 simp only at hxr d0 d1 d2
 have g1 : IntKind.i64.wrap (q1 + s.st) = q1 + s.st := IntWalk.i64_in _ (by omega)
 have g2 : IntKind.i64.wrap (q3 + s.st) = q3 + s.st := IntWalk.i64_in _ (by omega)
 have hjI : (j : Int) < (m : Int) := by omega
 have hkl : k <= 10000 := by omega
 have t3 := HRW.out.cell (i := 1) rfl (j := 3) rfl
 have tl := (HRW.out.lt (i := 1) rfl).2
 clear hx hss hxr k1 k2 k3 k4 k5 hk
 go_wp2_with (at_builtin; refine wpList_lie rfl _ _ _ rfl rowE (base := wb.heap.size) (by simp; omega) rfl (show ((wr.alloc (.cells #[.int .i64 q1, .int .i64 q2, .int .i64 q3] 57)).alloc (.cells #[.int .i64 (q1 + s.st), .int .i64 q2, .int .i64 (q3 + s.st)] 57)).ownsRow wb.heap.size 57 3 (.slice ea k ec) k ((uniK s t j).flatMap encE) from ((HRW.out.alloc _).alloc _).get (i := 0) rfl) ⟨wr.heap.size + 1, 0, none⟩ 1 1 [.int .i64 (q1 + s.st), .int .i64 q2, .int .i64 (q3 + s.st)] rfl rfl (cells3 (by simp [go_sem]) (by simp [go_sem]) (by simp [go_sem])) (by simp [Value.oneCell']) (by decide) (by omega) (by unfold maxLen; omega) wr.heap.size (by simp; omega) ?_; intro g cap w8 hown8 hg8 hl8 hlt8; have hr8 := edGrow (x := (q1 + s.st, q2, q3 + s.st)) HRW.out (((Below.refl wr.heap.size wr).alloc (Nat.le_refl _) _).alloc (by simp) _) (i := 0) rfl hown8 hg8 hl8; have u3 := hr8.cell (i := 1) rfl (j := 3) rfl; have uf := hr8.fz (i := 1) rfl 3; have ul := (hr8.lt (i := 1) rfl).2; have HR8 := hid hr8; clear hr8 hown8 hg8 hl8 d0 d1 d2 dl t3 tl)
 have hr9 := HR8.out.set 1 rfl 3 (.slice (some ⟨g, 0, none⟩) (k + 1) cap)
 have HR9 : Hid (Rws wb (w8.setCell ⟨tb, 3, none⟩ (.slice (some ⟨g, 0, none⟩) (k + 1) cap)) [REq (some ⟨g, 0, none⟩) (k + 1) cap (uniK s t (j + 1)), RQ tb (s.st + t.st) ml s.s0 (.slice (some ⟨g, 0, none⟩) (k + 1) cap)]) := hid (by rw [HSN.out]; exact hr9)
 clear hr9 HR8 u3 uf ul
 go_roundw
 case rel => exact ⟨j + 1, some ⟨g, 0, none⟩, k + 1, cap, by go_num, by omega, by have := HK.out; omega, HR9.out⟩
 case measure => simp [intOf]; omega)
 · (
 obtain rfl : j = m := by omega
 have HBR : Hid (Below w.heap.size w wr) := hid (HBW.out.trans (HRW.out.bel.mono HBW.out.size))
 have t0 := HRW.out.cell (i := 1) rfl (j := 0) rfl
 have t1 := HRW.out.cell (i := 1) rfl (j := 1) rfl
 have t2 := HRW.out.cell (i := 1) rfl (j := 2) rfl
 have t3 := HRW.out.cell (i := 1) rfl (j := 3) rfl
 have tl := (HRW.out.lt (i := 1) rfl).2
 have hy8 := (HRW.out.bel.block Y HWX.out.2.2).trans HYR.out
 obtain ⟨y0, y1, y2, y3, y4⟩ := sys9 hy8
 have yf0 : wr.frozen? ⟨Y, 0, none⟩ = false := by simp [World.frozen?, hy8]
 have yf1 : wr.frozen? ⟨Y, 1, none⟩ = false := by simp [World.frozen?, hy8]
 have yf2 : wr.frozen? ⟨Y, 2, none⟩ = false := by simp [World.frozen?, hy8]
 have yf3 : wr.frozen? ⟨Y, 3, none⟩ = false := by simp [World.frozen?, hy8]
 have HRD := hid HRW.out.drew
 have hXY := HXY.out
 clear hy8 z0 z1 z2 z3 z4 hk
 go_upto_region 21 with fail
 go_region
 go_wp2
 obtain ⟨ae, ce, be, hve, _, _, hse, hbe⟩ := HRD.out.sl (i := 0) (ys := uniK s t j) rfl lenE (by rw [uniK_len (by rw [<- HM.out]; exact Nat.le_refl _)]; exact HK.out)
 simp only [Value.slice.injEq] at hve
 obtain ⟨rfl, _, rfl⟩ := hve
 have hlo := HWX.out.2.2
 have hne : 0 < (uniK s t j).length -> be ≠ Y := fun h => by have := hbe h; omega
 have hQ : uniS s t = ⟨s.st + t.st, ml, s.s0, uniK s t j⟩ := by (
 rw [HM.out, uniK_all, HML.out]
 unfold uniS
 rw [if_neg g5])
 have hlen : (uniK s t j).length = k := by
   rw [uniK_len (by rw [<- HM.out]; exact Nat.le_refl _)]; exact HK.out.symm
 have hyw := HYW.out
 refine bodyPost_ret (v := .tuple #[.agg #[.int .i64 (s.st + t.st), .int .i64 ml, .int .i64 s.s0, .slice ea k ec], .int .i64 s.st, .nilIface]) (by simp [results, Tryz.results7, go_sem, y0, y1, y2, y3]) rfl ⟨ea, be, ec, by rw [hQ, <- hlen], ?_, ?_⟩
 · rw [hQ]
   exact (((hse.setOther hne _).setOther hne _).setOther hne _).setOther hne _
 · exact ((((HBR.out.setCell (by show w.heap.size <= Y; omega) _).setCell (by show w.heap.size <= Y; omega) _).setCell (by show w.heap.size <= Y; omega) _).setCell (by show w.heap.size <= Y; omega) _).drew)))
end Go.Proofs.YtgikimbafakmcaaGreatDoor

/-
  Lemmas.
-/
import Derived.Test.YtjchdegapadepaaGreatDoorQuoM
import Derived.Test.YtjchdegapadepaaGreatDoorGStrI
import Derived.Test.YtjchdegapadepaaGreatDoorGBrP
set_option maxHeartbeats 4000000
set_option maxRecDepth 100000
namespace Go.Proofs.YtjchdegapadepaaGreatDoor
open Go.RowKit Pl
open Lib (hid)
def quoName : ByteArray := ⟨#[113, 117, 111, 116, 105, 101, 110, 116]⟩
def QuoStr (s : Lts) (n : Nat) (w : World) (e : Ending) (w' : World) : Prop :=
  ∃ C : Nat -> Int, (Big s n C /\ canon (fl n C) = fl n C) /\ QuoPost s.norm n C w e w'
theorem p2d {p : Addr} {s : Lts} {n : Nat} (h : s.Right) (hn : s.st = (n : Int)) (hn0 : 0 < n) (hb : n * s.es.length <= 100000) {a : Option Addr} {b off c : Nat} {w : World} (hG : GErr 10 p w) (hS : SlAt encE 3 w a b off s.es) :
    Calls Tryz.prog 16 #[.agg #[.int .i64 s.st, .int .i64 s.lb, .int .i64 s.s0, .slice a s.es.length c], .func (.func 17) #[] #[], .bool false] w (QuoStr s n w) := by
 have hst := h.st0
 have hn1 : n <= 1000 := by omega
 have hB0 := ((Below.refl w.heap.size w).alloc (Nat.le_refl _) (Obj.cells #[.int .i64 s.st, .int .i64 s.lb, .int .i64 s.s0, .slice a s.es.length c] 24)).alloc (by simp) (Obj.cells #[.int .i64 0, .int .i64 0, .int .i64 0, .slice none 0 0] 24)
 have hx0 := (((Below.refl _ _).alloc (Nat.le_refl _) (Obj.cells #[.int .i64 0, .int .i64 0, .int .i64 0, .slice none 0 0] 24)).block w.heap.size (by simp)).trans (heap_alloc_new w (Obj.cells #[.int .i64 s.st, .int .i64 s.lb, .int .i64 s.s0, .slice a s.es.length c] 24))
 have hy0 := j0d (w.alloc (Obj.cells #[.int .i64 s.st, .int .i64 s.lb, .int .i64 s.s0, .slice a s.es.length c] 24)) (Obj.cells #[.int .i64 0, .int .i64 0, .int .i64 0, .slice none 0 0] 24) (w.heap.size + 1) (by simp)
 have HCK := hid (q0w h a b off c _ (hG.below hB0) (hS.below hB0 (Nat.le_refl _)))
 have HB0 := hid hB0; have HX0 := hid hx0; have HY0 := hid hy0; have HS := hid hS; have HG := hid hG
 have HR := hid h; have HN := hid hn; have HBB := hid hb
 clear hB0 hx0 hy0 hS hG h hn hb hst
 go_enter Tryz.func16, Tryz.ntmps16
 go_wp2_with fail
 refine HCK.out.mono ?_
 rintro e w1 ⟨rfl, hB1⟩
 have hx1 := (hB1.block w.heap.size (by simp; omega)).trans HX0.out
 have HB1 := hid (HB0.out.trans (hB1.mono (by simp; omega))); have HX1 := hid hx1
 have HY1 := hid ((hB1.block (w.heap.size + 1) (by simp)).trans HY0.out)
 obtain ⟨x0, x1, x2, x3, x4⟩ := u0g hx1
 have HCL := hid (q0x (c := c) HR.out HN.out (HG.out.below HB1.out) (HS.out.below HB1.out (Nat.le_refl _)))
 clear hB1 hx1 HB0 HX0 HY0 HCK
 go_wp2_with fail
 refine HCL.out.mono ?_
 unfold StrClasses
 rintro e w2 ⟨inn, ca, cc, hbig, rfl, hown, hB2⟩
 have hcl : (canon (flN n inn)).length = n := by rw [k0l, k0j]
 have hos : SlAt encI 1 w2 ca (blkOf ca) 0 (canon (flN n inn)) := ((Rws.nil (Below.refl w1.heap.size w1)).add hB2 hown).slO (i := 0) rfl k0v hcl.symm
 have hclb : clB (n : Int) (canon (flN n inn)) = true := by unfold clB; rw [k0t, hcl]; simp
 have hwf := x2j (l := flN n inn) (by rw [k0j]; omega)
 rw [canon9] at hos hclb hwf
 have hx2 := (hB2.block w.heap.size x4).trans HX1.out
 have hb2 := HB1.out.trans (hB2.mono HB1.out.size)
 have HY2 := hid ((hB2.block (w.heap.size + 1) (Array.getElem?_eq_some_iff.1 HY1.out).1).trans HY1.out)
 have HOF := hid (p2a (c := c) (cc := cc) HR.out HN.out hn0 (HG.out.below hb2) (HS.out.below hb2 (Nat.le_refl _)) hos hclb hwf HBB.out)
 have HB2 := hid hb2; have HBIG : Hid (Big s n (cl9 n inn) /\ canon (fl n (cl9 n inn)) = fl n (cl9 n inn)) := hid ⟨cl9_big hbig, by unfold cl9; rw [<- j0u, k0t]⟩
 clear x0 x1 x2 x3 x4
 obtain ⟨x0, x1, x2, x3, x4⟩ := u0g hx2
 clear hB2 hx2 hb2 hos hclb hwf hcl hown hbig HB1 HX1 HY1 HCL
 go_wp2_with fail
 refine HOF.out.mono ?_
 unfold QuoPost
 rintro e w3 ⟨ea, ta, eb, ec, tb, tc, rfl, hes, hto, heb, htb, hB3⟩
 have hy3 := (hB3.block (w.heap.size + 1) (Array.getElem?_eq_some_iff.1 HY2.out).1).trans HY2.out
 have hb3 := HB2.out.trans (hB3.mono HB2.out.size)
 obtain ⟨Q, hQ⟩ : ∃ Q, Q = quoS s.norm (fl n (cl9 n inn)) := ⟨_, rfl⟩
 rw [<- hQ] at hes heb ⊢
 obtain ⟨T, hT⟩ : ∃ T, T = fl n (fun j => toI (quoD s.norm (fl n (cl9 n inn))) (cl9 n inn j)) := ⟨_, rfl⟩
 rw [<- hT] at hto
 have HQ := hid hQ; have HT := hid hT; have HES := hid hes; have HTO := hid hto; have HB3 := hid hb3; have HY3 := hid hy3
 obtain ⟨y0, y1, y2, y3, y4⟩ := u0g hy3
 have yf0 : w3.frozen? ⟨w.heap.size + 1, 0, none⟩ = false := by simp [World.frozen?, hy3]
 have yf1 : w3.frozen? ⟨w.heap.size + 1, 1, none⟩ = false := by simp [World.frozen?, hy3]
 have yf2 : w3.frozen? ⟨w.heap.size + 1, 2, none⟩ = false := by simp [World.frozen?, hy3]
 have yf3 : w3.frozen? ⟨w.heap.size + 1, 3, none⟩ = false := by simp [World.frozen?, hy3]
 have hw2 : w.heap.size + 1 < w2.heap.size := (Array.getElem?_eq_some_iff.1 HY2.out).1
 clear hQ hT hes hto hB3 hb3 hy3 HOF HY2 HB2 x0 x1 x2 x3 x4
 go_wp2_with fail
 have hEB : 0 < Q.es.length -> eb ≠ w.heap.size + 1 := fun h => by have := heb h; omega
 have hTB : 0 < T.length -> tb ≠ w.heap.size + 1 := fun h => by have := htb hn0; omega
 refine bodyPost_ret (v := .tuple #[.agg #[.int .i64 Q.st, .int .i64 Q.lb, .int .i64 Q.s0, .slice ea Q.es.length ec], .slice ta n tc, .nilIface]) (by simp [results, Tryz.results16, go_sem, y0, y1, y2, y3]) rfl ⟨cl9 n inn, HBIG.out, ea, ta, eb, ec, tb, tc, by rw [<- HQ.out], ?_, ?_, fun h => ?_, fun h => ?_, ?_⟩
 · rw [<- HQ.out]
   exact (((HES.out.setOther hEB _).setOther hEB _).setOther hEB _).setOther hEB _
 · rw [<- HT.out]
   exact (((HTO.out.setOther hTB _).setOther hTB _).setOther hTB _).setOther hTB _
 · rw [<- HQ.out] at h; have := heb h; omega
 · have := htb h; omega
 · exact (((HB3.out.setCell (by show w.heap.size <= w.heap.size + 1; omega) _).setCell (by show w.heap.size <= w.heap.size + 1; omega) _).setCell (by show w.heap.size <= w.heap.size + 1; omega) _).setCell (by show w.heap.size <= w.heap.size + 1; omega) _
theorem x0i {p : Addr} {s : Lts} {n : Nat} (h : s.Right) (hn : s.st = (n : Int)) (hn0 : 0 < n) (hb : n * s.es.length <= 100000) {a : Option Addr} {b off c : Nat} {w : World} (hG : GErr 10 p w) (hS : SlAt encE 3 w a b off s.es) :
    Calls Tryz.prog 6 #[.agg #[.int .i64 s.st, .int .i64 s.lb, .int .i64 s.s0, .slice a s.es.length c]] w (QuoStr s n w) := by
 have hB0 := ((Below.refl w.heap.size w).alloc (Nat.le_refl _) (Obj.cells #[.int .i64 s.st, .int .i64 s.lb, .int .i64 s.s0, .slice a s.es.length c] 24)).alloc (by simp) (Obj.cells #[.int .i64 0, .int .i64 0, .int .i64 0, .slice none 0 0] 24)
 have hy0 := j0d (w.alloc (Obj.cells #[.int .i64 s.st, .int .i64 s.lb, .int .i64 s.s0, .slice a s.es.length c] 24)) (Obj.cells #[.int .i64 0, .int .i64 0, .int .i64 0, .slice none 0 0] 24) (w.heap.size + 1) (by simp)
 have HBY := hid (p2d (c := c) h hn hn0 hb (hG.below hB0) (hS.below hB0 (Nat.le_refl _)))
 have HB0 := hid hB0; have HY0 := hid hy0
 clear hB0 hy0 hS hG h hn hb
 go_enter Tryz.func6, Tryz.ntmps6
 go_wp2_with fail
 refine HBY.out.mono ?_
 unfold QuoStr QuoPost
 rintro e w3 ⟨C, hbig, ea, ta, eb, ec, tb, tc, rfl, hes, hto, heb, htb, hB3⟩
 have hy3 := (hB3.block (w.heap.size + 1) (by simp)).trans HY0.out
 have hb3 := HB0.out.trans (hB3.mono (by simp; omega))
 simp only [World.size_alloc] at heb htb
 obtain ⟨Q, hQ⟩ : ∃ Q, Q = quoS s.norm (fl n C) := ⟨_, rfl⟩
 rw [<- hQ] at hes heb ⊢
 obtain ⟨T, hT⟩ : ∃ T, T = fl n (fun j => toI (quoD s.norm (fl n C)) (C j)) := ⟨_, rfl⟩
 rw [<- hT] at hto
 have HQ := hid hQ; have HT := hid hT; have HES := hid hes; have HTO := hid hto; have HB3 := hid hb3; have HY3 := hid hy3; have HBIG := hid hbig
 obtain ⟨y0, y1, y2, y3, y4⟩ := u0g hy3
 have yf0 : w3.frozen? ⟨w.heap.size + 1, 0, none⟩ = false := by simp [World.frozen?, hy3]
 have yf1 : w3.frozen? ⟨w.heap.size + 1, 1, none⟩ = false := by simp [World.frozen?, hy3]
 have yf2 : w3.frozen? ⟨w.heap.size + 1, 2, none⟩ = false := by simp [World.frozen?, hy3]
 have yf3 : w3.frozen? ⟨w.heap.size + 1, 3, none⟩ = false := by simp [World.frozen?, hy3]
 clear hQ hT hes hto hB3 hb3 hy3 HBY HY0 HB0 hbig
 go_wp2_with fail
 have hEB : 0 < Q.es.length -> eb ≠ w.heap.size + 1 := fun h => by have := heb h; omega
 have hTB : 0 < T.length -> tb ≠ w.heap.size + 1 := fun h => by have := htb hn0; omega
 refine bodyPost_ret (v := .tuple #[.agg #[.int .i64 Q.st, .int .i64 Q.lb, .int .i64 Q.s0, .slice ea Q.es.length ec], .slice ta n tc, .nilIface]) (by simp [results, Tryz.results6, go_sem, y0, y1, y2, y3]) rfl ⟨C, HBIG.out, ea, ta, eb, ec, tb, tc, by rw [<- HQ.out], ?_, ?_, fun h => ?_, fun h => ?_, ?_⟩
 · rw [<- HQ.out]
   exact (((HES.out.setOther hEB _).setOther hEB _).setOther hEB _).setOther hEB _
 · rw [<- HT.out]
   exact (((HTO.out.setOther hTB _).setOther hTB _).setOther hTB _).setOther hTB _
 · rw [<- HQ.out] at h; have := heb h; omega
 · have := htb h; omega
 · exact (((HB3.out.setCell (by show w.heap.size <= w.heap.size + 1; omega) _).setCell (by show w.heap.size <= w.heap.size + 1; omega) _).setCell (by show w.heap.size <= w.heap.size + 1; omega) _).setCell (by show w.heap.size <= w.heap.size + 1; omega) _
end Go.Proofs.YtjchdegapadepaaGreatDoor
namespace Go.Proofs.YtjchdegapadepaaGreatDoor
open Go.RowKit Pl
def UniPost (s t : Lts) (w : World) (e : Ending) (w' : World) : Prop :=
  ∃ (ea : Option Addr) (eb ec : Nat), e = .returned (.tuple #[.agg #[.int .i64 (uniS s t).st, .int .i64 (uniS s t).lb, .int .i64 (uniS s t).s0, .slice ea (uniS s t).es.length ec], .int .i64 s.st, .nilIface]) /\
    SlAt encE 3 w' ea eb 0 (uniS s t).es /\ Below w.heap.size w w'
def uniK (s t : Lts) (j : Nat) : List E := s.es ++ (t.es.take j).map (shE s.st)
end Go.Proofs.YtjchdegapadepaaGreatDoor
namespace Go.Proofs.YtjchdegapadepaaGreatDoor
open Go.RowKit Pl
def SamePost (s : Lts) (n z : Nat) (t : Lts) (m y : Nat) (w : World) (e : Ending) (w' : World) : Prop :=
  ∃ r, e = .returned (.tuple #[.bool r, .nilIface]) /\ (r = true ↔ Eqv s n z t m y) /\ Below w.heap.size w w'
def QuoNo (w : World) (e : Ending) (w' : World) : Prop :=
  ∃ fb : Nat, e = .returned (.tuple #[.agg #[.int .i64 0, .int .i64 0, .int .i64 0, .slice none 0 0], .slice none 0 0, .iface 48 (.pointer (some ⟨fb, 0, none⟩))]) /\ Below w.heap.size w w'
end Go.Proofs.YtjchdegapadepaaGreatDoor
namespace Go.Proofs.YtjchdegapadepaaGreatDoor
open Go.RowKit Pl
namespace Pl
def al14 : Lts := ⟨3, 2, 0, [(0, 1, 1), (0, 1, 2)]⟩
theorem j2l : al14.Right := ⟨by unfold HeadBad al14; simp, by decide⟩
theorem v0s : al14.norm = al14 := by
 unfold Lts.norm
 have : nf ltE al14.es = al14.es := by decide
 rw [this]
theorem al14_big {C : Nat -> Int} (h : Big al14 3 C) : C 0 ≠ C 1 /\ C 1 = C 2 := by
 have hs : ∀ p l t, stp al14 p l t ↔ l = 1 /\ p = 0 /\ (t = 1 ∨ t = 2) := fun p l t => by (
 unfold stp al14
 simp only [List.mem_cons, Prod.mk.injEq, List.not_mem_nil, or_false]
 omega)
 constructor
 · intro e
   obtain ⟨u, _, h1, _⟩ := (h.bis 0 1 (by omega) (by omega) e).1 1 1 (by omega) ((hs _ _ _).2 (by omega))
   rw [hs] at h1; omega
 · (
 exact h.all (fun p q => p = q ∨ (p = 1 /\ q = 2) ∨ (p = 2 /\ q = 1)) (fun p q hp hq hr => by (
 refine ⟨fun l t ht hst => ?_, fun l t ht hst => ?_⟩
 · rw [hs] at hst
   rcases hr with rfl | ⟨rfl, rfl⟩ | ⟨rfl, rfl⟩
   · exact ⟨t, ht, (hs _ _ _).2 hst, .inl rfl⟩
   · omega
   · omega
 · rw [hs] at hst
   rcases hr with rfl | ⟨rfl, rfl⟩ | ⟨rfl, rfl⟩
   · exact ⟨t, ht, (hs _ _ _).2 hst, .inl rfl⟩
   · omega
   · omega)) 1 2 (by omega) (by omega) (.inr (.inl ⟨rfl, rfl⟩)))
theorem j1d : reachL al14 = [0, 1, 2] := by
 have h0 : Rch al14 0 := Rch.start al14
 have h1 : Rch al14 1 := h0.step (l := 1) (by decide)
 have h2 : Rch al14 2 := h0.step (l := 1) (by decide)
 unfold reachL
 show List.filter _ [(0 : Int), 1, 2] = _
 simp [h0, h1, h2]
theorem k1w {C : Nat -> Int} (h : Big al14 3 C) : quoS al14 (fl 3 C) = ⟨2, 2, 0, [(0, 1, 1)]⟩ /\ fl 3 (fun j => toI (quoD al14 (fl 3 C)) (C j)) = [0, 1, 1] := by
 obtain ⟨h1, h2⟩ := al14_big h
 have a0 : atL (fl 3 C) 0 = C 0 := y1t (n := 3) (f := C) (t := 0) (by omega)
 have a1 : atL (fl 3 C) 1 = C 1 := y1t (n := 3) (f := C) (t := 1) (by omega)
 have a2 : atL (fl 3 C) 2 = C 2 := y1t (n := 3) (f := C) (t := 2) (by omega)
 have hd : quoD al14 (fl 3 C) = [C 0, C 1] := by (
 unfold quoD clsL
 rw [j1d]
 simp only [List.map_cons, List.map_nil, a0, a1, a2, <- h2]
 have e : ([C 0, C 1, C 1] : List Int) = [] ++ [C 0] ++ [C 1] ++ [C 1] := rfl
 rw [e, j0i, j0i, j0i]
 unfold addN
 simp [dist, Ne.symm h1])
 have t0 : toI [C 0, C 1] (C 0) = 0 := by unfold toI; simp
 have t1 : toI [C 0, C 1] (C 1) = 1 := by (
 have e : (C 0 == C 1) = false := by simp [h1]
 unfold toI
 simp [List.idxOf_cons, e])
 have o0 : al14.outs 0 = [(1, 1), (1, 2)] := by decide
 have o1 : al14.outs 1 = [] := by decide
 have o2 : al14.outs 2 = [] := by decide
 have he : quoE al14 (fl 3 C) [C 0, C 1] [0, 1, 2] = [(0, 1, 1), (0, 1, 1)] := by
   unfold quoE
   simp [o0, o1, o2, a0, a1, a2, <- h2, t0, t1]
 constructor
 · (
 unfold quoS
 rw [hd, j1d, he]
 have : nf ltE [((0 : Int), (1 : Int), (1 : Int)), (0, 1, 1)] = [(0, 1, 1)] := by decide
 rw [this]
 have : al14.s0 = 0 := rfl
 rw [this, a0, t0]
 rfl)
 · rw [hd]
   unfold fl
   show [toI [C 0, C 1] (C 0), toI [C 0, C 1] (C 1), toI [C 0, C 1] (C 2)] = _
   rw [<- h2, t0, t1]
end Pl
theorem v0r {w : World} {p : Addr} (hG : GErr 10 p w) :
    Calls Tryz.prog 5 #[] w fun e w' => e = .returned (.bool true) /\ Below w.heap.size w w' := by
 have HG := Lib.hid hG
 clear hG
 go_enter Tryz.func5, Tryz.ntmps5
 go_wp2_with fail
 have hS : SlAt encE 3 (w.alloc (.cells #[.int .i64 0, .int .i64 1, .int .i64 1, .int .i64 0, .int .i64 1, .int .i64 2] 42)) (some ⟨w.heap.size, 0, none⟩) w.heap.size 0 al14.es := by
   have h := ((Rws.nil (Below.refl w.heap.size w)).addLit #[.int .i64 0, .int .i64 1, .int .i64 1, .int .i64 0, .int .i64 1, .int .i64 2] 42 (k := 3) (n := 2) (by decide) rfl).slO (enc := encE) (i := 0) (ys := al14.es) rfl p0n rfl
   exact h
 have hB0 := ((Below.refl w.heap.size w).alloc (Nat.le_refl _) (.cells #[.int .i64 0, .int .i64 1, .int .i64 1, .int .i64 0, .int .i64 1, .int .i64 2] 42)).alloc (by simp) (.cells #[.int .i64 3, .int .i64 2, .int .i64 0, .slice (some ⟨w.heap.size, 0, none⟩) 2 2] 24)
 have hS1 := hS.below ((Below.refl _ _).alloc (Nat.le_refl _) (.cells #[.int .i64 3, .int .i64 2, .int .i64 0, .slice (some ⟨w.heap.size, 0, none⟩) 2 2] 24)) (Nat.le_refl _)
 have HQ := Lib.hid (x0i (s := al14) (n := 3) (c := 2) j2l rfl (by omega) (by decide) (HG.out.below hB0) hS1)
 have HB0 := Lib.hid hB0
 clear hS hS1 hB0 HG
 refine HQ.out.mono ?_
 unfold QuoStr QuoPost
 rintro e w1 ⟨C, ⟨hbig, hz9⟩, ea, ta, eb, ec, tb, tc, rfl, hes, hto, heb, htb, hB1⟩
 clear hz9
 rw [v0s, (k1w hbig).1] at hes
 rw [v0s, (k1w hbig).2] at hto
 rw [v0s, (k1w hbig).1]
 obtain rfl := hto.ad (by decide)
 have l3 := hto.ci (i := 2) (x := 1) rfl
 have ll := hto.lt (by decide)
 simp only [Nat.zero_add] at l3
 have HB1 := Lib.hid ((HB0.out.trans (hB1.mono (by simp; omega))).alloc (by have := hB1.size; simp at this; omega) (.cells #[.int .i64 2, .int .i64 2, .int .i64 0, .slice ea 1 ec] 24))
 clear hbig hes hto heb htb hB1 HQ HB0
 go_wp2_with fail
 go_ret
 exact ⟨rfl, HB1.out⟩
end Go.Proofs.YtjchdegapadepaaGreatDoor
namespace Go.Proofs.YtjchdegapadepaaGreatDoor
namespace Pl
section
variable {κ : Type} [DecidableEq κ] {key : Nat -> κ} {n : Nat}
def rep (key : Nat -> κ) (i : Nat) : Nat := ((List.range (i + 1)).find? (fun j => decide (key j = key i))).getD i
theorem j1i (key : Nat -> κ) (i : Nat) : (List.range (i + 1)).find? (fun j => decide (key j = key i)) = some (rep key i) := by
 unfold rep
 cases h : (List.range (i + 1)).find? (fun j => decide (key j = key i)) with
 | none =>
   have := List.find?_eq_none.1 h i (List.mem_range.2 (by omega))
   simp at this
 | some j => rfl
theorem k2u (key : Nat -> κ) (i : Nat) : rep key i <= i := by
 have := List.mem_range.1 (List.mem_of_find?_eq_some (j1i key i)); omega
theorem x0y (key : Nat -> κ) (i : Nat) : key (rep key i) = key i := by
 have := List.find?_some (j1i key i)
 simpa using this
theorem k2t {i j : Nat} (h : key j = key i) : rep key i <= j := by
 rcases Nat.lt_or_ge i j with h1 | h1
 · exact Nat.le_trans (k2u key i) (by omega)
 · refine Nat.le_of_not_lt (fun hlt => ?_)
   have h2 := j1i key i
   rw [List.find?_range_eq_some] at h2
   have := h2.2.2 j hlt
   simp [h] at this
theorem j1j {i j : Nat} : rep key i = rep key j ↔ key i = key j := by
 constructor
 · intro h
   have h1 := x0y key i
   have h2 := x0y key j
   rw [h] at h1
   exact h1.symm.trans h2
 · intro h
   exact Nat.le_antisymm (k2t ((x0y key j).trans h.symm)) (k2t ((x0y key i).trans h))
theorem k2r (i : Nat) : rep key (rep key i) = rep key i := j1j.2 (x0y key i)
def repL (key : Nat -> κ) (n : Nat) : List Int := fl n (fun i => (rep key i : Int))
theorem k0u {i : Nat} (h : i < n) : (repL key n)[i]? = some (rep key i : Int) := j0h _ h
theorem k0f {i : Nat} (h : i <= n) : (repL key n).take i = repL key i := by
 apply List.ext_getElem?
 intro j
 rw [List.getElem?_take]
 by_cases hj : j < i
 · rw [if_pos hj, k0u (by omega), k0u hj]
 · rw [if_neg hj, List.getElem?_eq_none (by unfold repL; rw [j0g]; omega)]
theorem j1y {i : Nat} {x : Int} : x ∈ dist (repL key i) ↔ ∃ q, q < i /\ x = (q : Int) /\ rep key q = q := by
 unfold repL
 rw [k0n]
 constructor
 · rintro ⟨p, hp, rfl⟩
   exact ⟨rep key p, Nat.lt_of_le_of_lt (k2u key p) hp, rfl, k2r p⟩
 · rintro ⟨q, hq, rfl, h⟩
   exact ⟨q, hq, by rw [h]⟩
theorem p1l {i k q : Nat} (hk : (dist (repL key i))[k]? = some (q : Int)) (h : key q = key i) : (rep key i : Int) ∈ dist (repL key i) /\ (dist (repL key i)).idxOf (rep key i : Int) = k := by
 have hm := List.mem_of_getElem? hk
 obtain ⟨q', hq, e, hr⟩ := j1y.1 hm
 obtain rfl : q = q' := by omega
 have h1 : rep key i = q := by rw [<- hr]; exact j1j.2 h.symm
 rw [h1]
 refine ⟨hm, ?_⟩
 obtain ⟨h2, h3⟩ := List.getElem?_eq_some_iff.1 hk
 rw [<- h3]
 exact (p0h (repL key i)).idxOf_getElem k h2
theorem k2s {i : Nat} (h : ∀ k q : Nat, (dist (repL key i))[k]? = some (q : Int) -> key q ≠ key i) : rep key i = i /\ (rep key i : Int) ∉ dist (repL key i) := by
 have hn : (rep key i : Int) ∉ dist (repL key i) := fun hm => by
   obtain ⟨k, hk⟩ := List.getElem?_of_mem hm
   exact h k _ hk (x0y key i)
 refine ⟨?_, hn⟩
 rcases Nat.eq_or_lt_of_le (k2u key i) with e | e
 · exact e
 · exact absurd (j1y.2 ⟨rep key i, e, rfl, k2r i⟩) hn
end
end Pl
end Go.Proofs.YtjchdegapadepaaGreatDoor
namespace Go.Proofs.YtjchdegapadepaaGreatDoor
namespace Pl
def inertS (s : Lts) (C : Nat -> Int) : Lts := ⟨s.st, s.lb, s.s0, s.es.filter (fun x => decide (x.2.1 = 0) && decide (C x.2.2.toNat = C x.1.toNat))⟩
def shareE (C : Nat -> Int) (p q : Nat) (l : List S) : List E := (l.filter (fun x => !(decide (x.1 = 0) && decide (C x.2.toNat = C q)))).map (fun x => ((p : Int), x.1, C x.2.toNat))
def sigE (s : Lts) (C : Nat -> Int) (G : Nat -> Bool) (p n : Nat) : List E := (List.range n).flatMap (fun q => if G q then shareE C p q (s.outs (q : Int)) else [])
def sigR (s : Lts) (C : Nat -> Int) (G : Nat -> Bool) (p n : Nat) : List S := (nf ltE (sigE s C G p n)).map (fun x => (x.2.1, x.2.2))
section
variable {s : Lts} {C : Nat -> Int} {n p q : Nat}
theorem y0o (h : s.Right) : (inertS s C).Right := by
 refine ⟨?_, fun x hx => h.edges x (List.mem_filter.1 hx).1⟩
 have h1 := h.head
 have := List.length_filter_le (fun x : E => decide (x.2.1 = 0) && decide (C x.2.2.toNat = C x.1.toNat)) s.es
 unfold HeadBad inertS at *
 simp only
 omega
theorem u1o (h : Srt ltE s.es) : Srt ltE (inertS s C).es := List.Pairwise.sublist List.filter_sublist h
theorem u0o {x y : Nat} : tau (inertS s C) x y ↔ stp s x 0 y /\ C y = C x := by
 unfold tau inertS stp
 simp only [List.mem_filter, Bool.and_eq_true, decide_eq_true_eq, Int.toNat_natCast]
 constructor
 · rintro ⟨h1, _, h2⟩; exact ⟨h1, h2⟩
 · rintro ⟨h1, h2⟩; exact ⟨h1, trivial, h2⟩
theorem y1i (i : Nat) : (inertS s C).outs (i : Int) = (s.outs (i : Int)).filter (fun y => decide (y.1 = 0) && decide (C y.2.toNat = C i)) := by
 unfold Lts.outs inertS
 simp only
 rw [List.filter_map, List.filter_filter, List.filter_filter]
 congr 1
 apply List.filter_congr
 intro x _
 by_cases e : x.1 = (i : Int)
 · simp [e]
 · have e2 : (x.1 == (i : Int)) = false := by simp [e]
   rw [e2, Bool.false_and, Bool.and_false]
theorem j2t (h : TR (inertS s C) p q) : Via s (fun x => C x = C p) p q := by
 induction h with
 | refl => exact .refl rfl
 | tail _ h2 ih =>
   obtain ⟨h3, h4⟩ := u0o.1 h2
   exact .tail ih h3 (by rw [h4, ih.last])
theorem u1n (h : Via s (fun x => C x = C p) p q) : TR (inertS s C) p q := by
 induction h with
 | refl _ => exact .refl
 | tail h1 h2 h3 ih => exact ih.trans (TR.one (u0o.2 ⟨h2, by rw [h3, h1.last]⟩))
theorem j1x {G : Nat -> Bool} {x : E} : x ∈ sigE s C G p n ↔ ∃ q, q < n /\ G q = true /\ ∃ y ∈ s.outs (q : Int), ¬ (y.1 = 0 /\ C y.2.toNat = C q) /\ x = ((p : Int), y.1, C y.2.toNat) := by
 unfold sigE
 simp only [List.mem_flatMap, List.mem_range]
 constructor
 · (
 rintro ⟨q, hq, hx⟩
 by_cases hG : G q = true
 · (
 rw [if_pos hG] at hx
 unfold shareE at hx
 simp only [List.mem_map, List.mem_filter] at hx
 obtain ⟨y, ⟨h1, h2⟩, rfl⟩ := hx
 refine ⟨q, hq, hG, y, h1, fun e => ?_, rfl⟩
 simp [e.1, e.2] at h2)
 · rw [if_neg hG] at hx; simp at hx)
 · (
 rintro ⟨q, hq, hG, y, h1, h2, rfl⟩
 refine ⟨q, hq, ?_⟩
 rw [if_pos hG]
 unfold shareE
 simp only [List.mem_map, List.mem_filter]
 refine ⟨y, ⟨h1, ?_⟩, rfl⟩
 rw [Bool.not_eq_true', Bool.eq_false_iff]
 intro e
 exact h2 (by simpa using e))
theorem sigR_ok (hr : s.Right) (hn : s.st = (n : Int)) {G : Nat -> Bool} (hG : ∀ q, q < n -> (G q = true ↔ TR (inertS s C) p q)) : SigOk s C p (sigR s C G p n) := by
 have hfirst : ∀ x ∈ nf ltE (sigE s C G p n), x.1 = (p : Int) := fun x hx => by
   obtain ⟨_, _, _, _, _, _, rfl⟩ := j1x.1 ((j0t p0p x _).1 hx); rfl
 refine ⟨?_, fun l e => ?_⟩
 · (
 unfold sigR Srt
 rw [List.pairwise_map]
 refine List.Pairwise.imp_of_mem ?_ (k0r p0p (sigE s C G p n))
 intro a b ha hb hab
 have h1 := hfirst a ha; have h2 := hfirst b hb
 rw [p0b] at hab
 rw [k0q]
 simp only
 omega)
 · (
 unfold sigR
 rw [List.mem_map]
 constructor
 · (
 rintro ⟨x, hx, he⟩
 obtain ⟨q, hq, h1, y, h2, h3, rfl⟩ := j1x.1 ((j0t p0p x _).1 hx)
 simp only [Prod.mk.injEq] at he
 obtain ⟨rfl, rfl⟩ := he
 have h4 := j0e.1 (hr.edges _ (j0j.1 h2))
 simp only at h4
 obtain ⟨l, t⟩ := y
 obtain ⟨t, rfl⟩ := Int.eq_ofNat_of_zero_le h4.2.2.2.2.1
 simp only [Int.toNat_natCast] at h2 h3 ⊢
 exact Sg.via (j2t ((hG q hq).1 h1)) (.here (j0j.1 h2) h3))
 · (
 intro hs
 obtain ⟨q, t, h1, h2, h3, h4⟩ := hs.way
 have hq := (p0r hr hn h2).1
 refine ⟨((p : Int), l, e), (j0t p0p _ _).2 (j1x.2 ⟨q, hq, (hG q hq).2 (u1n h1), (l, (t : Int)), j0j.2 h2, ?_, ?_⟩), rfl⟩
 · simp only [Int.toNat_natCast]
   rw [h1.last]
   exact h4
 · simp only [Int.toNat_natCast, h3]))
end
theorem next_rep {s : Lts} {n : Nat} {C : Nat -> Int} {F : Nat -> List S} (hF : ∀ p, p < n -> SigOk s C p (F p)) : NextB s n C (clf n (fun i => (rep (fun p => (C p, F p)) i : Int))) := fun p q hp hq => by
  rw [v0k (f := fun i => (rep (fun p => (C p, F p)) i : Int)) hp hq]
  simp only [Int.ofNat_inj, j1j, Prod.mk.injEq]
  exact and_congr_right (fun _ => (hF p hp).eq (hF q hq))
end Pl
end Go.Proofs.YtjchdegapadepaaGreatDoor

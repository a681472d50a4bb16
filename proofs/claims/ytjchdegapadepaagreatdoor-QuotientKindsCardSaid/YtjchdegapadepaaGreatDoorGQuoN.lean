/-
  Lemmas.
-/
import Derived.Test.YtjchdegapadepaaGreatDoorQuoM
import Derived.Test.YtjchdegapadepaaGreatDoorGQuoB
import Derived.Test.YtjchdegapadepaaGreatDoorGBrD
import Derived.Test.YtjchdegapadepaaGreatDoorGBrP
import Derived.Test.YtjchdegapadepaaGreatDoorGPl6
import Derived.Test.YtjchdegapadepaaGreatDoorGReach
set_option maxHeartbeats 8000000
set_option maxRecDepth 100000
namespace Go.Proofs.YtjchdegapadepaaGreatDoor
open Go.RowKit Pl
open Lib (hid)
def QuoBra (s : Lts) (n : Nat) (w : World) (e : Ending) (w' : World) : Prop :=
  ∃ C : Nat -> Int, (BrBig s n C /\ canon (fl n C) = fl n C) /\ QuoPostI s.norm n C w e w'
theorem u1b {p : Addr} {s : Lts} {n : Nat} (h : s.Right) (hn : s.st = (n : Int)) (hn0 : 0 < n) (hb : n * s.es.length <= 100000) {a : Option Addr} {b off c : Nat} {w : World} (hG : GErr 10 p w) (htab : Lib.TabIs Tryz.prog w "internal/strconv.uint64pow10" .u64 Lib.pow10Tab) (hel : s.es.length <= 900) (hS : SlAt encE 3 w a b off s.es) :
    Calls Tryz.prog 16 #[.agg #[.int .i64 s.st, .int .i64 s.lb, .int .i64 s.s0, .slice a s.es.length c], .func (.func 18) #[] #[], .bool true] w (QuoBra s n w) := by
 have hst := h.st0
 have hn1 : n <= 1000 := by omega
 have hB0 := ((Below.refl w.heap.size w).alloc (Nat.le_refl _) (Obj.cells #[.int .i64 s.st, .int .i64 s.lb, .int .i64 s.s0, .slice a s.es.length c] 24)).alloc (by simp) (Obj.cells #[.int .i64 0, .int .i64 0, .int .i64 0, .slice none 0 0] 24)
 have hx0 := (((Below.refl _ _).alloc (Nat.le_refl _) (Obj.cells #[.int .i64 0, .int .i64 0, .int .i64 0, .slice none 0 0] 24)).block w.heap.size (by simp)).trans (heap_alloc_new w (Obj.cells #[.int .i64 s.st, .int .i64 s.lb, .int .i64 s.s0, .slice a s.es.length c] 24))
 have hy0 := j0d (w.alloc (Obj.cells #[.int .i64 s.st, .int .i64 s.lb, .int .i64 s.s0, .slice a s.es.length c] 24)) (Obj.cells #[.int .i64 0, .int .i64 0, .int .i64 0, .slice none 0 0] 24) (w.heap.size + 1) (by simp)
 have HCK := hid (q0w h a b off c _ (hG.below hB0) (hS.below hB0 (Nat.le_refl _)))
 have HB0 := hid hB0; have HX0 := hid hx0; have HY0 := hid hy0; have HS := hid hS; have HG := hid hG; have HT := hid (Lib.tabBelow_of_tabIs htab); have HEL9 := hid hel
 have HR := hid h; have HN := hid hn; have HBB := hid hb
 clear hB0 hx0 hy0 hS hG h hn hb hst htab hel
 go_enter Tryz.func16, Tryz.ntmps16
 go_wp2_with fail
 refine HCK.out.mono ?_
 rintro e w1 ⟨rfl, hB1⟩
 have hx1 := (hB1.block w.heap.size (by simp; omega)).trans HX0.out
 have HB1 := hid (HB0.out.trans (hB1.mono (by simp; omega))); have HX1 := hid hx1
 have HY1 := hid ((hB1.block (w.heap.size + 1) (by simp)).trans HY0.out)
 obtain ⟨x0, x1, x2, x3, x4⟩ := u0g hx1
 have HCL := hid (x0s (c := c) HR.out HN.out HEL9.out (HG.out.below HB1.out) (HT.out _ HB1.out) (HS.out.below HB1.out (Nat.le_refl _)))
 clear hB1 hx1 HB0 HX0 HY0 HCK
 go_wp2_with fail
 refine HCL.out.mono ?_
 unfold BrPost
 rintro e w2 ⟨R, ca, cb, cc, hres, rfl, hown, hos, hB2⟩
 obtain ⟨C, hbig, rfl, hcan, hrng⟩ := hres.big HR.out HN.out
 have hcl : (fl n C).length = n := j0g _ _
 have hclb : clB (n : Int) (fl n C) = true := by unfold clB; rw [hcan, hcl]; simp
 have hwf : ∀ x ∈ fl n C, (Lit.int .i64 x).wf = true := fun x hx => by (
 obtain ⟨j, hj, rfl⟩ := List.mem_map.1 hx
 have h2 := hrng j (List.mem_range.1 hj)
 exact WalkArith.wf_i64 (by omega))
 have hx2 := (hB2.block w.heap.size x4).trans HX1.out
 have hb2 := HB1.out.trans (hB2.mono HB1.out.size)
 have HY2 := hid ((hB2.block (w.heap.size + 1) (Array.getElem?_eq_some_iff.1 HY1.out).1).trans HY1.out)
 have HOF := hid (u1a (c := c) (cc := cc) HR.out HN.out hn0 (HG.out.below hb2) (HS.out.below hb2 (Nat.le_refl _)) hos hclb hwf HBB.out)
 have HB2 := hid hb2; have HBIG : Hid (BrBig s n C /\ canon (fl n C) = fl n C) := hid ⟨hbig, hcan⟩
 clear x0 x1 x2 x3 x4
 obtain ⟨x0, x1, x2, x3, x4⟩ := u0g hx2
 clear hB2 hx2 hb2 hos hclb hwf hcl hown hbig hcan hrng hres HB1 HX1 HY1 HCL
 go_wp2_with fail
 refine HOF.out.mono ?_
 unfold QuoPostI
 rintro e w3 ⟨ea, ta, eb, ec, tb, tc, rfl, hes, hto, heb, htb, hB3⟩
 have hy3 := (hB3.block (w.heap.size + 1) (Array.getElem?_eq_some_iff.1 HY2.out).1).trans HY2.out
 have hb3 := HB2.out.trans (hB3.mono HB2.out.size)
 obtain ⟨Q, hQ⟩ : ∃ Q, Q = quoSI true s.norm (fl n C) := ⟨_, rfl⟩
 rw [<- hQ] at hes heb ⊢
 obtain ⟨T, hT⟩ : ∃ T, T = fl n (fun j => toI (quoD s.norm (fl n C)) (C j)) := ⟨_, rfl⟩
 rw [<- hT] at hto
 have HQ := hid hQ; have HT := hid hT; have HES := hid hes; have HTO := hid hto; have HB3 := hid hb3; have HY3 := hid hy3
 obtain ⟨y0, y1, y2, y3, y4⟩ := u0g hy3
 have yf0 : w3.frozen? ⟨w.heap.size + 1, 0, none⟩ = false := by simp [World.frozen?, hy3]
 have yf1 : w3.frozen? ⟨w.heap.size + 1, 1, none⟩ = false := by simp [World.frozen?, hy3]
 have yf2 : w3.frozen? ⟨w.heap.size + 1, 2, none⟩ = false := by simp [World.frozen?, hy3]
 have yf3 : w3.frozen? ⟨w.heap.size + 1, 3, none⟩ = false := by simp [World.frozen?, hy3]
 have hw2 : w.heap.size + 1 < w2.heap.size := (Array.getElem?_eq_some_iff.1 HY2.out).1
 clear hQ hT hes hto hB3 hb3 hy3 HOF HY2 HB2 x0 x1 x2 x3 x4
 go_wp2_with fail
 have hEB : 0 < Q.es.length -> eb ≠ w.heap.size + 1 := fun h => by have := heb h; omega
 have hTB : 0 < T.length -> tb ≠ w.heap.size + 1 := fun h => by have := htb hn0; omega
 refine bodyPost_ret (v := .tuple #[.agg #[.int .i64 Q.st, .int .i64 Q.lb, .int .i64 Q.s0, .slice ea Q.es.length ec], .slice ta n tc, .nilIface]) (by simp [results, Tryz.results16, go_sem, y0, y1, y2, y3]) rfl ⟨C, HBIG.out, ea, ta, eb, ec, tb, tc, by rw [<- HQ.out], ?_, ?_, fun h => ?_, fun h => ?_, ?_⟩
 · rw [<- HQ.out]
   exact (((HES.out.setOther hEB _).setOther hEB _).setOther hEB _).setOther hEB _
 · rw [<- HT.out]
   exact (((HTO.out.setOther hTB _).setOther hTB _).setOther hTB _).setOther hTB _
 · rw [<- HQ.out] at h; have := heb h; omega
 · have := htb h; omega
 · exact (((HB3.out.setCell (by show w.heap.size <= w.heap.size + 1; omega) _).setCell (by show w.heap.size <= w.heap.size + 1; omega) _).setCell (by show w.heap.size <= w.heap.size + 1; omega) _).setCell (by show w.heap.size <= w.heap.size + 1; omega) _
theorem y0w {p : Addr} {s : Lts} {n : Nat} (h : s.Right) (hn : s.st = (n : Int)) (hn0 : 0 < n) (hb : n * s.es.length <= 100000) {a : Option Addr} {b off c : Nat} {w : World} (hG : GErr 10 p w) (htab : Lib.TabIs Tryz.prog w "internal/strconv.uint64pow10" .u64 Lib.pow10Tab) (hel : s.es.length <= 900) (hS : SlAt encE 3 w a b off s.es) :
    Calls Tryz.prog 7 #[.agg #[.int .i64 s.st, .int .i64 s.lb, .int .i64 s.s0, .slice a s.es.length c]] w (QuoBra s n w) := by
 have hB0 := ((Below.refl w.heap.size w).alloc (Nat.le_refl _) (Obj.cells #[.int .i64 s.st, .int .i64 s.lb, .int .i64 s.s0, .slice a s.es.length c] 24)).alloc (by simp) (Obj.cells #[.int .i64 0, .int .i64 0, .int .i64 0, .slice none 0 0] 24)
 have hy0 := j0d (w.alloc (Obj.cells #[.int .i64 s.st, .int .i64 s.lb, .int .i64 s.s0, .slice a s.es.length c] 24)) (Obj.cells #[.int .i64 0, .int .i64 0, .int .i64 0, .slice none 0 0] 24) (w.heap.size + 1) (by simp)
 have HBY := hid (u1b (c := c) h hn hn0 hb (hG.below hB0) (Lib.tabBelow_of_tabIs htab _ hB0) hel (hS.below hB0 (Nat.le_refl _)))
 have HB0 := hid hB0; have HY0 := hid hy0
 clear hB0 hy0 hS hG h hn hb htab hel
 go_enter Tryz.func7, Tryz.ntmps7
 go_wp2_with fail
 refine HBY.out.mono ?_
 unfold QuoBra QuoPostI
 rintro e w3 ⟨C, hbig, ea, ta, eb, ec, tb, tc, rfl, hes, hto, heb, htb, hB3⟩
 have hy3 := (hB3.block (w.heap.size + 1) (by simp)).trans HY0.out
 have hb3 := HB0.out.trans (hB3.mono (by simp; omega))
 simp only [World.size_alloc] at heb htb
 obtain ⟨Q, hQ⟩ : ∃ Q, Q = quoSI true s.norm (fl n C) := ⟨_, rfl⟩
 rw [<- hQ] at hes heb ⊢
 obtain ⟨T, hT⟩ : ∃ T, T = fl n (fun j => toI (quoD s.norm (fl n C)) (C j)) := ⟨_, rfl⟩
 rw [<- hT] at hto
 have HQ := hid hQ; have HT := hid hT; have HES := hid hes; have HTO := hid hto; have HB3 := hid hb3; have HY3 := hid hy3; have HBIG := hid hbig
 obtain ⟨y0, y1, y2, y3, y4⟩ := u0g hy3
 have yf0 : w3.frozen? ⟨w.heap.size + 1, 0, none⟩ = false := by simp [World.frozen?, hy3]
 have yf1 : w3.frozen? ⟨w.heap.size + 1, 1, none⟩ = false := by simp [World.frozen?, hy3]
 have yf2 : w3.frozen? ⟨w.heap.size + 1, 2, none⟩ = false := by simp [World.frozen?, hy3]
 have yf3 : w3.frozen? ⟨w.heap.size + 1, 3, none⟩ = false := by simp [World.frozen?, hy3]
 clear hQ hT hes hto hB3 hb3 hy3 HBY HY0 HB0 hbig
 go_wp2_with fail
 have hEB : 0 < Q.es.length -> eb ≠ w.heap.size + 1 := fun h => by have := heb h; omega
 have hTB : 0 < T.length -> tb ≠ w.heap.size + 1 := fun h => by have := htb hn0; omega
 refine bodyPost_ret (v := .tuple #[.agg #[.int .i64 Q.st, .int .i64 Q.lb, .int .i64 Q.s0, .slice ea Q.es.length ec], .slice ta n tc, .nilIface]) (by simp [results, Tryz.results7, go_sem, y0, y1, y2, y3]) rfl ⟨C, HBIG.out, ea, ta, eb, ec, tb, tc, by rw [<- HQ.out], ?_, ?_, fun h => ?_, fun h => ?_, ?_⟩
 · rw [<- HQ.out]
   exact (((HES.out.setOther hEB _).setOther hEB _).setOther hEB _).setOther hEB _
 · rw [<- HT.out]
   exact (((HTO.out.setOther hTB _).setOther hTB _).setOther hTB _).setOther hTB _
 · rw [<- HQ.out] at h; have := heb h; omega
 · have := htb h; omega
 · exact (((HB3.out.setCell (by show w.heap.size <= w.heap.size + 1; omega) _).setCell (by show w.heap.size <= w.heap.size + 1; omega) _).setCell (by show w.heap.size <= w.heap.size + 1; omega) _).setCell (by show w.heap.size <= w.heap.size + 1; omega) _
end Go.Proofs.YtjchdegapadepaaGreatDoor
namespace Go.Proofs.YtjchdegapadepaaGreatDoor
open Go.RowKit Pl
section
variable {s : Lts} {n : Nat} {C : Nat -> Int}
end
end Go.Proofs.YtjchdegapadepaaGreatDoor
namespace Go.Proofs.YtjchdegapadepaaGreatDoor
open Go.RowKit Pl
section
variable {s : Lts} {n : Nat} {C : Nat -> Int}
/-! all states are reachable -/
end
end Go.Proofs.YtjchdegapadepaaGreatDoor
namespace Go.Proofs.YtjchdegapadepaaGreatDoor
open Go.RowKit Pl
namespace Pl
theorem Via.stepsW {s t : Lts} (hst : ∀ a l b, stp s a l b -> stp t a l b) {X : Nat -> Prop} {p q : Nat} (h : Via s X p q) : Via t X p q := by
 induction h with
 | refl h => exact .refl h
 | tail _ h1 h2 ih => exact .tail ih (hst _ _ _ h1) h2
theorem Sg.stepsW {s t : Lts} (hst : ∀ a l b, stp s a l b -> stp t a l b) {C : Nat -> Int} {p : Nat} {l e : Int} (h : Sg s C p l e) : Sg t C p l e := by
 induction h with
 | here h1 h2 => exact .here (hst _ _ _ h1) h2
 | on h1 h2 _ ih => exact .on (hst _ _ _ h1) h2 ih
theorem IsBr.stepsW {s t : Lts} {n : Nat} (hst : ∀ a l b, stp s a l b ↔ stp t a l b) {R : Nat -> Nat -> Prop} (h : IsBr s n R) : IsBr t n R := by
 refine ⟨fun p q hp hq hr l p' hp' hs => ?_, fun p q hp hq hr l q' hq' hs => ?_⟩
 · rcases h.fwd p q hp hq hr l p' hp' ((hst _ _ _).2 hs) with h1 | ⟨q0, q', h1, h2, h3, h4⟩
   · exact .inl h1
   · exact .inr ⟨q0, q', h1.stepsW (fun a l b => (hst a l b).1), h2, (hst _ _ _).1 h3, h4⟩
 · rcases h.bwd p q hp hq hr l q' hq' ((hst _ _ _).2 hs) with h1 | ⟨q0, q', h1, h2, h3, h4⟩
   · exact .inl h1
   · exact .inr ⟨q0, q', h1.stepsW (fun a l b => (hst a l b).1), h2, (hst _ _ _).1 h3, h4⟩
theorem BrBig.stepsW {s t : Lts} {n : Nat} (hst : ∀ a l b, stp s a l b ↔ stp t a l b) {C : Nat -> Int} (h : BrBig s n C) : BrBig t n C :=
  ⟨fun p q hp hq e l x hx => (h.still p q hp hq e l x (hx.stepsW (fun a l b => (hst a l b).2))).stepsW (fun a l b => (hst a l b).1), fun R hR => h.all R (hR.stepsW (fun a l b => (hst a l b).symm))⟩
end Pl
theorem j2e {s : Lts} {n : Nat} {C : Nat -> Int} (h : BrBig s n C) : BrBig s.norm n C := h.stepsW (fun _ _ _ => (j0t p0p _ s.es).symm)
def KBig (kind : Bool) (s : Lts) (n : Nat) (C : Nat -> Int) : Prop := (if kind then Big s n C else BrBig s n C) /\ canon (fl n C) = fl n C
theorem KBig.norm {kind : Bool} {s : Lts} {n : Nat} {C : Nat -> Int} (h : KBig kind s n C) : KBig kind s.norm n C := by
 refine ⟨?_, h.2⟩
 cases kind with
 | true => exact Big.steps (show Big s n C from h.1) (fun _ _ _ _ _ => (j0t p0p _ s.es).symm)
 | false => exact j2e (show BrBig s n C from h.1)
section
variable {s : Lts} {n : Nat} {C : Nat -> Int}
end
end Go.Proofs.YtjchdegapadepaaGreatDoor
namespace Go.Proofs.YtjchdegapadepaaGreatDoor
open Go.RowKit Pl
open Lib (hid)
def QuoZero (lb : Int) (w : World) (e : Ending) (w' : World) : Prop :=
  ∃ (ea ta : Option Addr) (ec tc : Nat), e = .returned (.tuple #[.agg #[.int .i64 0, .int .i64 lb, .int .i64 0, .slice ea 0 ec], .slice ta 0 tc, .nilIface]) /\ Below w.heap.size w w'
theorem u0i {s : Lts} (h : s.Right) (hn : s.st = 0) : s.es = [] := by
 rcases he : s.es with _ | ⟨x, l⟩
 · rfl
 · have := j0e.1 (h.edges x (by rw [he]; simp))
   rw [hn] at this
   omega
theorem x0j {p : Addr} {s : Lts} (h : s.Right) (hn : s.st = 0) {a : Option Addr} {b off c : Nat} {w : World} (hG : GErr 10 p w) (hS : SlAt encE 3 w a b off s.es) (ca : Option Addr) (cc : Nat) (inert : Bool) :
    Calls Tryz.prog 31 #[.agg #[.int .i64 s.st, .int .i64 s.lb, .int .i64 s.s0, .slice a s.es.length c], .slice ca 0 cc, .bool inert] w (QuoZero s.lb w) := by
 have hB0 := ((Below.refl w.heap.size w).alloc (Nat.le_refl _) (Obj.cells #[.int .i64 s.st, .int .i64 s.lb, .int .i64 s.s0, .slice a s.es.length c] 24)).alloc (by simp) (Obj.cells #[.int .i64 0, .int .i64 0, .int .i64 0, .slice none 0 0] 24)
 have hx0 := (((Below.refl _ _).alloc (Nat.le_refl _) (Obj.cells #[.int .i64 0, .int .i64 0, .int .i64 0, .slice none 0 0] 24)).block w.heap.size (by simp)).trans (heap_alloc_new w (Obj.cells #[.int .i64 s.st, .int .i64 s.lb, .int .i64 s.s0, .slice a s.es.length c] 24))
 have hy0 := j0d (w.alloc (Obj.cells #[.int .i64 s.st, .int .i64 s.lb, .int .i64 s.s0, .slice a s.es.length c] 24)) (Obj.cells #[.int .i64 0, .int .i64 0, .int .i64 0, .slice none 0 0] 24) (w.heap.size + 1) (by simp)
 have HN := hid (z0t (c := c) h (hG.below hB0) (hS.below hB0 (Nat.le_refl _)))
 have HB0 := hid hB0; have HX0 := hid hx0; have HY0 := hid hy0
 have HNN : Hid (s.norm.st = 0) := hid hn
 obtain ⟨el, hel⟩ : ∃ el, el = s.es.length := ⟨_, rfl⟩
 rw [hn, <- hel] at HN HX0 HB0 HY0 ⊢
 clear hB0 hx0 hy0 hS hG h hn hel
 go_enter Tryz.func31, Tryz.ntmps31
 go_wp2_with fail
 refine HN.out.mono ?_
 rintro e w1 ⟨gb, rfl, hgr, hB1, hz1⟩
 have hb1 := HB0.out.trans (hB1.mono (by simp; omega))
 have hx1 := (hB1.block w.heap.size (by simp; omega)).trans HX0.out
 have hy1 := (hB1.block (w.heap.size + 1) (by simp)).trans HY0.out
 have hcs := v0l (c := cc) (a := ca) (b := 0) (off := 0) (l := []) (w := w1) (0 : Int) s.lb s.s0 (.slice a el c) (k0m _ _ _ _) (by simp) (by simp)
 have HCS := hid hcs; have HB1 := hid hb1; have HX1 := hid hx1; have HY1 := hid hy1; have HGR := hid hgr
 obtain ⟨x0, x1, x2, x3, xl⟩ : w1.cell? ⟨w.heap.size, 0, none⟩ = some (.int .i64 0) /\ w1.cell? ⟨w.heap.size, 1, none⟩ = some (.int .i64 s.lb) /\ w1.cell? ⟨w.heap.size, 2, none⟩ = some (.int .i64 s.s0) /\ w1.cell? ⟨w.heap.size, 3, none⟩ = some (.slice a el c) /\ w.heap.size < w1.heap.size := by
   refine ⟨?_, ?_, ?_, ?_, (Array.getElem?_eq_some_iff.1 hx1).1⟩ <;> simp [World.cell?, hx1]
 clear hb1 hx1 hy1 hcs hB1 hgr hz1 HN HB0 HX0 HY0
 go_wp2_with fail
 refine HCS.out.mono ?_
 rintro e w2 ⟨rfl, hB2⟩
 have hcl : clB 0 [] = true := by decide
 rw [hcl]
 have hx2 := (hB2.block w.heap.size xl).trans HX1.out
 have hy2 := (hB2.block (w.heap.size + 1) (Array.getElem?_eq_some_iff.1 HY1.out).1).trans HY1.out
 have HB2 := hid (HB1.out.trans (hB2.mono HB1.out.size)); have HX2 := hid hx2; have HY2 := hid hy2; have HGR2 := hid (HGR.out.below hB2)
 clear x0 x1 x2 x3 xl
 have x1 : w2.cell? ⟨w.heap.size, 1, none⟩ = some (.int .i64 s.lb) := by simp [World.cell?, hx2]
 have xl := (Array.getElem?_eq_some_iff.1 hx2).1
 have hmm := @run_makeMap Tryz.prog
 have hr1 := (Rws.nil (Below.refl w2.heap.size w2)).addLit #[.int .i64 0, .int .i64 s.lb, .int .i64 0, .slice none 0 0] 24 (k := 4) (n := 1) (by decide) rfl
 have hr2 : Rws w2 ((w2.alloc (.cells #[.int .i64 0, .int .i64 s.lb, .int .i64 0, .slice none 0 0] 24)).alloc (.map #[] 0)) [RQ w2.heap.size 0 s.lb 0 (.slice none 0 0)] := hr1.alloc _
 have HRC := hid (p1s (HGR2.out.below hr2.bel) HNN.out)
 have HR2 := hid hr2
 clear hx2 hy2 hB2 hr1 hr2 hcl HCS HB1 HX1 HY1 HGR
 go_wp2_with fail
 refine HRC.out.mono ?_
 rintro e w3 ⟨rfl, hB3⟩
 have HR3 := hid (HR2.out.call hB3)
 have hx3 := (HR3.out.bel.block w.heap.size xl).trans HX2.out
 obtain ⟨tb, htb⟩ : ∃ tb, tb = w2.heap.size := ⟨_, rfl⟩
 rw [<- htb] at HR3 ⊢
 have htlo : w.heap.size + 1 < tb := by rw [htb]; exact (Array.getElem?_eq_some_iff.1 HY2.out).1
 have HTB := hid htb
 clear hB3 htb HR2 HRC x1 xl
 obtain ⟨x0, x1, xl⟩ : w3.cell? ⟨w.heap.size, 0, none⟩ = some (.int .i64 0) /\ w3.cell? ⟨w.heap.size, 1, none⟩ = some (.int .i64 s.lb) /\ w.heap.size < w3.heap.size := by
   refine ⟨?_, ?_, (Array.getElem?_eq_some_iff.1 hx3).1⟩ <;> simp [World.cell?, hx3]
 have hmk := run_make_row' (P := Tryz.prog) 27 3 (.int .i64 0) 8 Tryz.underlying27 (by kernel_rfl) rfl .i64 .i64 0 (by omega) (by omega)
 rw [show ((0 : Nat) : Int) = 0 from rfl] at hmk
 clear hx3
 go_wp2_with fail
 refine wp_loop_rounds 1 ?_
 rw [rounds_succ]
 go_wp2_with fail
 refine wp_loop_rounds 1 ?_
 rw [rounds_succ]
 have hr4 := (HR3.out.alloc (.cells (madeCells #[.int .i64 0] 0) 3)).alloc (.map #[] 0)
 have HRC2 := hid (p1s (HGR2.out.below hr4.bel) HNN.out)
 have HR4 := hid hr4
 clear hr4 hmk
 go_wp2_with fail
 refine HRC2.out.mono ?_
 rintro e w5 ⟨rfl, hB5⟩
 have hr5 := HR4.out.call hB5
 have HR5 := hid hr5
 have HSO := hid (q0s (a := none) (b := 0) (off := 0) (c := 0) (xs := []) (w := w5) (k0m _ _ _ _) (by simp))
 have t3 := hr5.cell (i := 0) rfl (j := 3) rfl
 have tl := (hr5.lt (i := 0) rfl).2
 clear hB5 hr5 HRC2 HR4 HR3 x0 x1 xl
 go_wp2_with fail
 refine wp_loop_rounds 1 ?_
 rw [rounds_succ]
 go_wp2_with fail
 refine HSO.out.mono ?_
 rintro e w6 ⟨v, rfl, hown, hB6⟩
 obtain ⟨va, vc, vb, rfl, hz1, hz2, hz3, hz4⟩ := j0f p0n hown
 have hlen : (nf ltE ([] : List E)).length = 0 := rfl
 rw [hlen]
 have hr6 := HR5.out.call hB6
 have t0 := hr6.cell (i := 0) rfl (j := 0) rfl
 have t1 := hr6.cell (i := 0) rfl (j := 1) rfl
 have t2 := hr6.cell (i := 0) rfl (j := 2) rfl
 have t3 := hr6.cell (i := 0) rfl (j := 3) rfl
 have tf := hr6.fz (i := 0) rfl 3
 have tl := (hr6.lt (i := 0) rfl).2
 have hy6 := (hr6.bel.block (w.heap.size + 1) (Array.getElem?_eq_some_iff.1 HY2.out).1).trans HY2.out
 have HY6 := hid hy6; have HR6 := hid hr6
 have hr7 := hr6.set 0 rfl 3 (.slice va 0 vc)
 have hr8 : Rws w2 (w6.setCell ⟨tb, 3, none⟩ (.slice va 0 vc)) [RQ tb 0 s.lb 0 (.slice va 0 vc)] := hr7
 have HR8 := hid hr8
 clear hown hz1 hz2 hz3 hz4 hlen hr6 hr7 hr8 hB6 hy6 HSO HR5 HR6
 go_upto_region 42 with fail
 obtain ⟨w8, hw8⟩ : ∃ w8, w8 = w6.setCell ⟨tb, 3, none⟩ (.slice va 0 vc) := ⟨_, rfl⟩
 rw [<- hw8] at HR8 ⊢
 have hy8 := (HR8.out.bel.block (w.heap.size + 1) (Array.getElem?_eq_some_iff.1 HY2.out).1).trans HY2.out
 clear t0 t1 t2 t3 tf tl hw8
 have t0 := HR8.out.cell (i := 0) rfl (j := 0) rfl
 have t1 := HR8.out.cell (i := 0) rfl (j := 1) rfl
 have t2 := HR8.out.cell (i := 0) rfl (j := 2) rfl
 have t3 := HR8.out.cell (i := 0) rfl (j := 3) rfl
 have tl := (HR8.out.lt (i := 0) rfl).2
 have yl := (Array.getElem?_eq_some_iff.1 hy8).1
 have y0 : w8.cell? ⟨w.heap.size + 1, 0, none⟩ = some (.int .i64 0) := by simp [World.cell?, hy8]
 have y1 : w8.cell? ⟨w.heap.size + 1, 1, none⟩ = some (.int .i64 0) := by simp [World.cell?, hy8]
 have y2 : w8.cell? ⟨w.heap.size + 1, 2, none⟩ = some (.int .i64 0) := by simp [World.cell?, hy8]
 have y3 : w8.cell? ⟨w.heap.size + 1, 3, none⟩ = some (.slice none 0 0) := by simp [World.cell?, hy8]
 have yf0 : w8.frozen? ⟨w.heap.size + 1, 0, none⟩ = false := by simp [World.frozen?, hy8]
 have yf1 : w8.frozen? ⟨w.heap.size + 1, 1, none⟩ = false := by simp [World.frozen?, hy8]
 have yf2 : w8.frozen? ⟨w.heap.size + 1, 2, none⟩ = false := by simp [World.frozen?, hy8]
 have yf3 : w8.frozen? ⟨w.heap.size + 1, 3, none⟩ = false := by simp [World.frozen?, hy8]
 have HBL := hid (HB2.out.trans (HR8.out.bel.mono HB2.out.size))
 clear hy8 HY6
 go_wp2_with fail
 refine bodyPost_ret (v := .tuple #[.agg #[.int .i64 0, .int .i64 s.lb, .int .i64 0, .slice va 0 vc], .slice (some ⟨w3.heap.size, 0, none⟩) 0 0, .nilIface]) (by simp [results, Tryz.results31, go_sem, y0, y1, y2, y3]) rfl ⟨va, some ⟨w3.heap.size, 0, none⟩, vc, 0, rfl, ?_⟩
 exact (((HBL.out.setCell (by show w.heap.size <= w.heap.size + 1; omega) _).setCell (by show w.heap.size <= w.heap.size + 1; omega) _).setCell (by show w.heap.size <= w.heap.size + 1; omega) _).setCell (by show w.heap.size <= w.heap.size + 1; omega) _
end Go.Proofs.YtjchdegapadepaaGreatDoor

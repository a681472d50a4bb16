/-
  Lemmas.
-/
import Derived.Test.YtbaccmlfnbgehaaGreatDoorWkG
import Derived.Test.YtbaccmlfnbgehaaGreatDoorGTauJ
import Derived.Test.YtbaccmlfnbgehaaGreatDoorGAs
set_option maxHeartbeats 4000000
set_option maxRecDepth 100000
open Nat renaming le_refl → l0
open Go.Proofs.Tryz
namespace Go.Proofs.YtbaccmlfnbgehaaGreatDoor
open Go.RowKit Pl
open Lib (hid)
def weakName : ByteArray := ⟨#[119, 101, 97, 107]⟩
structure WkErr (p : Addr) (w : World) : Prop where
  sys : GErr 15 p w
  blk : ∃ c t, w.heap[p.block]? = some (.cells c t (0, 0))
  great : SentQ 11 p w
theorem WkErr.below {p : Addr} {w w' : World} (h : WkErr p w) (hB : Below w.heap.size w w') : WkErr p w' :=
  ⟨h.sys.below hB, by obtain ⟨c, t, h1⟩ := h.blk; exact ⟨c, t, by rw [hB.block _ (Array.getElem?_eq_some_iff.1 h1).1]; exact h1⟩, h.great.below hB⟩
def FaultW (w : World) (p : Addr) (v : Value) : Prop := ∃ vi, FaultAt w v weakName vi /\ FaultAt w vi sysName (.iface 278 (.pointer (some p)))
theorem FaultW.below {w w' : World} {p : Addr} {v : Value} (h : FaultW w p v) (hB : Below w.heap.size w w') : FaultW w' p v := by
 obtain ⟨vi, h1, h2⟩ := h
 exact ⟨vi, h1.below hB, h2.below hB⟩
theorem SilT.lo0 {w : World} {lo sb n : Nat} {F : Nat -> Nat -> Bool} {I : List Nat} (h : SilT w lo sb n F I) : SilT w 0 sb n F I := by
 obtain ⟨bk, h1, h2⟩ := h.ex
 exact ⟨bk, h1, fun p hp => ⟨(h2 p hp).1, Nat.zero_le _, (h2 p hp).2.2⟩⟩
theorem j3l {p : Addr} {s : Lts} {n : Nat} (hr : s.Right) (hn : s.st = (n : Int)) (h300 : n <= 300) {a : Option Addr} {b off c : Nat} {w : World} (hG : WkErr p w) (hS : SlAt encE 3 w a b off s.es) :
    Calls prog 129 #[.agg #[.int .i64 s.st, .int .i64 s.lb, .int .i64 s.s0, .slice a s.es.length c]] w fun e w' => ∃ (xb gb sb : Nat) (F : Nat -> Nat -> Bool), e = .returned (.tuple #[.pointer (some ⟨xb, 0, none⟩), .nilIface]) /\ StepsAt w' xb gb sb n s F /\ w.heap.size <= xb /\ Below w.heap.size w w' := by
 have hB0 := (Below.refl w.heap.size w).alloc (l0 _) (Obj.cells #[.int .i64 s.st, .int .i64 s.lb, .int .i64 s.s0, .slice a s.es.length c] 24)
 have hbx := heap_alloc_new w (Obj.cells #[.int .i64 s.st, .int .i64 s.lb, .int .i64 s.s0, .slice a s.es.length c] 24)
 have HNW := hid (v1k (c := c) hr (hG.sys.below hB0) (hS.below hB0 (l0 _)))
 obtain ⟨el, hel⟩ : ∃ el, el = s.es.length := ⟨_, rfl⟩
 have HG := hid hG; have HS := hid hS; have HB0 := hid hB0; have HBX := hid hbx; have HR := hid hr; have HN := hid hn; have HEL := hid hel
 rw [hn] at HNW HB0 HBX ⊢
 rw [<- hel] at HNW HB0 HBX ⊢
 clear hG hS hB0 hbx hr hn hel
 go_enter func129, ntmps129
 go_wp2_with fail
 refine HNW.out.mono ?_
 rintro e w1 ⟨gb, rfl, hgr, hB1, _⟩
 have hb1 := HB0.out.trans (hB1.mono (by simp))
 have hx1 := (hB1.block w.heap.size (by simp)).trans HBX.out
 obtain ⟨x0, x1, x2, x3, x4⟩ := q0j hx1
 have hor := q1l (c := c) HR.out HN.out (HG.out.sys.below hb1) (HS.out.below hb1 (l0 _))
 rw [HN.out, <- HEL.out] at hor
 have HOR := hid hor; have HB1 := hid hb1; have HX1 := hid hx1; have HGR := hid hgr
 have h3I : ¬ (n : Int) > 300 := by omega
 clear hor hB1 hb1 hx1 hgr HNW HB0 HBX
 go_wp2_with fail
 refine HOR.out.mono ?_
 unfold OrdPost
 rintro e w2 ⟨g, D, v, hg, hD, hall, rfl, hown, hB2⟩
 have hb2 := HB1.out.trans (hB2.mono HB1.out.size)
 have hx2 := (hB2.block w.heap.size (Array.getElem?_eq_some_iff.1 HX1.out).1).trans HX1.out
 have hcy := y0g (c := c) HR.out HN.out (HG.out.sys.below hb2) (HS.out.below hb2 (l0 _))
 rw [HN.out, <- HEL.out] at hcy
 have HCY := hid hcy; have HB2 := hid hb2; have HX2 := hid hx2; have HGR2 := hid (HGR.out.below hB2)
 have HOW := hid hown; have HCG := hid hg; have HDD := hid hD; have HAL := hid hall
 clear x0 x1 x2 x3 x4
 obtain ⟨x0, x1, x2, x3, x4⟩ := q0j hx2
 clear hcy hB2 hb2 hx2 hown hg hD hall HOR HB1 HX1 HGR
 obtain ⟨vo, hvo⟩ : ∃ vo, vo = v := ⟨_, rfl⟩
 rw [<- hvo] at HOW ⊢
 clear hvo
 go_wp2_with fail
 refine HCY.out.mono ?_
 rintro e w3 ⟨f, v3, hf, rfl, hown3, hB3⟩
 obtain ⟨hblk, hfg⟩ := BlkO.of_ord HR.out HN.out hf HCG.out HDD.out HAL.out
 have hown2 := HOW.out
 rw [hfg, u2i] at hown2
 have hol : ((ordO n f D).map Int.ofNat).length = n := by rw [List.length_map]; exact hblk.len
 obtain ⟨oa, oc, ob, rfl, _, _, hos, _⟩ := j0d (xs := (ordO n f D).map Int.ofNat) p0v (by rw [hol]; exact hown2)
 obtain ⟨ya, yc, yb, rfl, _, _, hys, _⟩ := j0d (xs := fl n (clf n f)) p0v (by rw [j0v]; exact hown3)
 rw [hol, j0v]
 have hb3 := HB2.out.trans (hB3.mono HB2.out.size)
 have hgr3 := HGR2.out.below hB3
 have HSI := hid (x1r (yc := yc) (oc := oc) hgr3 HR.out HN.out hblk hys (hos.below hB3 (l0 _)))
 have HB3 := hid hb3; have HGR3 := hid hgr3
 clear x0 x1 x2 x3 x4 hown2 hown3 hblk hfg hf hol hos hys hB3 hb3 hgr3 HOW HCG HDD HAL HCY HB2 HX2 HGR2
 go_wp2_with fail
 refine HSI.out.mono ?_
 rintro e w4 ⟨sb, F, rfl, hsil, hsb, hB4, hF⟩
 have hb4 := HB3.out.trans (hB4.mono HB3.out.size)
 have hba := (Below.refl w4.heap.size w4).alloc (l0 _) (Obj.cells #[.pointer (some ⟨gb, 0, none⟩), .slice (some ⟨sb, 0, none⟩) n n] 122)
 have hst : StepsAt (w4.alloc (Obj.cells #[.pointer (some ⟨gb, 0, none⟩), .slice (some ⟨sb, 0, none⟩) n n] 122)) w4.heap.size gb sb n s F :=
   ⟨heap_alloc_new w4 _, (HGR3.out.below hB4).below hba, HR.out, HN.out, (hsil.lo0).call hba, hF⟩
 have HST := hid hst; have HBF := hid (hb4.trans (hba.mono hb4.size))
 have hwl : w.heap.size <= w4.heap.size := hb4.size
 clear hsil hsb hB4 hF hb4 hba hst HSI HB3 HGR3
 go_wp2_with fail
 go_ret2
 exact ⟨_, gb, sb, F, rfl, HST.out, hwl, HBF.out⟩
theorem q2d {p : Addr} {s : Lts} (h : ¬ s.Right) {a : Option Addr} {b off c : Nat} {w : World} (hG : WkErr p w) (hT : ErrType w) (hS : SlAt encE 3 w a b off s.es) :
    Calls prog 129 #[.agg #[.int .i64 s.st, .int .i64 s.lb, .int .i64 s.s0, .slice a s.es.length c]] w fun e w' => ∃ v, e = .returned (.tuple #[.pointer none, v]) /\ FaultW w' p v /\ Below w.heap.size w w' := by
 have hB0 := (Below.refl w.heap.size w).alloc (l0 _) (Obj.cells #[.int .i64 s.st, .int .i64 s.lb, .int .i64 s.s0, .slice a s.es.length c] 24)
 have HNW := hid (k3r (c := c) h (hG.sys.below hB0) (hS.below hB0 (l0 _)))
 have HB0 := hid hB0; have HT := hid hT
 clear hG hS hB0 h hT
 go_enter func129, ntmps129
 go_wp2_with fail
 refine HNW.out.mono ?_
 rintro e w1 ⟨v, rfl, hF, hB1⟩
 obtain ⟨fb, rfl, hfb⟩ := id hF.ex
 have HF := hid hF
 have HB1 := hid (HB0.out.trans (hB1.mono (by simp)))
 have HA := hid (z1a weakName (HT.out.below HB1.out) hfb)
 unfold weakName at HA
 clear hB1 hfb hF HB0 HNW
 go_wp2_with fail
 refine HA.out.mono ?_
 rintro e w2 ⟨v, rfl, hF2, hB2⟩
 have hfw : FaultW w2 p v := ⟨_, hF2, HF.out.below hB2⟩
 obtain ⟨fb2, rfl, _⟩ := hF2.ex
 have HFW := hid hfw
 have HB2 := hid (HB1.out.trans (hB2.mono HB1.out.size))
 clear hF2 hB2 HB1 HA hfw
 go_wp2_with fail
 go_ret2
 exact ⟨_, rfl, HFW.out, HB2.out⟩
theorem v0p {p : Addr} {s : Lts} {n : Nat} (hr : s.Right) (hn : s.st = (n : Int)) (h300 : n <= 300) {a : Option Addr} {b off c : Nat} {w : World} (hG : WkErr p w) (hS : SlAt encE 3 w a b off s.es) :
    Calls prog 90 #[.agg #[.int .i64 s.st, .int .i64 s.lb, .int .i64 s.s0, .slice a s.es.length c]] w fun e w' => ∃ (xb gb sb : Nat) (F : Nat -> Nat -> Bool), e = .returned (.tuple #[.pointer (some ⟨xb, 0, none⟩), .nilIface]) /\ StepsAt w' xb gb sb n s F /\ w.heap.size <= xb /\ Below w.heap.size w w' := by
 have hB0 := (Below.refl w.heap.size w).alloc (l0 _) (Obj.cells #[.int .i64 s.st, .int .i64 s.lb, .int .i64 s.s0, .slice a s.es.length c] 24)
 have HOF := hid (j3l (c := c) hr hn h300 (hG.below hB0) (hS.below hB0 (l0 _)))
 have HG := hid hG; have HB0 := hid hB0
 clear hG hS hB0 hr hn h300
 go_enter func90, ntmps90
 go_wp2_with fail
 refine HOF.out.mono ?_
 rintro e w1 ⟨xb, gb, sb, F, rfl, hX, hxb, hB1⟩
 have hb1 := HB0.out.trans (hB1.mono (by simp))
 obtain ⟨q, cq, tq, hgq, _, _⟩ := (HG.out.below hb1).great
 have g0 := hgq.cell; have gl := hgq.lt
 have HX := hid hX; have HB1 := hid hb1
 have hxl : w.heap.size <= xb := by simp at hxb; omega
 clear hX hxb hB1 hb1 hgq HOF HB0
 go_wp2_with fail
 refine (j2o _ _).mono ?_
 rintro e w2 ⟨rfl, rfl⟩
 go_wp2_with fail
 go_ret2
 exact ⟨xb, gb, sb, F, rfl, HX.out, hxl, HB1.out⟩
theorem y1l {p : Addr} {s : Lts} (h : ¬ s.Right) {a : Option Addr} {b off c : Nat} {w : World} (hG : WkErr p w) (hT : ErrType w) (hS : SlAt encE 3 w a b off s.es) :
    Calls prog 90 #[.agg #[.int .i64 s.st, .int .i64 s.lb, .int .i64 s.s0, .slice a s.es.length c]] w fun e w' => ∃ v, e = .returned (.tuple #[.pointer none, v]) /\ FaultW w' p v /\ Below w.heap.size w w' := by
 have hB0 := (Below.refl w.heap.size w).alloc (l0 _) (Obj.cells #[.int .i64 s.st, .int .i64 s.lb, .int .i64 s.s0, .slice a s.es.length c] 24)
 have HOF := hid (q2d (c := c) h (hG.below hB0) (hT.below hB0) (hS.below hB0 (l0 _)))
 have HG := hid hG; have HB0 := hid hB0
 clear hG hS hB0 h hT
 go_enter func90, ntmps90
 go_wp2_with fail
 refine HOF.out.mono ?_
 rintro e w1 ⟨v, rfl, hF, hB1⟩
 have hb1 := HB0.out.trans (hB1.mono (by simp))
 have hge := HG.out.below hb1
 obtain ⟨q, cq, tq, hgq, hne, hqb⟩ := hge.great
 obtain ⟨cp, tp, hpb⟩ := hge.blk
 obtain ⟨vi, hf1, hf2⟩ := id hF
 obtain ⟨pb, rfl, hpb1⟩ := hf1.ex
 obtain ⟨pc, rfl, hpc1⟩ := hf2.ex
 have HIS := hid (q0v pb pc q p cp cq tp tq w1 (by simp [World.cell?, hpb1]) (by simp [World.cell?, hpc1]) (Ne.symm hne) hpb hqb)
 have g0 := hgq.cell; have gl := hgq.lt
 have HF := hid hF; have HB1 := hid hb1
 clear hF hB1 hb1 hge hgq hne hqb hpb hf1 hf2 hpb1 hpc1 HOF HB0
 go_wp2_with fail
 refine HIS.out.mono ?_
 rintro e w2 ⟨rfl, rfl⟩
 go_wp2_with fail
 go_ret2
 exact ⟨_, rfl, HF.out, HB1.out⟩
end Go.Proofs.YtbaccmlfnbgehaaGreatDoor

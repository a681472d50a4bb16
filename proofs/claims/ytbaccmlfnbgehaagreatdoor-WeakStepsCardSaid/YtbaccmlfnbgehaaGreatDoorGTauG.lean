/-
  Lemmas.
-/
import Derived.Test.YtbaccmlfnbgehaaGreatDoorTauF
import Derived.Test.YtbaccmlfnbgehaaGreatDoorGPl5
import Derived.Test.YtbaccmlfnbgehaaGreatDoorGCanon
import Derived.Test.YtbaccmlfnbgehaaGreatDoorGAs
import Derived.Test.YtbaccmlfnbgehaaGreatDoorGNew
import Derived.Test.YtbaccmlfnbgehaaGreatDoorGPl6
import Derived.Outline
import Derived.Deep.QuietTactic
import Derived.BigQuiet
import Derived.Test.YtbaccmlfnbgehaaGreatDoorGMem
import Derived.Deep.DeepMust
set_option maxHeartbeats 8000000
set_option maxRecDepth 100000
open Array renaming getElem?_eq_some_iff → l0
open Nat renaming le_refl → l7, zero_le → l8
open Go.Proofs.Tryz
namespace Go.Proofs.YtbaccmlfnbgehaaGreatDoor
open Go.RowKit Pl
open Lib (hid)
def t0S : TS := ⟨fun _ => 0, fun _ => 0, fun _ => 0, [], 0, 0⟩
theorem p0z {w2 : World} {z : Value} {n b : Nat} {T : TypeId} (h : w2.heap[b]? = some (.cells (madeCells #[z] n) T (0, 0))) : w2.rowIs b T n (fun _ => z) :=
  ⟨_, h, size_madeCells _ _, fun i hi => by simp [madeCells, hi, Nat.mod_one]⟩
theorem TW.start {w0 W : World} {WB LB NB IB CB n : Nat} {gp : Value}
    (hw : W.heap[WB]? = some (.cells #[gp, .slice (some ⟨LB, 0, none⟩) n n, .slice (some ⟨NB, 0, none⟩) n n, .slice none 0 0, .slice (some ⟨IB, 0, none⟩) n n, .slice (some ⟨CB, 0, none⟩) n n, .int .i64 0, .int .i64 0, .slice none 0 0] 264 (0, 0)))
    (hl : W.heap[LB]? = some (.cells (madeCells #[.int .i64 0] n) 3 (0, 0))) (hn : W.heap[NB]? = some (.cells (madeCells #[.int .i64 0] n) 3 (0, 0)))
    (hi : W.heap[IB]? = some (.cells (madeCells #[.bool false] n) 4 (0, 0))) (hc : W.heap[CB]? = some (.cells (madeCells #[.int .i64 0] n) 3 (0, 0)))
    (hB : Below w0.heap.size w0 W) (hlo : w0.heap.size <= WB /\ w0.heap.size <= LB /\ w0.heap.size <= NB /\ w0.heap.size <= IB /\ w0.heap.size <= CB)
    (hne : WB ≠ LB /\ WB ≠ NB /\ WB ≠ IB /\ WB ≠ CB /\ LB ≠ NB /\ LB ≠ IB /\ LB ≠ CB /\ NB ≠ IB /\ NB ≠ CB /\ IB ≠ CB) :
    TWS w0 W W.heap.size WB LB NB IB CB n gp t0S [] (.slice none 0 0) (.slice none 0 0) := by
 have h1 := (l0.1 hw).1
 have h2 := (l0.1 hl).1
 have h3 := (l0.1 hn).1
 have h4 := (l0.1 hi).1
 have h5 := (l0.1 hc).1
 obtain ⟨q1, q2, q3, q4, q5, q6, q7, q8, q9, q10⟩ := hne
 exact ⟨⟨⟨hlo.1, hlo.2.1, hlo.2.2.1, hlo.2.2.2.1, hlo.2.2.2.2, hB.size⟩, ⟨h1, h2, h3, h4, h5⟩, ⟨q1, q2, q3, q4⟩, ⟨q5, q6, q7⟩, ⟨q8, q9, q10⟩⟩, hB, l7 _, hw, p0z hl, p0z hn, (p0z hi).congr (fun i _ => by simp [t0S]), p0z hc,
   World.ownsRow_nil _ _ _ _, World.ownsRow_nil _ _ _ _, fun g hg => by simp [Value.ownBlock] at hg⟩
theorem wfI {x : Int} (h0 : 0 <= x) (h1 : x <= 1000000) : (Lit.int .i64 x).wf = true := by
 rw [show x = ((x.toNat : Nat) : Int) by omega]
 exact WalkArith.wf_i64 (by omega)
theorem p2h {w : World} {tb n : Nat} {f : Nat -> Int} (h : w.rowIs tb 3 n (fun j => .int .i64 (f j))) : SlAt encI 1 w (some ⟨tb, 0, none⟩) tb 0 (fl n f) :=
  ⟨fun _ => rfl, fun _ => h.lt, fun i x hx j u hu => by
    have hi := (List.getElem?_eq_some_iff.1 hx).1
    rw [j0v] at hi
    have hxe : x = f i := by
      rw [j0t f hi] at hx
      simpa using hx.symm
    have hj := (List.getElem?_eq_some_iff.1 hu).1
    rw [p0v] at hj
    obtain rfl : j = 0 := by omega
    have h2 := h.cell hi
    simp only [encI, List.getElem?_cons_zero, Option.some.injEq] at hu
    rw [<- hu, hxe, Nat.zero_add, Nat.mul_one, Nat.add_zero]
    exact h2⟩
def CycPost (s : Lts) (n : Nat) (w : World) (e : Ending) (w' : World) : Prop :=
  ∃ (f : Nat -> Int) (v : Value), Cyc s n f /\ e = .returned v /\ w'.ownsRow w.heap.size 3 1 v n ((fl n (clf n f)).flatMap encI) /\ Below w.heap.size w w'
theorem j2v {s : Lts} {w : World} {gb n : Nat} (hG : GraphAt w gb s) (hn : s.st = (n : Int)) :
    Calls prog 177 #[.pointer (some ⟨gb, 0, none⟩)] w (CycPost s n w) := by
 have hst := hG.right.st0
 have hn1 : n <= 1000 := by omega
 have hgs := p0c hG
 rw [hn] at hgs
 have HGS := hid hgs; have HG := hid hG; have HN := hid hn
 have hmk := run_make_row' (P := prog) 50 3 (.int .i64 0) 8 underlying50 (by kernel_rfl) rfl .i64 .i64 n (by omega) (by omega)
 have hmb := run_make_row' (P := prog) 57 4 (.bool false) 1 underlying57 (by kernel_rfl) rfl .i64 .i64 n (by omega) (by omega)
 clear hgs hG hn hst
 go_enter func177, ntmps177
 go_wp2_with fail
 refine HGS.out.mono ?_
 rintro e w1 ⟨rfl, hB1⟩
 have HB1 := hid hB1
 clear hB1
 go_upto_region 2 with fail
 go_cut [4] from 6 to 18 (fun s4 wx => ∃ (WB LB NB IB CB B : Nat), s4 = .pointer (some ⟨WB, 0, none⟩) /\ TWS w1 wx B WB LB NB IB CB n (.pointer (some ⟨gb, 0, none⟩)) t0S [] (.slice none 0 0) (.slice none 0 0))
 case first => (
 go_region
 all_goals (
 go_wp2_with fail
 go_meet
 refine ⟨_, _, _, _, _, _, rfl, TW.start (k0b _ _ _ (by simp)) ?_ ?_ ?_ ?_ ?_ ?_ ?_⟩
 · show (World.alloc _ _).heap[_]? = _
   repeat (first | (refine k0b _ _ _ ?_; simp; done) | (refine (Below.heap_alloc _ _ _ ?_).trans ?_; · (simp <;> omega)))
 · show (World.alloc _ _).heap[_]? = _
   repeat (first | (refine k0b _ _ _ ?_; simp; done) | (refine (Below.heap_alloc _ _ _ ?_).trans ?_; · (simp <;> omega)))
 · show (World.alloc _ _).heap[_]? = _
   repeat (first | (refine k0b _ _ _ ?_; simp; done) | (refine (Below.heap_alloc _ _ _ ?_).trans ?_; · (simp <;> omega)))
 · show (World.alloc _ _).heap[_]? = _
   repeat (first | (refine k0b _ _ _ ?_; simp; done) | (refine (Below.heap_alloc _ _ _ ?_).trans ?_; · (simp <;> omega)))
 · refine Below.drew ?_
   repeat (refine Below.alloc ?_ (by simp <;> omega) _)
   exact Below.refl _ _
 · omega
 · omega))
 case rest => (
 obtain ⟨WB, LB, NB, IB, CB, B, rfl, htw⟩ := hcut
 have HT := hid htw
 have HGR := hid (HG.out.below HB1.out)
 have HTI := hid (TI.start s n (fun _ => 0) (fun _ => 0) (fun _ => 0))
 clear hmk hmb htw
 go_wp2_with fail
 go_loopw [20] (fun v20 wr => ∃ (k : Nat) (tt : TS) (nx : Nat -> Nat) (vo vs : Value), v20 = .int .i64 k /\ k <= n /\ TI s n tt [] nx /\ TWS w1 wr B WB LB NB IB CB n (.pointer (some ⟨gb, 0, none⟩)) tt [] vo vs /\ (∀ z, z < k -> tt.num z ≠ 0))
   (fun v20 _ => n - (intOf v20).toNat)
 case atStart => exact ⟨0, t0S, fun _ => 0, _, _, rfl, l8 _, HTI.out, HT.out, by intro z hz; omega⟩
 case round => (
 obtain ⟨k, tt, nx, vo, vs, rfl, hk, hti, htw, hall⟩ := hrel
 obtain ⟨c0, c1, c2, c3, c4, c5, c6, c7, c8⟩ := TW.cells htw
 obtain ⟨l1, l2, l3, l4, l5, l6⟩ := TW.lts htw
 have HTI2 := hid hti; have HTW := hid htw; have HALL := hid hall
 clear hti hall HT HTI
 by_cases hlt : k < n
 · (
 have hki : (k : Int) < (n : Int) := by omega
 have g2 := (TW.num htw).cell hlt
 obtain ⟨ny, hny⟩ : ∃ ny, ny = tt.num k := ⟨_, rfl⟩
 rw [<- hny] at g2
 have HNY := hid hny
 clear htw hny c0 c1 c3 c4 c5 c6 c7 c8 l2 l4 l5 l6
 by_cases h0 : ny = 0
 · (
 have hb : (ny == 0) = true := by simp [h0]
 have hfr := v2e HGR.out HN.out HTI2.out HTW.out hlt (by rw [<- HNY.out]; exact h0)
 have HFR := hid hfr
 clear h0 hfr
 go_wp2_with fail
 refine HFR.out.mono ?_
 rintro e w5 ⟨t', nx', vo', vs', rfl, hti', htw', hky, hmon⟩
 have HTI3 := hid hti'; have HTW3 := hid htw'
 have hall' : ∀ z, z < k + 1 -> t'.num z ≠ 0 := fun z hz => by (
 by_cases e : z = k
 · subst e; exact hky
 · exact hmon z (HALL.out z (by omega)))
 have HALL3 := hid hall'
 clear hti' htw' hky hmon hall' g2 c2 l1 l3
 go_wp2_with fail
 go_roundw
 case rel => exact ⟨k + 1, t', nx', vo', vs', by go_num, by omega, HTI3.out, HTW3.out, HALL3.out⟩
 case measure => simp [intOf]; omega)
 · (
 have hb : (ny == 0) = false := by simp [h0]
 have hall' : ∀ z, z < k + 1 -> tt.num z ≠ 0 := fun z hz => by (
 by_cases e : z = k
 · subst e; rw [<- HNY.out]; exact h0
 · exact HALL.out z (by omega))
 have HALL3 := hid hall'
 clear h0 hall'
 go_wp2_with fail
 go_roundw
 case rel => exact ⟨k + 1, tt, nx, vo, vs, by go_num, by omega, HTI2.out, HTW.out, HALL3.out⟩
 case measure => simp [intOf]; omega))
 · (
 obtain rfl : k = n := by omega
 have hcyc := HTI2.out.cyc HGR.out.right HN.out HALL.out
 have hcls : ∀ x, x < k -> 0 <= tt.cls x /\ tt.cls x <= 1000 := fun x hx => by (
 have h1 := HTI2.out.cls0 x hx ⟨HALL.out x hx, by rw [HTI2.out.done]; simp⟩
 have h2 := HTI2.out.cnt; have h3 := HTI2.out.met_le
 simp at h2; omega)
 have hsl : SlAt encI 1 wr (some ⟨CB, 0, none⟩) CB 0 (fl k tt.cls) := p2h (TW.cls htw)
 have hca := x2p (c := k) hsl (by rw [j0v]; omega) (fun x hx => by (
 obtain ⟨i, hi, rfl⟩ := List.mem_map.1 (show x ∈ (List.range k).map tt.cls from hx)
 rw [List.mem_range] at hi
 have := hcls i hi
 exact wfI (by omega) (by omega)))
 rw [j0v, p0p] at hca
 have hbl := TW.bel htw
 have HCA := hid hca; have HCYC := hid hcyc; have HBL := hid hbl
 clear hcyc hcls hsl hca hbl htw c0 c1 c2 c3 c4 c6 c7 c8 l2 l3 l4 l5 l6
 go_wp2_with fail
 refine HCA.out.mono ?_
 rintro e w6 ⟨v, rfl, hown, hB6⟩
 have hs1 := HB1.out.size; have hs2 := HBL.out.size
 have hown2 := j0r hown (show w.heap.size <= wr.heap.size by omega)
 have hB := (HB1.out.trans (HBL.out.mono hs1)).trans (hB6.mono (by omega))
 have HO2 := hid hown2; have HBB := hid hB
 clear hown hown2 hB hB6
 go_wp2
 go_ret
 exact ⟨tt.cls, v, HCYC.out, rfl, HO2.out, HBB.out⟩)))
end Go.Proofs.YtbaccmlfnbgehaaGreatDoor
namespace Go.Proofs.YtbaccmlfnbgehaaGreatDoor
open Go.RowKit Pl
namespace Pl
theorem j1u {s : Lts} {x y : Nat} : tau s.norm x y ↔ tau s x y := p0j y0k _ s.es
theorem x2y {s : Lts} {x y : Nat} : TR s.norm x y ↔ TR s x y := by
 constructor
 · intro h
   induction h with
   | refl => exact .refl
   | tail _ ht ih => exact ih.tail (j1u.1 ht)
 · intro h
   induction h with
   | refl => exact .refl
   | tail _ ht ih => exact ih.tail (j1u.2 ht)
theorem Cyc.of_norm {s : Lts} {n : Nat} {f : Nat -> Int} (h : Cyc s.norm n f) : Cyc s n f :=
  ⟨fun x y hx hy => by rw [h.same x y hx hy, x2y, x2y], fun x y hxy => h.down x y (j1u.2 hxy)⟩
end Pl
theorem y0g {p : Addr} {s : Lts} {n : Nat} (h : s.Right) (hn : s.st = (n : Int)) {a : Option Addr} {b off c : Nat} {w : World} (hG : GErr 15 p w) (hS : SlAt encE 3 w a b off s.es) :
    Calls prog 160 #[.agg #[.int .i64 s.st, .int .i64 s.lb, .int .i64 s.s0, .slice a s.es.length c]] w fun e w' =>
      ∃ (f : Nat -> Int) (v : Value), Cyc s n f /\ e = .returned (.tuple #[v, .nilIface]) /\ w'.ownsRow w.heap.size 3 1 v n ((fl n (clf n f)).flatMap encI) /\ Below w.heap.size w w' := by
 have hB0 := (Below.refl w.heap.size w).alloc (l7 _) (Obj.cells #[.int .i64 s.st, .int .i64 s.lb, .int .i64 s.s0, .slice a s.es.length c] 24)
 have hN := v1k (c := c) h (hG.below hB0) (hS.below hB0 (l7 _))
 have HN := Lib.hid hN; have HB0 := Lib.hid hB0; have HNN := Lib.hid hn
 clear hN hB0 hS hG h hn
 go_enter func160, ntmps160
 go_wp2_with fail
 refine HN.out.mono ?_
 rintro e w1 ⟨gb, rfl, hGr, hB1, _⟩
 have HC := Lib.hid (j2v (n := n) hGr HNN.out)
 have HB1 := Lib.hid (HB0.out.trans (hB1.mono (by simp)))
 clear hB1 hGr
 go_wp2_with fail
 refine HC.out.mono ?_
 rintro e w2 ⟨f, v, hcyc, rfl, hown, hB2⟩
 have HO := Lib.hid (j0r hown HB1.out.size)
 have HB2 := Lib.hid (HB1.out.trans (hB2.mono HB1.out.size))
 have HCY := Lib.hid hcyc.of_norm
 clear hown hB2 hcyc
 go_wp2
 go_ret2
 exact ⟨f, v, HCY.out, rfl, HO.out, HB2.out⟩
end Go.Proofs.YtbaccmlfnbgehaaGreatDoor
namespace Go.Proofs.YtbaccmlfnbgehaaGreatDoor
open Go.RowKit Pl
theorem z1b {α : Type} {xs ys : List α} (hl : xs.length = ys.length) (h : ∀ j, j < xs.length -> xs[j]? = ys[j]?) : xs = ys := by
 apply List.ext_getElem? ; intro i
 by_cases hi : i < xs.length
 · exact h i hi
 · rw [List.getElem?_eq_none (by omega), List.getElem?_eq_none (by omega)]
theorem z0w {a1 a2 : Option Addr} {b1 o1 c1 b2 o2 c2 : Nat} {xs ys : List Int} {w : World} (h1 : SlAt encI 1 w a1 b1 o1 xs) (h2 : SlAt encI 1 w a2 b2 o2 ys) (hx : xs.length <= 9223372036854775807) (hy : ys.length <= 9223372036854775807) :
    Calls prog 128 #[.slice a1 xs.length c1, .slice a2 ys.length c2] w fun e w' => e = .returned (.bool (decide (xs = ys))) /\ ∃ n, w' = w.drewN n := by
 by_cases hl : xs.length = ys.length
 · have hlB : ((xs.length : Int) != (ys.length : Int)) = false := by simp [hl]
   have HL := Lib.hid hl; clear hl
   go_enter func128, ntmps128
   go_wp2
   go_loopw [5, 13] (fun _ i wr => ∃ k m : Nat, k <= xs.length /\ i = .int .i64 k /\ (∀ j, j < k -> xs[j]? = ys[j]?) /\ wr = w.drewN m)
     (fun _ i _ => xs.length - (intOf i).toNat)
   case atStart => exact ⟨0, 0, l8 _, rfl, by intro j hj; omega, rfl⟩
   case round =>
     obtain ⟨k, m, hk, rfl, heq, rfl⟩ := hrel
     have HE := Lib.hid heq; clear heq
     by_cases hlt : k < xs.length
     · have hlt2 : k < ys.length := by rw [<- HL.out]; exact hlt
       obtain ⟨x, hxk⟩ := j0a hlt
       obtain ⟨y, hyk⟩ := j0a hlt2
       obtain rfl := h1.ad (by omega)
       obtain rfl := h2.ad (by omega)
       have hc0 := h1.ci hxk
       have hc1 := h2.ci hyk
       have hi1 : (k : Int) < (xs.length : Int) := by omega
       have hi2 : (k : Int) < (ys.length : Int) := by omega
       have HX := Lib.hid hxk; have HY := Lib.hid hyk
       clear h1 h2 hxk hyk
       by_cases hxy : x = y
       · have hb : (x != y) = false := by simp [hxy]
         have HXY := Lib.hid hxy; clear hxy
         go_wp2_with fail
         go_quiet (fail)
         go_wp2
         go_roundw
         case rel => exact ⟨k + 1, _, by omega, by go_num, by
           intro j hj
           by_cases hjk : j = k
           · subst hjk; rw [HX.out, HY.out, HXY.out]
           · exact HE.out j (by omega), rfl⟩
         case measure => simp [intOf]; omega
       · have hb : (x != y) = true := by simp [hxy]
         have HXY := Lib.hid hxy; clear hxy
         go_wp2_with fail
         go_quiet (fail)
         go_wp2
         go_ret
         refine ⟨?_, _, World.drewN_drewN _ _ _⟩
         have : xs ≠ ys := fun e => HXY.out (by have h1 := HX.out; have h2 := HY.out; rw [e, h2] at h1; simpa using h1.symm)
         simp [this]
     · clear h1 h2
       have hkk : k = xs.length := by omega
       go_wp2
       go_ret
       refine ⟨?_, _, rfl⟩
       have : xs = ys := z1b HL.out (by rw [<- hkk]; exact HE.out)
       simp [this]
 · have hlB : ((xs.length : Int) != (ys.length : Int)) = true := by simp; omega
   go_enter func128, ntmps128
   go_wp2
   go_ret
   have : xs ≠ ys := fun e => hl (by rw [e])
   exact ⟨by simp [this], 0, rfl⟩
end Go.Proofs.YtbaccmlfnbgehaaGreatDoor
namespace Go.Proofs.YtbaccmlfnbgehaaGreatDoor
open Go.RowKit Pl
end Go.Proofs.YtbaccmlfnbgehaaGreatDoor
namespace Go.Proofs.YtbaccmlfnbgehaaGreatDoor
open Go.RowKit Pl
set_option maxRecDepth 100000 in
theorem sameInts_any {a1 a2 : Option Addr} {b1 o1 c1 b2 o2 c2 : Nat} {xs ys : List Int} {w : World} (h1 : SlAt encI 1 w a1 b1 o1 xs) (h2 : SlAt encI 1 w a2 b2 o2 ys) (hx : xs.length <= 4611686018427387904) (hy : ys.length <= 4611686018427387904) :
    Calls prog 14 #[.slice a1 xs.length c1, .slice a2 ys.length c2] w fun e w' => e = .returned (.bool (decide (xs = ys))) /\ ∃ n, w' = w.drewN n := by
  by_cases hl : xs.length = ys.length
  · have hlB : ((xs.length : Int) != (ys.length : Int)) = false := by simp [hl]
    have HL := Lib.hid hl; clear hl
    go_enter func14, ntmps14
    go_wp2
    go_loopw [5] (fun i wr => ∃ k m : Nat, k <= xs.length /\ i = .int .i64 k /\ (∀ j, j < k -> xs[j]? = ys[j]?) /\ wr = w.drewN m)
      (fun i _ => xs.length - (intOf i).toNat)
    case atStart => exact ⟨0, 0, l8 _, rfl, by intro j hj; omega, rfl⟩
    case round =>
      obtain ⟨k, m, hk, rfl, heq, rfl⟩ := hrel
      have HE := Lib.hid heq; clear heq
      by_cases hlt : k < xs.length
      · have hlt2 : k < ys.length := by rw [<- HL.out]; exact hlt
        obtain ⟨x, hxk⟩ := j0a hlt
        obtain ⟨y, hyk⟩ := j0a hlt2
        obtain rfl := h1.ad (by omega)
        obtain rfl := h2.ad (by omega)
        have hc0 := h1.ci hxk
        have hc1 := h2.ci hyk
        have hi1 : (k : Int) < (xs.length : Int) := by omega
        have hi2 : (k : Int) < (ys.length : Int) := by omega
        have HX := Lib.hid hxk; have HY := Lib.hid hyk
        clear h1 h2 hxk hyk
        by_cases hxy : x = y
        · have hb : (x == y) = true := by simp [hxy]
          have HXY := Lib.hid hxy; clear hxy
          go_wp2_with fail
          go_quiet (fail)
          go_wp2
          go_roundw
          case rel => exact ⟨k + 1, _, by omega, by go_num, by
            intro j hj
            by_cases hjk : j = k
            · subst hjk; rw [HX.out, HY.out, HXY.out]
            · exact HE.out j (by omega), rfl⟩
          case measure => simp [intOf]; omega
        · have hb : (x == y) = false := by simp [hxy]
          have HXY := Lib.hid hxy; clear hxy
          go_wp2_with fail
          go_quiet (fail)
          go_wp2
          go_ret
          refine ⟨?_, _, World.drewN_drewN _ _ _⟩
          have : xs ≠ ys := fun e => HXY.out (by have h1 := HX.out; have h2 := HY.out; rw [e, h2] at h1; simpa using h1.symm)
          simp [this]
      · clear h1 h2
        have hkk : k = xs.length := by omega
        go_wp2
        go_ret
        refine ⟨?_, _, rfl⟩
        have : xs = ys := z1b HL.out (by rw [<- hkk]; exact HE.out)
        simp [this]
  · have hlB : ((xs.length : Int) != (ys.length : Int)) = true := by simp; omega
    go_enter func14, ntmps14
    go_wp2
    go_ret
    have : xs ≠ ys := fun e => hl (by rw [e])
    exact ⟨by simp [this], 0, rfl⟩
end Go.Proofs.YtbaccmlfnbgehaaGreatDoor
namespace Go.Proofs.YtbaccmlfnbgehaaGreatDoor
open Go.RowKit Pl Go.Maps
open Lib (hid)
structure SetD (D : DataW Unit) (s : List Int) : Prop where
  has : ∀ x : Int, Maps.has D (.int .i64 x) = decide (x ∈ s)
  len : Maps.size D = s.length
theorem SetD.nil : SetD (.map []) [] := ⟨fun x => by simp [Maps.has], rfl⟩
theorem SetD.add {D : DataW Unit} {s : List Int} {x : Int} (h : SetD D s) (ht : Tidy D) : SetD (D.put (.int .i64 x) (.agg [])) (addN s x) where
  has y := by
    have hm : (y ∈ addN s x) ↔ y ∈ s ∨ y = x := v1q
    by_cases e : y = x
    · subst e; rw [has_put_same (k := .int .i64 y) ht.isMap trivial]; simp [hm]
    · rw [has_put_other (by intro h; cases h; exact e rfl), h.has]; simp [hm, e]
  len := by
    rw [size_put ht, h.has]
    unfold addN
    by_cases hx : x ∈ s
    · simp [hx, h.len]
    · simp [hx, h.len]
theorem y0v {w : World} {a : Option Addr} {b off c : Nat} {xs : List Int} (hS : SlAt encI 1 w a b off xs) (hn : xs.length <= 1000000) (hwf : ∀ x ∈ xs, (Lit.int .i64 x).wf = true) :
    Calls prog 152 #[.slice a xs.length c] w fun e w' => e = .returned (.int .i64 ((dist xs).length : Int)) /\ Below w.heap.size w w' := by
 obtain ⟨n, hnn⟩ : ∃ n, n = xs.length := ⟨_, rfl⟩
 rw [<- hnn] at hn ⊢
 have hmm := @run_makeMap prog
 have HS := hid hS; have HWF := hid hwf; have HNN := hid hnn
 clear hS hwf hnn
 go_enter func152, ntmps152
 go_wp2_with fail
 go_loopw [5, 9] (fun _ i wr => ∃ (k : Nat) (D : DataW Unit), k <= n /\ i = .int .i64 k /\ SetD D (dist (xs.take k)) /\ wr.ownsMap prog 3 unitElem w.heap.size k D /\ Below w.heap.size w wr)
   (fun _ i _ => n - (intOf i).toNat)
 case atStart => exact ⟨0, .map [], l8 _, rfl, by simpa [dist] using SetD.nil, World.ownsMap_made _ _ _ _, (Below.refl _ _).alloc (l7 _) _⟩
 case round => (
 obtain ⟨k, D, hk, rfl, hmd, hown, hB⟩ := hrel
 have hsz := hB.size
 have hmlt := hown.lt
 have HMD := hid hmd; have HOWN := hid hown; have HB := hid hB
 clear hmd hown hB
 by_cases hlt : k < n
 · (
 obtain ⟨x, hx⟩ := j0a (xs := xs) (i := k) (by have := HNN.out; omega)
 obtain rfl := HS.out.ad (by have := HNN.out; omega)
 have hcx := (HS.out.below HB.out (l7 _)).ci hx
 have hkey := keyOf_int_mk underlying3 (HWF.out x (List.mem_of_getElem? hx))
 have hkn : (k : Int) < (n : Int) := by omega
 have HX := hid hx
 clear hx
 go_wp2_with (at_mapUpdate; refine wpList_mapUpdate_own _ rfl _ _ _ 237 rfl 3 238 j1d underlying237 _ w.heap.size k D rfl HOWN.out (by unfold maxLen; omega) _ _ _ rfl rfl hkey _ [] unitElem_mk ?_; intro w1 hown1 hgrow1)
 have hB1 := HB.out.grown hgrow1 hsz (fun j hj => by cases hj; exact l7 _)
 have hmd1 := HMD.out.add (x := x) (HOWN.out.tidy j1d)
 rw [<- k0j, <- take_snoc HX.out] at hmd1
 have HB1 := hid hB1; have HMD1 := hid hmd1; have HOWN1 := hid hown1
 clear hB1 hmd1 hown1 hgrow1
 go_roundw
 case rel => exact ⟨k + 1, _, by omega, by go_num, HMD1.out, HOWN1.out, HB1.out⟩
 case measure => simp [intOf]; omega)
 · (
 obtain rfl : k = n := by omega
 have hml := HMD.out.len
 rw [List.take_of_length_le (by have := HNN.out; omega)] at hml
 have HML := hid hml
 clear hml
 go_wp2_with (at_len; refine wpList_len_own _ rfl _ 237 rfl 3 238 underlying237 _ w.heap.size k D rfl HOWN.out ?_; rw [HML.out])
 go_ret
 exact ⟨rfl, HB.out⟩))
end Go.Proofs.YtbaccmlfnbgehaaGreatDoor

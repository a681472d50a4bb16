/-
  Lemmas.
-/
import Derived.Test.YtjchdegapadepaaGreatDoorTauF
import Derived.Test.YtjchdegapadepaaGreatDoorGPl3
import Derived.Test.YtjchdegapadepaaGreatDoorGCanon
import Derived.Test.YtjchdegapadepaaGreatDoorGAs
import Derived.Test.YtjchdegapadepaaGreatDoorGNew
import Derived.Test.YtjchdegapadepaaGreatDoorGPl6
set_option maxRecDepth 100000
namespace Go.Proofs.YtjchdegapadepaaGreatDoor
open Go.RowKit Pl
open Lib (hid)
def t0S : TS := ⟨fun _ => 0, fun _ => 0, fun _ => 0, [], 0, 0⟩
theorem p0y {w2 : World} {z : Value} {n b : Nat} {T : TypeId} (h : w2.heap[b]? = some (.cells (madeCells #[z] n) T (0, 0))) : w2.rowIs b T n (fun _ => z) :=
  ⟨_, h, size_madeCells _ _, fun i hi => by simp [madeCells, hi, Nat.mod_one]⟩
theorem TW.start {w0 W : World} {WB LB NB IB CB n : Nat} {gp : Value}
    (hw : W.heap[WB]? = some (.cells #[gp, .slice (some ⟨LB, 0, none⟩) n n, .slice (some ⟨NB, 0, none⟩) n n, .slice none 0 0, .slice (some ⟨IB, 0, none⟩) n n, .slice (some ⟨CB, 0, none⟩) n n, .int .i64 0, .int .i64 0, .slice none 0 0] 185 (0, 0)))
    (hl : W.heap[LB]? = some (.cells (madeCells #[.int .i64 0] n) 3 (0, 0))) (hn : W.heap[NB]? = some (.cells (madeCells #[.int .i64 0] n) 3 (0, 0)))
    (hi : W.heap[IB]? = some (.cells (madeCells #[.bool false] n) 4 (0, 0))) (hc : W.heap[CB]? = some (.cells (madeCells #[.int .i64 0] n) 3 (0, 0)))
    (hB : Below w0.heap.size w0 W) (hlo : w0.heap.size <= WB /\ w0.heap.size <= LB /\ w0.heap.size <= NB /\ w0.heap.size <= IB /\ w0.heap.size <= CB)
    (hne : WB ≠ LB /\ WB ≠ NB /\ WB ≠ IB /\ WB ≠ CB /\ LB ≠ NB /\ LB ≠ IB /\ LB ≠ CB /\ NB ≠ IB /\ NB ≠ CB /\ IB ≠ CB) :
    TWS w0 W W.heap.size WB LB NB IB CB n gp t0S [] (.slice none 0 0) (.slice none 0 0) := by
 have h1 := (Array.getElem?_eq_some_iff.1 hw).1
 have h2 := (Array.getElem?_eq_some_iff.1 hl).1
 have h3 := (Array.getElem?_eq_some_iff.1 hn).1
 have h4 := (Array.getElem?_eq_some_iff.1 hi).1
 have h5 := (Array.getElem?_eq_some_iff.1 hc).1
 obtain ⟨q1, q2, q3, q4, q5, q6, q7, q8, q9, q10⟩ := hne
 exact ⟨⟨⟨hlo.1, hlo.2.1, hlo.2.2.1, hlo.2.2.2.1, hlo.2.2.2.2, hB.size⟩, ⟨h1, h2, h3, h4, h5⟩, ⟨q1, q2, q3, q4⟩, ⟨q5, q6, q7⟩, ⟨q8, q9, q10⟩⟩, hB, Nat.le_refl _, hw, p0y hl, p0y hn, (p0y hi).congr (fun i _ => by simp [t0S]), p0y hc,
   World.ownsRow_nil _ _ _ _, World.ownsRow_nil _ _ _ _, fun g hg => by simp [Value.ownBlock] at hg⟩
theorem wfI {x : Int} (h0 : 0 <= x) (h1 : x <= 1000000) : (Lit.int .i64 x).wf = true := by
 rw [show x = ((x.toNat : Nat) : Int) by omega]
 exact WalkArith.wf_i64 (by omega)
theorem k2i {w : World} {tb n : Nat} {f : Nat -> Int} (h : w.rowIs tb 3 n (fun j => .int .i64 (f j))) : SlAt encI 1 w (some ⟨tb, 0, none⟩) tb 0 (fl n f) :=
  ⟨fun _ => rfl, fun _ => h.lt, fun i x hx j u hu => by
    have hi := (List.getElem?_eq_some_iff.1 hx).1
    rw [j0g] at hi
    have hxe : x = f i := by
      rw [j0h f hi] at hx
      simpa using hx.symm
    have hj := (List.getElem?_eq_some_iff.1 hu).1
    rw [k0v] at hj
    obtain rfl : j = 0 := by omega
    have h2 := h.cell hi
    simp only [encI, List.getElem?_cons_zero, Option.some.injEq] at hu
    rw [<- hu, hxe, Nat.zero_add, Nat.mul_one, Nat.add_zero]
    exact h2⟩
def CycPost (s : Lts) (n : Nat) (w : World) (e : Ending) (w' : World) : Prop :=
  ∃ (f : Nat -> Int) (v : Value), Cyc s n f /\ e = .returned v /\ w'.ownsRow w.heap.size 3 1 v n ((fl n (clf n f)).flatMap encI) /\ Below w.heap.size w w'
set_option maxHeartbeats 8000000 in
theorem u1t {s : Lts} {w : World} {gb n : Nat} (hG : GraphAt w gb s) (hn : s.st = (n : Int)) :
    Calls Tryz.prog 101 #[.pointer (some ⟨gb, 0, none⟩)] w (CycPost s n w) := by
 have hst := hG.right.st0
 have hn1 : n <= 1000 := by omega
 have hgs := j0m hG
 rw [hn] at hgs
 have HGS := hid hgs; have HG := hid hG; have HN := hid hn
 have hmk := run_make_row' (P := Tryz.prog) 27 3 (.int .i64 0) 8 Tryz.underlying27 (by kernel_rfl) rfl .i64 .i64 n (by omega) (by omega)
 have hmb := run_make_row' (P := Tryz.prog) 52 4 (.bool false) 1 Tryz.underlying52 (by kernel_rfl) rfl .i64 .i64 n (by omega) (by omega)
 clear hgs hG hn hst
 go_enter Tryz.func101, Tryz.ntmps101
 go_wp2_with fail
 refine HGS.out.mono ?_
 rintro e w1 ⟨rfl, hB1⟩
 have HB1 := hid hB1
 clear hB1
 go_upto_region 2 with fail
 go_cut [4] from 6 to 18 (fun s4 wx => ∃ (WB LB NB IB CB B : Nat), s4 = .pointer (some ⟨WB, 0, none⟩) /\ TWS w1 wx B WB LB NB IB CB n (.pointer (some ⟨gb, 0, none⟩)) t0S [] (.slice none 0 0) (.slice none 0 0))
 case first => (
 go_region
 all_goals (
 go_wp2_with fail
 go_meet
 refine ⟨_, _, _, _, _, _, rfl, TW.start (j0d _ _ _ (by simp)) ?_ ?_ ?_ ?_ ?_ ?_ ?_⟩
 · show (World.alloc _ _).heap[_]? = _
   repeat (first | (refine j0d _ _ _ ?_; simp; done) | (refine (Below.heap_alloc _ _ _ ?_).trans ?_; · (simp <;> omega)))
 · show (World.alloc _ _).heap[_]? = _
   repeat (first | (refine j0d _ _ _ ?_; simp; done) | (refine (Below.heap_alloc _ _ _ ?_).trans ?_; · (simp <;> omega)))
 · show (World.alloc _ _).heap[_]? = _
   repeat (first | (refine j0d _ _ _ ?_; simp; done) | (refine (Below.heap_alloc _ _ _ ?_).trans ?_; · (simp <;> omega)))
 · show (World.alloc _ _).heap[_]? = _
   repeat (first | (refine j0d _ _ _ ?_; simp; done) | (refine (Below.heap_alloc _ _ _ ?_).trans ?_; · (simp <;> omega)))
 · refine Below.drew ?_
   repeat (refine Below.alloc ?_ (by simp <;> omega) _)
   exact Below.refl _ _
 · omega
 · omega))
 case rest => (
 obtain ⟨WB, LB, NB, IB, CB, B, rfl, htw⟩ := hcut
 have HT := hid htw
 have HGR := hid (HG.out.below HB1.out)
 have HTI := hid (TI.start s n (fun _ => 0) (fun _ => 0) (fun _ => 0))
 clear hmk hmb htw
 go_wp2_with fail
 go_loopw [20] (fun v20 wr => ∃ (k : Nat) (tt : TS) (nx : Nat -> Nat) (vo vs : Value), v20 = .int .i64 k /\ k <= n /\ TI s n tt [] nx /\ TWS w1 wr B WB LB NB IB CB n (.pointer (some ⟨gb, 0, none⟩)) tt [] vo vs /\ (∀ z, z < k -> tt.num z ≠ 0))
   (fun v20 _ => n - (intOf v20).toNat)
 case atStart => exact ⟨0, t0S, fun _ => 0, _, _, rfl, Nat.zero_le _, HTI.out, HT.out, by intro z hz; omega⟩
 case round => (
 obtain ⟨k, tt, nx, vo, vs, rfl, hk, hti, htw, hall⟩ := hrel
 obtain ⟨c0, c1, c2, c3, c4, c5, c6, c7, c8⟩ := TW.cells htw
 obtain ⟨l1, l2, l3, l4, l5, l6⟩ := TW.lts htw
 have HTI2 := hid hti; have HTW := hid htw; have HALL := hid hall
 clear hti hall HT HTI
 by_cases hlt : k < n
 · (
 have hki : (k : Int) < (n : Int) := by omega
 have g2 := (TW.num htw).cell hlt
 obtain ⟨ny, hny⟩ : ∃ ny, ny = tt.num k := ⟨_, rfl⟩
 rw [<- hny] at g2
 have HNY := hid hny
 clear htw hny c0 c1 c3 c4 c5 c6 c7 c8 l2 l4 l5 l6
 by_cases h0 : ny = 0
 · (
 have hb : (ny == 0) = true := by simp [h0]
 have hfr := from_any HGR.out HN.out HTI2.out HTW.out hlt (by rw [<- HNY.out]; exact h0)
 have HFR := hid hfr
 clear h0 hfr
 go_wp2_with fail
 refine HFR.out.mono ?_
 rintro e w5 ⟨t', nx', vo', vs', rfl, hti', htw', hky, hmon⟩
 have HTI3 := hid hti'; have HTW3 := hid htw'
 have hall' : ∀ z, z < k + 1 -> t'.num z ≠ 0 := fun z hz => by (
 by_cases e : z = k
 · subst e; exact hky
 · exact hmon z (HALL.out z (by omega)))
 have HALL3 := hid hall'
 clear hti' htw' hky hmon hall' g2 c2 l1 l3
 go_wp2_with fail
 go_roundw
 case rel => exact ⟨k + 1, t', nx', vo', vs', by go_num, by omega, HTI3.out, HTW3.out, HALL3.out⟩
 case measure => simp [intOf]; omega)
 · (
 have hb : (ny == 0) = false := by simp [h0]
 have hall' : ∀ z, z < k + 1 -> tt.num z ≠ 0 := fun z hz => by (
 by_cases e : z = k
 · subst e; rw [<- HNY.out]; exact h0
 · exact HALL.out z (by omega))
 have HALL3 := hid hall'
 clear h0 hall'
 go_wp2_with fail
 go_roundw
 case rel => exact ⟨k + 1, tt, nx, vo, vs, by go_num, by omega, HTI2.out, HTW.out, HALL3.out⟩
 case measure => simp [intOf]; omega))
 · (
 obtain rfl : k = n := by omega
 have hcyc := HTI2.out.cyc HGR.out.right HN.out HALL.out
 have hcls : ∀ x, x < k -> 0 <= tt.cls x /\ tt.cls x <= 1000 := fun x hx => by (
 have h1 := HTI2.out.cls0 x hx ⟨HALL.out x hx, by rw [HTI2.out.done]; simp⟩
 have h2 := HTI2.out.cnt; have h3 := HTI2.out.met_le
 simp at h2; omega)
 have hsl : SlAt encI 1 wr (some ⟨CB, 0, none⟩) CB 0 (fl k tt.cls) := k2i (TW.cls htw)
 have hca := p0v (c := k) hsl (by rw [j0g]; omega) (fun x hx => by (
 obtain ⟨i, hi, rfl⟩ := List.mem_map.1 (show x ∈ (List.range k).map tt.cls from hx)
 rw [List.mem_range] at hi
 have := hcls i hi
 exact wfI (by omega) (by omega)))
 rw [j0g, j0u] at hca
 have hbl := TW.bel htw
 have HCA := hid hca; have HCYC := hid hcyc; have HBL := hid hbl
 clear hcyc hcls hsl hca hbl htw c0 c1 c2 c3 c4 c6 c7 c8 l2 l3 l4 l5 l6
 go_wp2_with fail
 refine HCA.out.mono ?_
 rintro e w6 ⟨v, rfl, hown, hB6⟩
 have hs1 := HB1.out.size; have hs2 := HBL.out.size
 have hown2 := j0o hown (show w.heap.size <= wr.heap.size by omega)
 have hB := (HB1.out.trans (HBL.out.mono hs1)).trans (hB6.mono (by omega))
 have HO2 := hid hown2; have HBB := hid hB
 clear hown hown2 hB hB6
 go_wp2
 go_ret
 exact ⟨tt.cls, v, HCYC.out, rfl, HO2.out, HBB.out⟩)))
end Go.Proofs.YtjchdegapadepaaGreatDoor
namespace Go.Proofs.YtjchdegapadepaaGreatDoor
open Go.RowKit Pl
namespace Pl
theorem j1g {s : Lts} {x y : Nat} : tau s.norm x y ↔ tau s x y := j0t p0p _ s.es
theorem x2v {s : Lts} {x y : Nat} : TR s.norm x y ↔ TR s x y := by
 constructor
 · intro h
   induction h with
   | refl => exact .refl
   | tail _ ht ih => exact ih.tail (j1g.1 ht)
 · intro h
   induction h with
   | refl => exact .refl
   | tail _ ht ih => exact ih.tail (j1g.2 ht)
theorem Cyc.of_norm {s : Lts} {n : Nat} {f : Nat -> Int} (h : Cyc s.norm n f) : Cyc s n f :=
  ⟨fun x y hx hy => by rw [h.same x y hx hy, x2v, x2v], fun x y hxy => h.down x y (j1g.2 hxy)⟩
end Pl
def tauName : ByteArray := ⟨#[116, 97, 117, 115, 99, 99]⟩
def Fault2 (w : World) (p : Addr) (v : Value) : Prop :=
  ∃ vi, FaultAt w v tauName vi /\ FaultAt w vi sysName (.iface 247 (.pointer (some p)))
theorem Fault2.below {w w' : World} {p : Addr} {v : Value} (h : Fault2 w p v) (hB : Below w.heap.size w w') : Fault2 w' p v := by
 obtain ⟨vi, h1, h2⟩ := h
 exact ⟨vi, h1.below hB, h2.below hB⟩
theorem k1p {p : Addr} {s : Lts} {n : Nat} (h : s.Right) (hn : s.st = (n : Int)) {a : Option Addr} {b off c : Nat} {w : World} (hG : GErr 10 p w) (hS : SlAt encE 3 w a b off s.es) :
    Calls Tryz.prog 60 #[.agg #[.int .i64 s.st, .int .i64 s.lb, .int .i64 s.s0, .slice a s.es.length c]] w fun e w' =>
      ∃ (f : Nat -> Int) (v : Value), Cyc s n f /\ e = .returned (.tuple #[v, .nilIface]) /\ w'.ownsRow w.heap.size 3 1 v n ((fl n (clf n f)).flatMap encI) /\ Below w.heap.size w w' := by
 have hB0 := (Below.refl w.heap.size w).alloc (Nat.le_refl _) (Obj.cells #[.int .i64 s.st, .int .i64 s.lb, .int .i64 s.s0, .slice a s.es.length c] 24)
 have hN := z0t (c := c) h (hG.below hB0) (hS.below hB0 (Nat.le_refl _))
 have HN := Lib.hid hN; have HB0 := Lib.hid hB0; have HNN := Lib.hid hn
 clear hN hB0 hS hG h hn
 go_enter Tryz.func60, Tryz.ntmps60
 go_wp2_with fail
 refine HN.out.mono ?_
 rintro e w1 ⟨gb, rfl, hGr, hB1, _⟩
 have HC := Lib.hid (u1t (n := n) hGr HNN.out)
 have HB1 := Lib.hid (HB0.out.trans (hB1.mono (by simp)))
 clear hB1 hGr
 go_wp2_with fail
 refine HC.out.mono ?_
 rintro e w2 ⟨f, v, hcyc, rfl, hown, hB2⟩
 have HO := Lib.hid (j0o hown HB1.out.size)
 have HB2 := Lib.hid (HB1.out.trans (hB2.mono HB1.out.size))
 have HCY := Lib.hid hcyc.of_norm
 clear hown hB2 hcyc
 go_wp2
 go_ret2
 exact ⟨f, v, HCY.out, rfl, HO.out, HB2.out⟩
end Go.Proofs.YtjchdegapadepaaGreatDoor

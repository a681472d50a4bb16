/-
  Lemmas.
-/
import Derived.Test.YtjchdegapadepaaGreatDoorGCanon
import Derived.Test.YtjchdegapadepaaGreatDoorGQuoB
import Derived.Test.YtjchdegapadepaaGreatDoorGForms
import Derived.Test.YtjchdegapadepaaGreatDoorGRefReach
import Derived.Test.YtjchdegapadepaaGreatDoorTauI
import Derived.Deep.RegionHeldLaw
import Derived.Deep.QuietTactic
import Derived.BigQuiet
import Derived.IntWalk
open List renaming getElem_toArray -> qga, getElem_cons_zero -> qgz, getElem_cons_succ -> qgs, setIfInBounds_toArray -> qgt, set_cons_zero -> qgx, set_cons_succ -> qgy
namespace Go.Proofs.YtjchdegapadepaaGreatDoor
namespace Pl
def inR (s : Lts) (C : Nat -> Int) (i : Nat) : List S := (s.norm.outs (i : Int)).filter (fun y => decide (y.1 = 0) && decide (C y.2.toNat = C i))
noncomputable def G12 (s : Lts) (C : Nat -> Int) (p q : Nat) : Bool := decide ((q : Int) ∈ reachL (tauOf (inertS s.norm C) (p : Int)))
noncomputable def stp12 (s : Lts) (C : Nat -> Int) (n p : Nat) : List S := sigR s.norm C (G12 s C p) p n
theorem g12_iff {s : Lts} {n : Nat} (hr : s.Right) (hn : s.st = (n : Int)) {C : Nat -> Int} {p q : Nat} (hp : p < n) : G12 s C p q = true ↔ TR (inertS s.norm C) p q := by
 have hrn := y0o (C := C) hr.norm
 have h1 : (inertS s.norm C).st = (n : Int) := hn
 unfold G12
 rw [decide_eq_true_eq, k0p (z0e hrn (by omega) (by rw [h1]; omega)) (by show (inertS s.norm C).st ≠ 0; rw [h1]; omega), rch_tauB hrn]
theorem stp12_ok {s : Lts} {n : Nat} (hr : s.Right) (hn : s.st = (n : Int)) {C : Nat -> Int} {p : Nat} (hp : p < n) : SigOk s.norm C p (stp12 s C n p) :=
  sigR_ok hr.norm hn (fun _ _ => g12_iff hr hn hp)
theorem q1p {α β γ : Type} {f : α -> List β} {g : α -> List γ} (h : ∀ x, (f x).length <= (g x).length) : ∀ L : List α, (L.flatMap f).length <= (L.flatMap g).length
  | [] => by simp
  | x :: L => by rw [List.flatMap_cons, List.flatMap_cons, List.length_append, List.length_append]; have := h x; have := q1p h L; omega
theorem k2l (C : Nat -> Int) (p q : Nat) (l : List S) : (shareE C p q l).length <= l.length := by
 unfold shareE; rw [List.length_map]; exact List.length_filter_le _ _
theorem x1o (s : Lts) (C : Nat -> Int) (G : Nat -> Bool) (p m : Nat) : (sigE s C G p m).length <= s.es.length := by
 refine Nat.le_trans (q1p (g := fun q : Nat => s.outs (q : Int)) (fun q => ?_) _) (z0r (List.range m) List.nodup_range s.st s.lb s.s0 s.es)
 by_cases h : G q = true
 · rw [if_pos h]; exact k2l C p q _
 · rw [if_neg h]; simp
theorem k2k (s : Lts) (C : Nat -> Int) (G : Nat -> Bool) (p q : Nat) : sigE s C G p (q + 1) = sigE s C G p q ++ (if G q then shareE C p q (s.outs (q : Int)) else []) := by
 unfold sigE
 rw [List.range_succ, List.flatMap_append]
 simp
theorem z0k (C : Nat -> Int) (p q : Nat) (l : List S) (x : S) : shareE C p q (l ++ [x]) = shareE C p q l ++ (if x.1 = 0 /\ C x.2.toNat = C q then [] else [((p : Int), x.1, C x.2.toNat)]) := by
 unfold shareE
 rw [List.filter_append, List.map_append]
 by_cases h : x.1 = 0 /\ C x.2.toNat = C q
 · rw [if_pos h]; simp [h.1, h.2]
 · rw [if_neg h]
   have : (decide (x.1 = 0) && decide (C x.2.toNat = C q)) = false := by
     rw [Bool.eq_false_iff]; intro e; exact h (by simpa using e)
   simp only [List.filter_cons, this, Bool.not_false, if_true, List.filter_nil, List.map_cons, List.map_nil]
theorem v0t (C : Nat -> Int) (p q k : Nat) (l : List S) : (shareE C p q (l.take k)).length <= (shareE C p q l).length := by
 unfold shareE
 rw [List.length_map, List.length_map]
 exact (List.Sublist.filter _ (List.take_sublist k l)).length_le
end Pl
open Go.RowKit Pl
open Lib (hid)
set_option maxRecDepth 100000 in
set_option maxHeartbeats 16000000 in
theorem v0w {s : Lts} {n : Nat} (hr : s.Right) (hn : s.st = (n : Int)) {C : Nat -> Int} {ca : Option Addr} {cb co cc : Nat} {a : Option Addr} {b off c : Nat} {w : World} (hC : SlAt encI 1 w ca cb co (fl n C)) (hS : SlAt encE 3 w a b off s.es) (hc : s.es.length <= c) (hcm : c <= maxLen) :
    Calls Tryz.prog 25 #[.agg #[.int .i64 s.st, .int .i64 s.lb, .int .i64 s.s0, .slice a s.es.length c], .slice ca n cc] w fun e w' => ∃ (tb base : Nat), e = .returned (.slice (some ⟨tb, 0, none⟩) n n) /\ OwnRows encS 2 80 60 w' base tb n (stp12 s C n) /\ w.heap.size <= tb /\ Below w.heap.size w w' := by
 have hst := hr.st0
 have hn1 : n <= 1000 := by omega
 have hmkL := run_make_row' (P := Tryz.prog) 57 60 (.slice none 0 0) 24 Tryz.underlying57 (by kernel_rfl) rfl .i64 .i64 n (by omega) (by omega)
 obtain ⟨W, hW⟩ : ∃ W, W = w.alloc (Obj.cells #[.int .i64 s.st, .int .i64 s.lb, .int .i64 s.s0, .slice a s.es.length c] 24) := ⟨_, rfl⟩
 have hB0 : Below w.heap.size w W := by rw [hW]; exact (Below.refl w.heap.size w).alloc (Nat.le_refl _) _
 have hbx := heap_alloc_new w (Obj.cells #[.int .i64 s.st, .int .i64 s.lb, .int .i64 s.s0, .slice a s.es.length c] 24)
 rw [<- hW] at hbx
 have HOU : Hid (Calls Tryz.prog 41 #[.agg #[.int .i64 s.st, .int .i64 s.lb, .int .i64 s.s0, .slice a s.es.length c]] W fun e w' => ∃ ob, e = .returned (.slice (some ⟨ob, 0, none⟩) n n) /\ StepsIn w' ob n (fun p => s.norm.outs (p : Int)) /\ Below W.heap.size W w') := hid (by (
 refine (x0z hr (hS.below hB0 (Nat.le_refl _)) hc hcm).mono ?_
 rintro e w' ⟨ob, n', base, hn', rfl, hrows, _, hB⟩
 obtain rfl : n = n' := by omega
 exact ⟨ob, rfl, StepsIn.of hrows, hB⟩))
 have HCW := hid (hC.below hB0 (Nat.le_refl _))
 obtain ⟨el, hel⟩ : ∃ el, el = s.es.length := ⟨_, rfl⟩
 rw [hn, <- hel] at HOU hbx hW
 rw [hn, <- hel]
 have HWE := hid hW; have HB0 := hid hB0; have HBX := hid hbx; have HR := hid hr; have HN := hid hn
 obtain ⟨x0, x1, x2, x3, x4⟩ := x0v hbx
 clear hW hB0 hbx hr hn hS hC hc hcm hst hel
 go_enter Tryz.func25, Tryz.ntmps25
 go_wp2_with fail
 rw [<- HWE.out]
 refine HOU.out.mono ?_
 rintro e w1 ⟨ob, rfl, hso, hB1⟩
 have hx := (hB1.block w.heap.size x4).trans HBX.out
 have HSO := hid hso; have HX := hid hx
 have HBW := hid (HB0.out.trans (hB1.mono HB0.out.size))
 have HC1 := hid (HCW.out.below hB1 (Nat.le_refl _))
 have hobl := hso.lt
 clear x0 x1 x2 x3 x4 hso hB1 hx HOU HBX HWE HCW
 obtain ⟨x0, x1, x2, x3, x4⟩ := x0v HX.out
 go_wp2_with fail
 obtain ⟨w2, hw2⟩ : ∃ w2, w2 = w1.alloc (.cells (madeCells #[.slice none 0 0] n) 60) := ⟨_, rfl⟩
 have how : OW w2 w2 w1.heap.size n (fun _ => []) := by (
 have hs1 : w2.heap.size = w1.heap.size + 1 := by rw [hw2]; simp
 refine ⟨?_, Below.refl _ _ , fun _ _ _ => rfl⟩
 rw [hs1, hw2]
 exact OwnRows.made)
 have hb1 : Below w1.heap.size w1 w2 := by rw [hw2]; exact (Below.refl _ _).alloc (Nat.le_refl _) _
 rw [<- hw2]
 obtain ⟨lo, hlo⟩ : ∃ lo, lo = w1.heap.size := ⟨_, rfl⟩
 rw [<- hlo] at how ⊢
 have HLO := hid hlo; have HOW := hid how
 have HBS : Hid (∀ wr f, OW w2 wr lo n f -> Below w1.heap.size w1 wr) := hid (fun wr f h => by (
 have h1 := h.bel
 rw [hlo] at h1
 exact hb1.trans h1))
 rw [<- hlo] at HBS hobl
 have hxl : w.heap.size < lo := by rw [hlo]; exact x4
 clear hw2 how hb1 hlo x0 x1 x2 x3 x4
 go_loopw [7, 8] (fun v7 _ wr => ∃ i : Nat, v7 = .int .i64 i /\ i <= n /\ OW w2 wr lo n (fun q => if q < i then inR s C q else [])) (fun v7 _ _ => n - (intOf v7).toNat)
 case atStart => exact ⟨0, rfl, Nat.zero_le _, HOW.out.congr (fun i => by simp)⟩
 case round => (
 obtain ⟨i, rfl, hi, how⟩ := hrel
 have HOI := hid how
 have hbs := HBS.out _ _ how
 have hxr := (hbs.block w.heap.size (by omega)).trans HX.out
 obtain ⟨x0, x1, x2, x3, x4⟩ := x0v hxr
 have HBR := hid hbs
 clear how hxr x1 x2 x3 HOW
 by_cases hin : i < n
 · (
 have hiI : (i : Int) < (n : Int) := by omega
 obtain ⟨oa, oc, oo, off2, ho0, hos⟩ := HSO.out.at_ i hin
 obtain ⟨os, hose⟩ : ∃ os, os = s.norm.outs (i : Int) := ⟨_, rfl⟩
 rw [<- hose] at ho0 hos
 have hosl : os.length <= 10000 := by rw [hose]; exact p0d HR.out.norm _
 obtain ⟨ol, hole⟩ : ∃ ol, ol = os.length := ⟨_, rfl⟩
 rw [<- hole] at ho0 hosl
 have HO0 := hid ho0; have HOSL := hid hos; have HOE := hid hose; have HOLE := hid hole
 clear ho0 hos hose hole hbs
 go_wp2_with fail
 clear x0 x4
 go_loopw [8] (fun v8 wr => ∃ k : Nat, v8 = .int .i64 k /\ k <= ol /\ OW w2 wr lo n (fun q => if q < i then inR s C q else if q = i then (os.take k).filter (fun y => decide (y.1 = 0) && decide (C y.2.toNat = C i)) else [])) (fun v8 _ => ol - (intOf v8).toNat)
 case atStart => exact ⟨0, rfl, Nat.zero_le _, HOI.out.congr (fun q => by simp)⟩
 case round => (
 obtain ⟨k, rfl, hk, how⟩ := hrel
 have hbs := HBS.out _ _ how
 have HOW := hid how
 have o0 : wr.cell? ⟨ob, i, none⟩ = some (.slice oa ol oc) := by rw [hbs.cell (p := ⟨ob, i, none⟩) hobl]; exact HO0.out
 have ol2 : ob < wr.heap.size := by have := hbs.size; have := HLO.out; omega
 by_cases hkl : k < ol
 · (
 have hkI : (k : Int) < (ol : Int) := by omega
 obtain ⟨x, hx⟩ := j0a (xs := os) (i := k) (by rw [<- HOLE.out]; exact hkl)
 have hss := HOSL.out.below hbs (Nat.le_of_eq HLO.out.symm)
 obtain rfl := hss.ad (by rw [<- HOLE.out]; omega)
 have d0 := hss.s0 hx; have d1 := hss.s1 hx
 have dl := hss.lt (by rw [<- HOLE.out]; omega)
 have hdlo : oo < lo := by rw [HLO.out]; exact HOSL.out.lt (by rw [<- HOLE.out]; omega)
 have hxm : x ∈ s.norm.outs (i : Int) := by rw [<- HOE.out]; exact List.mem_of_getElem? hx
 have hyr := j0e.1 (HR.out.norm.edges _ (j0j.1 hxm))
 have hst2 : s.norm.st = (n : Int) := HN.out
 simp only at hyr
 obtain ⟨y1, y2⟩ := x
 simp only at d0 d1 hyr
 obtain ⟨t, rfl⟩ := Int.eq_ofNat_of_zero_le hyr.2.2.2.2.1
 have htn : t < n := by omega
 have htI : (t : Int) < (n : Int) := by omega
 have hcs := HC1.out.below hbs (Nat.le_of_eq HLO.out.symm)
 obtain rfl := hcs.ad (by rw [j0g]; omega)
 have c1 := hcs.ci (j0h C htn); have c2 := hcs.ci (j0h C hin); have cl := hcs.lt (by rw [j0g]; omega)
 have HX2 := hid hx
 have hsn : ∀ P : Bool, (decide (y1 = 0) && decide (C t = C i)) = P -> (os.take (k + 1)).filter (fun y => decide (y.1 = 0) && decide (C y.2.toNat = C i)) = (os.take k).filter (fun y => decide (y.1 = 0) && decide (C y.2.toNat = C i)) ++ (if P then [(y1, (t : Int))] else []) := fun P hP => by (
 rw [take_snoc HX2.out, List.filter_append]
 congr 1
 subst hP
 by_cases h : (decide (y1 = 0) && decide (C t = C i)) = true
 · rw [if_pos h]; simp only [List.filter_cons, Int.toNat_natCast, h, List.filter_nil]; rfl
 · rw [if_neg h]
   simp only [Bool.not_eq_true] at h
   simp only [List.filter_cons, Int.toNat_natCast, h, List.filter_nil]; rfl)
 have HSN := hid hsn
 have HBS2 := hid hbs
 clear hss hx hxm hyr hst2 hcs hsn hbs how
 by_cases hy0 : y1 = 0
 · (
 by_cases hcc : C t = C i
 · (
 have hb1 : (y1 == 0) = true := by simp [hy0]
 have hb2 : (C t == C i) = true := by simp [hcc]
 have HNX0 := hid (HSN.out true (by simp [hy0, hcc]))
 clear hy0 hcc
 go_upto_region 9 with fail
 go_quiet (fail)
 go_upto_region 10 with fail
 refine at_world (fun V => OW w2 V lo n (fun q => if q < i then inR s C q else if q = i then (os.take k).filter (fun y => decide (y.1 = 0) && decide (C y.2.toNat = C i)) else []) /\ Below wr.heap.size wr V) ⟨HOW.out.call (k0c (Below.refl _ _)), k0c (Below.refl _ _)⟩ (fun W6 hW6 => ?_)
 obtain ⟨how6, hb6⟩ := hW6
 have hsz6 := hb6.size
 have hobr : ob < wr.heap.size := ol2
 have e0 : W6.cell? ⟨ob, i, none⟩ = some (.slice (some ⟨oo, off2, none⟩) ol oc) := by rw [hb6.cell (p := ⟨ob, i, none⟩) hobr]; exact o0
 have e1 : W6.cell? ⟨oo, off2 + k * 2, none⟩ = some (.int .i64 y1) := by rw [hb6.cell (p := ⟨oo, off2 + k * 2, none⟩) dl]; exact d0
 have e2 : W6.cell? ⟨oo, off2 + k * 2 + 1, none⟩ = some (.int .i64 (t : Int)) := by rw [hb6.cell (p := ⟨oo, off2 + k * 2 + 1, none⟩) dl]; exact d1
 have HKP : Hid (∀ V, Below lo W6 V -> (V.cell? ⟨ob, i, none⟩ = some (.slice (some ⟨oo, off2, none⟩) ol oc) /\ ob < V.heap.size /\ V.cell? ⟨oo, off2 + k * 2, none⟩ = some (.int .i64 y1) /\ V.cell? ⟨oo, off2 + k * 2 + 1, none⟩ = some (.int .i64 (t : Int)) /\ oo < V.heap.size) /\ Below lo W6 V) := hid (fun V hV =>
   ⟨⟨by rw [World.cell?_of_block (w := W6) (a := ⟨ob, i, none⟩) (hV.block ob hobl)]; exact e0, by have := hV.size; omega, by rw [World.cell?_of_block (w := W6) (a := ⟨oo, off2 + k * 2, none⟩) (hV.block oo hdlo)]; exact e1, by rw [World.cell?_of_block (w := W6) (a := ⟨oo, off2 + k * 2 + 1, none⟩) (hV.block oo hdlo)]; exact e2, by have := hV.size; omega⟩, hV⟩)
 obtain ⟨v, l0, l1, l2, l3⟩ := how6.open hin
 have hll := how6.rows.size
 rw [if_neg (Nat.lt_irrefl i), if_pos rfl] at l2
 obtain ⟨va, vc, vb, rfl, _, _, _, _⟩ := j0f k1c l2
 obtain ⟨Q, hQ⟩ : ∃ Q, Q = (os.take k).filter (fun y => decide (y.1 = 0) && decide (C y.2.toNat = C i)) := ⟨_, rfl⟩
 rw [<- hQ] at l0 l2 l3
 obtain ⟨ql, hql⟩ : ∃ ql, ql = Q.length := ⟨_, rfl⟩
 rw [<- hql] at l0 l2 l3
 have hqll : ql <= 10000 := by (
 rw [hql, hQ]
 have h1 := List.length_filter_le (fun y : S => decide (y.1 = 0) && decide (C y.2.toNat = C i)) (os.take k)
 rw [List.length_take] at h1
 omega)
 have hwl : w2.heap.size <= W6.heap.size := how6.bel.size
 have hlo2 : lo < w2.heap.size := how6.rows.lt
 have HNX : Hid (∀ (w6 : World) (g cap : Nat), w6.ownsRow w2.heap.size 80 2 (.slice (some ⟨g, 0, none⟩) (ql + 1) cap) (ql + 1) (Q.flatMap encS ++ [.int .i64 y1, .int .i64 (t : Int)]) -> ((W6.alloc (.cells #[.int .i64 y1, .int .i64 (t : Int)] 80)).drew).grownBy w6 (Value.slice va ql vc).ownBlock -> ((Value.slice va ql vc).ownBlock = some g ∨ g = W6.heap.size + 1) ->
     w6.cell? ⟨lo, i, none⟩ = some (.slice va ql vc) /\ w6.frozen? ⟨lo, i, none⟩ = false /\ lo < w6.heap.size /\ Below lo W6 w6 /\ OW w2 (w6.setCell ⟨lo, i, none⟩ (.slice (some ⟨g, 0, none⟩) (ql + 1) cap)) lo n (fun q => if q < i then inR s C q else if q = i then (os.take (k + 1)).filter (fun y => decide (y.1 = 0) && decide (C y.2.toNat = C i)) else [])) := hid (fun w6 g cap ho hg hgg => by
   have hba := ((Below.refl W6.heap.size W6).alloc (Nat.le_refl _) (.cells #[.int .i64 y1, .int .i64 (t : Int)] 80)).drew
   obtain ⟨m0, m1, m2⟩ := l3 _ w6 g cap (Q ++ [(y1, (t : Int))]) hba (by rw [List.length_append, <- hql, List.flatMap_append]; exact ho) hg (hgg.imp_right (fun e => by omega))
   refine ⟨m0, m1, World.block_lt_of_cell? _ _ m0, (hba.mono (by omega)).grown hg (by have := hba.size; omega) (fun q hq => by have := (l2.lt q hq).1; omega), ?_⟩
   rw [List.length_append, <- hql] at m2
   refine m2.congr (fun q => ?_)
   by_cases e : q = i
   · subst e; rw [if_pos rfl, if_neg (Nat.lt_irrefl q), if_pos rfl, HNX0.out, hQ]; rfl
   · rw [if_neg e]
     by_cases e2 : q < i
     · rw [if_pos e2, if_pos e2]
     · rw [if_neg e2, if_neg e2, if_neg e, if_neg e])
 have HOWN := hid l2
 have HBD : Hid (Below lo W6 W6.drew) := hid (Below.refl _ _).drew
 have HBA : Hid (Below lo W6 (W6.drew.alloc (.cells #[.int .i64 y1, .int .i64 (t : Int)] 80))) := hid ((Below.refl _ _).drew.alloc (by show lo <= W6.heap.size; omega) _)
 have hobW : ob < W6.heap.size := by omega
 have hooW : oo < W6.heap.size := by omega
 clear l2 l3 hQ hql how6 hb6 o0 ol2 d0 d1 dl c1 c2 cl e0 e1 e2 hobr hsz6
 refine wp_region_held_drew (S := (fun V => (V.cell? ⟨ob, i, none⟩ = some (.slice (some ⟨oo, off2, none⟩) ol oc) /\ ob < V.heap.size /\ V.cell? ⟨oo, off2 + k * 2, none⟩ = some (.int .i64 y1) /\ V.cell? ⟨oo, off2 + k * 2 + 1, none⟩ = some (.int .i64 (t : Int)) /\ oo < V.heap.size) /\ Below lo W6 V)) (by kernel_rfl) (by (try dsimp only); exact HKP.out _ HBD.out) (fun hHeld => ?_)
 refine qT 0 (v := ?_) ?_ ?_
 rotate_left
 · intro w hSw; (try dsimp only at hSw); go_simp; try with_reducible rfl
 try simp only [qga, qgz, Act.put, qgt, qgx, qgy]
 refine qT 1 (v := ?_) ?_ ?_
 rotate_left
 · intro w hSw; (try dsimp only at hSw); go_simp; try with_reducible rfl
 try simp only [qga, qgz, qgs, Act.put, qgt, qgx, qgy]
 refine qT 2 (v := ?_) ?_ ?_
 rotate_left
 · intro w hSw; (try dsimp only at hSw); go_simp; try with_reducible rfl
 try simp only [qga, qgz, qgs, Act.put, qgt, qgx, qgy]
 refine qT 3 (v := ?_) ?_ ?_
 rotate_left
 · intro w hSw; (try dsimp only at hSw); go_simp; try with_reducible rfl
 try simp only [qga, qgz, qgs, Act.put, qgt, qgx, qgy]
 refine qT 4 (v := ?_) ?_ ?_
 rotate_left
 · intro w hSw; (try dsimp only at hSw); go_simp; try with_reducible rfl
 try simp only [qga, qgz, qgs, Act.put, qgt, qgx, qgy]
 refine qT 6 (v := ?_) ?_ ?_
 rotate_left
 · intro w hSw; (try dsimp only at hSw); go_simp; try with_reducible rfl
 try simp only [qga, qgz, qgs, Act.put, qgt, qgx, qgy]
 refine qT 7 (v := ?_) ?_ ?_
 rotate_left
 · intro w hSw; (try dsimp only at hSw); go_simp; try with_reducible rfl
 try simp only [qga, qgz, qgs, Act.put, qgt, qgx, qgy]
 refine qT 8 (v := ?_) ?_ ?_
 rotate_left
 · intro w hSw; (try dsimp only at hSw); go_simp; try with_reducible rfl
 try simp only [qga, qgz, qgs, Act.put, qgt, qgx, qgy]
 refine qT 9 (v := ?_) ?_ ?_
 rotate_left
 · intro w hSw; (try dsimp only at hSw); go_simp; try with_reducible rfl
 try simp only [qga, qgz, qgs, Act.put, qgt, qgx, qgy]
 refine qT 10 (v := ?_) ?_ ?_
 rotate_left
 · intro w hSw; (try dsimp only at hSw); go_simp; try with_reducible rfl
 try simp only [qga, qgz, qgs, Act.put, qgt, qgx, qgy]
 refine qT 11 (v := ?_) ?_ ?_
 rotate_left
 · intro w hSw; (try dsimp only at hSw); go_simp; try with_reducible rfl
 try simp only [qga, qgz, qgs, Act.put, qgt, qgx, qgy]
 refine qT 12 (v := ?_) ?_ ?_
 rotate_left
 · intro w hSw; (try dsimp only at hSw); go_simp; try with_reducible rfl
 try simp only [qga, qgz, qgs, Act.put, qgt, qgx, qgy]
 refine wpAnyH_ready (rs := [5, 13]) (by kernel_rfl) (by simp) ?_
 refine AllReadyH.cons rfl (fun K hK => ?_) (AllReadyH.cons rfl (fun K hK => ?_) AllReadyH.nil)
 go_simp
 refine hK.out _ _ (by (try dsimp only); exact HKP.out _ (by first | exact HBD.out | exact HBA.out)) (fun hHeld => ?_)
 clear hK K
 try simp only [qga, qgz, qgs, Act.put, qgt, qgx, qgy]
 refine wpAnyH_ready (rs := [13]) (by kernel_rfl) (by simp) ?_
 refine AllReadyH.cons rfl (fun K hK => ?_) AllReadyH.nil
 go_simp
 refine hK.out _ _ (by (try dsimp only); exact HKP.out _ (by first | exact HBA.out | exact HBA.out)) (fun hHeld => ?_)
 clear hK K
 try simp only [qga, qgz, qgs, Act.put, qgt, qgx, qgy]
 refine wpAnyH_ready (rs := [14]) (by kernel_rfl) (by simp) ?_
 refine AllReadyH.cons rfl (fun K hK => ?_) AllReadyH.nil
 refine k0w rfl _ _ _ (by rfl) rowS (by simp; omega) (by rfl) (World.ownsRow.drew (HOWN.out.alloc _)) ⟨W6.heap.size, 0, none⟩ 1 1 [.int .i64 y1, .int .i64 (t : Int)] (by rfl) (by rfl) (cells2 (by simp [go_sem]) (by simp [go_sem])) (by simp [Value.oneCell']) (by decide) (by omega) (by unfold maxLen; omega) W6.heap.size (by simp) ?_
 intro g cap w6 hown6 hg6 hat6 hlt6
 obtain ⟨k0, k1, k2, hb6, hnx6⟩ := HNX.out w6 g cap hown6 hg6 hat6
 have HB6 := hid hb6
 have HNO := hid hnx6
 clear hb6 hnx6 hown6 hg6 hat6
 refine hK.out _ _ (by (try dsimp only); exact HKP.out _ HB6.out) (fun hHeld => ?_)
 clear hK K
 try simp only [qga, qgz, qgs, Act.put, qgt, qgx, qgy]
 refine qT 15 (v := ?_) ?_ ?_
 rotate_left
 · intro w hSw; (try dsimp only at hSw); go_simp; try with_reducible rfl
 try simp only [qga, qgz, qgs, Act.put, qgt, qgx, qgy]
 refine wpAnyH_ready (rs := [16]) (by kernel_rfl) (by simp) ?_
 refine AllReadyH.cons rfl (fun K hK => ?_) AllReadyH.nil
 go_simp
 refine hK.out _ _ (by (try dsimp only); exact HKP.out _ (HB6.out.setCell (Nat.le_refl _) _)) (fun hHeld => ?_)
 clear hK K
 try simp only [qga, qgz, qgs, Act.put, qgt, qgx, qgy]
 refine wpAnyH_done (by kernel_rfl) ?_ _
 rotate_left
 go_simp
 refine hK.out _ _ (by (try dsimp only); exact HKP.out _ (by first | exact HBA.out | exact HBA.out)) (fun hHeld => ?_)
 clear hK K
 try simp only [qga, qgz, qgs, Act.put, qgt, qgx, qgy]
 refine wpAnyH_ready (rs := [5]) (by kernel_rfl) (by simp) ?_
 refine AllReadyH.cons rfl (fun K hK => ?_) AllReadyH.nil
 go_simp
 refine hK.out _ _ (by (try dsimp only); exact HKP.out _ (by first | exact HBD.out | exact HBA.out)) (fun hHeld => ?_)
 clear hK K
 try simp only [qga, qgz, qgs, Act.put, qgt, qgx, qgy]
 refine wpAnyH_ready (rs := [14]) (by kernel_rfl) (by simp) ?_
 refine AllReadyH.cons rfl (fun K hK => ?_) AllReadyH.nil
 refine k0w rfl _ _ _ (by rfl) rowS (by simp; omega) (by rfl) (World.ownsRow.drew (HOWN.out.alloc _)) ⟨W6.heap.size, 0, none⟩ 1 1 [.int .i64 y1, .int .i64 (t : Int)] (by rfl) (by rfl) (cells2 (by simp [go_sem]) (by simp [go_sem])) (by simp [Value.oneCell']) (by decide) (by omega) (by unfold maxLen; omega) W6.heap.size (by simp) ?_
 intro g cap w6 hown6 hg6 hat6 hlt6
 obtain ⟨k0, k1, k2, hb6, hnx6⟩ := HNX.out w6 g cap hown6 hg6 hat6
 have HB6 := hid hb6
 have HNO := hid hnx6
 clear hb6 hnx6 hown6 hg6 hat6
 refine hK.out _ _ (by (try dsimp only); exact HKP.out _ HB6.out) (fun hHeld => ?_)
 clear hK K
 try simp only [qga, qgz, qgs, Act.put, qgt, qgx, qgy]
 refine qT 15 (v := ?_) ?_ ?_
 rotate_left
 · intro w hSw; (try dsimp only at hSw); go_simp; try with_reducible rfl
 try simp only [qga, qgz, qgs, Act.put, qgt, qgx, qgy]
 refine wpAnyH_ready (rs := [16]) (by kernel_rfl) (by simp) ?_
 refine AllReadyH.cons rfl (fun K hK => ?_) AllReadyH.nil
 go_simp
 refine hK.out _ _ (by (try dsimp only); exact HKP.out _ (HB6.out.setCell (Nat.le_refl _) _)) (fun hHeld => ?_)
 clear hK K
 try simp only [qga, qgz, qgs, Act.put, qgt, qgx, qgy]
 refine wpAnyH_done (by kernel_rfl) ?_ _
 all_goals (
 go_wp2_with fail
 go_roundw
 case rel => exact ⟨k + 1, by go_num, by omega, HNO.out⟩
 case measure => simp [intOf]; omega))
 · (
 have hb1 : (y1 == 0) = true := by simp [hy0]
 have hb2 : (C t == C i) = false := by simp [hcc]
 have HNX := hid (HSN.out false (by simp [hcc]))
 clear hy0 hcc
 go_wp2_with fail
 go_quiet (fail)
 go_wp2_with fail
 go_roundw
 case rel => exact ⟨k + 1, by go_num, by omega, (HOW.out.call (k0c (Below.refl _ _))).congr (fun q => by rw [HNX.out]; simp)⟩
 case measure => simp [intOf]; omega))
 · (
 have hb1 : (y1 == 0) = false := by simp [hy0]
 have HNX := hid (HSN.out false (by simp [hy0]))
 clear hy0
 go_wp2_with fail
 go_quiet (fail)
 go_wp2_with fail
 go_roundw
 case rel => exact ⟨k + 1, by go_num, by omega, (HOW.out.call (k0c (Below.refl _ _))).congr (fun q => by rw [HNX.out]; simp)⟩
 case measure => simp [intOf]; omega))
 · (
 obtain rfl : ol = k := by omega
 have HFO := hid (how.congr (f' := fun q => if q < i + 1 then inR s C q else []) (fun q => by (
 by_cases e : q < i
 · rw [if_pos e, if_pos (by omega)]
 · (
 rw [if_neg e]
 by_cases e2 : q = i
 · subst e2
   rw [if_pos rfl, if_pos (by omega), List.take_of_length_le (by rw [HOLE.out]; exact Nat.le_refl _), HOE.out]
   rfl
 · rw [if_neg e2, if_neg (by omega)]))))
 clear how hbs
 go_wp2_with fail
 go_roundw
 case rel => exact ⟨i + 1, by go_num, by omega, HFO.out⟩
 case measure => simp [intOf]; omega)))
 · (
 obtain rfl : n = i := by omega
 obtain ⟨wI, hwI⟩ : ∃ wI, wI = wr := ⟨_, rfl⟩
 subst hwI
 have hine : StepsIn wI lo n (fun p => (inertS s.norm C).outs (p : Int)) := by (
 have h := StepsIn.of HOI.out.rows
 refine ⟨fun q hq => ?_, h.lt⟩
 have h2 := h.at_ q hq
 rw [if_pos hq, show inR s C q = (inertS s.norm C).outs (q : Int) from (y1i q).symm] at h2
 exact h2)
 have hlo1 := HLO.out
 have HK4 : Hid (∀ V, Below wI.heap.size wI V -> (V.cell? ⟨w.heap.size, 0, none⟩ = some (.int .i64 (n : Int)) /\ w.heap.size < V.heap.size) /\ StepsIn V ob n (fun p => s.norm.outs (p : Int)) /\ StepsIn V lo n (fun p => (inertS s.norm C).outs (p : Int)) /\ SlAt encI 1 V ca cb co (fl n C) /\ Below w.heap.size w V) := hid (fun V hV => by (
 have h1 : Below w1.heap.size w1 V := (by rw [<- hlo1]; exact HBR.out.trans (hV.mono (by have := HBR.out.size; omega)))
 have hx := (h1.block w.heap.size (by omega)).trans HX.out
 obtain ⟨z0, _, _, _, z4⟩ := x0v hx
 exact ⟨⟨z0, z4⟩, HSO.out.below h1, hine.below hV, HC1.out.below h1 (Nat.le_refl _), HBW.out.trans (h1.mono HBW.out.size)⟩))
 have hlI : w.heap.size <= wI.heap.size := Nat.le_of_lt x4
 clear hbs hine HOI HBR hlo1
 go_wp2_with fail
 clear x0 x4
 obtain ⟨w4, hw4⟩ : ∃ w4, w4 = wI.alloc (.cells (madeCells #[.slice none 0 0] n) 60) := ⟨_, rfl⟩
 have how : OW w4 w4 wI.heap.size n (fun _ => []) := by (
 have hs1 : w4.heap.size = wI.heap.size + 1 := by rw [hw4]; simp
 refine ⟨?_, Below.refl _ _ , fun _ _ _ => rfl⟩
 rw [hs1, hw4]
 exact OwnRows.made)
 have hb1 : Below wI.heap.size wI w4 := by rw [hw4]; exact (Below.refl _ _).alloc (Nat.le_refl _) _
 rw [<- hw4]
 have HB4 : Hid (∀ wr f, OW w4 wr wI.heap.size n f -> Below wI.heap.size wI wr) := hid (fun wr f h => hb1.trans h.bel)
 obtain ⟨lo2, hlo2⟩ : ∃ lo2, lo2 = wI.heap.size := ⟨_, rfl⟩
 rw [<- hlo2] at how HB4 HK4 hlI ⊢
 have HOW := hid how
 clear hw4 how hb1 hlo2
 go_loopw [10, 11, 12, 13, 14, 15, 16] (fun v10 _ _ _ _ _ _ wr => ∃ p : Nat, v10 = .int .i64 p /\ p <= n /\ OW w4 wr lo2 n (fun q => if q < p then stp12 s C n q else [])) (fun v10 _ _ _ _ _ _ _ => n - (intOf v10).toNat)
 case atStart => exact ⟨0, rfl, Nat.zero_le _, HOW.out.congr (fun i => by simp)⟩
 case round => (
 obtain ⟨p, rfl, hp, how⟩ := hrel
 have HOP := hid how
 obtain ⟨⟨x0, x4⟩, hso, hin, hcl, hbw⟩ := HK4.out _ (HB4.out _ _ how)
 have HINr := hid hin
 have hwrl := how.rows.size
 clear how hso hcl hin HOW
 by_cases hpn : p < n
 · (
 have hpI : (p : Int) < (n : Int) := by omega
 have hfr := x1s (s := inertS s.norm C) (c := n) (y0o HR.out.norm) (u1o s.norm_srt) (n := n) (q := p) HN.out hpn HINr.out
 have HFR := hid hfr
 clear hfr hbw
 go_wp2_with fail
 refine HFR.out.mono ?_
 rintro e wF ⟨rb, rfl, hrow, hrb, hBF⟩
 have HG : Hid (wF.rowIs rb 4 n (fun j => .bool (G12 s C p j))) := hid hrow
 have HOF := hid (HOP.out.call hBF)
 clear hrow hBF HFR HINr HOP x0 x4
 obtain ⟨⟨x0, x4⟩, hsoF, _, hclF, _⟩ := HK4.out _ (HB4.out _ _ HOF.out)
 have hrl := HG.out.lt
 have HSOF := hid hsoF; have HCLF := hid hclF
 have hobF := hsoF.lt
 clear hsoF hclF
 go_wp2_with fail
 clear x0 x4
 go_loopw [12, 13, 14, 15] (fun v12 v13 _ _ wx => ∃ (q m : Nat) (ea : Option Addr) (ec : Nat), v12 = .slice ea m ec /\ v13 = .int .i64 q /\ q <= n /\ m = (sigE s.norm C (G12 s C p) p q).length /\ wx.ownsRow wF.heap.size 42 3 (.slice ea m ec) m ((sigE s.norm C (G12 s C p) p q).flatMap encE) /\ Below wF.heap.size wF wx) (fun _ v13 _ _ _ => n - (intOf v13).toNat)
 case atStart => exact ⟨0, 0, none, 0, rfl, rfl, Nat.zero_le _, by simp [sigE], by simpa [sigE] using World.ownsRow_nil _ _ _ _, Below.refl _ _⟩
 case round => (
 obtain ⟨q, m, ea, ec, rfl, rfl, hq, hm, hown, hB⟩ := hrel
 have HB := hid hB; have HO := hid hown; have HM := hid hm
 obtain ⟨⟨x0, x4⟩, hso, _, hcl, _⟩ := HK4.out _ (HB4.out _ _ (HOF.out.call hB))
 have HSO4 := hid hso; have HCL := hid hcl
 have hrow := HG.out.of_block (hB.block _ HG.out.lt)
 clear hown hm hB hso hcl
 by_cases hqn : q < n
 · (
 have hqI : (q : Int) < (n : Int) := by omega
 have b0 := hrow.cell hqn
 have bl := hrow.lt
 have hle := x1o s.norm C (G12 s C p) p (q + 1)
 have hnl := HR.out.norm.st0
 have hss := k2k s.norm C (G12 s C p) p q
 cases hg : G12 s C p q with
 | false => (
 rw [hg] at b0 hss
 have HSS : Hid (sigE s.norm C (G12 s C p) p (q + 1) = sigE s.norm C (G12 s C p) p q) := hid (by rw [hss]; simp)
 clear hss hle hnl hg hrow
 go_wp2_with fail
 go_roundw
 case rel => exact ⟨q + 1, m, _, _, rfl, by go_num, by omega, by rw [HSS.out]; exact HM.out, by rw [HSS.out]; exact HO.out, HB.out⟩
 case measure => simp [intOf]; omega)
 | true => (
 rw [hg] at b0 hss
 rw [if_pos rfl] at hss
 obtain ⟨oa, oc, oo, off2, ho0, hos⟩ := HSOF.out.at_ q hqn
 obtain ⟨os, hose⟩ : ∃ os, os = s.norm.outs (q : Int) := ⟨_, rfl⟩
 rw [<- hose] at ho0 hos hss
 have hosl : os.length <= 10000 := by rw [hose]; exact p0d HR.out.norm _
 have hbnd : ∀ k, m + (shareE C p q (os.take k)).length <= 10000 := fun k => by (
 have h1 := v0t C p q k os
 have h2 := HM.out
 rw [hss, List.length_append] at hle
 omega)
 obtain ⟨ol, hole⟩ : ∃ ol, ol = os.length := ⟨_, rfl⟩
 rw [<- hole] at ho0 hosl
 obtain ⟨E0, hE0⟩ : ∃ E0, E0 = sigE s.norm C (G12 s C p) p q := ⟨_, rfl⟩
 rw [<- hE0] at hss HO HM
 have HO0 := hid ho0; have HOSL := hid hos; have HOE := hid hose; have HOLE := hid hole; have HBN := hid hbnd; have HSS := hid hss
 obtain ⟨wQ, hwQ⟩ : ∃ wQ, wQ = wr := ⟨_, rfl⟩
 subst hwQ
 clear hss hle hnl hg hrow hose hole hos hbnd hE0
 go_wp2_with fail
 clear x0 x4 b0 bl ho0
 go_loopw [12, 14, 15] (fun v12 v14 _ wy => ∃ (k m : Nat) (ea : Option Addr) (ec : Nat), v12 = .slice ea m ec /\ v14 = .int .i64 k /\ k <= ol /\ m = (E0 ++ shareE C p q (os.take k)).length /\ wy.ownsRow wF.heap.size 42 3 (.slice ea m ec) m ((E0 ++ shareE C p q (os.take k)).flatMap encE) /\ Below wF.heap.size wF wy) (fun _ v14 _ _ => ol - (intOf v14).toNat)
 case atStart => exact ⟨0, m, ea, ec, rfl, rfl, Nat.zero_le _, by simpa [shareE] using HM.out, by simpa [shareE] using HO.out, HB.out⟩
 case round => (
 obtain ⟨k, m', ea', ec', rfl, rfl, hk, hm, hown, hB⟩ := hrel
 have HBy := hid hB; have HOy := hid hown; have HMy := hid hm
 have o0 : wr.cell? ⟨ob, q, none⟩ = some (.slice oa ol oc) := by rw [hB.cell (p := ⟨ob, q, none⟩) hobF]; exact HO0.out
 have ow2 : ob < wr.heap.size := Nat.lt_of_lt_of_le hobF hB.size
 have hws := hB.size
 clear hown hm hB
 by_cases hkl : k < ol
 · (
 have hkI : (k : Int) < (ol : Int) := by omega
 obtain ⟨x, hx⟩ := j0a (xs := os) (i := k) (by rw [<- HOLE.out]; exact hkl)
 have hss := HOSL.out.below HBy.out (Nat.le_refl _)
 obtain rfl := hss.ad (by rw [<- HOLE.out]; omega)
 have d0 := hss.s0 hx; have d1 := hss.s1 hx
 have dl := hss.lt (by rw [<- HOLE.out]; omega)
 have hxm : x ∈ s.norm.outs (q : Int) := by rw [<- HOE.out]; exact List.mem_of_getElem? hx
 have hyr := j0e.1 (HR.out.norm.edges _ (j0j.1 hxm))
 have hst2 : s.norm.st = (n : Int) := HN.out
 simp only at hyr
 obtain ⟨y1, y2⟩ := x
 simp only at d0 d1 hyr
 obtain ⟨t, rfl⟩ := Int.eq_ofNat_of_zero_le hyr.2.2.2.2.1
 have htn : t < n := by omega
 have htI : (t : Int) < (n : Int) := by omega
 have hcs := HCLF.out.below HBy.out (Nat.le_refl _)
 obtain rfl := hcs.ad (by rw [j0g]; omega)
 have hcbF : cb < wF.heap.size := HCLF.out.lt (by rw [j0g]; omega)
 have HX2 := hid hx
 have hbn := HBN.out k
 have hmb : m' <= 10000 := by (
 have h1 := HMy.out
 rw [List.length_append, <- HM.out] at h1
 omega)
 have HCS := hid hcs
 clear hss hx hxm hyr hst2 hcs hbn
 go_upto_region 25 with fail
 obtain ⟨W6, hW6⟩ : ∃ W6, W6 = wr.alloc (.cells #[.int .i64 y1, .int .i64 (t : Int)] 80) := ⟨_, rfl⟩
 have hb6 : Below wr.heap.size wr W6 := by rw [hW6]; exact (Below.refl _ _).alloc (Nat.le_refl _) _
 have hxb : W6.heap[wr.heap.size]? = some (.cells #[.int .i64 y1, .int .i64 (t : Int)] 80 (0, 0)) := by rw [hW6]; exact heap_alloc_new wr _
 rw [<- hW6]
 have hs6 : wr.heap.size < W6.heap.size := by rw [hW6]; simp
 obtain ⟨xb, hxe⟩ : ∃ xb, xb = wr.heap.size := ⟨_, rfl⟩
 rw [<- hxe] at hxb hs6 ⊢
 have HXE := hid hxe
 clear hxe
 have f0 : W6.cell? ⟨xb, 0, none⟩ = some (.int .i64 y1) := by simp [World.cell?, hxb]
 have f1 : W6.cell? ⟨xb, 1, none⟩ = some (.int .i64 (t : Int)) := by simp [World.cell?, hxb]
 have xl := hs6
 have hc6 := HCS.out.below hb6 (Nat.le_refl _)
 have c1 := hc6.ci (j0h C htn); have c2 := hc6.ci (j0h C hqn); have cl := hc6.lt (by rw [j0g]; omega)
 have HO6 := hid (own_below HOy.out hb6)
 have HB6 := hid (HBy.out.trans (hb6.mono HBy.out.size))
 clear hW6 hb6 hxb hc6 o0 ow2 d0 d1 dl
 obtain ⟨kb, hkb⟩ : ∃ kb, kb = (!(decide (y1 = 0) && decide (C t = C q))) := ⟨_, rfl⟩
 have HKB := hid hkb
 clear hkb
 go_cut [133] from 119 to 132 (fun s133 wx => s133 = .bool kb /\ Below W6.heap.size W6 wx)
 case first => (
 by_cases hy0 : y1 = 0
 · (
 have hb1 : (y1 != 0) = false := by simp [hy0]
 by_cases hcc : C t = C q
 · (
 have hb2 : (C t != C q) = false := by simp [hcc]
 obtain rfl : kb = false := by rw [HKB.out]; simp [hy0, hcc]
 clear hy0 hcc
 go_quiet (fail)
 go_wp2_with fail
 go_meet
 exact ⟨rfl, k0c (Below.refl _ _)⟩)
 · (
 have hb2 : (C t != C q) = true := by simp [hcc]
 obtain rfl : kb = true := by rw [HKB.out]; simp [hcc]
 clear hy0 hcc
 go_quiet (fail)
 go_wp2_with fail
 go_meet
 exact ⟨rfl, k0c (Below.refl _ _)⟩))
 · (
 have hb1 : (y1 != 0) = true := by simp [hy0]
 obtain rfl : kb = true := by rw [HKB.out]; simp [hy0]
 clear hy0
 go_quiet (fail)
 go_wp2_with fail
 go_meet
 exact ⟨rfl, k0c (Below.refl _ _)⟩))
 case rest => (
 obtain ⟨rfl, hW7⟩ := hcut
 cases kb with
 | false => (
 have HEN : Hid (E0 ++ shareE C p q (os.take (k + 1)) = E0 ++ shareE C p q (os.take k)) := hid (by (
 have h := HKB.out
 rw [take_snoc HX2.out, z0k, if_pos (by simpa using h)]
 simp))
 have HO7 := hid (own_below HO6.out hW7)
 have HB7 := hid (HB6.out.trans (hW7.mono HB6.out.size))
 clear hW7 c1 c2 cl f0 f1 xl
 go_wp2_with fail
 go_roundw
 case rel => exact ⟨k + 1, m', _, _, rfl, by go_num, by omega, by rw [HEN.out]; exact HMy.out, by rw [HEN.out]; exact HO7.out, HB7.out⟩
 case measure => simp [intOf]; omega)
 | true => (
 have HEN : Hid (E0 ++ shareE C p q (os.take (k + 1)) = (E0 ++ shareE C p q (os.take k)) ++ [((p : Int), y1, C t)]) := hid (by (
 have h := HKB.out
 rw [take_snoc HX2.out, z0k, if_neg (fun e => by have e1 : y1 = 0 := e.1; have e2 : C t = C q := e.2; simp [e1, e2] at h), List.append_assoc]
 simp))
 go_upto_region 26 with fail
 obtain ⟨W7, hW7e⟩ : ∃ W7, W7 = wc := ⟨_, rfl⟩
 rw [<- hW7e] at hW7 ⊢
 clear hW7e
 have f7 := (hW7.cell (p := ⟨xb, 0, none⟩) xl).trans f0
 have g7 := (hW7.cell (p := ⟨xb, 1, none⟩) xl).trans f1
 have h7 := (hW7.cell (p := ⟨cb, co + t, none⟩) cl).trans c1
 have hsz7 := hW7.size
 have HKP : Hid (∀ V, Below W7.heap.size W7 V -> (V.cell? ⟨xb, 0, none⟩ = some (.int .i64 y1) /\ V.cell? ⟨xb, 1, none⟩ = some (.int .i64 (t : Int)) /\ xb < V.heap.size /\ V.cell? ⟨cb, co + t, none⟩ = some (.int .i64 (C t)) /\ cb < V.heap.size)) := hid (fun V hV =>
   ⟨(hV.cell (p := ⟨xb, 0, none⟩) (by show xb < _; omega)).trans f7, (hV.cell (p := ⟨xb, 1, none⟩) (by show xb < _; omega)).trans g7, by have := hV.size; omega, (hV.cell (p := ⟨cb, co + t, none⟩) (by show cb < _; omega)).trans h7, by have := hV.size; omega⟩)
 have hown7 := own_below HO6.out hW7
 have hb7 := HB6.out.trans (hW7.mono HB6.out.size)
 have HNX : Hid (∀ (w8 : World) (g cap : Nat), w8.ownsRow wF.heap.size 42 3 (.slice (some ⟨g, 0, none⟩) (m' + 1) cap) (m' + 1) ((E0 ++ shareE C p q (os.take k)).flatMap encE ++ [.int .i64 (p : Int), .int .i64 y1, .int .i64 (C t)]) -> ((W7.alloc (.cells #[.int .i64 (p : Int), .int .i64 y1, .int .i64 (C t)] 42)).drew).grownBy w8 (Value.slice ea' m' ec').ownBlock -> ((Value.slice ea' m' ec').ownBlock = some g ∨ g = W7.heap.size + 1) ->
     (w8.cell? ⟨xb, 0, none⟩ = some (.int .i64 y1) /\ w8.cell? ⟨xb, 1, none⟩ = some (.int .i64 (t : Int)) /\ xb < w8.heap.size /\ w8.cell? ⟨cb, co + t, none⟩ = some (.int .i64 (C t)) /\ cb < w8.heap.size) /\ Below wF.heap.size wF w8) := hid (fun w8 g cap ho hg hgg => by
   have hba := ((Below.refl W7.heap.size W7).alloc (Nat.le_refl _) (.cells #[.int .i64 (p : Int), .int .i64 y1, .int .i64 (C t)] 42)).drew
   obtain ⟨a1, a2, a3, a4, a5⟩ := HKP.out _ hba
   have n1 : some xb ≠ (Value.slice ea' m' ec').ownBlock := fun e => by have := (HOy.out.lt xb e.symm).2; have := HXE.out; omega
   have n2 : some cb ≠ (Value.slice ea' m' ec').ownBlock := fun e => by have := (HOy.out.lt cb e.symm).1; omega
   have hgs := hg.size
   refine ⟨⟨?_, ?_, by omega, ?_, by omega⟩, (hb7.trans (hba.mono hb7.size)).grown hg (by have := hba.size; have := hb7.size; omega) (fun q hq => (HOy.out.lt q hq).1)⟩
   · rw [World.cell?_of_block (a := ⟨xb, 0, none⟩) (hg.block xb a3 n1)]; exact a1
   · rw [World.cell?_of_block (a := ⟨xb, 1, none⟩) (hg.block xb a3 n1)]; exact a2
   · rw [World.cell?_of_block (a := ⟨cb, co + t, none⟩) (hg.block cb a5 n2)]; exact a4)
 have HOWN := hid hown7
 have HBD : Hid (Below W7.heap.size W7 W7.drew) := hid (Below.refl _ _).drew
 have HBA : Hid (Below W7.heap.size W7 (W7.drew.alloc (.cells #[.int .i64 (p : Int), .int .i64 y1, .int .i64 (C t)] 42))) := hid ((Below.refl _ _).drew.alloc (Nat.le_refl _) _)
 have hb7s := hb7.size
 clear hown7 hW7 hb7 c1 c2 cl f0 f1 f7 g7 h7 xl hsz7
 refine wp_region_held_drew (S := (fun V => (V.cell? ⟨xb, 0, none⟩ = some (.int .i64 y1) /\ V.cell? ⟨xb, 1, none⟩ = some (.int .i64 (t : Int)) /\ xb < V.heap.size /\ V.cell? ⟨cb, co + t, none⟩ = some (.int .i64 (C t)) /\ cb < V.heap.size))) (by kernel_rfl) (by (try dsimp only); exact HKP.out _ HBD.out) (fun hHeld => ?_)
 refine qT 0 (v := ?_) ?_ ?_
 rotate_left
 · intro w hSw; (try dsimp only at hSw); go_simp; try with_reducible rfl
 try simp only [qga, qgz, Act.put, qgt, qgx, qgy]
 refine qT 1 (v := ?_) ?_ ?_
 rotate_left
 · intro w hSw; (try dsimp only at hSw); go_simp; try with_reducible rfl
 try simp only [qga, qgz, qgs, Act.put, qgt, qgx, qgy]
 refine qT 2 (v := ?_) ?_ ?_
 rotate_left
 · intro w hSw; (try dsimp only at hSw); go_simp; try with_reducible rfl
 try simp only [qga, qgz, qgs, Act.put, qgt, qgx, qgy]
 refine qT 3 (v := ?_) ?_ ?_
 rotate_left
 · intro w hSw; (try dsimp only at hSw); go_simp; try with_reducible rfl
 try simp only [qga, qgz, qgs, Act.put, qgt, qgx, qgy]
 refine qT 4 (v := ?_) ?_ ?_
 rotate_left
 · intro w hSw; (try dsimp only at hSw); go_simp; try with_reducible rfl
 try simp only [qga, qgz, qgs, Act.put, qgt, qgx, qgy]
 refine qT 5 (v := ?_) ?_ ?_
 rotate_left
 · intro w hSw; (try dsimp only at hSw); go_simp; try with_reducible rfl
 try simp only [qga, qgz, qgs, Act.put, qgt, qgx, qgy]
 refine qT 6 (v := ?_) ?_ ?_
 rotate_left
 · intro w hSw; (try dsimp only at hSw); go_simp; try with_reducible rfl
 try simp only [qga, qgz, qgs, Act.put, qgt, qgx, qgy]
 refine qT 7 (v := ?_) ?_ ?_
 rotate_left
 · intro w hSw; (try dsimp only at hSw); go_simp; try with_reducible rfl
 try simp only [qga, qgz, qgs, Act.put, qgt, qgx, qgy]
 refine qT 8 (v := ?_) ?_ ?_
 rotate_left
 · intro w hSw; (try dsimp only at hSw); go_simp; try with_reducible rfl
 try simp only [qga, qgz, qgs, Act.put, qgt, qgx, qgy]
 refine qT 9 (v := ?_) ?_ ?_
 rotate_left
 · intro w hSw; (try dsimp only at hSw); go_simp; try with_reducible rfl
 try simp only [qga, qgz, qgs, Act.put, qgt, qgx, qgy]
 refine wpAnyH_ready (rs := [10]) (by kernel_rfl) (by simp) ?_
 refine AllReadyH.cons rfl (fun K hK => ?_) AllReadyH.nil
 go_simp
 refine hK.out _ _ (by (try dsimp only); exact HKP.out _ HBA.out) (fun hHeld => ?_)
 clear hK K
 try simp only [qga, qgz, qgs, Act.put, qgt, qgx, qgy]
 refine wpAnyH_ready (rs := [11]) (by kernel_rfl) (by simp) ?_
 refine AllReadyH.cons rfl (fun K hK => ?_) AllReadyH.nil
 refine k0w rfl _ _ _ (by rfl) rowE (by simp; omega) (by rfl) (World.ownsRow.drew (HOWN.out.alloc _)) ⟨W7.heap.size, 0, none⟩ 1 1 [.int .i64 (p : Int), .int .i64 y1, .int .i64 (C t)] (by rfl) (by rfl) (cells3 (by simp [go_sem]) (by simp [go_sem]) (by simp [go_sem])) (by simp [Value.oneCell']) (by decide) (by omega) (by unfold maxLen; omega) W7.heap.size (by simp) ?_
 intro g cap w8 hown8 hg8 hat8 hlt8
 obtain ⟨hk8, hb8⟩ := HNX.out w8 g cap hown8 hg8 hat8
 have HK8 := hid hk8
 have HB8 := hid hb8
 have HNO := hid hown8
 clear hk8 hb8 hown8 hg8 hat8
 refine hK.out _ _ (by (try dsimp only); exact HK8.out) (fun hHeld => ?_)
 clear hK K
 try simp only [qga, qgz, qgs, Act.put, qgt, qgx, qgy]
 refine qT 12 (v := ?_) ?_ ?_
 rotate_left
 · intro w hSw; (try dsimp only at hSw); go_simp; try with_reducible rfl
 try simp only [qga, qgz, qgs, Act.put, qgt, qgx, qgy]
 refine wpAnyH_done (by kernel_rfl) ?_ _
 all_goals (
 go_wp2_with fail
 go_roundw
 case rel => exact ⟨k + 1, m' + 1, _, _, rfl, by go_num, by omega, by rw [HEN.out, List.length_append, <- HMy.out]; rfl, by rw [HEN.out, List.flatMap_append]; exact HNO.out, HB8.out⟩
 case measure => simp [intOf]; omega))))
 · (
 obtain rfl : ol = k := by omega
 have hEQ : E0 ++ shareE C p q (os.take ol) = sigE s.norm C (G12 s C p) p (q + 1) := by
   rw [HSS.out, List.take_of_length_le (by rw [HOLE.out]; exact Nat.le_refl _)]
 have HEQ := hid hEQ
 clear hEQ
 go_wp2_with fail
 go_roundw
 case rel => exact ⟨q + 1, m', _, _, rfl, by go_num, by omega, by rw [<- HEQ.out]; exact HMy.out, by rw [<- HEQ.out]; exact HOy.out, HBy.out⟩
 case measure => simp [intOf]; omega))))
 · (
 obtain rfl : n = q := by omega
 have hml : m <= 10000 := by have := x1o s.norm C (G12 s C p) p n; have := HM.out; have := HR.out.norm.st0; omega
 obtain ⟨EL, hE⟩ : ∃ EL, EL = sigE s.norm C (G12 s C p) p n := ⟨_, rfl⟩
 rw [<- hE] at HM HO
 obtain ⟨ea', ec', eb, he, hec, hem, hes, _⟩ := j0f (xs := EL) p0n (by rw [<- HM.out]; exact HO.out)
 rw [<- HM.out] at he hec
 cases he
 have hsr := p0z _ (Nat.le_refl _) hes (c := ec) (by rw [<- HM.out]; exact hec) hem (by rw [<- HM.out]; omega)
 rw [<- HM.out] at hsr
 have HSRT := hid hsr
 obtain ⟨Es, hEs⟩ : ∃ Es, Es = nf ltE EL := ⟨_, rfl⟩
 have hEl : Es.length <= 10000 := by rw [hEs]; have := j0s (lt := ltE) EL; have := HM.out; omega
 have hstp : stp12 s C n p = Es.map (fun x => (x.2.1, x.2.2)) := by rw [hEs, hE]; rfl
 have HEs := hid hEs; have HSTP := hid hstp
 have HOQ := hid (HOF.out.call HB.out)
 clear hE hes hsr hEs hstp hrow hec hem
 go_wp2_with fail
 refine HSRT.out.mono ?_
 rintro e wG ⟨sa, sc, rfl, hown, hBG⟩
 rw [<- HEs.out] at hown ⊢
 obtain ⟨wP, hwP⟩ : ∃ wP, wP = wr := ⟨_, rfl⟩
 subst hwP
 have hwP4 : w4.heap.size <= wP.heap.size := HOQ.out.bel.size
 have hown' := j0o (base' := w4.heap.size) hown hwP4
 obtain ⟨sl, hsl⟩ : ∃ sl, sl = Es.length := ⟨_, rfl⟩
 rw [<- hsl] at hown' hEl ⊢
 have HSL := hid hsl; have HO4 := hid hown'
 have HOG := hid ((HOQ.out.call hBG).congr (f' := fun q => if q < p then stp12 s C n q else if q = p then (Es.take 0).map (fun x => (x.2.1, x.2.2)) else []) (fun q => by (
 by_cases e : q < p
 · rw [if_pos e, if_pos e]
 · rw [if_neg e, if_neg e]; simp)))
 clear hown hown' hBG hsl HSRT HO HM HOQ HB x0 x4
 go_wp2_with fail
 go_loopw [16] (fun v16 wy => ∃ k : Nat, v16 = .int .i64 k /\ k <= sl /\ OW w4 wy lo2 n (fun q => if q < p then stp12 s C n q else if q = p then (Es.take k).map (fun x => (x.2.1, x.2.2)) else []) /\ wy.ownsRow w4.heap.size 42 3 (.slice sa sl sc) sl (Es.flatMap encE)) (fun v16 _ => sl - (intOf v16).toNat)
 case atStart => exact ⟨0, rfl, Nat.zero_le _, HOG.out, HO4.out⟩
 case round => (
 obtain ⟨k, rfl, hk, how, hown⟩ := hrel
 have HOW := hid how; have HOE := hid hown
 by_cases hkl : k < sl
 · (
 have hkI : (k : Int) < (sl : Int) := by omega
 obtain ⟨x, hx⟩ := j0a (xs := Es) (i := k) (by rw [<- HSL.out]; exact hkl)
 have hrd : ∀ V : World, V.ownsRow w4.heap.size 42 3 (.slice sa sl sc) sl (Es.flatMap encE) -> ∃ eb, sa = some ⟨eb, 0, none⟩ /\ V.cell? ⟨eb, k * 3 + 1, none⟩ = some (.int .i64 x.2.1) /\ V.cell? ⟨eb, k * 3 + 2, none⟩ = some (.int .i64 x.2.2) /\ eb < V.heap.size := fun V hV => by (
 obtain ⟨a9, c9, b9, e9, _, _, h9, _⟩ := j0f (xs := Es) p0n (by rw [<- HSL.out]; exact hV)
 rw [<- HSL.out] at e9
 cases e9
 have had := h9.ad (by rw [<- HSL.out]; omega)
 have e1 := h9.e1 hx; have e2 := h9.e2 hx
 rw [Nat.zero_add] at e1 e2
 exact ⟨b9, had, e1, e2, h9.lt (by rw [<- HSL.out]; omega)⟩)
 obtain ⟨eb, rfl, e1, e2, e3⟩ := hrd _ hown
 obtain ⟨xa, y1, y2⟩ := x
 dsimp only at e1 e2 hrd
 have HKP : Hid (∀ V : World, V.ownsRow w4.heap.size 42 3 (.slice (some ⟨eb, 0, none⟩) sl sc) sl (Es.flatMap encE) -> V.cell? ⟨eb, k * 3 + 1, none⟩ = some (.int .i64 y1) /\ V.cell? ⟨eb, k * 3 + 2, none⟩ = some (.int .i64 y2) /\ eb < V.heap.size) := hid (fun V hV => by (
 obtain ⟨b', h1, h2, h3, h4⟩ := hrd V hV
 cases h1
 exact ⟨h2, h3, h4⟩))
 obtain ⟨v, l0, l1, l2, l3⟩ := how.open hpn
 have hll := how.rows.size
 rw [if_neg (Nat.lt_irrefl p), if_pos rfl] at l2
 obtain ⟨va, vc, vb, rfl, _, _, _, _⟩ := j0f k1c l2
 have hQN : (Es.take (k + 1)).map (fun x : E => (x.2.1, x.2.2)) = (Es.take k).map (fun x => (x.2.1, x.2.2)) ++ [(y1, y2)] := by rw [take_snoc hx, List.map_append]; rfl
 obtain ⟨Q, hQ⟩ : ∃ Q, Q = (Es.take k).map (fun x : E => (x.2.1, x.2.2)) := ⟨_, rfl⟩
 rw [<- hQ] at l0 l2 l3 hQN
 obtain ⟨ql, hql⟩ : ∃ ql, ql = Q.length := ⟨_, rfl⟩
 rw [<- hql] at l0 l2 l3
 have hqll : ql <= 10000 := by rw [hql, hQ, List.length_map, List.length_take]; omega
 have hwl : w4.heap.size <= wr.heap.size := how.bel.size
 have hlo4 : lo2 < w4.heap.size := how.rows.lt
 have HNX : Hid (∀ (w6 : World) (g cap : Nat), w6.ownsRow w4.heap.size 80 2 (.slice (some ⟨g, 0, none⟩) (ql + 1) cap) (ql + 1) (Q.flatMap encS ++ [.int .i64 y1, .int .i64 y2]) -> ((wr.alloc (.cells #[.int .i64 y1, .int .i64 y2] 80)).drew).grownBy w6 (Value.slice va ql vc).ownBlock -> ((Value.slice va ql vc).ownBlock = some g ∨ g = wr.heap.size + 1) ->
     w6.cell? ⟨lo2, p, none⟩ = some (.slice va ql vc) /\ w6.frozen? ⟨lo2, p, none⟩ = false /\ lo2 < w6.heap.size /\ (w6.cell? ⟨eb, k * 3 + 1, none⟩ = some (.int .i64 y1) /\ w6.cell? ⟨eb, k * 3 + 2, none⟩ = some (.int .i64 y2) /\ eb < w6.heap.size) /\ ((w6.setCell ⟨lo2, p, none⟩ (.slice (some ⟨g, 0, none⟩) (ql + 1) cap)).cell? ⟨eb, k * 3 + 1, none⟩ = some (.int .i64 y1) /\ (w6.setCell ⟨lo2, p, none⟩ (.slice (some ⟨g, 0, none⟩) (ql + 1) cap)).cell? ⟨eb, k * 3 + 2, none⟩ = some (.int .i64 y2) /\ eb < (w6.setCell ⟨lo2, p, none⟩ (.slice (some ⟨g, 0, none⟩) (ql + 1) cap)).heap.size) /\
     OW w4 (w6.setCell ⟨lo2, p, none⟩ (.slice (some ⟨g, 0, none⟩) (ql + 1) cap)) lo2 n (fun q => if q < p then stp12 s C n q else if q = p then (Es.take (k + 1)).map (fun x => (x.2.1, x.2.2)) else []) /\ (w6.setCell ⟨lo2, p, none⟩ (.slice (some ⟨g, 0, none⟩) (ql + 1) cap)).ownsRow w4.heap.size 42 3 (.slice (some ⟨eb, 0, none⟩) sl sc) sl (Es.flatMap encE)) := hid (fun w6 g cap ho hg hgg => by
   have hba := ((Below.refl wr.heap.size wr).alloc (Nat.le_refl _) (.cells #[.int .i64 y1, .int .i64 y2] 80)).drew
   obtain ⟨m0, m1, m2⟩ := l3 _ w6 g cap (Q ++ [(y1, y2)]) hba (by rw [List.length_append, <- hql, List.flatMap_append]; exact ho) hg (hgg.imp_right (fun e => by omega))
   have hun := u1e HOE.out l2 (by decide)
   have ho6 : w6.ownsRow w4.heap.size 42 3 (.slice (some ⟨eb, 0, none⟩) sl sc) sl (Es.flatMap encE) := k0o (own_below HOE.out hba) (fun g2 hg2 => hg.block g2 ((own_below HOE.out hba).lt g2 hg2).2 (fun e => hun g2 hg2 e.symm))
   have ho7 : (w6.setCell ⟨lo2, p, none⟩ (.slice (some ⟨g, 0, none⟩) (ql + 1) cap)).ownsRow w4.heap.size 42 3 (.slice (some ⟨eb, 0, none⟩) sl sc) sl (Es.flatMap encE) := k0o ho6 (fun g2 hg2 => Below.heap_setCell _ _ _ _ (fun e => by have := (ho6.lt g2 hg2).1; have e2 : g2 = lo2 := e; omega))
   refine ⟨m0, m1, World.block_lt_of_cell? _ _ m0, HKP.out _ ho6, HKP.out _ ho7, ?_, ho7⟩
   rw [List.length_append, <- hql] at m2
   refine m2.congr (fun q => ?_)
   by_cases e : q = p
   · subst e; rw [if_pos rfl, if_neg (Nat.lt_irrefl q), if_pos rfl, hQN]
   · rw [if_neg e]
     by_cases e2 : q < p
     · rw [if_pos e2, if_pos e2]
     · rw [if_neg e2, if_neg e2, if_neg e, if_neg e])
 have HOWN := hid l2
 have HBD : Hid (wr.drew.ownsRow w4.heap.size 42 3 (.slice (some ⟨eb, 0, none⟩) sl sc) sl (Es.flatMap encE)) := hid hown
 have HBA : Hid ((wr.drew.alloc (.cells #[.int .i64 y1, .int .i64 y2] 80)).ownsRow w4.heap.size 42 3 (.slice (some ⟨eb, 0, none⟩) sl sc) sl (Es.flatMap encE)) := hid (own_below hown ((Below.refl wr.heap.size wr).drew.alloc (Nat.le_refl _) _))
 clear l2 l3 hQ hql hQN how hown hrd hx e1 e2
 go_upto_region 31 with fail
 refine wp_region_held_drew (S := (fun V => (V.cell? ⟨eb, k * 3 + 1, none⟩ = some (.int .i64 y1) /\ V.cell? ⟨eb, k * 3 + 2, none⟩ = some (.int .i64 y2) /\ eb < V.heap.size))) (by kernel_rfl) (by (try dsimp only); exact HKP.out _ HBD.out) (fun hHeld => ?_)
 refine qT 0 (v := ?_) ?_ ?_
 rotate_left
 · intro w hSw; (try dsimp only at hSw); go_simp; try with_reducible rfl
 try simp only [qga, qgz, Act.put, qgt, qgx, qgy]
 refine qT 1 (v := ?_) ?_ ?_
 rotate_left
 · intro w hSw; (try dsimp only at hSw); go_simp; try with_reducible rfl
 try simp only [qga, qgz, qgs, Act.put, qgt, qgx, qgy]
 refine qT 2 (v := ?_) ?_ ?_
 rotate_left
 · intro w hSw; (try dsimp only at hSw); go_simp; try with_reducible rfl
 try simp only [qga, qgz, qgs, Act.put, qgt, qgx, qgy]
 refine qT 3 (v := ?_) ?_ ?_
 rotate_left
 · intro w hSw; (try dsimp only at hSw); go_simp; try with_reducible rfl
 try simp only [qga, qgz, qgs, Act.put, qgt, qgx, qgy]
 refine qT 4 (v := ?_) ?_ ?_
 rotate_left
 · intro w hSw; (try dsimp only at hSw); go_simp; try with_reducible rfl
 try simp only [qga, qgz, qgs, Act.put, qgt, qgx, qgy]
 refine qT 6 (v := ?_) ?_ ?_
 rotate_left
 · intro w hSw; (try dsimp only at hSw); go_simp; try with_reducible rfl
 try simp only [qga, qgz, qgs, Act.put, qgt, qgx, qgy]
 refine qT 7 (v := ?_) ?_ ?_
 rotate_left
 · intro w hSw; (try dsimp only at hSw); go_simp; try with_reducible rfl
 try simp only [qga, qgz, qgs, Act.put, qgt, qgx, qgy]
 refine qT 8 (v := ?_) ?_ ?_
 rotate_left
 · intro w hSw; (try dsimp only at hSw); go_simp; try with_reducible rfl
 try simp only [qga, qgz, qgs, Act.put, qgt, qgx, qgy]
 refine qT 9 (v := ?_) ?_ ?_
 rotate_left
 · intro w hSw; (try dsimp only at hSw); go_simp; try with_reducible rfl
 try simp only [qga, qgz, qgs, Act.put, qgt, qgx, qgy]
 refine qT 10 (v := ?_) ?_ ?_
 rotate_left
 · intro w hSw; (try dsimp only at hSw); go_simp; try with_reducible rfl
 try simp only [qga, qgz, qgs, Act.put, qgt, qgx, qgy]
 refine qT 11 (v := ?_) ?_ ?_
 rotate_left
 · intro w hSw; (try dsimp only at hSw); go_simp; try with_reducible rfl
 try simp only [qga, qgz, qgs, Act.put, qgt, qgx, qgy]
 refine qT 12 (v := ?_) ?_ ?_
 rotate_left
 · intro w hSw; (try dsimp only at hSw); go_simp; try with_reducible rfl
 try simp only [qga, qgz, qgs, Act.put, qgt, qgx, qgy]
 refine qT 13 (v := ?_) ?_ ?_
 rotate_left
 · intro w hSw; (try dsimp only at hSw); go_simp; try with_reducible rfl
 try simp only [qga, qgz, qgs, Act.put, qgt, qgx, qgy]
 refine qT 14 (v := ?_) ?_ ?_
 rotate_left
 · intro w hSw; (try dsimp only at hSw); go_simp; try with_reducible rfl
 try simp only [qga, qgz, qgs, Act.put, qgt, qgx, qgy]
 refine qT 15 (v := ?_) ?_ ?_
 rotate_left
 · intro w hSw; (try dsimp only at hSw); go_simp; try with_reducible rfl
 try simp only [qga, qgz, qgs, Act.put, qgt, qgx, qgy]
 refine qT 16 (v := ?_) ?_ ?_
 rotate_left
 · intro w hSw; (try dsimp only at hSw); go_simp; try with_reducible rfl
 try simp only [qga, qgz, qgs, Act.put, qgt, qgx, qgy]
 refine wpAnyH_ready (rs := [5, 17]) (by kernel_rfl) (by simp) ?_
 refine AllReadyH.cons rfl (fun K hK => ?_) (AllReadyH.cons rfl (fun K hK => ?_) AllReadyH.nil)
 go_simp
 refine hK.out _ _ (by (try dsimp only); exact HKP.out _ (by first | exact HBD.out | exact HBA.out)) (fun hHeld => ?_)
 clear hK K
 try simp only [qga, qgz, qgs, Act.put, qgt, qgx, qgy]
 refine wpAnyH_ready (rs := [17]) (by kernel_rfl) (by simp) ?_
 refine AllReadyH.cons rfl (fun K hK => ?_) AllReadyH.nil
 go_simp
 refine hK.out _ _ (by (try dsimp only); exact HKP.out _ (by first | exact HBA.out | exact HBA.out)) (fun hHeld => ?_)
 clear hK K
 try simp only [qga, qgz, qgs, Act.put, qgt, qgx, qgy]
 refine wpAnyH_ready (rs := [18]) (by kernel_rfl) (by simp) ?_
 refine AllReadyH.cons rfl (fun K hK => ?_) AllReadyH.nil
 refine k0w rfl _ _ _ (by rfl) rowS (by simp; omega) (by rfl) (World.ownsRow.drew (HOWN.out.alloc _)) ⟨wr.heap.size, 0, none⟩ 1 1 [.int .i64 y1, .int .i64 y2] (by rfl) (by rfl) (cells2 (by simp [go_sem]) (by simp [go_sem])) (by simp [Value.oneCell']) (by decide) (by omega) (by unfold maxLen; omega) wr.heap.size (by simp) ?_
 intro g cap w6 hown6 hg6 hat6 hlt6
 obtain ⟨k0, k1, k2, hk6, hks6, hnx6⟩ := HNX.out w6 g cap hown6 hg6 hat6
 have HK6 := hid hk6
 have HKS := hid hks6
 have HNO := hid hnx6
 clear hk6 hks6 hnx6 hown6 hg6 hat6
 refine hK.out _ _ (by (try dsimp only); exact HK6.out) (fun hHeld => ?_)
 clear hK K
 try simp only [qga, qgz, qgs, Act.put, qgt, qgx, qgy]
 refine qT 19 (v := ?_) ?_ ?_
 rotate_left
 · intro w hSw; (try dsimp only at hSw); go_simp; try with_reducible rfl
 try simp only [qga, qgz, qgs, Act.put, qgt, qgx, qgy]
 refine wpAnyH_ready (rs := [20]) (by kernel_rfl) (by simp) ?_
 refine AllReadyH.cons rfl (fun K hK => ?_) AllReadyH.nil
 go_simp
 refine hK.out _ _ (by (try dsimp only); exact HKS.out) (fun hHeld => ?_)
 clear hK K
 try simp only [qga, qgz, qgs, Act.put, qgt, qgx, qgy]
 refine wpAnyH_done (by kernel_rfl) ?_ _
 rotate_left
 go_simp
 refine hK.out _ _ (by (try dsimp only); exact HKP.out _ (by first | exact HBA.out | exact HBA.out)) (fun hHeld => ?_)
 clear hK K
 try simp only [qga, qgz, qgs, Act.put, qgt, qgx, qgy]
 refine wpAnyH_ready (rs := [5]) (by kernel_rfl) (by simp) ?_
 refine AllReadyH.cons rfl (fun K hK => ?_) AllReadyH.nil
 go_simp
 refine hK.out _ _ (by (try dsimp only); exact HKP.out _ (by first | exact HBD.out | exact HBA.out)) (fun hHeld => ?_)
 clear hK K
 try simp only [qga, qgz, qgs, Act.put, qgt, qgx, qgy]
 refine wpAnyH_ready (rs := [18]) (by kernel_rfl) (by simp) ?_
 refine AllReadyH.cons rfl (fun K hK => ?_) AllReadyH.nil
 refine k0w rfl _ _ _ (by rfl) rowS (by simp; omega) (by rfl) (World.ownsRow.drew (HOWN.out.alloc _)) ⟨wr.heap.size, 0, none⟩ 1 1 [.int .i64 y1, .int .i64 y2] (by rfl) (by rfl) (cells2 (by simp [go_sem]) (by simp [go_sem])) (by simp [Value.oneCell']) (by decide) (by omega) (by unfold maxLen; omega) wr.heap.size (by simp) ?_
 intro g cap w6 hown6 hg6 hat6 hlt6
 obtain ⟨k0, k1, k2, hk6, hks6, hnx6⟩ := HNX.out w6 g cap hown6 hg6 hat6
 have HK6 := hid hk6
 have HKS := hid hks6
 have HNO := hid hnx6
 clear hk6 hks6 hnx6 hown6 hg6 hat6
 refine hK.out _ _ (by (try dsimp only); exact HK6.out) (fun hHeld => ?_)
 clear hK K
 try simp only [qga, qgz, qgs, Act.put, qgt, qgx, qgy]
 refine qT 19 (v := ?_) ?_ ?_
 rotate_left
 · intro w hSw; (try dsimp only at hSw); go_simp; try with_reducible rfl
 try simp only [qga, qgz, qgs, Act.put, qgt, qgx, qgy]
 refine wpAnyH_ready (rs := [20]) (by kernel_rfl) (by simp) ?_
 refine AllReadyH.cons rfl (fun K hK => ?_) AllReadyH.nil
 go_simp
 refine hK.out _ _ (by (try dsimp only); exact HKS.out) (fun hHeld => ?_)
 clear hK K
 try simp only [qga, qgz, qgs, Act.put, qgt, qgx, qgy]
 refine wpAnyH_done (by kernel_rfl) ?_ _
 all_goals (
 go_wp2_with fail
 go_roundw
 case rel => exact ⟨k + 1, by go_num, by omega, HNO.out.1, HNO.out.2⟩
 case measure => simp [intOf]; omega))
 · (
 obtain rfl : sl = k := by omega
 have HFO := hid (how.congr (f' := fun q => if q < p + 1 then stp12 s C n q else []) (fun q => by (
 by_cases e : q < p
 · rw [if_pos e, if_pos (by omega)]
 · rw [if_neg e]
   by_cases e2 : q = p
   · subst e2
     rw [if_pos rfl, if_pos (by omega), List.take_of_length_le (by rw [<- HSL.out]; exact Nat.le_refl _), HSTP.out]
   · rw [if_neg e2, if_neg (by omega)])))
 clear how hown
 go_wp2_with fail
 go_roundw
 case rel => exact ⟨p + 1, by go_num, by omega, HFO.out⟩
 case measure => simp [intOf]; omega)))))
 · (
 obtain rfl : n = p := by omega
 have hfin : OwnRows encS 2 80 60 wr w4.heap.size lo2 n (stp12 s C n) := by (
 obtain ⟨vs, h1, h2, h3⟩ := HOP.out.rows.ex
 refine ⟨⟨vs, h1, fun q hq => ?_, h3⟩, HOP.out.rows.lt⟩
 have h4 := h2 q hq
 rw [if_pos hq] at h4
 exact h4)
 have HFN := hid hfin; have HBF := hid hbw
 clear hfin hbw
 go_wp2_with fail
 go_ret
 exact ⟨lo2, w4.heap.size, rfl, HFN.out, hlI, HBF.out⟩))))
end Go.Proofs.YtjchdegapadepaaGreatDoor

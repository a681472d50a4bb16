/-
  Lemmas.
-/
import Derived.Test.YtbaccmlfnbgehaaGreatDoorGOMap
import Derived.Test.YtbaccmlfnbgehaaGreatDoorGTauG
import Derived.Test.YtbaccmlfnbgehaaGreatDoorGOrder
open List renaming getElem_toArray -> qga, getElem_cons_zero -> qgz, getElem_cons_succ -> qgs, setIfInBounds_toArray -> qgt, set_cons_zero -> qgx, set_cons_succ -> qgy
open Array renaming getElem?_eq_some_iff → l0
open Nat renaming le_refl → l1, lt_of_lt_of_le → l3
open List renaming getElem?_eq_some_iff → l2, flatMap_append → l4, length_append → l5
open Go.Proofs.Tryz
namespace Go.Proofs.YtbaccmlfnbgehaaGreatDoor
open Go.RowKit Pl
open Lib (hid)
theorem q0j {w : World} {B : Nat} {x y z : Int} {v : Value} (h : w.heap[B]? = some (.cells #[.int .i64 x, .int .i64 y, .int .i64 z, v] 24 (0, 0))) :
    w.cell? ⟨B, 0, none⟩ = some (.int .i64 x) /\ w.cell? ⟨B, 1, none⟩ = some (.int .i64 y) /\ w.cell? ⟨B, 2, none⟩ = some (.int .i64 z) /\ w.cell? ⟨B, 3, none⟩ = some v /\ B < w.heap.size := by
 refine ⟨?_, ?_, ?_, ?_, (l0.1 h).1⟩ <;> simp [World.cell?, h]
def ColPost (s : Lts) (n : Nat) (w : World) (e : Ending) (w' : World) : Prop :=
  ∃ (f : Nat -> Int) (v ve : Value), Cyc s n f /\ e = .returned (.tuple #[.agg #[.int .i64 (col s (fl n (clf n f))).st, .int .i64 (col s (fl n (clf n f))).lb, .int .i64 (col s (fl n (clf n f))).s0, ve], v, .nilIface]) /\
    w'.ownsRow w.heap.size 3 1 v n ((fl n (clf n f)).flatMap encI) /\ w'.ownsRow w.heap.size 71 3 ve (col s (fl n (clf n f))).es.length ((col s (fl n (clf n f))).es.flatMap encE) /\ Below w.heap.size w w'
theorem y0j {w0 w : World} (h : Below w0.heap.size w0 w) (o : Obj) : Below w0.heap.size w0 (w.alloc o) := h.alloc h.size o
theorem p3k {w0 w : World} {x0 x1 x2 x3 : Value} (h : Below w0.heap.size w0 w) : Below w0.heap.size w0 ((((w.setCell ⟨w0.heap.size, 0, none⟩ x0).setCell ⟨w0.heap.size, 1, none⟩ x1).setCell ⟨w0.heap.size, 2, none⟩ x2).setCell ⟨w0.heap.size, 3, none⟩ x3) :=
  (((h.setCell (l1 _) _).setCell (l1 _) _).setCell (l1 _) _).setCell (l1 _) _
theorem u2u {w : World} {B : Nat} {x y z : Int} {v : Value} (h : w.heap[B]? = some (.cells #[.int .i64 x, .int .i64 y, .int .i64 z, v] 24 (0, 0))) :
    (w.cell? ⟨B, 0, none⟩ = some (.int .i64 x) /\ w.cell? ⟨B, 1, none⟩ = some (.int .i64 y) /\ w.cell? ⟨B, 2, none⟩ = some (.int .i64 z) /\ w.cell? ⟨B, 3, none⟩ = some v /\ B < w.heap.size) /\ w.frozen? ⟨B, 0, none⟩ = false /\ w.frozen? ⟨B, 1, none⟩ = false /\ w.frozen? ⟨B, 2, none⟩ = false /\ w.frozen? ⟨B, 3, none⟩ = false := by
 refine ⟨q0j h, ?_, ?_, ?_, ?_⟩ <;> simp [World.frozen?, h]
theorem zAt {w1 w' : World} (hB : Below (w1.drew.alloc (.cells #[.int .i64 0, .int .i64 0, .int .i64 0, .slice none 0 0] 24)).heap.size (w1.drew.alloc (.cells #[.int .i64 0, .int .i64 0, .int .i64 0, .slice none 0 0] 24)) w') :
    (w'.cell? ⟨w1.heap.size, 0, none⟩ = some (.int .i64 0) /\ w'.cell? ⟨w1.heap.size, 1, none⟩ = some (.int .i64 0) /\ w'.cell? ⟨w1.heap.size, 2, none⟩ = some (.int .i64 0) /\ w'.cell? ⟨w1.heap.size, 3, none⟩ = some (.slice none 0 0) /\ w1.heap.size < w'.heap.size) /\
    w'.frozen? ⟨w1.heap.size, 0, none⟩ = false /\ w'.frozen? ⟨w1.heap.size, 1, none⟩ = false /\ w'.frozen? ⟨w1.heap.size, 2, none⟩ = false /\ w'.frozen? ⟨w1.heap.size, 3, none⟩ = false :=
  u2u ((hB.block w1.heap.size (by show w1.drew.heap.size < _; simp)).trans (heap_alloc_new w1.drew _))
theorem x2i {c : List Int} {es : List E} {k : Nat} {x : E} (hx : es[k]? = some x) : colE c (es.take (k + 1)) = if x.2.1 = 0 /\ atL c x.1 = atL c x.2.2 then colE c (es.take k) else colE c (es.take k) ++ [(atL c x.1, x.2.1, atL c x.2.2)] := by
 rw [take_snoc hx]
 unfold colE
 rw [List.map_append, List.filter_append]
 by_cases h : x.2.1 = 0 /\ atL c x.1 = atL c x.2.2
 · rw [if_pos h]; simp [h.1, h.2]
 · (
 rw [if_neg h]
 congr 1
 by_cases h1 : x.2.1 = 0
 · have h2 : ¬ atL c x.1 = atL c x.2.2 := fun e => h ⟨h1, e⟩
   simp [h2]
 · simp [h1])
set_option maxRecDepth 100000 in
set_option maxHeartbeats 8000000 in
theorem u0a {p : Addr} {s : Lts} {n : Nat} (h : s.Right) (hn : s.st = (n : Int)) {a : Option Addr} {b off c : Nat} {w : World} (hG : GErr 15 p w) (hS : SlAt encE 3 w a b off s.es) :
    Calls prog 174 #[.agg #[.int .i64 s.st, .int .i64 s.lb, .int .i64 s.s0, .slice a s.es.length c]] w (ColPost s n w) := by
 have hst := h.st0
 obtain ⟨z, hz⟩ : ∃ z : Nat, s.s0 = (z : Int) := ⟨s.s0.toNat, by omega⟩
 have hB0 := ((Below.refl w.heap.size w).alloc (l1 _) (Obj.cells #[.int .i64 n, .int .i64 s.lb, .int .i64 z, .slice a s.es.length c] 24)).alloc (by simp) (Obj.cells #[.int .i64 0, .int .i64 0, .int .i64 0, .slice none 0 0] 24)
 have hX0 := (Below.heap_alloc (w.alloc (Obj.cells #[.int .i64 n, .int .i64 s.lb, .int .i64 z, .slice a s.es.length c] 24)) (Obj.cells #[.int .i64 0, .int .i64 0, .int .i64 0, .slice none 0 0] 24) w.heap.size (by simp)).trans (heap_alloc_new w _)
 have hR0 := heap_alloc_new (w.alloc (Obj.cells #[.int .i64 n, .int .i64 s.lb, .int .i64 z, .slice a s.es.length c] 24)) (Obj.cells #[.int .i64 0, .int .i64 0, .int .i64 0, .slice none 0 0] 24)
 rw [show (w.alloc (Obj.cells #[.int .i64 n, .int .i64 s.lb, .int .i64 z, .slice a s.es.length c] 24)).heap.size = w.heap.size + 1 by simp] at hR0
 have hN := y0g (c := c) h hn (hG.below hB0) (hS.below hB0 (l1 _))
 rw [hn, hz] at hN
 have HN := hid hN; have HB0 := hid hB0; have HR0 := hid hR0; have HX0 := hid hX0; have HS := hid hS; have HR := hid h; have HNN := hid hn; have HZ := hid hz; have HST := hid hst
 rw [hn, hz]
 have hn1 : n <= 1000 := by omega
 clear hN hB0 hS hG h hR0 hX0 hn hz hst
 obtain ⟨el, hel⟩ : ∃ el, el = s.es.length := ⟨_, rfl⟩
 rw [<- hel] at HN HB0 HX0 HR0 ⊢
 have HEL := hid hel
 clear hel
 go_enter func174, ntmps174
 go_wp2_with fail
 refine HN.out.mono ?_
 rintro e w1 ⟨f, v, hcyc, rfl, hown, hB1⟩
 obtain ⟨C, hC⟩ : ∃ C, C = fl n (clf n f) := ⟨_, rfl⟩
 have hCl : C.length = n := by rw [hC, j0v]
 rw [<- hC] at hown
 have hown' : w1.ownsRow ((w.alloc (Obj.cells #[.int .i64 n, .int .i64 s.lb, .int .i64 z, .slice a el c] 24)).alloc (Obj.cells #[.int .i64 0, .int .i64 0, .int .i64 0, .slice none 0 0] 24)).heap.size 3 1 v C.length (C.flatMap encI) := by rw [hCl]; exact hown
 obtain ⟨ca, cc, cb, rfl, _, _, hcs, hcb⟩ := j0d p0v hown'
 rw [hCl] at hcb hown ⊢
 have hr1 := (hB1.block (w.heap.size + 1) (by simp)).trans HR0.out
 have hx1 := (hB1.block w.heap.size (by simp; omega)).trans HX0.out
 have hs1 := hB1.size
 simp at hs1 hcb
 have hB := HB0.out.trans (hB1.mono (by simp; omega))
 have hwf : ∀ x ∈ C, (Lit.int .i64 x).wf = true := fun x hx => by (
 rw [hC] at hx
 obtain ⟨i, hi, rfl⟩ := List.mem_map.1 hx
 rw [List.mem_range] at hi
 have h1 := q0g (f := f) hi
 have h2 := y0r n f
 exact wfI (by omega) (by omega))
 have hto := fun W (hW : Below w1.heap.size w1 W) => y0v (c := cc) (hcs.below hW (l1 _)) (by rw [hCl]; omega) hwf
 rw [hCl] at hto
 have HCYC := hid hcyc; have HC := hid hC; have HOWN := hid hown; have HCS := hid hcs; have HCB := hid hcb; have HR1 := hid hr1; have HX1 := hid hx1; have HB := hid hB; have HTO := hid hto; have HCL := hid hCl
 clear hcyc hC hown hown' hcs hcb hr1 hx1 hB1 hB hwf hto HN HR0 HX0 HB0 hCl
 obtain ⟨x0, x1, x2, x3, x4⟩ := q0j HX1.out
 obtain ⟨M, hM⟩ : ∃ M, M = (dist C).length := ⟨_, rfl⟩
 have HM := hid hM
 rw [<- hM] at HTO
 clear hM
 go_upto_region 4 with fail
 go_cut [7] from 11 (fun s7 wx => ∃ O, s7 = .pointer (some ⟨O, 0, none⟩) /\ w1.heap.size <= O /\ wx.heap[O]? = some (.cells #[.int .i64 M, .int .i64 s.lb, .int .i64 0, .slice none 0 0] 24 (0, 0)) /\ Below w1.heap.size w1 wx)
 case first => (
 have KEEP : Hid (∀ W, Below w1.heap.size w1 W -> W.cell? ⟨w.heap.size, 1, none⟩ = some (.int .i64 s.lb) /\ Below w1.heap.size w1 W) := hid (fun W hW => ⟨(q0j ((hW.block w.heap.size x4).trans HX1.out)).2.1, hW⟩)
 have HS0 : Hid (Below w1.heap.size w1 w1.drew) := hid (Below.refl _ _).drew
 refine wp_region_held_drew (S := fun W => W.cell? ⟨w.heap.size, 1, none⟩ = some (.int .i64 s.lb) /\ Below w1.heap.size w1 W) (by kernel_rfl) (KEEP.out _ HS0.out) (fun hHeld => ?_)
 refine qT 0 (v := ?_) ?_ ?_
 rotate_left
 · intro w hSw; (try dsimp only at hSw); go_simp; try with_reducible rfl
 try simp only [qga, qgz, Act.put, qgt, qgx, qgy]
 refine qT 2 (v := ?_) ?_ ?_
 rotate_left
 · intro w hSw; (try dsimp only at hSw); go_simp; try with_reducible rfl
 try simp only [qga, qgz, qgs, Act.put, qgt, qgx, qgy]
 refine qT 3 (v := ?_) ?_ ?_
 rotate_left
 · intro w hSw; (try dsimp only at hSw); go_simp; try with_reducible rfl
 try simp only [qga, qgz, qgs, Act.put, qgt, qgx, qgy]
 refine wpAnyH_ready (rs := [1, 5]) (by kernel_rfl) (by simp) ?_
 refine AllReadyH.cons rfl (fun K hK => ?_) (AllReadyH.cons rfl (fun K hK => ?_) AllReadyH.nil)
 go_simp
 go_at_call 152
 refine (HTO.out _ HS0.out).mono ?_
 rintro e w' ⟨rfl, hB⟩
 have hb1 := j1k HS0.out hB
 refine hK.out _ _ (KEEP.out _ hb1) (fun hHeld => ?_)
 clear hK K
 try simp only [qga, qgz, qgs, Act.put, qgt, qgx, qgy]
 refine qT 4 (v := ?_) ?_ ?_
 rotate_left
 · intro w hSw; (try dsimp only at hSw); go_simp; try with_reducible rfl
 try simp only [qga, qgz, qgs, Act.put, qgt, qgx, qgy]
 refine wpAnyH_ready (rs := [5]) (by kernel_rfl) (by simp) ?_
 refine AllReadyH.cons rfl (fun K hK => ?_) AllReadyH.nil
 go_simp
 refine hK.out _ _ (KEEP.out _ (y0j hb1 _)) (fun hHeld => ?_)
 clear hK K
 try simp only [qga, qgz, qgs, Act.put, qgt, qgx, qgy]
 refine wpAnyH_ready (rs := [6]) (by kernel_rfl) (by simp) ?_
 refine AllReadyH.cons rfl (fun K hK => ?_) AllReadyH.nil
 go_simp
 refine hK.out _ _ (KEEP.out _ (y0j hb1 _)) (fun hHeld => ?_)
 clear hK K
 try simp only [qga, qgz, qgs, Act.put, qgt, qgx, qgy]
 refine wpAnyH_done (by kernel_rfl) ?_ _
 · go_wp2_with fail
   go_meet
   exact ⟨_, rfl, hb1.size, heap_alloc_new w' _, y0j hb1 _⟩
 go_simp
 have hb1 := y0j HS0.out (.cells #[.int .i64 0, .int .i64 0, .int .i64 0, .slice none 0 0] 24)
 refine hK.out _ _ (KEEP.out _ hb1) (fun hHeld => ?_)
 clear hK K
 try simp only [qga, qgz, qgs, Act.put, qgt, qgx, qgy]
 refine wpAnyH_ready (rs := [1]) (by kernel_rfl) (by simp) ?_
 refine AllReadyH.cons rfl (fun K hK => ?_) AllReadyH.nil
 go_simp
 go_at_call 152
 refine (HTO.out _ hb1).mono ?_
 rintro e w' ⟨rfl, hB⟩
 have hb2 := j1k hb1 hB
 obtain ⟨⟨y0, y1, y2, y3, y4⟩, z0, z1, z2, z3⟩ := zAt hB
 have hq := (hB.block w1.heap.size (by show w1.drew.heap.size < _; simp)).trans (heap_alloc_new w1.drew _)
 have HQ := hid hq
 clear hq
 refine hK.out _ _ (KEEP.out _ hb2) (fun hHeld => ?_)
 clear hK K
 try simp only [qga, qgz, qgs, Act.put, qgt, qgx, qgy]
 refine qT 4 (v := ?_) ?_ ?_
 rotate_left
 · intro w hSw; (try dsimp only at hSw); go_simp; try with_reducible rfl
 try simp only [qga, qgz, qgs, Act.put, qgt, qgx, qgy]
 refine wpAnyH_ready (rs := [6]) (by kernel_rfl) (by simp) ?_
 refine AllReadyH.cons rfl (fun K hK => ?_) AllReadyH.nil
 go_simp
 refine hK.out _ _ (KEEP.out _ (p3k hb2)) (fun hHeld => ?_)
 clear hK K
 try simp only [qga, qgz, qgs, Act.put, qgt, qgx, qgy]
 refine wpAnyH_done (by kernel_rfl) ?_ _
 go_wp2_with fail
 go_meet
 exact ⟨_, rfl, l1 _, heap_setCell_same _ _ 3 _ _ _ (heap_setCell_same _ _ 2 _ _ _ (heap_setCell_same _ _ 1 _ _ _ (heap_setCell_same _ _ 0 _ _ _ HQ.out))), p3k hb2⟩)
 case rest => (
 obtain ⟨O, rfl, hO, hox, hbo⟩ := hcut
 obtain ⟨wd, hwd⟩ : ∃ wd, wd = wc := ⟨_, rfl⟩
 subst hwd
 have hxc := (hbo.block w.heap.size x4).trans HX1.out
 have hrc := (hbo.block (w.heap.size + 1) (by omega)).trans HR1.out
 have hcsc := HCS.out.below hbo (l1 _)
 have hbw := HB.out.trans (hbo.mono HB.out.size)
 have hsO : O < wd.heap.size := (l0.1 hox).1
 have HXC := hid hxc; have HRC := hid hrc; have HCSC := hid hcsc; have HOX := hid hox; have HBO := hid hbo; have HBW := hid hbw
 clear x0 x1 x2 x3 x4 hxc hrc hcsc hox hbo hbw HTO HX1 HR1
 obtain ⟨x0, x1, x2, x3, x4⟩ := q0j HXC.out
 obtain ⟨S0, hS0⟩ : ∃ S0, S0 = (col s C).s0 := ⟨_, rfl⟩
 have HS0 := hid hS0
 clear hS0
 go_upto_if 27 with fail
 go_cut [7] from 11 (fun s7 wx => s7 = .pointer (some ⟨O, 0, none⟩) /\ (∀ b, b ≠ O -> b < wd.heap.size -> wx.heap[b]? = wd.heap[b]?) /\ wx.heap[O]? = some (.cells #[.int .i64 M, .int .i64 s.lb, .int .i64 S0, .slice none 0 0] 24 (0, 0)) /\ Below w1.heap.size w1 wx /\ wx.heap.size = wd.heap.size)
 case first => (
 by_cases hn0 : n = 0
 · (
 have hs0 : S0 = 0 := by
   rw [HS0.out]; simp only [col]
   rw [if_pos (by rw [HNN.out, hn0]; rfl)]
 subst hn0 hs0
 go_wp2_with fail
 go_meet
 exact ⟨rfl, fun _ _ _ => rfl, HOX.out, HBO.out, rfl⟩)
 · (
 have hzn : z < n := by have h1 := HST.out; have h2 := HNN.out; have h3 := HZ.out; omega
 have hzn' : (z : Int) < (n : Int) := by omega
 have hd : decide (0 < n) = true := by simp; omega
 have hn0' : (0 : Int) < (n : Int) := by omega
 have hgz : C[z]? = some (clf n f z) := by rw [HC.out]; exact j0t _ hzn
 have hcc := HCSC.out
 obtain rfl := hcc.ad (by rw [HCL.out]; omega)
 have g1 := hcc.ci hgz
 have gl := hcc.lt (by rw [HCL.out]; omega)
 simp only [Nat.zero_add] at g1
 have hs0 : Hid (clf n f z = S0) := hid (by (
 rw [HS0.out]; simp only [col]
 rw [if_neg (by rw [HNN.out]; omega), HC.out, HZ.out, z0c (by omega) (by omega)]
 rfl))
 rw [hs0.out] at g1
 obtain ⟨y0, y1, y2, y3, y4⟩ := q0j HOX.out
 have yf : wd.frozen? ⟨O, 2, none⟩ = false := by simp [World.frozen?, HOX.out]
 clear hcc hgz hn0
 go_wp2_with fail
 go_meet
 exact ⟨rfl, fun b hb _ => Below.heap_setCell _ _ _ _ hb, heap_setCell_same _ O 2 _ _ _ HOX.out, HBO.out.setCell hO _, by rw [size_setCell]⟩))
 case rest => (
 obtain ⟨rfl, hoth, hox, hbo, hsz⟩ := hcut
 clear x0 x1 x2 x3
 have hw1s := HB.out.size
 have hbxl : w.heap.size < w1.heap.size := by omega
 have hxc := (hoth w.heap.size (by omega) x4).trans HXC.out
 have hrc := (hoth (w.heap.size + 1) (by omega) (l0.1 HRC.out).1).trans HRC.out
 have hcsc : SlAt encI 1 wc ca cb 0 C := ⟨HCSC.out.ad, fun hp => by rw [hsz]; exact HCSC.out.lt hp, fun i x hx j u hu => by (
 have hp : 0 < C.length := by have := (l2.1 hx).1; omega
 have h1 := HCS.out.lt hp
 rw [World.cell?_of_block (w := wd) (a := ⟨cb, 0 + i * 1 + j, none⟩) (hoth cb (by omega) (HCSC.out.lt hp))]
 exact HCSC.out.cell i x hx j u hu)⟩
 have hbw := HB.out.trans (hbo.mono HB.out.size)
 have hse := HS.out.below hbw (l1 _)
 have hownc := k0v (own_below HOWN.out HBO.out) (w' := wc) (fun g hg => hoth g (by have := (HOWN.out.lt g hg).2; omega) (l3 (HOWN.out.lt g hg).2 HBO.out.size))
 have HOWNC := hid hownc
 clear hownc
 have hK : KW wc wc O M s.lb S0 (.slice none 0 0) (colE C (s.es.take 0)) := ⟨fun _ _ _ => rfl, Below.refl _ _, hox, by simpa [colE] using World.ownsRow_nil _ _ _ _, (l0.1 hox).1⟩
 have HXC2 := hid hxc; have HRC2 := hid hrc; have HCSC2 := hid hcsc; have HBW2 := hid hbw; have HSE := hid hse; have HK := hid hK
 clear hoth hox hbo hsz hxc hrc hcsc hbw hse hK HXC HRC HCSC HOX HBO HBW hsO x4
 obtain ⟨x0, x1, x2, x3, x4⟩ := q0j HXC2.out
 have hel4 : el <= 10000 := by have h1 := HST.out; have h2 := HEL.out; omega
 go_wp2_with fail
 go_loopw [37] (fun v37 wr => ∃ (k : Nat) (v : Value), v37 = .int .i64 k /\ k <= el /\ KW wc wr O M s.lb S0 v (colE C (s.es.take k)))
   (fun v37 _ => el - (intOf v37).toNat)
 case atStart => exact ⟨0, _, rfl, Nat.zero_le _, HK.out⟩
 case round => (
 obtain ⟨k, v, rfl, hk, hkw⟩ := hrel
 have HKW := hid hkw
 have hszx := hkw.bel.size
 obtain ⟨o0, o1, o2, o3, of3⟩ := hkw.cells
 have hOl := hkw.lt
 have hOlr : O < wr.heap.size := by omega
 have hKC : ∀ i x, C[i]? = some x -> ca = some ⟨cb, 0, none⟩ /\ wr.cell? ⟨cb, i, none⟩ = some (.int .i64 x) /\ cb < wr.heap.size := fun i x hx => by (
 have hp : 0 < C.length := by have := (l2.1 hx).1; omega
 have h1 := HCS.out.lt hp
 refine ⟨HCSC2.out.ad hp, ?_, by have := HCSC2.out.lt hp; omega⟩
 rw [World.cell?_of_block (w := wc) (a := ⟨cb, i, none⟩) (hkw.oth cb (HCSC2.out.lt hp) (by omega))]
 have := HCSC2.out.ci hx
 simpa using this)
 have HKC := hid hKC
 clear hkw hKC HK
 by_cases hlt : k < el
 · (
 have hlt2 : k < s.es.length := by rw [<- HEL.out]; exact hlt
 obtain ⟨x, hx⟩ := j0a hlt2
 have hser : SlAt encE 3 wr a b off s.es := ⟨HSE.out.ad, fun hp => l3 (HSE.out.lt hp) hszx, fun i y hy j u hu => by (
 have hp : 0 < s.es.length := by have := (l2.1 hy).1; omega
 have h1 := HS.out.lt hp
 rw [World.cell?_of_block (w := wc) (a := ⟨b, off + i * 3 + j, none⟩) (HKW.out.oth b (HSE.out.lt hp) (by omega))]
 exact HSE.out.cell i y hy j u hu)⟩
 obtain rfl := hser.ad (by omega)
 have d0 := hser.e0 hx; have d1 := hser.e1 hx; have d2 := hser.e2 hx
 have hbl := hser.lt (by omega)
 have hxr := j0g.1 (HR.out.edges x (List.mem_of_getElem? hx))
 have hstn := HNN.out
 have hct := x2i (c := C) hx
 obtain ⟨x1', x2', x3'⟩ := x
 simp only at hxr d0 d1 d2 hct
 obtain ⟨i1, rfl⟩ := Int.eq_ofNat_of_zero_le hxr.1
 obtain ⟨i3, rfl⟩ := Int.eq_ofNat_of_zero_le hxr.2.2.2.2.1
 have h1n : i1 < n := by omega
 have h3n : i3 < n := by omega
 have h1n' : (i1 : Int) < (n : Int) := by omega
 have h3n' : (i3 : Int) < (n : Int) := by omega
 have a1e : atL C (i1 : Int) = clf n f i1 := by rw [HC.out, z0c (by omega) (by omega)]; rfl
 have a3e : atL C (i3 : Int) = clf n f i3 := by rw [HC.out, z0c (by omega) (by omega)]; rfl
 rw [a1e, a3e] at hct
 obtain ⟨rfl, g1, gl⟩ := HKC.out i1 _ (by rw [HC.out]; exact j0t _ h1n)
 obtain ⟨_, g3, _⟩ := HKC.out i3 _ (by rw [HC.out]; exact j0t _ h3n)
 obtain ⟨c1, hc1⟩ : ∃ c1, c1 = clf n f i1 := ⟨_, rfl⟩
 obtain ⟨c3, hc3⟩ : ∃ c3, c3 = clf n f i3 := ⟨_, rfl⟩
 rw [<- hc1] at g1 hct; rw [<- hc3] at g3 hct
 have hki : (k : Int) < (el : Int) := by omega
 have HCT := hid hct
 have hcl := p1h C (s.es.take k)
 have hcl2 : (colE C (s.es.take k)).length <= 10000 := by have h1 := HST.out; rw [List.length_take] at hcl; omega
 clear hx hser hxr hstn hct a1e a3e hc1 hc3 hcl
 go_wp2_with fail
 go_region
 have hk2 := (HKW.out.call (y0j (y0j (Below.refl _ wr) (.cells #[.int .i64 i1, .int .i64 x2', .int .i64 i3] 71)) (.cells #[.int .i64 c1, .int .i64 x2', .int .i64 c3] 71))).call (Below.refl _ _).drew
 have hx2 := heap_alloc_new (wr.alloc (.cells #[.int .i64 i1, .int .i64 x2', .int .i64 i3] 71)) (.cells #[.int .i64 c1, .int .i64 x2', .int .i64 c3] 71)
 rw [show (wr.alloc (.cells #[.int .i64 i1, .int .i64 x2', .int .i64 i3] 71)).heap.size = wr.heap.size + 1 by simp] at hx2
 obtain ⟨W2, hW2⟩ : ∃ W2, W2 = ((wr.alloc (.cells #[.int .i64 i1, .int .i64 x2', .int .i64 i3] 71)).alloc (.cells #[.int .i64 c1, .int .i64 x2', .int .i64 c3] 71)).drew := ⟨_, rfl⟩
 have hx3 : W2.heap[wr.heap.size + 1]? = some (.cells #[.int .i64 c1, .int .i64 x2', .int .i64 c3] 71 (0, 0)) := by rw [hW2]; exact hx2
 rw [<- hW2] at hk2 ⊢
 have HK2 := hid hk2
 obtain ⟨o0, o1, o2, o3, of3⟩ := hk2.cells
 have e0 : W2.cell? ⟨wr.heap.size + 1, 0, none⟩ = some (.int .i64 c1) := by simp [World.cell?, hx3]
 have e1 : W2.cell? ⟨wr.heap.size + 1, 1, none⟩ = some (.int .i64 x2') := by simp [World.cell?, hx3]
 have e2 : W2.cell? ⟨wr.heap.size + 1, 2, none⟩ = some (.int .i64 c3) := by simp [World.cell?, hx3]
 have el2 := (l0.1 hx3).1
 have hOl2 : O < W2.heap.size := by omega
 clear hk2 hx2 hx3 hW2 g1 g3 gl d0 d1 d2 hbl hOlr
 by_cases hx0 : x2' = 0
 · (
 by_cases hcc : c1 = c3
 · (
 have hb1 : (x2' != 0) = false := by simp [hx0]
 have hb2 : (c1 != c3) = false := by simp [hcc]
 have hct2 := HCT.out
 rw [if_pos ⟨hx0, hcc⟩] at hct2
 have HCT2 := hid hct2
 clear hx0 hcc hct2
 go_wp2_with fail
 go_roundw
 case rel => exact ⟨k + 1, v, by go_num, by omega, by rw [HCT2.out]; exact HK2.out⟩
 case measure => simp [intOf]; omega)
 · (
 have hb1 : (x2' != 0) = false := by simp [hx0]
 have hb2 : (c1 != c3) = true := by simp [hcc]
 have hct2 := HCT.out
 rw [if_neg (fun h => hcc h.2)] at hct2
 have HCT2 := hid hct2
 clear hx0 hcc hct2
 have hown2 : (W2.alloc (.cells #[.int .i64 c1, .int .i64 x2', .int .i64 c3] 71)).ownsRow wc.heap.size 71 3 v (colE C (s.es.take k)).length ((colE C (s.es.take k)).flatMap encE) := HK2.out.own.alloc _
 have hBz : wc.heap.size <= (W2.alloc (.cells #[.int .i64 c1, .int .i64 x2', .int .i64 c3] 71)).heap.size := by have := HK2.out.bel.size; simp; omega
 have HOWN2 := hid hown2; have HBZ := hid hBz
 clear hown2 hBz
 go_wp2_with (at_builtin; go_must (refine k0i rfl _ _ _ rfl x1s (Below.refl _ _) HBZ.out (by rfl) HOWN2.out ⟨W2.heap.size, 0, none⟩ 1 1 [.int .i64 c1, .int .i64 x2', .int .i64 c3] rfl rfl (k3t (e := (c1, x2', c3)) (heap_alloc_new W2 _)) (by simp [Value.oneCell']) (by decide) (by omega) (by unfold maxLen; omega) ?_); intro g2 cap2 w7 hown7 _ hg7; have kp := KW.keepc (HK2.out.call ((Below.refl _ _).alloc (l1 _) _)) hg7; have kp0 := kp.1; have kp1 := kp.2; have kp2 : O < w7.heap.size := (World.block_lt_of_cell? _ _ kp0); clear kp)
 have h8 := KW.setEs (v' := .slice (some ⟨g2, 0, none⟩) ((colE C (s.es.take k)).length + 1) cap2) (es' := colE C (s.es.take k) ++ [(c1, x2', c3)]) (HK2.out.call ((Below.refl _ _).alloc (l1 _) _)) (by rw [l5, l4]; exact hown7) hg7
 have H8 := hid h8
 clear h8 hown7 hg7 kp0 kp1 kp2
 go_roundw
 case rel => exact ⟨k + 1, _, by go_num, by omega, by rw [HCT2.out]; exact H8.out⟩
 case measure => simp [intOf]; omega))
 · (
 have hb1 : (x2' != 0) = true := by simp [hx0]
 have hct2 := HCT.out
 rw [if_neg (fun h => hx0 h.1)] at hct2
 have HCT2 := hid hct2
 clear hx0 hct2
 have hown2 : (W2.alloc (.cells #[.int .i64 c1, .int .i64 x2', .int .i64 c3] 71)).ownsRow wc.heap.size 71 3 v (colE C (s.es.take k)).length ((colE C (s.es.take k)).flatMap encE) := HK2.out.own.alloc _
 have hBz : wc.heap.size <= (W2.alloc (.cells #[.int .i64 c1, .int .i64 x2', .int .i64 c3] 71)).heap.size := by have := HK2.out.bel.size; simp; omega
 have HOWN2 := hid hown2; have HBZ := hid hBz
 clear hown2 hBz
 go_wp2_with (at_builtin; go_must (refine k0i rfl _ _ _ rfl x1s (Below.refl _ _) HBZ.out (by rfl) HOWN2.out ⟨W2.heap.size, 0, none⟩ 1 1 [.int .i64 c1, .int .i64 x2', .int .i64 c3] rfl rfl (k3t (e := (c1, x2', c3)) (heap_alloc_new W2 _)) (by simp [Value.oneCell']) (by decide) (by omega) (by unfold maxLen; omega) ?_); intro g2 cap2 w7 hown7 _ hg7; have kp := KW.keepc (HK2.out.call ((Below.refl _ _).alloc (l1 _) _)) hg7; have kp0 := kp.1; have kp1 := kp.2; have kp2 : O < w7.heap.size := (World.block_lt_of_cell? _ _ kp0); clear kp)
 have h8 := KW.setEs (v' := .slice (some ⟨g2, 0, none⟩) ((colE C (s.es.take k)).length + 1) cap2) (es' := colE C (s.es.take k) ++ [(c1, x2', c3)]) (HK2.out.call ((Below.refl _ _).alloc (l1 _) _)) (by rw [l5, l4]; exact hown7) hg7
 have H8 := hid h8
 clear h8 hown7 hg7 kp0 kp1 kp2
 go_roundw
 case rel => exact ⟨k + 1, _, by go_num, by omega, by rw [HCT2.out]; exact H8.out⟩
 case measure => simp [intOf]; omega))
 · (
 obtain rfl : k = el := by omega
 have hkw2 : KW wc wr O M s.lb S0 v (colE C s.es) := by (
 have h1 := HKW.out
 rw [HEL.out, List.take_length] at h1
 exact h1)
 obtain ⟨ga, gc, g, rfl, _, _, hsl, _⟩ := j0d k0q hkw2.own
 have hcl := p1h C s.es
 have hcl2 : (colE C s.es).length <= 1000000 := by have := HST.out; omega
 have HSO := hid (u0v (c := gc) hsl hcl2)
 have HKW2 := hid hkw2
 obtain ⟨cl, hcle⟩ : ∃ cl, cl = (colE C s.es).length := ⟨_, rfl⟩
 rw [<- hcle] at HSO o3
 clear hkw2 hsl hcl hcl2 hcle HKW HKC
 go_wp2_with fail
 refine HSO.out.mono ?_
 rintro e w6 ⟨v6, rfl, hown6, hB6⟩
 obtain ⟨sa, sc, sb, rfl, _, _, _, hsb⟩ := j0d k0q hown6
 obtain ⟨nl, hnl⟩ : ∃ nl, nl = (nf ltE (colE C s.es)).length := ⟨_, rfl⟩
 have HNL := hid hnl
 rw [<- hnl] at hown6 ⊢
 have ho6 := (hB6.block O hOlr).trans HKW2.out.oo
 have hrl : w.heap.size + 1 < wc.heap.size := (l0.1 HRC2.out).1
 have hr6 := ((hB6.block (w.heap.size + 1) (by omega)).trans (HKW2.out.oth (w.heap.size + 1) hrl (by omega))).trans HRC2.out
 obtain ⟨y0, y1, y2, y3, y4⟩ := q0j ho6
 have yf : w6.frozen? ⟨O, 3, none⟩ = false := by simp [World.frozen?, ho6]
 obtain ⟨⟨z0, z1, z2, z3, z4⟩, f0, f1, f2, f3⟩ := u2u hr6
 have hOR : ¬ O = w.heap.size + 1 := by omega
 have hOR2 : ¬ w.heap.size + 1 = O := by omega
 have hown6' := j0r hown6 (show O <= wr.heap.size by omega)
 have hownc6 : w6.ownsRow w.heap.size 3 1 (.slice ca n cc) n (C.flatMap encI) := j0r (k0v HOWNC.out (w' := w6) (fun g hg => by (
 have hg2 := (HOWNC.out.lt g hg).2
 have hg3 := (HOWN.out.lt g hg).2
 rw [hB6.block g (by omega)]
 exact HKW2.out.oth g hg2 (by omega)))) (by simp; omega)
 have hbel6 : Below w.heap.size w w6 := (HBW2.out.trans (HKW2.out.bel.mono (by omega))).trans (hB6.mono (by omega))
 have hgn : ∀ g, (Value.slice ca n cc).ownBlock = some g -> g ≠ O /\ g ≠ w.heap.size + 1 := fun g hg => by (
 have h1 := (HOWN.out.lt g hg).1; have h2 := (HOWN.out.lt g hg).2
 simp at h1
 omega)
 have hgs : ∀ g, (Value.slice sa nl sc).ownBlock = some g -> g ≠ O /\ g ≠ w.heap.size + 1 := fun g hg => by
   have h1 := (hown6.lt g hg).1
   omega
 have H6 := hid hown6'; have HC6 := hid hownc6; have HB6 := hid hbel6; have HGN := hid hgn; have HGS := hid hgs
 clear hown6 hown6' hB6 ho6 hr6 hownc6 hbel6 hgn hgs hsb hnl o0 o1 o2 o3 of3 x0 x1 x2 x3
 go_wp2_with fail
 refine bodyPost_ret (v := .tuple #[.agg #[.int .i64 M, .int .i64 s.lb, .int .i64 S0, .slice sa nl sc], .slice ca n cc, .nilIface]) (by simp [results, results174, go_sem, z0, z1, z2, z3]) rfl ⟨f, .slice ca n cc, .slice sa nl sc, HCYC.out, by rw [<- HC.out, HS0.out, HM.out]; rfl, ?_, ?_, ?_⟩
 · rw [<- HC.out]
   exact j0l (j0l (j0l (j0l (j0l HC6.out (fun g hg => (HGN.out g hg).1) _) (fun g hg => (HGN.out g hg).2) _) (fun g hg => (HGN.out g hg).2) _) (fun g hg => (HGN.out g hg).2) _) (fun g hg => (HGN.out g hg).2) _
 · have h1 := j0l (j0l (j0l (j0l (j0l H6.out (p := ⟨O, 3, none⟩) (fun g hg => (HGS.out g hg).1) (.slice sa nl sc)) (p := ⟨w.heap.size + 1, 0, none⟩) (fun g hg => (HGS.out g hg).2) (.int .i64 M)) (p := ⟨w.heap.size + 1, 1, none⟩) (fun g hg => (HGS.out g hg).2) (.int .i64 s.lb)) (p := ⟨w.heap.size + 1, 2, none⟩) (fun g hg => (HGS.out g hg).2) (.int .i64 S0)) (p := ⟨w.heap.size + 1, 3, none⟩) (fun g hg => (HGS.out g hg).2) (.slice sa nl sc)
   show World.ownsRow _ _ _ _ _ (nf ltE (colE (fl n (clf n f)) s.es)).length ((nf ltE (colE (fl n (clf n f)) s.es)).flatMap encE)
   rw [<- HC.out, <- HNL.out]
   exact j0r h1 (by omega)
 · exact ((((HB6.out.setCell (by show w.heap.size <= O; omega) _).setCell (by show w.heap.size <= w.heap.size + 1; omega) _).setCell (by show w.heap.size <= w.heap.size + 1; omega) _).setCell (by show w.heap.size <= w.heap.size + 1; omega) _).setCell (by show w.heap.size <= w.heap.size + 1; omega) _))))
end Go.Proofs.YtbaccmlfnbgehaaGreatDoor

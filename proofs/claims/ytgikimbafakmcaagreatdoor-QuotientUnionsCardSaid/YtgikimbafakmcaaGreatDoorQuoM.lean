/-
  Lemmas.
-/
import Derived.Test.YtgikimbafakmcaaGreatDoorGLaidQun
import Derived.Test.YtgikimbafakmcaaGreatDoorGReach
import Derived.Deep.Cut
import Derived.Deep.CutRange
open List renaming getElem_toArray -> qga, getElem_cons_zero -> qgz, getElem_cons_succ -> qgs, setIfInBounds_toArray -> qgt, set_cons_zero -> qgx, set_cons_succ -> qgy
namespace Go.Proofs.YtgikimbafakmcaaGreatDoor
open Go.RowKit Pl
open Lib (hid)
theorem EsOk.hadI {inert : Bool} {es G : List E} (h : EsOk es (G.filter (keepE inert))) {x : E} (hx : x ∈ es) : EsOk es ((G ++ [x]).filter (keepE inert)) := by
 rw [List.filter_append]
 by_cases hk : keepE inert x = true
 · rw [show [x].filter (keepE inert) = [x] by simp [hk]]; exact h.had hx
 · rw [show [x].filter (keepE inert) = [] by simp [hk], List.append_nil]; exact h
theorem EsOk.newI {inert : Bool} {es G : List E} (h : EsOk es (G.filter (keepE inert))) {x : E} (hk : keepE inert x = true) : EsOk (es ++ [x]) ((G ++ [x]).filter (keepE inert)) := by
 rw [List.filter_append, show [x].filter (keepE inert) = [x] by simp [hk]]; exact h.new x
theorem EsOk.skipI {inert : Bool} {es G : List E} (h : EsOk es (G.filter (keepE inert))) {x : E} (hk : keepE inert x = false) : EsOk es ((G ++ [x]).filter (keepE inert)) := by
 rw [List.filter_append, show [x].filter (keepE inert) = [] by simp [hk], List.append_nil]; exact h
def QuoPostG (inert : Bool) (s : Lts) (n : Nat) (C : Nat -> Int) (w : World) (e : Ending) (w' : World) : Prop :=
  ∃ (ea ta : Option Addr) (eb ec tbk tc : Nat), e = .returned (.tuple #[.agg #[.int .i64 (quoSI inert s (fl n C)).st, .int .i64 (quoSI inert s (fl n C)).lb, .int .i64 (quoSI inert s (fl n C)).s0, .slice ea (quoSI inert s (fl n C)).es.length ec], .slice ta n tc, .nilIface]) /\
    SlAt encE 3 w' ea eb 0 (quoSI inert s (fl n C)).es /\ SlAt encI 1 w' ta tbk 0 (fl n (fun j => toI (quoD s (fl n C)) (C j))) /\ (0 < (quoSI inert s (fl n C)).es.length -> w.heap.size <= eb) /\ (0 < n -> w.heap.size <= tbk) /\ Below w.heap.size w w'
set_option maxRecDepth 100000 in
set_option maxHeartbeats 16000000 in
theorem quoOfG_any (inert : Bool) {p : Addr} {s : Lts} {n : Nat} (h : s.Right) (hn : s.st = (n : Int)) (hn0 : 0 < n) {a : Option Addr} {b off c : Nat} {w : World} (hG : GErr 0 p w) (hS : SlAt encE 3 w a b off s.es)
    {C : Nat -> Int} {ca : Option Addr} {cb co cc : Nat} (hC : SlAt encI 1 w ca cb co (fl n C)) (hcl : clB (n : Int) (fl n C) = true) (hwf : ∀ x ∈ fl n C, (Lit.int .i64 x).wf = true) (hb : n * s.es.length <= 100000) :
    Calls Tryz.prog 100 #[.agg #[.int .i64 s.st, .int .i64 s.lb, .int .i64 s.s0, .slice a s.es.length c], .slice ca n cc, .bool inert] w (QuoPostG inert s.norm n C w) := by
 have hst0 := h.st0
 have hn1 : n <= 1000 := by omega
 have hB0 := ((Below.refl w.heap.size w).alloc (Nat.le_refl _) (Obj.cells #[.int .i64 s.st, .int .i64 s.lb, .int .i64 s.s0, .slice a s.es.length c] 24)).alloc (by simp) (Obj.cells #[.int .i64 0, .int .i64 0, .int .i64 0, .slice none 0 0] 24)
 have hx0 := (((Below.refl _ _).alloc (Nat.le_refl _) (Obj.cells #[.int .i64 0, .int .i64 0, .int .i64 0, .slice none 0 0] 24)).block w.heap.size (by simp)).trans (heap_alloc_new w (Obj.cells #[.int .i64 s.st, .int .i64 s.lb, .int .i64 s.s0, .slice a s.es.length c] 24))
 have hy0 := heap_alloc_at (w.alloc (Obj.cells #[.int .i64 s.st, .int .i64 s.lb, .int .i64 s.s0, .slice a s.es.length c] 24)) (Obj.cells #[.int .i64 0, .int .i64 0, .int .i64 0, .slice none 0 0] 24) (w.heap.size + 1) (by simp)
 have hN := new_ok (c := c) h (hG.below hB0) (hS.below hB0 (Nat.le_refl _))
 have HN := hid hN; have HB0 := hid hB0; have HX0 := hid hx0; have HY0 := hid hy0; have HC := hid hC; have HCLB := hid hcl; have HWF := hid hwf; have HBB := hid hb
 have HR : Hid s.norm.Right := hid h.norm
 have HNN : Hid (s.norm.st = (n : Int)) := hid hn
 have HEL : Hid (s.norm.es.length <= s.es.length) := hid (length_nf (lt := ltE) s.es)
 obtain ⟨z, hz⟩ := Int.eq_ofNat_of_zero_le hst0.2.2.2.2.1
 have hzn : z < n := by omega
 have HZ : Hid (s.norm.s0 = (z : Int)) := hid hz
 obtain ⟨N, hNe⟩ : ∃ N, N = s.norm := ⟨_, rfl⟩
 have HLB : Hid (N.lb = s.lb) := hid (by rw [hNe]; rfl)
 rw [<- hNe] at HN HR HNN HEL HZ ⊢
 rw [hn, hz] at HN HX0 HY0 HB0 ⊢
 clear hN hB0 hx0 hy0 hS hG h hn hst0 hC hcl hwf hb hz hNe
 go_enter Tryz.func100, Tryz.ntmps100
 go_wp2_with fail
 refine HN.out.mono ?_
 rintro e w1 ⟨gb, rfl, hgr, hB1, _⟩
 have hb1 := HB0.out.trans (hB1.mono (by simp; omega))
 have hx1 := (hB1.block w.heap.size (by simp; omega)).trans HX0.out
 have hy1 := (hB1.block (w.heap.size + 1) (by simp)).trans HY0.out
 have hcs := classes_any (c := cc) (n : Int) s.lb (z : Int) (.slice a s.es.length c) (HC.out.below hb1 (Nat.le_refl _)) (by rw [fl_len]; omega) HWF.out
 rw [fl_len, HCLB.out] at hcs
 have HCS := hid hcs; have HB1 := hid hb1; have HX1 := hid hx1; have HY1 := hid hy1; have HGR := hid hgr
 have x0 : w1.cell? ⟨w.heap.size, 0, none⟩ = some (.int .i64 n) := by simp [World.cell?, hx1]
 have x1 : w1.cell? ⟨w.heap.size, 1, none⟩ = some (.int .i64 s.lb) := by simp [World.cell?, hx1]
 have x2 : w1.cell? ⟨w.heap.size, 2, none⟩ = some (.int .i64 (z : Int)) := by simp [World.cell?, hx1]
 have x3 : w1.cell? ⟨w.heap.size, 3, none⟩ = some (.slice a s.es.length c) := by simp [World.cell?, hx1]
 have xl := (Array.getElem?_eq_some_iff.1 hx1).1
 clear hb1 hx1 hy1 hcs hB1 hgr HN HB0 HX0 HY0
 go_wp2_with fail
 refine HCS.out.mono ?_
 rintro e w2 ⟨rfl, hB2⟩
 have hx2 := (hB2.block w.heap.size xl).trans HX1.out
 have hy2 := (hB2.block (w.heap.size + 1) (Array.getElem?_eq_some_iff.1 HY1.out).1).trans HY1.out
 have HB2 := hid (HB1.out.trans (hB2.mono HB1.out.size)); have HX2 := hid hx2; have HY2 := hid hy2; have HGR2 := hid (HGR.out.below hB2)
 clear x0 x1 x2 x3 xl
 have x1 : w2.cell? ⟨w.heap.size, 1, none⟩ = some (.int .i64 s.lb) := by simp [World.cell?, hx2]
 have xl := (Array.getElem?_eq_some_iff.1 hx2).1
 have hmm := @run_makeMap Tryz.prog
 have hr1 := (Rws.nil (Below.refl w2.heap.size w2)).addLit #[.int .i64 0, .int .i64 s.lb, .int .i64 0, .slice none 0 0] 24 (k := 4) (n := 1) (by decide) rfl
 have hr2 : Rws w2 ((w2.alloc (.cells #[.int .i64 0, .int .i64 s.lb, .int .i64 0, .slice none 0 0] 24)).alloc (.map #[] 0)) [RQ w2.heap.size 0 s.lb 0 (.slice none 0 0)] := hr1.alloc _
 have hom : OMap ((w2.alloc (.cells #[.int .i64 0, .int .i64 s.lb, .int .i64 0, .slice none 0 0] 24)).alloc (.map #[] 0)) (w2.heap.size + 1) encNv okN encNv (numF []) 0 := by (
 have h1 := OMap.made (enck := encNv) (ok := okN) (encv := encNv) (w2.alloc (.cells #[.int .i64 0, .int .i64 s.lb, .int .i64 0, .slice none 0 0] 24))
 rw [show (w2.alloc (.cells #[.int .i64 0, .int .i64 s.lb, .int .i64 0, .slice none 0 0] 24)).heap.size = w2.heap.size + 1 by simp] at h1
 exact h1.congr (fun z => by unfold numF; simp))
 have hrc := reach_ok (HGR2.out.below hr2.bel) (by rw [HNN.out]; omega)
 have HRC := hid hrc; have HR2 := hid hr2; have HOM := hid hom
 clear hx2 hy2 hB2 hr1 hr2 hom hrc HCS HB1 HX1 HY1 HGR
 go_wp2_with fail
 refine HRC.out.mono ?_
 rintro e w3 ⟨v, rfl, hown, hB3⟩
 have hr3 := HR2.out.add hB3 hown
 have hrpos : 0 < (reachL N).length := List.length_pos_of_mem (quo_start HR.out HNN.out hn0)
 obtain ⟨ra, rc, rb, rfl, _, _, hra, _⟩ := slAt_own lenI hown
 obtain rfl := hra.ad hrpos
 have HR3 : Hid (Rws w2 w3 [RI (some ⟨rb, 0, none⟩) (reachL N).length rc (reachL N), RQ w2.heap.size 0 s.lb 0 (.slice none 0 0)]) := hid hr3
 have HOM3 := hid (HOM.out.of_block (hB3.block _ HOM.out.lt))
 obtain ⟨tb, htb⟩ : ∃ tb, tb = w2.heap.size := ⟨_, rfl⟩
 rw [<- htb] at HR3 HOM3 ⊢
 have HTB := hid htb
 obtain ⟨P, hP⟩ : ∃ P, P = reachL N := ⟨_, rfl⟩
 rw [<- hP] at HR3 ⊢
 have HP := hid hP
 obtain ⟨rl, hrl⟩ : ∃ rl, rl = P.length := ⟨_, rfl⟩
 rw [<- hrl] at HR3 ⊢
 have HRL := hid hrl
 have HPN : Hid (∀ x ∈ P, ∃ q : Nat, x = (q : Int) /\ q < n) := hid (fun x hx => by (
 rw [hP] at hx
 obtain ⟨q, h1, h2, _⟩ := quo_rng HR.out HNN.out hn0 hx
 exact ⟨q, h1, h2⟩))
 have hrn : rl <= n := by (
 have h1 := reachL_len (s := N)
 rw [hrl, hP]
 have h2 := HNN.out
 omega)
 have HCW := hid (HC.out.below HB2.out (Nat.le_refl _))
 clear hown hB3 hr3 htb hP hrl hra hrpos HR2 HOM HRC x1 xl hmm HC
 go_wp2_with fail
 go_loopw [14, 15, 16, 54] (fun _ _ _ v54 wr => ∃ k nn : Nat, v54 = .int .i64 k /\ k <= rl /\ Rws w2 wr [RI (some ⟨rb, 0, none⟩) rl rc P, RQ tb ((clsL (fl n C) (P.take k)).length : Int) s.lb 0 (.slice none 0 0)] /\ OMap wr (tb + 1) encNv okN encNv (numF (clsL (fl n C) (P.take k))) nn) (fun _ _ _ v54 _ => rl - (intOf v54).toNat)
 case atStart => exact ⟨0, 0, rfl, Nat.zero_le _, HR3.out, HOM3.out⟩
 case round => as_aux_lemma => (
 obtain ⟨k, nn, rfl, hk, hrw, hom⟩ := hrel
 have HRW := hid hrw; have HOM := hid hom
 have hw2 := hrw.bel.size
 clear hrw hom HR3 HOM3
 by_cases hkr : k < rl
 · (
 obtain ⟨xs, hxs⟩ := getElem?_of_lt (xs := P) (i := k) (by rw [<- HRL.out]; exact hkr)
 obtain ⟨q, rfl, hqn⟩ := HPN.out _ (List.mem_of_getElem? hxs)
 have hrs := HRW.out.slO (i := 0) (ys := P) rfl lenI HRL.out
 have d0 : wr.cell? ⟨rb, 0 + k, none⟩ = some (.int .i64 (q : Int)) := hrs.ci hxs
 have dl : rb < wr.heap.size := hrs.lt (by rw [<- HRL.out]; omega)
 have hcs := HCW.out.below HRW.out.bel (Nat.le_refl _)
 have hln : 0 < (fl n C).length := by rw [fl_len]; omega
 obtain rfl := hcs.ad hln
 have d1 := hcs.ci (fl_get C hqn)
 have dl1 := hcs.lt hln
 have t0 := HRW.out.cell (i := 1) rfl (j := 0) rfl
 have tl := (HRW.out.lt (i := 1) rfl).2
 have tf := HRW.out.fz (i := 1) rfl 0
 have hsn := clsL_snoc (L := fl n C) hxs
 rw [atLF hqn] at hsn
 have HOK : Hid (okN (C q)) := hid (HWF.out _ (List.mem_of_getElem? (fl_get C hqn)))
 have hdl := clsL_len (fl n C) P k
 obtain ⟨D, hD⟩ : ∃ D, D = clsL (fl n C) (P.take k) := ⟨_, rfl⟩
 rw [<- hD] at t0 hsn hdl HRW HOM
 obtain ⟨x, hx⟩ : ∃ x, x = C q := ⟨_, rfl⟩
 rw [<- hx] at d1 hsn HOK
 obtain ⟨d, hd⟩ : ∃ d, d = D.length := ⟨_, rfl⟩
 rw [<- hd] at t0 hdl HRW
 have HDE := hid hd
 have HSN := hid hsn
 have hkI : (k : Int) < (rl : Int) := by omega
 have hqI : (q : Int) < (n : Int) := by omega
 simp only [Nat.zero_add] at d0
 clear hxs hrs hcs hln hsn hD hx hd
 by_cases hin : x ∈ D
 · (
 have HNF : Hid (numF D x = some (D.idxOf x : Int)) := hid (by unfold numF; rw [if_pos hin])
 rw [if_pos hin] at HSN
 clear hin
 go_wp2_with (at_lookup; refine wpList_olook_ok rfl _ _ 177 rfl encNum Tryz.underlying177 (zeroNum _) rfl HOM.out x HOK.out rfl ?_; rw [HNF.out]; simp only [Option.map_some, Option.getD_some, Option.isSome_some, encNv])
 go_roundw
 case rel => exact ⟨k + 1, nn, by go_num, by omega, by rw [HSN.out, <- HDE.out]; exact HRW.out, by rw [HSN.out]; exact HOM.out⟩
 case measure => simp [intOf]; omega)
 · (
 have HNF : Hid (numF D x = none) := hid (by unfold numF; rw [if_neg hin])
 rw [if_neg hin] at HSN
 have HIN := hid hin
 have HOMD : Hid (OMap wr.drew (tb + 1) encNv okN encNv (numF D) nn) := hid (HOM.out.of_block rfl)
 have HK7 : Hid (∀ w7 : World, wr.drew.grownBy w7 (some (tb + 1)) -> w7.cell? ⟨cb, co + q, none⟩ = some (.int .i64 x) /\ w7.cell? ⟨tb, 0, none⟩ = some (.int .i64 (d : Int)) /\ cb < w7.heap.size /\ tb < w7.heap.size) := hid (fun w7 hg => by (
 have h1 : cb < w2.heap.size := HCW.out.lt (by rw [fl_len]; omega)
 have h2 := HTB.out
 exact ⟨(World.cell?_of_block (a := ⟨cb, co + q, none⟩) (hg.block cb dl1 (fun e => by have := Option.some.inj e; omega))).trans d1, (World.cell?_of_block (a := ⟨tb, 0, none⟩) (hg.block tb tl (fun e => by have := Option.some.inj e; omega))).trans t0, Nat.lt_of_lt_of_le dl1 hg.size, Nat.lt_of_lt_of_le tl hg.size⟩))
 clear hin
 go_upto_region 13 with (at_lookup; refine wpList_olook_ok rfl _ _ 177 rfl encNum Tryz.underlying177 (zeroNum _) rfl HOM.out x HOK.out rfl ?_; rw [HNF.out]; simp only [Option.map_none, Option.getD_none, Option.isSome_none])
 refine wp_region_held_drew (S := (fun W => W.cell? ⟨cb, co + q, none⟩ = some (.int .i64 x) /\ W.cell? ⟨tb, 0, none⟩ = some (.int .i64 (d : Int)) /\ cb < W.heap.size /\ tb < W.heap.size)) (by kernel_rfl) (by (try dsimp only); exact ⟨d1, t0, dl1, tl⟩) (fun hHeld => ?_)
 refine qT 0 (v := ?_) ?_ ?_
 rotate_left
 · intro w hSw; (try dsimp only at hSw); go_simp; try with_reducible rfl
 try simp only [qga, qgz, Act.put, qgt, qgx, qgy]
 refine qT 1 (v := ?_) ?_ ?_
 rotate_left
 · intro w hSw; (try dsimp only at hSw); go_simp; try with_reducible rfl
 try simp only [qga, qgz, qgs, Act.put, qgt, qgx, qgy]
 refine qT 2 (v := ?_) ?_ ?_
 rotate_left
 · intro w hSw; (try dsimp only at hSw); go_simp; try with_reducible rfl
 try simp only [qga, qgz, qgs, Act.put, qgt, qgx, qgy]
 refine qT 3 (v := ?_) ?_ ?_
 rotate_left
 · intro w hSw; (try dsimp only at hSw); go_simp; try with_reducible rfl
 try simp only [qga, qgz, qgs, Act.put, qgt, qgx, qgy]
 refine qT 4 (v := ?_) ?_ ?_
 rotate_left
 · intro w hSw; (try dsimp only at hSw); go_simp; try with_reducible rfl
 try simp only [qga, qgz, qgs, Act.put, qgt, qgx, qgy]
 refine qT 5 (v := ?_) ?_ ?_
 rotate_left
 · intro w hSw; (try dsimp only at hSw); go_simp; try with_reducible rfl
 try simp only [qga, qgz, qgs, Act.put, qgt, qgx, qgy]
 refine qT 6 (v := ?_) ?_ ?_
 rotate_left
 · intro w hSw; (try dsimp only at hSw); go_simp; try with_reducible rfl
 try simp only [qga, qgz, qgs, Act.put, qgt, qgx, qgy]
 refine wpAnyH_ready (rs := [7]) (by kernel_rfl) (by simp) ?_
 refine AllReadyH.cons rfl (fun K hK => ?_) AllReadyH.nil
 refine step_oput rfl _ _ _ 177 (by rfl) encNum Tryz.underlying177 (by rfl) (HOMD.out) x HOK.out (by rfl) (d : Int) (by rfl) ?_
 intro w7 hom7 hg7 hf7 hs7
 have hk7 := HK7.out w7 hg7
 refine hK.out _ _ (by (try dsimp only); exact hk7) (fun hHeld => ?_)
 clear hK K
 try simp only [qga, qgz, qgs, Act.put]
 refine wpAnyH_done (by kernel_rfl) ?_ _
 have hr7 := (HRW.out.drew).mapPut hg7 (HOMD.out.block) (by rw [HTB.out]; omega)
 have u0 := hr7.cell (i := 1) rfl (j := 0) rfl
 have uf := hr7.fz (i := 1) rfl 0
 have ul := (hr7.lt (i := 1) rfl).2
 have hr8 := hr7.set 1 rfl 0 (.int .i64 ((d : Int) + 1))
 have HR8 := hid hr8
 have hom8 : OMap w7 (tb + 1) encNv okN encNv (numF (D ++ [x])) (if (numF D x).isSome then nn else nn + 1) := hom7.congr (fun z => by rw [HDE.out]; exact numF_push HIN.out z)
 have HLE : Hid ((((D ++ [x]).length : Nat) : Int) = (d : Int) + 1) := hid (by rw [List.length_append, <- HDE.out]; simp)
 have HOM8 := hid (hom8.of_block (w' := w7.setCell ⟨tb, 0, none⟩ (.int .i64 ((d : Int) + 1))) (Below.heap_setCell _ _ _ _ (by show tb + 1 ≠ tb; omega)))
 clear hr7 hr8 hom7 hom8 hg7 hf7 hs7 hk7 t0 tl tf HK7 HOMD d0 d1 dl dl1 hHeld
 go_wp2_with fail
 go_roundw
 case rel => exact ⟨k + 1, _, by go_num, by omega, by rw [HSN.out, HLE.out]; exact HR8.out, by rw [HSN.out]; exact HOM8.out⟩
 case measure => simp [intOf]; omega))
 · (
 obtain rfl : k = rl := by omega
 have hrw := HRW.out; have hom := HOM.out
 rw [HRL.out, List.take_length] at hom
 rw [HRL.out, List.take_length, <- HRL.out] at hrw
 obtain ⟨D, hD⟩ : ∃ D, D = clsL (fl n C) P := ⟨_, rfl⟩
 rw [<- hD] at hrw hom
 have HD : Hid (D = quoD N (fl n C)) := hid (by rw [hD, HP.out]; rfl)
 obtain ⟨d, hd⟩ : ∃ d, d = D.length := ⟨_, rfl⟩
 rw [<- hd] at hrw
 have HDE := hid hd
 have HDN : Hid (D.length <= n) := hid (by (
 have h1 := clsL_len (fl n C) P k
 rw [HRL.out, List.take_length, <- hD] at h1
 rw [<- HRL.out] at h1
 omega))
 have hmk := run_make_row' (P := Tryz.prog) 58 3 (.int .i64 0) 8 Tryz.underlying58 (by kernel_rfl) rfl .i64 .i64 n (by omega) (by omega)
 have hx3 := (hrw.bel.block w.heap.size (Array.getElem?_eq_some_iff.1 HX2.out).1).trans HX2.out
 have x0 : wr.cell? ⟨w.heap.size, 0, none⟩ = some (.int .i64 n) := by simp [World.cell?, hx3]
 have xl := (Array.getElem?_eq_some_iff.1 hx3).1
 have HRV := hid (rvMade hrw (n := n) hn1)
 have hb := (Below.refl wr.heap.size wr).alloc (Nat.le_refl _) (.cells (madeCells #[.int .i64 0] n) 3)
 have HOV := hid (hom.of_block (hb.block _ hom.lt))
 obtain ⟨ob, hob⟩ : ∃ ob, ob = wr.heap.size := ⟨_, rfl⟩
 rw [<- hob] at HRV
 have HLV : Hid (w2.heap.size <= ob) := hid (by rw [hob]; exact hrw.bel.size)
 clear hrw hom hD hd hx3 hb HRW HOM
 go_upto_region 17 with fail
 rw [<- hob]
 obtain ⟨wv, hwv⟩ : ∃ wv, wv = wr.alloc (.cells (madeCells #[.int .i64 0] n) 3) := ⟨_, rfl⟩
 rw [<- hwv] at HRV HOV ⊢
 clear hwv hob hmk x0 xl
 go_wp2_with fail
 go_loopw [18, 19, 20, 21, 86] (fun _ _ _ _ v86 wx => ∃ j : Nat, v86 = .int .i64 j /\ j <= n /\ Rws w2 wx [RV ob n (toK D C j), RI (some ⟨rb, 0, none⟩) k rc P, RQ tb (d : Int) s.lb 0 (.slice none 0 0)] /\ OMap wx (tb + 1) encNv okN encNv (numF D) nn) (fun _ _ _ _ v86 _ => n - (intOf v86).toNat)
 case atStart => exact ⟨0, rfl, Nat.zero_le _, HRV.out, HOV.out⟩
 case round => as_aux_lemma => (
 obtain ⟨j, rfl, hj, hrw, hom⟩ := hrel
 have HRW := hid hrw; have HOM := hid hom
 have hw2 := hrw.bel.size
 clear hrw hom HRV HOV
 by_cases hjn : j < n
 · (
 have hcs := HCW.out.below HRW.out.bel (Nat.le_refl _)
 have hln : 0 < (fl n C).length := by rw [fl_len]; omega
 obtain rfl := hcs.ad hln
 have d1 := hcs.ci (fl_get C hjn)
 have dl1 := hcs.lt hln
 have tf := HRW.out.fz (i := 0) rfl j
 have tl := (HRW.out.lt (i := 0) rfl).2
 have t0 := HRW.out.cell (i := 0) rfl (rvCell (f := toK D C j) hjn)
 have HOK : Hid (okN (C j)) := hid (HWF.out _ (List.mem_of_getElem? (fl_get C hjn)))
 have hst := HRW.out.set 0 rfl j (.int .i64 (toI D (C j)))
 rw [rvSet, toK_step] at hst
 have HST : Hid (Rws w2 (wr.setCell ⟨ob, j, none⟩ (.int .i64 (toI D (C j)))) [RV ob n (toK D C (j + 1)), RI (some ⟨rb, 0, none⟩) k rc P, RQ tb (d : Int) s.lb 0 (.slice none 0 0)]) := hid hst
 have HOX := hid (HOM.out.of_block (w' := wr.setCell ⟨ob, j, none⟩ (.int .i64 (toI D (C j)))) (Below.heap_setCell _ _ _ _ (by (
 obtain ⟨es, cl, h1⟩ := HOM.out.block
 show tb + 1 ≠ ob
 intro e
 obtain ⟨cur, h2⟩ := own_typeR (HRW.out.get (i := 0) rfl) (g := ob) rfl
 rw [e, h2] at h1; cases h1))))
 obtain ⟨x, hx⟩ : ∃ x, x = C j := ⟨_, rfl⟩
 rw [<- hx] at d1 HOK HST HOX
 have hjI : (j : Int) < (n : Int) := by omega
 clear hcs hln hst hx
 by_cases hin : x ∈ D
 · (
 have HNF : Hid (numF D x = some (toI D x)) := hid (by unfold numF toI; rw [if_pos hin, if_pos hin])
 clear hin
 go_wp2_with (at_lookup; refine wpList_olook_ok rfl _ _ 177 rfl encNum Tryz.underlying177 (zeroNum _) rfl HOM.out x HOK.out rfl ?_; rw [HNF.out]; simp only [Option.map_some, Option.getD_some, Option.isSome_some, encNv])
 go_roundw
 case rel => exact ⟨j + 1, by go_num, by omega, HST.out, HOX.out⟩
 case measure => simp [intOf]; omega)
 · (
 have HNF : Hid (numF D x = none) := hid (by unfold numF; rw [if_neg hin])
 have hne : toI D x = -1 := by unfold toI; rw [if_neg hin]
 rw [hne] at HST HOX
 clear hin hne
 go_wp2_with (at_lookup; refine wpList_olook_ok rfl _ _ 177 rfl encNum Tryz.underlying177 (zeroNum _) rfl HOM.out x HOK.out rfl ?_; rw [HNF.out]; simp only [Option.map_none, Option.getD_none, Option.isSome_none])
 go_roundw
 case rel => exact ⟨j + 1, by go_num, by omega, HST.out, HOX.out⟩
 case measure => simp [intOf]; omega))
 · (
 obtain rfl : j = n := by omega
 obtain ⟨zq, hzq⟩ : ∃ zq, zq = toI D (C z) := ⟨_, rfl⟩
 have HZQ := hid hzq
 have hx3 := (HRW.out.bel.block w.heap.size (Array.getElem?_eq_some_iff.1 HX2.out).1).trans HX2.out
 have x0 : wr.cell? ⟨w.heap.size, 0, none⟩ = some (.int .i64 j) := by simp [World.cell?, hx3]
 have x2 : wr.cell? ⟨w.heap.size, 2, none⟩ = some (.int .i64 (z : Int)) := by simp [World.cell?, hx3]
 have xl := (Array.getElem?_eq_some_iff.1 hx3).1
 have o0 := HRW.out.cell (i := 0) rfl (rvCell (f := toK D C j) hzn)
 rw [show toK D C j z = zq by unfold toK; rw [if_pos hzn, hzq]] at o0
 have ol := (HRW.out.lt (i := 0) rfl).2
 have tf := HRW.out.fz (i := 2) rfl 2
 have t2 := HRW.out.cell (i := 2) rfl (j := 2) rfl
 have tl := (HRW.out.lt (i := 2) rfl).2
 have hs2 := HRW.out.set 2 rfl 2 (.int .i64 zq)
 have hs3 : Rws w2 (wr.setCell ⟨tb, 2, none⟩ (.int .i64 zq)) [RV ob j (toK D C j), RI (some ⟨rb, 0, none⟩) k rc P, RQ tb (d : Int) s.lb zq (.slice none 0 0)] := hs2
 have hs4 := hs3.alloc (.map #[] 0)
 have HS4 := hid hs4
 have hmm := @run_makeMap Tryz.prog
 have hom2 := OMap.made (enck := encEv) (ok := okE) (encv := encU) (wr.setCell ⟨tb, 2, none⟩ (.int .i64 zq))
 rw [size_setCell] at hom2
 have HM2 := hid (hom2.congr (g := addEf []) (fun z => by unfold addEf; simp))
 have HRC2 := hid (reach_ok (HGR2.out.below hs4.bel) (by rw [HNN.out]; omega))
 obtain ⟨mb, hmb⟩ : ∃ mb, mb = wr.heap.size := ⟨_, rfl⟩
 rw [<- hmb] at HM2
 have HMB : Hid (w2.heap.size <= mb) := hid (by rw [hmb]; exact HRW.out.bel.size)
 have hzI : (z : Int) < (j : Int) := by omega
 clear hx3 hs2 hs3 hs4 hom2 hzq HRW
 go_upto_region 28 with fail
 rw [<- hmb]
 clear hmb
 go_wp2_with fail
 refine HRC2.out.mono ?_
 rintro e w5 ⟨v, rfl, hown, hB5⟩
 have hrpos : 0 < (reachL N).length := List.length_pos_of_mem (quo_start HR.out HNN.out hn0)
 obtain ⟨ra2, rc2, rb2, rfl, _, _, hra, _⟩ := slAt_own lenI hown
 obtain rfl := hra.ad hrpos
 rw [<- HP.out] at hown ⊢
 rw [<- HRL.out] at hown ⊢
 have hr5 := HS4.out.add hB5 hown
 have hr6 : Rws w2 w5 [RI (some ⟨rb2, 0, none⟩) k rc2 P, RV ob j (toK D C j), RQ tb (d : Int) s.lb zq (.slice none 0 0)] := hr5.sub (.cons_cons _ (.cons_cons _ (.cons _ (.cons_cons _ (List.nil_sublist _)))))
 have HR6 : Hid (Rws w2 w5 [REq none 0 0 [], RI (some ⟨rb2, 0, none⟩) k rc2 P, RV ob j (toK D C j), RQ tb (d : Int) s.lb zq (.slice none 0 0)]) := hid (hr6.addNil 57 3)
 have HM6 := hid (HM2.out.of_block (hB5.block _ HM2.out.lt))
 clear hown hB5 hra hr5 hr6 hrpos HS4 HM2 HRC2 hmm x0 x2 xl o0 ol tf t2 tl
 go_wp2_with fail
 go_loopw [24, 26, 27, 28, 29, 117] (fun _ _ _ _ _ v117 wx => ∃ (i : Nat) (ea : Option Addr) (m ec nm : Nat) (es : List E), v117 = .int .i64 i /\ i <= k /\ m = es.length /\ EsOk es ((quoE N (fl j C) D (P.take i)).filter (keepE inert)) /\ Rws w2 wx [REq ea m ec es, RI (some ⟨rb2, 0, none⟩) k rc2 P, RV ob j (toK D C j), RQ tb (d : Int) s.lb zq (.slice ea m ec)] /\ OMap wx mb encEv okE encU (addEf es) nm) (fun _ _ _ _ _ v117 _ => k - (intOf v117).toNat)
 case atStart => exact ⟨0, none, 0, 0, 0, [], rfl, Nat.zero_le _, rfl, ⟨fun e => by simp [quoE], Nat.zero_le _⟩, HR6.out, HM6.out⟩
 case round => as_aux_lemma => (
 obtain ⟨i, ea, m, ec, nm, es, rfl, hi, hm, hes, hrw, hom⟩ := hrel
 have HRW := hid hrw; have HOM := hid hom; have HES := hid hes; have HMM := hid hm
 have hw2 := hrw.bel.size
 clear hrw hom hes hm HR6 HM6
 by_cases hik : i < k
 · (
 obtain ⟨xs, hxs⟩ := getElem?_of_lt (xs := P) (i := i) (by rw [<- HRL.out]; exact hik)
 obtain ⟨q, rfl, hqn⟩ := HPN.out _ (List.mem_of_getElem? hxs)
 have hrs := HRW.out.slO (i := 1) (ys := P) rfl lenI HRL.out
 have d0 : wr.cell? ⟨rb2, 0 + i, none⟩ = some (.int .i64 (q : Int)) := hrs.ci hxs
 have dl : rb2 < wr.heap.size := hrs.lt (by rw [<- HRL.out]; omega)
 simp only [Nat.zero_add] at d0
 have hea := each_any HGR2.out HRW.out.bel (q : Int)
 have HEA := hid hea
 have HGS := hid (quoE_snoc (s := N) (L := fl j C) (D := D) hxs)
 have hiI : (i : Int) < (k : Int) := by omega
 clear hxs hrs hea
 go_wp2_with fail
 refine HEA.out.mono ?_
 rintro e wb ⟨⟨a2, c2, b2, off2, rfl, hc2, hm2, hss⟩, hBb⟩
 have HSS := hid hss
 have HRW2 := hid (HRW.out.call hBb)
 have HOM2 := hid (HOM.out.of_block (hBb.block _ HOM.out.lt))
 have hol := outs_len HR.out (q : Int)
 obtain ⟨ol, hole⟩ : ∃ ol, ol = (N.outs (q : Int)).length := ⟨_, rfl⟩
 rw [<- hole] at hol ⊢
 have HOL := hid hole
 clear hss hBb hc2 hm2 HEA HRW HOM hole d0 dl
 go_wp2_with fail
 go_loopw [26, 27, 28, 29, 125] (fun _ _ _ _ v125 wx => ∃ (r : Nat) (ea : Option Addr) (m ec nm : Nat) (es : List E), v125 = .int .i64 r /\ r <= ol /\ m = es.length /\ EsOk es ((quoE N (fl j C) D (P.take i) ++ ((N.outs (q : Int)).take r).map (fun x => (toI D (atL (fl j C) (q : Int)), x.1, toI D (atL (fl j C) x.2)))).filter (keepE inert)) /\ Rws w2 wx [REq ea m ec es, RI (some ⟨rb2, 0, none⟩) k rc2 P, RV ob j (toK D C j), RQ tb (d : Int) s.lb zq (.slice ea m ec)] /\ OMap wx mb encEv okE encU (addEf es) nm) (fun _ _ _ _ v125 _ => ol - (intOf v125).toNat)
 case atStart => exact ⟨0, ea, m, ec, nm, es, rfl, Nat.zero_le _, HMM.out, by rw [List.take_zero, List.map_nil, List.append_nil]; exact HES.out, HRW2.out, HOM2.out⟩
 case round => as_aux_lemma => (
 obtain ⟨r, ea, m, ec, nm, es, rfl, hr, hm, hes, hrw, hom⟩ := hrel
 have HRW := hid hrw; have HOM := hid hom; have HEX := hid hes; have HMX := hid hm
 have hw2 := hrw.bel.size
 clear hrw hom hes hm HRW2 HOM2
 by_cases hro : r < ol
 · (
 obtain ⟨y, hy⟩ := getElem?_of_lt (xs := N.outs (q : Int)) (i := r) (by rw [<- HOL.out]; exact hro)
 have hss := HSS.out.below HRW.out.bel (Nat.le_refl _)
 obtain rfl := hss.ad (by rw [<- HOL.out]; omega)
 have d0 := hss.s0 hy; have d1 := hss.s1 hy
 have dl := hss.lt (by rw [<- HOL.out]; omega)
 have hyr := offB_false.1 (HR.out.edges _ (mem_outs.1 (List.mem_of_getElem? hy)))
 have HY := hid hy
 obtain ⟨y1, y2⟩ := y
 simp only at hyr d0 d1
 obtain ⟨t, rfl⟩ := Int.eq_ofNat_of_zero_le hyr.2.2.2.2.1
 have htn : t < j := by have := HNN.out; omega
 have o1 := HRW.out.cell (i := 2) rfl (rvCell (f := toK D C j) hqn)
 have o2 := HRW.out.cell (i := 2) rfl (rvCell (f := toK D C j) htn)
 have ol2 := (HRW.out.lt (i := 2) rfl).2
 rw [show toK D C j q = toI D (C q) by unfold toK; rw [if_pos hqn]] at o1
 rw [show toK D C j t = toI D (C t) by unfold toK; rw [if_pos htn]] at o2
 have HAQ : Hid (toI D (atL (fl j C) (q : Int)) = toI D (C q)) := hid (by rw [atLF hqn])
 have HAT : Hid (toI D (atL (fl j C) (t : Int)) = toI D (C t)) := hid (by rw [atLF htn])
 obtain ⟨tq, htq⟩ : ∃ tq, tq = toI D (C q) := ⟨_, rfl⟩
 obtain ⟨tt, htt⟩ : ∃ tt, tt = toI D (C t) := ⟨_, rfl⟩
 rw [<- htq] at o1 HAQ; rw [<- htt] at o2 HAT
 have hrI : (r : Int) < (ol : Int) := by omega
 have hqI : (q : Int) < (j : Int) := by omega
 have htI : (t : Int) < (j : Int) := by omega
 clear hy hss
 have HOK : Hid (okE (tq, y1, tt)) := hid (by (
 have h1 := toI_rng D (C q); have h2 := toI_rng D (C t); have h3 := HDN.out
 have h4 := HR.out.st0
 rw [<- htq] at h1; rw [<- htt] at h2
 unfold okE
 simp only
 exact ⟨WalkArith.wf_i64 (by omega), WalkArith.wf_i64 (by omega), WalkArith.wf_i64 (by omega)⟩))
 have HG2 : Hid (((N.outs (q : Int)).take (r + 1)).map (fun x => (toI D (atL (fl j C) (q : Int)), x.1, toI D (atL (fl j C) x.2))) = ((N.outs (q : Int)).take r).map (fun x => (toI D (atL (fl j C) (q : Int)), x.1, toI D (atL (fl j C) x.2))) ++ [(tq, y1, tt)]) := hid (by (
 rw [take_snoc HY.out, List.map_append, List.map_singleton]
 simp only
 rw [HAQ.out, HAT.out]))
 have hml : m <= 200000 := by (
 have h1 := Nat.le_trans HEX.out.len (List.length_filter_le _ _)
 rw [List.length_append, List.length_map, List.length_take] at h1
 have h2 := quoE_len N (fl j C) D (P.take i)
 have h3 := outs_le N (q : Int)
 have h4 := HEL.out; have h5 := HBB.out; have h6 := HMX.out
 have h7 : (P.take i).length * N.es.length <= j * s.es.length := Nat.mul_le_mul (by rw [List.length_take]; omega) h4
 have h8 : 1 * s.es.length <= j * s.es.length := Nat.mul_le_mul_right _ (by omega)
 omega)
 clear htq htt hyr
 go_upto_region 34 with fail
 go_region
 obtain ⟨wy, hwy⟩ : ∃ wy, wy = ((wr.alloc (.cells #[.int .i64 y1, .int .i64 (t : Int)] 129)).alloc (.cells #[.int .i64 tq, .int .i64 y1, .int .i64 tt] 57)).drew := ⟨_, rfl⟩
 have hby : Below wr.heap.size wr wy := by rw [hwy]; exact (((Below.refl wr.heap.size wr).alloc (Nat.le_refl _) _).alloc (by simp) _).drew
 have heb : wy.heap[wr.heap.size + 1]? = some (.cells #[.int .i64 tq, .int .i64 y1, .int .i64 tt] 57 (0, 0)) := by
   rw [hwy]
   exact heap_alloc_at (wr.alloc (.cells #[.int .i64 y1, .int .i64 (t : Int)] 129)) _ _ (by simp)
 rw [<- hwy]
 obtain ⟨eb, hebe⟩ : ∃ eb, eb = wr.heap.size + 1 := ⟨_, rfl⟩
 rw [<- hebe] at heb ⊢
 have hbz := hby.alloc hby.size (.cells #[] 181)
 have HRZ := hid (HRW.out.call hbz)
 have HOMY := hid (HOM.out.of_block (hby.block _ HOM.out.lt))
 have HOMZ := hid (HOM.out.of_block (hbz.block _ HOM.out.lt))
 have hez := (Below.heap_alloc wy (.cells #[] 181) eb (Array.getElem?_eq_some_iff.1 heb).1).trans heb
 have HEZ := hid hez
 have e0 : wy.cell? ⟨eb, 0, none⟩ = some (.int .i64 tq) := by simp [World.cell?, heb]
 have e1 : wy.cell? ⟨eb, 1, none⟩ = some (.int .i64 y1) := by simp [World.cell?, heb]
 have e2 : wy.cell? ⟨eb, 2, none⟩ = some (.int .i64 tt) := by simp [World.cell?, heb]
 have el := (Array.getElem?_eq_some_iff.1 heb).1
 have HMB2 : Hid (eb ≠ mb) := hid (by (
 intro e
 obtain ⟨es2, cl2, h1⟩ := HOMY.out.block
 rw [e, h1] at heb; cases heb))
 clear hwy hby heb hebe hbz hez d0 d1 dl o1 o2 ol2
 by_cases hin : (tq, y1, tt) ∈ es
 · (
 have HNF : Hid (addEf es (tq, y1, tt) = some ()) := hid (by unfold addEf; rw [if_pos hin])
 have HE2 := hid (HEX.out.hadI hin)
 clear hin
 go_wp2_with (at_lookup; refine wpList_olook_ok rfl _ _ 179 rfl encEdg Tryz.underlying179 (zeroUnit _) rfl HOMY.out (tq, y1, tt) HOK.out rfl ?_; rw [HNF.out]; simp only [Option.map_some, Option.getD_some, Option.isSome_some, encU])
 go_roundw
 case rel => exact ⟨r + 1, ea, m, ec, nm, es, by go_num, by omega, HMX.out, by rw [HG2.out, <- List.append_assoc]; exact HE2.out, HRZ.out, HOMZ.out⟩
 case measure => simp [intOf]; omega)
 · (
 have HNF : Hid (addEf es (tq, y1, tt) = none) := hid (by unfold addEf; rw [if_neg hin])
 clear hin
 go_upto_region 36 with (at_lookup; refine wpList_olook_ok rfl _ _ 179 rfl encEdg Tryz.underlying179 (zeroUnit _) rfl HOMY.out (tq, y1, tt) HOK.out rfl ?_; rw [HNF.out]; simp only [Option.map_none, Option.getD_none, Option.isSome_none]; have f0 : (wy.alloc (.cells #[] 181)).cell? ⟨eb, 0, none⟩ = some (.int .i64 tq) := by { simp [World.cell?, HEZ.out] }; have f1 : (wy.alloc (.cells #[] 181)).cell? ⟨eb, 1, none⟩ = some (.int .i64 y1) := by { simp [World.cell?, HEZ.out] }; have f2 : (wy.alloc (.cells #[] 181)).cell? ⟨eb, 2, none⟩ = some (.int .i64 tt) := by { simp [World.cell?, HEZ.out] })
 go_cut [2, 162] from 147 to 161 (fun s2 s162 wx => s2 = .bool inert /\ s162 = .bool (!keepE inert (tq, y1, tt)) /\ wx = wy.alloc (.cells #[] 181))
 case first => (
 by_cases hin : inert = true
 · (
 have hinb : inert = true := hin
 have HIN := hid hinb
 by_cases hy0 : y1 = 0
 · (
 by_cases hqt : tq = tt
 · (
 have hb1 : (y1 == 0) = true := by simp [hy0]
 have hb2 : (tq == tt) = true := by simp [hqt]
 have hkb : (!keepE inert (tq, y1, tt)) = true := by simp [keepE, hinb, hy0, hqt]
 have HKB := hid hkb
 clear hkb hy0 hqt
 go_wp2_with fail
 go_meet
 exact ⟨by rw [HIN.out], by rw [HKB.out], rfl⟩)
 · (
 have hb1 : (y1 == 0) = true := by simp [hy0]
 have hb2 : (tq == tt) = false := by simp [hqt]
 have hkb : (!keepE inert (tq, y1, tt)) = false := by simp [keepE, hqt]
 have HKB := hid hkb
 clear hkb hy0 hqt
 go_wp2_with fail
 go_meet
 exact ⟨by rw [HIN.out], by rw [HKB.out], rfl⟩))
 · (
 have hb1 : (y1 == 0) = false := by simp [hy0]
 have hkb : (!keepE inert (tq, y1, tt)) = false := by simp [keepE, hy0]
 have HKB := hid hkb
 clear hkb hy0
 go_wp2_with fail
 go_meet
 exact ⟨by rw [HIN.out], by rw [HKB.out], rfl⟩))
 · (
 have hinb : inert = false := by simpa using hin
 have HIN := hid hinb
 have HKB : Hid ((!keepE inert (tq, y1, tt)) = false) := hid (by simp [keepE, hinb])
 clear hin
 go_wp2_with fail
 go_meet
 exact ⟨by rw [HIN.out], by rw [HKB.out], rfl⟩))
 case rest => as_aux_lemma => (
 obtain ⟨rfl, rfl, rfl⟩ := hcut
 by_cases hke : keepE inert (tq, y1, tt) = true
 · (
 have hkf : (!keepE inert (tq, y1, tt)) = false := by rw [hke]; rfl
 rw [hkf]
 have HE2 := hid (HEX.out.newI hke)
 clear hke hkf
 go_wp2_with (first
   | (at_lookup; refine wpList_olook_ok rfl _ _ 179 rfl encEdg Tryz.underlying179 (zeroUnit _) rfl HOMY.out (tq, y1, tt) HOK.out rfl ?_; rw [HNF.out]; simp only [Option.map_none, Option.getD_none, Option.isSome_none]; have f0 : (wy.alloc (.cells #[] 181)).cell? ⟨eb, 0, none⟩ = some (.int .i64 tq) := by { simp [World.cell?, HEZ.out] }; have f1 : (wy.alloc (.cells #[] 181)).cell? ⟨eb, 1, none⟩ = some (.int .i64 y1) := by { simp [World.cell?, HEZ.out] }; have f2 : (wy.alloc (.cells #[] 181)).cell? ⟨eb, 2, none⟩ = some (.int .i64 tt) := by { simp [World.cell?, HEZ.out] })
   | (at_mapUpdate; refine wpList_oput rfl _ _ _ 179 rfl encEdg Tryz.underlying179 rfl HOMZ.out (tq, y1, tt) HOK.out rfl () rfl ?_; intro w7 hom7 hg7 hf7 hs7; have hr7 := HRZ.out.mapPut hg7 HOMZ.out.block HMB.out; have he7 := (hg7.block eb (Array.getElem?_eq_some_iff.1 HEZ.out).1 (fun e => HMB2.out (Option.some.inj e))).trans HEZ.out; have g0 : w7.cell? ⟨eb, 0, none⟩ = some (.int .i64 tq) := by { simp [World.cell?, he7] }; have g1 : w7.cell? ⟨eb, 1, none⟩ = some (.int .i64 y1) := by { simp [World.cell?, he7] }; have g2 : w7.cell? ⟨eb, 2, none⟩ = some (.int .i64 tt) := by { simp [World.cell?, he7] }; have gl := (Array.getElem?_eq_some_iff.1 he7).1; have t3 := hr7.cell (i := 3) rfl (j := 3) rfl; have tl := (hr7.lt (i := 3) rfl).2; have HR7 := hid hr7; have HM7 := hid hom7; have hw7 := hr7.bel.size; clear hr7 hom7 hg7 hf7 hs7 he7)
   | (at_builtin; refine wpList_lie rfl _ _ _ rfl rowE (base := w2.heap.size) (by simp; omega) rfl (show (w7.alloc (.cells #[.int .i64 tq, .int .i64 y1, .int .i64 tt] 57)).ownsRow w2.heap.size 57 3 (.slice ea m ec) m (es.flatMap encE) from (HR7.out.alloc _).get (i := 0) rfl) ⟨w7.heap.size, 0, none⟩ 1 1 [.int .i64 tq, .int .i64 y1, .int .i64 tt] rfl rfl (cells3 (by simp [go_sem]) (by simp [go_sem]) (by simp [go_sem])) (by simp [Value.oneCell']) (by decide) (by omega) (by unfold maxLen; omega) w7.heap.size (by simp) ?_; intro g cap w8 hown8 hg8 hl8 hlt8; have hr8 := edGrow (x := (tq, y1, tt)) HR7.out ((Below.refl w7.heap.size w7).alloc (Nat.le_refl _) _) (i := 0) rfl hown8 hg8 hl8; have u3 := hr8.cell (i := 3) rfl (j := 3) rfl; have uf := hr8.fz (i := 3) rfl 3; have ul := (hr8.lt (i := 3) rfl).2; have HR8 := hid hr8; have HOW := hid (omBlk HR7.out HM7.out hown8 hg8); clear hr8 hown8 hg8 hl8 g0 g1 g2 gl t3 tl))
 have hr9 := HR8.out.set 3 rfl 3 (.slice (some ⟨g, 0, none⟩) (m + 1) cap)
 have HR9 : Hid (Rws w2 (w8.setCell ⟨tb, 3, none⟩ (.slice (some ⟨g, 0, none⟩) (m + 1) cap)) [REq (some ⟨g, 0, none⟩) (m + 1) cap (es ++ [(tq, y1, tt)]), RI (some ⟨rb2, 0, none⟩) k rc2 P, RV ob j (toK D C j), RQ tb (d : Int) s.lb zq (.slice (some ⟨g, 0, none⟩) (m + 1) cap)]) := hid hr9
 have HO9 := hid ((HOW.out.congr (g := addEf (es ++ [(tq, y1, tt)])) (fun z => addEf_snoc es (tq, y1, tt) z)).of_block (w' := w8.setCell ⟨tb, 3, none⟩ (.slice (some ⟨g, 0, none⟩) (m + 1) cap)) (Below.heap_setCell _ _ _ _ (by (
 obtain ⟨es2, cl2, h1⟩ := HOW.out.block
 obtain ⟨cur, h2⟩ := own_typeR (HR8.out.get (i := 3) rfl) (g := tb) rfl
 show mb ≠ tb
 intro e
 rw [e, h2] at h1; cases h1))))
 clear hr9 HR8 HOW HR7 HM7 u3 uf ul
 go_roundw
 case rel => exact ⟨r + 1, some ⟨g, 0, none⟩, m + 1, cap, _, es ++ [(tq, y1, tt)], by go_num, by omega, by rw [List.length_append, <- HMX.out]; rfl, by rw [HG2.out, <- List.append_assoc]; exact HE2.out, HR9.out, HO9.out⟩
 case measure => simp [intOf]; omega)
 · (
 have hkf : keepE inert (tq, y1, tt) = false := by simpa using hke
 have hkt : (!keepE inert (tq, y1, tt)) = true := by rw [hkf]; rfl
 rw [hkt]
 have HE2 := hid (HEX.out.skipI hkf)
 clear hke hkf hkt
 go_wp2_with fail
 go_roundw
 case rel => exact ⟨r + 1, ea, m, ec, nm, es, by go_num, by omega, HMX.out, by rw [HG2.out, <- List.append_assoc]; exact HE2.out, HRZ.out, HOMZ.out⟩
 case measure => simp [intOf]; omega))))
 · (
 obtain rfl : r = ol := by omega
 have HEN : Hid (EsOk es ((quoE N (fl j C) D (P.take (i + 1))).filter (keepE inert))) := hid (by (
 have h1 := HEX.out
 rw [HOL.out, List.take_length] at h1
 rw [HGS.out]
 exact h1))
 go_wp2_with fail
 go_roundw
 case rel => exact ⟨i + 1, ea, m, ec, nm, es, by go_num, by omega, HMX.out, HEN.out, HRW.out, HOM.out⟩
 case measure => simp [intOf]; omega)))
 · (
 obtain rfl : i = k := by omega
 have hes := HES.out
 rw [HRL.out, List.take_length] at hes
 have HEF := hid hes
 have hml : m <= 100000 := by (
 have h1 := Nat.le_trans hes.len (List.length_filter_le _ _)
 have h2 := quoE_len N (fl j C) D P
 have h4 := HEL.out; have h5 := HBB.out; have h6 := HMM.out; have h7 := HRL.out
 have h8 : P.length * N.es.length <= j * s.es.length := Nat.mul_le_mul (by omega) h4
 omega)
 have hsl := HRW.out.slO (i := 0) (ys := es) rfl lenE HMM.out
 have hso := sorted_any (c := ec) hsl (by rw [<- HMM.out]; omega)
 rw [<- HMM.out] at hso
 have HSO := hid hso
 have t3 := HRW.out.cell (i := 3) rfl (j := 3) rfl
 have tl := (HRW.out.lt (i := 3) rfl).2
 clear hes hsl hso
 go_wp2_with fail
 refine HSO.out.mono ?_
 rintro e w7 ⟨v, rfl, hown, hB7⟩
 have hr7 := HRW.out.add hB7 hown
 obtain ⟨ra7, rc7, rb7, rfl, _, _, _, hs7⟩ := slAt_own lenE hown
 have t3 := hr7.cell (i := 4) rfl (j := 3) rfl
 have tf := hr7.fz (i := 4) rfl 3
 have tl := (hr7.lt (i := 4) rfl).2
 have hr8 := hr7.set 4 rfl 3 (.slice ra7 (nf ltE es).length rc7)
 have hr9 : Rws w2 (w7.setCell ⟨tb, 3, none⟩ (.slice ra7 (nf ltE es).length rc7)) [⟨57, 3, .slice ra7 (nf ltE es).length rc7, (nf ltE es).length, (nf ltE es).flatMap encE⟩, REq ea m ec es, RI (some ⟨rb2, 0, none⟩) i rc2 P, RV ob j (toK D C j), RQ tb (d : Int) s.lb zq (.slice ra7 (nf ltE es).length rc7)] := hr8
 have HR9 := hid hr9
 clear hown hB7 hr7 hr8 hr9 hs7 HSO
 go_upto_region 42 with fail
 obtain ⟨w8, hw8⟩ : ∃ w8, w8 = w7.setCell ⟨tb, 3, none⟩ (.slice ra7 (nf ltE es).length rc7) := ⟨_, rfl⟩
 rw [<- hw8] at HR9 ⊢
 have hy8 := (HR9.out.bel.block (w.heap.size + 1) (Array.getElem?_eq_some_iff.1 HY2.out).1).trans HY2.out
 clear t3 tf tl
 have t0 := HR9.out.cell (i := 4) rfl (j := 0) rfl
 have t1 := HR9.out.cell (i := 4) rfl (j := 1) rfl
 have t2 := HR9.out.cell (i := 4) rfl (j := 2) rfl
 have t3 := HR9.out.cell (i := 4) rfl (j := 3) rfl
 have tl8 := (HR9.out.lt (i := 4) rfl).2
 have yl := (Array.getElem?_eq_some_iff.1 hy8).1
 have y0 : w8.cell? ⟨w.heap.size + 1, 0, none⟩ = some (.int .i64 0) := by simp [World.cell?, hy8]
 have y1 : w8.cell? ⟨w.heap.size + 1, 1, none⟩ = some (.int .i64 0) := by simp [World.cell?, hy8]
 have y2 : w8.cell? ⟨w.heap.size + 1, 2, none⟩ = some (.int .i64 0) := by simp [World.cell?, hy8]
 have y3 : w8.cell? ⟨w.heap.size + 1, 3, none⟩ = some (.slice none 0 0) := by simp [World.cell?, hy8]
 have yf0 : w8.frozen? ⟨w.heap.size + 1, 0, none⟩ = false := by simp [World.frozen?, hy8]
 have yf1 : w8.frozen? ⟨w.heap.size + 1, 1, none⟩ = false := by simp [World.frozen?, hy8]
 have yf2 : w8.frozen? ⟨w.heap.size + 1, 2, none⟩ = false := by simp [World.frozen?, hy8]
 have yf3 : w8.frozen? ⟨w.heap.size + 1, 3, none⟩ = false := by simp [World.frozen?, hy8]
 have HY8 := hid hy8
 clear hw8 hy8
 go_wp2_with fail
 obtain ⟨ae, ce, be, hve, _, _, hse, hbe⟩ := HR9.out.sl (i := 0) (ys := nf ltE es) rfl lenE rfl
 obtain ⟨ta, tc, bt, hvt, _, _, hst, hbt⟩ := HR9.out.sl (i := 3) (ys := fl j (toK D C j)) (by rw [rvFlat]; rfl) lenI (fl_len _ _).symm
 simp only [Value.slice.injEq] at hve hvt
 obtain ⟨rfl, _, rfl⟩ := hve
 obtain ⟨rfl, _, rfl⟩ := hvt
 have hlo : w.heap.size + 1 < w2.heap.size := (Array.getElem?_eq_some_iff.1 HY2.out).1
 have hQ : quoSI inert N (fl j C) = ⟨(d : Int), s.lb, zq, nf ltE es⟩ := by
   unfold quoSI quoEI
   rw [<- HD.out, <- HDE.out, <- HP.out, HLB.out, HZ.out, atLF hzn, <- HZQ.out, nf_congr stoE HEF.out.mem]
 have hT : fl j (fun i => toI (quoD N (fl j C)) (C i)) = fl j (toK D C j) := by (
 rw [<- HD.out]
 unfold fl
 apply List.map_congr_left
 intro i hi
 simp only [toK, if_pos (List.mem_range.1 hi)])
 have hbl := HB2.out.trans (HR9.out.bel.mono HB2.out.size)
 refine bodyPost_ret (v := .tuple #[.agg #[.int .i64 d, .int .i64 s.lb, .int .i64 zq, .slice ra7 (nf ltE es).length rc7], .slice (some ⟨ob, 0, none⟩) j j, .nilIface]) (by simp [results, Tryz.results100, go_sem, y0, y1, y2, y3]) rfl ⟨ra7, some ⟨ob, 0, none⟩, be, rc7, bt, j, by rw [hQ], ?_, ?_, fun h => ?_, fun h => ?_, ?_⟩
 · rw [hQ]
   exact (((hse.setOther (fun h => by have := hbe h; show be ≠ w.heap.size + 1; omega) _).setOther (fun h => by have := hbe h; show be ≠ w.heap.size + 1; omega) _).setOther (fun h => by have := hbe h; show be ≠ w.heap.size + 1; omega) _).setOther (fun h => by have := hbe h; show be ≠ w.heap.size + 1; omega) _
 · rw [hT]
   exact (((hst.setOther (fun h => by have := hbt h; show bt ≠ w.heap.size + 1; omega) _).setOther (fun h => by have := hbt h; show bt ≠ w.heap.size + 1; omega) _).setOther (fun h => by have := hbt h; show bt ≠ w.heap.size + 1; omega) _).setOther (fun h => by have := hbt h; show bt ≠ w.heap.size + 1; omega) _
 · rw [hQ] at h; have := hbe h; omega
 · have := hbt (by rw [fl_len]; exact h); omega
 · exact (((hbl.setCell (by show w.heap.size <= w.heap.size + 1; omega) _).setCell (by show w.heap.size <= w.heap.size + 1; omega) _).setCell (by show w.heap.size <= w.heap.size + 1; omega) _).setCell (by show w.heap.size <= w.heap.size + 1; omega) _))))))
theorem quoOf_any {p : Addr} {s : Lts} {n : Nat} (h : s.Right) (hn : s.st = (n : Int)) (hn0 : 0 < n) {a : Option Addr} {b off c : Nat} {w : World} (hG : GErr 0 p w) (hS : SlAt encE 3 w a b off s.es)
    {C : Nat -> Int} {ca : Option Addr} {cb co cc : Nat} (hC : SlAt encI 1 w ca cb co (fl n C)) (hcl : clB (n : Int) (fl n C) = true) (hwf : ∀ x ∈ fl n C, (Lit.int .i64 x).wf = true) (hb : n * s.es.length <= 100000) :
    Calls Tryz.prog 100 #[.agg #[.int .i64 s.st, .int .i64 s.lb, .int .i64 s.s0, .slice a s.es.length c], .slice ca n cc, .bool false] w (QuoPost s.norm n C w) := by
 refine (quoOfG_any false h hn hn0 hG hS hC hcl hwf hb).mono ?_
 rintro e w' ⟨ea, ta, eb, ec, tb, tc, he, h1, h2, h3, h4, h5⟩
 rw [quoSI_false] at he h1 h3
 exact ⟨ea, ta, eb, ec, tb, tc, he, h1, h2, h3, h4, h5⟩
end Go.Proofs.YtgikimbafakmcaaGreatDoor

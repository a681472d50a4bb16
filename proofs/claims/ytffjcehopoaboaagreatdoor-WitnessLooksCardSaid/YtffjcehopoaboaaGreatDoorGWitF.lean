/-
  Lemmas.
-/
import Derived.Test.YtffjcehopoaboaaGreatDoorGWitA
import Derived.Test.YtffjcehopoaboaaGreatDoorGSortI
import Derived.Test.YtffjcehopoaboaaGreatDoorGWitC
import Derived.Test.YtffjcehopoaboaaGreatDoorGCanon
import Derived.Test.YtffjcehopoaboaaGreatDoorAs
import Derived.Test.YtffjcehopoaboaaGreatDoorGNew
namespace Go.Proofs.YtffjcehopoaboaaGreatDoor
open Go.RowKit Pl
open Lib (hid)
noncomputable def lateD (s : Lts) (C : List Int) (q : Nat) : List S := (0, atL C (q : Int)) :: ((reachL (tauOf s (q : Int))).filter (fun m => decide (atL C m = atL C (q : Int)))).flatMap (plainD s C)
def lateL (s : Lts) (C : List Int) (q : Nat) (L : List Int) : List S := (0, atL C (q : Int)) :: (L.filter (fun m => decide (atL C m = atL C (q : Int)))).flatMap (plainD s C)
theorem lateL_mem {s : Lts} {C : List Int} {q : Nat} {L M : List Int} (h : ∀ x, x ∈ L ↔ x ∈ M) (z : S) : z ∈ lateL s C q L ↔ z ∈ lateL s C q M := by
  unfold lateL
  simp only [List.mem_cons, List.mem_flatMap, List.mem_filter, h]
theorem addU_congr {f : S → Option Unit} {L M : List S} (h : ∀ z, z ∈ L ↔ z ∈ M) (z : S) : addU f L z = addU f M z := by
  unfold addU
  by_cases e : z ∈ L
  · rw [if_pos e, if_pos ((h z).1 e)]
  · rw [if_neg e, if_neg (fun e2 => e ((h z).2 e2))]
theorem lateL_snoc {s : Lts} {C : List Int} {q : Nat} {L : List Int} {k : Nat} {m : Int} (h : L[k]? = some m) : lateL s C q (L.take (k + 1)) = if atL C m = atL C (q : Int) then lateL s C q (L.take k) ++ plainD s C m else lateL s C q (L.take k) := by
  unfold lateL
  rw [take_snoc h, List.filter_append, List.flatMap_append]
  by_cases e : atL C m = atL C (q : Int)
  · rw [if_pos e]; simp [e]
  · rw [if_neg e]; simp [e]
theorem slAt_grown {α : Type} {enc : α → List Value} {k : Nat} {w w' : World} {a : Option Addr} {b off : Nat} {xs : List α} {mb : Nat} (h : SlAt enc k w a b off xs) (hg : w.grownBy w' (some mb)) (hne : 0 < xs.length → b ≠ mb) : SlAt enc k w' a b off xs :=
  ⟨h.ad, fun hl => Nat.lt_of_lt_of_le (h.lt hl) hg.size, fun i x hx j u hu => by
    have hp : 0 < xs.length := by have := (List.getElem?_eq_some_iff.1 hx).1; omega
    rw [World.cell?_of_block (w := w) (a := ⟨b, off + i * k + j, none⟩) (hg.block b (h.lt hp) (fun e => hne hp (Option.some.inj e)))]
    exact h.cell i x hx j u hu⟩
theorem Noting.under {w0 w w1 wr : World} {pb mb : Nat} {f g : S → Option Unit} (h : Noting w0 w w1 pb mb f) (h2 : Noting w0 w1 wr pb mb g) : Noting w0 w wr pb mb g :=
  ⟨h2.bel, h.grown.trans h2.grown, h2.cell, h2.map, h2.mlt, h2.pne⟩
theorem Noting.here {w0 w w1 : World} {pb mb : Nat} {f : S → Option Unit} (h : Noting w0 w w1 pb mb f) : Noting w0 w1 w1 pb mb f :=
  ⟨h.bel, ⟨rfl, rfl, rfl, Nat.le_refl _, fun _ _ _ => rfl⟩, h.cell, h.map, h.mlt, h.pne⟩
set_option maxRecDepth 100000 in
set_option maxHeartbeats 2000000 in
theorem late_any {w0 w : World} {gb : Nat} {s : Lts} (h : GraphAt w0 gb s) {n : Nat} {C : List Int} (hC : Cls s n C) {ca : Option Addr} {cb co cc : Nat} (hS : SlAt encI 1 w0 ca cb co C) {pb mb : Nat} {f : S → Option Unit} (hN : Noting w0 w w pb mb f) {q : Nat} (hq : q < n) :
    Calls Tryz.prog 102 #[.pointer (some ⟨gb, 0, none⟩), .slice ca n cc, .int .i64 q, .func (.func 146) #[] #[.pointer (some ⟨pb, 0, none⟩)]] w fun e w' => e = .returned (.tuple #[]) ∧ Noting w0 w w' pb mb (addU f (lateD s C q)) := by
  have hn : n ≤ 1000 := by have := h.right.st0; have := hC.st; omega
  have hcl := hC.len
  obtain rfl := hS.ad (by omega)
  have hcs := hS.below hN.bel (Nat.le_refl _)
  obtain ⟨x, hx⟩ := getElem?_of_lt (xs := C) (i := q) (by omega)
  have g1 := hcs.ci hx
  have gl := hcs.lt (by omega)
  have hax : atL C (q : Int) = x := by unfold atL; rw [List.getD_eq_getElem?_getD]; simp [hx]
  have hok : okS ((0 : Int), x) := ⟨(by decide : (Lit.int .i64 0).wf = true), hC.ok x (List.mem_of_getElem? hx)⟩
  have hNB := hN
  have hcm : cb ≠ mb := by have := hS.lt (by omega); have := hN.mlt; omega
  have hqI : (q : Int) < (n : Int) := by omega
  have HH := hid h; have HS := hid hS; have HC := hid hC; have HN := hid hNB; have HAX := hid hax; have HOK := hid hok
  clear h hS hC hN hNB hcs hx hax hok hcl
  go_enter Tryz.func102, Tryz.ntmps102
  go_wp2_with fail
  refine (note_any HN.out.cell HN.out.map.choose_spec 0 x HOK.out).mono ?_
  rintro e w1 ⟨rfl, hm1, hg1⟩
  have hn1 : Noting w0 w w1 pb mb (addU f [(0, x)]) := (HN.out.note hg1 hm1).congr (fun z => by unfold addU; simp)
  have HN1 := hid hn1
  clear hn1 hm1 hg1 g1 gl
  go_wp2_with fail
  refine (silent_any HH.out HN1.out.bel HC.out.st hq).mono ?_
  rintro e w2 ⟨L, v, hbf, rfl, hown, hB2⟩
  obtain ⟨la, lc, lb, rfl, _, _, hls, hlb⟩ := slAt_own lenI hown
  have hn2 := HN1.out.call hB2
  have hmw : mb < w1.heap.size := by obtain ⟨_, hm⟩ := HN1.out.map; exact hm.lt
  have hLr := hbf.rng
  have hLl : L.length ≤ n := by have := hbf.len; have h2 : (tauOf s q).st = (n : Int) := HC.out.st; rw [h2] at this; simpa using this
  have HLS := hid hls; have HN2 := hid hn2; have HBF := hid hbf; have HLR := hid hLr; have HLB := hid hlb
  clear hown hB2 hls hn2 hbf hLr hlb
  go_wp2_with fail
  go_loopw [9, 20] (fun _ v20 wr => ∃ k : Nat, v20 = .int .i64 k ∧ k ≤ L.length ∧ Noting w0 w2 wr pb mb (addU f (lateL s C q (L.take k)))) (fun _ v20 _ => L.length - (intOf v20).toNat)
  case atStart => exact ⟨0, rfl, Nat.zero_le _, HN2.out.here.congr (fun z => by unfold lateL; rw [HAX.out]; simp)⟩
  case round =>
    obtain ⟨k, rfl, hk, hnr⟩ := hrel
    have HNR := hid hnr
    have hszr := hnr.bel.size
    clear hnr
    by_cases hlt : k < L.length
    · obtain ⟨m, hm⟩ := getElem?_of_lt hlt
      have hlr := slAt_grown HLS.out HNR.out.grown (fun hp => by have := HLB.out hp; omega)
      obtain rfl := hlr.ad (by omega)
      have l1 := hlr.ci hm
      have ll := hlr.lt (by omega)
      simp only [Nat.zero_add] at l1
      have hmr := HLR.out m (List.mem_of_getElem? hm)
      have hmst : (tauOf s q).st = (n : Int) := HC.out.st
      obtain ⟨mm, rfl⟩ := Int.eq_ofNat_of_zero_le hmr.1
      have hmn : mm < n := by omega
      have hmI : (mm : Int) < (n : Int) := by omega
      have hcs := HS.out.below HNR.out.bel (Nat.le_refl _)
      have hcl := HC.out.len
      obtain ⟨y, hy⟩ := getElem?_of_lt (xs := C) (i := mm) (by omega)
      obtain ⟨x2, hx2⟩ := getElem?_of_lt (xs := C) (i := q) (by omega)
      have hxx : x2 = x := by have := HAX.out; unfold atL at this; rw [List.getD_eq_getElem?_getD] at this; simp [hx2] at this; exact this
      subst hxx
      have g2 := hcs.ci hy; have g3 := hcs.ci hx2
      have gl := hcs.lt (by omega)
      have hay : atL C (mm : Int) = y := by unfold atL; rw [List.getD_eq_getElem?_getD]; simp [hy]
      have hsn := lateL_snoc (s := s) (C := C) (q := q) hm
      rw [hay, HAX.out] at hsn
      have hkI : (k : Int) < (L.length : Int) := by omega
      have HSN := hid hsn
      have hnd : ∀ u, Noting w0 w2 (wr.drewN u) pb mb (addU f (lateL s C q (L.take k))) := fun u => HNR.out.call ⟨rfl, rfl, rfl, Nat.le_refl _, fun _ _ => rfl⟩
      have HND := hid hnd
      clear hm hlr hmr hmst hcs hcl hy hx2 hay hsn HNR hnd
      by_cases hxy : y = x2
      · have hb : (y == x2) = true := by simp [hxy]
        have HXY := hid hxy
        clear hxy
        go_wp2_with fail
        go_quiet (fail)
        go_wp2_with fail
        refine (plain_any HH.out HC.out HS.out (HND.out nq).here (mm : Int)).mono ?_
        rintro e w5 ⟨rfl, hn5⟩
        have hn6 := ((HND.out nq).under hn5).congr (g := addU f (lateL s C q (L.take (k + 1)))) (fun z => by rw [HSN.out, if_pos HXY.out, addU_app])
        have HN6 := hid hn6
        clear hn5 hn6 HND g2 g3 gl l1 ll
        go_wp2_with fail
        go_roundw
        case rel => exact ⟨k + 1, by go_num, by omega, HN6.out⟩
        case measure => simp [intOf]; omega
      · have hb : (y == x2) = false := by simp [hxy]
        have HXY := hid hxy
        have HN6 := hid (fun u => (HND.out u).congr (g := addU f (lateL s C q (L.take (k + 1)))) (fun z => by rw [HSN.out, if_neg HXY.out]))
        clear hxy HND
        go_wp2_with fail
        go_quiet (fail)
        go_wp2_with fail
        go_roundw
        case rel => exact ⟨k + 1, by go_num, by omega, HN6.out _⟩
        case measure => simp [intOf]; omega
    · have hkk : L.length = k := by omega
      subst hkk
      have hR := tauOf_right (q := (q : Int)) HH.out.right (by omega) (by have := HC.out.st; omega)
      have hfin : Noting w0 w wr pb mb (addU f (lateD s C q)) := (HN2.out.under HNR.out).congr (fun z => by
        rw [List.take_length]
        refine addU_congr (fun z => lateL_mem (M := reachL (tauOf s (q : Int))) (fun x => ?_) z) z
        rw [HBF.out.all, mem_reachL hR (by show s.st ≠ 0; have := HC.out.st; omega)])
      have HF := hid hfin
      clear hfin HNR hR
      go_wp2_with fail
      go_end0
      exact ⟨rfl, HF.out⟩
end Go.Proofs.YtffjcehopoaboaaGreatDoor
namespace Go.Proofs.YtffjcehopoaboaaGreatDoor
open Go.RowKit Pl
open Lib (hid)
def FaultOn (nm : ByteArray) (w : World) (p : Addr) (v : Value) : Prop :=
  ∃ vi, FaultAt w v nm vi ∧ FaultAt w vi sysName (.iface 304 (.pointer (some p)))
theorem FaultAt.belowW {w w' : World} {v : Value} {l : ByteArray} {i : Value} (h : FaultAt w v l i) (hB : Below w.heap.size w w') : FaultAt w' v l i := by
  obtain ⟨b, h1, h2⟩ := h.ex
  exact ⟨⟨b, h1, (hB.block b (Array.getElem?_eq_some_iff.1 h2).1).trans h2⟩⟩
theorem FaultOn.below {nm : ByteArray} {w w' : World} {p : Addr} {v : Value} (h : FaultOn nm w p v) (hB : Below w.heap.size w w') : FaultOn nm w' p v := by
  obtain ⟨vi, h1, h2⟩ := h
  exact ⟨vi, h1.belowW hB, h2.belowW hB⟩
theorem FaultAt.set4 {w : World} {v : Value} {l : ByteArray} {i : Value} {B : Nat} {c : Array Value} (h : FaultAt w v l i) (hr : w.heap[B]? = some (.cells c 67 (0, 0))) (x0 x1 x2 x3 : Value) :
    FaultAt ((((w.setCell ⟨B, 0, none⟩ x0).setCell ⟨B, 1, none⟩ x1).setCell ⟨B, 2, none⟩ x2).setCell ⟨B, 3, none⟩ x3) v l i := by
  obtain ⟨b, h1, h2⟩ := h.ex
  have hne : b ≠ B := fun e => by subst e; rw [h2] at hr; simp at hr
  exact ⟨⟨b, h1, by rw [Below.heap_setCell _ _ _ _ hne, Below.heap_setCell _ _ _ _ hne, Below.heap_setCell _ _ _ _ hne, Below.heap_setCell _ _ _ _ hne]; exact h2⟩⟩
def witName : ByteArray := ⟨#[119, 105, 116, 110, 101, 115, 115]⟩
set_option maxRecDepth 100000 in
theorem askedNo_any {p : Addr} {s : Lts} (h : ¬ s.Right) {a : Option Addr} {b off c : Nat} {w : World} (hG : GErr 16 p w) (hT : ErrType w) (hS : SlAt encE 3 w a b off s.es) (cv : Value) :
    Calls Tryz.prog 99 #[.agg #[.int .i64 s.st, .int .i64 s.lb, .int .i64 s.s0, .slice a s.es.length c], cv] w fun e w' =>
      ∃ v, e = .returned (.tuple #[.pointer none, v]) ∧ FaultOn witName w' p v ∧ Below w.heap.size w w' := by
  have hB0 := (Below.refl w.heap.size w).alloc (Nat.le_refl _) (Obj.cells #[.int .i64 s.st, .int .i64 s.lb, .int .i64 s.s0, .slice a s.es.length c] 24)
  have hN := new_no (c := c) h (hG.below hB0) (hS.below hB0 (Nat.le_refl _))
  have HN := hid hN; have HT := hid (hT.below hB0); have HB0 := hid hB0
  clear hN hT hB0 hS hG h
  go_enter Tryz.func99, Tryz.ntmps99
  go_wp2_with fail
  refine HN.out.mono ?_
  rintro e w1 ⟨v, rfl, hF, hB1⟩
  have HF := hid hF
  obtain ⟨fb, rfl, hfb⟩ := hF.ex
  have HT1 := hid (HT.out.below hB1)
  have HA := hid (faultAs_any witName HT1.out hfb)
  have HB1 := hid (HB0.out.trans (hB1.mono (by simp)))
  clear hB1 hfb hF
  go_wp2_with fail
  refine HA.out.mono ?_
  rintro e w2 ⟨v, rfl, hF2, hB2⟩
  have hf3 := HF.out.belowW hB2
  have HR : Hid (FaultOn witName w2 p v) := hid ⟨_, hF2, hf3⟩
  have HB2 := hid (HB1.out.trans (hB2.mono HB1.out.size))
  clear hF2 hf3 hB2
  go_wp2
  go_ret2
  exact ⟨v, rfl, HR.out, HB2.out⟩
def NoCls (w : World) (s : Lts) (ev cv : Value) : Prop := ∀ W, Below w.heap.size w W → Calls Tryz.prog 145 #[.agg #[.int .i64 s.st, .int .i64 s.lb, .int .i64 s.s0, ev], cv] W fun e w' => e = .returned (.bool false) ∧ Below W.heap.size W w'
theorem NoCls.below {w w' : World} {s : Lts} {ev cv : Value} (h : NoCls w s ev cv) (hB : Below w.heap.size w w') : NoCls w' s ev cv := fun W hW => h W (hB.trans (hW.mono hB.size))
theorem noCls_of {w : World} {s : Lts} {ev : Value} {C : List Int} (hc : clB s.st C = false) {ca : Option Addr} {cb co cc : Nat} (hCS : SlAt encI 1 w ca cb co C) (hwf : ∀ x ∈ C, (Lit.int .i64 x).wf = true) (hn : C.length ≤ 1000000) : NoCls w s ev (.slice ca C.length cc) := fun W hW => by
  have h := classes_any (c := cc) s.st s.lb s.s0 ev (hCS.below hW (Nat.le_refl _)) hn hwf
  rw [hc] at h
  exact h
set_option maxRecDepth 100000 in
theorem askedBad_any {p pc : Addr} {s : Lts} (h : s.Right) {C : List Int} {a : Option Addr} {b off c : Nat} {ca : Option Addr} {cc : Nat} {w : World} (hG : GErr 16 p w) (hE : GErr 11 pc w) (hS : SlAt encE 3 w a b off s.es)
    (hq : NoCls w s (.slice a s.es.length c) (.slice ca C.length cc)) :
    Calls Tryz.prog 99 #[.agg #[.int .i64 s.st, .int .i64 s.lb, .int .i64 s.s0, .slice a s.es.length c], .slice ca C.length cc] w fun e w' =>
      ∃ v, e = .returned (.tuple #[.pointer none, v]) ∧ FaultAt w' v witName (.iface 304 (.pointer (some pc))) ∧ Below w.heap.size w w' := by
  have hB0 := (Below.refl w.heap.size w).alloc (Nat.le_refl _) (Obj.cells #[.int .i64 s.st, .int .i64 s.lb, .int .i64 s.s0, .slice a s.es.length c] 24)
  have hbx := heap_alloc_new w (Obj.cells #[.int .i64 s.st, .int .i64 s.lb, .int .i64 s.s0, .slice a s.es.length c] 24)
  have hN := new_ok (c := c) h (hG.below hB0) (hS.below hB0 (Nat.le_refl _))
  have HN := hid hN; have HB0 := hid hB0; have HE := hid hE; have HQ := hid hq; have HBX := hid hbx
  clear hN hB0 hS hG h hE hq hbx
  go_enter Tryz.func99, Tryz.ntmps99
  go_wp2_with fail
  refine HN.out.mono ?_
  rintro e w1 ⟨gb, rfl, hGr, hB1, _⟩
  have HB1 := hid (HB0.out.trans (hB1.mono (by simp)))
  have hx1 := (hB1.block w.heap.size (by simp)).trans HBX.out
  have x0 : w1.cell? ⟨w.heap.size, 0, none⟩ = some (.int .i64 s.st) := by simp [World.cell?, hx1]
  have x1 : w1.cell? ⟨w.heap.size, 1, none⟩ = some (.int .i64 s.lb) := by simp [World.cell?, hx1]
  have x2 : w1.cell? ⟨w.heap.size, 2, none⟩ = some (.int .i64 s.s0) := by simp [World.cell?, hx1]
  have x3 : w1.cell? ⟨w.heap.size, 3, none⟩ = some (.slice a s.es.length c) := by simp [World.cell?, hx1]
  have xl := (Array.getElem?_eq_some_iff.1 hx1).1
  clear hB1 hGr hx1 HBX
  go_wp2_with fail
  refine (HQ.out _ HB1.out).mono ?_
  rintro e w2 ⟨rfl, hB2⟩
  have HB2 := hid (HB1.out.trans (hB2.mono HB1.out.size))
  have hg := (HE.out.below HB2.out).cell
  have hgl := (HE.out.below HB2.out).lt
  clear hB2 x0 x1 x2 x3 xl
  go_wp2_with fail
  refine (faultNew_any _ _ _ _).mono ?_
  rintro e w3 ⟨rfl, rfl⟩
  go_wp2
  go_ret2
  exact ⟨_, rfl, ⟨⟨_, rfl, heap_alloc_new w2 _⟩⟩, HB2.out.alloc HB2.out.size _⟩
set_option maxRecDepth 100000 in
theorem askedYes_any {p : Addr} {s : Lts} (h : s.Right) {C : List Int} (hc : clB s.st C = true) {a : Option Addr} {b off c : Nat} {ca : Option Addr} {cb co cc : Nat} {w : World} (hG : GErr 16 p w) (hS : SlAt encE 3 w a b off s.es)
    (hCS : SlAt encI 1 w ca cb co C) (hn : C.length ≤ 1000000) (hwf : ∀ x ∈ C, (Lit.int .i64 x).wf = true) :
    Calls Tryz.prog 99 #[.agg #[.int .i64 s.st, .int .i64 s.lb, .int .i64 s.s0, .slice a s.es.length c], .slice ca C.length cc] w fun e w' =>
      ∃ gb, e = .returned (.tuple #[.pointer (some ⟨gb, 0, none⟩), .nilIface]) ∧ GraphAt w' gb s.norm ∧ Below w.heap.size w w' := by
  have hB0 := (Below.refl w.heap.size w).alloc (Nat.le_refl _) (Obj.cells #[.int .i64 s.st, .int .i64 s.lb, .int .i64 s.s0, .slice a s.es.length c] 24)
  have hbx := heap_alloc_new w (Obj.cells #[.int .i64 s.st, .int .i64 s.lb, .int .i64 s.s0, .slice a s.es.length c] 24)
  have hN := new_ok (c := c) h (hG.below hB0) (hS.below hB0 (Nat.le_refl _))
  have HN := hid hN; have HB0 := hid hB0; have HCS := hid hCS; have HWF := hid hwf; have HC := hid hc; have HBX := hid hbx
  clear hN hB0 hS hG h hCS hwf hc hbx
  go_enter Tryz.func99, Tryz.ntmps99
  go_wp2_with fail
  refine HN.out.mono ?_
  rintro e w1 ⟨gb, rfl, hGr, hB1, _⟩
  have HB1 := hid (HB0.out.trans (hB1.mono (by simp)))
  have HGR := hid hGr
  have hx1 := (hB1.block w.heap.size (by simp)).trans HBX.out
  have x0 : w1.cell? ⟨w.heap.size, 0, none⟩ = some (.int .i64 s.st) := by simp [World.cell?, hx1]
  have x1 : w1.cell? ⟨w.heap.size, 1, none⟩ = some (.int .i64 s.lb) := by simp [World.cell?, hx1]
  have x2 : w1.cell? ⟨w.heap.size, 2, none⟩ = some (.int .i64 s.s0) := by simp [World.cell?, hx1]
  have x3 : w1.cell? ⟨w.heap.size, 3, none⟩ = some (.slice a s.es.length c) := by simp [World.cell?, hx1]
  have xl := (Array.getElem?_eq_some_iff.1 hx1).1
  clear hB1 hGr hx1 HBX
  go_wp2_with fail
  refine (classes_any s.st s.lb s.s0 (.slice a s.es.length c) (HCS.out.below HB1.out (Nat.le_refl _)) hn HWF.out).mono ?_
  rintro e w2 ⟨rfl, hB2⟩
  rw [HC.out]
  have HB2 := hid (HB1.out.trans (hB2.mono HB1.out.size))
  have HG2 := hid (HGR.out.below hB2)
  clear hB2 x0 x1 x2 x3 xl HGR
  go_wp2
  go_ret2
  exact ⟨gb, rfl, HG2.out, HB2.out⟩
end Go.Proofs.YtffjcehopoaboaaGreatDoor

/-
  Lemmas.
-/
import Derived.Test.YtbaccmlfnbgehaaGreatDoorGPl6
import Derived.Test.YtbaccmlfnbgehaaGreatDoorGPlB
import Derived.Maps.OwnSet
import Derived.Deep.DeepMust
import Derived.Test.YtbaccmlfnbgehaaGreatDoorTauA
import Derived.BigRegion
import Derived.Deep.LoopGhost
set_option maxHeartbeats 4000000
set_option maxRecDepth 100000
open List renaming idxOf_append → l0, getElem?_eq_none → l7, length_append → l9
open Nat renaming le_refl → l8
open Go.Proofs.Tryz
namespace Go.Proofs.YtbaccmlfnbgehaaGreatDoor
open Go.RowKit Pl Go.Maps
open Lib (hid)
theorem j1d : Keyed prog 3 := int_keyed underlying3
theorem k2j (w : World) : (zeroValue 3).run prog w = .ok (.int .i64 0) w := by kernel_rfl
structure MapD (D : DataW Unit) (s : List Int) : Prop where
  has : ∀ x : Int, Maps.has D (.int .i64 x) = decide (x ∈ s)
  key : ∀ x ∈ s, D.atKey (.int .i64 x) (.lit (.int .i64 0)) = .lit (.int .i64 (s.idxOf x : Int))
  len : Maps.size D = s.length
theorem MapD.nil : MapD (.map []) [] := ⟨fun x => by simp [Maps.has], fun x h => by simp at h, rfl⟩
theorem MapD.push {D : DataW Unit} {s : List Int} {x : Int} (h : MapD D s) (ht : Tidy D) (hx : x ∉ s) : MapD (D.put (.int .i64 x) (.lit (.int .i64 (s.length : Int)))) (s ++ [x]) where
  has y := by
    by_cases e : y = x
    · subst e; rw [has_put_same (k := .int .i64 y) ht.isMap trivial]; simp
    · rw [has_put_other (by intro h; cases h; exact e rfl), h.has]; simp [e]
  key y hy := by
    by_cases e : y = x
    · subst e; rw [atKey_put_same (k := .int .i64 y) ht.isMap trivial, l0]; simp [hx]
    · have hys : y ∈ s := by simpa [e] using hy
      rw [atKey_put_other (by intro h; cases h; exact e rfl), h.key y hys, l0]; simp [hys]
  len := by rw [size_put ht, h.has]; simp [hx, h.len]
theorem p2v {w : World} {b n : Nat} {f : Nat -> Value} {xs : List Int} (h : w.rowIs b 3 n f) (hl : xs.length = n) (hf : ∀ i x, xs[i]? = some x -> f i = .int .i64 x) (hn : n <= maxLen) {base : Nat} (hb : base <= b) :
    w.ownsRow base 3 1 (.slice (some ⟨b, 0, none⟩) n n) n (xs.flatMap encI) := by
 obtain ⟨c, hh, hs, hc⟩ := h
 have hlen := j0b p0v xs
 refine ⟨by omega, .inr ⟨b, n, c, rfl, hb, hh, l8 _, hn, by omega, ?_⟩⟩
 rw [Nat.mul_one, List.take_of_length_le (by simp; omega)]
 apply List.ext_getElem?
 intro i
 by_cases hi : i < n
 · obtain ⟨x, hx⟩ := j0a (show i < xs.length by omega)
   have := j0h p0v xs i x hx 0 _ rfl
   rw [Array.getElem?_toList, hc i hi, hf i x hx]
   simpa using this.symm
 · rw [l7 (by simp; omega), l7 (by omega)]
def rowAtK (xs : List Int) (k : Nat) (j : Nat) : Value := .int .i64 (if j < k then ((dist xs).idxOf (xs.getD j 0) : Int) else 0)
theorem q0b {xs : List Int} {k : Nat} {x : Int} (hx : xs[k]? = some x) (i : Nat) : (if i = k then Value.int .i64 ((dist (xs.take (k + 1))).idxOf x : Int) else rowAtK xs k i) = rowAtK xs (k + 1) i := by
 unfold rowAtK
 by_cases e : i = k
 · subst e
   have hm : x ∈ xs.take (i + 1) := by rw [take_snoc hx]; simp
   rw [if_pos rfl, if_pos (by omega), List.getD_eq_getElem?_getD, hx, <- y0q (xs.take (i + 1)) (xs.drop (i + 1)) hm, List.take_append_drop]; rfl
 · rw [if_neg e]
   by_cases h : i < k
   · rw [if_pos h, if_pos (by omega)]
   · rw [if_neg h, if_neg (by omega)]
theorem x2p {w : World} {a : Option Addr} {b off c : Nat} {xs : List Int} (hS : SlAt encI 1 w a b off xs) (hn : xs.length <= 1000000) (hwf : ∀ x ∈ xs, (Lit.int .i64 x).wf = true) :
    Calls prog 38 #[.slice a xs.length c] w fun e w' => ∃ v, e = .returned v /\ w'.ownsRow w.heap.size 3 1 v xs.length ((canon xs).flatMap encI) /\ Below w.heap.size w w' := by
 obtain ⟨n, hnn⟩ : ∃ n, n = xs.length := ⟨_, rfl⟩
 rw [<- hnn] at hn ⊢
 have hmk := run_make_row' (P := prog) 50 3 (.int .i64 0) 8 underlying50 (by kernel_rfl) rfl .i64 .i64 n (by omega) (by omega)
 have hmm := @run_makeMap prog
 have HS := hid hS; have HWF := hid hwf; have HNN := hid hnn
 clear hS hwf hnn
 go_enter func38, ntmps38
 go_wp2_with fail
 go_loopw [5, 6, 7, 8, 15] (fun _ _ _ _ i wr => ∃ (k : Nat) (D : DataW Unit), k <= n /\ i = .int .i64 k /\ MapD D (dist (xs.take k)) /\ wr.ownsMap prog 3 (plainElem prog 3) w.heap.size k D /\
     wr.rowIs (w.heap.size + 1) 3 n (rowAtK xs k) /\ Below w.heap.size w wr)
   (fun _ _ _ _ i _ => n - (intOf i).toNat)
 case atStart => (
 refine ⟨0, .map [], Nat.zero_le _, rfl, by simpa [dist] using MapD.nil, (World.ownsMap_made _ _ _ _).alloc _, ?_, ((Below.refl _ _).alloc (l8 _) _).alloc (by simp) _⟩
 have := World.rowIs_made (w.alloc (.map #[] 0)) (.int .i64 0) n 3
 exact (by simpa using this : World.rowIs _ (w.heap.size + 1) _ _ _).congr (fun i _ => by simp [rowAtK]))
 case round => (
 obtain ⟨k, D, hk, rfl, hmd, hown, hrow, hB⟩ := hrel
 have hm := hown.size_le
 have hsz := hB.size
 have hrlt := hrow.lt
 have hmlt := hown.lt
 have HMD := hid hmd; have HOWN := hid hown; have HROW := hid hrow; have HB := hid hB
 clear hmd hown hrow hB
 by_cases hlt : k < n
 · (
 obtain ⟨x, hx⟩ := j0a (xs := xs) (i := k) (by have := HNN.out; omega)
 obtain rfl := HS.out.ad (by have := HNN.out; omega)
 have hcx := (HS.out.below HB.out (l8 _)).ci hx
 have hkey := keyOf_int_mk underlying3 (HWF.out x (List.mem_of_getElem? hx))
 have hfr : wr.frozen? ⟨w.heap.size + 1, k, none⟩ = false := HROW.out.frozen k
 have hct := HROW.out.cell hlt
 have hkn : (k : Int) < (n : Int) := by omega
 have HX := hid hx
 clear hx
 by_cases hin : x ∈ dist (xs.take k)
 · (
 have hh : Maps.has D (.int .i64 x) = true := by rw [HMD.out.has]; simp [hin]
 have HH := hid hh
 clear hh
 go_wp2_with (at_lookup; refine wpList_lookup_own_ok_int _ rfl _ _ 139 rfl 3 3 .i64 j1d underlying139 underlying3 (k2j _) w.heap.size k D rfl HOWN.out _ _ rfl hkey ?_; intro cc hat hwc; rw [HH.out])
 have hcc : cc = (((dist (xs.take k)).idxOf x : Nat) : Int) := by (
 have := HMD.out.key x hin
 rw [this] at hat
 simp only [DataW.lit.injEq, Lit.int.injEq] at hat
 exact hat.2.symm)
 subst hcc
 have hd : dist (xs.take (k + 1)) = dist (xs.take k) := by rw [take_snoc HX.out, k0j]; unfold addN; rw [if_pos hin]
 have hrw := (HROW.out.set k (.int .i64 ((dist (xs.take (k + 1))).idxOf x : Int))).congr (fun i _ => q0b HX.out i)
 rw [hd] at hrw
 have HD := hid hd; have HRW := hid hrw
 clear hd hrw
 go_roundw
 case rel => exact ⟨k + 1, D, by omega, by go_num, by rw [HD.out]; exact HMD.out, (HOWN.out.setCell (by simp) _).mono (Nat.le_succ _), HRW.out, HB.out.setCell (by simp) _⟩
 case measure => simp [intOf]; omega)
 · (
 have hh : Maps.has D (.int .i64 x) = false := by rw [HMD.out.has]; simp [hin]
 have HH := hid hh; have HIN := hid hin
 clear hh hin
 have hml := HMD.out.len
 have hdl : (dist (xs.take k)).length <= k := by omega
 have HML := hid hml
 clear hml
 go_wp2_with (first
   | (at_lookup; refine wpList_lookup_own_ok_int _ rfl _ _ 139 rfl 3 3 .i64 j1d underlying139 underlying3 (k2j _) w.heap.size k D rfl HOWN.out _ _ rfl hkey ?_; intro cc hat hwc; rw [HH.out])
   | (at_len; refine wpList_len_own _ rfl _ 139 rfl 3 3 underlying139 _ w.heap.size k D rfl HOWN.out ?_; rw [HML.out])
   | (at_mapUpdate; refine wpList_mapUpdate_own _ rfl _ _ _ 139 rfl 3 3 j1d underlying139 _ w.heap.size k D rfl HOWN.out (by unfold maxLen; omega) _ _ _ rfl rfl hkey _ [] (plainElem_int underlying3 (WalkArith.wf_i64 (by omega))) ?_; intro w1 hown1 hgrow1; have hct1 := (HROW.out.of_block (hgrow1.block _ hrlt (by simp))).cell hlt; have hfr1 : w1.frozen? ⟨w.heap.size + 1, k, none⟩ = false := (HROW.out.of_block (hgrow1.block _ hrlt (by simp))).frozen k; have hrlt1 := (HROW.out.of_block (hgrow1.block _ hrlt (by simp))).lt))
 have hd : dist (xs.take (k + 1)) = dist (xs.take k) ++ [x] := by rw [take_snoc HX.out, k0j]; unfold addN; rw [if_neg HIN.out]
 have hix : (dist (xs.take (k + 1))).idxOf x = (dist (xs.take k)).length := by rw [hd, l0]; simp [HIN.out]
 have hrow1 : w1.rowIs (w.heap.size + 1) 3 n (rowAtK xs k) := HROW.out.of_block (hgrow1.block _ hrlt (by simp))
 have hB1 := HB.out.grown hgrow1 hsz (fun j hj => by cases hj; exact l8 _)
 have hmd1 := HMD.out.push (HOWN.out.tidy j1d) HIN.out
 rw [<- hd] at hmd1
 have hrw := (hrow1.set k (.int .i64 ((dist (xs.take (k + 1))).idxOf x : Int))).congr (fun i _ => q0b HX.out i)
 rw [hix] at hrw
 have HRW := hid hrw; have HB1 := hid hB1; have HMD1 := hid hmd1; have HOWN1 := hid hown1
 clear hd hix hrow1 hB1 hmd1 hrw hown1 hgrow1 hct hfr
 go_roundw
 case rel => exact ⟨k + 1, _, by omega, by go_num, HMD1.out, HOWN1.out.setCell (by simp) _, HRW.out, HB1.out.setCell (by simp) _⟩
 case measure => simp [intOf]; omega))
 · (
 obtain rfl : k = n := by omega
 go_wp2
 go_ret
 refine ⟨_, rfl, p2v HROW.out (by rw [x2o]; exact HNN.out.symm) ?_ (by unfold maxLen; omega) (by omega), HB.out⟩
 intro i x hx
 rw [y0i] at hx
 obtain ⟨y, hy, rfl⟩ := Option.map_eq_some_iff.1 hx
 have hi := (List.getElem?_eq_some_iff.1 hy).1
 unfold rowAtK
 rw [if_pos (by have := HNN.out; omega), List.getD_eq_getElem?_getD, hy]; rfl))
end Go.Proofs.YtbaccmlfnbgehaaGreatDoor
namespace Go.Proofs.YtbaccmlfnbgehaaGreatDoor
open Go.RowKit Pl
section
variable {w0 w : World} {B WB LB NB IB CB n : Nat} {gp : Value} {low num cls : Nat -> Int} {iso : Nat -> Bool} {met found : Int} {ol : List Int} {sl : List E} {vo vs : Value}
theorem x2g (h : TW w0 w B WB LB NB IB CB n gp low num cls iso met found ol sl vo vs) {y : Nat} (hy : y < n) (hm0 : 0 <= met) (hm1 : met <= 1000) (hol : ol.length <= 1000) :
    Calls prog 202 #[.pointer (some ⟨WB, 0, none⟩), .int .i64 y] w fun e w' => ∃ vo', e = .returned (.tuple #[]) /\
      TW w0 w' B WB LB NB IB CB n gp (upd low y (met + 1)) (upd num y (met + 1)) cls (upd iso y true) (met + 1) found (ol ++ [(y : Int)]) sl vo' vs := by
 obtain ⟨c0, c1, c2, c3, c4, c5, c6, c7, c8⟩ := h.cells
 have f6 := h.fz 6
 obtain ⟨l1, l2, l3, l4, l5, l6⟩ := h.lts
 have hyn : (y : Int) < (n : Int) := by omega
 have H := Lib.hid h
 have H1 := Lib.hid (h.setMet (met + 1))
 obtain ⟨n1, n2, n3, n4⟩ := h.blk.w
 have n1s := n1.symm; have n2s := n2.symm; have n3s := n3.symm; have n4s := n4.symm
 obtain ⟨b1, b2, b3⟩ := h.blk.l; obtain ⟨b4, b5, b6⟩ := h.blk.n
 have b1s := b1.symm
 have hq : IntKind.i64.wrap (met + 1) = met + 1 := IntWalk.i64_in _ (by omega)
 clear h
 go_enter func202, ntmps202
 go_upto_region 1 with fail
 clear hq c0 c1 c2 c3 c4 c5 c6 c7 c8 f6
 go_cut [] from 4 (fun wx => TW w0 wx B WB LB NB IB CB n gp (upd low y (met + 1)) (upd num y (met + 1)) cls iso (met + 1) found ol sl vo vs)
 case first => (
 obtain ⟨c0, c1, c2, c3, c4, c5, c6, c7, c8⟩ := H1.out.cells
 have g1 := H1.out.low.cell hy; have g2 := H1.out.num.cell hy
 have e1 := H1.out.low.frozen y; have e2 := H1.out.num.frozen y
 obtain ⟨W, hW⟩ : ∃ W, W = w.setCell ⟨WB, 6, none⟩ (.int .i64 (met + 1)) := ⟨_, rfl⟩
 rw [<- hW] at c0 c1 c2 c3 c4 c5 c6 c7 c8 g1 g2 e1 e2 H1 ⊢
 clear hW
 go_region_held3 (fun w' => w'.cell? ⟨WB, 1, none⟩ = some (.slice (some ⟨LB, 0, none⟩) n n) /\ w'.cell? ⟨WB, 2, none⟩ = some (.slice (some ⟨NB, 0, none⟩) n n) /\ w'.cell? ⟨WB, 6, none⟩ = some (.int .i64 (met + 1))) (go_keep) (fail)
 all_goals (
 go_wp2_with fail
 go_meet
 exact ((H1.out.setNum y _).setLow y _).drew))
 case rest => (
 have HC := Lib.hid hcut
 obtain ⟨c0, c1, c2, c3, c4, c5, c6, c7, c8⟩ := hcut.cells
 obtain ⟨l1, l2, l3, l4, l5, l6⟩ := hcut.lts
 clear hcut H H1
 go_upto_region 3 with (at_builtin; go_must (refine j0u rfl _ _ _ rfl p2q (by have := HC.out.bsz; simp; omega) rfl (HC.out.opn.alloc _) ⟨wc.heap.size, 0, none⟩ 1 1 [.int .i64 y] rfl rfl (k0c (by simp [go_sem])) (by simp [Value.oneCell']) (by decide) (by omega) (by unfold maxLen; omega) (wc.heap.size + 1) (by simp) ?_); intro g2 cap2 w7 hown7 hg7 hl7 hlt7; obtain ⟨d0, d1, d2, d3, d4, d5, d6, d7, d8, d9, d10, d11⟩ := TW.wcells (((HC.out.alloc _).grownO hg7).1.trans (HC.out.alloc _).wb))
 have hp := TW.pushO (m := ol.length + 1) (c := cap2) (ol' := ol ++ [(y : Int)]) (HC.out.alloc _) (by rw [l9, List.flatMap_append]; exact hown7) hg7 (hl7.imp_right (fun e => by simp; omega))
 have HP := Lib.hid hp
 clear d0 d1 d2 d3 d4 d5 d6 d7 d8 d9 d10 d11 c0 c1 c2 c3 c4 c5 c6 c7 c8 l1 l2 l3 l4 l5 l6 hown7 hg7 hl7 hlt7
 obtain ⟨c0, c1, c2, c3, c4, c5, c6, c7, c8⟩ := hp.cells
 obtain ⟨l1, l2, l3, l4, l5, l6⟩ := hp.lts
 have g1 := hp.iso.cell hy
 have e1 := hp.iso.frozen y
 clear hp
 obtain ⟨W, hW⟩ : ∃ W, W = w7.setCell ⟨WB, 3, none⟩ (.slice (some ⟨g2, 0, none⟩) (ol.length + 1) cap2) := ⟨_, rfl⟩
 rw [<- hW] at c0 c1 c2 c3 c4 c5 c6 c7 c8 g1 e1 l1 l2 l3 l4 l5 l6 HP ⊢
 clear hW
 go_wp2
 go_end0
 exact ⟨_, rfl, HP.out.setIso y true⟩)
end
end Go.Proofs.YtbaccmlfnbgehaaGreatDoor
namespace Go.Proofs.YtbaccmlfnbgehaaGreatDoor
open Go.RowKit Pl
open Lib (hid)
section
variable {w0 w : World} {B WB LB NB IB CB n : Nat} {gp : Value} {low num cls : Nat -> Int} {iso : Nat -> Bool} {met found : Int} {sl : List E} {vo vs : Value}
theorem v1u {ol : List Int} (h : TW w0 w B WB LB NB IB CB n gp low num cls iso met found ol sl vo vs) {y : Nat} (hy : y < n) (hne : low y ≠ num y) :
    Calls prog 204 #[.pointer (some ⟨WB, 0, none⟩), .int .i64 y] w fun e w' => e = .returned (.tuple #[]) /\
      TW w0 w' B WB LB NB IB CB n gp low num cls iso met found ol sl vo vs := by
 obtain ⟨c0, c1, c2, c3, c4, c5, c6, c7, c8⟩ := h.cells
 obtain ⟨l1, l2, l3, l4, l5, l6⟩ := h.lts
 have hyn : (y : Int) < (n : Int) := by omega
 have g1 := h.low.cell hy; have g2 := h.num.cell hy
 obtain ⟨a, ha⟩ : ∃ a, a = low y := ⟨_, rfl⟩
 obtain ⟨b, hb⟩ : ∃ b, b = num y := ⟨_, rfl⟩
 rw [<- ha] at g1 hne; rw [<- hb] at g2 hne
 have hq : (a != b) = true := by simp [hne]
 have H := hid h
 clear h ha hb hne c0 c3 c4 c5 c6 c7 c8
 go_enter func204, ntmps204
 go_wp2_with fail
 go_quiet (fail)
 go_wp2
 refine bodyPost_ret (results_none rfl _ _ _) rfl ?_
 exact ⟨rfl, H.out.drewN _⟩
theorem k2r {β : Type} (f : Nat -> β) (v : β) (z : Nat) (D : List Int) : upd (fun (i : Nat) => if (i : Int) ∈ D then v else f i) z v = fun (i : Nat) => if (i : Int) ∈ (z : Int) :: D then v else f i := by
 funext i
 unfold upd
 by_cases h : i = z
 · subst h; simp
 · rw [if_neg h]
   have : ((i : Int) ∈ (z : Int) :: D) ↔ (i : Int) ∈ D := by simp; omega
   simp only [this]
theorem q1s {Qr Pr : List Int} {y : Nat} (h : TW w0 w B WB LB NB IB CB n gp low num cls iso met found (Qr ++ [(y : Int)] ++ Pr) sl vo vs) (hy : y < n) (heq : low y = num y) (hP : ∀ z ∈ Pr, 0 <= z /\ z < (n : Int) /\ z ≠ (y : Int)) (hl : (Qr ++ [(y : Int)] ++ Pr).length <= 1000) (hf : 0 <= found /\ found <= 1000) :
    Calls prog 204 #[.pointer (some ⟨WB, 0, none⟩), .int .i64 y] w fun e w' => ∃ vo', e = .returned (.tuple #[]) /\
      TW w0 w' B WB LB NB IB CB n gp low num (fun (i : Nat) => if (i : Int) ∈ (y : Int) :: Pr then found else cls i) (fun (i : Nat) => if (i : Int) ∈ (y : Int) :: Pr then false else iso i) met (found + 1) Qr sl vo' vs := by
 obtain ⟨c0, c1, c2, c3, c4, c5, c6, c7, c8⟩ := h.cells
 obtain ⟨l1, l2, l3, l4, l5, l6⟩ := h.lts
 have hyn : (y : Int) < (n : Int) := by omega
 have g1 := h.low.cell hy; have g2 := h.num.cell hy
 rw [heq] at g1
 obtain ⟨a, ha⟩ : ∃ a, a = num y := ⟨_, rfl⟩
 rw [<- ha] at g1 g2
 have hq : (a != a) = false := by simp
 obtain ⟨n1, n2, n3, n4⟩ := h.blk.w
 have n1s := n1.symm; have n2s := n2.symm; have n3s := n3.symm; have n4s := n4.symm
 have H := hid h; have HP := hid hP
 have hf0 := hf.1; have hf1 := hf.2
 clear h ha heq hP hf c0 c3 c4 c5 c6 c7 c8
 go_enter func204, ntmps204
 go_wp2_with fail
 go_quiet (fail)
 have H1 := hid (H.out.drewN nq)
 clear g1 g2 c1 c2 H
 go_wp2_with fail
 go_loopg [4] Pr.length (fun k _ wr => ∃ (R D : List Int) (vo' : Value), k = R.length /\ Pr = R ++ D /\ TW w0 wr B WB LB NB IB CB n gp low num (fun (i : Nat) => if (i : Int) ∈ D then found else cls i) (fun (i : Nat) => if (i : Int) ∈ D then false else iso i) met found (Qr ++ [(y : Int)] ++ R) sl vo' vs)
 case atStart => exact ⟨Pr, [], vo, rfl, by simp, by simpa using H1.out⟩
 case round => (
 obtain ⟨R, D, vo', rfl, hPr, htw⟩ := hrel
 clear H1
 have key : ∃ (X : List Int) (z : Nat), Qr ++ [(y : Int)] ++ R = X ++ [(z : Int)] /\ z < n /\ ((R = [] /\ z = y /\ X = Qr) ∨ (∃ R', R = R' ++ [(z : Int)] /\ z ≠ y /\ X = Qr ++ [(y : Int)] ++ R')) := by (
 rcases List.eq_nil_or_concat R with rfl | ⟨R', z, rfl⟩
 · exact ⟨Qr, y, by simp, hy, .inl ⟨rfl, rfl, rfl⟩⟩
 · have hz := HP.out z (by rw [hPr]; simp)
   refine ⟨Qr ++ [(y : Int)] ++ R', z.toNat, by rw [show ((z.toNat : Nat) : Int) = z by omega]; simp, by omega, .inr ⟨R', by rw [show ((z.toNat : Nat) : Int) = z by omega]; simp, by omega, rfl⟩⟩)
 obtain ⟨X, z, hX, hz, hcase⟩ := key
 have hXl : X.length + 1 <= 1000 := by (
 have h1 := congrArg List.length hX
 rw [hPr] at hl
 simp at h1 hl
 omega)
 rw [hX] at htw
 obtain ⟨a3, c3', g3, rfl, hcc, hcm, hsl, hgb⟩ := j0d p0v htw.opn
 obtain rfl := hsl.ad (by simp)
 have hcz : wr.cell? ⟨g3, X.length, none⟩ = some (.int .i64 z) := by
   have := hsl.ci (i := X.length) (x := (z : Int)) (by simp)
   simpa using this
 have hgl := hsl.lt (by simp)
 have hgB : B <= g3 := hgb (by simp)
 have hblk := htw.blk.hi
 rw [l9, List.length_singleton] at htw hcc
 obtain ⟨p, hp⟩ : ∃ p, p = X.length := ⟨_, rfl⟩
 obtain ⟨q, hqq⟩ : ∃ q, q = p + 1 := ⟨_, rfl⟩
 rw [<- hp, <- hqq] at htw hcc
 rw [<- hp] at hcz
 obtain ⟨c0, c1, c2, c3, c4, c5, c6, c7, c8⟩ := htw.cells
 obtain ⟨l1, l2, l3, l4, l5, l6⟩ := htw.lts
 have w1 : IntKind.i64.wrap ((q : Int) - 1) = (p : Int) := by rw [IntWalk.i64_in _ (by omega)]; omega
 have w2 : (0 : Int) <= (p : Int) := by omega
 have w3 : (p : Int) < (q : Int) := by omega
 have w4 : (p : Int) <= (c3' : Int) := by omega
 have w5 : ¬ c3' = 0 := by omega
 have hzn : (z : Int) < (n : Int) := by omega
 have gf := htw.fz 3
 have HT := hid htw; have HPR := hid hPr; have HX := hid hX; have HCS := hid hcase; have HPP := hid hp; have HQQ := hid hqq
 clear htw hPr hX hcase hsl hgb hp hqq
 go_wp2_with fail
 go_quiet (fail)
 go_wp2_with fail
 go_region
 have h2 : TW w0 ((wr.drewN (nq + 1)).setCell ⟨WB, 3, none⟩ (.slice (some ⟨g3, 0, none⟩) p c3')) B WB LB NB IB CB n gp low num (fun (i : Nat) => if (i : Int) ∈ D then found else cls i) (fun (i : Nat) => if (i : Int) ∈ D then false else iso i) met found X sl (.slice (some ⟨g3, 0, none⟩) p c3') vs := by (
 have h3 := (HT.out.drewN (nq + 1)).popO (by rw [HQQ.out, HPP.out])
 rw [<- HPP.out] at h3
 exact h3)
 obtain ⟨W2, hW2⟩ : ∃ W2, W2 = (wr.drewN (nq + 1)).setCell ⟨WB, 3, none⟩ (.slice (some ⟨g3, 0, none⟩) p c3') := ⟨_, rfl⟩
 rw [<- hW2] at h2 ⊢
 clear hW2 c0 c1 c2 c3 c4 c5 c6 c7 c8 l1 l2 l3 l4 l5 l6 hcz hgl w1 w2 w3 w4 w5 gf
 obtain ⟨c0, c1, c2, c3, c4, c5, c6, c7, c8⟩ := h2.cells
 obtain ⟨l1, l2, l3, l4, l5, l6⟩ := h2.lts
 have g1 := h2.iso.cell hz; have e1 := h2.iso.frozen z
 have g2 := h2.cls.cell hz; have e2 := h2.cls.frozen z
 obtain ⟨b4, b5, b6⟩ := h2.blk.n
 have b6s := b6.symm
 have H2 := hid h2
 clear h2 c0 c1 c2 c3 c6 c8
 obtain ⟨x1, hx1⟩ : ∃ x1, x1 = (if (z : Int) ∈ D then found else cls z) := ⟨_, rfl⟩
 obtain ⟨x2, hx2⟩ : ∃ x2, x2 = (if (z : Int) ∈ D then false else iso z) := ⟨_, rfl⟩
 rw [<- hx1] at g2; rw [<- hx2] at g1
 clear hx1 hx2
 go_wp2_with fail
 go_region
 have h3 := ((H2.out.setIso z false).setCls z found).drew
 rw [k2r, k2r] at h3
 obtain ⟨W3, hW3⟩ : ∃ W3, W3 = ((W2.setCell ⟨IB, z, none⟩ (.bool false)).setCell ⟨CB, z, none⟩ (.int .i64 found)).drew := ⟨_, rfl⟩
 rw [<- hW3] at h3 ⊢
 clear hW3 c4 c5 c7 l1 l2 l3 l4 l5 l6 g1 g2 e1 e2
 obtain ⟨c0, c1, c2, c3, c4, c5, c6, c7, c8⟩ := h3.cells
 obtain ⟨l1, l2, l3, l4, l5, l6⟩ := h3.lts
 have f7 := h3.fz 7
 have H3 := hid h3
 clear h3 c0 c1 c2 c3 c4 c5 c6 c8
 rcases HCS.out with ⟨hR, hzy, hXQ⟩ | ⟨R', hR, hzy, hXQ⟩
 · (
 have hb : ((z : Int) == (y : Int)) = true := by simp [hzy]
 have hw : IntKind.i64.wrap (found + 1) = found + 1 := IntWalk.i64_in _ (by omega)
 have HR := hid hR; have HZ := hid hzy; have HXQ := hid hXQ
 clear hR hzy hXQ
 go_wp2
 go_end0
 have h4 := H3.out.setFound (found + 1)
 have hD : D = Pr := by have := HPR.out; rw [HR.out] at this; simpa using this.symm
 rw [HXQ.out, HZ.out, hD] at h4
 exact ⟨_, rfl, h4⟩)
 · (
 have hb : ((z : Int) == (y : Int)) = false := by simp; omega
 have hk : R'.length < R.length := by rw [hR]; simp
 have HR := hid hR; have HXQ := hid hXQ
 clear hR hzy hXQ
 go_wp2
 go_roundg R'.length
 case measure => exact hk
 case rel => exact ⟨R', (z : Int) :: D, _, rfl, by rw [HPR.out, HR.out]; simp, by rw [<- HXQ.out]; exact H3.out⟩))
end
end Go.Proofs.YtbaccmlfnbgehaaGreatDoor

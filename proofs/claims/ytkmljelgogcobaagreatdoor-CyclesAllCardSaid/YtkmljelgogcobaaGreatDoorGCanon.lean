/-
  system.Canon: the one form of a list.
  tauscc.walk.enter: a state is met.
  tauscc.walk.leave: a state is left; a cycle, if the state was its first.
  tauscc.walk.deeper: on to a state that was not met.
  tauscc.walk.from: what its rounds keep, and that each round keeps it.
  tauscc.walk.from: from a state on, all that silent steps lead to.
-/
import Derived.Test.YtkmljelgogcobaaGreatDoorGBase
import Derived.Test.YtkmljelgogcobaaGreatDoorGPl3
import Derived.Maps.OwnSet
import Derived.Deep.DeepMust
import Derived.BigRegion
import Derived.Deep.LoopGhost
import Derived.Test.YtkmljelgogcobaaGreatDoorGLaidCya
namespace Go.Proofs.YtkmljelgogcobaaGreatDoor
open Go.RowKit Pl Go.Maps

theorem lawInt : Keyed Tryz.prog 3 := int_keyed Tryz.underlying3
theorem zeroInt (w : World) : (zeroValue 3).run Tryz.prog w = .ok (.int .i64 0) w := by kernel_rfl

/-- The map that Canon keeps: each number seen, at its place. -/
structure MapD (D : DataW Unit) (s : List Int) : Prop where
  has : ∀ x : Int, Maps.has D (.int .i64 x) = decide (x ∈ s)
  key : ∀ x ∈ s, D.atKey (.int .i64 x) (.lit (.int .i64 0)) = .lit (.int .i64 (s.idxOf x : Int))
  len : Maps.size D = s.length

theorem MapD.nil : MapD (.map []) [] := ⟨fun x => by simp [Maps.has], fun x h => by simp at h, rfl⟩
theorem MapD.push {D : DataW Unit} {s : List Int} {x : Int} (h : MapD D s) (ht : Tidy D) (hx : x ∉ s) : MapD (D.put (.int .i64 x) (.lit (.int .i64 (s.length : Int)))) (s ++ [x]) where
  has y := by
    by_cases e : y = x
    · subst e; rw [has_put_same (k := .int .i64 y) ht.isMap trivial]; simp
    · rw [has_put_other (by intro h; cases h; exact e rfl), h.has]; simp [e]
  key y hy := by
    by_cases e : y = x
    · subst e; rw [atKey_put_same (k := .int .i64 y) ht.isMap trivial, List.idxOf_append]; simp [hx]
    · have hys : y ∈ s := by simpa [e] using hy
      rw [atKey_put_other (by intro h; cases h; exact e rfl), h.key y hys, List.idxOf_append]; simp [hys]
  len := by rw [size_put ht, h.has]; simp [hx, h.len]

/-- A made row, filled, is owned. -/
theorem own_rowIs {w : World} {b n : Nat} {f : Nat → Value} {xs : List Int} (h : w.rowIs b 3 n f) (hl : xs.length = n) (hf : ∀ i x, xs[i]? = some x → f i = .int .i64 x) (hn : n ≤ maxLen) {base : Nat} (hb : base ≤ b) :
    w.ownsRow base 3 1 (.slice (some ⟨b, 0, none⟩) n n) n (xs.flatMap encI) := by
  obtain ⟨c, hh, hs, hc⟩ := h
  have hlen := length_flatMap lenI xs
  refine ⟨by omega, .inr ⟨b, n, c, rfl, hb, hh, Nat.le_refl _, hn, by omega, ?_⟩⟩
  rw [Nat.mul_one, List.take_of_length_le (by simp; omega)]
  apply List.ext_getElem?
  intro i
  by_cases hi : i < n
  · obtain ⟨x, hx⟩ := getElem?_of_lt (show i < xs.length by omega)
    have := getElem?_flatMap lenI xs i x hx 0 _ rfl
    rw [Array.getElem?_toList, hc i hi, hf i x hx]
    simpa using this.symm
  · rw [List.getElem?_eq_none (by simp; omega), List.getElem?_eq_none (by omega)]

/-- The row after k rounds. -/
def rowAtK (xs : List Int) (k : Nat) (j : Nat) : Value := .int .i64 (if j < k then ((dist xs).idxOf (xs.getD j 0) : Int) else 0)

theorem rowAtK_step {xs : List Int} {k : Nat} {x : Int} (hx : xs[k]? = some x) (i : Nat) : (if i = k then Value.int .i64 ((dist (xs.take (k + 1))).idxOf x : Int) else rowAtK xs k i) = rowAtK xs (k + 1) i := by
  unfold rowAtK
  by_cases e : i = k
  · subst e
    have hm : x ∈ xs.take (i + 1) := by rw [take_snoc hx]; simp
    rw [if_pos rfl, if_pos (by omega), List.getD_eq_getElem?_getD, hx, ← idx_append (xs.take (i + 1)) (xs.drop (i + 1)) hm, List.take_append_drop]; rfl
  · rw [if_neg e]
    by_cases h : i < k
    · rw [if_pos h, if_pos (by omega)]
    · rw [if_neg h, if_neg (by omega)]

set_option maxRecDepth 100000 in
set_option maxHeartbeats 2000000 in
theorem canon_any {w : World} {a : Option Addr} {b off c : Nat} {xs : List Int} (hS : SlAt encI 1 w a b off xs) (hn : xs.length ≤ 1000000) (hwf : ∀ x ∈ xs, (Lit.int .i64 x).wf = true) :
    Calls Tryz.prog 19 #[.slice a xs.length c] w fun e w' => ∃ v, e = .returned v ∧ w'.ownsRow w.heap.size 3 1 v xs.length ((canon xs).flatMap encI) ∧ Below w.heap.size w w' := by
  obtain ⟨n, hnn⟩ : ∃ n, n = xs.length := ⟨_, rfl⟩
  rw [← hnn] at hn ⊢
  have hmk := run_make_row' (P := Tryz.prog) 49 3 (.int .i64 0) 8 Tryz.underlying49 (by kernel_rfl) rfl .i64 .i64 n (by omega) (by omega)
  have hmm := @run_makeMap Tryz.prog
  have HS := Lib.hid hS; have HWF := Lib.hid hwf; have HNN := Lib.hid hnn
  clear hS hwf hnn
  go_enter Tryz.func19, Tryz.ntmps19
  go_wp2_with fail
  go_loopw [5, 6, 7, 8, 15] (fun _ _ _ _ i wr => ∃ (k : Nat) (D : DataW Unit), k ≤ n ∧ i = .int .i64 k ∧ MapD D (dist (xs.take k)) ∧ wr.ownsMap Tryz.prog 3 (plainElem Tryz.prog 3) w.heap.size k D ∧
      wr.rowIs (w.heap.size + 1) 3 n (rowAtK xs k) ∧ Below w.heap.size w wr)
    (fun _ _ _ _ i _ => n - (intOf i).toNat)
  case atStart =>
    refine ⟨0, .map [], Nat.zero_le _, rfl, by simpa [dist] using MapD.nil, (World.ownsMap_made _ _ _ _).alloc _, ?_, ((Below.refl _ _).alloc (Nat.le_refl _) _).alloc (by simp) _⟩
    have := World.rowIs_made (w.alloc (.map #[] 0)) (.int .i64 0) n 3
    exact (by simpa using this : World.rowIs _ (w.heap.size + 1) _ _ _).congr (fun i _ => by simp [rowAtK])
  case round =>
    obtain ⟨k, D, hk, rfl, hmd, hown, hrow, hB⟩ := hrel
    have hm := hown.size_le
    have hsz := hB.size
    have hrlt := hrow.lt
    have hmlt := hown.lt
    have HMD := Lib.hid hmd; have HOWN := Lib.hid hown; have HROW := Lib.hid hrow; have HB := Lib.hid hB
    clear hmd hown hrow hB
    by_cases hlt : k < n
    · obtain ⟨x, hx⟩ := getElem?_of_lt (xs := xs) (i := k) (by have := HNN.out; omega)
      obtain rfl := HS.out.ad (by have := HNN.out; omega)
      have hcx := (HS.out.below HB.out (Nat.le_refl _)).ci hx
      have hkey := keyOf_int_mk Tryz.underlying3 (HWF.out x (List.mem_of_getElem? hx))
      have hfr : wr.frozen? ⟨w.heap.size + 1, k, none⟩ = false := HROW.out.frozen k
      have hct := HROW.out.cell hlt
      have hkn : (k : Int) < (n : Int) := by omega
      have HX := Lib.hid hx
      clear hx
      by_cases hin : x ∈ dist (xs.take k)
      · have hh : Maps.has D (.int .i64 x) = true := by rw [HMD.out.has]; simp [hin]
        have HH := Lib.hid hh
        clear hh
        go_wp2_with (at_lookup; refine wpList_lookup_own_ok_int _ rfl _ _ 101 rfl 3 3 .i64 lawInt Tryz.underlying101 Tryz.underlying3 (zeroInt _) w.heap.size k D rfl HOWN.out _ _ rfl hkey ?_; intro cc hat hwc; rw [HH.out])
        have hcc : cc = (((dist (xs.take k)).idxOf x : Nat) : Int) := by
          have := HMD.out.key x hin
          rw [this] at hat
          simp only [DataW.lit.injEq, Lit.int.injEq] at hat
          exact hat.2.symm
        subst hcc
        have hd : dist (xs.take (k + 1)) = dist (xs.take k) := by rw [take_snoc HX.out, dist_snoc]; unfold addN; rw [if_pos hin]
        have hrw := (HROW.out.set k (.int .i64 ((dist (xs.take (k + 1))).idxOf x : Int))).congr (fun i _ => rowAtK_step HX.out i)
        rw [hd] at hrw
        have HD := Lib.hid hd; have HRW := Lib.hid hrw
        clear hd hrw
        go_roundw
        case rel => exact ⟨k + 1, D, by omega, by go_num, by rw [HD.out]; exact HMD.out, (HOWN.out.setCell (by simp) _).mono (Nat.le_succ _), HRW.out, HB.out.setCell (by simp) _⟩
        case measure => simp [intOf]; omega
      · have hh : Maps.has D (.int .i64 x) = false := by rw [HMD.out.has]; simp [hin]
        have HH := Lib.hid hh; have HIN := Lib.hid hin
        clear hh hin
        have hml := HMD.out.len
        have hdl : (dist (xs.take k)).length ≤ k := by omega
        have HML := Lib.hid hml
        clear hml
        go_wp2_with (first
          | (at_lookup; refine wpList_lookup_own_ok_int _ rfl _ _ 101 rfl 3 3 .i64 lawInt Tryz.underlying101 Tryz.underlying3 (zeroInt _) w.heap.size k D rfl HOWN.out _ _ rfl hkey ?_; intro cc hat hwc; rw [HH.out])
          | (at_len; refine wpList_len_own _ rfl _ 101 rfl 3 3 Tryz.underlying101 _ w.heap.size k D rfl HOWN.out ?_; rw [HML.out])
          | (at_mapUpdate; refine wpList_mapUpdate_own _ rfl _ _ _ 101 rfl 3 3 lawInt Tryz.underlying101 _ w.heap.size k D rfl HOWN.out (by unfold maxLen; omega) _ _ _ rfl rfl hkey _ [] (plainElem_int Tryz.underlying3 (WalkArith.wf_i64 (by omega))) ?_; intro w1 hown1 hgrow1; have hct1 := (HROW.out.of_block (hgrow1.block _ hrlt (by simp))).cell hlt; have hfr1 : w1.frozen? ⟨w.heap.size + 1, k, none⟩ = false := (HROW.out.of_block (hgrow1.block _ hrlt (by simp))).frozen k; have hrlt1 := (HROW.out.of_block (hgrow1.block _ hrlt (by simp))).lt))
        have hd : dist (xs.take (k + 1)) = dist (xs.take k) ++ [x] := by rw [take_snoc HX.out, dist_snoc]; unfold addN; rw [if_neg HIN.out]
        have hix : (dist (xs.take (k + 1))).idxOf x = (dist (xs.take k)).length := by rw [hd, List.idxOf_append]; simp [HIN.out]
        have hrow1 : w1.rowIs (w.heap.size + 1) 3 n (rowAtK xs k) := HROW.out.of_block (hgrow1.block _ hrlt (by simp))
        have hB1 := HB.out.grown hgrow1 hsz (fun j hj => by cases hj; exact Nat.le_refl _)
        have hmd1 := HMD.out.push (HOWN.out.tidy lawInt) HIN.out
        rw [← hd] at hmd1
        have hrw := (hrow1.set k (.int .i64 ((dist (xs.take (k + 1))).idxOf x : Int))).congr (fun i _ => rowAtK_step HX.out i)
        rw [hix] at hrw
        have HRW := Lib.hid hrw; have HB1 := Lib.hid hB1; have HMD1 := Lib.hid hmd1; have HOWN1 := Lib.hid hown1
        clear hd hix hrow1 hB1 hmd1 hrw hown1 hgrow1 hct hfr
        go_roundw
        case rel => exact ⟨k + 1, _, by omega, by go_num, HMD1.out, HOWN1.out.setCell (by simp) _, HRW.out, HB1.out.setCell (by simp) _⟩
        case measure => simp [intOf]; omega
    · obtain rfl : k = n := by omega
      go_wp2
      go_ret
      refine ⟨_, rfl, own_rowIs HROW.out (by rw [canon_len]; exact HNN.out.symm) ?_ (by unfold maxLen; omega) (by omega), HB.out⟩
      intro i x hx
      rw [canon_get] at hx
      obtain ⟨y, hy, rfl⟩ := Option.map_eq_some_iff.1 hx
      have hi := (List.getElem?_eq_some_iff.1 hy).1
      unfold rowAtK
      rw [if_pos (by have := HNN.out; omega), List.getD_eq_getElem?_getD, hy]; rfl
end Go.Proofs.YtkmljelgogcobaaGreatDoor

namespace Go.Proofs.YtkmljelgogcobaaGreatDoor
open Go.RowKit Pl

section
variable {w0 w : World} {B WB LB NB IB CB n : Nat} {gp : Value} {low num cls : Nat → Int} {iso : Nat → Bool} {met found : Int} {ol : List Int} {sl : List E} {vo vs : Value}

set_option maxRecDepth 100000 in
set_option maxHeartbeats 2000000 in
theorem enter_any (h : TW w0 w B WB LB NB IB CB n gp low num cls iso met found ol sl vo vs) {y : Nat} (hy : y < n) (hm0 : 0 ≤ met) (hm1 : met ≤ 1000) (hol : ol.length ≤ 1000) :
    Calls Tryz.prog 178 #[.pointer (some ⟨WB, 0, none⟩), .int .i64 y] w fun e w' => ∃ vo', e = .returned (.tuple #[]) ∧
      TW w0 w' B WB LB NB IB CB n gp (upd low y (met + 1)) (upd num y (met + 1)) cls (upd iso y true) (met + 1) found (ol ++ [(y : Int)]) sl vo' vs := by
  obtain ⟨c0, c1, c2, c3, c4, c5, c6, c7, c8⟩ := h.cells
  have f6 := h.fz 6
  obtain ⟨l1, l2, l3, l4, l5, l6⟩ := h.lts
  have hyn : (y : Int) < (n : Int) := by omega
  have H := Lib.hid h
  have H1 := Lib.hid (h.setMet (met + 1))
  obtain ⟨n1, n2, n3, n4⟩ := h.blk.w
  have n1s := n1.symm; have n2s := n2.symm; have n3s := n3.symm; have n4s := n4.symm
  obtain ⟨b1, b2, b3⟩ := h.blk.l; obtain ⟨b4, b5, b6⟩ := h.blk.n
  have b1s := b1.symm
  have hq : IntKind.i64.wrap (met + 1) = met + 1 := IntWalk.i64_in _ (by omega)
  clear h
  go_enter Tryz.func178, Tryz.ntmps178
  go_upto_region 1 with fail
  clear hq c0 c1 c2 c3 c4 c5 c6 c7 c8 f6
  go_cut [] from 4 (fun wx => TW w0 wx B WB LB NB IB CB n gp (upd low y (met + 1)) (upd num y (met + 1)) cls iso (met + 1) found ol sl vo vs)
  case first =>
    obtain ⟨c0, c1, c2, c3, c4, c5, c6, c7, c8⟩ := H1.out.cells
    have g1 := H1.out.low.cell hy; have g2 := H1.out.num.cell hy
    have e1 := H1.out.low.frozen y; have e2 := H1.out.num.frozen y
    obtain ⟨W, hW⟩ : ∃ W, W = w.setCell ⟨WB, 6, none⟩ (.int .i64 (met + 1)) := ⟨_, rfl⟩
    rw [← hW] at c0 c1 c2 c3 c4 c5 c6 c7 c8 g1 g2 e1 e2 H1 ⊢
    clear hW
    go_region_held3 (fun w' => w'.cell? ⟨WB, 1, none⟩ = some (.slice (some ⟨LB, 0, none⟩) n n) ∧ w'.cell? ⟨WB, 2, none⟩ = some (.slice (some ⟨NB, 0, none⟩) n n) ∧ w'.cell? ⟨WB, 6, none⟩ = some (.int .i64 (met + 1))) (go_keep) (fail)
    all_goals
      go_wp2_with fail
      go_meet
      exact ((H1.out.setNum y _).setLow y _).drew
  case rest =>
    have HC := Lib.hid hcut
    obtain ⟨c0, c1, c2, c3, c4, c5, c6, c7, c8⟩ := hcut.cells
    obtain ⟨l1, l2, l3, l4, l5, l6⟩ := hcut.lts
    clear hcut H H1
    go_upto_region 3 with (at_builtin; go_must (refine wpList_lies rfl _ _ _ rfl rowI (by have := HC.out.bsz; simp; omega) rfl (HC.out.opn.alloc _) ⟨wc.heap.size, 0, none⟩ 1 1 [.int .i64 y] rfl rfl (cells1 (by simp [go_sem])) (by simp [Value.oneCell']) (by decide) (by omega) (by unfold maxLen; omega) (wc.heap.size + 1) (by simp) ?_); intro g2 cap2 w7 hown7 hg7 hl7 hlt7; obtain ⟨d0, d1, d2, d3, d4, d5, d6, d7, d8, d9, d10, d11⟩ := TW.wcells (((HC.out.alloc _).grownO hg7).1.trans (HC.out.alloc _).wb))
    have hp := TW.pushO (m := ol.length + 1) (c := cap2) (ol' := ol ++ [(y : Int)]) (HC.out.alloc _) (by rw [List.length_append, List.flatMap_append]; exact hown7) hg7 (hl7.imp_right (fun e => by simp; omega))
    have HP := Lib.hid hp
    clear d0 d1 d2 d3 d4 d5 d6 d7 d8 d9 d10 d11 c0 c1 c2 c3 c4 c5 c6 c7 c8 l1 l2 l3 l4 l5 l6 hown7 hg7 hl7 hlt7
    obtain ⟨c0, c1, c2, c3, c4, c5, c6, c7, c8⟩ := hp.cells
    obtain ⟨l1, l2, l3, l4, l5, l6⟩ := hp.lts
    have g1 := hp.iso.cell hy
    have e1 := hp.iso.frozen y
    clear hp
    obtain ⟨W, hW⟩ : ∃ W, W = w7.setCell ⟨WB, 3, none⟩ (.slice (some ⟨g2, 0, none⟩) (ol.length + 1) cap2) := ⟨_, rfl⟩
    rw [← hW] at c0 c1 c2 c3 c4 c5 c6 c7 c8 g1 e1 l1 l2 l3 l4 l5 l6 HP ⊢
    clear hW
    go_wp2
    go_end0
    exact ⟨_, rfl, HP.out.setIso y true⟩
end
end Go.Proofs.YtkmljelgogcobaaGreatDoor

namespace Go.Proofs.YtkmljelgogcobaaGreatDoor
open Go.RowKit Pl

section
variable {w0 w : World} {B WB LB NB IB CB n : Nat} {gp : Value} {low num cls : Nat → Int} {iso : Nat → Bool} {met found : Int} {sl : List E} {vo vs : Value}

set_option maxRecDepth 100000 in
set_option maxHeartbeats 2000000 in
theorem leave_no {ol : List Int} (h : TW w0 w B WB LB NB IB CB n gp low num cls iso met found ol sl vo vs) {y : Nat} (hy : y < n) (hne : low y ≠ num y) :
    Calls Tryz.prog 180 #[.pointer (some ⟨WB, 0, none⟩), .int .i64 y] w fun e w' => e = .returned (.tuple #[]) ∧
      TW w0 w' B WB LB NB IB CB n gp low num cls iso met found ol sl vo vs := by
  obtain ⟨c0, c1, c2, c3, c4, c5, c6, c7, c8⟩ := h.cells
  obtain ⟨l1, l2, l3, l4, l5, l6⟩ := h.lts
  have hyn : (y : Int) < (n : Int) := by omega
  have g1 := h.low.cell hy; have g2 := h.num.cell hy
  obtain ⟨a, ha⟩ : ∃ a, a = low y := ⟨_, rfl⟩
  obtain ⟨b, hb⟩ : ∃ b, b = num y := ⟨_, rfl⟩
  rw [← ha] at g1 hne; rw [← hb] at g2 hne
  have hq : (a != b) = true := by simp [hne]
  have H := Lib.hid h
  clear h ha hb hne c0 c3 c4 c5 c6 c7 c8
  go_enter Tryz.func180, Tryz.ntmps180
  go_wp2_with fail
  go_quiet (fail)
  go_wp2
  refine bodyPost_ret (results_none rfl _ _ _) rfl ?_
  exact ⟨rfl, H.out.drewN _⟩

theorem upd_mem {β : Type} (f : Nat → β) (v : β) (z : Nat) (D : List Int) : upd (fun (i : Nat) => if (i : Int) ∈ D then v else f i) z v = fun (i : Nat) => if (i : Int) ∈ (z : Int) :: D then v else f i := by
  funext i
  unfold upd
  by_cases h : i = z
  · subst h; simp
  · rw [if_neg h]
    have : ((i : Int) ∈ (z : Int) :: D) ↔ (i : Int) ∈ D := by simp; omega
    simp only [this]

set_option maxRecDepth 100000 in
set_option maxHeartbeats 4000000 in
theorem leave_yes {Qr Pr : List Int} {y : Nat} (h : TW w0 w B WB LB NB IB CB n gp low num cls iso met found (Qr ++ [(y : Int)] ++ Pr) sl vo vs) (hy : y < n) (heq : low y = num y) (hP : ∀ z ∈ Pr, 0 ≤ z ∧ z < (n : Int) ∧ z ≠ (y : Int)) (hl : (Qr ++ [(y : Int)] ++ Pr).length ≤ 1000) (hf : 0 ≤ found ∧ found ≤ 1000) :
    Calls Tryz.prog 180 #[.pointer (some ⟨WB, 0, none⟩), .int .i64 y] w fun e w' => ∃ vo', e = .returned (.tuple #[]) ∧
      TW w0 w' B WB LB NB IB CB n gp low num (fun (i : Nat) => if (i : Int) ∈ (y : Int) :: Pr then found else cls i) (fun (i : Nat) => if (i : Int) ∈ (y : Int) :: Pr then false else iso i) met (found + 1) Qr sl vo' vs := by
  obtain ⟨c0, c1, c2, c3, c4, c5, c6, c7, c8⟩ := h.cells
  obtain ⟨l1, l2, l3, l4, l5, l6⟩ := h.lts
  have hyn : (y : Int) < (n : Int) := by omega
  have g1 := h.low.cell hy; have g2 := h.num.cell hy
  rw [heq] at g1
  obtain ⟨a, ha⟩ : ∃ a, a = num y := ⟨_, rfl⟩
  rw [← ha] at g1 g2
  have hq : (a != a) = false := by simp
  obtain ⟨n1, n2, n3, n4⟩ := h.blk.w
  have n1s := n1.symm; have n2s := n2.symm; have n3s := n3.symm; have n4s := n4.symm
  have H := Lib.hid h; have HP := Lib.hid hP
  have hf0 := hf.1; have hf1 := hf.2
  clear h ha heq hP hf c0 c3 c4 c5 c6 c7 c8
  go_enter Tryz.func180, Tryz.ntmps180
  go_wp2_with fail
  go_quiet (fail)
  have H1 := Lib.hid (H.out.drewN nq)
  clear g1 g2 c1 c2 H
  go_wp2_with fail
  go_loopg [4] Pr.length (fun k _ wr => ∃ (R D : List Int) (vo' : Value), k = R.length ∧ Pr = R ++ D ∧ TW w0 wr B WB LB NB IB CB n gp low num (fun (i : Nat) => if (i : Int) ∈ D then found else cls i) (fun (i : Nat) => if (i : Int) ∈ D then false else iso i) met found (Qr ++ [(y : Int)] ++ R) sl vo' vs)
  case atStart => exact ⟨Pr, [], vo, rfl, by simp, by simpa using H1.out⟩
  case round =>
    obtain ⟨R, D, vo', rfl, hPr, htw⟩ := hrel
    clear H1
    have key : ∃ (X : List Int) (z : Nat), Qr ++ [(y : Int)] ++ R = X ++ [(z : Int)] ∧ z < n ∧ ((R = [] ∧ z = y ∧ X = Qr) ∨ (∃ R', R = R' ++ [(z : Int)] ∧ z ≠ y ∧ X = Qr ++ [(y : Int)] ++ R')) := by
      rcases List.eq_nil_or_concat R with rfl | ⟨R', z, rfl⟩
      · exact ⟨Qr, y, by simp, hy, .inl ⟨rfl, rfl, rfl⟩⟩
      · have hz := HP.out z (by rw [hPr]; simp)
        refine ⟨Qr ++ [(y : Int)] ++ R', z.toNat, by rw [show ((z.toNat : Nat) : Int) = z by omega]; simp, by omega, .inr ⟨R', by rw [show ((z.toNat : Nat) : Int) = z by omega]; simp, by omega, rfl⟩⟩
    obtain ⟨X, z, hX, hz, hcase⟩ := key
    have hXl : X.length + 1 ≤ 1000 := by
      have h1 := congrArg List.length hX
      rw [hPr] at hl
      simp at h1 hl
      omega
    rw [hX] at htw
    obtain ⟨a3, c3', g3, rfl, hcc, hcm, hsl, hgb⟩ := slAt_own lenI htw.opn
    obtain rfl := hsl.ad (by simp)
    have hcz : wr.cell? ⟨g3, X.length, none⟩ = some (.int .i64 z) := by
      have := hsl.ci (i := X.length) (x := (z : Int)) (by simp)
      simpa using this
    have hgl := hsl.lt (by simp)
    have hgB : B ≤ g3 := hgb (by simp)
    have hblk := htw.blk.hi
    rw [List.length_append, List.length_singleton] at htw hcc
    obtain ⟨p, hp⟩ : ∃ p, p = X.length := ⟨_, rfl⟩
    obtain ⟨q, hqq⟩ : ∃ q, q = p + 1 := ⟨_, rfl⟩
    rw [← hp, ← hqq] at htw hcc
    rw [← hp] at hcz
    obtain ⟨c0, c1, c2, c3, c4, c5, c6, c7, c8⟩ := htw.cells
    obtain ⟨l1, l2, l3, l4, l5, l6⟩ := htw.lts
    have w1 : IntKind.i64.wrap ((q : Int) - 1) = (p : Int) := by rw [IntWalk.i64_in _ (by omega)]; omega
    have w2 : (0 : Int) ≤ (p : Int) := by omega
    have w3 : (p : Int) < (q : Int) := by omega
    have w4 : (p : Int) ≤ (c3' : Int) := by omega
    have w5 : ¬ c3' = 0 := by omega
    have hzn : (z : Int) < (n : Int) := by omega
    have gf := htw.fz 3
    have HT := Lib.hid htw; have HPR := Lib.hid hPr; have HX := Lib.hid hX; have HCS := Lib.hid hcase; have HPP := Lib.hid hp; have HQQ := Lib.hid hqq
    clear htw hPr hX hcase hsl hgb hp hqq
    go_wp2_with fail
    go_quiet (fail)
    go_wp2_with fail
    go_region
    have h2 : TW w0 ((wr.drewN (nq + 1)).setCell ⟨WB, 3, none⟩ (.slice (some ⟨g3, 0, none⟩) p c3')) B WB LB NB IB CB n gp low num (fun (i : Nat) => if (i : Int) ∈ D then found else cls i) (fun (i : Nat) => if (i : Int) ∈ D then false else iso i) met found X sl (.slice (some ⟨g3, 0, none⟩) p c3') vs := by
      have h3 := (HT.out.drewN (nq + 1)).popO (by rw [HQQ.out, HPP.out])
      rw [← HPP.out] at h3
      exact h3
    obtain ⟨W2, hW2⟩ : ∃ W2, W2 = (wr.drewN (nq + 1)).setCell ⟨WB, 3, none⟩ (.slice (some ⟨g3, 0, none⟩) p c3') := ⟨_, rfl⟩
    rw [← hW2] at h2 ⊢
    clear hW2 c0 c1 c2 c3 c4 c5 c6 c7 c8 l1 l2 l3 l4 l5 l6 hcz hgl w1 w2 w3 w4 w5 gf
    obtain ⟨c0, c1, c2, c3, c4, c5, c6, c7, c8⟩ := h2.cells
    obtain ⟨l1, l2, l3, l4, l5, l6⟩ := h2.lts
    have g1 := h2.iso.cell hz; have e1 := h2.iso.frozen z
    have g2 := h2.cls.cell hz; have e2 := h2.cls.frozen z
    obtain ⟨b4, b5, b6⟩ := h2.blk.n
    have b6s := b6.symm
    have H2 := Lib.hid h2
    clear h2 c0 c1 c2 c3 c6 c8
    obtain ⟨x1, hx1⟩ : ∃ x1, x1 = (if (z : Int) ∈ D then found else cls z) := ⟨_, rfl⟩
    obtain ⟨x2, hx2⟩ : ∃ x2, x2 = (if (z : Int) ∈ D then false else iso z) := ⟨_, rfl⟩
    rw [← hx1] at g2; rw [← hx2] at g1
    clear hx1 hx2
    go_wp2_with fail
    go_region
    have h3 := ((H2.out.setIso z false).setCls z found).drew
    rw [upd_mem, upd_mem] at h3
    obtain ⟨W3, hW3⟩ : ∃ W3, W3 = ((W2.setCell ⟨IB, z, none⟩ (.bool false)).setCell ⟨CB, z, none⟩ (.int .i64 found)).drew := ⟨_, rfl⟩
    rw [← hW3] at h3 ⊢
    clear hW3 c4 c5 c7 l1 l2 l3 l4 l5 l6 g1 g2 e1 e2
    obtain ⟨c0, c1, c2, c3, c4, c5, c6, c7, c8⟩ := h3.cells
    obtain ⟨l1, l2, l3, l4, l5, l6⟩ := h3.lts
    have f7 := h3.fz 7
    have H3 := Lib.hid h3
    clear h3 c0 c1 c2 c3 c4 c5 c6 c8
    rcases HCS.out with ⟨hR, hzy, hXQ⟩ | ⟨R', hR, hzy, hXQ⟩
    · have hb : ((z : Int) == (y : Int)) = true := by simp [hzy]
      have hw : IntKind.i64.wrap (found + 1) = found + 1 := IntWalk.i64_in _ (by omega)
      have HR := Lib.hid hR; have HZ := Lib.hid hzy; have HXQ := Lib.hid hXQ
      clear hR hzy hXQ
      go_wp2
      go_end0
      have h4 := H3.out.setFound (found + 1)
      have hD : D = Pr := by have := HPR.out; rw [HR.out] at this; simpa using this.symm
      rw [HXQ.out, HZ.out, hD] at h4
      exact ⟨_, rfl, h4⟩
    · have hb : ((z : Int) == (y : Int)) = false := by simp; omega
      have hk : R'.length < R.length := by rw [hR]; simp
      have HR := Lib.hid hR; have HXQ := Lib.hid hXQ
      clear hR hzy hXQ
      go_wp2
      go_roundg R'.length
      case measure => exact hk
      case rel => exact ⟨R', (z : Int) :: D, _, rfl, by rw [HPR.out, HR.out]; simp, by rw [← HXQ.out]; exact H3.out⟩
end
end Go.Proofs.YtkmljelgogcobaaGreatDoor

namespace Go.Proofs.YtkmljelgogcobaaGreatDoor
open Go.RowKit Pl

namespace Pl
theorem tw_get {α : Type} {p : α → Bool} : ∀ {l : List α} {k : Nat}, k < (l.takeWhile p).length → ∃ a, l[k]? = some a ∧ p a = true ∧ (l.takeWhile p)[k]? = some a
  | [], k, h => by simp at h
  | a :: l, k, h => by
    rw [List.takeWhile_cons] at h ⊢
    cases hp : p a with
    | false => rw [hp] at h; simp at h
    | true =>
      rw [hp] at h
      simp only [if_true] at h ⊢
      cases k with
      | zero => exact ⟨a, rfl, hp, rfl⟩
      | succ k =>
        obtain ⟨b, h1, h2, h3⟩ := tw_get (l := l) (k := k) (by simpa using h)
        exact ⟨b, by simpa using h1, h2, by simpa using h3⟩
theorem tw_end {α : Type} {p : α → Bool} : ∀ (l : List α), (l.takeWhile p).length = l.length ∨ ∃ a, l[(l.takeWhile p).length]? = some a ∧ p a = false
  | [] => .inl rfl
  | a :: l => by
    rw [List.takeWhile_cons]
    cases hp : p a with
    | false => exact .inr ⟨a, by simp, hp⟩
    | true =>
      rcases tw_end (p := p) l with h | ⟨b, h1, h2⟩
      · left; simp [h]
      · right; exact ⟨b, by simpa using h1, h2⟩
theorem tw_le {α : Type} {p : α → Bool} (l : List α) : (l.takeWhile p).length ≤ l.length := by
  rcases tw_end (p := p) l with h | ⟨a, h1, _⟩
  · omega
  · have := (List.getElem?_eq_some_iff.1 h1).1; omega

theorem taus_get {s : Lts} {x k : Nat} (h : k < (taus s x).length) : ∃ st : S, (s.outs (x : Int))[k]? = some st ∧ st.1 = 0 ∧ (taus s x)[k]? = some st.2.toNat := by
  unfold taus at h ⊢
  rw [List.length_map] at h
  obtain ⟨a, h1, h2, h3⟩ := tw_get h
  exact ⟨a, h1, by simpa using h2, by rw [List.getElem?_map, h3]; rfl⟩
theorem taus_end (s : Lts) (x : Nat) : (taus s x).length = (s.outs (x : Int)).length ∨ ∃ st : S, (s.outs (x : Int))[(taus s x).length]? = some st ∧ st.1 ≠ 0 := by
  unfold taus
  rw [List.length_map]
  rcases tw_end (p := fun y : S => y.1 == 0) (s.outs (x : Int)) with h | ⟨a, h1, h2⟩
  · exact .inl h
  · exact .inr ⟨a, h1, by simpa using h2⟩
theorem taus_le (s : Lts) (x : Nat) : (taus s x).length ≤ (s.outs (x : Int)).length := by
  unfold taus; rw [List.length_map]; exact tw_le _
end Pl

/-- The walk's world, at a state of the plain walk. -/
def TWS (w0 wr : World) (B WB LB NB IB CB n : Nat) (gp : Value) (t : TS) (sl : List E) (vo vs : Value) : Prop :=
  TW w0 wr B WB LB NB IB CB n gp t.low t.num t.cls (fun (j : Nat) => decide (j ∈ t.opn)) t.met t.found (t.opn.reverse.map Int.ofNat) sl vo vs

theorem newV {w : World} {b : Nat} {t : TypeId} {e : E} (h : w.heap[b]? = some (.cells #[.int .i64 e.1, .int .i64 e.2.1, .int .i64 e.2.2] t (0, 0))) :
    ∀ j u, [Value.int .i64 e.1, .int .i64 e.2.1, .int .i64 e.2.2][j]? = some u → w.cell? ((⟨b, 0, none⟩ : Addr).add j) = some u :=
  cells3 (by simp [World.cell?, h]) (by simp [World.cell?, h]) (by simp [World.cell?, h])
theorem flat_set2 (sl0 : List E) (a b c c' : Int) : ((sl0 ++ [(a, b, c)]).flatMap encE).set (sl0.length * 3 + 2) (.int .i64 c') = (sl0 ++ [(a, b, c')]).flatMap encE := by
  rw [List.flatMap_append, List.flatMap_append, List.set_append, if_neg (by rw [length_flatMap lenE]; omega), length_flatMap lenE]
  rw [show sl0.length * 3 + 2 - sl0.length * 3 = 2 by omega]
  rfl
theorem flat_set1 (sl0 : List E) (a b c b' : Int) : ((sl0 ++ [(a, b, c)]).flatMap encE).set (sl0.length * 3 + 1) (.int .i64 b') = (sl0 ++ [(a, b', c)]).flatMap encE := by
  rw [List.flatMap_append, List.flatMap_append, List.set_append, if_neg (by rw [length_flatMap lenE]; omega), length_flatMap lenE]
  rw [show sl0.length * 3 + 1 - sl0.length * 3 = 1 by omega]
  rfl

section
variable {w0 w wr : World} {B WB LB NB IB CB n : Nat} {gp : Value} {low num cls : Nat → Int} {iso : Nat → Bool} {met found : Int} {ol : List Int} {sl : List E} {vo vs : Value}

/-- The last visit, in memory. -/
theorem TW.top {sl0 : List E} {x : E} {g m c : Nat} (h : TW w0 wr B WB LB NB IB CB n gp low num cls iso met found ol (sl0 ++ [x]) vo (.slice (some ⟨g, 0, none⟩) m c)) :
    wr.cell? ⟨g, sl0.length * 3, none⟩ = some (.int .i64 x.1) ∧ wr.cell? ⟨g, sl0.length * 3 + 1, none⟩ = some (.int .i64 x.2.1) ∧ wr.cell? ⟨g, sl0.length * 3 + 2, none⟩ = some (.int .i64 x.2.2) ∧ (∀ j, wr.frozen? ⟨g, j, none⟩ = false) ∧ g < wr.heap.size ∧ B ≤ g ∧ m = sl0.length + 1 ∧ m ≤ c := by
  have hs := slAt_row (n := m) (cap := c) lenE h.stk
  have hx : (sl0 ++ [x])[sl0.length]? = some x := by simp
  have h0 := hs.e0 hx; have h1 := hs.e1 hx; have h2 := hs.e2 hx
  simp only [Nat.zero_add] at h0 h1 h2
  obtain ⟨a', c', b', hv, q1, q2, _⟩ := slAt_own lenE h.stk
  simp only [Value.slice.injEq] at hv
  obtain ⟨_, hm, hc⟩ := hv
  subst hc
  refine ⟨h0, h1, h2, fun j => row_frozen h.stk j, hs.lt (by simp), h.sgt g rfl, by simpa using hm, by omega⟩
end

/-- What deeper answers. -/
def DeepPost (s : Lts) (w0 : World) (B WB LB NB IB CB n : Nat) (gp : Value) (t0 : TS) (x : Nat) (K : List Nat) (nx0 : Nat → Nat) (sl0 : List E) (vo vs : Value) (e : Ending) (w' : World) : Prop :=
  ∃ (t : TS) (nx : Nat → Nat), TI s n t (x :: K) nx ∧ (∀ z, z ≠ x → nx z = nx0 z) ∧ ((∀ z, t0.num z ≠ 0 → t.num z ≠ 0) ∧ t0.met ≤ t.met) ∧
    ((e = .returned (.bool true) ∧ ∃ (y : Nat) (g m c : Nat), (taus s x)[nx x]? = some y ∧ t.num y = 0 ∧ TWS w0 w' B WB LB NB IB CB n gp t (sl0 ++ [((x : Int), 1, ((nx x + 1 : Nat) : Int))] ++ [((y : Int), 0, 0)]) vo (.slice (some ⟨g, 0, none⟩) m c)) ∨
     (e = .returned (.bool false) ∧ nx x = (taus s x).length ∧ TWS w0 w' B WB LB NB IB CB n gp t (sl0 ++ [((x : Int), 1, ((nx x : Nat) : Int))]) vo vs))

set_option maxRecDepth 100000 in
set_option maxHeartbeats 8000000 in
theorem deeper_any {s : Lts} {w0 w : World} {B WB LB NB IB CB n gb : Nat} {t : TS} {x : Nat} {K : List Nat} {nx : Nat → Nat} {sl0 : List E} {vo : Value} {g m c : Nat} (hG : GraphAt w0 gb s) (hn : s.st = (n : Int)) (hTI : TI s n t (x :: K) nx)
    (h : TWS w0 w B WB LB NB IB CB n (.pointer (some ⟨gb, 0, none⟩)) t (sl0 ++ [((x : Int), 1, ((nx x : Nat) : Int))]) vo (.slice (some ⟨g, 0, none⟩) m c)) (hsl : sl0.length ≤ 1000) (hnx : nx x ≤ (taus s x).length) :
    Calls Tryz.prog 179 #[.pointer (some ⟨WB, 0, none⟩), .pointer (some ⟨g, sl0.length * 3, none⟩)] w (DeepPost s w0 B WB LB NB IB CB n (.pointer (some ⟨gb, 0, none⟩)) t x K nx sl0 vo (.slice (some ⟨g, 0, none⟩) m c)) := by
  have hol := outs_len hG.right (x : Int)
  have htl := taus_le s x
  have KEEP : RowKit.Hid (∀ W, TWS w0 W B WB LB NB IB CB n (.pointer (some ⟨gb, 0, none⟩)) t (sl0 ++ [((x : Int), 1, ((nx x : Nat) : Int))]) vo (.slice (some ⟨g, 0, none⟩) m c) →
      W.cell? ⟨WB, 0, none⟩ = some (.pointer (some ⟨gb, 0, none⟩)) ∧ W.cell? ⟨g, sl0.length * 3, none⟩ = some (.int .i64 x) ∧ TWS w0 W B WB LB NB IB CB n (.pointer (some ⟨gb, 0, none⟩)) t (sl0 ++ [((x : Int), 1, ((nx x : Nat) : Int))]) vo (.slice (some ⟨g, 0, none⟩) m c)) :=
    Lib.hid (fun W hW => ⟨(TW.cells hW).1, (TW.top hW).1, hW⟩)
  obtain ⟨gl, gB⟩ : g < w.heap.size ∧ B ≤ g := ⟨(TW.top h).2.2.2.2.1, (TW.top h).2.2.2.2.2.1⟩
  obtain ⟨l1, l2, l3, l4, l5, l6⟩ := TW.lts h
  have hxn : x < n := hTI.opn_lt x (hTI.gin x List.mem_cons_self)
  have H := Lib.hid h; have HG := Lib.hid hG; have HN := Lib.hid hn; have HTI := Lib.hid hTI; have HNX := Lib.hid hnx
  have CE : RowKit.Hid (∀ W, TWS w0 W B WB LB NB IB CB n (.pointer (some ⟨gb, 0, none⟩)) t (sl0 ++ [((x : Int), 1, ((nx x : Nat) : Int))]) vo (.slice (some ⟨g, 0, none⟩) m c) → Calls Tryz.prog 58 #[.pointer (some ⟨gb, 0, none⟩), .int .i64 x] W fun e w' => StepsRet w0 e (s.outs x) ∧ Below W.heap.size W w') :=
    Lib.hid (fun W hW => each_any HG.out (TW.bel hW) x)
  have HS0 : RowKit.Hid (TWS w0 w.drew B WB LB NB IB CB n (.pointer (some ⟨gb, 0, none⟩)) t (sl0 ++ [((x : Int), 1, ((nx x : Nat) : Int))]) vo (.slice (some ⟨g, 0, none⟩) m c)) := Lib.hid (TW.drew h)
  obtain ⟨o, ho⟩ : ∃ o, o = sl0.length * 3 := ⟨_, rfl⟩
  rw [← ho] at KEEP ⊢
  have HO := Lib.hid ho
  clear h hG hn hTI hnx ho
  go_enter Tryz.func179, Tryz.ntmps179
  go_wp2_with fail
  go_region_held3 (fun W => W.cell? ⟨WB, 0, none⟩ = some (.pointer (some ⟨gb, 0, none⟩)) ∧ W.cell? ⟨g, o, none⟩ = some (.int .i64 x) ∧ TWS w0 W B WB LB NB IB CB n (.pointer (some ⟨gb, 0, none⟩)) t (sl0 ++ [((x : Int), 1, ((nx x : Nat) : Int))]) vo (.slice (some ⟨g, 0, none⟩) m c))
    (first | (exact KEEP.out _ HS0.out) | (go_split_ands; exact KEEP.out _ (TW.call (by assumption) (by assumption))))
    ((go_at_call 58; go_split_ands; refine (CE.out _ (by assumption)).mono ?_; rintro e w1 ⟨⟨a1, c1, b1, o1, rfl, hc1, hm1, hs1⟩, hB⟩))
  have HW1 : RowKit.Hid (TWS w0 w1 B WB LB NB IB CB n (.pointer (some ⟨gb, 0, none⟩)) t (sl0 ++ [((x : Int), 1, ((nx x : Nat) : Int))]) vo (.slice (some ⟨g, 0, none⟩) m c)) := Lib.hid (by go_split_ands; assumption)
  go_split_ands
  obtain ⟨L, hL⟩ : ∃ L, L = s.outs (x : Int) := ⟨_, rfl⟩
  rw [← hL] at hol htl hs1 ⊢
  have HL := Lib.hid hL; have HS1 := Lib.hid hs1
  clear hs1 hL hB KEEP CE HS0 H l1 l2 l3 l4 l5 l6 gl
  rename_i q1 q2 q3
  clear q1 q2 q3
  go_wp2_with fail
  go_loopg [6] ((taus s x).length - nx x) (fun k _ wr => ∃ (tt : TS) (nn : Nat → Nat), k = (taus s x).length - nn x ∧ nn x ≤ (taus s x).length ∧ TI s n tt (x :: K) nn ∧ (∀ z, z ≠ x → nn z = nx z) ∧ ((∀ z, t.num z ≠ 0 → tt.num z ≠ 0) ∧ t.met ≤ tt.met) ∧ TWS w0 wr B WB LB NB IB CB n (.pointer (some ⟨gb, 0, none⟩)) tt (sl0 ++ [((x : Int), 1, ((nn x : Nat) : Int))]) vo (.slice (some ⟨g, 0, none⟩) m c))
  case atStart => exact ⟨t, nx, rfl, HNX.out, HTI.out, fun _ _ => rfl, ⟨fun _ h => h, Int.le_refl _⟩, HW1.out⟩
  case round =>
    obtain ⟨tt, nn, rfl, hnn, hti, hoth, hmon, htw⟩ := hrel
    have HMON := Lib.hid hmon
    clear hmon
    obtain ⟨kx, hkx⟩ : ∃ kx, kx = nn x := ⟨_, rfl⟩
    rw [← hkx] at htw hnn
    obtain ⟨v0, v1, v2, vf, gl, y1, y2, y3⟩ := TW.top htw
    clear y1 y2 y3
    rw [← HO.out] at v0 v1 v2
    have vf2 := vf (o + 2)
    have hsr := HS1.out.below (TW.bel htw) (Nat.le_refl _)
    have hT := Lib.hid htw; have HTI2 := Lib.hid hti; have HOT := Lib.hid hoth; have HKX := Lib.hid hkx
    obtain ⟨h1, h2, h3, h4, h5⟩ := (TW.blk htw).hi
    have d1 : ¬ g = WB := by omega
    have d1s : ¬ WB = g := by omega
    clear htw hti hoth hkx vf HW1 HTI v1
    by_cases hlt : kx < (taus s x).length
    · obtain ⟨st, hst, h0, htg⟩ := taus_get hlt
      rw [← HL.out] at hst
      have hkl := (List.getElem?_eq_some_iff.1 hst).1
      obtain rfl := hsr.ad (by omega)
      have e0 := hsr.s0 hst; have e1 := hsr.s1 hst
      have hbl := hsr.lt (by omega)
      have hyr := offB_false.1 (HG.out.right.edges _ (mem_outs.1 (by rw [← HL.out]; exact List.mem_of_getElem? hst)))
      have hyr2 := HN.out
      obtain ⟨st0, st1⟩ := st
      simp only at h0 hyr e0 e1 htg
      subst h0
      obtain ⟨y, rfl⟩ : ∃ y : Nat, st1 = (y : Int) := ⟨st1.toNat, by omega⟩
      simp only [Int.toNat_natCast] at htg
      have hyn : y < n := by omega
      have hyn' : (y : Int) < (n : Int) := by omega
      have hki : (kx : Int) < (L.length : Int) := by omega
      have hw : IntKind.i64.wrap ((kx : Int) + 1) = (kx : Int) + 1 := IntWalk.i64_in _ (by omega)
      have HST := Lib.hid hst; have HTG := Lib.hid htg; have HSR := Lib.hid hsr
      clear hst htg hyr hyr2 hsr
      go_upto_region 5 with fail
      have h2 : TW w0 (wr.setCell ⟨g, o + 2, none⟩ (.int .i64 ((kx : Int) + 1))) B WB LB NB IB CB n (.pointer (some ⟨gb, 0, none⟩)) tt.low tt.num tt.cls (fun (j : Nat) => decide (j ∈ tt.opn)) tt.met tt.found (tt.opn.reverse.map Int.ofNat) (sl0 ++ [((x : Int), 1, ((kx + 1 : Nat) : Int))]) vo (.slice (some ⟨g, 0, none⟩) m c) := by
        rw [HO.out]
        exact TW.setV hT.out _ _ (by simp) (by rw [flat_set2]; rfl)
      obtain ⟨W2, hW2⟩ : ∃ W2, W2 = wr.setCell ⟨g, o + 2, none⟩ (.int .i64 ((kx : Int) + 1)) := ⟨_, rfl⟩
      rw [← hW2] at h2 ⊢
      clear hW2 v0 v2 vf2 e0 e1 gl hbl
      obtain ⟨c0, c1', c2, c3, c4, c5, c6, c7, c8⟩ := h2.cells
      obtain ⟨l1, l2, l3, l4, l5, l6⟩ := h2.lts
      have g2 := h2.num.cell hyn
      have H2 := Lib.hid h2
      obtain ⟨ny, hny⟩ : ∃ ny, ny = tt.num y := ⟨_, rfl⟩
      rw [← hny] at g2
      have HNY := Lib.hid hny
      clear hny
      by_cases h0 : ny = 0
      · have hb : (ny == 0) = true := by simp [h0]
        have H0 := Lib.hid h0
        have f8 := TW.fz H2.out 8
        clear h0 c0 c1' c3 c4 c5 c6 c7
        have hown2 : (W2.alloc (.cells #[.int .i64 y, .int .i64 0, .int .i64 0] 215)).ownsRow B 215 3 (.slice (some ⟨g, 0, none⟩) m c) (sl0.length + 1) ((sl0 ++ [((x : Int), 1, ((kx + 1 : Nat) : Int))]).flatMap encE) := by
          have h := TW.stk (TW.alloc H2.out (.cells #[.int .i64 y, .int .i64 0, .int .i64 0] 215))
          rw [List.length_append, List.length_singleton] at h
          exact h
        have hBz : B ≤ (W2.alloc (.cells #[.int .i64 y, .int .i64 0, .int .i64 0] 215)).heap.size := Nat.le_trans (TW.bsz H2.out) (by simp)
        have HOWN2 := Lib.hid hown2; have HBZ := Lib.hid hBz
        clear hown2 hBz
        go_wp2_with (at_builtin; go_must (refine wpList_lies rfl _ _ _ rfl rowV HBZ.out (v := .slice (some ⟨g, 0, none⟩) m c) (by rfl) HOWN2.out ⟨W2.heap.size, 0, none⟩ 1 1 [.int .i64 y, .int .i64 0, .int .i64 0] rfl rfl (newV (e := ((y : Int), 0, 0)) (heap_alloc_new W2 _)) (by simp [Value.oneCell']) (by decide) (by omega) (by unfold maxLen; omega) (W2.heap.size + 1) (by simp) ?_); intro g2' cap2 w7 hown7 hg7 hl7 hlt7; obtain ⟨k0, k1, k2, k3, k4, k5, k6, k7, k8, k9, k10, k11⟩ := TW.wcells ((TW.grownS (TW.alloc H2.out _) hg7).1.trans (TW.wb (TW.alloc H2.out _))))
        have hp := TW.pushS (m := sl0.length + 1 + 1) (c := cap2) (sl' := sl0 ++ [((x : Int), 1, ((kx + 1 : Nat) : Int))] ++ [((y : Int), 0, 0)]) (TW.alloc H2.out _) (by rw [List.length_append, List.length_append, List.length_singleton, List.length_singleton, List.flatMap_append]; exact hown7) hg7 (hl7.imp_right (fun e => by simp; omega))
        go_ret
        refine ⟨tt, nn, HTI2.out, HOT.out, HMON.out, .inl ⟨rfl, y, g2', sl0.length + 1 + 1, cap2, by rw [← HKX.out]; exact HTG.out, by rw [← HNY.out]; exact H0.out, ?_⟩⟩
        rw [← HKX.out]
        exact hp
      · have hb : (ny == 0) = false := by simp [h0]
        have H0 := Lib.hid h0
        have g4 := h2.iso.cell hyn
        clear h0
        by_cases hop : y ∈ tt.opn
        · have hd : decide (y ∈ tt.opn) = true := by simp [hop]
          rw [hd] at g4
          have HOP := Lib.hid hop
          have g1 := h2.low.cell hxn
          have e1 := h2.low.frozen x
          obtain ⟨lx, hlx⟩ : ∃ lx, lx = tt.low x := ⟨_, rfl⟩
          rw [← hlx] at g1
          have HLX := Lib.hid hlx
          obtain ⟨u0, u1, u2, uf, ug, y1, y2, y3⟩ := TW.top h2
          clear y1 y2 y3
          rw [← HO.out] at u0 u1 u2
          have hxn' : (x : Int) < (n : Int) := by omega
          clear hop hd hlx uf u1 u2 h2 c3 c5 c6 c7 c8
          go_wp2_with fail
          go_region
          have hsc := HTI2.out.scan (by rw [← HKX.out]; exact HTG.out) (mem_taus HG.out.right HG.out.srt |>.1 (List.mem_of_getElem? HTG.out)) hyn (by rw [← HNY.out]; exact H0.out)
          rw [if_pos HOP.out, ← HKX.out] at hsc
          have hmin : (if ny < lx then ny else lx) = min (tt.low x) (tt.num y) := by rw [← HLX.out, ← HNY.out]; split <;> omega
          have h3 := (TW.setLow H2.out x (if ny < lx then ny else lx)).drew
          rw [hmin] at h3
          have H3 := Lib.hid h3; have HSC := Lib.hid hsc
          first | rw [hmin] | rw [show min lx ny = min (tt.low x) (tt.num y) by rw [← HLX.out, ← HNY.out]]
          clear h3 hsc hmin u0 g1 g2 g4 e1 l1 l2 l3 l4 l5 l6 c0 c1' c2 c4
          go_wp2_with fail
          go_roundg ((taus s x).length - (kx + 1))
          case measure => have := HKX.out; omega
          case rel => exact ⟨_, upd nn x (kx + 1), by rw [upd_same], by rw [upd_same]; omega, HSC.out, fun z hz => by rw [upd_other _ _ hz]; exact HOT.out z hz, HMON.out, by rw [upd_same]; exact H3.out⟩
        · have hd : decide (y ∈ tt.opn) = false := by simp [hop]
          rw [hd] at g4
          have HOP := Lib.hid hop
          clear hop hd h2
          go_wp2_with fail
          have hsc := HTI2.out.scan (by rw [← HKX.out]; exact HTG.out) (mem_taus HG.out.right HG.out.srt |>.1 (List.mem_of_getElem? HTG.out)) hyn (by rw [← HNY.out]; exact H0.out)
          rw [if_neg HOP.out, ← HKX.out] at hsc
          go_roundg ((taus s x).length - (kx + 1))
          case measure => have := HKX.out; omega
          case rel => exact ⟨_, upd nn x (kx + 1), by rw [upd_same], by rw [upd_same]; omega, hsc, fun z hz => by rw [upd_other _ _ hz]; exact HOT.out z hz, HMON.out, by rw [upd_same]; exact H2.out⟩
    · have hkk : kx = (taus s x).length := by omega
      have HKK := Lib.hid hkk
      rcases taus_end s x with he | ⟨st, hst, hne⟩
      · rw [← HL.out, ← hkk] at he
        have hki : ¬ (kx : Int) < (L.length : Int) := by omega
        have hd : decide (kx < L.length) = false := by simp; omega
        clear he hkk hlt hsr
        go_wp2_with fail
        go_ret
        refine ⟨tt, nn, HTI2.out, HOT.out, HMON.out, .inr ⟨rfl, by rw [← HKX.out]; exact HKK.out, ?_⟩⟩
        rw [← HKX.out]
        exact hT.out
      · rw [← HL.out, ← hkk] at hst
        have hkl := (List.getElem?_eq_some_iff.1 hst).1
        obtain rfl := hsr.ad (by omega)
        have e0 := hsr.s0 hst
        have hbl := hsr.lt (by omega)
        have hki : (kx : Int) < (L.length : Int) := by omega
        have hb : (st.1 == 0) = false := by simp [hne]
        clear hst hkk hlt hsr hne
        go_wp2_with fail
        go_ret
        refine ⟨tt, nn, HTI2.out, HOT.out, HMON.out, .inr ⟨rfl, by rw [← HKX.out]; exact HKK.out, ?_⟩⟩
        rw [← HKX.out]
        exact hT.out
end Go.Proofs.YtkmljelgogcobaaGreatDoor

namespace Go.Proofs.YtkmljelgogcobaaGreatDoor
open Go.RowKit Pl

/-- The stack of visits, the first state below. -/
def stkOf (K : List Nat) (nx : Nat → Nat) : List E := K.reverse.map (fun (z : Nat) => ((z : Int), (1 : Int), ((nx z : Nat) : Int)))
theorem stkOf_cons (x : Nat) (K : List Nat) (nx : Nat → Nat) : stkOf (x :: K) nx = stkOf K nx ++ [((x : Int), 1, ((nx x : Nat) : Int))] := by simp [stkOf]
theorem stkOf_congr {K : List Nat} {nx nx' : Nat → Nat} (h : ∀ z ∈ K, nx z = nx' z) : stkOf K nx = stkOf K nx' := by
  unfold stkOf
  apply List.map_congr_left
  intro z hz
  rw [h z (by simpa using hz)]
theorem stkOf_len (K : List Nat) (nx : Nat → Nat) : (stkOf K nx).length = K.length := by simp [stkOf]
theorem stkOf_nil (nx : Nat → Nat) : stkOf [] nx = [] := rfl

/-- Where the walk stands at the head of a round; the number: so many rounds are to come at most. -/
inductive FromSt (s : Lts) (n : Nat) (t : TS) : List E → Nat → Prop
  | done (nx : Nat → Nat) (k : Nat) : TI s n t [] nx → FromSt s n t [] k
  | seen (x : Nat) (K : List Nat) (nx : Nat → Nat) (k : Nat) : TI s n t (x :: K) nx → (∀ z ∈ x :: K, nx z ≤ (taus s z).length) → 3 * (n - t.met.toNat) + (K.length + 1) + 2 ≤ k → FromSt s n t (stkOf K nx ++ [((x : Int), 1, ((nx x : Nat) : Int))]) k
  | come (y : Nat) (K : List Nat) (nx nx' : Nat → Nat) (k : Nat) : TI s n t K nx → y < n → t.num y = 0 → (∀ g ∈ K, TR s g y) → (∀ x y', x ∈ K → y' ∈ (taus s x).take (nx' x) → y' = y ∨ y' ∈ (taus s x).take (nx x)) → (∀ z ∈ K, nx' z ≤ (taus s z).length) →
      3 * (n - t.met.toNat) + (K.length + 1) ≤ k → FromSt s n t (stkOf K nx' ++ [((y : Int), 0, 0)]) k

section
variable {s : Lts} {n : Nat} {t : TS} {K : List Nat} {nx nx' : Nat → Nat}

theorem Pl.TI.notin {x : Nat} (h : TI s n t (x :: K) nx) : x ∉ K := fun hh => by
  have := (List.pairwise_cons.1 h.gsrt).1 x hh; omega

theorem Pl.TI.opn_len (h : TI s n t K nx) : t.opn.length ≤ n := by
  have h1 : (t.opn.map Int.ofNat).Nodup := by
    unfold List.Nodup
    rw [List.pairwise_map]
    exact h.nd.imp (fun hab e => hab (Int.ofNat.inj e))
  have := nodup_len h1 (n := n) (fun x hx => by
    obtain ⟨i, hi, rfl⟩ := List.mem_map.1 hx
    have := h.opn_lt i hi
    show 0 ≤ (i : Int) ∧ (i : Int) < n; omega)
  simpa using this

/-- Deeper has found a state that was not met. -/
theorem FromSt.push {x y k : Nat} (h : TI s n t (x :: K) nx) (hr : s.Right) (hs : Srt ltE s.es) (hn : s.st = (n : Int)) (hy : (taus s x)[nx x]? = some y) (h0 : t.num y = 0) (hnx : ∀ z ∈ K, nx z ≤ (taus s z).length) (hk : 3 * (n - t.met.toNat) + (K.length + 2) ≤ k) :
    FromSt s n t (stkOf K nx ++ [((x : Int), 1, ((nx x + 1 : Nat) : Int))] ++ [((y : Int), 0, 0)]) k := by
  have hxK := h.notin
  have htx : tau s x y := (mem_taus hr hs).1 (List.mem_of_getElem? hy)
  have hlt := (List.getElem?_eq_some_iff.1 hy).1
  have e : stkOf K nx ++ [((x : Int), 1, ((nx x + 1 : Nat) : Int))] = stkOf (x :: K) (upd nx x (nx x + 1)) := by
    rw [stkOf_cons, upd_same, stkOf_congr (nx := upd nx x (nx x + 1)) (nx' := nx) (fun z hz => upd_other _ _ (fun e => hxK (e ▸ hz)))]
  rw [e]
  refine .come y (x :: K) nx _ k h (tau_lt hr hn htx).2 h0 (fun g hg => ?_) (fun x' y' hx' hy' => ?_) (fun z hz => ?_) (by simp; omega)
  · exact (h.tree g hg x (h.gin x List.mem_cons_self) (h.top g hg)).tail htx
  · by_cases e : x' = x
    · subst e
      rw [upd_same] at hy'
      obtain ⟨hl, hg⟩ := List.getElem?_eq_some_iff.1 hy
      rw [List.take_succ_eq_append_getElem hl, hg] at hy'
      rcases List.mem_append.1 hy' with h1 | h1
      · exact .inr h1
      · exact .inl (by simpa using h1)
    · rw [upd_other _ _ e] at hy'; exact .inr hy'
  · by_cases e : z = x
    · subst e; rw [upd_same]; omega
    · rw [upd_other _ _ e]
      rcases List.mem_cons.1 hz with h1 | h1
      · exact absurd h1 e
      · exact hnx z h1

theorem hall_of {x : Nat} (hr : s.Right) (hs : Srt ltE s.es) (he : nx x = (taus s x).length) : ∀ y, tau s x y → y ∈ (taus s x).take (nx x) := by
  intro y hy
  rw [he, List.take_length]
  exact (mem_taus hr hs).2 hy

/-- A state is left that is not the first of its cycle. -/
theorem FromSt.left1 {x g k : Nat} (h : TI s n t (x :: g :: K) nx) (hr : s.Right) (hs : Srt ltE s.es) (he : nx x = (taus s x).length) (hne : t.low x ≠ t.num x) (hnx : ∀ z ∈ g :: K, nx z ≤ (taus s z).length) (hk : 3 * (n - t.met.toNat) + (K.length + 1) + 2 ≤ k) :
    FromSt s n { t with low := upd t.low g (min (t.low g) (t.low x)) } (stkOf (g :: K) nx) k := by
  obtain ⟨g', K', e, h2⟩ := h.leave1 (hall_of hr hs he) hne
  simp only [List.cons.injEq] at e
  obtain ⟨rfl, rfl⟩ := e
  rw [stkOf_cons]
  exact .seen _ K nx k h2 hnx hk

/-- .. and the first of its cycle. -/
theorem FromSt.left2 {x k : Nat} (h : TI s n t (x :: K) nx) (hr : s.Right) (hs : Srt ltE s.es) (hn : s.st = (n : Int)) (he : nx x = (taus s x).length) (heq : t.low x = t.num x) {Pp Q : List Nat} (ho : t.opn = Pp ++ x :: Q) (hnx : ∀ z ∈ K, nx z ≤ (taus s z).length) (hk : 3 * (n - t.met.toNat) + K.length + 2 ≤ k) :
    FromSt s n { t with opn := Q, cls := fun i => if i ∈ Pp ++ [x] then t.found else t.cls i, found := t.found + 1 } (stkOf K nx) k ∧ (∀ g ∈ K, t.low g ≤ t.low x) := by
  obtain ⟨h2, h3⟩ := h.leave2 hr hn (hall_of hr hs he) heq ho
  refine ⟨?_, h3⟩
  cases K with
  | nil => exact .done nx k h2
  | cons g K' =>
    rw [stkOf_cons]
    exact .seen g K' nx k h2 hnx (by simp at hk ⊢; omega)

/-- The states that stand open, in memory. -/
theorem open_rev {x : Nat} {Pp Q : List Nat} (ho : t.opn = Pp ++ x :: Q) : t.opn.reverse.map Int.ofNat = Q.reverse.map Int.ofNat ++ [(x : Int)] ++ Pp.reverse.map Int.ofNat := by
  rw [ho]; simp
theorem mem_revI {l : List Nat} {i : Nat} : (i : Int) ∈ l.reverse.map Int.ofNat ↔ i ∈ l := by
  rw [List.mem_map]
  constructor
  · rintro ⟨j, hj, e⟩
    have : j = i := Int.ofNat.inj e
    subst this; simpa using hj
  · intro h; exact ⟨i, by simpa using h, rfl⟩
theorem cls_rev (x : Nat) (Pp : List Nat) (v : Int) (f : Nat → Int) : (fun (i : Nat) => if (i : Int) ∈ (x : Int) :: Pp.reverse.map Int.ofNat then v else f i) = fun i => if i ∈ Pp ++ [x] then v else f i := by
  funext i
  have : ((i : Int) ∈ (x : Int) :: Pp.reverse.map Int.ofNat) ↔ i ∈ Pp ++ [x] := by
    rw [List.mem_cons, mem_revI, List.mem_append, List.mem_singleton]
    constructor
    · rintro (h | h)
      · exact .inr (by omega)
      · exact .inl h
    · rintro (h | h)
      · exact .inr h
      · exact .inl (by omega)
  simp only [this]
theorem iso_rev {x : Nat} {Pp Q : List Nat} (hnd : t.opn.Nodup) (ho : t.opn = Pp ++ x :: Q) : (fun (i : Nat) => if (i : Int) ∈ (x : Int) :: Pp.reverse.map Int.ofNat then false else decide (i ∈ t.opn)) = fun (i : Nat) => decide (i ∈ Q) := by
  funext i
  rw [ho] at hnd ⊢
  have hd := List.nodup_append.1 hnd
  have hx := List.nodup_cons.1 hd.2.1
  have : ((i : Int) ∈ (x : Int) :: Pp.reverse.map Int.ofNat) ↔ i = x ∨ i ∈ Pp := by
    rw [List.mem_cons, mem_revI]
    constructor
    · rintro (h | h)
      · exact .inl (by omega)
      · exact .inr h
    · rintro (h | h)
      · exact .inl (by omega)
      · exact .inr h
  by_cases h1 : (i : Int) ∈ (x : Int) :: Pp.reverse.map Int.ofNat
  · rw [if_pos h1]
    have h2 : i ∉ Q := by
      rcases this.1 h1 with rfl | h3
      · exact hx.1
      · intro h4; exact hd.2.2 i h3 i (by simp [h4]) rfl
    simp [h2]
  · rw [if_neg h1]
    have h2 : ¬ (i = x ∨ i ∈ Pp) := fun h => h1 (this.2 h)
    have h3 : (i ∈ Pp ++ x :: Q) ↔ i ∈ Q := by
      simp only [List.mem_append, List.mem_cons]
      constructor
      · rintro (h | h | h)
        · exact absurd (.inr h) h2
        · exact absurd (.inl h) h2
        · exact h
      · intro h; exact .inr (.inr h)
    simp only [h3]
end
end Go.Proofs.YtkmljelgogcobaaGreatDoor

namespace Go.Proofs.YtkmljelgogcobaaGreatDoor
open Go.RowKit Pl

section
variable {w0 wr : World} {B WB LB NB IB CB n : Nat} {gp : Value} {low num cls : Nat → Int} {iso : Nat → Bool} {met found : Int} {ol : List Int} {sl0 : List E} {vo vs : Value}

/-- A stack that is not empty has a place. -/
theorem TW.place {x : E} (h : TW w0 wr B WB LB NB IB CB n gp low num cls iso met found ol (sl0 ++ [x]) vo vs) : ∃ g c, vs = .slice (some ⟨g, 0, none⟩) (sl0.length + 1) c ∧ sl0.length + 1 ≤ c ∧ c ≤ maxLen ∧ B ≤ g ∧ g < wr.heap.size := by
  obtain ⟨a, c, g, hv, h1, h2, h3, h4⟩ := slAt_own lenE h.stk
  obtain rfl := h3.ad (by simp)
  have hl := h3.lt (by simp)
  rw [List.length_append, List.length_singleton] at hv h1
  exact ⟨g, c, hv, h1, h2, h4 (by simp), hl⟩
theorem TW.empty (h : TW w0 wr B WB LB NB IB CB n gp low num cls iso met found ol [] vo vs) : ∃ a c, vs = .slice a 0 c := by
  obtain ⟨a, c, g, hv, _⟩ := slAt_own (xs := ([] : List E)) lenE h.stk
  exact ⟨a, c, hv⟩
end

set_option maxRecDepth 100000 in
set_option maxHeartbeats 16000000 in
theorem from_any {s : Lts} {w0 w : World} {B WB LB NB IB CB n gb : Nat} {t : TS} {y : Nat} {nx : Nat → Nat} {vo vs : Value} (hG : GraphAt w0 gb s) (hn : s.st = (n : Int)) (hTI : TI s n t [] nx)
    (h : TWS w0 w B WB LB NB IB CB n (.pointer (some ⟨gb, 0, none⟩)) t [] vo vs) (hy : y < n) (h0 : t.num y = 0) :
    Calls Tryz.prog 150 #[.pointer (some ⟨WB, 0, none⟩), .int .i64 y] w fun e w' => ∃ (t' : TS) (nx' : Nat → Nat) (vo' vs' : Value), e = .returned (.tuple #[]) ∧ TI s n t' [] nx' ∧
      TWS w0 w' B WB LB NB IB CB n (.pointer (some ⟨gb, 0, none⟩)) t' [] vo' vs' ∧ t'.num y ≠ 0 ∧ ∀ z, t.num z ≠ 0 → t'.num z ≠ 0 := by
  have hn1000 : n ≤ 1000 := by have := hG.right.st0; omega
  obtain ⟨c0, c1, c2, c3, c4, c5, c6, c7, c8⟩ := TW.cells h
  obtain ⟨l1, l2, l3, l4, l5, l6⟩ := TW.lts h
  have H := Lib.hid h; have HG := Lib.hid hG; have HN := Lib.hid hn; have HTI := Lib.hid hTI; have H0 := Lib.hid h0
  have hown2 : (w.alloc (.cells #[.int .i64 y, .int .i64 0, .int .i64 0] 215)).ownsRow B 215 3 vs 0 [] := TW.stk (TW.alloc h _)
  have hBz : B ≤ (w.alloc (.cells #[.int .i64 y, .int .i64 0, .int .i64 0] 215)).heap.size := Nat.le_trans (TW.bsz h) (by simp)
  have HOWN2 := Lib.hid hown2; have HBZ := Lib.hid hBz
  clear h hG hn hTI h0 c0 c1 c2 c3 c4 c5 c6 c7 l2 l3 l4 l5 l6 hown2 hBz
  go_enter Tryz.func150, Tryz.ntmps150
  go_wp2_with (at_builtin; go_must (refine wpList_lies rfl _ _ _ rfl rowV HBZ.out (by rfl) HOWN2.out ⟨w.heap.size, 0, none⟩ 1 1 [.int .i64 y, .int .i64 0, .int .i64 0] rfl rfl (newV (e := ((y : Int), 0, 0)) (heap_alloc_new w _)) (by simp [Value.oneCell']) (by decide) (by omega) (by unfold maxLen; omega) (w.heap.size + 1) (by simp) ?_); intro g2' cap2 w7 hown7 hg7 hl7 hlt7; obtain ⟨k0, k1, k2, k3, k4, k5, k6, k7, k8, k9, k10, k11⟩ := TW.wcells ((TW.grownS (TW.alloc H.out _) hg7).1.trans (TW.wb (TW.alloc H.out _))))
  have hp : TWS w0 (w7.setCell ⟨WB, 8, none⟩ (.slice (some ⟨g2', 0, none⟩) 1 cap2)) B WB LB NB IB CB n (.pointer (some ⟨gb, 0, none⟩)) t [((y : Int), 0, 0)] vo (.slice (some ⟨g2', 0, none⟩) 1 cap2) :=
    TW.pushS (m := 1) (c := cap2) (sl' := [((y : Int), 0, 0)]) (TW.alloc H.out _) hown7 hg7 (hl7.imp_right (fun e => by simp; omega))
  have hfs : FromSt s n t [((y : Int), 0, 0)] (3 * (n - t.met.toNat) + 1) := .come y [] nx nx _ HTI.out hy H0.out (by simp) (by simp) (by simp) (by simp)
  have HP := Lib.hid hp; have HFS := Lib.hid hfs
  clear hp hfs k0 k1 k2 k3 k4 k5 k6 k7 k8 k9 k10 k11 hown7 hg7 hl7 hlt7 HOWN2 HBZ H c8 l1
  go_loopg [4] (3 * (n - t.met.toNat) + 1) (fun k _ wr => ∃ (tt : TS) (sl : List E) (vo vs : Value), FromSt s n tt sl k ∧ TWS w0 wr B WB LB NB IB CB n (.pointer (some ⟨gb, 0, none⟩)) tt sl vo vs ∧ (sl ≠ [((y : Int), 0, 0)] → tt.num y ≠ 0) ∧ (∀ z, t.num z ≠ 0 → tt.num z ≠ 0))
  case atStart => exact ⟨t, _, vo, _, HFS.out, HP.out, fun h => absurd rfl h, fun _ h => h⟩
  case round =>
    obtain ⟨tt, sl, vo1, vs1, hfs, htw, hy0, hmon⟩ := hrel
    have HMON := Lib.hid hmon
    clear HP HFS hmon
    cases hfs with
    | done nx1 _ hti =>
      obtain ⟨a, c, rfl⟩ := TW.empty htw
      obtain ⟨c0, c1, c2, c3, c4, c5, c6, c7, c8⟩ := TW.cells htw
      obtain ⟨l1, l2, l3, l4, l5, l6⟩ := TW.lts htw
      have HTI2 := Lib.hid hti; have HTW := Lib.hid htw; have HY0 := Lib.hid (hy0 (by simp))
      clear htw hti hy0 c0 c1 c2 c3 c4 c5 c6 c7 l2 l3 l4 l5 l6
      go_wp2
      go_end0
      exact ⟨tt, nx1, vo1, _, rfl, HTI2.out, HTW.out, HY0.out, HMON.out⟩
    | seen x K nx1 _ hti hnl hk =>
      obtain ⟨g, c, rfl, hgc, hcm, hgB, hgl⟩ := TW.place htw
      have HY1 := Lib.hid (hy0 (by intro e; have := congrArg List.getLast? e; simp at this))
      obtain ⟨p, hp⟩ : ∃ p, p = (stkOf K nx1).length := ⟨_, rfl⟩
      obtain ⟨q, hq⟩ : ∃ q, q = p + 1 := ⟨_, rfl⟩
      rw [← hp, ← hq] at htw
      have hpK : p = K.length := by rw [hp, stkOf_len]
      have hKn : K.length ≤ 1000 := by have h1 := hti.cnt; have h2 := hti.met_le; have h3 := hti.found0; simp at h1; omega
      obtain ⟨c0, c1, c2, c3, c4, c5, c6, c7, c8⟩ := TW.cells htw
      obtain ⟨l1, l2, l3, l4, l5, l6⟩ := TW.lts htw
      obtain ⟨v0, v1, v2, vf, _, _, q1, q2⟩ := TW.top htw
      clear q1
      rw [← hp] at v0 v1 v2
      have w1 : IntKind.i64.wrap ((q : Int) - 1) = (p : Int) := by rw [IntWalk.i64_in _ (by omega)]; omega
      have w2 : (0 : Int) ≤ (p : Int) := by omega
      have w3 : (p : Int) < (q : Int) := by omega
      have w4 : (0 : Int) < (q : Int) := by omega
      have HTI1 := Lib.hid hti; have HNL := Lib.hid hnl; have HTW := Lib.hid htw; have HK := Lib.hid hk; have HPP := Lib.hid hp; have HQQ := Lib.hid hq; have HPK := Lib.hid hpK
      clear hti hnl htw hk hp hq hpK hgc hy0 vf c0 c1 c2 c3 c4 c5 c6 c7 l2 l3 l4 l5 l6 v0 v2
      go_wp2_with fail
      go_region
      go_upto_region 9 with fail
      obtain ⟨t1, ht1⟩ : ∃ t1, t1 = tt := ⟨_, rfl⟩
      subst ht1
      obtain ⟨W, hW⟩ : ∃ W, W = wr.drew := ⟨_, rfl⟩
      have HTWd := Lib.hid (TW.drew HTW.out)
      rw [← hW] at HTWd ⊢
      clear hW HTW v1 c8 l1 w1 w2 w3 w4 hgl
      have HTW : RowKit.Hid (TWS w0 W B WB LB NB IB CB n (.pointer (some ⟨gb, 0, none⟩)) t1 (stkOf K nx1 ++ [((x : Int), 1, ((nx1 x : Nat) : Int))]) vo1 (.slice (some ⟨g, 0, none⟩) q c)) := Lib.hid HTWd.out
      have HMON1 : RowKit.Hid (∀ z, t.num z ≠ 0 → t1.num z ≠ 0) := Lib.hid HMON.out
      clear HTWd HMON
      -- one tail for both: deeper, and what becomes of it
      go_wp2_with fail
      have hd := deeper_any (g := g) (m := q) (c := c) HG.out HN.out HTI1.out HTW.out (by rw [stkOf_len]; exact hKn) (HNL.out x List.mem_cons_self)
      rw [← HPP.out] at hd
      refine hd.mono ?_
      clear hd
      rintro e w5 ⟨t2, nn, hti2, hoth, ⟨hm3, hm4⟩, hres⟩
      have hxK := hti2.notin
      have hst2 : stkOf K nx1 = stkOf K nn := stkOf_congr (fun z hz => (hoth z (fun e => hxK (e ▸ hz))).symm)
      have hnl2 : ∀ z ∈ K, nn z ≤ (taus s z).length := fun z hz => by rw [hoth z (fun e => hxK (e ▸ hz))]; exact HNL.out z (List.mem_cons_of_mem _ hz)
      have hy2 : t2.num y ≠ 0 := hm3 y HY1.out
      have hmon2 : ∀ z, t.num z ≠ 0 → t2.num z ≠ 0 := fun z hz => hm3 z (HMON1.out z hz)
      have hmle := hti2.met_le
      have hmb : n - t2.met.toNat ≤ n - t1.met.toNat := by omega
      have hk2 := HK.out
      rw [hst2] at hres
      have HTI2 := Lib.hid hti2; have HST2 := Lib.hid hst2; have HNL2 := Lib.hid hnl2; have HY2 := Lib.hid hy2; have HMON2 := Lib.hid hmon2
      clear hti2 hoth hm3 hm4 hst2 hnl2 hy2 hmon2 hmle
      rcases hres with ⟨rfl, y2, g2, m2, c2, hty, hny, htw2⟩ | ⟨rfl, hend, htw2⟩
      · have hfs := FromSt.push (k := 3 * (n - t2.met.toNat) + (K.length + 2)) HTI2.out HG.out.right HG.out.srt HN.out hty hny HNL2.out (Nat.le_refl _)
        have HFS2 := Lib.hid hfs; have HTW2 := Lib.hid htw2
        clear hfs htw2 hty hny
        go_wp2_with fail
        go_roundg (3 * (n - t2.met.toNat) + (K.length + 2))
        case measure => omega
        case rel => exact ⟨t2, _, _, _, HFS2.out, HTW2.out, fun _ => HY2.out, HMON2.out⟩
      · have hsp : (stkOf K nn).length = p := by rw [stkOf_len]; exact HPK.out.symm
        obtain ⟨v0, v1, v2, vf, gl5, _, q1, q2⟩ := TW.top htw2
        clear q1 q2
        rw [hsp] at v0 v1 v2
        have vf1 := vf (p * 3 + 1)
        have h3 : TW w0 (w5.setCell ⟨g, p * 3 + 1, none⟩ (.int .i64 2)) B WB LB NB IB CB n (.pointer (some ⟨gb, 0, none⟩)) t2.low t2.num t2.cls (fun (j : Nat) => decide (j ∈ t2.opn)) t2.met t2.found (t2.opn.reverse.map Int.ofNat) (stkOf K nn ++ [((x : Int), 2, ((nn x : Nat) : Int))]) vo1 (.slice (some ⟨g, 0, none⟩) q c) := by
          rw [← hsp]
          exact TW.setV htw2 _ _ (by simp) (flat_set1 _ _ _ _ _)
        have HEND := Lib.hid hend; have HSP := Lib.hid hsp; have H3 := Lib.hid h3
        clear htw2 hend hsp h3 vf v2
        go_upto_region 11 with fail
        obtain ⟨W3, hW3⟩ : ∃ W3, W3 = w5.setCell ⟨g, p * 3 + 1, none⟩ (.int .i64 2) := ⟨_, rfl⟩
        rw [← hW3] at H3 ⊢
        clear hW3 v0 v1 vf1 gl5
        obtain ⟨v0, v1, v2, vf, gl5, _, q1, q2⟩ := TW.top H3.out
        clear q1 q2 v1 v2 vf
        rw [HSP.out] at v0
        go_wp2_with fail
        have hxo : x ∈ t2.opn := HTI2.out.gin x List.mem_cons_self
        have hxn : x < n := HTI2.out.opn_lt x hxo
        have HKN : RowKit.Hid (∀ z ∈ K, z < n) := Lib.hid (fun z hz => HTI2.out.opn_lt z (HTI2.out.gin z (List.mem_cons_of_mem _ hz)))
        clear v0 gl5
        by_cases hlow : t2.low x = t2.num x
        · obtain ⟨Pp, Q, hopn⟩ := List.append_of_mem hxo
          have hrev := open_rev hopn
          have hnd := HTI2.out.nd
          have hP : ∀ z ∈ Pp.reverse.map Int.ofNat, 0 ≤ z ∧ z < (n : Int) ∧ z ≠ (x : Int) := by
            intro z hz
            obtain ⟨i, hi, rfl⟩ := List.mem_map.1 hz
            have hi2 : i ∈ Pp := by simpa using hi
            have h1 := HTI2.out.opn_lt i (by rw [hopn]; simp [hi2])
            refine ⟨by show (0 : Int) ≤ (i : Int); omega, by show (i : Int) < (n : Int); omega, fun e => ?_⟩
            have e2 : i = x := Int.ofNat.inj e
            subst e2
            rw [hopn] at hnd
            exact (List.nodup_append.1 hnd).2.2 i hi2 i (by simp) rfl
          have hl6 : (Q.reverse.map Int.ofNat ++ [(x : Int)] ++ Pp.reverse.map Int.ofNat).length ≤ 1000 := by
            rw [← hrev]
            have := HTI2.out.opn_len
            simp; omega
          have hf6 : 0 ≤ t2.found ∧ t2.found ≤ 1000 := by
            have h1 := HTI2.out.cnt; have h2 := HTI2.out.met_le; have h3 := HTI2.out.found0
            simp at h1; omega
          have hlv := leave_yes (Qr := Q.reverse.map Int.ofNat) (Pr := Pp.reverse.map Int.ofNat) (y := x) (by rw [← hrev]; exact H3.out) hxn hlow hP hl6 hf6
          refine hlv.mono ?_
          rintro e w6 ⟨vo3, rfl, htw6⟩
          rw [cls_rev, iso_rev hnd hopn] at htw6
          obtain ⟨t3, ht3⟩ : ∃ t3 : TS, t3 = { t2 with opn := Q, cls := fun i => if i ∈ Pp ++ [x] then t2.found else t2.cls i, found := t2.found + 1 } := ⟨_, rfl⟩
          have htw6 : TWS w0 w6 B WB LB NB IB CB n (.pointer (some ⟨gb, 0, none⟩)) t3 (stkOf K nn ++ [((x : Int), 2, ((nn x : Nat) : Int))]) vo3 (.slice (some ⟨g, 0, none⟩) q c) := by rw [ht3]; exact htw6
          obtain ⟨hfl, hle⟩ := FromSt.left2 (k := 3 * (n - t2.met.toNat) + K.length + 2) HTI2.out HG.out.right HG.out.srt HN.out HEND.out hlow hopn HNL2.out (Nat.le_refl _)
          rw [← ht3] at hfl
          have H3N : RowKit.Hid (t3.num = t2.num) := Lib.hid (by rw [ht3])
          have FINN : RowKit.Hid (K = [] → FromSt s n t3 (stkOf K nn) (3 * (n - t2.met.toNat) + K.length + 2)) := Lib.hid (fun _ => hfl)
          have FINC : RowKit.Hid (∀ u K', K = u :: K' → FromSt s n { t3 with low := upd t3.low u (min (t3.low u) (t3.low x)) } (stkOf K nn) (3 * (n - t2.met.toNat) + K.length + 2)) := Lib.hid (fun u K' e => by
            have h1 : t3.low = t2.low := by rw [ht3]
            have h2 := hle u (by rw [e]; simp)
            have h3 : upd t3.low u (min (t3.low u) (t3.low x)) = t3.low := by
              funext i
              unfold upd
              split
              · rename_i hi; subst hi; rw [h1]; omega
              · rfl
            rw [h3]
            exact hfl)
          clear hopn hrev hnd hP hl6 hf6 hlv ht3 hfl hle hlow hxo H3
          have hxn' : (x : Int) < (n : Int) := by omega
          obtain ⟨v0, v1, v2, vf, gl5, _, q1, q2⟩ := TW.top htw6
          clear q1 v1 v2 vf
          rw [HSP.out] at v0
          obtain ⟨c0, c1, c2, c3, c4, c5, c6, c7, c8⟩ := TW.cells htw6
          obtain ⟨l1, l2, l3, l4, l5, l6⟩ := TW.lts htw6
          have f8 := TW.fz htw6 8
          have w2 : (0 : Int) ≤ (p : Int) := by omega
          have hqp : q = p + 1 := HQQ.out
          have hp1000 : p ≤ 1000 := by have := HPK.out; omega
          have w1 : IntKind.i64.wrap ((q : Int) - 1) = (p : Int) := by rw [IntWalk.i64_in _ (by omega)]; omega
          have w3 : (p : Int) < (q : Int) := by omega
          have w4' : (p : Int) ≤ (c : Int) := by omega
          have w5' : ¬ c = 0 := by omega
          have HTW6 := Lib.hid htw6
          clear htw6 hqp c0 c1 c2 c3 c4 c5 c6 c7 l2 l3 l4 l5 l6
          go_wp2_with fail
          go_region
          have h7 : TWS w0 (w6.setCell ⟨WB, 8, none⟩ (.slice (some ⟨g, 0, none⟩) p c)).drew B WB LB NB IB CB n (.pointer (some ⟨gb, 0, none⟩)) t3 (stkOf K nn) vo3 (.slice (some ⟨g, 0, none⟩) p c) := by
            have h := TW.popS HTW6.out (by rw [HSP.out]; exact HQQ.out)
            rw [HSP.out] at h
            exact TW.drew h
          obtain ⟨W7, hW7⟩ : ∃ W7, W7 = (w6.setCell ⟨WB, 8, none⟩ (.slice (some ⟨g, 0, none⟩) p c)).drew := ⟨_, rfl⟩
          rw [← hW7] at h7 ⊢
          clear hW7 HTW6 c8 l1 f8 w1 w2 w3 w4' w5' v0 gl5
          obtain ⟨c0, c1, c2, c3, c4, c5, c6, c7, c8⟩ := TW.cells h7
          obtain ⟨l1, l2, l3, l4, l5, l6⟩ := TW.lts h7
          have hpk := HPK.out
          cases K with
          | nil =>
            have hp0 : p = 0 := hpk
            subst hp0
            have H7 := Lib.hid h7
            have HFIN := Lib.hid (FINN.out rfl)
            clear FINN FINC h7 hpk c0 c1 c2 c3 c4 c5 c6 c7 l2 l3 l4 l5 l6
            go_wp2_with fail
            go_roundg (3 * (n - t2.met.toNat) + 0 + 2)
            case measure => simp at hk2; omega
            case rel => exact ⟨t3, _, _, _, HFIN.out, H7.out, fun _ => by rw [H3N.out]; exact HY2.out, fun z hz => by rw [H3N.out]; exact HMON2.out z hz⟩
          | cons u K' =>
            have hun : u < n := HKN.out u List.mem_cons_self
            have hun' : (u : Int) < (n : Int) := by omega
            rw [stkOf_cons] at h7
            obtain ⟨v0, v1, v2, vf, gl5, _, q1, q2⟩ := TW.top h7
            have hsp' : (stkOf K' nn).length = K'.length := stkOf_len _ _
            rw [hsp'] at v0
            obtain ⟨p', hp'⟩ : ∃ p', p' = K'.length := ⟨_, rfl⟩
            rw [← hp'] at v0
            have hpp : p = p' + 1 := by rw [hpk, hp']; simp
            have w1 : IntKind.i64.wrap ((p : Int) - 1) = (p' : Int) := by rw [IntWalk.i64_in _ (by omega)]; omega
            have w2 : (0 : Int) ≤ (p' : Int) := by omega
            have w3 : (p' : Int) < (p : Int) := by omega
            have w6' : (0 : Int) < (p : Int) := by omega
            have g1 := (TW.low h7).cell hun; have g2 := (TW.low h7).cell hxn; have e1 := (TW.low h7).frozen u
            obtain ⟨lu, hlu⟩ : ∃ lu, lu = t3.low u := ⟨_, rfl⟩
            obtain ⟨lx, hlx⟩ : ∃ lx, lx = t3.low x := ⟨_, rfl⟩
            rw [← hlu] at g1; rw [← hlx] at g2
            have hmin : (if lx < lu then lx else lu) = min (t3.low u) (t3.low x) := by rw [← hlu, ← hlx]; split <;> omega
            have h8 := (TW.setLow h7 u (if lx < lu then lx else lu)).drew.drew
            rw [hmin, ← stkOf_cons] at h8
            have hfin := FINC.out u K' rfl
            have hminB : min lu lx = min (t3.low u) (t3.low x) := by rw [← hlu, ← hlx]
            have H8 := Lib.hid h8; have HFIN := Lib.hid hfin; have HMIN := Lib.hid hmin; have HMINB := Lib.hid hminB
            clear FINN FINC h7 h8 hfin hmin hminB hlu hlx hp' hpp hsp' hpk q1 q2 v1 v2 vf c0 c2 c3 c4 c5 c6 c7 l3 l4 l5 l6
            go_wp2_with fail
            go_region
            clear HNL HPP HPK HTI1 HK HTW hxK HST2 HNL2 HSP HKN htw6 v0 w1 w2 w3 w6' c8 gl5 HTI2 HEND
            go_wp2_with fail
            go_region
            first | rw [HMIN.out] | rw [HMINB.out]
            go_wp2_with fail
            go_roundg (3 * (n - t2.met.toNat) + (u :: K').length + 2)
            case measure => omega
            case rel => exact ⟨_, _, _, _, HFIN.out, H8.out, fun _ => by show t3.num y ≠ 0; rw [H3N.out]; exact HY2.out, fun z hz => by show t3.num z ≠ 0; rw [H3N.out]; exact HMON2.out z hz⟩
        · obtain ⟨t3, ht3⟩ : ∃ t3, t3 = t2 := ⟨_, rfl⟩
          obtain ⟨vo3, hvo3⟩ : ∃ vo3, vo3 = vo1 := ⟨_, rfl⟩
          refine (leave_no H3.out hxn hlow).mono ?_
          rintro e w6 ⟨rfl, htw6⟩
          have htw6 : TWS w0 w6 B WB LB NB IB CB n (.pointer (some ⟨gb, 0, none⟩)) t3 (stkOf K nn ++ [((x : Int), 2, ((nn x : Nat) : Int))]) vo3 (.slice (some ⟨g, 0, none⟩) q c) := by rw [ht3, hvo3]; exact htw6
          have H3N : RowKit.Hid (t3.num = t2.num) := Lib.hid (by rw [ht3])
          have FINN : RowKit.Hid (K = [] → FromSt s n t3 (stkOf K nn) (3 * (n - t2.met.toNat) + K.length + 2)) := Lib.hid (fun e => by
            have h1 := HTI2.out
            rw [e] at h1
            obtain ⟨g', K', e2, _⟩ := h1.leave1 (hall_of HG.out.right HG.out.srt HEND.out) hlow
            cases e2)
          have FINC : RowKit.Hid (∀ u K', K = u :: K' → FromSt s n { t3 with low := upd t3.low u (min (t3.low u) (t3.low x)) } (stkOf K nn) (3 * (n - t2.met.toNat) + K.length + 2)) := Lib.hid (fun u K' e => by
            have h1 := HTI2.out
            have h2 := HNL2.out
            rw [ht3]
            rw [e] at h1 h2 ⊢
            exact FromSt.left1 h1 HG.out.right HG.out.srt HEND.out hlow h2 (by simp))
          clear ht3 hvo3 hlow hxo H3
          have hxn' : (x : Int) < (n : Int) := by omega
          obtain ⟨v0, v1, v2, vf, gl5, _, q1, q2⟩ := TW.top htw6
          clear q1 v1 v2 vf
          rw [HSP.out] at v0
          obtain ⟨c0, c1, c2, c3, c4, c5, c6, c7, c8⟩ := TW.cells htw6
          obtain ⟨l1, l2, l3, l4, l5, l6⟩ := TW.lts htw6
          have f8 := TW.fz htw6 8
          have w2 : (0 : Int) ≤ (p : Int) := by omega
          have hqp : q = p + 1 := HQQ.out
          have hp1000 : p ≤ 1000 := by have := HPK.out; omega
          have w1 : IntKind.i64.wrap ((q : Int) - 1) = (p : Int) := by rw [IntWalk.i64_in _ (by omega)]; omega
          have w3 : (p : Int) < (q : Int) := by omega
          have w4' : (p : Int) ≤ (c : Int) := by omega
          have w5' : ¬ c = 0 := by omega
          have HTW6 := Lib.hid htw6
          clear htw6 hqp c0 c1 c2 c3 c4 c5 c6 c7 l2 l3 l4 l5 l6
          go_wp2_with fail
          go_region
          have h7 : TWS w0 (w6.setCell ⟨WB, 8, none⟩ (.slice (some ⟨g, 0, none⟩) p c)).drew B WB LB NB IB CB n (.pointer (some ⟨gb, 0, none⟩)) t3 (stkOf K nn) vo3 (.slice (some ⟨g, 0, none⟩) p c) := by
            have h := TW.popS HTW6.out (by rw [HSP.out]; exact HQQ.out)
            rw [HSP.out] at h
            exact TW.drew h
          obtain ⟨W7, hW7⟩ : ∃ W7, W7 = (w6.setCell ⟨WB, 8, none⟩ (.slice (some ⟨g, 0, none⟩) p c)).drew := ⟨_, rfl⟩
          rw [← hW7] at h7 ⊢
          clear hW7 HTW6 c8 l1 f8 w1 w2 w3 w4' w5' v0 gl5
          obtain ⟨c0, c1, c2, c3, c4, c5, c6, c7, c8⟩ := TW.cells h7
          obtain ⟨l1, l2, l3, l4, l5, l6⟩ := TW.lts h7
          have hpk := HPK.out
          cases K with
          | nil =>
            have hp0 : p = 0 := hpk
            subst hp0
            have H7 := Lib.hid h7
            have HFIN := Lib.hid (FINN.out rfl)
            clear FINN FINC h7 hpk c0 c1 c2 c3 c4 c5 c6 c7 l2 l3 l4 l5 l6
            go_wp2_with fail
            go_roundg (3 * (n - t2.met.toNat) + 0 + 2)
            case measure => simp at hk2; omega
            case rel => exact ⟨t3, _, _, _, HFIN.out, H7.out, fun _ => by rw [H3N.out]; exact HY2.out, fun z hz => by rw [H3N.out]; exact HMON2.out z hz⟩
          | cons u K' =>
            have hun : u < n := HKN.out u List.mem_cons_self
            have hun' : (u : Int) < (n : Int) := by omega
            rw [stkOf_cons] at h7
            obtain ⟨v0, v1, v2, vf, gl5, _, q1, q2⟩ := TW.top h7
            have hsp' : (stkOf K' nn).length = K'.length := stkOf_len _ _
            rw [hsp'] at v0
            obtain ⟨p', hp'⟩ : ∃ p', p' = K'.length := ⟨_, rfl⟩
            rw [← hp'] at v0
            have hpp : p = p' + 1 := by rw [hpk, hp']; simp
            have w1 : IntKind.i64.wrap ((p : Int) - 1) = (p' : Int) := by rw [IntWalk.i64_in _ (by omega)]; omega
            have w2 : (0 : Int) ≤ (p' : Int) := by omega
            have w3 : (p' : Int) < (p : Int) := by omega
            have w6' : (0 : Int) < (p : Int) := by omega
            have g1 := (TW.low h7).cell hun; have g2 := (TW.low h7).cell hxn; have e1 := (TW.low h7).frozen u
            obtain ⟨lu, hlu⟩ : ∃ lu, lu = t3.low u := ⟨_, rfl⟩
            obtain ⟨lx, hlx⟩ : ∃ lx, lx = t3.low x := ⟨_, rfl⟩
            rw [← hlu] at g1; rw [← hlx] at g2
            have hmin : (if lx < lu then lx else lu) = min (t3.low u) (t3.low x) := by rw [← hlu, ← hlx]; split <;> omega
            have h8 := (TW.setLow h7 u (if lx < lu then lx else lu)).drew.drew
            rw [hmin, ← stkOf_cons] at h8
            have hfin := FINC.out u K' rfl
            have hminB : min lu lx = min (t3.low u) (t3.low x) := by rw [← hlu, ← hlx]
            have H8 := Lib.hid h8; have HFIN := Lib.hid hfin; have HMIN := Lib.hid hmin; have HMINB := Lib.hid hminB
            clear FINN FINC h7 h8 hfin hmin hminB hlu hlx hp' hpp hsp' hpk q1 q2 v1 v2 vf c0 c2 c3 c4 c5 c6 c7 l3 l4 l5 l6
            go_wp2_with fail
            go_region
            clear HNL HPP HPK HTI1 HK HTW hxK HST2 HNL2 HSP HKN htw6 v0 w1 w2 w3 w6' c8 gl5 HTI2 HEND
            go_wp2_with fail
            go_region
            first | rw [HMIN.out] | rw [HMINB.out]
            go_wp2_with fail
            go_roundg (3 * (n - t2.met.toNat) + (u :: K').length + 2)
            case measure => omega
            case rel => exact ⟨_, _, _, _, HFIN.out, H8.out, fun _ => by show t3.num y ≠ 0; rw [H3N.out]; exact HY2.out, fun z hz => by show t3.num z ≠ 0; rw [H3N.out]; exact HMON2.out z hz⟩
    | come x K nx1 nx2 _ hti hxn hnx0 hgK hE hnl hk =>
      obtain ⟨g, c, rfl, hgc, hcm, hgB, hgl⟩ := TW.place htw
      obtain ⟨p, hp⟩ : ∃ p, p = (stkOf K nx2).length := ⟨_, rfl⟩
      obtain ⟨q, hq⟩ : ∃ q, q = p + 1 := ⟨_, rfl⟩
      rw [← hp, ← hq] at htw
      have hpK : p = K.length := by rw [hp, stkOf_len]
      have hKn : K.length ≤ 1000 := by have h1 := hti.cnt; have h2 := hti.met_le; have h3 := hti.found0; omega
      have hol : (tt.opn.reverse.map Int.ofNat).length ≤ 1000 := by have := hti.opn_len; simp; omega
      have hmet := hti.met_le
      have hm1 := hmet.1
      have hm2 : tt.met ≤ 1000 := by omega
      obtain ⟨c0, c1, c2, c3, c4, c5, c6, c7, c8⟩ := TW.cells htw
      obtain ⟨l1, l2, l3, l4, l5, l6⟩ := TW.lts htw
      obtain ⟨v0, v1, v2, vf, _, _, q1, q2⟩ := TW.top htw
      clear q1
      rw [← hp] at v0 v1 v2
      have w1 : IntKind.i64.wrap ((q : Int) - 1) = (p : Int) := by rw [IntWalk.i64_in _ (by omega)]; omega
      have w2 : (0 : Int) ≤ (p : Int) := by omega
      have w3 : (p : Int) < (q : Int) := by omega
      have w4 : (0 : Int) < (q : Int) := by omega
      have HTI0 := Lib.hid hti; have HTW0 := Lib.hid htw; have HK0 := Lib.hid hk; have HPP0 := Lib.hid hp; have HQQ := Lib.hid hq; have HPK := Lib.hid hpK
      have HX0 := Lib.hid hnx0; have HGK := Lib.hid hgK; have HE := Lib.hid hE; have HNL0 := Lib.hid hnl; have HY0 := Lib.hid hy0; have HMET := Lib.hid hmet
      clear hti hnl htw hk hp hq hpK hgc hy0 vf c0 c1 c2 c3 c4 c5 c6 c7 l2 l3 l4 l5 l6 v2 hnx0 hgK hE hmet
      go_wp2_with fail
      go_region
      go_wp2_with fail
      refine (enter_any (TW.drew HTW0.out) hxn hm1 hm2 hol).mono ?_
      rintro e wE ⟨vo2, rfl, htw2⟩
      obtain ⟨t1, ht1⟩ : ∃ t1, t1 = tt.enter x := ⟨_, rfl⟩
      obtain ⟨nx1, hnx1⟩ : ∃ nx1, nx1 = upd nx2 x 0 := ⟨_, rfl⟩
      have hxK : x ∉ K := fun hh => HTI0.out.pos x (HTI0.out.gin x hh) HX0.out
      have hti1 : TI s n t1 (x :: K) nx1 := by rw [ht1, hnx1]; exact HTI0.out.enter hxn HX0.out HGK.out HE.out
      have hs1 : stkOf K nx2 = stkOf K nx1 := stkOf_congr (fun z hz => by rw [hnx1, upd_other _ _ (fun e : z = x => hxK (e ▸ hz))])
      have hn1x : nx1 x = 0 := by rw [hnx1, upd_same]
      have htw3 : TWS w0 wE B WB LB NB IB CB n (.pointer (some ⟨gb, 0, none⟩)) t1 (stkOf K nx1 ++ [((x : Int), 0, ((nx1 x : Nat) : Int))]) vo2 (.slice (some ⟨g, 0, none⟩) q c) := by
        have e1 : (upd (fun (j : Nat) => decide (j ∈ tt.opn)) x true) = fun (j : Nat) => decide (j ∈ t1.opn) := by
          funext j
          rw [ht1]
          unfold upd
          by_cases e : j = x
          · subst e; simp [TS.enter]
          · simp [TS.enter, e]
        have e2 : tt.opn.reverse.map Int.ofNat ++ [(x : Int)] = t1.opn.reverse.map Int.ofNat := by rw [ht1]; simp [TS.enter]
        unfold TWS
        rw [← e1, ← e2, hn1x, ← hs1, ht1]
        exact htw2
      have hmon1 : ∀ z, tt.num z ≠ 0 → t1.num z ≠ 0 := fun z hz => by
        rw [ht1]
        show upd tt.num x (tt.met + 1) z ≠ 0
        by_cases e : z = x
        · subst e; exact absurd HX0.out hz
        · rw [upd_other _ _ e]; exact hz
      have hy1 : t1.num y ≠ 0 := by
        by_cases e : x = y
        · subst e; rw [ht1]; show upd tt.num x (tt.met + 1) x ≠ 0; rw [upd_same]; omega
        · apply hmon1
          apply HY0.out
          intro e2
          have h1 := congrArg List.getLast? e2
          simp at h1
          exact e (by omega)
      have hmet1 : t1.met = tt.met + 1 := by rw [ht1]; rfl
      have hk1 : 3 * (n - t1.met.toNat) + (K.length + 1) + 2 ≤ gk := by
        have h1 := HK0.out; have h2 := hti1.met_le
        omega
      have hnl1 : ∀ z ∈ x :: K, nx1 z ≤ (taus s z).length := by
        intro z hz
        rcases List.mem_cons.1 hz with rfl | hz
        · rw [hn1x]; omega
        · rw [hnx1, upd_other _ _ (fun e : z = x => hxK (e ▸ hz))]; exact HNL0.out z hz
      have hp1 : p = (stkOf K nx1).length := by rw [← hs1]; exact HPP0.out
      have HTI1 := Lib.hid hti1; have HTW3 := Lib.hid htw3; have HY1 := Lib.hid hy1; have HK := Lib.hid hk1; have HNL := Lib.hid hnl1; have HPP := Lib.hid hp1
      have HMON1 : RowKit.Hid (∀ z, t.num z ≠ 0 → t1.num z ≠ 0) := Lib.hid (fun z hz => hmon1 z (HMON.out z hz))
      obtain ⟨u0, u1, u2, uf, ul, _, y1, y2⟩ := TW.top htw3
      clear y1 y2
      rw [← hp1] at u0 u1 u2
      have uf1 := uf (p * 3 + 1)
      have h4 : TW w0 (wE.setCell ⟨g, p * 3 + 1, none⟩ (.int .i64 1)) B WB LB NB IB CB n (.pointer (some ⟨gb, 0, none⟩)) t1.low t1.num t1.cls (fun (j : Nat) => decide (j ∈ t1.opn)) t1.met t1.found (t1.opn.reverse.map Int.ofNat) (stkOf K nx1 ++ [((x : Int), 1, ((nx1 x : Nat) : Int))]) vo2 (.slice (some ⟨g, 0, none⟩) q c) := by
        rw [hp1]
        exact TW.setV htw3 _ _ (by simp) (flat_set1 _ _ _ _ _)
      have H4 := Lib.hid h4
      clear ht1 hnx1 hxK hti1 hs1 hn1x htw2 htw3 hmon1 hy1 hmet1 hk1 hnl1 hp1 h4 uf u2 v0 v1 c8 l1 w1 w2 w3 w4 hgl HTW0 HTI0 HK0 HPP0 HX0 HGK HE HNL0 HY0 HMET HMON hol hm1 hm2 hxn
      go_upto_region 9 with fail
      obtain ⟨W, hW⟩ : ∃ W, W = wE.setCell ⟨g, p * 3 + 1, none⟩ (.int .i64 1) := ⟨_, rfl⟩
      rw [← hW] at H4 ⊢
      clear hW u0 u1 uf1 ul HTW3
      obtain ⟨vo1, hvo⟩ : ∃ vo1, vo1 = vo2 := ⟨_, rfl⟩
      subst hvo
      have HTW : RowKit.Hid (TWS w0 W B WB LB NB IB CB n (.pointer (some ⟨gb, 0, none⟩)) t1 (stkOf K nx1 ++ [((x : Int), 1, ((nx1 x : Nat) : Int))]) vo1 (.slice (some ⟨g, 0, none⟩) q c)) := Lib.hid H4.out
      clear H4
      -- one tail for both: deeper, and what becomes of it
      go_wp2_with fail
      have hd := deeper_any (g := g) (m := q) (c := c) HG.out HN.out HTI1.out HTW.out (by rw [stkOf_len]; exact hKn) (HNL.out x List.mem_cons_self)
      rw [← HPP.out] at hd
      refine hd.mono ?_
      clear hd
      rintro e w5 ⟨t2, nn, hti2, hoth, ⟨hm3, hm4⟩, hres⟩
      have hxK := hti2.notin
      have hst2 : stkOf K nx1 = stkOf K nn := stkOf_congr (fun z hz => (hoth z (fun e => hxK (e ▸ hz))).symm)
      have hnl2 : ∀ z ∈ K, nn z ≤ (taus s z).length := fun z hz => by rw [hoth z (fun e => hxK (e ▸ hz))]; exact HNL.out z (List.mem_cons_of_mem _ hz)
      have hy2 : t2.num y ≠ 0 := hm3 y HY1.out
      have hmon2 : ∀ z, t.num z ≠ 0 → t2.num z ≠ 0 := fun z hz => hm3 z (HMON1.out z hz)
      have hmle := hti2.met_le
      have hmb : n - t2.met.toNat ≤ n - t1.met.toNat := by omega
      have hk2 := HK.out
      rw [hst2] at hres
      have HTI2 := Lib.hid hti2; have HST2 := Lib.hid hst2; have HNL2 := Lib.hid hnl2; have HY2 := Lib.hid hy2; have HMON2 := Lib.hid hmon2
      clear hti2 hoth hm3 hm4 hst2 hnl2 hy2 hmon2 hmle
      rcases hres with ⟨rfl, y2, g2, m2, c2, hty, hny, htw2⟩ | ⟨rfl, hend, htw2⟩
      · have hfs := FromSt.push (k := 3 * (n - t2.met.toNat) + (K.length + 2)) HTI2.out HG.out.right HG.out.srt HN.out hty hny HNL2.out (Nat.le_refl _)
        have HFS2 := Lib.hid hfs; have HTW2 := Lib.hid htw2
        clear hfs htw2 hty hny
        go_wp2_with fail
        go_roundg (3 * (n - t2.met.toNat) + (K.length + 2))
        case measure => omega
        case rel => exact ⟨t2, _, _, _, HFS2.out, HTW2.out, fun _ => HY2.out, HMON2.out⟩
      · have hsp : (stkOf K nn).length = p := by rw [stkOf_len]; exact HPK.out.symm
        obtain ⟨v0, v1, v2, vf, gl5, _, q1, q2⟩ := TW.top htw2
        clear q1 q2
        rw [hsp] at v0 v1 v2
        have vf1 := vf (p * 3 + 1)
        have h3 : TW w0 (w5.setCell ⟨g, p * 3 + 1, none⟩ (.int .i64 2)) B WB LB NB IB CB n (.pointer (some ⟨gb, 0, none⟩)) t2.low t2.num t2.cls (fun (j : Nat) => decide (j ∈ t2.opn)) t2.met t2.found (t2.opn.reverse.map Int.ofNat) (stkOf K nn ++ [((x : Int), 2, ((nn x : Nat) : Int))]) vo1 (.slice (some ⟨g, 0, none⟩) q c) := by
          rw [← hsp]
          exact TW.setV htw2 _ _ (by simp) (flat_set1 _ _ _ _ _)
        have HEND := Lib.hid hend; have HSP := Lib.hid hsp; have H3 := Lib.hid h3
        clear htw2 hend hsp h3 vf v2
        go_upto_region 11 with fail
        obtain ⟨W3, hW3⟩ : ∃ W3, W3 = w5.setCell ⟨g, p * 3 + 1, none⟩ (.int .i64 2) := ⟨_, rfl⟩
        rw [← hW3] at H3 ⊢
        clear hW3 v0 v1 vf1 gl5
        obtain ⟨v0, v1, v2, vf, gl5, _, q1, q2⟩ := TW.top H3.out
        clear q1 q2 v1 v2 vf
        rw [HSP.out] at v0
        go_wp2_with fail
        have hxo : x ∈ t2.opn := HTI2.out.gin x List.mem_cons_self
        have hxn : x < n := HTI2.out.opn_lt x hxo
        have HKN : RowKit.Hid (∀ z ∈ K, z < n) := Lib.hid (fun z hz => HTI2.out.opn_lt z (HTI2.out.gin z (List.mem_cons_of_mem _ hz)))
        clear v0 gl5
        by_cases hlow : t2.low x = t2.num x
        · obtain ⟨Pp, Q, hopn⟩ := List.append_of_mem hxo
          have hrev := open_rev hopn
          have hnd := HTI2.out.nd
          have hP : ∀ z ∈ Pp.reverse.map Int.ofNat, 0 ≤ z ∧ z < (n : Int) ∧ z ≠ (x : Int) := by
            intro z hz
            obtain ⟨i, hi, rfl⟩ := List.mem_map.1 hz
            have hi2 : i ∈ Pp := by simpa using hi
            have h1 := HTI2.out.opn_lt i (by rw [hopn]; simp [hi2])
            refine ⟨by show (0 : Int) ≤ (i : Int); omega, by show (i : Int) < (n : Int); omega, fun e => ?_⟩
            have e2 : i = x := Int.ofNat.inj e
            subst e2
            rw [hopn] at hnd
            exact (List.nodup_append.1 hnd).2.2 i hi2 i (by simp) rfl
          have hl6 : (Q.reverse.map Int.ofNat ++ [(x : Int)] ++ Pp.reverse.map Int.ofNat).length ≤ 1000 := by
            rw [← hrev]
            have := HTI2.out.opn_len
            simp; omega
          have hf6 : 0 ≤ t2.found ∧ t2.found ≤ 1000 := by
            have h1 := HTI2.out.cnt; have h2 := HTI2.out.met_le; have h3 := HTI2.out.found0
            simp at h1; omega
          have hlv := leave_yes (Qr := Q.reverse.map Int.ofNat) (Pr := Pp.reverse.map Int.ofNat) (y := x) (by rw [← hrev]; exact H3.out) hxn hlow hP hl6 hf6
          refine hlv.mono ?_
          rintro e w6 ⟨vo3, rfl, htw6⟩
          rw [cls_rev, iso_rev hnd hopn] at htw6
          obtain ⟨t3, ht3⟩ : ∃ t3 : TS, t3 = { t2 with opn := Q, cls := fun i => if i ∈ Pp ++ [x] then t2.found else t2.cls i, found := t2.found + 1 } := ⟨_, rfl⟩
          have htw6 : TWS w0 w6 B WB LB NB IB CB n (.pointer (some ⟨gb, 0, none⟩)) t3 (stkOf K nn ++ [((x : Int), 2, ((nn x : Nat) : Int))]) vo3 (.slice (some ⟨g, 0, none⟩) q c) := by rw [ht3]; exact htw6
          obtain ⟨hfl, hle⟩ := FromSt.left2 (k := 3 * (n - t2.met.toNat) + K.length + 2) HTI2.out HG.out.right HG.out.srt HN.out HEND.out hlow hopn HNL2.out (Nat.le_refl _)
          rw [← ht3] at hfl
          have H3N : RowKit.Hid (t3.num = t2.num) := Lib.hid (by rw [ht3])
          have FINN : RowKit.Hid (K = [] → FromSt s n t3 (stkOf K nn) (3 * (n - t2.met.toNat) + K.length + 2)) := Lib.hid (fun _ => hfl)
          have FINC : RowKit.Hid (∀ u K', K = u :: K' → FromSt s n { t3 with low := upd t3.low u (min (t3.low u) (t3.low x)) } (stkOf K nn) (3 * (n - t2.met.toNat) + K.length + 2)) := Lib.hid (fun u K' e => by
            have h1 : t3.low = t2.low := by rw [ht3]
            have h2 := hle u (by rw [e]; simp)
            have h3 : upd t3.low u (min (t3.low u) (t3.low x)) = t3.low := by
              funext i
              unfold upd
              split
              · rename_i hi; subst hi; rw [h1]; omega
              · rfl
            rw [h3]
            exact hfl)
          clear hopn hrev hnd hP hl6 hf6 hlv ht3 hfl hle hlow hxo H3
          have hxn' : (x : Int) < (n : Int) := by omega
          obtain ⟨v0, v1, v2, vf, gl5, _, q1, q2⟩ := TW.top htw6
          clear q1 v1 v2 vf
          rw [HSP.out] at v0
          obtain ⟨c0, c1, c2, c3, c4, c5, c6, c7, c8⟩ := TW.cells htw6
          obtain ⟨l1, l2, l3, l4, l5, l6⟩ := TW.lts htw6
          have f8 := TW.fz htw6 8
          have w2 : (0 : Int) ≤ (p : Int) := by omega
          have hqp : q = p + 1 := HQQ.out
          have hp1000 : p ≤ 1000 := by have := HPK.out; omega
          have w1 : IntKind.i64.wrap ((q : Int) - 1) = (p : Int) := by rw [IntWalk.i64_in _ (by omega)]; omega
          have w3 : (p : Int) < (q : Int) := by omega
          have w4' : (p : Int) ≤ (c : Int) := by omega
          have w5' : ¬ c = 0 := by omega
          have HTW6 := Lib.hid htw6
          clear htw6 hqp c0 c1 c2 c3 c4 c5 c6 c7 l2 l3 l4 l5 l6
          go_wp2_with fail
          go_region
          have h7 : TWS w0 (w6.setCell ⟨WB, 8, none⟩ (.slice (some ⟨g, 0, none⟩) p c)).drew B WB LB NB IB CB n (.pointer (some ⟨gb, 0, none⟩)) t3 (stkOf K nn) vo3 (.slice (some ⟨g, 0, none⟩) p c) := by
            have h := TW.popS HTW6.out (by rw [HSP.out]; exact HQQ.out)
            rw [HSP.out] at h
            exact TW.drew h
          obtain ⟨W7, hW7⟩ : ∃ W7, W7 = (w6.setCell ⟨WB, 8, none⟩ (.slice (some ⟨g, 0, none⟩) p c)).drew := ⟨_, rfl⟩
          rw [← hW7] at h7 ⊢
          clear hW7 HTW6 c8 l1 f8 w1 w2 w3 w4' w5' v0 gl5
          obtain ⟨c0, c1, c2, c3, c4, c5, c6, c7, c8⟩ := TW.cells h7
          obtain ⟨l1, l2, l3, l4, l5, l6⟩ := TW.lts h7
          have hpk := HPK.out
          cases K with
          | nil =>
            have hp0 : p = 0 := hpk
            subst hp0
            have H7 := Lib.hid h7
            have HFIN := Lib.hid (FINN.out rfl)
            clear FINN FINC h7 hpk c0 c1 c2 c3 c4 c5 c6 c7 l2 l3 l4 l5 l6
            go_wp2_with fail
            go_roundg (3 * (n - t2.met.toNat) + 0 + 2)
            case measure => simp at hk2; omega
            case rel => exact ⟨t3, _, _, _, HFIN.out, H7.out, fun _ => by rw [H3N.out]; exact HY2.out, fun z hz => by rw [H3N.out]; exact HMON2.out z hz⟩
          | cons u K' =>
            have hun : u < n := HKN.out u List.mem_cons_self
            have hun' : (u : Int) < (n : Int) := by omega
            rw [stkOf_cons] at h7
            obtain ⟨v0, v1, v2, vf, gl5, _, q1, q2⟩ := TW.top h7
            have hsp' : (stkOf K' nn).length = K'.length := stkOf_len _ _
            rw [hsp'] at v0
            obtain ⟨p', hp'⟩ : ∃ p', p' = K'.length := ⟨_, rfl⟩
            rw [← hp'] at v0
            have hpp : p = p' + 1 := by rw [hpk, hp']; simp
            have w1 : IntKind.i64.wrap ((p : Int) - 1) = (p' : Int) := by rw [IntWalk.i64_in _ (by omega)]; omega
            have w2 : (0 : Int) ≤ (p' : Int) := by omega
            have w3 : (p' : Int) < (p : Int) := by omega
            have w6' : (0 : Int) < (p : Int) := by omega
            have g1 := (TW.low h7).cell hun; have g2 := (TW.low h7).cell hxn; have e1 := (TW.low h7).frozen u
            obtain ⟨lu, hlu⟩ : ∃ lu, lu = t3.low u := ⟨_, rfl⟩
            obtain ⟨lx, hlx⟩ : ∃ lx, lx = t3.low x := ⟨_, rfl⟩
            rw [← hlu] at g1; rw [← hlx] at g2
            have hmin : (if lx < lu then lx else lu) = min (t3.low u) (t3.low x) := by rw [← hlu, ← hlx]; split <;> omega
            have h8 := (TW.setLow h7 u (if lx < lu then lx else lu)).drew.drew
            rw [hmin, ← stkOf_cons] at h8
            have hfin := FINC.out u K' rfl
            have hminB : min lu lx = min (t3.low u) (t3.low x) := by rw [← hlu, ← hlx]
            have H8 := Lib.hid h8; have HFIN := Lib.hid hfin; have HMIN := Lib.hid hmin; have HMINB := Lib.hid hminB
            clear FINN FINC h7 h8 hfin hmin hminB hlu hlx hp' hpp hsp' hpk q1 q2 v1 v2 vf c0 c2 c3 c4 c5 c6 c7 l3 l4 l5 l6
            go_wp2_with fail
            go_region
            clear HNL HPP HPK HTI1 HK HTW hxK HST2 HNL2 HSP HKN htw6 v0 w1 w2 w3 w6' c8 gl5 HTI2 HEND
            go_wp2_with fail
            go_region
            first | rw [HMIN.out] | rw [HMINB.out]
            go_wp2_with fail
            go_roundg (3 * (n - t2.met.toNat) + (u :: K').length + 2)
            case measure => omega
            case rel => exact ⟨_, _, _, _, HFIN.out, H8.out, fun _ => by show t3.num y ≠ 0; rw [H3N.out]; exact HY2.out, fun z hz => by show t3.num z ≠ 0; rw [H3N.out]; exact HMON2.out z hz⟩
        · obtain ⟨t3, ht3⟩ : ∃ t3, t3 = t2 := ⟨_, rfl⟩
          obtain ⟨vo3, hvo3⟩ : ∃ vo3, vo3 = vo1 := ⟨_, rfl⟩
          refine (leave_no H3.out hxn hlow).mono ?_
          rintro e w6 ⟨rfl, htw6⟩
          have htw6 : TWS w0 w6 B WB LB NB IB CB n (.pointer (some ⟨gb, 0, none⟩)) t3 (stkOf K nn ++ [((x : Int), 2, ((nn x : Nat) : Int))]) vo3 (.slice (some ⟨g, 0, none⟩) q c) := by rw [ht3, hvo3]; exact htw6
          have H3N : RowKit.Hid (t3.num = t2.num) := Lib.hid (by rw [ht3])
          have FINN : RowKit.Hid (K = [] → FromSt s n t3 (stkOf K nn) (3 * (n - t2.met.toNat) + K.length + 2)) := Lib.hid (fun e => by
            have h1 := HTI2.out
            rw [e] at h1
            obtain ⟨g', K', e2, _⟩ := h1.leave1 (hall_of HG.out.right HG.out.srt HEND.out) hlow
            cases e2)
          have FINC : RowKit.Hid (∀ u K', K = u :: K' → FromSt s n { t3 with low := upd t3.low u (min (t3.low u) (t3.low x)) } (stkOf K nn) (3 * (n - t2.met.toNat) + K.length + 2)) := Lib.hid (fun u K' e => by
            have h1 := HTI2.out
            have h2 := HNL2.out
            rw [ht3]
            rw [e] at h1 h2 ⊢
            exact FromSt.left1 h1 HG.out.right HG.out.srt HEND.out hlow h2 (by simp))
          clear ht3 hvo3 hlow hxo H3
          have hxn' : (x : Int) < (n : Int) := by omega
          obtain ⟨v0, v1, v2, vf, gl5, _, q1, q2⟩ := TW.top htw6
          clear q1 v1 v2 vf
          rw [HSP.out] at v0
          obtain ⟨c0, c1, c2, c3, c4, c5, c6, c7, c8⟩ := TW.cells htw6
          obtain ⟨l1, l2, l3, l4, l5, l6⟩ := TW.lts htw6
          have f8 := TW.fz htw6 8
          have w2 : (0 : Int) ≤ (p : Int) := by omega
          have hqp : q = p + 1 := HQQ.out
          have hp1000 : p ≤ 1000 := by have := HPK.out; omega
          have w1 : IntKind.i64.wrap ((q : Int) - 1) = (p : Int) := by rw [IntWalk.i64_in _ (by omega)]; omega
          have w3 : (p : Int) < (q : Int) := by omega
          have w4' : (p : Int) ≤ (c : Int) := by omega
          have w5' : ¬ c = 0 := by omega
          have HTW6 := Lib.hid htw6
          clear htw6 hqp c0 c1 c2 c3 c4 c5 c6 c7 l2 l3 l4 l5 l6
          go_wp2_with fail
          go_region
          have h7 : TWS w0 (w6.setCell ⟨WB, 8, none⟩ (.slice (some ⟨g, 0, none⟩) p c)).drew B WB LB NB IB CB n (.pointer (some ⟨gb, 0, none⟩)) t3 (stkOf K nn) vo3 (.slice (some ⟨g, 0, none⟩) p c) := by
            have h := TW.popS HTW6.out (by rw [HSP.out]; exact HQQ.out)
            rw [HSP.out] at h
            exact TW.drew h
          obtain ⟨W7, hW7⟩ : ∃ W7, W7 = (w6.setCell ⟨WB, 8, none⟩ (.slice (some ⟨g, 0, none⟩) p c)).drew := ⟨_, rfl⟩
          rw [← hW7] at h7 ⊢
          clear hW7 HTW6 c8 l1 f8 w1 w2 w3 w4' w5' v0 gl5
          obtain ⟨c0, c1, c2, c3, c4, c5, c6, c7, c8⟩ := TW.cells h7
          obtain ⟨l1, l2, l3, l4, l5, l6⟩ := TW.lts h7
          have hpk := HPK.out
          cases K with
          | nil =>
            have hp0 : p = 0 := hpk
            subst hp0
            have H7 := Lib.hid h7
            have HFIN := Lib.hid (FINN.out rfl)
            clear FINN FINC h7 hpk c0 c1 c2 c3 c4 c5 c6 c7 l2 l3 l4 l5 l6
            go_wp2_with fail
            go_roundg (3 * (n - t2.met.toNat) + 0 + 2)
            case measure => simp at hk2; omega
            case rel => exact ⟨t3, _, _, _, HFIN.out, H7.out, fun _ => by rw [H3N.out]; exact HY2.out, fun z hz => by rw [H3N.out]; exact HMON2.out z hz⟩
          | cons u K' =>
            have hun : u < n := HKN.out u List.mem_cons_self
            have hun' : (u : Int) < (n : Int) := by omega
            rw [stkOf_cons] at h7
            obtain ⟨v0, v1, v2, vf, gl5, _, q1, q2⟩ := TW.top h7
            have hsp' : (stkOf K' nn).length = K'.length := stkOf_len _ _
            rw [hsp'] at v0
            obtain ⟨p', hp'⟩ : ∃ p', p' = K'.length := ⟨_, rfl⟩
            rw [← hp'] at v0
            have hpp : p = p' + 1 := by rw [hpk, hp']; simp
            have w1 : IntKind.i64.wrap ((p : Int) - 1) = (p' : Int) := by rw [IntWalk.i64_in _ (by omega)]; omega
            have w2 : (0 : Int) ≤ (p' : Int) := by omega
            have w3 : (p' : Int) < (p : Int) := by omega
            have w6' : (0 : Int) < (p : Int) := by omega
            have g1 := (TW.low h7).cell hun; have g2 := (TW.low h7).cell hxn; have e1 := (TW.low h7).frozen u
            obtain ⟨lu, hlu⟩ : ∃ lu, lu = t3.low u := ⟨_, rfl⟩
            obtain ⟨lx, hlx⟩ : ∃ lx, lx = t3.low x := ⟨_, rfl⟩
            rw [← hlu] at g1; rw [← hlx] at g2
            have hmin : (if lx < lu then lx else lu) = min (t3.low u) (t3.low x) := by rw [← hlu, ← hlx]; split <;> omega
            have h8 := (TW.setLow h7 u (if lx < lu then lx else lu)).drew.drew
            rw [hmin, ← stkOf_cons] at h8
            have hfin := FINC.out u K' rfl
            have hminB : min lu lx = min (t3.low u) (t3.low x) := by rw [← hlu, ← hlx]
            have H8 := Lib.hid h8; have HFIN := Lib.hid hfin; have HMIN := Lib.hid hmin; have HMINB := Lib.hid hminB
            clear FINN FINC h7 h8 hfin hmin hminB hlu hlx hp' hpp hsp' hpk q1 q2 v1 v2 vf c0 c2 c3 c4 c5 c6 c7 l3 l4 l5 l6
            go_wp2_with fail
            go_region
            clear HNL HPP HPK HTI1 HK HTW hxK HST2 HNL2 HSP HKN htw6 v0 w1 w2 w3 w6' c8 gl5 HTI2 HEND
            go_wp2_with fail
            go_region
            first | rw [HMIN.out] | rw [HMINB.out]
            go_wp2_with fail
            go_roundg (3 * (n - t2.met.toNat) + (u :: K').length + 2)
            case measure => omega
            case rel => exact ⟨_, _, _, _, HFIN.out, H8.out, fun _ => by show t3.num y ≠ 0; rw [H3N.out]; exact HY2.out, fun z hz => by show t3.num z ≠ 0; rw [H3N.out]; exact HMON2.out z hz⟩
end Go.Proofs.YtkmljelgogcobaaGreatDoor

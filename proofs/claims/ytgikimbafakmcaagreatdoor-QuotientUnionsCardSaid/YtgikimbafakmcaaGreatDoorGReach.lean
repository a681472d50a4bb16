/-
  Lemmas.
-/
import Derived.Test.YtgikimbafakmcaaGreatDoorGNew
import Derived.Test.YtgikimbafakmcaaGreatDoorGPl1
import Derived.Test.YtgikimbafakmcaaGreatDoorGOrder
import Derived.Deep.DeepMust
import Derived.Test.YtgikimbafakmcaaGreatDoorGOMap
import Derived.Test.YtgikimbafakmcaaGreatDoorGLaidQun
import Derived.Test.YtgikimbafakmcaaGreatDoorGRws
import Derived.Test.YtgikimbafakmcaaGreatDoorGStrC
import Derived.Deep.RegionHeldLaw
import Derived.Deep.RegionHeld3
import Derived.BigRegion
import Derived.Test.YtgikimbafakmcaaGreatDoorGPlS
import Derived.Test.YtgikimbafakmcaaGreatDoorGPl6
import Derived.Lib.ItoaLen
namespace Go.Proofs.YtgikimbafakmcaaGreatDoor
open Go.RowKit Pl Go.Sort
open Lib (hid)
structure RW (w wr : World) (SB n : Nat) (L : List Int) (v : Value) : Prop where
  below : Below w.heap.size w wr
  seen : wr.rowIs SB 4 n (fun j => .bool (decide ((j : Int) ∈ L)))
  own : wr.ownsRow (SB + 1) 3 1 v L.length (L.flatMap encI)
  sb : w.heap.size <= SB
theorem RW.alloc {w wr : World} {SB n : Nat} {L : List Int} {v : Value} (h : RW w wr SB n L v) (o : Obj) : RW w (wr.alloc o) SB n L v :=
  ⟨h.below.alloc (by have := h.seen.lt; have := h.sb; omega) o, h.seen.alloc o, h.own.alloc o, h.sb⟩
theorem RW.call {w wr w' : World} {SB n : Nat} {L : List Int} {v : Value} (h : RW w wr SB n L v) (hB : Below wr.heap.size wr w') : RW w w' SB n L v :=
  ⟨h.below.trans (hB.mono (by have := h.seen.lt; have := h.sb; omega)), h.seen.of_block (hB.block _ h.seen.lt), own_below h.own hB, h.sb⟩
theorem RW.push {w wr w1 : World} {SB n : Nat} {L : List Int} {v v' : Value} {t : Nat} (h : RW w wr SB n L v) {o1 o2 : Obj} (hown : w1.ownsRow (SB + 1) 3 1 v' (L ++ [(t : Int)]).length ((L ++ [(t : Int)]).flatMap encI))
    (hg : (((wr.setCell ⟨SB, t, none⟩ (.bool true)).alloc o1).alloc o2).grownBy w1 v.ownBlock) : RW w w1 SB n (L ++ [(t : Int)]) v' := by
 have hlt := h.seen.lt
 have hsb := h.sb
 have hse := (((h.seen.set t (.bool true)).alloc o1).alloc o2)
 have hb : w1.heap[SB]? = _ := hg.block SB (by simp [World.setCell]; omega) (fun e => by have := (h.own.lt SB e.symm).1; omega)
 refine ⟨?_, (hse.of_block hb).congr (fun i _ => ?_), hown, hsb⟩
 · exact (((h.below.setCell hsb _).alloc (by simp [World.setCell]; omega) o1).alloc (by simp [World.setCell]; omega) o2).grown hg (by simp [World.setCell]; omega) (fun k hk => by have := (h.own.lt k hk).1; omega)
 · by_cases hi : i = t
   · subst hi; simp
   · rw [if_neg hi]; congr 1; simp only [List.mem_append, List.mem_singleton]
     have : ¬ ((i : Int) = (t : Int)) := by omega
     simp [this]
set_option maxRecDepth 100000 in
set_option maxHeartbeats 4000000 in
theorem reach_ok {w : World} {gb : Nat} {s : Lts} (h : GraphAt w gb s) (h0 : s.st ≠ 0) :
    Calls Tryz.prog 118 #[.pointer (some ⟨gb, 0, none⟩)] w fun e w' => ∃ v, e = .returned v /\ w'.ownsRow w.heap.size 3 1 v (reachL s).length ((reachL s).flatMap encI) /\ Below w.heap.size w w' := by
 have hst := h.right.st0
 obtain ⟨n, hn⟩ : ∃ n : Nat, s.st = (n : Int) := ⟨s.st.toNat, by omega⟩
 obtain ⟨z, hz⟩ : ∃ z : Nat, s.s0 = (z : Int) := ⟨s.s0.toNat, by omega⟩
 have hzn : z < n := by omega
 have hn1 : n <= 1000 := by omega
 have hgs := fun (w1 : World) (hB : Below w.heap.size w w1) => getStates_any (h.below hB)
 have hgt := fun (w1 : World) (hB : Below w.heap.size w w1) => getStart_any (h.below hB)
 rw [hn] at hgs; rw [hz] at hgt
 have HGS := hid hgs; have HGT := hid hgt; have HH := hid h; have HN := hid hn; have HZ := hid hz; have H0 := hid h0; have HST := hid hst
 have hmk := run_make_row' (P := Tryz.prog) 111 4 (.bool false) 1 Tryz.underlying111 (by kernel_rfl) rfl .i64 .i64 n (by omega) (by omega)
 have hnz : ((n : Int) == 0) = false := by simp; omega
 clear h hgs hgt hn hz h0 hst
 go_enter Tryz.func118, Tryz.ntmps118
 go_wp2_with fail
 refine (HGS.out w (Below.refl _ _)).mono ?_
 rintro e w1 ⟨rfl, hB1⟩
 have HB1 := hid hB1; clear hB1
 go_wp2_with fail
 refine (HGS.out w1 HB1.out).mono ?_
 rintro e w2 ⟨rfl, hB2⟩
 have hB2' := HB1.out.trans (hB2.mono HB1.out.size)
 have hs2 := hB2'.size
 have HB2 := hid hB2'; clear hB2 hB2'
 go_wp2_with fail
 have hB3 := HB2.out.alloc hs2 (Obj.cells (madeCells #[.bool false] n) 4)
 have hrow := World.rowIs_made w2 (.bool false) n 4
 refine (HGT.out _ hB3).mono ?_
 rintro e w4 ⟨rfl, hB4⟩
 have hs4 : w2.heap.size + 1 <= w4.heap.size := by have := hB4.size; simpa using this
 have hB4' := hB3.trans (hB4.mono (by simp; omega))
 have hrow4 : w4.rowIs w2.heap.size 4 n (fun _ => .bool false) := hrow.of_block (hB4.block _ (by simp))
 have c1 : w4.cell? ⟨w2.heap.size, z, none⟩ = some (.bool false) := hrow4.cell hzn
 have f1 : w4.frozen? ⟨w2.heap.size, z, none⟩ = false := hrow4.frozen z
 have hzn' : (z : Int) < (n : Int) := by omega
 have hlt4 : w2.heap.size < w4.heap.size := by omega
 have HB4 := hid hB4'; have HR4 := hid hrow4
 clear hmk hB3 hrow hB4 hB4' hrow4
 go_wp2_with fail
 have hB5 := HB4.out.setCell (p := ⟨w2.heap.size, z, none⟩) hs2 (.bool true)
 have hrow5 := HR4.out.set z (.bool true)
 refine (HGT.out _ hB5).mono ?_
 rintro e w6 ⟨rfl, hB6⟩
 have hs6 : w4.heap.size <= w6.heap.size := by have := hB6.size; simpa [World.setCell] using this
 have hB6' := hB5.trans (hB6.mono (by simp [World.setCell]; omega))
 have hrow6 := hrow5.of_block (hB6.block _ (by simpa [World.setCell] using hlt4))
 have hRW : RW w (w6.alloc (.cells #[.int .i64 z] 3)) w2.heap.size n [(z : Int)] (.slice (some ⟨w6.heap.size, 0, none⟩) 1 1) := by (
 refine ⟨hB6'.alloc (by omega) _, (hrow6.alloc _).congr (fun i _ => ?_), ?_, hs2⟩
 · by_cases hi : i = z
   · subst hi; simp
   · rw [if_neg hi]
     have : ¬ ((i : Int) = (z : Int)) := by omega
     simp [this]
 · exact World.ownsRow_lit w6 #[.int .i64 z] 1 (by omega) (by unfold maxLen; omega) rfl)
 have HRW := hid hRW
 clear c1 f1 hB5 hrow5 hB6 hB6' hrow6 hRW
 go_wp2_with fail
 have hbfs : Bfs s [(z : Int)] 0 := by have := Bfs.start HH.out.right H0.out; rw [HZ.out] at this; exact this
 have HBF := hid hbfs; clear hbfs
 obtain ⟨SB, hSB⟩ : ∃ SB, SB = w2.heap.size := ⟨_, rfl⟩
 rw [<- hSB] at HRW ⊢
 clear HB4 HR4 hSB hs4 hs6 hs2 hlt4
 go_loopw [4, 5] (fun v4 i5 wr => ∃ (L : List Int) (i : Nat) (a : Option Addr) (c : Nat), v4 = .slice a L.length c /\ i5 = .int .i64 i /\ i <= L.length /\ Bfs s L i /\ RW w wr SB n L (.slice a L.length c))
   (fun _ i5 _ => n - (intOf i5).toNat)
 case atStart => exact ⟨[(z : Int)], 0, _, _, rfl, rfl, by simp, HBF.out, HRW.out⟩
 case round => (
 obtain ⟨L, i, a, c, rfl, rfl, hiL, hbf, hrw⟩ := hrel
 have hLn : L.length <= n := by have := hbf.len; rw [HN.out] at this; simpa using this
 have HB := hid hbf; have HW := hid hrw
 clear hbf hrw HBF HRW
 by_cases hlt : i < L.length
 · (
 obtain ⟨x, hx⟩ := getElem?_of_lt hlt
 obtain ⟨ga, gc, g, hv, _, _, hsl, _⟩ := slAt_own lenI HW.out.own
 simp only [Value.slice.injEq] at hv
 obtain ⟨rfl, _, rfl⟩ := hv
 obtain rfl := hsl.ad (by omega)
 have hcx := hsl.ci hx
 simp only [Nat.zero_add] at hcx
 have hix : (i : Int) < (L.length : Int) := by omega
 have hea := each_any HH.out HW.out.below x
 have HEA := hid hea
 have HX := hid hx
 clear hsl hx hea
 go_wp2_with fail
 refine (HEA.out).mono ?_
 rintro e wb ⟨⟨a2, c2, b2, off2, rfl, hc2, hm2, hss⟩, hBb⟩
 have hRWb := HW.out.call hBb
 have HRWb := hid hRWb; have HSS := hid hss
 clear hRWb hss hBb hcx
 have hsslen : (s.outs x).length <= 10000 := outs_len HH.out.right x
 go_wp2_with fail
 go_loopw [4, 7, 34] (fun v4 _ i34 wr => ∃ (L : List Int) (r : Nat) (a : Option Addr) (c : Nat), v4 = .slice a L.length c /\ i34 = .int .i64 r /\ r <= (s.outs x).length /\ Bfs s L i /\ L[i]? = some x /\ (∀ y ∈ (s.outs x).take r, y.2 ∈ L) /\ RW w wr SB n L (.slice a L.length c))
   (fun _ _ i34 _ => (s.outs x).length - (intOf i34).toNat)
 case atStart => exact ⟨L, 0, _, _, rfl, rfl, by simp, HB.out, HX.out, by simp, HRWb.out⟩
 case round => (
 obtain ⟨M, r, a3, c3, rfl, rfl, hr, hbf, hMx, hty, hrw⟩ := hrel
 have HB2 := hid hbf; have HW2 := hid hrw; have HMX := hid hMx; have HTY := hid hty
 clear hbf hrw hMx hty HB HW HRWb
 by_cases hltr : r < (s.outs x).length
 · (
 obtain ⟨y, hy⟩ := getElem?_of_lt hltr
 have hss' := HSS.out.below HW2.out.below (Nat.le_refl _)
 obtain rfl := hss'.ad (by omega)
 have d0 := hss'.s0 hy; have d1 := hss'.s1 hy
 have hbl := hss'.lt (by omega)
 have hym := List.mem_of_getElem? hy
 have hyr := offB_false.1 (HH.out.right.edges _ (mem_outs.1 hym))
 simp only at hyr
 obtain ⟨y1, y2⟩ := y
 obtain ⟨t, ht⟩ : ∃ t : Nat, y2 = (t : Int) := ⟨y2.toNat, by simp only at hyr; omega⟩
 subst ht
 simp only at d0 d1 hyr
 have htn : t < n := by have := HN.out; omega
 have htn' : (t : Int) < (n : Int) := by omega
 have hct : wr.cell? ⟨SB, t, none⟩ = some (.bool (decide ((t : Int) ∈ M))) := HW2.out.seen.cell htn
 have hft : wr.frozen? ⟨SB, t, none⟩ = false := HW2.out.seen.frozen t
 have hsb : SB < wr.heap.size := HW2.out.seen.lt
 have HY := hid hy; have HYM := hid hym
 clear hss' hy hym hyr
 by_cases hin : (t : Int) ∈ M
 · (
 have hd : decide ((t : Int) ∈ M) = true := by simp [hin]
 rw [hd] at hct
 have HIN := hid hin
 clear hd hin
 go_wp2
 go_roundw
 case rel => exact ⟨M, r + 1, _, _, rfl, by go_num, by omega, HB2.out, HMX.out, by (
 intro y hy
 rw [take_snoc HY.out] at hy
 rcases List.mem_append.1 hy with h1 | h1
 · exact HTY.out y h1
 · simp at h1; subst h1; exact HIN.out), HW2.out.alloc _⟩
 case measure => simp [intOf]; omega)
 · (
 have hd : decide ((t : Int) ∈ M) = false := by simp [hin]
 rw [hd] at hct
 have HIN := hid hin
 clear hd hin
 have hML : M.length <= n := by have := HB2.out.len; rw [HN.out] at this; simpa using this
 go_wp2_with (at_builtin; go_must (refine wpList_app1 rfl _ _ _ rfl rowI (Below.refl _ _) (by simp [World.setCell]; omega) rfl (World.ownsRow.alloc (World.ownsRow.alloc (ownsRow_setCell_below HW2.out.own (a := ⟨SB, t, none⟩) (Nat.lt_succ_self SB) (.bool true)) _) _) ⟨wr.heap.size + 1, 0, none⟩ 1 1 [.int .i64 t] rfl rfl (cells1 (by simp [go_sem, World.setCell])) (by simp [Value.oneCell']) (by decide) (by omega) (by unfold maxLen; omega) ?_); intro g2 cap2 w7 hown7 _ hg7)
 have hpush := RW.push (v' := .slice (some ⟨g2, 0, none⟩) (M.length + 1) cap2) HW2.out (by rw [List.length_append, List.flatMap_append]; exact hown7) hg7
 have hbp := Bfs.push HH.out.right HB2.out HMX.out HYM.out HIN.out
 have HP := hid hpush; have HBP := hid hbp
 clear hpush hbp hown7 hg7
 go_roundw
 case rel => exact ⟨M ++ [(t : Int)], r + 1, _, _, by rw [List.length_append]; rfl, by go_num, by omega, HBP.out, by
   rw [List.getElem?_append_left (by have := (List.getElem?_eq_some_iff.1 HMX.out).1; omega)]; exact HMX.out, by
   intro y hy
   rw [take_snoc HY.out] at hy
   rcases List.mem_append.1 hy with h1 | h1
   · exact List.mem_append_left _ (HTY.out y h1)
   · simp at h1; subst h1; simp, by rw [List.length_append]; exact HP.out⟩
 case measure => simp [intOf]; omega))
 · (
 have hall : ∀ y ∈ s.outs x, y.2 ∈ M := by (
 intro y hy
 have := HTY.out
 rw [List.take_of_length_le (by omega)] at this
 exact this y hy)
 have hnx := Bfs.next HB2.out HMX.out hall
 have hMn : M.length <= n := by have := HB2.out.len; rw [HN.out] at this; simpa using this
 have hiM : i < M.length := (List.getElem?_eq_some_iff.1 HMX.out).1
 have HNX := hid hnx
 clear hall hnx HTY
 go_wp2
 go_roundw
 case rel => exact ⟨M, i + 1, _, _, rfl, by go_num, by omega, HNX.out, HW2.out⟩
 case measure => simp [intOf]; omega)))
 · (
 obtain rfl : i = L.length := by omega
 go_wp2_with fail
 refine (sortI_v HW.out.own (by omega)).mono ?_
 rintro e w8 ⟨rfl, hown8, hB8⟩
 rw [reach_of HH.out.right H0.out HB.out] at hown8
 have hb8 := hB8 (w0 := wr) (RowKit.Below.refl _ _)
 have hsb := HW.out.sb
 have hBf : RowKit.Below w.heap.size w w8 := HW.out.below.trans (hb8.mono (by omega))
 have HO8 := hid hown8; have HBF8 := hid hBf
 clear hown8 hBf hb8 hB8
 go_wp2
 go_ret
 exact ⟨_, rfl, own_mono HO8.out (by omega), HBF8.out⟩))
end Go.Proofs.YtgikimbafakmcaaGreatDoor
namespace Go.Proofs.YtgikimbafakmcaaGreatDoor
open Go.RowKit Pl
theorem step_oput {κ ν : Type} [DecidableEq κ] {P : Program} {k : TypeId} {enck : κ -> Value} {ok : κ -> Prop} {encv : ν -> Value} {w : World} {b n : Nat} {f : κ -> Option ν} {ops : Array Oper} {o : Oper} {a : Act} {K : Act -> World -> Prop} {Q : Exit -> Act -> World -> Prop} {F : Prop} (hg : o.guard = none) (m x v : Operand) (t : TypeId) (hop : o.op = Op.mapUpdate t m x v) {e : TypeId} (E : KeyEnc P k enck ok) (ht : P.underlying t = some (.map k e))
    (hm : a.eval m = .map (some b)) (h : OMap w b enck ok encv f n) (y : κ) (hy : ok y) (hx : a.eval x = enck y) (u : ν) (hv : a.eval v = encv u)
    (hK : ∀ w', OMap w' b enck ok encv (fun z => if z = y then some u else f z) (if (f y).isSome then n else n + 1) -> w.grownBy w' (some b) -> (∀ a : Addr, w'.frozen? a = w.frozen? a) -> w'.heap.size = w.heap.size -> K (a.put o.dst undef) w') :
    if Region.wanted o (yielded ops a.tmps) = true then Oper.wp P o a w K Q else F := by
 have hw : Region.wanted o (yielded ops a.tmps) = true := by simp [Region.wanted, hg]
 rw [if_pos hw]
 obtain ⟨w', hrun, h1, h2, h3, h4⟩ := h.put E ht hy u
 unfold Oper.wp
 simp [execOp, hop, hm, hx, hv, hrun, Result.andThen]
 exact hK w' h1 h2 h3 h4
def numF (D : List Int) (c : Int) : Option Int := if c ∈ D then some (D.idxOf c : Int) else none
theorem numF_push {D : List Int} {x : Int} (hx : x ∉ D) (z : Int) : (if z = x then some (D.length : Int) else numF D z) = numF (D ++ [x]) z := by
 unfold numF
 by_cases e : z = x
 · subst e
   rw [if_pos rfl, if_pos (by simp), List.idxOf_append]
   simp [hx]
 · rw [if_neg e]
   by_cases h : z ∈ D
   · rw [if_pos h, if_pos (by simp [h]), List.idxOf_append]
     simp [h]
   · rw [if_neg h, if_neg (by simp [h, e])]
theorem clsL_snoc {L P : List Int} {k : Nat} {p : Int} (h : P[k]? = some p) : clsL L (P.take (k + 1)) = if atL L p ∈ clsL L (P.take k) then clsL L (P.take k) else clsL L (P.take k) ++ [atL L p] := by
 unfold clsL
 rw [take_snoc h, List.map_append]
 show dist (_ ++ [atL L p]) = _
 rw [dist_snoc]
 unfold addN
 rfl
theorem clsL_len (L P : List Int) (k : Nat) : (clsL L (P.take k)).length <= k := by
 unfold clsL
 have := dist_len ((P.take k).map (atL L))
 rw [List.length_map, List.length_take] at this
 omega
def RQ (tb : Nat) (x y z : Int) (v : Value) : Rw := ⟨24, 4, .slice (some ⟨tb, 0, none⟩) 1 1, 1, [.int .i64 x, .int .i64 y, .int .i64 z, v]⟩
def RI (a : Option Addr) (m c : Nat) (xs : List Int) : Rw := ⟨3, 1, .slice a m c, m, xs.flatMap encI⟩
def RV (b n : Nat) (f : Nat -> Int) : Rw := ⟨3, 1, .slice (some ⟨b, 0, none⟩) n n, n, (List.range n).map (fun i => Value.int .i64 (f i))⟩
def REq (a : Option Addr) (m c : Nat) (es : List E) : Rw := ⟨57, 3, .slice a m c, m, es.flatMap encE⟩
theorem rvMade {w0 w : World} {L : List Rw} (h : Rws w0 w L) {n : Nat} (hn : n <= 1000) : Rws w0 (w.alloc (.cells (madeCells #[.int .i64 0] n) 3)) (RV w.heap.size n (fun _ => 0) :: L) := by
 have h2 := h.addLit (madeCells #[.int .i64 0] n) 3 (k := 1) (n := n) (by unfold maxLen; omega) (by simp [size_madeCells])
 have e : (madeCells #[.int .i64 0] n).toList = (List.range n).map (fun _ => (.int .i64 0 : Value)) := by (
 rw [toList_madeCells_one]
 apply List.ext_getElem?
 intro i
 by_cases hi : i < n <;> simp [hi])
 rw [e] at h2
 exact h2
theorem rvFlat (n : Nat) (f : Nat -> Int) : (fl n f).flatMap encI = (List.range n).map (fun i => Value.int .i64 (f i)) := by
 unfold fl
 rw [List.flatMap_map, <- List.flatMap_singleton' ((List.range n).map _), List.flatMap_map]
 rfl
theorem rvCell {n i : Nat} {f : Nat -> Int} (hi : i < n) : ((List.range n).map (fun i => Value.int .i64 (f i)))[i]? = some (.int .i64 (f i)) := by simp [hi]
theorem rvSet {n i : Nat} {f : Nat -> Int} (x : Int) : ((List.range n).map (fun i => Value.int .i64 (f i))).set i (.int .i64 x) = (List.range n).map (fun j => Value.int .i64 (upd f i x j)) := by
 rw [range_map_set]
 apply List.map_congr_left
 intro j _
 unfold upd
 split <;> rfl
def toK (D : List Int) (C : Nat -> Int) (j i : Nat) : Int := if i < j then toI D (C i) else 0
theorem toK_step (D : List Int) (C : Nat -> Int) (j : Nat) : upd (toK D C j) j (toI D (C j)) = toK D C (j + 1) := by
 funext i
 unfold upd toK
 by_cases e : i = j
 · subst e; simp
 · by_cases h : i < j
   · simp [e, h, show i < j + 1 by omega]
   · simp [e, h, show ¬ i < j + 1 by omega]
theorem own_typeR {w : World} {base : Nat} {e : TypeId} {k n : Nat} {v : Value} {xs : List Value} (h : w.ownsRow base e k v n xs) {g : Nat} (hg : v.ownBlock = some g) : ∃ cur, w.heap[g]? = some (.cells cur e (0, 0)) := by
 rcases h.2 with ⟨rfl, _⟩ | ⟨g2, cap, cur, rfl, _, hgg, _⟩
 · cases hg
 · simp only [Value.ownBlock, Option.some.injEq] at hg; subst hg; exact ⟨cur, hgg⟩
theorem toI_rng (D : List Int) (c : Int) : -1 <= toI D c /\ toI D c <= (D.length : Int) := by
 unfold toI
 split
 · have := List.idxOf_le_length (a := c) (l := D); omega
 · omega
def addEf (es : List E) (z : E) : Option Unit := if z ∈ es then some () else none
theorem addEf_snoc (es : List E) (x z : E) : (if z = x then some () else addEf es z) = addEf (es ++ [x]) z := by
 unfold addEf
 by_cases h : z = x <;> simp [h]
structure EsOk (es G : List E) : Prop where
  mem : ∀ e, e ∈ es ↔ e ∈ G
  len : es.length <= G.length
theorem EsOk.had {es G : List E} (h : EsOk es G) {x : E} (hx : x ∈ es) : EsOk es (G ++ [x]) :=
  ⟨fun e => by
    rw [List.mem_append, <- h.mem e]
    constructor
    · exact .inl
    · rintro (h1 | h1)
      · exact h1
      · simp at h1; subst h1; exact hx, by rw [List.length_append]; have := h.len; omega⟩
theorem EsOk.new {es G : List E} (h : EsOk es G) (x : E) : EsOk (es ++ [x]) (G ++ [x]) :=
  ⟨fun e => by rw [List.mem_append, List.mem_append, h.mem e], by rw [List.length_append, List.length_append]; have := h.len; simp; omega⟩
theorem quoE_snoc {s : Lts} {L D P : List Int} {k : Nat} {p : Int} (h : P[k]? = some p) : quoE s L D (P.take (k + 1)) = quoE s L D (P.take k) ++ (s.outs p).map (fun x => (toI D (atL L p), x.1, toI D (atL L x.2))) := by
 unfold quoE
 rw [take_snoc h, List.flatMap_append]; simp
theorem outs_le (s : Lts) (p : Int) : (s.outs p).length <= s.es.length := by
 unfold Lts.outs
 rw [List.length_map]; exact List.length_filter_le _ _
theorem quoE_len (s : Lts) (L D : List Int) : ∀ P : List Int, (quoE s L D P).length <= P.length * s.es.length
  | [] => by simp [quoE]
  | p :: P => by
    have h1 := quoE_len s L D P
    have h2 := outs_le s p
    unfold quoE at *
    rw [List.flatMap_cons, List.length_append, List.length_map, List.length_cons, Nat.succ_mul]
    omega
theorem edGrow {w0 w w1 w2 : World} {L : List Rw} {a : Option Addr} {m c : Nat} {es : List E} (h : Rws w0 w L) (hB2 : Below w.heap.size w w2) {i : Nat} (hi : L[i]? = some (REq a m c es)) {x : E} {g c' : Nat} (ho : w1.ownsRow w0.heap.size 57 3 (.slice (some ⟨g, 0, none⟩) (m + 1) c') (m + 1) (es.flatMap encE ++ [.int .i64 x.1, .int .i64 x.2.1, .int .i64 x.2.2]))
    (hg : w2.grownBy w1 (Value.slice a m c).ownBlock) (hh : (Value.slice a m c).ownBlock = some g ∨ w.heap.size <= g) : Rws w0 w1 (L.set i (REq (some ⟨g, 0, none⟩) (m + 1) c' (es ++ [x]))) := by
 have hs := h.grown hB2 i hi ho hg (fun g' hg' => by simp only [Value.ownBlock, Option.some.injEq] at hg'; subst hg'; exact hh)
 have e : (es ++ [x]).flatMap encE = es.flatMap encE ++ [.int .i64 x.1, .int .i64 x.2.1, .int .i64 x.2.2] := by rw [List.flatMap_append]; rfl
 unfold REq
 rw [e]
 exact hs
theorem omBlk {κ ν : Type} [DecidableEq κ] {enck : κ -> Value} {ok : κ -> Prop} {encv : ν -> Value} {w0 w w8 : World} {L : List Rw} {a : Option Addr} {m c mb nm : Nat} {f : κ -> Option ν} {es : List E} {o : Obj} (h : Rws w0 w (REq a m c es :: L)) (hm : OMap w mb enck ok encv f nm) {v8 : Value} {n8 : Nat} {xs8 : List Value} (_ho : w8.ownsRow w0.heap.size 57 3 v8 n8 xs8) (hg : (w.alloc o).grownBy w8 (Value.slice a m c).ownBlock) : OMap w8 mb enck ok encv f nm := by
 refine hm.of_block ((hg.block mb (by simp; have := hm.lt; omega) (fun e => ?_)).trans (Below.heap_alloc w o mb hm.lt))
 obtain ⟨cur, h1⟩ := own_typeR (h.get (i := 0) rfl) e.symm
 obtain ⟨es2, cl, h2⟩ := hm.block
 rw [h1] at h2; cases h2
def QuoPost (s : Lts) (n : Nat) (C : Nat -> Int) (w : World) (e : Ending) (w' : World) : Prop :=
  ∃ (ea ta : Option Addr) (eb ec tbk tc : Nat), e = .returned (.tuple #[.agg #[.int .i64 (quoS s (fl n C)).st, .int .i64 (quoS s (fl n C)).lb, .int .i64 (quoS s (fl n C)).s0, .slice ea (quoS s (fl n C)).es.length ec], .slice ta n tc, .nilIface]) /\
    SlAt encE 3 w' ea eb 0 (quoS s (fl n C)).es /\ SlAt encI 1 w' ta tbk 0 (fl n (fun j => toI (quoD s (fl n C)) (C j))) /\ (0 < (quoS s (fl n C)).es.length -> w.heap.size <= eb) /\ (0 < n -> w.heap.size <= tbk) /\ Below w.heap.size w w'
end Go.Proofs.YtgikimbafakmcaaGreatDoor
namespace Go.Proofs.YtgikimbafakmcaaGreatDoor
namespace Pl
inductive Sg (s : Lts) (C : Nat -> Int) : Nat -> Int -> Int -> Prop
  | here {p t : Nat} {l : Int} : stp s p l t -> ¬ (l = 0 /\ C t = C p) -> Sg s C p l (C t)
  | on {p t : Nat} {l e : Int} : stp s p 0 t -> C t = C p -> Sg s C t l e -> Sg s C p l e
theorem stp_lt {s : Lts} (hr : s.Right) {n : Nat} (hn : s.st = (n : Int)) {p t : Nat} {l : Int} (h : stp s p l t) : p < n /\ t < n /\ 0 <= l /\ l < s.lb := by
 have := offB_false.1 (hr.edges _ h)
 simp only at this
 omega
/-! rounds -/
def NextB (s : Lts) (n : Nat) (C D : Nat -> Int) : Prop := ∀ p q, p < n -> q < n -> (D p = D q ↔ C p = C q /\ ∀ l e, Sg s C p l e ↔ Sg s C q l e)
end Pl
end Go.Proofs.YtgikimbafakmcaaGreatDoor
namespace Go.Proofs.YtgikimbafakmcaaGreatDoor
namespace Pl
open Go.Lib
/-! decimal numerals -/
/-! more classes -/
theorem nodup_subI : ∀ (L M : List Int), L.Nodup -> (∀ x ∈ L, x ∈ M) -> L.length <= M.length
  | [], M, _, _ => Nat.zero_le _
  | x :: L, M, hn, hs => by
    rw [List.nodup_cons] at hn
    have ih := nodup_subI L (M.erase x) hn.2 (fun y hy => (List.mem_erase_of_ne (fun e : y = x => hn.1 (e ▸ hy))).2 (hs y (List.mem_cons_of_mem _ hy)))
    have h1 := List.length_erase_of_mem (hs x (by simp))
    have h2 := List.length_pos_of_mem (hs x (by simp))
    rw [List.length_cons]; omega
theorem mem_dist_fl {n : Nat} {C : Nat -> Int} {c : Int} : c ∈ dist (fl n C) ↔ ∃ p, p < n /\ C p = c := by
 rw [mem_dist]; unfold fl; rw [List.mem_map]
 exact ⟨fun ⟨p, h1, h2⟩ => ⟨p, List.mem_range.1 h1, h2⟩, fun ⟨p, h1, h2⟩ => ⟨p, List.mem_range.2 h1, h2⟩⟩
theorem more_classes {n : Nat} {C D : Nat -> Int} (h : ∀ p q, p < n -> q < n -> D p = D q -> C p = C q) {a b : Nat} (ha : a < n) (hb : b < n) (e1 : C a = C b) (e2 : D a ≠ D b) : (dist (fl n C)).length < (dist (fl n D)).length := by
 have hex : ∀ c : Int, ∃ p : Nat, c ∈ dist (fl n C) -> p < n /\ C p = c := fun c => by (
 by_cases hc : c ∈ dist (fl n C)
 · obtain ⟨p, hp⟩ := mem_dist_fl.1 hc
   exact ⟨p, fun _ => hp⟩
 · exact ⟨0, fun h => absurd h hc⟩)
 obtain ⟨r, hr⟩ := Classical.axiomOfChoice hex
 have hca : C a ∈ dist (fl n C) := mem_dist_fl.2 ⟨a, ha, rfl⟩
 obtain ⟨x, hxm, hxn⟩ : ∃ x, x ∈ dist (fl n D) /\ x ∉ (dist (fl n C)).map (fun c => D (r c)) := by (
 have key : ∀ z, z < n -> C z = C a -> D z ∈ (dist (fl n C)).map (fun c => D (r c)) -> D z = D (r (C a)) := fun z hz e hm => by (
 obtain ⟨c, hc, hcz⟩ := List.mem_map.1 hm
 have h1 := hr c hc
 have h2 := h (r c) z h1.1 hz hcz
 rw [h1.2, e] at h2
 rw [<- hcz, h2])
 by_cases k1 : D a ∈ (dist (fl n C)).map (fun c => D (r c))
 · refine ⟨D b, mem_dist_fl.2 ⟨b, hb, rfl⟩, fun k2 => e2 ?_⟩
   rw [key a ha rfl k1, key b hb e1.symm k2]
 · exact ⟨D a, mem_dist_fl.2 ⟨a, ha, rfl⟩, k1⟩)
 have hnd : (x :: (dist (fl n C)).map (fun c => D (r c))).Nodup := by (
 rw [List.nodup_cons]
 refine ⟨hxn, ?_⟩
 rw [List.Nodup, List.pairwise_map]
 refine List.Pairwise.imp_of_mem ?_ (nodup_dist (fl n C))
 intro c d hc hd hcd e
 have k1 := hr c hc; have k2 := hr d hd
 have := h (r c) (r d) k1.1 k2.1 e
 rw [k1.2, k2.2] at this
 exact hcd this)
 have := nodup_subI _ (dist (fl n D)) hnd (fun y hy => by (
 rcases List.mem_cons.1 hy with rfl | h1
 · exact hxm
 · obtain ⟨c, hc, rfl⟩ := List.mem_map.1 h1
   exact mem_dist_fl.2 ⟨r c, (hr c hc).1, rfl⟩))
 rw [List.length_cons, List.length_map] at this
 omega
theorem canon_same_list {n : Nat} {C D : Nat -> Int} (h1 : canon (fl n C) = fl n C) (h2 : canon (fl n D) = fl n D) (h : ∀ p q, p < n -> q < n -> (C p = C q ↔ D p = D q)) : fl n C = fl n D := by
 rw [<- h1, <- h2, sameT_canon (by rw [fl_len, fl_len])]
 intro i k x y x' y' hki hx hy hx' hy'
 have hi : i < n := by have := (List.getElem?_eq_some_iff.1 hx).1; rwa [fl_len] at this
 have hk : k < n := by omega
 rw [fl_get C hi] at hx; rw [fl_get C hk] at hy; rw [fl_get D hi] at hx'; rw [fl_get D hk] at hy'
 cases hx; cases hy; cases hx'; cases hy'
 exact h i k hi hk
end Pl
end Go.Proofs.YtgikimbafakmcaaGreatDoor
namespace Go.Proofs.YtgikimbafakmcaaGreatDoor
namespace Pl
section
variable {s : Lts} {n : Nat} {f : Nat -> Int}
end
inductive Rounds (s : Lts) (n : Nat) : (Nat -> Int) -> Prop
  | zero : Rounds s n (fun _ => 0)
  | step {C D : Nat -> Int} : Rounds s n C -> NextB s n C D -> Rounds s n D
theorem Sg.congr {s : Lts} {n : Nat} (hr : s.Right) (hn : s.st = (n : Int)) {C D : Nat -> Int} (h : ∀ p q, p < n -> q < n -> (C p = C q ↔ D p = D q)) {p : Nat} (hp : p < n) {l e : Int} (hs : Sg s C p l e) : ∃ t, t < n /\ C t = e /\ Sg s D p l (D t) := by
 induction hs with
 | @here p t l h1 h2 =>
   have h3 := stp_lt hr hn h1
   exact ⟨t, h3.2.1, rfl, .here h1 (fun k => h2 ⟨k.1, (h _ _ h3.2.1 h3.1).2 k.2⟩)⟩
 | @on p t l e h1 h2 _ ih => (
 have h3 := stp_lt hr hn h1
 obtain ⟨u, hu, e1, h4⟩ := ih h3.2.1
 exact ⟨u, hu, e1, .on h1 ((h _ _ h3.2.1 h3.1).1 h2) h4⟩)
/-! signatures as lists -/
end Pl
end Go.Proofs.YtgikimbafakmcaaGreatDoor
namespace Go.Proofs.YtgikimbafakmcaaGreatDoor
open Go.RowKit Pl
def keepE (inert : Bool) (e : E) : Bool := !(inert && (decide (e.2.1 = 0) && decide (e.1 = e.2.2)))
def quoEI (inert : Bool) (s : Lts) (L D P : List Int) : List E := (quoE s L D P).filter (keepE inert)
noncomputable def quoSI (inert : Bool) (s : Lts) (L : List Int) : Lts := ⟨((quoD s L).length : Int), s.lb, toI (quoD s L) (atL L s.s0), nf ltE (quoEI inert s L (quoD s L) (reachL s))⟩
theorem quoEI_false (s : Lts) (L D P : List Int) : quoEI false s L D P = quoE s L D P := by
 unfold quoEI
 rw [List.filter_eq_self]
 intro e _; rfl
theorem quoSI_false (s : Lts) (L : List Int) : quoSI false s L = quoS s L := by unfold quoSI quoS; rw [quoEI_false]
section
variable {s : Lts} {n z : Nat} {C : Nat -> Int} {inert : Bool}
end
end Go.Proofs.YtgikimbafakmcaaGreatDoor

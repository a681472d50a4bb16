/-
  slices.Sort at ints, by the shelf's contract, on a row of the call's own.
  system.Graph.Reach: the reachable states, rising.
  system.Graph.Degree; Reach of any graph.
  law7.alive: the small system that every law of chapter 7 asks first.
  system.Canon: the one form of a list.
-/
import Derived.Test.YtkmljelgogcobaaGreatDoorGNrowsB
import Derived.Lib.OwnBridge
import Derived.Sort.OwnSortedInts
import Derived.Test.YtkmljelgogcobaaGreatDoorGNew
import Derived.Test.YtkmljelgogcobaaGreatDoorGPl3
import Derived.Deep.DeepMust
import Derived.Test.YtkmljelgogcobaaGreatDoorGBase
import Derived.Maps.OwnSet
namespace Go.Proofs.YtkmljelgogcobaaGreatDoor
open Go.RowKit Pl Go.Sort Go.Shelf Go.Lib

theorem flat_encI (L : List Int) : L.flatMap encI = L.map (Value.int .i64) := by
  induction L with
  | nil => rfl
  | cons x l ih => rw [List.flatMap_cons, ih]; rfl

theorem below_putRowI {w0 w : World} {B g m : Nat} {os : Array Obj} {d : Array Int} (h : RowKit.Below B w0 w) (hb : B ≤ g) (hg : g < w.heap.size) : RowKit.Below B w0 (grow (putRow (Value.int .i64) (Sort.ahead w m) g 0 d) os) :=
  h.trans ⟨rfl, rfl, rfl, by simp [grow, putRow, mapBlock, Sort.ahead], fun i hi => by
    unfold grow putRow mapBlock Sort.ahead
    simp only
    rw [Array.getElem?_append_left (by simp; omega), Array.getElem?_modify, if_neg (by omega)]⟩

theorem sortI_v {base : Nat} {v : Value} {L : List Int} {w : World} (h : w.ownsRow base 3 1 v L.length (L.flatMap encI)) (hl : L.length ≤ 1000000) :
    Calls Tryz.prog 62 #[v] w fun e w' => e = .returned (.tuple #[]) ∧
      w'.ownsRow base 3 1 v (L.mergeSort fun x y => decide (x ≤ y)).length ((L.mergeSort fun x y => decide (x ≤ y)).flatMap encI) ∧ (∀ {w0 : World}, RowKit.Below base w0 w → RowKit.Below base w0 w') := by
  have hlen : (L.mergeSort fun x y => decide (x ≤ y)).length = L.length := (List.mergeSort_perm L _).length_eq
  rw [flat_encI] at h
  rw [flat_encI, hlen]
  rcases h.2 with ⟨rfl, hn⟩ | ⟨g, cap, cur, rfl, hbg, hg, hnc, hcm, hcs, htake⟩
  · have hx : L = [] := List.eq_nil_of_length_eq_zero hn
    subst hx
    have hcon := Any.slices_Sort_int_none Tryz.sortI none 0 w
    change Calls Tryz.prog 62 _ _ _ at hcon
    refine hcon.mono ?_
    rintro e w' ⟨rfl, rfl⟩
    exact ⟨rfl, by simpa using h, fun hB => hB⟩
  · obtain ⟨g', cap', hv, _, hlt, _, _, _, hH⟩ := holds_of_ownsRow (enc := Value.int .i64) h (by simp)
    simp only [Value.slice.injEq, Option.some.injEq, Addr.mk.injEq, and_true, true_and] at hv
    obtain ⟨rfl, rfl⟩ := hv
    have hcon := Any.slices_Sort_int Tryz.sortI g 0 cap L w hH hlt (by omega)
    change Calls Tryz.prog 62 _ _ _ at hcon
    refine hcon.mono ?_
    rintro e w' ⟨rfl, m, os, rfl⟩
    exact ⟨rfl, ownsRow_sortedI hlen hbg hg hnc hcm hcs, fun hB => below_putRowI hB hbg hlt⟩

end Go.Proofs.YtkmljelgogcobaaGreatDoor

namespace Go.Proofs.YtkmljelgogcobaaGreatDoor
open Go.RowKit Pl Go.Sort

set_option maxRecDepth 100000 in
theorem reach_nil {w : World} {gb : Nat} {s : Lts} (h : GraphAt w gb s) (h0 : s.st = 0) :
    Calls Tryz.prog 16 #[.pointer (some ⟨gb, 0, none⟩)] w fun e w' => e = .returned (.slice none 0 0) ∧ Below w.heap.size w w' := by
  have HO := Lib.hid (getStates_any h); clear h
  have H0 := Lib.hid h0; clear h0
  go_enter Tryz.func16, Tryz.ntmps16
  go_wp2_with (go_at_call 43; refine (HO.out).mono ?_; rw [H0.out]; rintro e w1 ⟨rfl, hB⟩)
  go_ret
  exact ⟨rfl, hB⟩

/-- The world within Reach: the marks of what was seen, the list. -/
structure RW (w wr : World) (SB n : Nat) (L : List Int) (v : Value) : Prop where
  below : Below w.heap.size w wr
  seen : wr.rowIs SB 4 n (fun j => .bool (decide ((j : Int) ∈ L)))
  own : wr.ownsRow (SB + 1) 3 1 v L.length (L.flatMap encI)
  sb : w.heap.size ≤ SB

theorem RW.alloc {w wr : World} {SB n : Nat} {L : List Int} {v : Value} (h : RW w wr SB n L v) (o : Obj) : RW w (wr.alloc o) SB n L v :=
  ⟨h.below.alloc (by have := h.seen.lt; have := h.sb; omega) o, h.seen.alloc o, h.own.alloc o, h.sb⟩
theorem RW.call {w wr w' : World} {SB n : Nat} {L : List Int} {v : Value} (h : RW w wr SB n L v) (hB : Below wr.heap.size wr w') : RW w w' SB n L v :=
  ⟨h.below.trans (hB.mono (by have := h.seen.lt; have := h.sb; omega)), h.seen.of_block (hB.block _ h.seen.lt), own_below h.own hB, h.sb⟩
theorem RW.push {w wr w1 : World} {SB n : Nat} {L : List Int} {v v' : Value} {t : Nat} (h : RW w wr SB n L v) {o1 o2 : Obj} (hown : w1.ownsRow (SB + 1) 3 1 v' (L ++ [(t : Int)]).length ((L ++ [(t : Int)]).flatMap encI))
    (hg : (((wr.setCell ⟨SB, t, none⟩ (.bool true)).alloc o1).alloc o2).grownBy w1 v.ownBlock) : RW w w1 SB n (L ++ [(t : Int)]) v' := by
  have hlt := h.seen.lt
  have hsb := h.sb
  have hse := (((h.seen.set t (.bool true)).alloc o1).alloc o2)
  have hb : w1.heap[SB]? = _ := hg.block SB (by simp [World.setCell]; omega) (fun e => by have := (h.own.lt SB e.symm).1; omega)
  refine ⟨?_, (hse.of_block hb).congr (fun i _ => ?_), hown, hsb⟩
  · exact (((h.below.setCell hsb _).alloc (by simp [World.setCell]; omega) o1).alloc (by simp [World.setCell]; omega) o2).grown hg (by simp [World.setCell]; omega) (fun k hk => by have := (h.own.lt k hk).1; omega)
  · by_cases hi : i = t
    · subst hi; simp
    · rw [if_neg hi]; congr 1; simp only [List.mem_append, List.mem_singleton]
      have : ¬ ((i : Int) = (t : Int)) := by omega
      simp [this]

set_option maxRecDepth 100000 in
set_option maxHeartbeats 4000000 in
theorem reach_ok {w : World} {gb : Nat} {s : Lts} (h : GraphAt w gb s) (h0 : s.st ≠ 0) :
    Calls Tryz.prog 16 #[.pointer (some ⟨gb, 0, none⟩)] w fun e w' => ∃ v, e = .returned v ∧ w'.ownsRow w.heap.size 3 1 v (reachL s).length ((reachL s).flatMap encI) ∧ Below w.heap.size w w' := by
  have hst := h.right.st0
  obtain ⟨n, hn⟩ : ∃ n : Nat, s.st = (n : Int) := ⟨s.st.toNat, by omega⟩
  obtain ⟨z, hz⟩ : ∃ z : Nat, s.s0 = (z : Int) := ⟨s.s0.toNat, by omega⟩
  have hzn : z < n := by omega
  have hn1 : n ≤ 1000 := by omega
  have hgs := fun (w1 : World) (hB : Below w.heap.size w w1) => getStates_any (h.below hB)
  have hgt := fun (w1 : World) (hB : Below w.heap.size w w1) => getStart_any (h.below hB)
  rw [hn] at hgs; rw [hz] at hgt
  have HGS := Lib.hid hgs; have HGT := Lib.hid hgt; have HH := Lib.hid h; have HN := Lib.hid hn; have HZ := Lib.hid hz; have H0 := Lib.hid h0; have HST := Lib.hid hst
  have hmk := run_make_row' (P := Tryz.prog) 81 4 (.bool false) 1 Tryz.underlying81 (by kernel_rfl) rfl .i64 .i64 n (by omega) (by omega)
  have hnz : ((n : Int) == 0) = false := by simp; omega
  clear h hgs hgt hn hz h0 hst
  go_enter Tryz.func16, Tryz.ntmps16
  go_wp2_with fail
  refine (HGS.out w (Below.refl _ _)).mono ?_
  rintro e w1 ⟨rfl, hB1⟩
  have HB1 := Lib.hid hB1; clear hB1
  go_wp2_with fail
  refine (HGS.out w1 HB1.out).mono ?_
  rintro e w2 ⟨rfl, hB2⟩
  have hB2' := HB1.out.trans (hB2.mono HB1.out.size)
  have hs2 := hB2'.size
  have HB2 := Lib.hid hB2'; clear hB2 hB2'
  go_wp2_with fail
  have hB3 := HB2.out.alloc hs2 (Obj.cells (madeCells #[.bool false] n) 4)
  have hrow := World.rowIs_made w2 (.bool false) n 4
  refine (HGT.out _ hB3).mono ?_
  rintro e w4 ⟨rfl, hB4⟩
  have hs4 : w2.heap.size + 1 ≤ w4.heap.size := by have := hB4.size; simpa using this
  have hB4' := hB3.trans (hB4.mono (by simp; omega))
  have hrow4 : w4.rowIs w2.heap.size 4 n (fun _ => .bool false) := hrow.of_block (hB4.block _ (by simp))
  have c1 : w4.cell? ⟨w2.heap.size, z, none⟩ = some (.bool false) := hrow4.cell hzn
  have f1 : w4.frozen? ⟨w2.heap.size, z, none⟩ = false := hrow4.frozen z
  have hzn' : (z : Int) < (n : Int) := by omega
  have hlt4 : w2.heap.size < w4.heap.size := by omega
  have HB4 := Lib.hid hB4'; have HR4 := Lib.hid hrow4
  clear hmk hB3 hrow hB4 hB4' hrow4
  go_wp2_with fail
  have hB5 := HB4.out.setCell (p := ⟨w2.heap.size, z, none⟩) hs2 (.bool true)
  have hrow5 := HR4.out.set z (.bool true)
  refine (HGT.out _ hB5).mono ?_
  rintro e w6 ⟨rfl, hB6⟩
  have hs6 : w4.heap.size ≤ w6.heap.size := by have := hB6.size; simpa [World.setCell] using this
  have hB6' := hB5.trans (hB6.mono (by simp [World.setCell]; omega))
  have hrow6 := hrow5.of_block (hB6.block _ (by simpa [World.setCell] using hlt4))
  have hRW : RW w (w6.alloc (.cells #[.int .i64 z] 3)) w2.heap.size n [(z : Int)] (.slice (some ⟨w6.heap.size, 0, none⟩) 1 1) := by
    refine ⟨hB6'.alloc (by omega) _, (hrow6.alloc _).congr (fun i _ => ?_), ?_, hs2⟩
    · by_cases hi : i = z
      · subst hi; simp
      · rw [if_neg hi]
        have : ¬ ((i : Int) = (z : Int)) := by omega
        simp [this]
    · exact World.ownsRow_lit w6 #[.int .i64 z] 1 (by omega) (by unfold maxLen; omega) rfl
  have HRW := Lib.hid hRW
  clear c1 f1 hB5 hrow5 hB6 hB6' hrow6 hRW
  go_wp2_with fail
  have hbfs : Bfs s [(z : Int)] 0 := by have := Bfs.start HH.out.right H0.out; rw [HZ.out] at this; exact this
  have HBF := Lib.hid hbfs; clear hbfs
  obtain ⟨SB, hSB⟩ : ∃ SB, SB = w2.heap.size := ⟨_, rfl⟩
  rw [← hSB] at HRW ⊢
  clear HB4 HR4 hSB hs4 hs6 hs2 hlt4
  go_loopw [4, 5] (fun v4 i5 wr => ∃ (L : List Int) (i : Nat) (a : Option Addr) (c : Nat), v4 = .slice a L.length c ∧ i5 = .int .i64 i ∧ i ≤ L.length ∧ Bfs s L i ∧ RW w wr SB n L (.slice a L.length c))
    (fun _ i5 _ => n - (intOf i5).toNat)
  case atStart => exact ⟨[(z : Int)], 0, _, _, rfl, rfl, by simp, HBF.out, HRW.out⟩
  case round =>
    obtain ⟨L, i, a, c, rfl, rfl, hiL, hbf, hrw⟩ := hrel
    have hLn : L.length ≤ n := by have := hbf.len; rw [HN.out] at this; simpa using this
    have HB := Lib.hid hbf; have HW := Lib.hid hrw
    clear hbf hrw HBF HRW
    by_cases hlt : i < L.length
    · obtain ⟨x, hx⟩ := getElem?_of_lt hlt
      obtain ⟨ga, gc, g, hv, _, _, hsl, _⟩ := slAt_own lenI HW.out.own
      simp only [Value.slice.injEq] at hv
      obtain ⟨rfl, _, rfl⟩ := hv
      obtain rfl := hsl.ad (by omega)
      have hcx := hsl.ci hx
      simp only [Nat.zero_add] at hcx
      have hix : (i : Int) < (L.length : Int) := by omega
      have hea := each_any HH.out HW.out.below x
      have HEA := Lib.hid hea
      have HX := Lib.hid hx
      clear hsl hx hea
      go_wp2_with fail
      refine (HEA.out).mono ?_
      rintro e wb ⟨⟨a2, c2, b2, off2, rfl, hc2, hm2, hss⟩, hBb⟩
      have hRWb := HW.out.call hBb
      have HRWb := Lib.hid hRWb; have HSS := Lib.hid hss
      clear hRWb hss hBb hcx
      have hsslen : (s.outs x).length ≤ 10000 := outs_len HH.out.right x
      go_wp2_with fail
      go_loopw [4, 7, 34] (fun v4 _ i34 wr => ∃ (L : List Int) (r : Nat) (a : Option Addr) (c : Nat), v4 = .slice a L.length c ∧ i34 = .int .i64 r ∧ r ≤ (s.outs x).length ∧ Bfs s L i ∧ L[i]? = some x ∧ (∀ y ∈ (s.outs x).take r, y.2 ∈ L) ∧ RW w wr SB n L (.slice a L.length c))
        (fun _ _ i34 _ => (s.outs x).length - (intOf i34).toNat)
      case atStart => exact ⟨L, 0, _, _, rfl, rfl, by simp, HB.out, HX.out, by simp, HRWb.out⟩
      case round =>
        obtain ⟨M, r, a3, c3, rfl, rfl, hr, hbf, hMx, hty, hrw⟩ := hrel
        have HB2 := Lib.hid hbf; have HW2 := Lib.hid hrw; have HMX := Lib.hid hMx; have HTY := Lib.hid hty
        clear hbf hrw hMx hty HB HW HRWb
        by_cases hltr : r < (s.outs x).length
        · obtain ⟨y, hy⟩ := getElem?_of_lt hltr
          have hss' := HSS.out.below HW2.out.below (Nat.le_refl _)
          obtain rfl := hss'.ad (by omega)
          have d0 := hss'.s0 hy; have d1 := hss'.s1 hy
          have hbl := hss'.lt (by omega)
          have hym := List.mem_of_getElem? hy
          have hyr := offB_false.1 (HH.out.right.edges _ (mem_outs.1 hym))
          simp only at hyr
          obtain ⟨y1, y2⟩ := y
          obtain ⟨t, ht⟩ : ∃ t : Nat, y2 = (t : Int) := ⟨y2.toNat, by simp only at hyr; omega⟩
          subst ht
          simp only at d0 d1 hyr
          have htn : t < n := by have := HN.out; omega
          have htn' : (t : Int) < (n : Int) := by omega
          have hct : wr.cell? ⟨SB, t, none⟩ = some (.bool (decide ((t : Int) ∈ M))) := HW2.out.seen.cell htn
          have hft : wr.frozen? ⟨SB, t, none⟩ = false := HW2.out.seen.frozen t
          have hsb : SB < wr.heap.size := HW2.out.seen.lt
          have HY := Lib.hid hy; have HYM := Lib.hid hym
          clear hss' hy hym hyr
          by_cases hin : (t : Int) ∈ M
          · have hd : decide ((t : Int) ∈ M) = true := by simp [hin]
            rw [hd] at hct
            have HIN := Lib.hid hin
            clear hd hin
            go_wp2
            go_roundw
            case rel => exact ⟨M, r + 1, _, _, rfl, by go_num, by omega, HB2.out, HMX.out, by
              intro y hy
              rw [take_snoc HY.out] at hy
              rcases List.mem_append.1 hy with h1 | h1
              · exact HTY.out y h1
              · simp at h1; subst h1; exact HIN.out, HW2.out.alloc _⟩
            case measure => simp [intOf]; omega
          · have hd : decide ((t : Int) ∈ M) = false := by simp [hin]
            rw [hd] at hct
            have HIN := Lib.hid hin
            clear hd hin
            have hML : M.length ≤ n := by have := HB2.out.len; rw [HN.out] at this; simpa using this
            go_wp2_with (at_builtin; go_must (refine wpList_app1 rfl _ _ _ rfl rowI (Below.refl _ _) (by simp [World.setCell]; omega) rfl (World.ownsRow.alloc (World.ownsRow.alloc (ownsRow_setCell_below HW2.out.own (a := ⟨SB, t, none⟩) (Nat.lt_succ_self SB) (.bool true)) _) _) ⟨wr.heap.size + 1, 0, none⟩ 1 1 [.int .i64 t] rfl rfl (cells1 (by simp [go_sem, World.setCell])) (by simp [Value.oneCell']) (by decide) (by omega) (by unfold maxLen; omega) ?_); intro g2 cap2 w7 hown7 _ hg7)
            have hpush := RW.push (v' := .slice (some ⟨g2, 0, none⟩) (M.length + 1) cap2) HW2.out (by rw [List.length_append, List.flatMap_append]; exact hown7) hg7
            have hbp := Bfs.push HH.out.right HB2.out HMX.out HYM.out HIN.out
            have HP := Lib.hid hpush; have HBP := Lib.hid hbp
            clear hpush hbp hown7 hg7
            go_roundw
            case rel => exact ⟨M ++ [(t : Int)], r + 1, _, _, by rw [List.length_append]; rfl, by go_num, by omega, HBP.out, by
              rw [List.getElem?_append_left (by have := (List.getElem?_eq_some_iff.1 HMX.out).1; omega)]; exact HMX.out, by
              intro y hy
              rw [take_snoc HY.out] at hy
              rcases List.mem_append.1 hy with h1 | h1
              · exact List.mem_append_left _ (HTY.out y h1)
              · simp at h1; subst h1; simp, by rw [List.length_append]; exact HP.out⟩
            case measure => simp [intOf]; omega
        · have hall : ∀ y ∈ s.outs x, y.2 ∈ M := by
            intro y hy
            have := HTY.out
            rw [List.take_of_length_le (by omega)] at this
            exact this y hy
          have hnx := Bfs.next HB2.out HMX.out hall
          have hMn : M.length ≤ n := by have := HB2.out.len; rw [HN.out] at this; simpa using this
          have hiM : i < M.length := (List.getElem?_eq_some_iff.1 HMX.out).1
          have HNX := Lib.hid hnx
          clear hall hnx HTY
          go_wp2
          go_roundw
          case rel => exact ⟨M, i + 1, _, _, rfl, by go_num, by omega, HNX.out, HW2.out⟩
          case measure => simp [intOf]; omega
    · obtain rfl : i = L.length := by omega
      go_wp2_with fail
      refine (sortI_v HW.out.own (by omega)).mono ?_
      rintro e w8 ⟨rfl, hown8, hB8⟩
      rw [reach_of HH.out.right H0.out HB.out] at hown8
      have hb8 := hB8 (w0 := wr) (RowKit.Below.refl _ _)
      have hsb := HW.out.sb
      have hBf : RowKit.Below w.heap.size w w8 := HW.out.below.trans (hb8.mono (by omega))
      have HO8 := Lib.hid hown8; have HBF8 := Lib.hid hBf
      clear hown8 hBf hb8 hB8
      go_wp2
      go_ret
      exact ⟨_, rfl, own_mono HO8.out (by omega), HBF8.out⟩
end Go.Proofs.YtkmljelgogcobaaGreatDoor

namespace Go.Proofs.YtkmljelgogcobaaGreatDoor
open Go.RowKit Pl

theorem reach_any {w : World} {gb : Nat} {s : Lts} (h : GraphAt w gb s) :
    Calls Tryz.prog 16 #[.pointer (some ⟨gb, 0, none⟩)] w fun e w' => ∃ v, e = .returned v ∧ w'.ownsRow w.heap.size 3 1 v (reachL s).length ((reachL s).flatMap encI) ∧ Below w.heap.size w w' := by
  by_cases h0 : s.st = 0
  · refine (reach_nil h h0).mono ?_
    rintro e w' ⟨rfl, hB⟩
    rw [reachL_nil h0]
    exact ⟨_, rfl, World.ownsRow_nil _ _ _ _, hB⟩
  · exact reach_ok h h0

def degTo (s : Lts) : Nat → Int
  | 0 => 0
  | k + 1 => max (degTo s k) ((s.outs k).length)

theorem degTo_bd {s : Lts} (h : s.Right) : ∀ k, 0 ≤ degTo s k ∧ degTo s k ≤ 10000
  | 0 => by simp [degTo]
  | k + 1 => by
    have ih := degTo_bd h k
    have := outs_len h (k : Int)
    unfold degTo
    omega

set_option maxRecDepth 100000 in
theorem degree_any {w : World} {gb : Nat} {s : Lts} (h : GraphAt w gb s) :
    Calls Tryz.prog 46 #[.pointer (some ⟨gb, 0, none⟩)] w fun e w' => e = .returned (.int .i64 (degTo s s.st.toNat)) ∧ Below w.heap.size w w' := by
  have hst := h.right.st0
  obtain ⟨n, hn⟩ : ∃ n : Nat, s.st = (n : Int) := ⟨s.st.toNat, by omega⟩
  have hn1 : n ≤ 1000 := by omega
  have hgs := getStates_any h
  rw [hn] at hgs
  have hnn : s.st.toNat = n := by omega
  have HGS := Lib.hid hgs; have HH := Lib.hid h; have HNN := Lib.hid hnn
  rw [hnn]
  clear h hgs hn hst hnn
  go_enter Tryz.func46, Tryz.ntmps46
  go_wp2_with fail
  refine (HGS.out).mono ?_
  rintro e w1 ⟨rfl, hB1⟩
  have HB1 := Lib.hid hB1; clear hB1
  go_wp2_with fail
  go_loopw [3, 7] (fun v3 i wr => ∃ k : Nat, k ≤ n ∧ i = .int .i64 k ∧ v3 = .int .i64 (degTo s k) ∧ Below w.heap.size w wr) (fun _ i _ => n - (intOf i).toNat)
  case atStart => exact ⟨0, Nat.zero_le _, rfl, rfl, HB1.out⟩
  case round =>
    obtain ⟨k, hk, rfl, rfl, hB⟩ := hrel
    have HB := Lib.hid hB; clear hB HB1
    by_cases hlt : k < n
    · have hlen := outs_len HH.out.right (k : Int)
      have hd := degTo_bd HH.out.right k
      have hd0 := hd.1; have hd1 := hd.2
      clear hd
      obtain ⟨d, hdd⟩ : ∃ d, d = degTo s k := ⟨_, rfl⟩
      rw [← hdd] at hd0 hd1 ⊢
      have HD := Lib.hid hdd
      clear hdd
      have hne : degTo s (k + 1) = max d ((s.outs k).length) := by rw [HD.out]; rfl
      have HNE := Lib.hid hne; clear hne
      go_wp2_with fail
      refine (each_any HH.out HB.out k).mono ?_
      rintro e w2 ⟨⟨a2, c2, b2, off2, rfl, hc2, hm2, hss⟩, hB2⟩
      have hB3 := HB.out.trans (hB2.mono HB.out.size)
      have HB3 := Lib.hid hB3
      clear hss hB2 hB3
      go_wp2
      go_roundw
      case rel => exact ⟨k + 1, by omega, by go_num, by rw [HNE.out], HB3.out⟩
      case measure => simp [intOf]; omega
    · obtain rfl : k = n := by omega
      go_wp2
      go_ret
      exact ⟨rfl, HB.out⟩
end Go.Proofs.YtkmljelgogcobaaGreatDoor

namespace Go.Proofs.YtkmljelgogcobaaGreatDoor
open Go.RowKit Pl

namespace Pl
def aliveS : Lts := ⟨3, 2, 0, [(0, 1, 1), (1, 0, 0), (2, 1, 0)]⟩
theorem aliveS_right : aliveS.Right := ⟨by unfold HeadBad aliveS; simp, by decide⟩
theorem aliveS_norm : aliveS.norm = aliveS := by unfold Lts.norm aliveS; simp only; congr 1
theorem aliveS_out : aliveS.outs 0 = [(1, 1)] := by decide
theorem aliveS_ins : aliveS.ins 0 = [(0, 1), (1, 2)] := by decide
theorem aliveS_deg : degTo aliveS aliveS.st.toNat = 1 := by decide
theorem aliveS_reach : reachL aliveS = [0, 1] := by
  apply srt_ext stoI _ _ (reachL_srt _) (by unfold Srt; decide)
  intro x
  rw [mem_reachL aliveS_right (by decide)]
  constructor
  · intro h
    have := h (fun x => x = 0 ∨ x = 1) (Or.inl rfl) (by
      intro a l b ha he
      simp [aliveS] at he
      omega)
    simpa using this
  · intro h
    have h1 : Rch aliveS 1 := (Rch.start aliveS).step (a := 0) (l := 1) (by decide)
    simp at h
    rcases h with rfl | rfl
    · exact Rch.start aliveS
    · exact h1
end Pl

set_option maxRecDepth 100000 in
theorem alive_any {w : World} {p : Addr} (hG : GErr 0 p w) :
    Calls Tryz.prog 6 #[] w fun e w' => e = .returned (.bool true) ∧ Below w.heap.size w w' := by
  have hnew := fun (w : World) (a : Option Addr) (b c : Nat) (hG : GErr 0 p w) (hS : SlAt encE 3 w a b 0 aliveS.es) => new_ok (c := c) aliveS_right hG hS
  rw [aliveS_norm] at hnew
  have HG := Lib.hid hG; have HN := Lib.hid hnew
  clear hG hnew
  go_enter Tryz.func6, Tryz.ntmps6
  go_wp2_with fail
  have hS : SlAt encE 3 (w.alloc (.cells #[.int .i64 0, .int .i64 1, .int .i64 1, .int .i64 1, .int .i64 0, .int .i64 0, .int .i64 2, .int .i64 1, .int .i64 0] 79)) (some ⟨w.heap.size, 0, none⟩) w.heap.size 0 aliveS.es := by
    have h := World.ownsRow_lit (e := 79) (size := 3) (base := w.heap.size) w #[.int .i64 0, .int .i64 1, .int .i64 1, .int .i64 1, .int .i64 0, .int .i64 0, .int .i64 2, .int .i64 1, .int .i64 0] 3 (Nat.le_refl _) (by unfold maxLen; omega) rfl
    obtain ⟨a, c, b, hv, _, _, hs, _⟩ := slAt_own (xs := aliveS.es) lenE h
    simp only [Value.slice.injEq] at hv
    obtain ⟨rfl, _, _⟩ := hv
    have := hs.ad (by decide)
    simp at this
    subst this
    exact hs
  have hB0 := (Below.refl w.heap.size w).alloc (Nat.le_refl _) (.cells #[.int .i64 0, .int .i64 1, .int .i64 1, .int .i64 1, .int .i64 0, .int .i64 0, .int .i64 2, .int .i64 1, .int .i64 0] 79)
  refine (HN.out _ _ _ _ (HG.out.below hB0) hS).mono ?_
  rintro e w1 ⟨gb, rfl, hGr, hB1, hgb⟩
  have hB1' := hB0.trans (hB1.mono (by simp))
  have HGr := Lib.hid hGr; have HB1 := Lib.hid hB1'
  clear hB0 hS hB1 hB1' hGr hgb
  go_wp2_with fail
  have h0 := getOut_any HGr.out 0
  rw [aliveS_out] at h0
  refine h0.mono ?_
  rintro e w2 ⟨v, rfl, hown, hB2⟩
  obtain ⟨a2, c2, b2, rfl, _, _, _, _⟩ := slAt_own lenS hown
  clear hown
  have HB2 := Lib.hid hB2
  have HBB2 := Lib.hid (HB1.out.trans (hB2.mono HB1.out.size))
  clear h0 hB2
  go_wp2_with fail
  have h0 := getIn_any (HGr.out.below HB2.out) 0
  rw [aliveS_ins] at h0
  refine h0.mono ?_
  rintro e w3 ⟨v, rfl, hown, hB3⟩
  obtain ⟨a3, c3, b3, rfl, _, _, _, _⟩ := slAt_own lenS hown
  clear hown
  have HB3 := Lib.hid (HB2.out.trans (hB3.mono HB2.out.size))
  have HBB3 := Lib.hid (HBB2.out.trans (hB3.mono HBB2.out.size))
  clear h0 hB3
  go_wp2_with fail
  have h0 := reach_any (HGr.out.below HB3.out)
  rw [aliveS_reach] at h0
  refine h0.mono ?_
  rintro e w4 ⟨v, rfl, hown, hB4⟩
  obtain ⟨a4, c4, b4, rfl, _, _, _, _⟩ := slAt_own lenI hown
  have HB4 := Lib.hid (HB3.out.trans (hB4.mono HB3.out.size))
  have HBB4 := Lib.hid (HBB3.out.trans (hB4.mono HBB3.out.size))
  clear h0 hB4 hown
  go_wp2_with fail
  have h0 := degree_any (HGr.out.below HB4.out)
  rw [aliveS_deg] at h0
  refine h0.mono ?_
  rintro e w5 ⟨rfl, hB5⟩
  have HBB5 := Lib.hid (HBB4.out.trans (hB5.mono HBB4.out.size))
  clear h0 hB5
  go_wp2
  go_ret
  exact ⟨rfl, HBB5.out⟩
end Go.Proofs.YtkmljelgogcobaaGreatDoor

namespace Go.Proofs.YtkmljelgogcobaaGreatDoor
open Go.RowKit Pl Go.Maps

theorem lawInt : Keyed Tryz.prog 3 := int_keyed Tryz.underlying3
theorem zeroInt (w : World) : (zeroValue 3).run Tryz.prog w = .ok (.int .i64 0) w := by kernel_rfl

/-- The map that Canon keeps: each number seen, at its place. -/
structure MapD (D : DataW Unit) (s : List Int) : Prop where
  has : ∀ x : Int, Maps.has D (.int .i64 x) = decide (x ∈ s)
  key : ∀ x ∈ s, D.atKey (.int .i64 x) (.lit (.int .i64 0)) = .lit (.int .i64 (s.idxOf x : Int))
  len : Maps.size D = s.length

theorem MapD.nil : MapD (.map []) [] := ⟨fun x => by simp [Maps.has], fun x h => by simp at h, rfl⟩
theorem MapD.push {D : DataW Unit} {s : List Int} {x : Int} (h : MapD D s) (ht : Tidy D) (hx : x ∉ s) : MapD (D.put (.int .i64 x) (.lit (.int .i64 (s.length : Int)))) (s ++ [x]) where
  has y := by
    by_cases e : y = x
    · subst e; rw [has_put_same (k := .int .i64 y) ht.isMap trivial]; simp
    · rw [has_put_other (by intro h; cases h; exact e rfl), h.has]; simp [e]
  key y hy := by
    by_cases e : y = x
    · subst e; rw [atKey_put_same (k := .int .i64 y) ht.isMap trivial, List.idxOf_append]; simp [hx]
    · have hys : y ∈ s := by simpa [e] using hy
      rw [atKey_put_other (by intro h; cases h; exact e rfl), h.key y hys, List.idxOf_append]; simp [hys]
  len := by rw [size_put ht, h.has]; simp [hx, h.len]

/-- A made row, filled, is owned. -/
theorem own_rowIs {w : World} {b n : Nat} {f : Nat → Value} {xs : List Int} (h : w.rowIs b 3 n f) (hl : xs.length = n) (hf : ∀ i x, xs[i]? = some x → f i = .int .i64 x) (hn : n ≤ maxLen) {base : Nat} (hb : base ≤ b) :
    w.ownsRow base 3 1 (.slice (some ⟨b, 0, none⟩) n n) n (xs.flatMap encI) := by
  obtain ⟨c, hh, hs, hc⟩ := h
  have hlen := length_flatMap lenI xs
  refine ⟨by omega, .inr ⟨b, n, c, rfl, hb, hh, Nat.le_refl _, hn, by omega, ?_⟩⟩
  rw [Nat.mul_one, List.take_of_length_le (by simp; omega)]
  apply List.ext_getElem?
  intro i
  by_cases hi : i < n
  · obtain ⟨x, hx⟩ := getElem?_of_lt (show i < xs.length by omega)
    have := getElem?_flatMap lenI xs i x hx 0 _ rfl
    rw [Array.getElem?_toList, hc i hi, hf i x hx]
    simpa using this.symm
  · rw [List.getElem?_eq_none (by simp; omega), List.getElem?_eq_none (by omega)]

/-- The row after k rounds. -/
def rowAtK (xs : List Int) (k : Nat) (j : Nat) : Value := .int .i64 (if j < k then ((dist xs).idxOf (xs.getD j 0) : Int) else 0)

theorem rowAtK_step {xs : List Int} {k : Nat} {x : Int} (hx : xs[k]? = some x) (i : Nat) : (if i = k then Value.int .i64 ((dist (xs.take (k + 1))).idxOf x : Int) else rowAtK xs k i) = rowAtK xs (k + 1) i := by
  unfold rowAtK
  by_cases e : i = k
  · subst e
    have hm : x ∈ xs.take (i + 1) := by rw [take_snoc hx]; simp
    rw [if_pos rfl, if_pos (by omega), List.getD_eq_getElem?_getD, hx, ← idx_append (xs.take (i + 1)) (xs.drop (i + 1)) hm, List.take_append_drop]; rfl
  · rw [if_neg e]
    by_cases h : i < k
    · rw [if_pos h, if_pos (by omega)]
    · rw [if_neg h, if_neg (by omega)]

set_option maxRecDepth 100000 in
set_option maxHeartbeats 2000000 in
theorem canon_any {w : World} {a : Option Addr} {b off c : Nat} {xs : List Int} (hS : SlAt encI 1 w a b off xs) (hn : xs.length ≤ 1000000) (hwf : ∀ x ∈ xs, (Lit.int .i64 x).wf = true) :
    Calls Tryz.prog 19 #[.slice a xs.length c] w fun e w' => ∃ v, e = .returned v ∧ w'.ownsRow w.heap.size 3 1 v xs.length ((canon xs).flatMap encI) ∧ Below w.heap.size w w' := by
  obtain ⟨n, hnn⟩ : ∃ n, n = xs.length := ⟨_, rfl⟩
  rw [← hnn] at hn ⊢
  have hmk := run_make_row' (P := Tryz.prog) 49 3 (.int .i64 0) 8 Tryz.underlying49 (by kernel_rfl) rfl .i64 .i64 n (by omega) (by omega)
  have hmm := @run_makeMap Tryz.prog
  have HS := Lib.hid hS; have HWF := Lib.hid hwf; have HNN := Lib.hid hnn
  clear hS hwf hnn
  go_enter Tryz.func19, Tryz.ntmps19
  go_wp2_with fail
  go_loopw [5, 6, 7, 8, 15] (fun _ _ _ _ i wr => ∃ (k : Nat) (D : DataW Unit), k ≤ n ∧ i = .int .i64 k ∧ MapD D (dist (xs.take k)) ∧ wr.ownsMap Tryz.prog 3 (plainElem Tryz.prog 3) w.heap.size k D ∧
      wr.rowIs (w.heap.size + 1) 3 n (rowAtK xs k) ∧ Below w.heap.size w wr)
    (fun _ _ _ _ i _ => n - (intOf i).toNat)
  case atStart =>
    refine ⟨0, .map [], Nat.zero_le _, rfl, by simpa [dist] using MapD.nil, (World.ownsMap_made _ _ _ _).alloc _, ?_, ((Below.refl _ _).alloc (Nat.le_refl _) _).alloc (by simp) _⟩
    have := World.rowIs_made (w.alloc (.map #[] 0)) (.int .i64 0) n 3
    exact (by simpa using this : World.rowIs _ (w.heap.size + 1) _ _ _).congr (fun i _ => by simp [rowAtK])
  case round =>
    obtain ⟨k, D, hk, rfl, hmd, hown, hrow, hB⟩ := hrel
    have hm := hown.size_le
    have hsz := hB.size
    have hrlt := hrow.lt
    have hmlt := hown.lt
    have HMD := Lib.hid hmd; have HOWN := Lib.hid hown; have HROW := Lib.hid hrow; have HB := Lib.hid hB
    clear hmd hown hrow hB
    by_cases hlt : k < n
    · obtain ⟨x, hx⟩ := getElem?_of_lt (xs := xs) (i := k) (by have := HNN.out; omega)
      obtain rfl := HS.out.ad (by have := HNN.out; omega)
      have hcx := (HS.out.below HB.out (Nat.le_refl _)).ci hx
      have hkey := keyOf_int_mk Tryz.underlying3 (HWF.out x (List.mem_of_getElem? hx))
      have hfr : wr.frozen? ⟨w.heap.size + 1, k, none⟩ = false := HROW.out.frozen k
      have hct := HROW.out.cell hlt
      have hkn : (k : Int) < (n : Int) := by omega
      have HX := Lib.hid hx
      clear hx
      by_cases hin : x ∈ dist (xs.take k)
      · have hh : Maps.has D (.int .i64 x) = true := by rw [HMD.out.has]; simp [hin]
        have HH := Lib.hid hh
        clear hh
        go_wp2_with (at_lookup; refine wpList_lookup_own_ok_int _ rfl _ _ 101 rfl 3 3 .i64 lawInt Tryz.underlying101 Tryz.underlying3 (zeroInt _) w.heap.size k D rfl HOWN.out _ _ rfl hkey ?_; intro cc hat hwc; rw [HH.out])
        have hcc : cc = (((dist (xs.take k)).idxOf x : Nat) : Int) := by
          have := HMD.out.key x hin
          rw [this] at hat
          simp only [DataW.lit.injEq, Lit.int.injEq] at hat
          exact hat.2.symm
        subst hcc
        have hd : dist (xs.take (k + 1)) = dist (xs.take k) := by rw [take_snoc HX.out, dist_snoc]; unfold addN; rw [if_pos hin]
        have hrw := (HROW.out.set k (.int .i64 ((dist (xs.take (k + 1))).idxOf x : Int))).congr (fun i _ => rowAtK_step HX.out i)
        rw [hd] at hrw
        have HD := Lib.hid hd; have HRW := Lib.hid hrw
        clear hd hrw
        go_roundw
        case rel => exact ⟨k + 1, D, by omega, by go_num, by rw [HD.out]; exact HMD.out, (HOWN.out.setCell (by simp) _).mono (Nat.le_succ _), HRW.out, HB.out.setCell (by simp) _⟩
        case measure => simp [intOf]; omega
      · have hh : Maps.has D (.int .i64 x) = false := by rw [HMD.out.has]; simp [hin]
        have HH := Lib.hid hh; have HIN := Lib.hid hin
        clear hh hin
        have hml := HMD.out.len
        have hdl : (dist (xs.take k)).length ≤ k := by omega
        have HML := Lib.hid hml
        clear hml
        go_wp2_with (first
          | (at_lookup; refine wpList_lookup_own_ok_int _ rfl _ _ 101 rfl 3 3 .i64 lawInt Tryz.underlying101 Tryz.underlying3 (zeroInt _) w.heap.size k D rfl HOWN.out _ _ rfl hkey ?_; intro cc hat hwc; rw [HH.out])
          | (at_len; refine wpList_len_own _ rfl _ 101 rfl 3 3 Tryz.underlying101 _ w.heap.size k D rfl HOWN.out ?_; rw [HML.out])
          | (at_mapUpdate; refine wpList_mapUpdate_own _ rfl _ _ _ 101 rfl 3 3 lawInt Tryz.underlying101 _ w.heap.size k D rfl HOWN.out (by unfold maxLen; omega) _ _ _ rfl rfl hkey _ [] (plainElem_int Tryz.underlying3 (WalkArith.wf_i64 (by omega))) ?_; intro w1 hown1 hgrow1; have hct1 := (HROW.out.of_block (hgrow1.block _ hrlt (by simp))).cell hlt; have hfr1 : w1.frozen? ⟨w.heap.size + 1, k, none⟩ = false := (HROW.out.of_block (hgrow1.block _ hrlt (by simp))).frozen k; have hrlt1 := (HROW.out.of_block (hgrow1.block _ hrlt (by simp))).lt))
        have hd : dist (xs.take (k + 1)) = dist (xs.take k) ++ [x] := by rw [take_snoc HX.out, dist_snoc]; unfold addN; rw [if_neg HIN.out]
        have hix : (dist (xs.take (k + 1))).idxOf x = (dist (xs.take k)).length := by rw [hd, List.idxOf_append]; simp [HIN.out]
        have hrow1 : w1.rowIs (w.heap.size + 1) 3 n (rowAtK xs k) := HROW.out.of_block (hgrow1.block _ hrlt (by simp))
        have hB1 := HB.out.grown hgrow1 hsz (fun j hj => by cases hj; exact Nat.le_refl _)
        have hmd1 := HMD.out.push (HOWN.out.tidy lawInt) HIN.out
        rw [← hd] at hmd1
        have hrw := (hrow1.set k (.int .i64 ((dist (xs.take (k + 1))).idxOf x : Int))).congr (fun i _ => rowAtK_step HX.out i)
        rw [hix] at hrw
        have HRW := Lib.hid hrw; have HB1 := Lib.hid hB1; have HMD1 := Lib.hid hmd1; have HOWN1 := Lib.hid hown1
        clear hd hix hrow1 hB1 hmd1 hrw hown1 hgrow1 hct hfr
        go_roundw
        case rel => exact ⟨k + 1, _, by omega, by go_num, HMD1.out, HOWN1.out.setCell (by simp) _, HRW.out, HB1.out.setCell (by simp) _⟩
        case measure => simp [intOf]; omega
    · obtain rfl : k = n := by omega
      go_wp2
      go_ret
      refine ⟨_, rfl, own_rowIs HROW.out (by rw [canon_len]; exact HNN.out.symm) ?_ (by unfold maxLen; omega) (by omega), HB.out⟩
      intro i x hx
      rw [canon_get] at hx
      obtain ⟨y, hy, rfl⟩ := Option.map_eq_some_iff.1 hx
      have hi := (List.getElem?_eq_some_iff.1 hy).1
      unfold rowAtK
      rw [if_pos (by have := HNN.out; omega), List.getD_eq_getElem?_getD, hy]; rfl
end Go.Proofs.YtkmljelgogcobaaGreatDoor

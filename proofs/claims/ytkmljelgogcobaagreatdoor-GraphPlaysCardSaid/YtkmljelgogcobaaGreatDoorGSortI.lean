/-
  slices.Sort at ints, by the shelf's contract, on a row of the call's own.
  system.Graph.Reach: the reachable states, rising.
-/
import Derived.Test.YtkmljelgogcobaaGreatDoorGOrder
import Derived.Lib.OwnBridge
import Derived.Sort.OwnSortedInts
import Derived.Test.YtkmljelgogcobaaGreatDoorNewC
import Derived.Test.YtkmljelgogcobaaGreatDoorGPl3
import Derived.Deep.DeepMust
namespace Go.Proofs.YtkmljelgogcobaaGreatDoor
open Go.RowKit Pl Go.Sort Go.Shelf Go.Lib

theorem flat_encI (L : List Int) : L.flatMap encI = L.map (Value.int .i64) := by
  induction L with
  | nil => rfl
  | cons x l ih => rw [List.flatMap_cons, ih]; rfl

theorem below_putRowI {w0 w : World} {B g m : Nat} {os : Array Obj} {d : Array Int} (h : RowKit.Below B w0 w) (hb : B ≤ g) (hg : g < w.heap.size) : RowKit.Below B w0 (grow (putRow (Value.int .i64) (Sort.ahead w m) g 0 d) os) :=
  h.trans ⟨rfl, rfl, rfl, by simp [grow, putRow, mapBlock, Sort.ahead], fun i hi => by
    unfold grow putRow mapBlock Sort.ahead
    simp only
    rw [Array.getElem?_append_left (by simp; omega), Array.getElem?_modify, if_neg (by omega)]⟩

theorem sortI_v {base : Nat} {v : Value} {L : List Int} {w : World} (h : w.ownsRow base 3 1 v L.length (L.flatMap encI)) (hl : L.length ≤ 1000000) :
    Calls Tryz.prog 62 #[v] w fun e w' => e = .returned (.tuple #[]) ∧
      w'.ownsRow base 3 1 v (L.mergeSort fun x y => decide (x ≤ y)).length ((L.mergeSort fun x y => decide (x ≤ y)).flatMap encI) ∧ (∀ {w0 : World}, RowKit.Below base w0 w → RowKit.Below base w0 w') := by
  have hlen : (L.mergeSort fun x y => decide (x ≤ y)).length = L.length := (List.mergeSort_perm L _).length_eq
  rw [flat_encI] at h
  rw [flat_encI, hlen]
  rcases h.2 with ⟨rfl, hn⟩ | ⟨g, cap, cur, rfl, hbg, hg, hnc, hcm, hcs, htake⟩
  · have hx : L = [] := List.eq_nil_of_length_eq_zero hn
    subst hx
    have hcon := Any.slices_Sort_int_none Tryz.sortI none 0 w
    change Calls Tryz.prog 62 _ _ _ at hcon
    refine hcon.mono ?_
    rintro e w' ⟨rfl, rfl⟩
    exact ⟨rfl, by simpa using h, fun hB => hB⟩
  · obtain ⟨g', cap', hv, _, hlt, _, _, _, hH⟩ := holds_of_ownsRow (enc := Value.int .i64) h (by simp)
    simp only [Value.slice.injEq, Option.some.injEq, Addr.mk.injEq, and_true, true_and] at hv
    obtain ⟨rfl, rfl⟩ := hv
    have hcon := Any.slices_Sort_int Tryz.sortI g 0 cap L w hH hlt (by omega)
    change Calls Tryz.prog 62 _ _ _ at hcon
    refine hcon.mono ?_
    rintro e w' ⟨rfl, m, os, rfl⟩
    exact ⟨rfl, ownsRow_sortedI hlen hbg hg hnc hcm hcs, fun hB => below_putRowI hB hbg hlt⟩

end Go.Proofs.YtkmljelgogcobaaGreatDoor

namespace Go.Proofs.YtkmljelgogcobaaGreatDoor
open Go.RowKit Pl Go.Sort

set_option maxRecDepth 100000 in
theorem reach_nil {w : World} {gb : Nat} {s : Lts} (h : GraphAt w gb s) (h0 : s.st = 0) :
    Calls Tryz.prog 16 #[.pointer (some ⟨gb, 0, none⟩)] w fun e w' => e = .returned (.slice none 0 0) ∧ Below w.heap.size w w' := by
  have HO := Lib.hid (getStates_any h); clear h
  have H0 := Lib.hid h0; clear h0
  go_enter Tryz.func16, Tryz.ntmps16
  go_wp2_with (go_at_call 43; refine (HO.out).mono ?_; rw [H0.out]; rintro e w1 ⟨rfl, hB⟩)
  go_ret
  exact ⟨rfl, hB⟩

/-- The world within Reach: the marks of what was seen, the list. -/
structure RW (w wr : World) (SB n : Nat) (L : List Int) (v : Value) : Prop where
  below : Below w.heap.size w wr
  seen : wr.rowIs SB 4 n (fun j => .bool (decide ((j : Int) ∈ L)))
  own : wr.ownsRow (SB + 1) 3 1 v L.length (L.flatMap encI)
  sb : w.heap.size ≤ SB

theorem RW.alloc {w wr : World} {SB n : Nat} {L : List Int} {v : Value} (h : RW w wr SB n L v) (o : Obj) : RW w (wr.alloc o) SB n L v :=
  ⟨h.below.alloc (by have := h.seen.lt; have := h.sb; omega) o, h.seen.alloc o, h.own.alloc o, h.sb⟩
theorem RW.call {w wr w' : World} {SB n : Nat} {L : List Int} {v : Value} (h : RW w wr SB n L v) (hB : Below wr.heap.size wr w') : RW w w' SB n L v :=
  ⟨h.below.trans (hB.mono (by have := h.seen.lt; have := h.sb; omega)), h.seen.of_block (hB.block _ h.seen.lt), own_below h.own hB, h.sb⟩
theorem RW.push {w wr w1 : World} {SB n : Nat} {L : List Int} {v v' : Value} {t : Nat} (h : RW w wr SB n L v) {o1 o2 : Obj} (hown : w1.ownsRow (SB + 1) 3 1 v' (L ++ [(t : Int)]).length ((L ++ [(t : Int)]).flatMap encI))
    (hg : (((wr.setCell ⟨SB, t, none⟩ (.bool true)).alloc o1).alloc o2).grownBy w1 v.ownBlock) : RW w w1 SB n (L ++ [(t : Int)]) v' := by
  have hlt := h.seen.lt
  have hsb := h.sb
  have hse := (((h.seen.set t (.bool true)).alloc o1).alloc o2)
  have hb : w1.heap[SB]? = _ := hg.block SB (by simp [World.setCell]; omega) (fun e => by have := (h.own.lt SB e.symm).1; omega)
  refine ⟨?_, (hse.of_block hb).congr (fun i _ => ?_), hown, hsb⟩
  · exact (((h.below.setCell hsb _).alloc (by simp [World.setCell]; omega) o1).alloc (by simp [World.setCell]; omega) o2).grown hg (by simp [World.setCell]; omega) (fun k hk => by have := (h.own.lt k hk).1; omega)
  · by_cases hi : i = t
    · subst hi; simp
    · rw [if_neg hi]; congr 1; simp only [List.mem_append, List.mem_singleton]
      have : ¬ ((i : Int) = (t : Int)) := by omega
      simp [this]

set_option maxRecDepth 100000 in
set_option maxHeartbeats 4000000 in
theorem reach_ok {w : World} {gb : Nat} {s : Lts} (h : GraphAt w gb s) (h0 : s.st ≠ 0) :
    Calls Tryz.prog 16 #[.pointer (some ⟨gb, 0, none⟩)] w fun e w' => ∃ v, e = .returned v ∧ w'.ownsRow w.heap.size 3 1 v (reachL s).length ((reachL s).flatMap encI) ∧ Below w.heap.size w w' := by
  have hst := h.right.st0
  obtain ⟨n, hn⟩ : ∃ n : Nat, s.st = (n : Int) := ⟨s.st.toNat, by omega⟩
  obtain ⟨z, hz⟩ : ∃ z : Nat, s.s0 = (z : Int) := ⟨s.s0.toNat, by omega⟩
  have hzn : z < n := by omega
  have hn1 : n ≤ 1000 := by omega
  have hgs := fun (w1 : World) (hB : Below w.heap.size w w1) => getStates_any (h.below hB)
  have hgt := fun (w1 : World) (hB : Below w.heap.size w w1) => getStart_any (h.below hB)
  rw [hn] at hgs; rw [hz] at hgt
  have HGS := Lib.hid hgs; have HGT := Lib.hid hgt; have HH := Lib.hid h; have HN := Lib.hid hn; have HZ := Lib.hid hz; have H0 := Lib.hid h0; have HST := Lib.hid hst
  have hmk := run_make_row' (P := Tryz.prog) 81 4 (.bool false) 1 Tryz.underlying81 (by kernel_rfl) rfl .i64 .i64 n (by omega) (by omega)
  have hnz : ((n : Int) == 0) = false := by simp; omega
  clear h hgs hgt hn hz h0 hst
  go_enter Tryz.func16, Tryz.ntmps16
  go_wp2_with fail
  refine (HGS.out w (Below.refl _ _)).mono ?_
  rintro e w1 ⟨rfl, hB1⟩
  have HB1 := Lib.hid hB1; clear hB1
  go_wp2_with fail
  refine (HGS.out w1 HB1.out).mono ?_
  rintro e w2 ⟨rfl, hB2⟩
  have hB2' := HB1.out.trans (hB2.mono HB1.out.size)
  have hs2 := hB2'.size
  have HB2 := Lib.hid hB2'; clear hB2 hB2'
  go_wp2_with fail
  have hB3 := HB2.out.alloc hs2 (Obj.cells (madeCells #[.bool false] n) 4)
  have hrow := World.rowIs_made w2 (.bool false) n 4
  refine (HGT.out _ hB3).mono ?_
  rintro e w4 ⟨rfl, hB4⟩
  have hs4 : w2.heap.size + 1 ≤ w4.heap.size := by have := hB4.size; simpa using this
  have hB4' := hB3.trans (hB4.mono (by simp; omega))
  have hrow4 : w4.rowIs w2.heap.size 4 n (fun _ => .bool false) := hrow.of_block (hB4.block _ (by simp))
  have c1 : w4.cell? ⟨w2.heap.size, z, none⟩ = some (.bool false) := hrow4.cell hzn
  have f1 : w4.frozen? ⟨w2.heap.size, z, none⟩ = false := hrow4.frozen z
  have hzn' : (z : Int) < (n : Int) := by omega
  have hlt4 : w2.heap.size < w4.heap.size := by omega
  have HB4 := Lib.hid hB4'; have HR4 := Lib.hid hrow4
  clear hmk hB3 hrow hB4 hB4' hrow4
  go_wp2_with fail
  have hB5 := HB4.out.setCell (p := ⟨w2.heap.size, z, none⟩) hs2 (.bool true)
  have hrow5 := HR4.out.set z (.bool true)
  refine (HGT.out _ hB5).mono ?_
  rintro e w6 ⟨rfl, hB6⟩
  have hs6 : w4.heap.size ≤ w6.heap.size := by have := hB6.size; simpa [World.setCell] using this
  have hB6' := hB5.trans (hB6.mono (by simp [World.setCell]; omega))
  have hrow6 := hrow5.of_block (hB6.block _ (by simpa [World.setCell] using hlt4))
  have hRW : RW w (w6.alloc (.cells #[.int .i64 z] 3)) w2.heap.size n [(z : Int)] (.slice (some ⟨w6.heap.size, 0, none⟩) 1 1) := by
    refine ⟨hB6'.alloc (by omega) _, (hrow6.alloc _).congr (fun i _ => ?_), ?_, hs2⟩
    · by_cases hi : i = z
      · subst hi; simp
      · rw [if_neg hi]
        have : ¬ ((i : Int) = (z : Int)) := by omega
        simp [this]
    · exact World.ownsRow_lit w6 #[.int .i64 z] 1 (by omega) (by unfold maxLen; omega) rfl
  have HRW := Lib.hid hRW
  clear c1 f1 hB5 hrow5 hB6 hB6' hrow6 hRW
  go_wp2_with fail
  have hbfs : Bfs s [(z : Int)] 0 := by have := Bfs.start HH.out.right H0.out; rw [HZ.out] at this; exact this
  have HBF := Lib.hid hbfs; clear hbfs
  obtain ⟨SB, hSB⟩ : ∃ SB, SB = w2.heap.size := ⟨_, rfl⟩
  rw [← hSB] at HRW ⊢
  clear HB4 HR4 hSB hs4 hs6 hs2 hlt4
  go_loopw [4, 5] (fun v4 i5 wr => ∃ (L : List Int) (i : Nat) (a : Option Addr) (c : Nat), v4 = .slice a L.length c ∧ i5 = .int .i64 i ∧ i ≤ L.length ∧ Bfs s L i ∧ RW w wr SB n L (.slice a L.length c))
    (fun _ i5 _ => n - (intOf i5).toNat)
  case atStart => exact ⟨[(z : Int)], 0, _, _, rfl, rfl, by simp, HBF.out, HRW.out⟩
  case round =>
    obtain ⟨L, i, a, c, rfl, rfl, hiL, hbf, hrw⟩ := hrel
    have hLn : L.length ≤ n := by have := hbf.len; rw [HN.out] at this; simpa using this
    have HB := Lib.hid hbf; have HW := Lib.hid hrw
    clear hbf hrw HBF HRW
    by_cases hlt : i < L.length
    · obtain ⟨x, hx⟩ := getElem?_of_lt hlt
      obtain ⟨ga, gc, g, hv, _, _, hsl, _⟩ := slAt_own lenI HW.out.own
      simp only [Value.slice.injEq] at hv
      obtain ⟨rfl, _, rfl⟩ := hv
      obtain rfl := hsl.ad (by omega)
      have hcx := hsl.ci hx
      simp only [Nat.zero_add] at hcx
      have hix : (i : Int) < (L.length : Int) := by omega
      have hea := each_any HH.out HW.out.below x
      have HEA := Lib.hid hea
      have HX := Lib.hid hx
      clear hsl hx hea
      go_wp2_with fail
      refine (HEA.out).mono ?_
      rintro e wb ⟨⟨a2, c2, b2, off2, rfl, hc2, hm2, hss⟩, hBb⟩
      have hRWb := HW.out.call hBb
      have HRWb := Lib.hid hRWb; have HSS := Lib.hid hss
      clear hRWb hss hBb hcx
      have hsslen : (s.outs x).length ≤ 10000 := outs_len HH.out.right x
      go_wp2_with fail
      go_loopw [4, 7, 34] (fun v4 _ i34 wr => ∃ (L : List Int) (r : Nat) (a : Option Addr) (c : Nat), v4 = .slice a L.length c ∧ i34 = .int .i64 r ∧ r ≤ (s.outs x).length ∧ Bfs s L i ∧ L[i]? = some x ∧ (∀ y ∈ (s.outs x).take r, y.2 ∈ L) ∧ RW w wr SB n L (.slice a L.length c))
        (fun _ _ i34 _ => (s.outs x).length - (intOf i34).toNat)
      case atStart => exact ⟨L, 0, _, _, rfl, rfl, by simp, HB.out, HX.out, by simp, HRWb.out⟩
      case round =>
        obtain ⟨M, r, a3, c3, rfl, rfl, hr, hbf, hMx, hty, hrw⟩ := hrel
        have HB2 := Lib.hid hbf; have HW2 := Lib.hid hrw; have HMX := Lib.hid hMx; have HTY := Lib.hid hty
        clear hbf hrw hMx hty HB HW HRWb
        by_cases hltr : r < (s.outs x).length
        · obtain ⟨y, hy⟩ := getElem?_of_lt hltr
          have hss' := HSS.out.below HW2.out.below (Nat.le_refl _)
          obtain rfl := hss'.ad (by omega)
          have d0 := hss'.s0 hy; have d1 := hss'.s1 hy
          have hbl := hss'.lt (by omega)
          have hym := List.mem_of_getElem? hy
          have hyr := offB_false.1 (HH.out.right.edges _ (mem_outs.1 hym))
          simp only at hyr
          obtain ⟨y1, y2⟩ := y
          obtain ⟨t, ht⟩ : ∃ t : Nat, y2 = (t : Int) := ⟨y2.toNat, by simp only at hyr; omega⟩
          subst ht
          simp only at d0 d1 hyr
          have htn : t < n := by have := HN.out; omega
          have htn' : (t : Int) < (n : Int) := by omega
          have hct : wr.cell? ⟨SB, t, none⟩ = some (.bool (decide ((t : Int) ∈ M))) := HW2.out.seen.cell htn
          have hft : wr.frozen? ⟨SB, t, none⟩ = false := HW2.out.seen.frozen t
          have hsb : SB < wr.heap.size := HW2.out.seen.lt
          have HY := Lib.hid hy; have HYM := Lib.hid hym
          clear hss' hy hym hyr
          by_cases hin : (t : Int) ∈ M
          · have hd : decide ((t : Int) ∈ M) = true := by simp [hin]
            rw [hd] at hct
            have HIN := Lib.hid hin
            clear hd hin
            go_wp2
            go_roundw
            case rel => exact ⟨M, r + 1, _, _, rfl, by go_num, by omega, HB2.out, HMX.out, by
              intro y hy
              rw [take_snoc HY.out] at hy
              rcases List.mem_append.1 hy with h1 | h1
              · exact HTY.out y h1
              · simp at h1; subst h1; exact HIN.out, HW2.out.alloc _⟩
            case measure => simp [intOf]; omega
          · have hd : decide ((t : Int) ∈ M) = false := by simp [hin]
            rw [hd] at hct
            have HIN := Lib.hid hin
            clear hd hin
            have hML : M.length ≤ n := by have := HB2.out.len; rw [HN.out] at this; simpa using this
            go_wp2_with (at_builtin; go_must (refine wpList_app1 rfl _ _ _ rfl rowI (Below.refl _ _) (by simp [World.setCell]; omega) rfl (World.ownsRow.alloc (World.ownsRow.alloc (ownsRow_setCell_below HW2.out.own (a := ⟨SB, t, none⟩) (Nat.lt_succ_self SB) (.bool true)) _) _) ⟨wr.heap.size + 1, 0, none⟩ 1 1 [.int .i64 t] rfl rfl (cells1 (by simp [go_sem, World.setCell])) (by simp [Value.oneCell']) (by decide) (by omega) (by unfold maxLen; omega) ?_); intro g2 cap2 w7 hown7 _ hg7)
            have hpush := RW.push (v' := .slice (some ⟨g2, 0, none⟩) (M.length + 1) cap2) HW2.out (by rw [List.length_append, List.flatMap_append]; exact hown7) hg7
            have hbp := Bfs.push HH.out.right HB2.out HMX.out HYM.out HIN.out
            have HP := Lib.hid hpush; have HBP := Lib.hid hbp
            clear hpush hbp hown7 hg7
            go_roundw
            case rel => exact ⟨M ++ [(t : Int)], r + 1, _, _, by rw [List.length_append]; rfl, by go_num, by omega, HBP.out, by
              rw [List.getElem?_append_left (by have := (List.getElem?_eq_some_iff.1 HMX.out).1; omega)]; exact HMX.out, by
              intro y hy
              rw [take_snoc HY.out] at hy
              rcases List.mem_append.1 hy with h1 | h1
              · exact List.mem_append_left _ (HTY.out y h1)
              · simp at h1; subst h1; simp, by rw [List.length_append]; exact HP.out⟩
            case measure => simp [intOf]; omega
        · have hall : ∀ y ∈ s.outs x, y.2 ∈ M := by
            intro y hy
            have := HTY.out
            rw [List.take_of_length_le (by omega)] at this
            exact this y hy
          have hnx := Bfs.next HB2.out HMX.out hall
          have hMn : M.length ≤ n := by have := HB2.out.len; rw [HN.out] at this; simpa using this
          have hiM : i < M.length := (List.getElem?_eq_some_iff.1 HMX.out).1
          have HNX := Lib.hid hnx
          clear hall hnx HTY
          go_wp2
          go_roundw
          case rel => exact ⟨M, i + 1, _, _, rfl, by go_num, by omega, HNX.out, HW2.out⟩
          case measure => simp [intOf]; omega
    · obtain rfl : i = L.length := by omega
      go_wp2_with fail
      refine (sortI_v HW.out.own (by omega)).mono ?_
      rintro e w8 ⟨rfl, hown8, hB8⟩
      rw [reach_of HH.out.right H0.out HB.out] at hown8
      have hb8 := hB8 (w0 := wr) (RowKit.Below.refl _ _)
      have hsb := HW.out.sb
      have hBf : RowKit.Below w.heap.size w w8 := HW.out.below.trans (hb8.mono (by omega))
      have HO8 := Lib.hid hown8; have HBF8 := Lib.hid hBf
      clear hown8 hBf hb8 hB8
      go_wp2
      go_ret
      exact ⟨_, rfl, own_mono HO8.out (by omega), HBF8.out⟩
end Go.Proofs.YtkmljelgogcobaaGreatDoor

/-
  Lemmas.
-/
import Derived.Test.YtffjcehopoaboaaGreatDoorGOrder
import Derived.Lib.OwnBridge
import Derived.Sort.OwnSortedInts
import Derived.Test.YtffjcehopoaboaaGreatDoorNewC
import Derived.Test.YtffjcehopoaboaaGreatDoorGPl8
import Derived.Deep.DeepMust
import Derived.Test.YtffjcehopoaboaaGreatDoorGPlT
namespace Go.Proofs.YtffjcehopoaboaaGreatDoor
open Go.RowKit Pl Go.Sort Go.Shelf Go.Lib
end Go.Proofs.YtffjcehopoaboaaGreatDoor
namespace Go.Proofs.YtffjcehopoaboaaGreatDoor
open Go.RowKit Pl Go.Sort
structure RW (w wr : World) (SB n : Nat) (L : List Int) (v : Value) : Prop where
  below : Below w.heap.size w wr
  seen : wr.rowIs SB 4 n (fun j => .bool (decide ((j : Int) ∈ L)))
  own : wr.ownsRow (SB + 1) 3 1 v L.length (L.flatMap encI)
  sb : w.heap.size ≤ SB
theorem RW.alloc {w wr : World} {SB n : Nat} {L : List Int} {v : Value} (h : RW w wr SB n L v) (o : Obj) : RW w (wr.alloc o) SB n L v :=
  ⟨h.below.alloc (by have := h.seen.lt; have := h.sb; omega) o, h.seen.alloc o, h.own.alloc o, h.sb⟩
theorem RW.call {w wr w' : World} {SB n : Nat} {L : List Int} {v : Value} (h : RW w wr SB n L v) (hB : Below wr.heap.size wr w') : RW w w' SB n L v :=
  ⟨h.below.trans (hB.mono (by have := h.seen.lt; have := h.sb; omega)), h.seen.of_block (hB.block _ h.seen.lt), own_below h.own hB, h.sb⟩
theorem RW.push {w wr w1 : World} {SB n : Nat} {L : List Int} {v v' : Value} {t : Nat} (h : RW w wr SB n L v) {o1 o2 : Obj} (hown : w1.ownsRow (SB + 1) 3 1 v' (L ++ [(t : Int)]).length ((L ++ [(t : Int)]).flatMap encI))
    (hg : (((wr.setCell ⟨SB, t, none⟩ (.bool true)).alloc o1).alloc o2).grownBy w1 v.ownBlock) : RW w w1 SB n (L ++ [(t : Int)]) v' := by
  have hlt := h.seen.lt
  have hsb := h.sb
  have hse := (((h.seen.set t (.bool true)).alloc o1).alloc o2)
  have hb : w1.heap[SB]? = _ := hg.block SB (by simp [World.setCell]; omega) (fun e => by have := (h.own.lt SB e.symm).1; omega)
  refine ⟨?_, (hse.of_block hb).congr (fun i _ => ?_), hown, hsb⟩
  · exact (((h.below.setCell hsb _).alloc (by simp [World.setCell]; omega) o1).alloc (by simp [World.setCell]; omega) o2).grown hg (by simp [World.setCell]; omega) (fun k hk => by have := (h.own.lt k hk).1; omega)
  · by_cases hi : i = t
    · subst hi; simp
    · rw [if_neg hi]; congr 1; simp only [List.mem_append, List.mem_singleton]
      have : ¬ ((i : Int) = (t : Int)) := by omega
      simp [this]
end Go.Proofs.YtffjcehopoaboaaGreatDoor
namespace Go.Proofs.YtffjcehopoaboaaGreatDoor
open Go.RowKit Pl
open Lib (hid)
set_option maxRecDepth 100000 in
set_option maxHeartbeats 4000000 in
theorem silent_any {w0 w : World} {gb : Nat} {s : Lts} (h : GraphAt w0 gb s) (hB0 : Below w0.heap.size w0 w) {n : Nat} (hn : s.st = (n : Int)) {q : Nat} (hq : q < n) :
    Calls Tryz.prog 149 #[.pointer (some ⟨gb, 0, none⟩), .int .i64 q] w fun e w' => ∃ (L : List Int) (v : Value), Bfs (tauOf s q) L L.length ∧ e = .returned v ∧ w'.ownsRow w.heap.size 3 1 v L.length (L.flatMap encI) ∧ Below w.heap.size w w' := by
  have hst := h.right.st0
  have hnn : n ≤ 1000 := by omega
  have hR := tauOf_right (q := (q : Int)) h.right (by omega) (by omega)
  have hgs := getStates_any (h.below hB0)
  rw [hn] at hgs
  have hmk := run_make_row' (P := Tryz.prog) 57 4 (.bool false) 1 Tryz.underlying57 (by kernel_rfl) rfl .i64 .i64 n (by omega) (by omega)
  have hbfs : Bfs (tauOf s q) [(q : Int)] 0 := Bfs.start hR (by show s.st ≠ 0; omega)
  have hqI : (q : Int) < (n : Int) := by omega
  have HGS := hid hgs; have HH := hid h; have HN := hid hn; have HR := hid hR; have HBF := hid hbfs; have HB0 := hid hB0
  clear h hgs hn hR hbfs hst hB0
  go_enter Tryz.func149, Tryz.ntmps149
  go_wp2_with fail
  refine HGS.out.mono ?_
  rintro e w2 ⟨rfl, hB2⟩
  have HB2 := hid hB2
  have hs2 := hB2.size
  clear hB2 HGS
  go_upto_region 2 with fail
  obtain ⟨W, hW⟩ : ∃ W, W = w2.alloc (Obj.cells (madeCells #[.bool false] n) 4) := ⟨_, rfl⟩
  have hrow : W.rowIs w2.heap.size 4 n (fun _ => .bool false) := by rw [hW]; exact World.rowIs_made w2 (.bool false) n 4
  have hbw : Below w.heap.size w W := by rw [hW]; exact HB2.out.alloc hs2 _
  have c1 : W.cell? ⟨w2.heap.size, q, none⟩ = some (.bool false) := hrow.cell hq
  have f1 : W.frozen? ⟨w2.heap.size, q, none⟩ = false := hrow.frozen q
  have hl1 := hrow.lt
  rw [← hW]
  have hrw : RW w ((W.setCell ⟨w2.heap.size, q, none⟩ (.bool true)).alloc (.cells #[.int .i64 q] 3)) w2.heap.size n [(q : Int)] (.slice (some ⟨W.heap.size, 0, none⟩) 1 1) := by
    have hz : (W.setCell ⟨w2.heap.size, q, none⟩ (.bool true)).heap.size = W.heap.size := size_setCell _ _ _
    refine ⟨(hbw.setCell hs2 _).alloc (by rw [hz]; omega) _, ((hrow.set q (.bool true)).alloc _).congr (fun i _ => ?_), ?_, hs2⟩
    · by_cases hi : i = q
      · subst hi; simp
      · rw [if_neg hi]
        have : ¬ ((i : Int) = (q : Int)) := by omega
        simp [this]
    · have := World.ownsRow_lit (e := 3) (size := 1) (base := w2.heap.size + 1) (W.setCell ⟨w2.heap.size, q, none⟩ (.bool true)) #[.int .i64 q] 1 (by rw [hz]; omega) (by unfold maxLen; omega) rfl
      rw [hz] at this
      exact this
  have HRW := hid hrw
  obtain ⟨SB, hSB⟩ : ∃ SB, SB = w2.heap.size := ⟨_, rfl⟩
  rw [← hSB] at HRW c1 f1 hl1 ⊢
  clear hW hrow hbw hrw hmk HB2 hs2 hSB
  go_wp2_with fail
  clear c1 f1 hl1
  go_loopw [6, 7] (fun v6 i7 wr => ∃ (L : List Int) (i : Nat) (a : Option Addr) (c : Nat), v6 = .slice a L.length c ∧ i7 = .int .i64 i ∧ i ≤ L.length ∧ Bfs (tauOf s q) L i ∧ RW w wr SB n L (.slice a L.length c))
    (fun _ i7 _ => n - (intOf i7).toNat)
  case atStart => exact ⟨[(q : Int)], 0, _, _, rfl, rfl, by simp, HBF.out, HRW.out⟩
  case round =>
    obtain ⟨L, i, a, c, rfl, rfl, hiL, hbf, hrw⟩ := hrel
    have hLn : L.length ≤ n := by have := hbf.len; have h2 : (tauOf s q).st = (n : Int) := HN.out; rw [h2] at this; simpa using this
    have HB := hid hbf; have HW := hid hrw
    clear hbf hrw HBF HRW
    by_cases hlt : i < L.length
    · obtain ⟨x, hx⟩ := getElem?_of_lt hlt
      obtain ⟨ga, gc, g, hv, _, _, hsl, _⟩ := slAt_own lenI HW.out.own
      simp only [Value.slice.injEq] at hv
      obtain ⟨rfl, _, rfl⟩ := hv
      obtain rfl := hsl.ad (by omega)
      have hcx := hsl.ci hx
      have hcl := hsl.lt (by omega)
      simp only [Nat.zero_add] at hcx
      have hix : (i : Int) < (L.length : Int) := by omega
      have hea := each_any HH.out (HB0.out.trans (HW.out.below.mono HB0.out.size)) x
      have HEA := hid hea
      have HX := hid hx
      clear hsl hx hea
      go_wp2_with fail
      refine (HEA.out).mono ?_
      rintro e wb ⟨⟨a2, c2, b2, off2, rfl, hc2, hm2, hss⟩, hBb⟩
      have hRWb := HW.out.call hBb
      have HRWb := hid hRWb; have HSS := hid hss
      clear hRWb hss hBb hcx
      have hsslen : (s.outs x).length ≤ 10000 := outs_len HH.out.right x
      go_wp2_with fail
      go_loopw [6, 9, 31] (fun v6 _ i31 wr => ∃ (L : List Int) (r : Nat) (a : Option Addr) (c : Nat), v6 = .slice a L.length c ∧ i31 = .int .i64 r ∧ r ≤ (s.outs x).length ∧ Bfs (tauOf s q) L i ∧ L[i]? = some x ∧ (∀ y ∈ (s.outs x).take r, y.1 = 0 → y.2 ∈ L) ∧ RW w wr SB n L (.slice a L.length c))
        (fun _ _ i31 _ => (s.outs x).length - (intOf i31).toNat)
      case atStart => exact ⟨L, 0, _, _, rfl, rfl, by simp, HB.out, HX.out, by simp, HRWb.out⟩
      case round =>
        obtain ⟨M, r, a3, c3, rfl, rfl, hr, hbf, hMx, hty, hrw⟩ := hrel
        have HB2 := hid hbf; have HW2 := hid hrw; have HMX := hid hMx; have HTY := hid hty
        clear hbf hrw hMx hty HB HW HRWb
        by_cases hltr : r < (s.outs x).length
        · obtain ⟨y, hy⟩ := getElem?_of_lt hltr
          have hss' := HSS.out.below (HB0.out.trans (HW2.out.below.mono HB0.out.size)) (Nat.le_refl _)
          obtain rfl := hss'.ad (by omega)
          have d0 := hss'.s0 hy; have d1 := hss'.s1 hy
          have hbl := hss'.lt (by omega)
          have hym := List.mem_of_getElem? hy
          have hyr := offB_false.1 (HH.out.right.edges _ (mem_outs.1 hym))
          simp only at hyr
          obtain ⟨y1, y2⟩ := y
          obtain ⟨t, ht⟩ : ∃ t : Nat, y2 = (t : Int) := ⟨y2.toNat, by simp only at hyr; omega⟩
          subst ht
          simp only at d0 d1 hyr
          have htn : t < n := by have := HN.out; omega
          have htn' : (t : Int) < (n : Int) := by omega
          have hct : wr.cell? ⟨SB, t, none⟩ = some (.bool (decide ((t : Int) ∈ M))) := HW2.out.seen.cell htn
          have hft : wr.frozen? ⟨SB, t, none⟩ = false := HW2.out.seen.frozen t
          have hsb : SB < wr.heap.size := HW2.out.seen.lt
          have HY := hid hy; have HYM := hid hym
          clear hss' hy hym hyr
          by_cases hy0 : y1 = 0
          · subst hy0
            by_cases hin : (t : Int) ∈ M
            · have hd : decide ((t : Int) ∈ M) = true := by simp [hin]
              rw [hd] at hct
              have hty2 : ∀ y ∈ (s.outs x).take (r + 1), y.1 = 0 → y.2 ∈ M := by
                intro y hy
                rw [take_snoc HY.out] at hy
                rcases List.mem_append.1 hy with h1 | h1
                · exact HTY.out y h1
                · simp at h1; subst h1; exact fun _ => hin
              have HTY2 := hid hty2
              clear hd hin hty2
              go_wp2
              go_roundw
              case rel => exact ⟨M, r + 1, _, _, rfl, by go_num, by omega, HB2.out, HMX.out, HTY2.out, HW2.out.alloc _⟩
              case measure => simp [intOf]; omega
            · have hd : decide ((t : Int) ∈ M) = false := by simp [hin]
              rw [hd] at hct
              have HIN := hid hin
              clear hd hin
              have hML : M.length ≤ n := by have := HB2.out.len; have h2 : (tauOf s q).st = (n : Int) := HN.out; rw [h2] at this; simpa using this
              go_wp2_with (at_builtin; go_must (refine wpList_app1 rfl _ _ _ rfl rowI (Below.refl _ _) (by simp [World.setCell]; omega) rfl (World.ownsRow.alloc (World.ownsRow.alloc (ownsRow_setCell_below HW2.out.own (a := ⟨SB, t, none⟩) (Nat.lt_succ_self SB) (.bool true)) _) _) ⟨wr.heap.size + 1, 0, none⟩ 1 1 [.int .i64 t] rfl rfl (cells1 (by simp [go_sem, World.setCell])) (by simp [Value.oneCell']) (by decide) (by omega) (by unfold maxLen; omega) ?_); intro g2 cap2 w7 hown7 _ hg7)
              have hpush := RW.push (v' := .slice (some ⟨g2, 0, none⟩) (M.length + 1) cap2) HW2.out (by rw [List.length_append, List.flatMap_append]; exact hown7) hg7
              have hbp := Bfs.push HR.out HB2.out HMX.out (mem_tauOf.2 ⟨HYM.out, rfl⟩) HIN.out
              have hty2 : ∀ y ∈ (s.outs x).take (r + 1), y.1 = 0 → y.2 ∈ M ++ [(t : Int)] := by
                intro y hy h0
                rw [take_snoc HY.out] at hy
                rcases List.mem_append.1 hy with h1 | h1
                · exact List.mem_append_left _ (HTY.out y h1 h0)
                · simp at h1; subst h1; simp
              have HP := hid hpush; have HBP := hid hbp; have HTY2 := hid hty2
              clear hpush hbp hown7 hg7 hty2
              go_roundw
              case rel => exact ⟨M ++ [(t : Int)], r + 1, _, _, by rw [List.length_append]; rfl, by go_num, by omega, HBP.out, by
                rw [List.getElem?_append_left (by have := (List.getElem?_eq_some_iff.1 HMX.out).1; omega)]; exact HMX.out, HTY2.out, by rw [List.length_append]; exact HP.out⟩
              case measure => simp [intOf]; omega
          · have hb : (y1 == 0) = false := by simp [hy0]
            have hty2 : ∀ y ∈ (s.outs x).take (r + 1), y.1 = 0 → y.2 ∈ M := by
              intro y hy h0
              rw [take_snoc HY.out] at hy
              rcases List.mem_append.1 hy with h1 | h1
              · exact HTY.out y h1 h0
              · simp at h1; subst h1; exact absurd h0 hy0
            have HTY2 := hid hty2
            clear hy0 hty2
            go_wp2
            go_roundw
            case rel => exact ⟨M, r + 1, _, _, rfl, by go_num, by omega, HB2.out, HMX.out, HTY2.out, HW2.out.alloc _⟩
            case measure => simp [intOf]; omega
        · have hall : ∀ y ∈ (tauOf s q).outs x, y.2 ∈ M := by
            intro y hy
            have := HTY.out
            rw [List.take_of_length_le (by omega)] at this
            exact this y (mem_tauOf.1 hy).1 (mem_tauOf.1 hy).2
          have hnx := Bfs.next HB2.out HMX.out hall
          have hMn : M.length ≤ n := by have := HB2.out.len; have h2 : (tauOf s q).st = (n : Int) := HN.out; rw [h2] at this; simpa using this
          have hiM : i < M.length := (List.getElem?_eq_some_iff.1 HMX.out).1
          have HNX := hid hnx
          clear hall hnx HTY
          go_wp2
          go_roundw
          case rel => exact ⟨M, i + 1, _, _, rfl, by go_num, by omega, HNX.out, HW2.out⟩
          case measure => simp [intOf]; omega
    · obtain rfl : i = L.length := by omega
      go_wp2_with fail
      go_ret
      exact ⟨L, _, HB.out, rfl, own_mono HW.out.own (by have := HW.out.sb; omega), HW.out.below⟩
end Go.Proofs.YtffjcehopoaboaaGreatDoor

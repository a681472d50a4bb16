/-
  tauscc.cycles: the classes of a graph's cycles of silent steps.
-/
import Derived.Test.YtkmljelgogcobaaGreatDoorTauF
import Derived.Test.YtkmljelgogcobaaGreatDoorGPl10
import Derived.Test.YtkmljelgogcobaaGreatDoorCanon
namespace Go.Proofs.YtkmljelgogcobaaGreatDoor
open Go.RowKit Pl

def t0S : TS := ⟨fun _ => 0, fun _ => 0, fun _ => 0, [], 0, 0⟩

theorem row_of_heap {w2 : World} {z : Value} {n b : Nat} {T : TypeId} (h : w2.heap[b]? = some (.cells (madeCells #[z] n) T (0, 0))) : w2.rowIs b T n (fun _ => z) :=
  ⟨_, h, size_madeCells _ _, fun i hi => by simp [madeCells, hi, Nat.mod_one]⟩

/-- The walk's world at its start. -/
theorem TW.start {w0 W : World} {WB LB NB IB CB n : Nat} {gp : Value}
    (hw : W.heap[WB]? = some (.cells #[gp, .slice (some ⟨LB, 0, none⟩) n n, .slice (some ⟨NB, 0, none⟩) n n, .slice none 0 0, .slice (some ⟨IB, 0, none⟩) n n, .slice (some ⟨CB, 0, none⟩) n n, .int .i64 0, .int .i64 0, .slice none 0 0] 178 (0, 0)))
    (hl : W.heap[LB]? = some (.cells (madeCells #[.int .i64 0] n) 3 (0, 0))) (hn : W.heap[NB]? = some (.cells (madeCells #[.int .i64 0] n) 3 (0, 0)))
    (hi : W.heap[IB]? = some (.cells (madeCells #[.bool false] n) 4 (0, 0))) (hc : W.heap[CB]? = some (.cells (madeCells #[.int .i64 0] n) 3 (0, 0)))
    (hB : Below w0.heap.size w0 W) (hlo : w0.heap.size ≤ WB ∧ w0.heap.size ≤ LB ∧ w0.heap.size ≤ NB ∧ w0.heap.size ≤ IB ∧ w0.heap.size ≤ CB)
    (hne : WB ≠ LB ∧ WB ≠ NB ∧ WB ≠ IB ∧ WB ≠ CB ∧ LB ≠ NB ∧ LB ≠ IB ∧ LB ≠ CB ∧ NB ≠ IB ∧ NB ≠ CB ∧ IB ≠ CB) :
    TWS w0 W W.heap.size WB LB NB IB CB n gp t0S [] (.slice none 0 0) (.slice none 0 0) := by
  have h1 := (Array.getElem?_eq_some_iff.1 hw).1
  have h2 := (Array.getElem?_eq_some_iff.1 hl).1
  have h3 := (Array.getElem?_eq_some_iff.1 hn).1
  have h4 := (Array.getElem?_eq_some_iff.1 hi).1
  have h5 := (Array.getElem?_eq_some_iff.1 hc).1
  obtain ⟨q1, q2, q3, q4, q5, q6, q7, q8, q9, q10⟩ := hne
  exact ⟨⟨⟨hlo.1, hlo.2.1, hlo.2.2.1, hlo.2.2.2.1, hlo.2.2.2.2, hB.size⟩, ⟨h1, h2, h3, h4, h5⟩, ⟨q1, q2, q3, q4⟩, ⟨q5, q6, q7⟩, ⟨q8, q9, q10⟩⟩, hB, Nat.le_refl _, hw, row_of_heap hl, row_of_heap hn, (row_of_heap hi).congr (fun i _ => by simp [t0S]), row_of_heap hc,
    World.ownsRow_nil _ _ _ _, World.ownsRow_nil _ _ _ _, fun g hg => by simp [Value.ownBlock] at hg⟩

theorem wfI {x : Int} (h0 : 0 ≤ x) (h1 : x ≤ 1000000) : (Lit.int .i64 x).wf = true := by
  rw [show x = ((x.toNat : Nat) : Int) by omega]
  exact WalkArith.wf_i64 (by omega)
/-- A row of numbers reads as a list. -/
theorem slAt_row1 {w : World} {tb n : Nat} {f : Nat → Int} (h : w.rowIs tb 3 n (fun j => .int .i64 (f j))) : SlAt encI 1 w (some ⟨tb, 0, none⟩) tb 0 (fl n f) :=
  ⟨fun _ => rfl, fun _ => h.lt, fun i x hx j u hu => by
    have hi := (List.getElem?_eq_some_iff.1 hx).1
    rw [fl_len] at hi
    have hxe : x = f i := by
      rw [fl_get f hi] at hx
      simpa using hx.symm
    have hj := (List.getElem?_eq_some_iff.1 hu).1
    rw [lenI] at hj
    obtain rfl : j = 0 := by omega
    have h2 := h.cell hi
    simp only [encI, List.getElem?_cons_zero, Option.some.injEq] at hu
    rw [← hu, hxe, Nat.zero_add, Nat.mul_one, Nat.add_zero]
    exact h2⟩

/-- What cycles answers. -/
def CycPost (s : Lts) (n : Nat) (w : World) (e : Ending) (w' : World) : Prop :=
  ∃ (f : Nat → Int) (v : Value), Cyc s n f ∧ e = .returned v ∧ w'.ownsRow w.heap.size 3 1 v n ((fl n (clf n f)).flatMap encI) ∧ Below w.heap.size w w'

set_option maxRecDepth 100000 in
set_option maxHeartbeats 8000000 in
theorem cycles_any {s : Lts} {w : World} {gb n : Nat} (hG : GraphAt w gb s) (hn : s.st = (n : Int)) :
    Calls Tryz.prog 113 #[.pointer (some ⟨gb, 0, none⟩)] w (CycPost s n w) := by
  have hst := hG.right.st0
  have hn1 : n ≤ 1000 := by omega
  have hgs := getStates_any hG
  rw [hn] at hgs
  have HGS := Lib.hid hgs; have HG := Lib.hid hG; have HN := Lib.hid hn
  have hmk := run_make_row' (P := Tryz.prog) 49 3 (.int .i64 0) 8 Tryz.underlying49 (by kernel_rfl) rfl .i64 .i64 n (by omega) (by omega)
  have hmb := run_make_row' (P := Tryz.prog) 81 4 (.bool false) 1 Tryz.underlying81 (by kernel_rfl) rfl .i64 .i64 n (by omega) (by omega)
  clear hgs hG hn hst
  go_enter Tryz.func113, Tryz.ntmps113
  go_wp2_with fail
  refine HGS.out.mono ?_
  rintro e w1 ⟨rfl, hB1⟩
  have HB1 := Lib.hid hB1
  clear hB1
  go_upto_region 2 with fail
  go_cut [4] from 6 to 18 (fun s4 wx => ∃ (WB LB NB IB CB B : Nat), s4 = .pointer (some ⟨WB, 0, none⟩) ∧ TWS w1 wx B WB LB NB IB CB n (.pointer (some ⟨gb, 0, none⟩)) t0S [] (.slice none 0 0) (.slice none 0 0))
  case first =>
    go_region
    all_goals
      go_wp2_with fail
      go_meet
      refine ⟨_, _, _, _, _, _, rfl, TW.start (heap_alloc_at _ _ _ (by simp)) ?_ ?_ ?_ ?_ ?_ ?_ ?_⟩
      · show (World.alloc _ _).heap[_]? = _
        repeat (first | (refine heap_alloc_at _ _ _ ?_; simp; done) | (refine (Below.heap_alloc _ _ _ ?_).trans ?_; · (simp <;> omega)))
      · show (World.alloc _ _).heap[_]? = _
        repeat (first | (refine heap_alloc_at _ _ _ ?_; simp; done) | (refine (Below.heap_alloc _ _ _ ?_).trans ?_; · (simp <;> omega)))
      · show (World.alloc _ _).heap[_]? = _
        repeat (first | (refine heap_alloc_at _ _ _ ?_; simp; done) | (refine (Below.heap_alloc _ _ _ ?_).trans ?_; · (simp <;> omega)))
      · show (World.alloc _ _).heap[_]? = _
        repeat (first | (refine heap_alloc_at _ _ _ ?_; simp; done) | (refine (Below.heap_alloc _ _ _ ?_).trans ?_; · (simp <;> omega)))
      · refine Below.drew ?_
        repeat (refine Below.alloc ?_ (by simp <;> omega) _)
        exact Below.refl _ _
      · omega
      · omega
  case rest =>
    obtain ⟨WB, LB, NB, IB, CB, B, rfl, htw⟩ := hcut
    have HT := Lib.hid htw
    have HGR := Lib.hid (HG.out.below HB1.out)
    have HTI := Lib.hid (TI.start s n (fun _ => 0) (fun _ => 0) (fun _ => 0))
    clear hmk hmb htw
    go_wp2_with fail
    go_loopw [20] (fun v20 wr => ∃ (k : Nat) (tt : TS) (nx : Nat → Nat) (vo vs : Value), v20 = .int .i64 k ∧ k ≤ n ∧ TI s n tt [] nx ∧ TWS w1 wr B WB LB NB IB CB n (.pointer (some ⟨gb, 0, none⟩)) tt [] vo vs ∧ (∀ z, z < k → tt.num z ≠ 0))
      (fun v20 _ => n - (intOf v20).toNat)
    case atStart => exact ⟨0, t0S, fun _ => 0, _, _, rfl, Nat.zero_le _, HTI.out, HT.out, by intro z hz; omega⟩
    case round =>
      obtain ⟨k, tt, nx, vo, vs, rfl, hk, hti, htw, hall⟩ := hrel
      obtain ⟨c0, c1, c2, c3, c4, c5, c6, c7, c8⟩ := TW.cells htw
      obtain ⟨l1, l2, l3, l4, l5, l6⟩ := TW.lts htw
      have HTI2 := Lib.hid hti; have HTW := Lib.hid htw; have HALL := Lib.hid hall
      clear hti hall HT HTI
      by_cases hlt : k < n
      · have hki : (k : Int) < (n : Int) := by omega
        have g2 := (TW.num htw).cell hlt
        obtain ⟨ny, hny⟩ : ∃ ny, ny = tt.num k := ⟨_, rfl⟩
        rw [← hny] at g2
        have HNY := Lib.hid hny
        clear htw hny c0 c1 c3 c4 c5 c6 c7 c8 l2 l4 l5 l6
        by_cases h0 : ny = 0
        · have hb : (ny == 0) = true := by simp [h0]
          have hfr := from_any HGR.out HN.out HTI2.out HTW.out hlt (by rw [← HNY.out]; exact h0)
          have HFR := Lib.hid hfr
          clear h0 hfr
          go_wp2_with fail
          refine HFR.out.mono ?_
          rintro e w5 ⟨t', nx', vo', vs', rfl, hti', htw', hky, hmon⟩
          have HTI3 := Lib.hid hti'; have HTW3 := Lib.hid htw'
          have hall' : ∀ z, z < k + 1 → t'.num z ≠ 0 := fun z hz => by
            by_cases e : z = k
            · subst e; exact hky
            · exact hmon z (HALL.out z (by omega))
          have HALL3 := Lib.hid hall'
          clear hti' htw' hky hmon hall' g2 c2 l1 l3
          go_wp2_with fail
          go_roundw
          case rel => exact ⟨k + 1, t', nx', vo', vs', by go_num, by omega, HTI3.out, HTW3.out, HALL3.out⟩
          case measure => simp [intOf]; omega
        · have hb : (ny == 0) = false := by simp [h0]
          have hall' : ∀ z, z < k + 1 → tt.num z ≠ 0 := fun z hz => by
            by_cases e : z = k
            · subst e; rw [← HNY.out]; exact h0
            · exact HALL.out z (by omega)
          have HALL3 := Lib.hid hall'
          clear h0 hall'
          go_wp2_with fail
          go_roundw
          case rel => exact ⟨k + 1, tt, nx, vo, vs, by go_num, by omega, HTI2.out, HTW.out, HALL3.out⟩
          case measure => simp [intOf]; omega
      · obtain rfl : k = n := by omega
        have hcyc := HTI2.out.cyc HGR.out.right HN.out HALL.out
        have hcls : ∀ x, x < k → 0 ≤ tt.cls x ∧ tt.cls x ≤ 1000 := fun x hx => by
          have h1 := HTI2.out.cls0 x hx ⟨HALL.out x hx, by rw [HTI2.out.done]; simp⟩
          have h2 := HTI2.out.cnt; have h3 := HTI2.out.met_le
          simp at h2; omega
        have hsl : SlAt encI 1 wr (some ⟨CB, 0, none⟩) CB 0 (fl k tt.cls) := slAt_row1 (TW.cls htw)
        have hca := canon_any (c := k) hsl (by rw [fl_len]; omega) (fun x hx => by
          obtain ⟨i, hi, rfl⟩ := List.mem_map.1 (show x ∈ (List.range k).map tt.cls from hx)
          rw [List.mem_range] at hi
          have := hcls i hi
          exact wfI (by omega) (by omega))
        rw [fl_len, canon_fl] at hca
        have hbl := TW.bel htw
        have HCA := Lib.hid hca; have HCYC := Lib.hid hcyc; have HBL := Lib.hid hbl
        clear hcyc hcls hsl hca hbl htw c0 c1 c2 c3 c4 c6 c7 c8 l2 l3 l4 l5 l6
        go_wp2_with fail
        refine HCA.out.mono ?_
        rintro e w6 ⟨v, rfl, hown, hB6⟩
        have hs1 := HB1.out.size; have hs2 := HBL.out.size
        have hown2 := own_mono hown (show w.heap.size ≤ wr.heap.size by omega)
        have hB := (HB1.out.trans (HBL.out.mono hs1)).trans (hB6.mono (by omega))
        have HO2 := Lib.hid hown2; have HBB := Lib.hid hB
        clear hown hown2 hB hB6
        go_wp2
        go_ret
        exact ⟨tt.cls, v, HCYC.out, rfl, HO2.out, HBB.out⟩
end Go.Proofs.YtkmljelgogcobaaGreatDoor

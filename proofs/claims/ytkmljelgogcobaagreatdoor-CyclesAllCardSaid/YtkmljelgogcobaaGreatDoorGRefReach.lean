/-
  semblanceref7.Reach: which states are reachable.
  semblanceref11.From: who comes from a state by silent steps.
  semblanceref7.Back: the edges turned round.
  Rows of ints as lists; the numbers of a table's row.
  Plain: what the reference's rows of silent steps tell.
  semblanceref11.Cycles.
-/
import Derived.Test.YtkmljelgogcobaaGreatDoorRefOut
import Derived.Test.YtkmljelgogcobaaGreatDoorGPl3
import Derived.Test.YtkmljelgogcobaaGreatDoorGLaidCya
import Derived.Test.YtkmljelgogcobaaGreatDoorGTauG
import Derived.Test.YtkmljelgogcobaaGreatDoorBkF
import Derived.Deep.RegionHeld3
import Derived.Deep.QuietTactic
import Derived.BigQuiet
import Derived.IntWalk
import Derived.Test.YtkmljelgogcobaaGreatDoorGCanon
import Derived.Test.YtkmljelgogcobaaGreatDoorGRows2
import Derived.Deep.RegionHeldLaw
namespace Go.Proofs.YtkmljelgogcobaaGreatDoor
open Go.RowKit Pl

/-- Rows of steps, as they lie in a world. -/
structure StepRows (w : World) (lo ob n : Nat) (f : Nat → List S) : Prop where
  at_ : ∀ p, p < n → ∃ a c b off, w.cell? ⟨ob, p, none⟩ = some (.slice a (f p).length c) ∧ SlAt encS 2 w a b off (f p) ∧ (0 < (f p).length → lo < b)
  lo : lo < ob
  lt : ob < w.heap.size
theorem StepRows.of {w : World} {lo base ob n : Nat} {f : Nat → List S} (h : OwnRows encS 2 92 46 w base ob n f) (hlo : lo < ob) : StepRows w lo ob n f := by
  refine ⟨fun p hp => ?_, hlo, h.size⟩
  obtain ⟨v, h1, _, h3⟩ := h.at hp
  obtain ⟨a, c, b, rfl, _, _, h5, h6⟩ := slAt_own lenS h3
  exact ⟨a, c, b, 0, h1, h5, fun hp => by have := h6 hp; have := h.lt; omega⟩

/-- The world within Reach. -/
structure QW (w w2 wr : World) (SB n : Nat) (L : List Int) (v : Value) : Prop where
  below : Below w.heap.size w wr
  oth : ∀ b, b < w2.heap.size → b ≠ SB → wr.heap[b]? = w2.heap[b]?
  size : w2.heap.size ≤ wr.heap.size
  seen : wr.rowIs SB 4 n (fun j => .bool (decide ((j : Int) ∈ L)))
  own : wr.ownsRow w2.heap.size 3 1 v L.length (L.flatMap encI)
  sb : w.heap.size ≤ SB
  sb2 : SB < w2.heap.size
theorem QW.row {w w2 wr : World} {SB n : Nat} {L : List Int} {v : Value} {ob : Nat} {f : Nat → List S} (h : QW w w2 wr SB n L v) (hr : StepRows w2 SB ob n f) {p : Nat} (hp : p < n) :
    ∃ a c b off, wr.cell? ⟨ob, p, none⟩ = some (.slice a (f p).length c) ∧ SlAt encS 2 w2 a b off (f p) ∧ (0 < (f p).length → b ≠ SB) := by
  obtain ⟨a, c, b, off, h1, h2, h3⟩ := hr.at_ p hp
  refine ⟨a, c, b, off, ?_, h2, fun hp => by have := h3 hp; omega⟩
  rw [World.cell?_of_block (w := w2) (a := ⟨ob, p, none⟩) (h.oth ob hr.lt (by have := hr.lo; omega))]
  exact h1
theorem QW.sl {w w2 wr : World} {SB n : Nat} {L : List Int} {v : Value} (h : QW w w2 wr SB n L v) {a : Option Addr} {b off : Nat} {xs : List S} (hS : SlAt encS 2 w2 a b off xs) (hb : 0 < xs.length → b ≠ SB) : SlAt encS 2 wr a b off xs :=
  ⟨hS.ad, fun hp => Nat.lt_of_lt_of_le (hS.lt hp) h.size, fun i x hx j u hu => by
    have hp : 0 < xs.length := by have := (List.getElem?_eq_some_iff.1 hx).1; omega
    rw [World.cell?_of_block (w := w2) (a := ⟨b, off + i * 2 + j, none⟩) (h.oth b (hS.lt hp) (hb hp))]
    exact hS.cell i x hx j u hu⟩
theorem QW.push {w w2 wr w1 : World} {SB n : Nat} {L : List Int} {v v' : Value} {t : Nat} (h : QW w w2 wr SB n L v) {o1 : Obj} (hown : w1.ownsRow w2.heap.size 3 1 v' (L ++ [(t : Int)]).length ((L ++ [(t : Int)]).flatMap encI))
    (hg : ((wr.setCell ⟨SB, t, none⟩ (.bool true)).alloc o1).grownBy w1 v.ownBlock) : QW w w2 w1 SB n (L ++ [(t : Int)]) v' := by
  have hlt := h.seen.lt
  have hsb := h.sb; have hsb2 := h.sb2; have hsz := h.size
  have hse := ((h.seen.set t (.bool true)).alloc o1)
  have hnb : ∀ b, b < w2.heap.size → some b ≠ v.ownBlock := fun b hb e => by have := (h.own.lt b e.symm).1; omega
  have hb : w1.heap[SB]? = _ := hg.block SB (by simp [World.setCell]; omega) (hnb SB hsb2)
  have hgs := hg.size
  refine ⟨?_, fun b hb hne => ?_, by simp [World.setCell] at hgs; omega, (hse.of_block hb).congr (fun i _ => ?_), hown, hsb, hsb2⟩
  · exact ((h.below.setCell hsb _).alloc (by simp [World.setCell]; omega) o1).grown hg (by simp [World.setCell]; omega) (fun k hk => by have := (h.own.lt k hk).1; omega)
  · rw [hg.block b (by simp [World.setCell]; omega) (hnb b hb), Below.heap_alloc _ _ _ (by simp [World.setCell]; omega), Below.heap_setCell _ _ _ _ hne]
    exact h.oth b hb hne
  · by_cases hi : i = t
    · subst hi; simp
    · rw [if_neg hi]; congr 1; simp only [List.mem_append, List.mem_singleton]
      have : ¬ ((i : Int) = (t : Int)) := by omega
      simp [this]

/-- What Reach answers. -/
def ReachPost (s : Lts) (w : World) (e : Ending) (w' : World) : Prop :=
  ∃ rb n : Nat, s.st = (n : Int) ∧ e = .returned (.slice (some ⟨rb, 0, none⟩) n n) ∧ w'.rowIs rb 4 n (fun j => .bool (decide ((j : Int) ∈ reachL s.norm))) ∧ w.heap.size ≤ rb ∧ Below w.heap.size w w'

set_option maxRecDepth 100000 in
theorem refReach_nil {s : Lts} (h0 : s.st = 0) (v : Value) {w : World} :
    Calls Tryz.prog 42 #[.agg #[.int .i64 s.st, .int .i64 s.lb, .int .i64 s.s0, v]] w (ReachPost s w) := by
  have hmk := run_make_row' (P := Tryz.prog) 81 4 (.bool false) 1 Tryz.underlying81 (by kernel_rfl) rfl .i64 .i64 0 (by omega) (by omega)
  rw [show ((0 : Nat) : Int) = 0 from rfl] at hmk
  have H0 := Lib.hid h0
  rw [h0]
  clear h0
  go_enter Tryz.func42, Tryz.ntmps42
  go_wp2
  go_ret
  have hr := (World.rowIs_made (w.alloc (.cells #[.int .i64 0, .int .i64 s.lb, .int .i64 s.s0, v] 24)) (.bool false) 0 4).congr (g := fun j => .bool (decide ((j : Int) ∈ reachL s.norm))) (fun i hi => by omega)
  rw [show (w.alloc (.cells #[.int .i64 0, .int .i64 s.lb, .int .i64 s.s0, v] 24)).heap.size = w.heap.size + 1 by simp] at hr
  exact ⟨w.heap.size + 1, 0, by rw [H0.out]; rfl, rfl, hr, by omega, ((Below.refl _ _).alloc (Nat.le_refl _) _).alloc (by simp) _⟩

set_option maxRecDepth 100000 in
set_option maxHeartbeats 4000000 in
theorem refReach_ok {s : Lts} (hr : s.Right) (h0 : s.st ≠ 0) {a : Option Addr} {b off c : Nat} {w : World} (hS : SlAt encE 3 w a b off s.es) (hc : s.es.length ≤ c) (hcm : c ≤ maxLen) :
    Calls Tryz.prog 42 #[.agg #[.int .i64 s.st, .int .i64 s.lb, .int .i64 s.s0, .slice a s.es.length c]] w (ReachPost s w) := by
  have hst := hr.st0
  obtain ⟨n, hn⟩ : ∃ n : Nat, s.st = (n : Int) := ⟨s.st.toNat, by omega⟩
  obtain ⟨z, hz⟩ : ∃ z : Nat, s.s0 = (z : Int) := ⟨s.s0.toNat, by omega⟩
  have hzn : z < n := by omega
  have hn1 : n ≤ 1000 := by omega
  have hnz : ((n : Int) == 0) = false := by simp; omega
  have hmk := run_make_row' (P := Tryz.prog) 81 4 (.bool false) 1 Tryz.underlying81 (by kernel_rfl) rfl .i64 .i64 n (by omega) (by omega)
  have hB0 := (Below.refl w.heap.size w).alloc (Nat.le_refl _) (Obj.cells #[.int .i64 n, .int .i64 s.lb, .int .i64 z, .slice a s.es.length c] 24)
  have hrow := World.rowIs_made (w.alloc (Obj.cells #[.int .i64 n, .int .i64 s.lb, .int .i64 z, .slice a s.es.length c] 24)) (.bool false) n 4
  have hbx := heap_alloc_new w (Obj.cells #[.int .i64 n, .int .i64 s.lb, .int .i64 z, .slice a s.es.length c] 24)
  have hB1 := hB0.alloc (by simp) (Obj.cells (madeCells #[.bool false] n) 4)
  have hout := refOut_any hr (hS.below hB1 (Nat.le_refl _)) hc hcm
  rw [hn, hz] at hout
  have HOUT := Lib.hid hout; have HR := Lib.hid hr; have HN := Lib.hid hn; have HZ := Lib.hid hz; have HB1 := Lib.hid hB1; have HROW := Lib.hid hrow; have HBX := Lib.hid hbx
  have H0 : RowKit.Hid (s.norm.st ≠ 0) := Lib.hid h0
  rw [hn, hz]
  obtain ⟨el, hel⟩ : ∃ el, el = s.es.length := ⟨_, rfl⟩
  rw [← hel] at HOUT HB1 HROW HBX ⊢
  clear hout hr hB0 hB1 hrow hbx hS hst hn hz hc hcm hel h0
  go_enter Tryz.func42, Tryz.ntmps42
  go_wp2_with fail
  refine HOUT.out.mono ?_
  rintro e w2 ⟨ob, n', base, hn', rfl, hrows, hob, hB2⟩
  obtain rfl : n = n' := by have := HN.out; omega
  have hs2 := hB2.size
  simp at hob hs2
  have hsr := StepRows.of (lo := w.heap.size + 1) hrows (by omega)
  have hseen : w2.rowIs (w.heap.size + 1) 4 n (fun _ => .bool false) := by
    have h := HROW.out.of_block (hB2.block _ (by simp))
    simpa using h
  have hbx2 : w2.heap[w.heap.size]? = some (.cells #[.int .i64 n, .int .i64 s.lb, .int .i64 z, .slice a el c] 24 (0, 0)) := by
    rw [hB2.block _ (by simp; omega), Below.heap_alloc _ _ _ (by simp)]; exact HBX.out
  have x0 : w2.cell? ⟨w.heap.size, 2, none⟩ = some (.int .i64 z) := by simp [World.cell?, hbx2]
  have x1 : w2.heap.size > w.heap.size + 1 := by omega
  have hl0 : w.heap.size < w2.heap.size := by omega
  obtain ⟨SB, hSB⟩ : ∃ SB, SB = w.heap.size + 1 := ⟨_, rfl⟩
  have hBw : Below w.heap.size w w2 := HB1.out.trans (hB2.mono (by simp; omega))
  rw [← hSB] at hsr hseen ⊢
  have hsb1 : SB < w2.heap.size := by omega
  have hsb0 : w.heap.size ≤ SB := by omega
  have hsb3 : SB ≠ w.heap.size := by omega
  have hzn' : (z : Int) < (n : Int) := by omega
  have c1 := hseen.cell hzn
  have f1 := hseen.frozen z
  have HSR := Lib.hid hsr; have HSE := Lib.hid hseen; have HBW := Lib.hid hBw; have HSB := Lib.hid hSB
  clear hmk hrows hsr hseen hB2 hbx2 hBw hSB hn' HOUT HB1 HROW HBX x1 hob hs2
  go_wp2_with fail
  have hqw : QW w w2 ((w2.setCell ⟨SB, z, none⟩ (.bool true)).alloc (.cells #[.int .i64 z] 3)) SB n [(z : Int)] (.slice (some ⟨w2.heap.size, 0, none⟩) 1 1) := by
    have hlit := World.ownsRow_lit (e := 3) (base := w2.heap.size) (w2.setCell ⟨SB, z, none⟩ (.bool true)) #[.int .i64 z] 1 (size := 1) (by rw [size_setCell]; exact Nat.le_refl _) (by unfold maxLen; omega) rfl
    rw [size_setCell] at hlit
    refine ⟨(HBW.out.setCell (by show w.heap.size ≤ SB; omega) _).alloc (by rw [size_setCell]; exact HBW.out.size) _, fun b hb hne => by rw [Below.heap_alloc _ _ _ (by rw [size_setCell]; exact hb), Below.heap_setCell _ _ _ _ hne], by simp [World.setCell], ((HSE.out.set z _).alloc _).congr (fun i _ => ?_), hlit, hsb0, hsb1⟩
    by_cases hi : i = z
    · subst hi; simp
    · rw [if_neg hi]
      have : ¬ ((i : Int) = (z : Int)) := by omega
      simp [this]
  have hbfs : Bfs s.norm [(z : Int)] 0 := by have := Bfs.start HR.out.norm H0.out; rw [show s.norm.s0 = (z : Int) from HZ.out] at this; exact this
  have HQ := Lib.hid hqw; have HBF := Lib.hid hbfs
  clear hqw hbfs c1 f1 x0
  go_loopw [5, 6] (fun v5 v6 wr => ∃ (L : List Int) (i : Nat) (a : Option Addr) (c : Nat), v5 = .slice a L.length c ∧ v6 = .int .i64 i ∧ i ≤ L.length ∧ Bfs s.norm L i ∧ QW w w2 wr SB n L (.slice a L.length c))
    (fun _ v6 _ => n - (intOf v6).toNat)
  case atStart => exact ⟨[(z : Int)], 0, _, _, rfl, rfl, by simp, HBF.out, HQ.out⟩
  case round =>
    obtain ⟨L, i, a, c, rfl, rfl, hiL, hbf, hqw⟩ := hrel
    have hLn : L.length ≤ n := by have := hbf.len; rw [show s.norm.st = (n : Int) from HN.out] at this; simpa using this
    have HB := Lib.hid hbf; have HW := Lib.hid hqw
    clear hbf hqw HBF HQ
    by_cases hlt : i < L.length
    · obtain ⟨x, hx⟩ := getElem?_of_lt hlt
      obtain ⟨ga, gc, g, hv, _, _, hsl, _⟩ := slAt_own lenI HW.out.own
      simp only [Value.slice.injEq] at hv
      obtain ⟨rfl, _, rfl⟩ := hv
      obtain rfl := hsl.ad (by omega)
      have hcx := hsl.ci hx
      have hgl := hsl.lt (by omega)
      simp only [Nat.zero_add] at hcx
      have hix : (i : Int) < (L.length : Int) := by omega
      have hxr := HB.out.rng x (List.mem_of_getElem? hx)
      obtain ⟨xn, rfl⟩ : ∃ xn : Nat, x = (xn : Int) := ⟨x.toNat, by omega⟩
      have hxn : xn < n := by have := HN.out; have h2 : s.norm.st = s.st := rfl; omega
      have hxn' : (xn : Int) < (n : Int) := by omega
      obtain ⟨ra, rc, rb, ro, hrc, hrs, hrb⟩ := HW.out.row HSR.out hxn
      have hobr : ob < wr.heap.size := by have := HSR.out.lt; have := HW.out.size; omega
      have HX := Lib.hid hx; have HRS := Lib.hid hrs; have HRB := Lib.hid hrb
      have hsslen : (s.norm.outs (xn : Int)).length ≤ 10000 := outs_len HR.out.norm (xn : Int)
      clear hsl hx hxr hrs hrb
      obtain ⟨ss, hss⟩ : ∃ ss, ss = s.norm.outs (xn : Int) := ⟨_, rfl⟩
      rw [← hss] at hrc HRS HRB hsslen
      have HSS := Lib.hid hss
      clear hss
      go_wp2_with fail
      clear hcx hrc
      go_loopw [5, 8] (fun v5 v8 wr => ∃ (L : List Int) (r : Nat) (a : Option Addr) (c : Nat), v5 = .slice a L.length c ∧ v8 = .int .i64 r ∧ r ≤ ss.length ∧ Bfs s.norm L i ∧ L[i]? = some (xn : Int) ∧ (∀ y ∈ ss.take r, y.2 ∈ L) ∧ QW w w2 wr SB n L (.slice a L.length c))
        (fun _ v8 _ => ss.length - (intOf v8).toNat)
      case atStart => exact ⟨L, 0, _, _, rfl, rfl, by simp, HB.out, HX.out, by simp, HW.out⟩
      case round =>
        obtain ⟨M, r, a3, c3, rfl, rfl, hrl, hbf, hMx, hty, hqw⟩ := hrel
        have HB2 := Lib.hid hbf; have HW2 := Lib.hid hqw; have HMX := Lib.hid hMx; have HTY := Lib.hid hty
        clear hbf hqw hMx hty HB HW
        by_cases hltr : r < ss.length
        · obtain ⟨y, hy⟩ := getElem?_of_lt hltr
          have hss' := HW2.out.sl HRS.out HRB.out
          obtain rfl := hss'.ad (by omega)
          have d1 := hss'.s1 hy
          have hbl := hss'.lt (by omega)
          have hym : y ∈ s.norm.outs (xn : Int) := by rw [← HSS.out]; exact List.mem_of_getElem? hy
          have hyr := offB_false.1 (HR.out.norm.edges _ (mem_outs.1 hym))
          have hst2 : s.norm.st = s.st := rfl
          simp only at hyr
          obtain ⟨y1, y2⟩ := y
          obtain ⟨t, ht⟩ : ∃ t : Nat, y2 = (t : Int) := ⟨y2.toNat, by simp only at hyr; omega⟩
          subst ht
          simp only at d1 hyr
          have htn : t < n := by have := HN.out; omega
          have htn' : (t : Int) < (n : Int) := by omega
          have hct : wr.cell? ⟨SB, t, none⟩ = some (.bool (decide ((t : Int) ∈ M))) := HW2.out.seen.cell htn
          have hft : wr.frozen? ⟨SB, t, none⟩ = false := HW2.out.seen.frozen t
          have hsb : SB < wr.heap.size := HW2.out.seen.lt
          have hrlt : (r : Int) < (ss.length : Int) := by omega
          have hrS := HRB.out (by omega)
          have HY := Lib.hid hy; have HYM := Lib.hid hym
          clear hss' hy hym hyr hst2
          by_cases hin : (t : Int) ∈ M
          · have hd : decide ((t : Int) ∈ M) = true := by simp [hin]
            rw [hd] at hct
            have HIN := Lib.hid hin
            clear hd hin
            go_wp2
            go_roundw
            case rel => exact ⟨M, r + 1, _, _, rfl, by go_num, by omega, HB2.out, HMX.out, by
              intro y hy
              rw [take_snoc HY.out] at hy
              rcases List.mem_append.1 hy with h1 | h1
              · exact HTY.out y h1
              · simp at h1; subst h1; exact HIN.out, HW2.out⟩
            case measure => simp [intOf]; omega
          · have hd : decide ((t : Int) ∈ M) = false := by simp [hin]
            rw [hd] at hct
            have HIN := Lib.hid hin
            clear hd hin
            have hML : M.length ≤ n := by have := HB2.out.len; rw [show s.norm.st = (n : Int) from HN.out] at this; simpa using this
            have hszr := HW2.out.size
            go_wp2_with (at_builtin; go_must (refine wpList_app1 rfl _ _ _ rfl rowI (Below.refl _ _) (by simp [World.setCell]; omega) rfl (World.ownsRow.alloc (ownsRow_setCell_below HW2.out.own (a := ⟨SB, t, none⟩) hsb1 (.bool true)) _) ⟨wr.heap.size, 0, none⟩ 1 1 [.int .i64 t] rfl rfl (cells1 (by simp [go_sem, World.setCell])) (by simp [Value.oneCell']) (by decide) (by omega) (by unfold maxLen; omega) ?_); intro g2 cap2 w7 hown7 _ hg7)
            have hpush := QW.push (v' := .slice (some ⟨g2, 0, none⟩) (M.length + 1) cap2) HW2.out (by rw [List.length_append, List.flatMap_append]; exact hown7) hg7
            have hbp := Bfs.push HR.out.norm HB2.out HMX.out HYM.out HIN.out
            have HP := Lib.hid hpush; have HBP := Lib.hid hbp
            clear hpush hbp hown7 hg7
            go_roundw
            case rel => exact ⟨M ++ [(t : Int)], r + 1, _, _, by rw [List.length_append]; rfl, by go_num, by omega, HBP.out, by
              rw [List.getElem?_append_left (by have := (List.getElem?_eq_some_iff.1 HMX.out).1; omega)]; exact HMX.out, by
              intro y hy
              rw [take_snoc HY.out] at hy
              rcases List.mem_append.1 hy with h1 | h1
              · exact List.mem_append_left _ (HTY.out y h1)
              · simp at h1; subst h1; simp, by rw [List.length_append]; exact HP.out⟩
            case measure => simp [intOf]; omega
        · have hall : ∀ y ∈ s.norm.outs (xn : Int), y.2 ∈ M := by
            intro y hy
            have := HTY.out
            rw [List.take_of_length_le (by omega), HSS.out] at this
            exact this y hy
          have hnx := Bfs.next HB2.out HMX.out hall
          have hMn : M.length ≤ n := by have := HB2.out.len; rw [show s.norm.st = (n : Int) from HN.out] at this; simpa using this
          have hiM : i < M.length := (List.getElem?_eq_some_iff.1 HMX.out).1
          have HNX := Lib.hid hnx
          clear hall hnx HTY
          go_wp2
          go_roundw
          case rel => exact ⟨M, i + 1, _, _, rfl, by go_num, by omega, HNX.out, HW2.out⟩
          case measure => simp [intOf]; omega
    · obtain rfl : i = L.length := by omega
      go_wp2
      go_ret
      exact ⟨SB, n, HN.out, rfl, HW.out.seen.congr (fun j _ => by
        have : decide ((j : Int) ∈ L) = decide ((j : Int) ∈ reachL s.norm) := by
          rw [Bool.eq_iff_iff]; simp only [decide_eq_true_eq]
          rw [HB.out.all, mem_reachL HR.out.norm H0.out]
        rw [this]), hsb0, HW.out.below⟩

theorem refReach_any {s : Lts} (hr : s.Right) {a : Option Addr} {b off c : Nat} {w : World} (hS : SlAt encE 3 w a b off s.es) (hc : s.es.length ≤ c) (hcm : c ≤ maxLen) :
    Calls Tryz.prog 42 #[.agg #[.int .i64 s.st, .int .i64 s.lb, .int .i64 s.s0, .slice a s.es.length c]] w (ReachPost s w) := by
  by_cases h0 : s.st = 0
  · exact refReach_nil h0 _
  · exact refReach_ok hr h0 hS hc hcm
end Go.Proofs.YtkmljelgogcobaaGreatDoor

namespace Go.Proofs.YtkmljelgogcobaaGreatDoor
open Go.RowKit Pl

/-- Rows of steps, as they lie in a world. -/
structure StepsIn (w : World) (ob n : Nat) (f : Nat → List S) : Prop where
  at_ : ∀ p, p < n → ∃ a c b off, w.cell? ⟨ob, p, none⟩ = some (.slice a (f p).length c) ∧ SlAt encS 2 w a b off (f p)
  lt : ob < w.heap.size
theorem StepsIn.below {w w' : World} {ob n : Nat} {f : Nat → List S} (h : StepsIn w ob n f) (hB : Below w.heap.size w w') : StepsIn w' ob n f :=
  ⟨fun p hp => by
    obtain ⟨a, c, b, off, h1, h2⟩ := h.at_ p hp
    exact ⟨a, c, b, off, by rw [hB.cell (p := ⟨ob, p, none⟩) h.lt]; exact h1, h2.below hB (Nat.le_refl _)⟩, Nat.lt_of_lt_of_le h.lt hB.size⟩
theorem StepsIn.of {w : World} {base ob n : Nat} {f : Nat → List S} (h : OwnRows encS 2 92 46 w base ob n f) : StepsIn w ob n f := by
  refine ⟨fun p hp => ?_, h.size⟩
  obtain ⟨v, h1, _, h3⟩ := h.at hp
  obtain ⟨a, c, b, rfl, _, _, h5, _⟩ := slAt_own lenS h3
  exact ⟨a, c, b, 0, h1, h5⟩
/-- The silent steps stand ahead. -/
theorem outs_zero {s : Lts} (hr : s.Right) (hs : Srt ltE s.es) {x : Int} {r : Nat} {y : S} (hy : (s.outs x)[r]? = some y) (h0 : y.1 ≠ 0) : ∀ z ∈ s.outs x, z.1 = 0 → z ∈ (s.outs x).take r := by
  intro z hz hz0
  obtain ⟨j, hj⟩ := List.getElem?_of_mem hz
  by_cases hjr : j < r
  · exact List.mem_of_getElem? (show ((s.outs x).take r)[j]? = some z by rw [List.getElem?_take, if_pos hjr]; exact hj)
  · exfalso
    have hyr := offB_false.1 (hr.edges _ (mem_outs.1 (List.mem_of_getElem? hy)))
    simp only at hyr
    rcases Nat.eq_or_lt_of_le (Nat.le_of_not_lt hjr) with e | hlt
    · subst e; rw [hy] at hj; cases hj; exact h0 hz0
    · obtain ⟨h3, h4⟩ := List.getElem?_eq_some_iff.1 hy
      obtain ⟨h5, h6⟩ := List.getElem?_eq_some_iff.1 hj
      have h7 := List.pairwise_iff_getElem.1 (outs_srt hs x) r j h3 h5 hlt
      rw [h4, h6] at h7
      have h8 := (ltS_iff _ _).1 h7
      omega

set_option maxRecDepth 100000 in
set_option maxHeartbeats 4000000 in
theorem refFrom_any {s : Lts} (hr : s.Right) (hsr : Srt ltE s.es) {n q : Nat} (hn : s.st = (n : Int)) (hq : q < n) {w : World} {ob c : Nat} (hR : StepsIn w ob n (fun p => s.outs (p : Int))) :
    Calls Tryz.prog 153 #[.slice (some ⟨ob, 0, none⟩) n c, .int .i64 q] w fun e w' => ∃ rb, e = .returned (.slice (some ⟨rb, 0, none⟩) n n) ∧ w'.rowIs rb 4 n (fun j => .bool (decide ((j : Int) ∈ reachL (tauOf s (q : Int))))) ∧ w.heap.size ≤ rb ∧ Below w.heap.size w w' := by
  have hst := hr.st0
  have hn1 : n ≤ 1000 := by omega
  have hRT := tauOf_right (q := (q : Int)) hr (by omega) (by omega)
  have hmk := run_make_row' (P := Tryz.prog) 81 4 (.bool false) 1 Tryz.underlying81 (by kernel_rfl) rfl .i64 .i64 n (by omega) (by omega)
  have hbfs : Bfs (tauOf s q) [(q : Int)] 0 := Bfs.start hRT (by show s.st ≠ 0; omega)
  have hqI : (q : Int) < (n : Int) := by omega
  have HR := Lib.hid hr; have HSRT := Lib.hid hsr; have HN := Lib.hid hn; have HRT := Lib.hid hRT; have HBF := Lib.hid hbfs; have HRW := Lib.hid hR
  clear hr hsr hn hRT hbfs hR hst
  go_enter Tryz.func153, Tryz.ntmps153
  go_upto_region 2 with fail
  obtain ⟨w2, hw2⟩ : ∃ w2, w2 = w.alloc (Obj.cells (madeCells #[.bool false] n) 4) := ⟨_, rfl⟩
  have hrow : w2.rowIs w.heap.size 4 n (fun _ => .bool false) := by rw [hw2]; exact World.rowIs_made w (.bool false) n 4
  have hbw : Below w.heap.size w w2 := by rw [hw2]; exact (Below.refl _ _).alloc (Nat.le_refl _) _
  rw [← hw2]
  obtain ⟨SB, hSB⟩ : ∃ SB, SB = w.heap.size := ⟨_, rfl⟩
  rw [← hSB] at hrow ⊢
  have c1 := hrow.cell hq
  have f1 := hrow.frozen q
  have hl1 := hrow.lt
  have hqw : QW w w2 ((w2.setCell ⟨SB, q, none⟩ (.bool true)).alloc (.cells #[.int .i64 q] 3)) SB n [(q : Int)] (.slice (some ⟨w2.heap.size, 0, none⟩) 1 1) := by
    have hlit := World.ownsRow_lit (e := 3) (base := w2.heap.size) (w2.setCell ⟨SB, q, none⟩ (.bool true)) #[.int .i64 q] 1 (size := 1) (by rw [size_setCell]; exact Nat.le_refl _) (by unfold maxLen; omega) rfl
    rw [size_setCell] at hlit
    refine ⟨(hbw.setCell (by show w.heap.size ≤ SB; omega) _).alloc (by rw [size_setCell]; exact hbw.size) _, fun b hb hne => by rw [Below.heap_alloc _ _ _ (by rw [size_setCell]; exact hb), Below.heap_setCell _ _ _ _ hne], by simp [World.setCell], ((hrow.set q _).alloc _).congr (fun i _ => ?_), hlit, by omega, hl1⟩
    by_cases hi : i = q
    · subst hi; simp
    · rw [if_neg hi]
      have : ¬ ((i : Int) = (q : Int)) := by omega
      simp [this]
  have HQ := Lib.hid hqw; have HSB := Lib.hid hSB
  have hsb1 := hl1
  clear hw2 hrow hbw hqw hmk hSB
  go_wp2_with fail
  clear c1 f1 hl1
  go_loopw [6, 7] (fun v6 v7 wr => ∃ (L : List Int) (i : Nat) (a : Option Addr) (c : Nat), v6 = .slice a L.length c ∧ v7 = .int .i64 i ∧ i ≤ L.length ∧ Bfs (tauOf s q) L i ∧ QW w w2 wr SB n L (.slice a L.length c))
    (fun _ v7 _ => n - (intOf v7).toNat)
  case atStart => exact ⟨[(q : Int)], 0, _, _, rfl, rfl, by simp, HBF.out, HQ.out⟩
  case round =>
    obtain ⟨L, i, a, c, rfl, rfl, hiL, hbf, hqw⟩ := hrel
    have hLn : L.length ≤ n := by have := hbf.len; have h2 : (tauOf s q).st = (n : Int) := HN.out; rw [h2] at this; simpa using this
    have HB := Lib.hid hbf; have HW := Lib.hid hqw
    clear hbf hqw HBF HQ
    by_cases hlt : i < L.length
    · obtain ⟨x, hx⟩ := getElem?_of_lt hlt
      obtain ⟨ga, gc, g, hv, _, _, hsl, _⟩ := slAt_own lenI HW.out.own
      simp only [Value.slice.injEq] at hv
      obtain ⟨rfl, _, rfl⟩ := hv
      obtain rfl := hsl.ad (by omega)
      have hcx := hsl.ci hx
      have hgl := hsl.lt (by omega)
      simp only [Nat.zero_add] at hcx
      have hix : (i : Int) < (L.length : Int) := by omega
      have hxr := HB.out.rng x (List.mem_of_getElem? hx)
      obtain ⟨xn, rfl⟩ : ∃ xn : Nat, x = (xn : Int) := ⟨x.toNat, by omega⟩
      have hxn : xn < n := by have := HN.out; have h2 : (tauOf s q).st = s.st := rfl; omega
      have hxn' : (xn : Int) < (n : Int) := by omega
      obtain ⟨ra, rc, rb, ro, hrc0, hrs0⟩ := HRW.out.at_ xn hxn
      have hobl := HRW.out.lt
      have hrc : wr.cell? ⟨ob, xn, none⟩ = some (.slice ra (s.outs (xn : Int)).length rc) := by rw [HW.out.below.cell (p := ⟨ob, xn, none⟩) hobl]; exact hrc0
      have hobr : ob < wr.heap.size := by have := HW.out.below.size; omega
      have HX := Lib.hid hx; have HRS := Lib.hid hrs0
      have hsslen : (s.outs (xn : Int)).length ≤ 10000 := outs_len HR.out (xn : Int)
      clear hsl hx hxr hrc0 hrs0 hobl
      obtain ⟨ss, hss⟩ : ∃ ss, ss = s.outs (xn : Int) := ⟨_, rfl⟩
      rw [← hss] at hrc HRS hsslen
      have HSS := Lib.hid hss
      clear hss
      go_wp2_with fail
      clear hcx hrc
      go_loopw [6, 9] (fun v6 v9 wr => ∃ (L : List Int) (r : Nat) (a : Option Addr) (c : Nat), v6 = .slice a L.length c ∧ v9 = .int .i64 r ∧ r ≤ ss.length ∧ Bfs (tauOf s q) L i ∧ L[i]? = some (xn : Int) ∧ (∀ y ∈ ss.take r, y.1 = 0 → y.2 ∈ L) ∧ QW w w2 wr SB n L (.slice a L.length c))
        (fun _ v9 _ => ss.length - (intOf v9).toNat)
      case atStart => exact ⟨L, 0, _, _, rfl, rfl, by simp, HB.out, HX.out, by simp, HW.out⟩
      case round =>
        obtain ⟨M, r, a3, c3, rfl, rfl, hrl, hbf, hMx, hty, hqw⟩ := hrel
        have HB2 := Lib.hid hbf; have HW2 := Lib.hid hqw; have HMX := Lib.hid hMx; have HTY := Lib.hid hty
        clear hbf hqw hMx hty HB HW
        by_cases hltr : r < ss.length
        · obtain ⟨y, hy⟩ := getElem?_of_lt hltr
          have hss' := HRS.out.below HW2.out.below (Nat.le_refl _)
          obtain rfl := hss'.ad (by omega)
          have d0 := hss'.s0 hy; have d1 := hss'.s1 hy
          have hbl := hss'.lt (by omega)
          have hym : y ∈ s.outs (xn : Int) := by rw [← HSS.out]; exact List.mem_of_getElem? hy
          have hyr := offB_false.1 (HR.out.edges _ (mem_outs.1 hym))
          simp only at hyr
          obtain ⟨y1, y2⟩ := y
          obtain ⟨t, ht⟩ : ∃ t : Nat, y2 = (t : Int) := ⟨y2.toNat, by simp only at hyr; omega⟩
          subst ht
          simp only at d0 d1 hyr
          have htn : t < n := by have := HN.out; omega
          have htn' : (t : Int) < (n : Int) := by omega
          have hct : wr.cell? ⟨SB, t, none⟩ = some (.bool (decide ((t : Int) ∈ M))) := HW2.out.seen.cell htn
          have hft : wr.frozen? ⟨SB, t, none⟩ = false := HW2.out.seen.frozen t
          have hsb : SB < wr.heap.size := HW2.out.seen.lt
          have hrlt : (r : Int) < (ss.length : Int) := by omega
          have hrS : rb ≠ SB := by have := HRS.out.lt (by omega); have := HSB.out; omega
          have HY := Lib.hid hy; have HYM := Lib.hid hym
          clear hss' hy hym hyr
          by_cases hy0 : y1 = 0
          · subst hy0
            by_cases hin : (t : Int) ∈ M
            · have hd : decide ((t : Int) ∈ M) = true := by simp [hin]
              rw [hd] at hct
              have HIN := Lib.hid hin
              clear hd hin
              go_wp2_with fail
              go_roundw
              case rel => exact ⟨M, r + 1, _, _, rfl, by go_num, by omega, HB2.out, HMX.out, by
                intro y hy h0
                rw [take_snoc HY.out] at hy
                rcases List.mem_append.1 hy with h1 | h1
                · exact HTY.out y h1 h0
                · simp at h1; subst h1; exact HIN.out, HW2.out⟩
              case measure => simp [intOf]; omega
            · have hd : decide ((t : Int) ∈ M) = false := by simp [hin]
              rw [hd] at hct
              have HIN := Lib.hid hin
              clear hd hin
              have hML : M.length ≤ n := by have := HB2.out.len; have h2 : (tauOf s q).st = (n : Int) := HN.out; rw [h2] at this; simpa using this
              have hszr := HW2.out.size
              go_wp2_with (at_builtin; go_must (refine wpList_app1 rfl _ _ _ rfl rowI (Below.refl _ _) (by simp [World.setCell]; omega) rfl (World.ownsRow.alloc (ownsRow_setCell_below HW2.out.own (a := ⟨SB, t, none⟩) hsb1 (.bool true)) _) ⟨wr.heap.size, 0, none⟩ 1 1 [.int .i64 t] rfl rfl (cells1 (by simp [go_sem, World.setCell])) (by simp [Value.oneCell']) (by decide) (by omega) (by unfold maxLen; omega) ?_); intro g2 cap2 w7 hown7 _ hg7)
              have hpush := QW.push (v' := .slice (some ⟨g2, 0, none⟩) (M.length + 1) cap2) HW2.out (by rw [List.length_append, List.flatMap_append]; exact hown7) hg7
              have hbp := Bfs.push HRT.out HB2.out HMX.out (mem_tauOf.2 ⟨HYM.out, rfl⟩) HIN.out
              have HP := Lib.hid hpush; have HBP := Lib.hid hbp
              clear hpush hbp hown7 hg7
              go_roundw
              case rel => exact ⟨M ++ [(t : Int)], r + 1, _, _, by rw [List.length_append]; rfl, by go_num, by omega, HBP.out, by
                rw [List.getElem?_append_left (by have := (List.getElem?_eq_some_iff.1 HMX.out).1; omega)]; exact HMX.out, by
                intro y hy h0
                rw [take_snoc HY.out] at hy
                rcases List.mem_append.1 hy with h1 | h1
                · exact List.mem_append_left _ (HTY.out y h1 h0)
                · simp at h1; subst h1; simp, by rw [List.length_append]; exact HP.out⟩
              case measure => simp [intOf]; omega
          · have hb0 : (y1 == 0) = false := by simp [hy0]
            have hall : ∀ y ∈ (tauOf s q).outs (xn : Int), y.2 ∈ M := by
              intro y hy
              have h1 := mem_tauOf.1 hy
              refine HTY.out y ?_ h1.2
              have h2 := outs_zero HR.out HSRT.out (x := (xn : Int)) (r := r) (y := (y1, (t : Int))) (by rw [← HSS.out]; exact HY.out) hy0 y h1.1 h1.2
              rw [HSS.out]; exact h2
            have hnx := Bfs.next HB2.out HMX.out hall
            have hiM : i < M.length := (List.getElem?_eq_some_iff.1 HMX.out).1
            have hMn : M.length ≤ n := by have := HB2.out.len; have h2 : (tauOf s q).st = (n : Int) := HN.out; rw [h2] at this; simpa using this
            have HNX := Lib.hid hnx
            clear hall hnx HTY hy0
            go_wp2_with fail
            go_roundw
            case rel => exact ⟨M, i + 1, _, _, rfl, by go_num, by omega, HNX.out, HW2.out⟩
            case measure => simp [intOf]; omega
        · have hall : ∀ y ∈ (tauOf s q).outs (xn : Int), y.2 ∈ M := by
            intro y hy
            have h1 := mem_tauOf.1 hy
            have := HTY.out
            rw [List.take_of_length_le (by omega), HSS.out] at this
            exact this y h1.1 h1.2
          have hnx := Bfs.next HB2.out HMX.out hall
          have hMn : M.length ≤ n := by have := HB2.out.len; have h2 : (tauOf s q).st = (n : Int) := HN.out; rw [h2] at this; simpa using this
          have hiM : i < M.length := (List.getElem?_eq_some_iff.1 HMX.out).1
          have HNX := Lib.hid hnx
          have hrr : ss.length = r := by omega
          clear hall hnx HTY
          go_wp2_with fail
          go_roundw
          case rel => exact ⟨M, i + 1, _, _, rfl, by go_num, by omega, HNX.out, HW2.out⟩
          case measure => simp [intOf]; omega
    · obtain rfl : i = L.length := by omega
      go_wp2_with fail
      go_ret
      exact ⟨SB, rfl, HW.out.seen.congr (fun j _ => by
        have : decide ((j : Int) ∈ L) = decide ((j : Int) ∈ reachL (tauOf s (q : Int))) := by
          rw [Bool.eq_iff_iff]; simp only [decide_eq_true_eq]
          rw [HB.out.all, mem_reachL HRT.out (by show s.st ≠ 0; have := HN.out; omega)]
        rw [this]), by have := HW.out.sb; omega, HW.out.below⟩
end Go.Proofs.YtkmljelgogcobaaGreatDoor

namespace Go.Proofs.YtkmljelgogcobaaGreatDoor
open Go.RowKit Pl

set_option maxRecDepth 100000 in
set_option maxHeartbeats 4000000 in
theorem refBack_any {s : Lts} {a : Option Addr} {b off c : Nat} {w : World} (hS : SlAt encE 3 w a b off s.es) (hl : s.es.length ≤ 20000) :
    Calls Tryz.prog 40 #[.agg #[.int .i64 s.st, .int .i64 s.lb, .int .i64 s.s0, .slice a s.es.length c]] w fun e w' => ∃ ba bb bc, e = .returned (.agg #[.int .i64 s.st, .int .i64 s.lb, .int .i64 s.s0, .slice ba (backS s).es.length bc]) ∧ SlAt encE 3 w' ba bb 0 (backS s).es ∧ (backS s).es.length ≤ bc ∧ bc ≤ maxLen ∧ Below w.heap.size w w' := by
  obtain ⟨W, hW⟩ : ∃ W, W = (w.alloc (.cells #[.int .i64 s.st, .int .i64 s.lb, .int .i64 s.s0, .slice a s.es.length c] 24)).alloc (.cells #[.int .i64 0, .int .i64 0, .int .i64 0, .slice none 0 0] 24) := ⟨_, rfl⟩
  have hB0 : Below w.heap.size w W := by rw [hW]; exact ((Below.refl _ _).alloc (Nat.le_refl _) _).alloc (by simp) _
  have h1 : W.heap[w.heap.size]? = some (.cells #[.int .i64 s.st, .int .i64 s.lb, .int .i64 s.s0, .slice a s.es.length c] 24 (0, 0)) := by
    rw [hW, Below.heap_alloc _ _ _ (by simp)]; exact heap_alloc_new w _
  have h2 : W.heap[w.heap.size + 1]? = some (.cells #[.int .i64 0, .int .i64 0, .int .i64 0, .slice none 0 0] 24 (0, 0)) := by
    have h := heap_alloc_new (w.alloc (.cells #[.int .i64 s.st, .int .i64 s.lb, .int .i64 s.s0, .slice a s.es.length c] 24)) (.cells #[.int .i64 0, .int .i64 0, .int .i64 0, .slice none 0 0] 24)
    rw [show (w.alloc (.cells #[.int .i64 s.st, .int .i64 s.lb, .int .i64 s.s0, .slice a s.es.length c] 24)).heap.size = w.heap.size + 1 by simp] at h
    rw [hW]; exact h
  have hSW := hS.below hB0 (Nat.le_refl _)
  have hbl : (backS s).es.length = s.es.length := by simp [backS]
  rw [hbl]
  obtain ⟨m, hm⟩ : ∃ m, m = s.es.length := ⟨_, rfl⟩
  rw [← hm] at hW h1 hl hbl ⊢
  have HW := Lib.hid hW; have HB0 := Lib.hid hB0; have H1 := Lib.hid h1; have H2 := Lib.hid h2; have HM := Lib.hid hm; have HS := Lib.hid hSW; have HBL := Lib.hid hbl
  have hsW : w.heap.size + 2 = W.heap.size := by rw [hW]; simp
  have HSZ := Lib.hid hsW
  clear hW hB0 h1 h2 hm hS hSW hbl hsW
  go_enter Tryz.func40, Tryz.ntmps40
  go_wp2_with fail
  rw [← HW.out]
  go_loopw [3, 4] (fun v3 v4 wr => ∃ (i : Nat) (lv : Value), lv = v3 ∧ v4 = .int .i64 i ∧ i ≤ m ∧ Below W.heap.size W wr ∧ wr.ownsRow W.heap.size 79 3 lv i (((backS s).es.take i).flatMap encE)) (fun _ v4 _ => m - (intOf v4).toNat)
  case atStart => exact ⟨0, _, rfl, rfl, Nat.zero_le _, Below.refl _ _, World.ownsRow_nil _ _ _ _⟩
  case round =>
    obtain ⟨i, lv, rfl, rfl, hi, hB, hown⟩ := hrel
    have HB := Lib.hid hB; have HO := Lib.hid hown
    have hs4 := hB.size
    have hx1 := (hB.block _ (Array.getElem?_eq_some_iff.1 H1.out).1).trans H1.out
    have hx2 := (hB.block _ (Array.getElem?_eq_some_iff.1 H2.out).1).trans H2.out
    have HX1 := Lib.hid hx1; have HX2 := Lib.hid hx2
    obtain ⟨x0, x1, x2, x3, x4⟩ := sysC hx1
    clear hB hown hx1 hx2
    by_cases hlt : i < m
    · have hiI : (i : Int) < (m : Int) := by omega
      obtain ⟨x, hx⟩ := getElem?_of_lt (xs := s.es) (i := i) (by rw [← HM.out]; exact hlt)
      have had := HS.out.ad (by rw [← HM.out]; omega)
      subst had
      have hse := HS.out.below HB.out (Nat.le_refl _)
      have e0 := hse.e0 hx; have e1 := hse.e1 hx; have e2 := hse.e2 hx
      have hel := hse.lt (by rw [← HM.out]; omega)
      have HTK : RowKit.Hid (((backS s).es.take (i + 1)).flatMap encE = ((backS s).es.take i).flatMap encE ++ [.int .i64 x.2.2, .int .i64 x.2.1, .int .i64 x.1]) := Lib.hid (by
        rw [take_snoc (show (backS s).es[i]? = some (turnE x) by simp [backS, hx]), List.flatMap_append]
        simp [encE, turnE])
      have HXI := Lib.hid hx
      clear hse hx x0 x1 x2 x4
      obtain ⟨y1, y2, y3⟩ := x
      dsimp only at e0 e1 e2 HTK HXI
      have hxl := World.block_lt_of_cell? _ _ x3
      have HOW : RowKit.Hid (∀ o : Obj, (wr.alloc o).drew.ownsRow W.heap.size 79 3 lv i (((backS s).es.take i).flatMap encE)) := Lib.hid (fun o => HO.out.alloc o)
      have HKP : RowKit.Hid (∀ V, Below W.heap.size W V → (V.cell? ⟨w.heap.size, 3, none⟩ = some (.slice (some ⟨b, off, none⟩) m c) ∧ w.heap.size < V.heap.size ∧ V.cell? ⟨b, off + i * 3, none⟩ = some (.int .i64 y1) ∧ V.cell? ⟨b, off + i * 3 + 1, none⟩ = some (.int .i64 y2) ∧ V.cell? ⟨b, off + i * 3 + 2, none⟩ = some (.int .i64 y3) ∧ b < V.heap.size) ∧ Below W.heap.size W V) := Lib.hid (fun V hV => by
        have hx1 := (hV.block _ (Array.getElem?_eq_some_iff.1 H1.out).1).trans H1.out
        obtain ⟨_, _, _, z3, _⟩ := sysC hx1
        have hse := HS.out.below hV (Nat.le_refl _)
        exact ⟨⟨z3, (Array.getElem?_eq_some_iff.1 hx1).1, hse.e0 HXI.out, hse.e1 HXI.out, hse.e2 HXI.out, hse.lt (by rw [← HM.out]; omega)⟩, hV⟩)
      have hdr : Below W.heap.size W wr.drew := HB.out.drew
      have HBA : RowKit.Hid (Below W.heap.size W (wr.drew.alloc (.cells #[.int .i64 y3, .int .i64 y2, .int .i64 y1] 79))) := Lib.hid (hdr.alloc hs4 _)
      clear e0 e1 e2 hel
      go_upto_region 5 with fail
      clear hxl x3
      -- region
      refine wp_region_held_drew (S := (fun V => (V.cell? ⟨w.heap.size, 3, none⟩ = some (.slice (some ⟨b, off, none⟩) m c) ∧ w.heap.size < V.heap.size ∧ V.cell? ⟨b, off + i * 3, none⟩ = some (.int .i64 y1) ∧ V.cell? ⟨b, off + i * 3 + 1, none⟩ = some (.int .i64 y2) ∧ V.cell? ⟨b, off + i * 3 + 2, none⟩ = some (.int .i64 y3) ∧ b < V.heap.size) ∧ Below W.heap.size W V)) (by kernel_rfl) (by (try dsimp only); exact HKP.out _ (by first | assumption | exact HBA.out)) (fun hHeld => ?_)
      refine wpAnyH_take (i := 0) (v := ?_) rfl (by kernel_rfl) (by kernel_rfl) (by kernel_rfl) (fun _ _ _ h => h) (Or.inl ⟨by rfl, ?_⟩) (by assumption) ?_
      rotate_left
      · intro w hSw
        try dsimp only at hSw
        go_simp
        try with_reducible rfl
      try simp only [Act.put, List.setIfInBounds_toArray, List.set_cons_zero, List.set_cons_succ]
      refine wpAnyH_take (i := 1) (v := ?_) rfl (by kernel_rfl) (by kernel_rfl) (by kernel_rfl) (fun _ _ _ h => h) (Or.inl ⟨by rfl, ?_⟩) (by assumption) ?_
      rotate_left
      · intro w hSw
        try dsimp only at hSw
        go_simp
        try with_reducible rfl
      try simp only [Act.put, List.setIfInBounds_toArray, List.set_cons_zero, List.set_cons_succ]
      refine wpAnyH_take (i := 2) (v := ?_) rfl (by kernel_rfl) (by kernel_rfl) (by kernel_rfl) (fun _ _ _ h => h) (Or.inl ⟨by rfl, ?_⟩) (by assumption) ?_
      rotate_left
      · intro w hSw
        try dsimp only at hSw
        go_simp
        try with_reducible rfl
      try simp only [Act.put, List.setIfInBounds_toArray, List.set_cons_zero, List.set_cons_succ]
      refine wpAnyH_take (i := 3) (v := ?_) rfl (by kernel_rfl) (by kernel_rfl) (by kernel_rfl) (fun _ _ _ h => h) (Or.inl ⟨by rfl, ?_⟩) (by assumption) ?_
      rotate_left
      · intro w hSw
        try dsimp only at hSw
        go_simp
        try with_reducible rfl
      try simp only [Act.put, List.setIfInBounds_toArray, List.set_cons_zero, List.set_cons_succ]
      refine wpAnyH_take (i := 4) (v := ?_) rfl (by kernel_rfl) (by kernel_rfl) (by kernel_rfl) (fun _ _ _ h => h) (Or.inl ⟨by rfl, ?_⟩) (by assumption) ?_
      rotate_left
      · intro w hSw
        try dsimp only at hSw
        go_simp
        try with_reducible rfl
      try simp only [Act.put, List.setIfInBounds_toArray, List.set_cons_zero, List.set_cons_succ]
      refine wpAnyH_take (i := 5) (v := ?_) rfl (by kernel_rfl) (by kernel_rfl) (by kernel_rfl) (fun _ _ _ h => h) (Or.inl ⟨by rfl, ?_⟩) (by assumption) ?_
      rotate_left
      · intro w hSw
        try dsimp only at hSw
        go_simp
        try with_reducible rfl
      try simp only [Act.put, List.setIfInBounds_toArray, List.set_cons_zero, List.set_cons_succ]
      refine wpAnyH_take (i := 6) (v := ?_) rfl (by kernel_rfl) (by kernel_rfl) (by kernel_rfl) (fun _ _ _ h => h) (Or.inl ⟨by rfl, ?_⟩) (by assumption) ?_
      rotate_left
      · intro w hSw
        try dsimp only at hSw
        go_simp
        try with_reducible rfl
      try simp only [Act.put, List.setIfInBounds_toArray, List.set_cons_zero, List.set_cons_succ]
      refine wpAnyH_take (i := 7) (v := ?_) rfl (by kernel_rfl) (by kernel_rfl) (by kernel_rfl) (fun _ _ _ h => h) (Or.inl ⟨by rfl, ?_⟩) (by assumption) ?_
      rotate_left
      · intro w hSw
        try dsimp only at hSw
        go_simp
        try with_reducible rfl
      try simp only [Act.put, List.setIfInBounds_toArray, List.set_cons_zero, List.set_cons_succ]
      refine wpAnyH_take (i := 8) (v := ?_) rfl (by kernel_rfl) (by kernel_rfl) (by kernel_rfl) (fun _ _ _ h => h) (Or.inl ⟨by rfl, ?_⟩) (by assumption) ?_
      rotate_left
      · intro w hSw
        try dsimp only at hSw
        go_simp
        try with_reducible rfl
      try simp only [Act.put, List.setIfInBounds_toArray, List.set_cons_zero, List.set_cons_succ]
      refine wpAnyH_take (i := 9) (v := ?_) rfl (by kernel_rfl) (by kernel_rfl) (by kernel_rfl) (fun _ _ _ h => h) (Or.inl ⟨by rfl, ?_⟩) (by assumption) ?_
      rotate_left
      · intro w hSw
        try dsimp only at hSw
        go_simp
        try with_reducible rfl
      try simp only [Act.put, List.setIfInBounds_toArray, List.set_cons_zero, List.set_cons_succ]
      refine wpAnyH_take (i := 10) (v := ?_) rfl (by kernel_rfl) (by kernel_rfl) (by kernel_rfl) (fun _ _ _ h => h) (Or.inl ⟨by rfl, ?_⟩) (by assumption) ?_
      rotate_left
      · intro w hSw
        try dsimp only at hSw
        go_simp
        try with_reducible rfl
      try simp only [Act.put, List.setIfInBounds_toArray, List.set_cons_zero, List.set_cons_succ]
      refine wpAnyH_take (i := 11) (v := ?_) rfl (by kernel_rfl) (by kernel_rfl) (by kernel_rfl) (fun _ _ _ h => h) (Or.inl ⟨by rfl, ?_⟩) (by assumption) ?_
      rotate_left
      · intro w hSw
        try dsimp only at hSw
        go_simp
        try with_reducible rfl
      try simp only [Act.put, List.setIfInBounds_toArray, List.set_cons_zero, List.set_cons_succ]
      refine wpAnyH_take (i := 12) (v := ?_) rfl (by kernel_rfl) (by kernel_rfl) (by kernel_rfl) (fun _ _ _ h => h) (Or.inl ⟨by rfl, ?_⟩) (by assumption) ?_
      rotate_left
      · intro w hSw
        try dsimp only at hSw
        go_simp
        try with_reducible rfl
      try simp only [Act.put, List.setIfInBounds_toArray, List.set_cons_zero, List.set_cons_succ]
      refine wpAnyH_take (i := 13) (v := ?_) rfl (by kernel_rfl) (by kernel_rfl) (by kernel_rfl) (fun _ _ _ h => h) (Or.inl ⟨by rfl, ?_⟩) (by assumption) ?_
      rotate_left
      · intro w hSw
        try dsimp only at hSw
        go_simp
        try with_reducible rfl
      try simp only [Act.put, List.setIfInBounds_toArray, List.set_cons_zero, List.set_cons_succ]
      refine wpAnyH_take (i := 14) (v := ?_) rfl (by kernel_rfl) (by kernel_rfl) (by kernel_rfl) (fun _ _ _ h => h) (Or.inl ⟨by rfl, ?_⟩) (by assumption) ?_
      rotate_left
      · intro w hSw
        try dsimp only at hSw
        go_simp
        try with_reducible rfl
      try simp only [Act.put, List.setIfInBounds_toArray, List.set_cons_zero, List.set_cons_succ]
      refine wpAnyH_take (i := 15) (v := ?_) rfl (by kernel_rfl) (by kernel_rfl) (by kernel_rfl) (fun _ _ _ h => h) (Or.inl ⟨by rfl, ?_⟩) (by assumption) ?_
      rotate_left
      · intro w hSw
        try dsimp only at hSw
        go_simp
        try with_reducible rfl
      try simp only [Act.put, List.setIfInBounds_toArray, List.set_cons_zero, List.set_cons_succ]
      refine wpAnyH_take (i := 16) (v := ?_) rfl (by kernel_rfl) (by kernel_rfl) (by kernel_rfl) (fun _ _ _ h => h) (Or.inl ⟨by rfl, ?_⟩) (by assumption) ?_
      rotate_left
      · intro w hSw
        try dsimp only at hSw
        go_simp
        try with_reducible rfl
      try simp only [Act.put, List.setIfInBounds_toArray, List.set_cons_zero, List.set_cons_succ]
      refine wpAnyH_take (i := 17) (v := ?_) rfl (by kernel_rfl) (by kernel_rfl) (by kernel_rfl) (fun _ _ _ h => h) (Or.inl ⟨by rfl, ?_⟩) (by assumption) ?_
      rotate_left
      · intro w hSw
        try dsimp only at hSw
        go_simp
        try with_reducible rfl
      try simp only [Act.put, List.setIfInBounds_toArray, List.set_cons_zero, List.set_cons_succ]
      refine wpAnyH_take (i := 18) (v := ?_) rfl (by kernel_rfl) (by kernel_rfl) (by kernel_rfl) (fun _ _ _ h => h) (Or.inl ⟨by rfl, ?_⟩) (by assumption) ?_
      rotate_left
      · intro w hSw
        try dsimp only at hSw
        go_simp
        try with_reducible rfl
      try simp only [Act.put, List.setIfInBounds_toArray, List.set_cons_zero, List.set_cons_succ]
      refine wpAnyH_take (i := 19) (v := ?_) rfl (by kernel_rfl) (by kernel_rfl) (by kernel_rfl) (fun _ _ _ h => h) (Or.inl ⟨by rfl, ?_⟩) (by assumption) ?_
      rotate_left
      · intro w hSw
        try dsimp only at hSw
        go_simp
        try with_reducible rfl
      try simp only [Act.put, List.setIfInBounds_toArray, List.set_cons_zero, List.set_cons_succ]
      refine wpAnyH_ready (rs := [20]) (by kernel_rfl) (by simp) ?_
      refine AllReadyH.cons rfl (fun K hK => ?_) AllReadyH.nil
      go_simp
      refine hK.out _ _ (by (try dsimp only); exact HKP.out _ (by first | assumption | exact HBA.out)) (fun hHeld => ?_)
      clear hK K
      try simp only [Act.put, List.setIfInBounds_toArray, List.set_cons_zero, List.set_cons_succ]
      refine wpAnyH_ready (rs := [21]) (by kernel_rfl) (by simp) ?_
      refine AllReadyH.cons rfl (fun K hK => ?_) AllReadyH.nil
      refine step_app1 rfl _ _ _ (by rfl) rowE (by rfl) (HOW.out _) ⟨wr.heap.size, 0, none⟩ 1 1 [.int .i64 y3, .int .i64 y2, .int .i64 y1] (by rfl) (by rfl) (cells3 (by simp [go_sem]) (by simp [go_sem]) (by simp [go_sem])) (by simp [Value.oneCell']) (by decide) (by omega) (by unfold maxLen; omega) (by simp; omega) ?_; intro g cap w5 hown5 hg5; have hb5 : Below W.heap.size W w5 := HBA.out.grown hg5 (by simp; omega) (fun k hk => (HO.out.lt k hk).1)
      refine hK.out _ _ (by (try dsimp only); exact HKP.out _ (by first | assumption | exact HBA.out)) (fun hHeld => ?_)
      clear hK K
      try simp only [Act.put, List.setIfInBounds_toArray, List.set_cons_zero, List.set_cons_succ]
      refine wpAnyH_take (i := 22) (v := ?_) rfl (by kernel_rfl) (by kernel_rfl) (by kernel_rfl) (fun _ _ _ h => h) (Or.inl ⟨by rfl, ?_⟩) (by assumption) ?_
      rotate_left
      · intro w hSw
        try dsimp only at hSw
        go_simp
        try with_reducible rfl
      try simp only [Act.put, List.setIfInBounds_toArray, List.set_cons_zero, List.set_cons_succ]
      refine wpAnyH_done (by kernel_rfl) ?_ _
      -- end
      all_goals
        have HB5 := Lib.hid hb5
        have HO5 : RowKit.Hid (w5.ownsRow W.heap.size 79 3 (.slice (some ⟨g, 0, none⟩) (i + 1) cap) (i + 1) (((backS s).es.take (i + 1)).flatMap encE)) := Lib.hid (by rw [HTK.out]; exact hown5)
        clear hb5 hown5 hg5 HO HB HOW
        go_wp2_with fail
        go_roundw
        case rel => exact ⟨i + 1, _, rfl, by go_num, by omega, HB5.out, HO5.out⟩
        case measure => simp [intOf]; omega
    · obtain rfl : i = m := by omega
      obtain ⟨va, vc, rfl⟩ := own_sl HO.out
      have xf : wr.frozen? ⟨w.heap.size, 3, none⟩ = false := by simp [World.frozen?, HX1.out]
      obtain ⟨⟨y0, y1, y2, y3, y4⟩, z0, z1, z2, z3⟩ := sysZ HX2.out
      have hB2 := HB0.out.trans (HB.out.mono HB0.out.size)
      have HB2 := Lib.hid hB2
      clear hB2
      go_wp2_with fail
      have ho := HO.out
      rw [List.take_of_length_le (by rw [HBL.out]; exact Nat.le_refl _)] at ho
      obtain ⟨a9, c9, b9, e9, h1, h2, h3, h4⟩ := slAt_own (xs := (backS s).es) lenE (by rw [HBL.out]; exact ho)
      rw [HBL.out] at e9 h1
      cases e9
      have hne : 0 < (backS s).es.length → b9 ≠ w.heap.size ∧ b9 ≠ w.heap.size + 1 := fun hp => by have := h4 hp; have := HSZ.out; omega
      refine bodyPost_ret (v := .agg #[.int .i64 s.st, .int .i64 s.lb, .int .i64 s.s0, .slice va i vc]) (by simp [results, Tryz.results40, go_sem, y0, y1, y2, y3]) rfl ⟨va, b9, vc, rfl, ?_, h1, h2, ?_⟩
      · exact ((((h3.setOther (fun hp => (hne hp).1) _).setOther (fun hp => (hne hp).2) _).setOther (fun hp => (hne hp).2) _).setOther (fun hp => (hne hp).2) _).setOther (fun hp => (hne hp).2) _
      · exact ((((HB2.out.setCell (p := ⟨w.heap.size, 3, none⟩) (by simp) _).setCell (p := ⟨w.heap.size + 1, 0, none⟩) (by simp) _).setCell (p := ⟨w.heap.size + 1, 1, none⟩) (by simp) _).setCell (p := ⟨w.heap.size + 1, 2, none⟩) (by simp) _).setCell (p := ⟨w.heap.size + 1, 3, none⟩) (by simp) _
end Go.Proofs.YtkmljelgogcobaaGreatDoor

namespace Go.Proofs.YtkmljelgogcobaaGreatDoor
open Go.RowKit Pl

theorem rowIs_sl {w : World} {b n : Nat} {f : Nat → Int} (h : w.rowIs b 3 n (fun i => .int .i64 (f i))) : SlAt encI 1 w (some ⟨b, 0, none⟩) b 0 (fl n f) where
  ad _ := rfl
  lt _ := h.lt
  cell := by
    intro i x hx j u hu
    have hi : i < n := by have := (List.getElem?_eq_some_iff.1 hx).1; rwa [fl_len] at this
    rw [fl_get f hi] at hx
    cases hx
    match j, hu with
    | 0, hu => simp [encI] at hu; subst hu; simpa using h.cell hi

theorem fl_getD {n i : Nat} {G : Nat → Int} (hi : i < n) : (fl n G).getD i 0 = G i := by
  rw [List.getD_eq_getElem?_getD, fl_get G hi]; rfl
theorem rowAtK_all {n i : Nat} {G : Nat → Int} (hi : i < n) : rowAtK (fl n G) n i = .int .i64 (clf n G i) := by
  unfold rowAtK clf
  rw [if_pos hi, fl_getD hi]
end Go.Proofs.YtkmljelgogcobaaGreatDoor

namespace Go.Proofs.YtkmljelgogcobaaGreatDoor
namespace Pl
section
variable {s : Lts} {n : Nat}
theorem tr_normB {p q : Nat} : TR s.norm p q ↔ TR s p q := by
  constructor
  · intro h
    induction h with
    | refl => exact .refl
    | tail _ h2 ih => exact ih.tail ((mem_nf stoE _ _).1 h2)
  · intro h
    induction h with
    | refl => exact .refl
    | tail _ h2 ih => exact ih.tail (show tau s.norm _ _ from (mem_nf stoE _ _).2 h2)
theorem rch_tauB (hr : s.Right) {q m : Nat} : Rch (tauOf s (q : Int)) (m : Int) ↔ TR s q m := by
  constructor
  · intro h
    have h1 := h (fun x => ∃ m : Nat, x = (m : Int) ∧ TR s q m) ⟨q, rfl, .refl⟩ (by
      rintro a l b ⟨m, rfl, h2⟩ h3
      unfold tauOf at h3
      simp only [List.mem_filter, beq_iff_eq] at h3
      obtain ⟨h3, rfl⟩ := h3
      have h4 := offB_false.1 (hr.edges _ h3)
      simp only at h4
      obtain ⟨b, rfl⟩ := Int.eq_ofNat_of_zero_le h4.2.2.2.2.1
      exact ⟨b, rfl, h2.tail h3⟩)
    obtain ⟨m', h2, h3⟩ := h1
    obtain rfl : m = m' := by omega
    exact h3
  · intro h
    induction h with
    | refl => exact Rch.start _
    | @tail a b _ h2 ih => exact ih.step (l := 0) (by unfold tauOf; simp only [List.mem_filter]; exact ⟨h2, by simp⟩)
/-- Whom silent steps lead to from q, as the reference's row tells it. -/
theorem tauRow_iff (hr : s.Right) (hn : s.st = (n : Int)) {q j : Nat} (hq : q < n) : decide ((j : Int) ∈ reachL (tauOf s.norm (q : Int))) = true ↔ TR s q j := by
  have hrn := hr.norm
  rw [decide_eq_true_eq, mem_reachL (tauOf_right hrn (by omega) (by show (q : Int) < s.st; omega)) (by show s.st ≠ 0; omega), rch_tauB hrn, tr_normB]
end
end Pl
end Go.Proofs.YtkmljelgogcobaaGreatDoor

namespace Go.Proofs.YtkmljelgogcobaaGreatDoor
open Go.RowKit Pl

set_option maxRecDepth 100000 in
set_option maxHeartbeats 8000000 in
theorem refCycles_any {s : Lts} {n : Nat} (hr : s.Right) (hn : s.st = (n : Int)) {f : Nat → Int} (hf : Cyc s n f) {a : Option Addr} {b off c : Nat} {w : World} (hS : SlAt encE 3 w a b off s.es) (hc : s.es.length ≤ c) (hcm : c ≤ maxLen) :
    Calls Tryz.prog 116 #[.agg #[.int .i64 s.st, .int .i64 s.lb, .int .i64 s.s0, .slice a s.es.length c]] w fun e w' => ∃ cb, e = .returned (.slice (some ⟨cb, 0, none⟩) n n) ∧ w'.rowIs cb 3 n (fun k => .int .i64 (clf n f k)) ∧ w.heap.size ≤ cb ∧ Below w.heap.size w w' := by
  have hst := hr.st0
  have hn1 : n ≤ 1000 := by omega
  have hmk := run_make_row' (P := Tryz.prog) 49 3 (.int .i64 0) 8 Tryz.underlying49 (by kernel_rfl) rfl .i64 .i64 n (by omega) (by omega)
  obtain ⟨W, hW⟩ : ∃ W, W = w.alloc (Obj.cells #[.int .i64 s.st, .int .i64 s.lb, .int .i64 s.s0, .slice a s.es.length c] 24) := ⟨_, rfl⟩
  have hB0 : Below w.heap.size w W := by rw [hW]; exact (Below.refl w.heap.size w).alloc (Nat.le_refl _) _
  have hbx : W.heap[w.heap.size]? = some (.cells #[.int .i64 s.st, .int .i64 s.lb, .int .i64 s.s0, .slice a s.es.length c] 24 (0, 0)) := by rw [hW]; exact heap_alloc_new w _
  have hSW := hS.below hB0 (Nat.le_refl _)
  have HO1 : RowKit.Hid (∀ V, Below W.heap.size W V → Calls Tryz.prog 21 #[.agg #[.int .i64 s.st, .int .i64 s.lb, .int .i64 s.s0, .slice a s.es.length c]] V fun e w' => ∃ ob, e = .returned (.slice (some ⟨ob, 0, none⟩) n n) ∧ StepsIn w' ob n (fun p => s.norm.outs (p : Int)) ∧ Below V.heap.size V w') := Lib.hid (fun V hV => by
    refine (refOut_any hr (hSW.below hV (Nat.le_refl _)) hc hcm).mono ?_
    rintro e w' ⟨ob, n', base, hn', rfl, hrows, _, hB⟩
    obtain rfl : n = n' := by omega
    exact ⟨ob, rfl, StepsIn.of hrows, hB⟩)
  have HBK : RowKit.Hid (∀ V, Below W.heap.size W V → Calls Tryz.prog 40 #[.agg #[.int .i64 s.st, .int .i64 s.lb, .int .i64 s.s0, .slice a s.es.length c]] V fun e w' => ∃ ba bb bc, e = .returned (.agg #[.int .i64 s.st, .int .i64 s.lb, .int .i64 s.s0, .slice ba (backS s).es.length bc]) ∧ SlAt encE 3 w' ba bb 0 (backS s).es ∧ (backS s).es.length ≤ bc ∧ bc ≤ maxLen ∧ Below V.heap.size V w') := Lib.hid (fun V hV => refBack_any (hSW.below hV (Nat.le_refl _)) (by omega))
  have HOB : RowKit.Hid (∀ (V : World) (ba : Option Addr) (bb bc : Nat), SlAt encE 3 V ba bb 0 (backS s).es → (backS s).es.length ≤ bc → bc ≤ maxLen → Calls Tryz.prog 21 #[.agg #[.int .i64 s.st, .int .i64 s.lb, .int .i64 s.s0, .slice ba (backS s).es.length bc]] V fun e w' => ∃ ob, e = .returned (.slice (some ⟨ob, 0, none⟩) n n) ∧ StepsIn w' ob n (fun p => (backS s).norm.outs (p : Int)) ∧ Below V.heap.size V w') := Lib.hid (fun V ba bb bc h1 h2 h3 => by
    refine (refOut_any (backS_right hr) h1 h2 h3).mono ?_
    rintro e w' ⟨ob, n', base, hn', rfl, hrows, _, hB⟩
    obtain rfl : n = n' := by have : (backS s).st = s.st := rfl; omega
    exact ⟨ob, rfl, StepsIn.of hrows, hB⟩)
  obtain ⟨el, hel⟩ : ∃ el, el = s.es.length := ⟨_, rfl⟩
  obtain ⟨lb, hlb⟩ : ∃ lb, lb = s.lb := ⟨_, rfl⟩
  rw [← hel, hn, ← hlb] at hW HO1 HBK hbx ⊢
  rw [hn, ← hlb] at HOB
  have HK : RowKit.Hid (∀ V, Below W.heap.size W V → (V.cell? ⟨w.heap.size, 0, none⟩ = some (.int .i64 (n : Int)) ∧ V.cell? ⟨w.heap.size, 1, none⟩ = some (.int .i64 lb) ∧ V.cell? ⟨w.heap.size, 2, none⟩ = some (.int .i64 s.s0) ∧ V.cell? ⟨w.heap.size, 3, none⟩ = some (.slice a el c) ∧ w.heap.size < V.heap.size) ∧ Below W.heap.size W V) := Lib.hid (fun V hV => by
    have h := (hV.block _ (Array.getElem?_eq_some_iff.1 hbx).1).trans hbx
    obtain ⟨⟨x0, x1, x2, x3⟩, xl⟩ : (V.cell? ⟨w.heap.size, 0, none⟩ = some (.int .i64 (n : Int)) ∧ V.cell? ⟨w.heap.size, 1, none⟩ = some (.int .i64 lb) ∧ V.cell? ⟨w.heap.size, 2, none⟩ = some (.int .i64 s.s0) ∧ V.cell? ⟨w.heap.size, 3, none⟩ = some (.slice a el c)) ∧ w.heap.size < V.heap.size := by
      refine ⟨⟨?_, ?_, ?_, ?_⟩, (Array.getElem?_eq_some_iff.1 h).1⟩ <;> simp [World.cell?, h]
    exact ⟨⟨x0, x1, x2, x3, xl⟩, hV⟩)
  have HR := Lib.hid hr; have HN := Lib.hid hn; have HF := Lib.hid hf; have HW := Lib.hid hW; have HB0 := Lib.hid hB0
  have HB0D : RowKit.Hid (Below W.heap.size W W.drew) := Lib.hid (Below.refl _ _).drew
  clear hr hn hf hW hB0 hbx hSW hS hc hcm hel hlb hst
  go_enter Tryz.func116, Tryz.ntmps116
  go_upto_region 1 with fail
  rw [← HW.out]
  refine wp_region_held_drew (S := (fun V => (V.cell? ⟨w.heap.size, 0, none⟩ = some (.int .i64 (n : Int)) ∧ V.cell? ⟨w.heap.size, 1, none⟩ = some (.int .i64 lb) ∧ V.cell? ⟨w.heap.size, 2, none⟩ = some (.int .i64 s.s0) ∧ V.cell? ⟨w.heap.size, 3, none⟩ = some (.slice a el c) ∧ w.heap.size < V.heap.size) ∧ Below W.heap.size W V)) (by kernel_rfl) (by (try dsimp only); exact HK.out _ HB0D.out) (fun hHeld => ?_)
  refine wpAnyH_take (i := 0) (v := ?_) rfl (by kernel_rfl) (by kernel_rfl) (by kernel_rfl) (fun _ _ _ h => h) (Or.inl ⟨by rfl, ?_⟩) (by assumption) ?_
  rotate_left
  · intro w hSw
    try dsimp only at hSw
    go_simp
    try with_reducible rfl
  try simp only [List.getElem_toArray, List.getElem_cons_zero, List.getElem_cons_succ, Act.put, List.setIfInBounds_toArray, List.set_cons_zero, List.set_cons_succ]
  refine wpAnyH_take (i := 2) (v := ?_) rfl (by kernel_rfl) (by kernel_rfl) (by kernel_rfl) (fun _ _ _ h => h) (Or.inl ⟨by rfl, ?_⟩) (by assumption) ?_
  rotate_left
  · intro w hSw
    try dsimp only at hSw
    go_simp
    try with_reducible rfl
  try simp only [List.getElem_toArray, List.getElem_cons_zero, List.getElem_cons_succ, Act.put, List.setIfInBounds_toArray, List.set_cons_zero, List.set_cons_succ]
  refine wpAnyH_ready (rs := [1]) (by kernel_rfl) (by simp) ?_
  refine AllReadyH.cons rfl (fun K hK => ?_) AllReadyH.nil
  go_simp
  refine (HO1.out _ HB0D.out).mono ?_
  rintro e wa ⟨ob, rfl, hso, hBa⟩
  have HSO := Lib.hid hso
  have HBa := Lib.hid (HB0D.out.trans (hBa.mono HB0D.out.size))
  clear hso hBa
  refine hK.out _ _ (by (try dsimp only); exact HK.out _ HBa.out) (fun hHeld => ?_)
  clear hK K
  try simp only [List.getElem_toArray, List.getElem_cons_zero, List.getElem_cons_succ, Act.put, List.setIfInBounds_toArray, List.set_cons_zero, List.set_cons_succ]
  refine wpAnyH_ready (rs := [3]) (by kernel_rfl) (by simp) ?_
  refine AllReadyH.cons rfl (fun K hK => ?_) AllReadyH.nil
  go_simp
  refine (HBK.out _ HBa.out).mono ?_
  rintro e wb ⟨ba, bb2, bc, rfl, hbs, hbc1, hbc2, hBb⟩
  have HO2 := Lib.hid (HOB.out wb ba bb2 bc hbs hbc1 hbc2)
  replace HSO := Lib.hid (HSO.out.below hBb)
  have HBb := Lib.hid (HBa.out.trans (hBb.mono HBa.out.size))
  clear hbs hbc1 hbc2 hBb
  refine hK.out _ _ (by (try dsimp only); exact HK.out _ HBb.out) (fun hHeld => ?_)
  clear hK K
  try simp only [List.getElem_toArray, List.getElem_cons_zero, List.getElem_cons_succ, Act.put, List.setIfInBounds_toArray, List.set_cons_zero, List.set_cons_succ]
  refine wpAnyH_ready (rs := [4]) (by kernel_rfl) (by simp) ?_
  refine AllReadyH.cons rfl (fun K hK => ?_) AllReadyH.nil
  go_simp
  refine HO2.out.mono ?_
  rintro e wc ⟨ob2, rfl, hso2, hBc⟩
  have HSO2 := Lib.hid hso2
  replace HSO := Lib.hid (HSO.out.below hBc)
  have HBc := Lib.hid (HBb.out.trans (hBc.mono HBb.out.size))
  clear hso2 hBc
  refine hK.out _ _ (by (try dsimp only); exact HK.out _ HBc.out) (fun hHeld => ?_)
  clear hK K
  try simp only [List.getElem_toArray, List.getElem_cons_zero, List.getElem_cons_succ, Act.put, List.setIfInBounds_toArray, List.set_cons_zero, List.set_cons_succ]
  refine wpAnyH_take (i := 5) (v := ?_) rfl (by kernel_rfl) (by kernel_rfl) (by kernel_rfl) (fun _ _ _ h => h) (Or.inl ⟨by rfl, ?_⟩) (by assumption) ?_
  rotate_left
  · intro w hSw
    try dsimp only at hSw
    go_simp
    try with_reducible rfl
  try simp only [List.getElem_toArray, List.getElem_cons_zero, List.getElem_cons_succ, Act.put, List.setIfInBounds_toArray, List.set_cons_zero, List.set_cons_succ]
  refine wpAnyH_take (i := 6) (v := ?_) rfl (by kernel_rfl) (by kernel_rfl) (by kernel_rfl) (fun _ _ _ h => h) (Or.inl ⟨by rfl, ?_⟩) (by assumption) ?_
  rotate_left
  · intro w hSw
    try dsimp only at hSw
    go_simp
    try with_reducible rfl
  try simp only [List.getElem_toArray, List.getElem_cons_zero, List.getElem_cons_succ, Act.put, List.setIfInBounds_toArray, List.set_cons_zero, List.set_cons_succ]
  refine wpAnyH_done (by kernel_rfl) ?_ _
  obtain ⟨⟨x0, x1, x2, x3, xl⟩, _⟩ := HK.out _ HBc.out
  clear HO1 HBK HOB HO2 HB0D x1 x2 x3
  obtain ⟨w1, hw1⟩ : ∃ w1, w1 = wc.alloc (.cells (madeCells #[.int .i64 0] n) 3) := ⟨_, rfl⟩
  have hrow : w1.rowIs wc.heap.size 3 n (fun _ => .int .i64 0) := by rw [hw1]; exact World.rowIs_made wc (.int .i64 0) n 3
  have hb1 : Below wc.heap.size wc w1 := by rw [hw1]; exact (Below.refl _ _).alloc (Nat.le_refl _) _
  have HW1 := Lib.hid hw1; have HROW := Lib.hid hrow; have HB1 := Lib.hid hb1
  clear hw1 hrow hb1
  go_upto_region 3 with fail
  rw [← HW1.out]
  obtain ⟨ab, hab⟩ : ∃ ab, ab = wc.heap.size := ⟨_, rfl⟩
  rw [← hab] at HROW ⊢
  have HAB := Lib.hid hab
  have hW1 : Below W.heap.size W w1 := HBc.out.trans (HB1.out.mono HBc.out.size)
  have HBW1 := Lib.hid hW1
  have habl : ab < w1.heap.size := HROW.out.lt
  clear hab x0 xl hmk hW1
  -- the row within the loops
  have HX : RowKit.Hid (∀ V, Below wc.heap.size wc V → V.cell? ⟨w.heap.size, 0, none⟩ = some (.int .i64 (n : Int)) ∧ w.heap.size < V.heap.size) := Lib.hid (fun V hV => by
    obtain ⟨⟨x0, _, _, _, xl⟩, _⟩ := HK.out _ (HBc.out.trans (hV.mono HBc.out.size))
    exact ⟨x0, xl⟩)
  go_wp2_with fail
  go_loopw [6] (fun v6 wr => ∃ i : Nat, v6 = .int .i64 i ∧ i ≤ n ∧ wr.rowIs ab 3 n (fun j => .int .i64 (if j < i then -1 else 0)) ∧ Below wc.heap.size wc wr) (fun v6 _ => n - (intOf v6).toNat)
  case atStart => exact ⟨0, rfl, Nat.zero_le _, by simpa using HROW.out, HB1.out⟩
  case round =>
    obtain ⟨i, rfl, hi, hrow, hB⟩ := hrel
    obtain ⟨x0, xl⟩ := HX.out _ hB
    have hl := hrow.lt
    by_cases hlt : i < n
    · have hiI : (i : Int) < (n : Int) := by omega
      have c0 := hrow.cell hlt
      have f0 := hrow.frozen i
      have hs := hrow.set i (.int .i64 (-1))
      have HS2 : RowKit.Hid ((wr.setCell ⟨ab, i, none⟩ (.int .i64 (-1))).rowIs ab 3 n (fun j => .int .i64 (if j < i + 1 then -1 else 0))) := Lib.hid (hs.congr (fun j _ => by
        by_cases e : j = i
        · subst e; simp
        · rw [if_neg e]
          by_cases e2 : j < i
          · rw [if_pos e2, if_pos (by omega)]
          · rw [if_neg e2, if_neg (by omega)]))
      have HB2 := Lib.hid (hB.setCell (p := ⟨ab, i, none⟩) (by show wc.heap.size ≤ ab; rw [HAB.out]; exact Nat.le_refl _) (.int .i64 (-1)))
      clear hrow hB hs
      go_wp2_with fail
      go_roundw
      case rel => exact ⟨i + 1, by go_num, by omega, HS2.out, HB2.out⟩
      case measure => simp [intOf]; omega
    · obtain rfl : n = i := by omega
      have HRW : RowKit.Hid (wr.rowIs ab 3 n (fun j => .int .i64 (asL f 0 j))) := Lib.hid (hrow.congr (fun j hj => by rw [if_pos hj, asL_zero]))
      have HBR := Lib.hid hB
      clear hrow hB
      go_wp2_with fail
      go_loopw [7, 8, 9, 10, 11] (fun v7 v8 _ _ _ wr => ∃ i : Nat, v8 = .int .i64 i ∧ i ≤ n ∧ v7 = .int .i64 ((dist (fl i f)).length : Int) ∧ wr.rowIs ab 3 n (fun j => .int .i64 (asL f i j)) ∧ Below wc.heap.size wc wr) (fun _ v8 _ _ _ _ => n - (intOf v8).toNat)
      case atStart => exact ⟨0, rfl, Nat.zero_le _, rfl, HRW.out, HBR.out⟩
      case round =>
        obtain ⟨i, rfl, hi, rfl, hrow, hB⟩ := hrel
        clear HRW HBR hl xl x0
        obtain ⟨x0, xl⟩ := HX.out _ hB
        have hl := hrow.lt
        have hdl := dist_le i f
        obtain ⟨m, hm⟩ : ∃ m, m = (dist (fl i f)).length := ⟨_, rfl⟩
        rw [← hm] at hdl ⊢
        have HM := Lib.hid hm
        have HB := Lib.hid hB
        clear hm hB
        by_cases hlt : i < n
        · have hiI : (i : Int) < (n : Int) := by omega
          have c0 := hrow.cell hlt
          obtain ⟨q, hq⟩ : ∃ q, q = asL f i i := ⟨_, rfl⟩
          rw [← hq] at c0
          by_cases hneg : q < 0
          · have hb0 : decide (q ≥ 0) = false := by simp; omega
            have hge : ¬ (0 : Int) ≤ q := by omega
            have hfr := refFrom_any (s := s.norm) (c := n) HR.out.norm (srt_nf stoE _) (n := n) (q := i) HN.out hlt (HSO.out.below HB.out)
            have HFR := Lib.hid hfr
            obtain ⟨hnl, hnk⟩ := asL_new (f := f) (i := i) (by rw [← hq]; exact hneg)
            have HNL := Lib.hid hnl; have HNK := Lib.hid hnk; have HRO := Lib.hid hrow
            clear hfr hnl hnk hrow hq
            go_wp2_with fail
            refine HFR.out.mono ?_
            rintro e w3 ⟨rb, rfl, hra, hrb, hB3⟩
            have HB3 := Lib.hid (HB.out.trans (hB3.mono HB.out.size))
            have hfr2 := refFrom_any (s := (backS s).norm) (c := n) (backS_right HR.out).norm (srt_nf stoE _) (n := n) (q := i) HN.out hlt (HSO2.out.below HB3.out)
            have HFR2 := Lib.hid hfr2
            replace HRO := Lib.hid (HRO.out.of_block (hB3.block _ HRO.out.lt))
            have HRA := Lib.hid hra
            clear hfr2 hra hrb hB3 HFR x0 xl c0 hl
            go_wp2_with fail
            refine HFR2.out.mono ?_
            rintro e w4 ⟨rb2, rfl, hra2, hrb2, hB4⟩
            have HB4 := Lib.hid (HB3.out.trans (hB4.mono HB3.out.size))
            have HRA2 := Lib.hid hra2
            replace HRA := Lib.hid (HRA.out.of_block (hB4.block _ HRA.out.lt))
            replace HRO := Lib.hid (HRO.out.of_block (hB4.block _ HRO.out.lt))
            have hne1 : ab ≠ rb := fun e => by
              obtain ⟨cs, h1, _⟩ := HRO.out; obtain ⟨cs2, h2, _⟩ := HRA.out
              rw [e, h2] at h1; simp at h1
            have hne2 : ab ≠ rb2 := fun e => by
              obtain ⟨cs, h1, _⟩ := HRO.out; obtain ⟨cs2, h2, _⟩ := HRA2.out
              rw [e, h2] at h1; simp at h1
            clear hra2 hrb2 hB4 HFR2
            go_wp2_with fail
            go_loopw [11] (fun v11 wr => ∃ k : Nat, v11 = .int .i64 k ∧ k ≤ n ∧ wr.rowIs ab 3 n (fun j => .int .i64 (if j < k ∧ f j = f i then (m : Int) else asL f i j)) ∧ wr.rowIs rb 4 n (fun j => .bool (decide ((j : Int) ∈ reachL (tauOf s.norm (i : Int))))) ∧ wr.rowIs rb2 4 n (fun j => .bool (decide ((j : Int) ∈ reachL (tauOf (backS s).norm (i : Int))))) ∧ Below wc.heap.size wc wr) (fun v11 _ => n - (intOf v11).toNat)
            case atStart => exact ⟨0, rfl, Nat.zero_le _, by simpa using HRO.out, HRA.out, HRA2.out, HB4.out⟩
            case round =>
              obtain ⟨k, rfl, hk, hro, hra, hrb, hB⟩ := hrel
              obtain ⟨x0, xl⟩ := HX.out _ hB
              have hl1 := hro.lt; have hl2 := hra.lt; have hl3 := hrb.lt
              by_cases hkn : k < n
              · have hkI : (k : Int) < (n : Int) := by omega
                have c1 := hra.cell hkn
                have c2 := hrb.cell hkn
                have c3 := hro.cell hkn
                have f3 := hro.frozen k
                have e1 := tauRow_iff HR.out HN.out (q := i) (j := k) hlt
                have e2 := tauRow_iff (backS_right HR.out) (n := n) HN.out (q := i) (j := k) hlt
                rw [tr_backS] at e2
                have e3 := HF.out.same k i hkn hlt
                obtain ⟨A, hA⟩ : ∃ A, A = decide ((k : Int) ∈ reachL (tauOf s.norm (i : Int))) := ⟨_, rfl⟩
                obtain ⟨B, hB2⟩ : ∃ B, B = decide ((k : Int) ∈ reachL (tauOf (backS s).norm (i : Int))) := ⟨_, rfl⟩
                rw [← hA] at c1 e1; rw [← hB2] at c2 e2
                have hAB : (A = true ∧ B = true) ↔ f k = f i := by rw [e1, e2, e3]; exact And.comm
                have HAB2 := Lib.hid hAB; have HRO1 := Lib.hid hro; have HRA1 := Lib.hid hra; have HRB1 := Lib.hid hrb; have HBB := Lib.hid hB
                obtain ⟨y, hy⟩ : ∃ y, y = (if k < k ∧ f k = f i then (m : Int) else asL f i k) := ⟨_, rfl⟩
                rw [← hy] at c3
                clear e1 e2 e3 hA hB2 hAB hro hra hrb hB hy
                have hstep : ¬ f k = f i → ∀ j, (if j < k ∧ f j = f i then (m : Int) else asL f i j) = if j < k + 1 ∧ f j = f i then (m : Int) else asL f i j := fun hne j => by
                  by_cases e : j = k
                  · subst e; rw [if_neg (by omega), if_neg (fun h => hne h.2)]
                  · by_cases e2 : j < k ∧ f j = f i
                    · rw [if_pos e2, if_pos ⟨by omega, e2.2⟩]
                    · rw [if_neg e2, if_neg (fun h => e2 ⟨by omega, h.2⟩)]
                have HSTEP := Lib.hid hstep
                clear hstep
                cases A with
                | true =>
                  cases B with
                  | true =>
                    have hfe := HAB2.out.1 ⟨rfl, rfl⟩
                    have HNW : RowKit.Hid ((wr.setCell ⟨ab, k, none⟩ (.int .i64 (m : Int))).rowIs ab 3 n (fun j => .int .i64 (if j < k + 1 ∧ f j = f i then (m : Int) else asL f i j))) := Lib.hid ((HRO1.out.set k (.int .i64 (m : Int))).congr (fun j _ => by
                      by_cases e : j = k
                      · subst e; rw [if_pos rfl, if_pos ⟨by omega, hfe⟩]
                      · rw [if_neg e]
                        by_cases e2 : j < k ∧ f j = f i
                        · rw [if_pos e2, if_pos ⟨by omega, e2.2⟩]
                        · rw [if_neg e2, if_neg (fun h => e2 ⟨by omega, h.2⟩)]))
                    have HNA := Lib.hid (HRA1.out.setOther (a := ⟨ab, k, none⟩) (fun e => hne1 e.symm) (.int .i64 (m : Int)))
                    have HNB := Lib.hid (HRB1.out.setOther (a := ⟨ab, k, none⟩) (fun e => hne2 e.symm) (.int .i64 (m : Int)))
                    have HNC := Lib.hid (HBB.out.setCell (p := ⟨ab, k, none⟩) (by show wc.heap.size ≤ ab; rw [HAB.out]; exact Nat.le_refl _) (.int .i64 (m : Int)))
                    clear hfe
                    go_wp2_with fail
                    go_roundw
                    case rel => exact ⟨k + 1, by go_num, by omega, HNW.out, HNA.out, HNB.out, HNC.out⟩
                    case measure => simp [intOf]; omega
                  | false =>
                    have hfe : ¬ f k = f i := fun e => by have := (HAB2.out.2 e).2; cases this
                    have HFE := Lib.hid hfe
                    clear hfe
                    go_wp2_with fail
                    go_roundw
                    case rel => exact ⟨k + 1, by go_num, by omega, HRO1.out.congr (fun j _ => by rw [HSTEP.out HFE.out j]), HRA1.out, HRB1.out, HBB.out⟩
                    case measure => simp [intOf]; omega
                | false =>
                  have hfe : ¬ f k = f i := fun e => by have := (HAB2.out.2 e).1; cases this
                  have HFE := Lib.hid hfe
                  clear hfe
                  go_wp2_with fail
                  go_roundw
                  case rel => exact ⟨k + 1, by go_num, by omega, HRO1.out.congr (fun j _ => by rw [HSTEP.out HFE.out j]), HRA1.out, HRB1.out, HBB.out⟩
                  case measure => simp [intOf]; omega
              · obtain rfl : n = k := by omega
                have HNW : RowKit.Hid (wr.rowIs ab 3 n (fun j => .int .i64 (asL f (i + 1) j))) := Lib.hid (hro.congr (fun j hj => by
                  rw [HNK.out j, ← HM.out]
                  by_cases e : f j = f i
                  · rw [if_pos ⟨hj, e⟩, if_pos e]
                  · rw [if_neg (fun h => e h.2), if_neg e]))
                have HNB := Lib.hid hB
                clear hro hra hrb hB
                go_wp2_with fail
                go_roundw
                case rel => exact ⟨i + 1, by go_num, by omega, by rw [HNL.out, ← HM.out]; go_num, HNW.out, HNB.out⟩
                case measure => simp [intOf]; omega
          · have hb0 : decide (q ≥ 0) = true := by simp; omega
            have hge : (0 : Int) ≤ q := by omega
            obtain ⟨hnd, hnk⟩ := asL_skip (f := f) (i := i) (by rw [← hq]; exact hneg)
            have HND := Lib.hid hnd
            have HNW : RowKit.Hid (wr.rowIs ab 3 n (fun j => .int .i64 (asL f (i + 1) j))) := Lib.hid (hrow.congr (fun j _ => by rw [hnk j]))
            clear hnd hnk hrow hq hneg
            go_wp2_with fail
            go_roundw
            case rel => exact ⟨i + 1, by go_num, by omega, by rw [HND.out, ← HM.out], HNW.out, HB.out⟩
            case measure => simp [intOf]; omega
        · obtain rfl : n = i := by omega
          have HNW : RowKit.Hid (wr.rowIs ab 3 n (fun j => .int .i64 (clf n f j))) := Lib.hid (hrow.congr (fun j hj => by rw [asL_end hj]))
          clear hrow
          go_wp2_with fail
          go_ret
          refine ⟨ab, rfl, HNW.out, ?_, HB0.out.trans ((HBc.out.trans (HB.out.mono HBc.out.size)).mono HB0.out.size)⟩
          have h1 := HB0.out.size; have h2 := HBc.out.size; have h3 := HAB.out
          omega
end Go.Proofs.YtkmljelgogcobaaGreatDoor

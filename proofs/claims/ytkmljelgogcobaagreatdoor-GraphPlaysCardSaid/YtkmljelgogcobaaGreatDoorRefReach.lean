/-
  semblanceref7.Reach: which states are reachable.
-/
import Derived.Test.YtkmljelgogcobaaGreatDoorRefOut
import Derived.Test.YtkmljelgogcobaaGreatDoorGPl3
import Derived.Test.YtkmljelgogcobaaGreatDoorGraphC
namespace Go.Proofs.YtkmljelgogcobaaGreatDoor
open Go.RowKit Pl

/-- Rows of steps, as they lie in a world. -/
structure StepRows (w : World) (lo ob n : Nat) (f : Nat → List S) : Prop where
  at_ : ∀ p, p < n → ∃ a c b off, w.cell? ⟨ob, p, none⟩ = some (.slice a (f p).length c) ∧ SlAt encS 2 w a b off (f p) ∧ (0 < (f p).length → lo < b)
  lo : lo < ob
  lt : ob < w.heap.size
theorem StepRows.of {w : World} {lo base ob n : Nat} {f : Nat → List S} (h : OwnRows encS 2 92 46 w base ob n f) (hlo : lo < ob) : StepRows w lo ob n f := by
  refine ⟨fun p hp => ?_, hlo, h.size⟩
  obtain ⟨v, h1, _, h3⟩ := h.at hp
  obtain ⟨a, c, b, rfl, _, _, h5, h6⟩ := slAt_own lenS h3
  exact ⟨a, c, b, 0, h1, h5, fun hp => by have := h6 hp; have := h.lt; omega⟩

/-- The world within Reach. -/
structure QW (w w2 wr : World) (SB n : Nat) (L : List Int) (v : Value) : Prop where
  below : Below w.heap.size w wr
  oth : ∀ b, b < w2.heap.size → b ≠ SB → wr.heap[b]? = w2.heap[b]?
  size : w2.heap.size ≤ wr.heap.size
  seen : wr.rowIs SB 4 n (fun j => .bool (decide ((j : Int) ∈ L)))
  own : wr.ownsRow w2.heap.size 3 1 v L.length (L.flatMap encI)
  sb : w.heap.size ≤ SB
  sb2 : SB < w2.heap.size
theorem QW.row {w w2 wr : World} {SB n : Nat} {L : List Int} {v : Value} {ob : Nat} {f : Nat → List S} (h : QW w w2 wr SB n L v) (hr : StepRows w2 SB ob n f) {p : Nat} (hp : p < n) :
    ∃ a c b off, wr.cell? ⟨ob, p, none⟩ = some (.slice a (f p).length c) ∧ SlAt encS 2 w2 a b off (f p) ∧ (0 < (f p).length → b ≠ SB) := by
  obtain ⟨a, c, b, off, h1, h2, h3⟩ := hr.at_ p hp
  refine ⟨a, c, b, off, ?_, h2, fun hp => by have := h3 hp; omega⟩
  rw [World.cell?_of_block (w := w2) (a := ⟨ob, p, none⟩) (h.oth ob hr.lt (by have := hr.lo; omega))]
  exact h1
theorem QW.sl {w w2 wr : World} {SB n : Nat} {L : List Int} {v : Value} (h : QW w w2 wr SB n L v) {a : Option Addr} {b off : Nat} {xs : List S} (hS : SlAt encS 2 w2 a b off xs) (hb : 0 < xs.length → b ≠ SB) : SlAt encS 2 wr a b off xs :=
  ⟨hS.ad, fun hp => Nat.lt_of_lt_of_le (hS.lt hp) h.size, fun i x hx j u hu => by
    have hp : 0 < xs.length := by have := (List.getElem?_eq_some_iff.1 hx).1; omega
    rw [World.cell?_of_block (w := w2) (a := ⟨b, off + i * 2 + j, none⟩) (h.oth b (hS.lt hp) (hb hp))]
    exact hS.cell i x hx j u hu⟩
theorem QW.push {w w2 wr w1 : World} {SB n : Nat} {L : List Int} {v v' : Value} {t : Nat} (h : QW w w2 wr SB n L v) {o1 : Obj} (hown : w1.ownsRow w2.heap.size 3 1 v' (L ++ [(t : Int)]).length ((L ++ [(t : Int)]).flatMap encI))
    (hg : ((wr.setCell ⟨SB, t, none⟩ (.bool true)).alloc o1).grownBy w1 v.ownBlock) : QW w w2 w1 SB n (L ++ [(t : Int)]) v' := by
  have hlt := h.seen.lt
  have hsb := h.sb; have hsb2 := h.sb2; have hsz := h.size
  have hse := ((h.seen.set t (.bool true)).alloc o1)
  have hnb : ∀ b, b < w2.heap.size → some b ≠ v.ownBlock := fun b hb e => by have := (h.own.lt b e.symm).1; omega
  have hb : w1.heap[SB]? = _ := hg.block SB (by simp [World.setCell]; omega) (hnb SB hsb2)
  have hgs := hg.size
  refine ⟨?_, fun b hb hne => ?_, by simp [World.setCell] at hgs; omega, (hse.of_block hb).congr (fun i _ => ?_), hown, hsb, hsb2⟩
  · exact ((h.below.setCell hsb _).alloc (by simp [World.setCell]; omega) o1).grown hg (by simp [World.setCell]; omega) (fun k hk => by have := (h.own.lt k hk).1; omega)
  · rw [hg.block b (by simp [World.setCell]; omega) (hnb b hb), Below.heap_alloc _ _ _ (by simp [World.setCell]; omega), Below.heap_setCell _ _ _ _ hne]
    exact h.oth b hb hne
  · by_cases hi : i = t
    · subst hi; simp
    · rw [if_neg hi]; congr 1; simp only [List.mem_append, List.mem_singleton]
      have : ¬ ((i : Int) = (t : Int)) := by omega
      simp [this]

/-- What Reach answers. -/
def ReachPost (s : Lts) (w : World) (e : Ending) (w' : World) : Prop :=
  ∃ rb n : Nat, s.st = (n : Int) ∧ e = .returned (.slice (some ⟨rb, 0, none⟩) n n) ∧ w'.rowIs rb 4 n (fun j => .bool (decide ((j : Int) ∈ reachL s.norm))) ∧ w.heap.size ≤ rb ∧ Below w.heap.size w w'

set_option maxRecDepth 100000 in
theorem refReach_nil {s : Lts} (h0 : s.st = 0) (v : Value) {w : World} :
    Calls Tryz.prog 42 #[.agg #[.int .i64 s.st, .int .i64 s.lb, .int .i64 s.s0, v]] w (ReachPost s w) := by
  have hmk := run_make_row' (P := Tryz.prog) 81 4 (.bool false) 1 Tryz.underlying81 (by kernel_rfl) rfl .i64 .i64 0 (by omega) (by omega)
  rw [show ((0 : Nat) : Int) = 0 from rfl] at hmk
  have H0 := Lib.hid h0
  rw [h0]
  clear h0
  go_enter Tryz.func42, Tryz.ntmps42
  go_wp2
  go_ret
  have hr := (World.rowIs_made (w.alloc (.cells #[.int .i64 0, .int .i64 s.lb, .int .i64 s.s0, v] 24)) (.bool false) 0 4).congr (g := fun j => .bool (decide ((j : Int) ∈ reachL s.norm))) (fun i hi => by omega)
  rw [show (w.alloc (.cells #[.int .i64 0, .int .i64 s.lb, .int .i64 s.s0, v] 24)).heap.size = w.heap.size + 1 by simp] at hr
  exact ⟨w.heap.size + 1, 0, by rw [H0.out]; rfl, rfl, hr, by omega, ((Below.refl _ _).alloc (Nat.le_refl _) _).alloc (by simp) _⟩

set_option maxRecDepth 100000 in
set_option maxHeartbeats 4000000 in
theorem refReach_ok {s : Lts} (hr : s.Right) (h0 : s.st ≠ 0) {a : Option Addr} {b off c : Nat} {w : World} (hS : SlAt encE 3 w a b off s.es) (hc : s.es.length ≤ c) (hcm : c ≤ maxLen) :
    Calls Tryz.prog 42 #[.agg #[.int .i64 s.st, .int .i64 s.lb, .int .i64 s.s0, .slice a s.es.length c]] w (ReachPost s w) := by
  have hst := hr.st0
  obtain ⟨n, hn⟩ : ∃ n : Nat, s.st = (n : Int) := ⟨s.st.toNat, by omega⟩
  obtain ⟨z, hz⟩ : ∃ z : Nat, s.s0 = (z : Int) := ⟨s.s0.toNat, by omega⟩
  have hzn : z < n := by omega
  have hn1 : n ≤ 1000 := by omega
  have hnz : ((n : Int) == 0) = false := by simp; omega
  have hmk := run_make_row' (P := Tryz.prog) 81 4 (.bool false) 1 Tryz.underlying81 (by kernel_rfl) rfl .i64 .i64 n (by omega) (by omega)
  have hB0 := (Below.refl w.heap.size w).alloc (Nat.le_refl _) (Obj.cells #[.int .i64 n, .int .i64 s.lb, .int .i64 z, .slice a s.es.length c] 24)
  have hrow := World.rowIs_made (w.alloc (Obj.cells #[.int .i64 n, .int .i64 s.lb, .int .i64 z, .slice a s.es.length c] 24)) (.bool false) n 4
  have hbx := heap_alloc_new w (Obj.cells #[.int .i64 n, .int .i64 s.lb, .int .i64 z, .slice a s.es.length c] 24)
  have hB1 := hB0.alloc (by simp) (Obj.cells (madeCells #[.bool false] n) 4)
  have hout := refOut_any hr (hS.below hB1 (Nat.le_refl _)) hc hcm
  rw [hn, hz] at hout
  have HOUT := Lib.hid hout; have HR := Lib.hid hr; have HN := Lib.hid hn; have HZ := Lib.hid hz; have HB1 := Lib.hid hB1; have HROW := Lib.hid hrow; have HBX := Lib.hid hbx
  have H0 : RowKit.Hid (s.norm.st ≠ 0) := Lib.hid h0
  rw [hn, hz]
  obtain ⟨el, hel⟩ : ∃ el, el = s.es.length := ⟨_, rfl⟩
  rw [← hel] at HOUT HB1 HROW HBX ⊢
  clear hout hr hB0 hB1 hrow hbx hS hst hn hz hc hcm hel h0
  go_enter Tryz.func42, Tryz.ntmps42
  go_wp2_with fail
  refine HOUT.out.mono ?_
  rintro e w2 ⟨ob, n', base, hn', rfl, hrows, hob, hB2⟩
  obtain rfl : n = n' := by have := HN.out; omega
  have hs2 := hB2.size
  simp at hob hs2
  have hsr := StepRows.of (lo := w.heap.size + 1) hrows (by omega)
  have hseen : w2.rowIs (w.heap.size + 1) 4 n (fun _ => .bool false) := by
    have h := HROW.out.of_block (hB2.block _ (by simp))
    simpa using h
  have hbx2 : w2.heap[w.heap.size]? = some (.cells #[.int .i64 n, .int .i64 s.lb, .int .i64 z, .slice a el c] 24 (0, 0)) := by
    rw [hB2.block _ (by simp; omega), Below.heap_alloc _ _ _ (by simp)]; exact HBX.out
  have x0 : w2.cell? ⟨w.heap.size, 2, none⟩ = some (.int .i64 z) := by simp [World.cell?, hbx2]
  have x1 : w2.heap.size > w.heap.size + 1 := by omega
  have hl0 : w.heap.size < w2.heap.size := by omega
  obtain ⟨SB, hSB⟩ : ∃ SB, SB = w.heap.size + 1 := ⟨_, rfl⟩
  have hBw : Below w.heap.size w w2 := HB1.out.trans (hB2.mono (by simp; omega))
  rw [← hSB] at hsr hseen ⊢
  have hsb1 : SB < w2.heap.size := by omega
  have hsb0 : w.heap.size ≤ SB := by omega
  have hsb3 : SB ≠ w.heap.size := by omega
  have hzn' : (z : Int) < (n : Int) := by omega
  have c1 := hseen.cell hzn
  have f1 := hseen.frozen z
  have HSR := Lib.hid hsr; have HSE := Lib.hid hseen; have HBW := Lib.hid hBw; have HSB := Lib.hid hSB
  clear hmk hrows hsr hseen hB2 hbx2 hBw hSB hn' HOUT HB1 HROW HBX x1 hob hs2
  go_wp2_with fail
  have hqw : QW w w2 ((w2.setCell ⟨SB, z, none⟩ (.bool true)).alloc (.cells #[.int .i64 z] 3)) SB n [(z : Int)] (.slice (some ⟨w2.heap.size, 0, none⟩) 1 1) := by
    have hlit := World.ownsRow_lit (e := 3) (base := w2.heap.size) (w2.setCell ⟨SB, z, none⟩ (.bool true)) #[.int .i64 z] 1 (size := 1) (by rw [size_setCell]; exact Nat.le_refl _) (by unfold maxLen; omega) rfl
    rw [size_setCell] at hlit
    refine ⟨(HBW.out.setCell (by show w.heap.size ≤ SB; omega) _).alloc (by rw [size_setCell]; exact HBW.out.size) _, fun b hb hne => by rw [Below.heap_alloc _ _ _ (by rw [size_setCell]; exact hb), Below.heap_setCell _ _ _ _ hne], by simp [World.setCell], ((HSE.out.set z _).alloc _).congr (fun i _ => ?_), hlit, hsb0, hsb1⟩
    by_cases hi : i = z
    · subst hi; simp
    · rw [if_neg hi]
      have : ¬ ((i : Int) = (z : Int)) := by omega
      simp [this]
  have hbfs : Bfs s.norm [(z : Int)] 0 := by have := Bfs.start HR.out.norm H0.out; rw [show s.norm.s0 = (z : Int) from HZ.out] at this; exact this
  have HQ := Lib.hid hqw; have HBF := Lib.hid hbfs
  clear hqw hbfs c1 f1 x0
  go_loopw [5, 6] (fun v5 v6 wr => ∃ (L : List Int) (i : Nat) (a : Option Addr) (c : Nat), v5 = .slice a L.length c ∧ v6 = .int .i64 i ∧ i ≤ L.length ∧ Bfs s.norm L i ∧ QW w w2 wr SB n L (.slice a L.length c))
    (fun _ v6 _ => n - (intOf v6).toNat)
  case atStart => exact ⟨[(z : Int)], 0, _, _, rfl, rfl, by simp, HBF.out, HQ.out⟩
  case round =>
    obtain ⟨L, i, a, c, rfl, rfl, hiL, hbf, hqw⟩ := hrel
    have hLn : L.length ≤ n := by have := hbf.len; rw [show s.norm.st = (n : Int) from HN.out] at this; simpa using this
    have HB := Lib.hid hbf; have HW := Lib.hid hqw
    clear hbf hqw HBF HQ
    by_cases hlt : i < L.length
    · obtain ⟨x, hx⟩ := getElem?_of_lt hlt
      obtain ⟨ga, gc, g, hv, _, _, hsl, _⟩ := slAt_own lenI HW.out.own
      simp only [Value.slice.injEq] at hv
      obtain ⟨rfl, _, rfl⟩ := hv
      obtain rfl := hsl.ad (by omega)
      have hcx := hsl.ci hx
      have hgl := hsl.lt (by omega)
      simp only [Nat.zero_add] at hcx
      have hix : (i : Int) < (L.length : Int) := by omega
      have hxr := HB.out.rng x (List.mem_of_getElem? hx)
      obtain ⟨xn, rfl⟩ : ∃ xn : Nat, x = (xn : Int) := ⟨x.toNat, by omega⟩
      have hxn : xn < n := by have := HN.out; have h2 : s.norm.st = s.st := rfl; omega
      have hxn' : (xn : Int) < (n : Int) := by omega
      obtain ⟨ra, rc, rb, ro, hrc, hrs, hrb⟩ := HW.out.row HSR.out hxn
      have hobr : ob < wr.heap.size := by have := HSR.out.lt; have := HW.out.size; omega
      have HX := Lib.hid hx; have HRS := Lib.hid hrs; have HRB := Lib.hid hrb
      have hsslen : (s.norm.outs (xn : Int)).length ≤ 10000 := outs_len HR.out.norm (xn : Int)
      clear hsl hx hxr hrs hrb
      obtain ⟨ss, hss⟩ : ∃ ss, ss = s.norm.outs (xn : Int) := ⟨_, rfl⟩
      rw [← hss] at hrc HRS HRB hsslen
      have HSS := Lib.hid hss
      clear hss
      go_wp2_with fail
      clear hcx hrc
      go_loopw [5, 8] (fun v5 v8 wr => ∃ (L : List Int) (r : Nat) (a : Option Addr) (c : Nat), v5 = .slice a L.length c ∧ v8 = .int .i64 r ∧ r ≤ ss.length ∧ Bfs s.norm L i ∧ L[i]? = some (xn : Int) ∧ (∀ y ∈ ss.take r, y.2 ∈ L) ∧ QW w w2 wr SB n L (.slice a L.length c))
        (fun _ v8 _ => ss.length - (intOf v8).toNat)
      case atStart => exact ⟨L, 0, _, _, rfl, rfl, by simp, HB.out, HX.out, by simp, HW.out⟩
      case round =>
        obtain ⟨M, r, a3, c3, rfl, rfl, hrl, hbf, hMx, hty, hqw⟩ := hrel
        have HB2 := Lib.hid hbf; have HW2 := Lib.hid hqw; have HMX := Lib.hid hMx; have HTY := Lib.hid hty
        clear hbf hqw hMx hty HB HW
        by_cases hltr : r < ss.length
        · obtain ⟨y, hy⟩ := getElem?_of_lt hltr
          have hss' := HW2.out.sl HRS.out HRB.out
          obtain rfl := hss'.ad (by omega)
          have d1 := hss'.s1 hy
          have hbl := hss'.lt (by omega)
          have hym : y ∈ s.norm.outs (xn : Int) := by rw [← HSS.out]; exact List.mem_of_getElem? hy
          have hyr := offB_false.1 (HR.out.norm.edges _ (mem_outs.1 hym))
          have hst2 : s.norm.st = s.st := rfl
          simp only at hyr
          obtain ⟨y1, y2⟩ := y
          obtain ⟨t, ht⟩ : ∃ t : Nat, y2 = (t : Int) := ⟨y2.toNat, by simp only at hyr; omega⟩
          subst ht
          simp only at d1 hyr
          have htn : t < n := by have := HN.out; omega
          have htn' : (t : Int) < (n : Int) := by omega
          have hct : wr.cell? ⟨SB, t, none⟩ = some (.bool (decide ((t : Int) ∈ M))) := HW2.out.seen.cell htn
          have hft : wr.frozen? ⟨SB, t, none⟩ = false := HW2.out.seen.frozen t
          have hsb : SB < wr.heap.size := HW2.out.seen.lt
          have hrlt : (r : Int) < (ss.length : Int) := by omega
          have hrS := HRB.out (by omega)
          have HY := Lib.hid hy; have HYM := Lib.hid hym
          clear hss' hy hym hyr hst2
          by_cases hin : (t : Int) ∈ M
          · have hd : decide ((t : Int) ∈ M) = true := by simp [hin]
            rw [hd] at hct
            have HIN := Lib.hid hin
            clear hd hin
            go_wp2
            go_roundw
            case rel => exact ⟨M, r + 1, _, _, rfl, by go_num, by omega, HB2.out, HMX.out, by
              intro y hy
              rw [take_snoc HY.out] at hy
              rcases List.mem_append.1 hy with h1 | h1
              · exact HTY.out y h1
              · simp at h1; subst h1; exact HIN.out, HW2.out⟩
            case measure => simp [intOf]; omega
          · have hd : decide ((t : Int) ∈ M) = false := by simp [hin]
            rw [hd] at hct
            have HIN := Lib.hid hin
            clear hd hin
            have hML : M.length ≤ n := by have := HB2.out.len; rw [show s.norm.st = (n : Int) from HN.out] at this; simpa using this
            have hszr := HW2.out.size
            go_wp2_with (at_builtin; go_must (refine wpList_app1 rfl _ _ _ rfl rowI (Below.refl _ _) (by simp [World.setCell]; omega) rfl (World.ownsRow.alloc (ownsRow_setCell_below HW2.out.own (a := ⟨SB, t, none⟩) hsb1 (.bool true)) _) ⟨wr.heap.size, 0, none⟩ 1 1 [.int .i64 t] rfl rfl (cells1 (by simp [go_sem, World.setCell])) (by simp [Value.oneCell']) (by decide) (by omega) (by unfold maxLen; omega) ?_); intro g2 cap2 w7 hown7 _ hg7)
            have hpush := QW.push (v' := .slice (some ⟨g2, 0, none⟩) (M.length + 1) cap2) HW2.out (by rw [List.length_append, List.flatMap_append]; exact hown7) hg7
            have hbp := Bfs.push HR.out.norm HB2.out HMX.out HYM.out HIN.out
            have HP := Lib.hid hpush; have HBP := Lib.hid hbp
            clear hpush hbp hown7 hg7
            go_roundw
            case rel => exact ⟨M ++ [(t : Int)], r + 1, _, _, by rw [List.length_append]; rfl, by go_num, by omega, HBP.out, by
              rw [List.getElem?_append_left (by have := (List.getElem?_eq_some_iff.1 HMX.out).1; omega)]; exact HMX.out, by
              intro y hy
              rw [take_snoc HY.out] at hy
              rcases List.mem_append.1 hy with h1 | h1
              · exact List.mem_append_left _ (HTY.out y h1)
              · simp at h1; subst h1; simp, by rw [List.length_append]; exact HP.out⟩
            case measure => simp [intOf]; omega
        · have hall : ∀ y ∈ s.norm.outs (xn : Int), y.2 ∈ M := by
            intro y hy
            have := HTY.out
            rw [List.take_of_length_le (by omega), HSS.out] at this
            exact this y hy
          have hnx := Bfs.next HB2.out HMX.out hall
          have hMn : M.length ≤ n := by have := HB2.out.len; rw [show s.norm.st = (n : Int) from HN.out] at this; simpa using this
          have hiM : i < M.length := (List.getElem?_eq_some_iff.1 HMX.out).1
          have HNX := Lib.hid hnx
          clear hall hnx HTY
          go_wp2
          go_roundw
          case rel => exact ⟨M, i + 1, _, _, rfl, by go_num, by omega, HNX.out, HW2.out⟩
          case measure => simp [intOf]; omega
    · obtain rfl : i = L.length := by omega
      go_wp2
      go_ret
      exact ⟨SB, n, HN.out, rfl, HW.out.seen.congr (fun j _ => by
        have : decide ((j : Int) ∈ L) = decide ((j : Int) ∈ reachL s.norm) := by
          rw [Bool.eq_iff_iff]; simp only [decide_eq_true_eq]
          rw [HB.out.all, mem_reachL HR.out.norm H0.out]
        rw [this]), hsb0, HW.out.below⟩

theorem refReach_any {s : Lts} (hr : s.Right) {a : Option Addr} {b off c : Nat} {w : World} (hS : SlAt encE 3 w a b off s.es) (hc : s.es.length ≤ c) (hcm : c ≤ maxLen) :
    Calls Tryz.prog 42 #[.agg #[.int .i64 s.st, .int .i64 s.lb, .int .i64 s.s0, .slice a s.es.length c]] w (ReachPost s w) := by
  by_cases h0 : s.st = 0
  · exact refReach_nil h0 _
  · exact refReach_ok hr h0 hS hc hcm
end Go.Proofs.YtkmljelgogcobaaGreatDoor

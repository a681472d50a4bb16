/-
  semblanceref7.Reach: which states are reachable.
  semblanceref11.From: who comes from a state by silent steps.
  semblanceref7.SameInts.
  semblanceref9.signature: what a state's steps lead to, by labels and classes, as a rising list of numbers.
-/
import Derived.Test.YtdhloijdefnkpaaGreatDoorRefOut
import Derived.Test.YtdhloijdefnkpaaGreatDoorGPl2
import Derived.Test.YtdhloijdefnkpaaGreatDoorGGraphC
import Derived.Test.YtdhloijdefnkpaaGreatDoorGPl9
import Derived.Test.YtdhloijdefnkpaaGreatDoorGTauH
import Derived.Test.YtdhloijdefnkpaaGreatDoorGKeyS
import Derived.Test.YtdhloijdefnkpaaGreatDoorGCheck
import Derived.Test.YtdhloijdefnkpaaGreatDoorGPlT
import Derived.Deep.QuietTactic
import Derived.BigQuiet
namespace Go.Proofs.YtdhloijdefnkpaaGreatDoor
open Go.RowKit Pl

/-- Rows of steps, as they lie in a world. -/
structure StepRows (w : World) (lo ob n : Nat) (f : Nat → List S) : Prop where
  at_ : ∀ p, p < n → ∃ a c b off, w.cell? ⟨ob, p, none⟩ = some (.slice a (f p).length c) ∧ SlAt encS 2 w a b off (f p) ∧ (0 < (f p).length → lo < b)
  lo : lo < ob
  lt : ob < w.heap.size
theorem StepRows.of {w : World} {lo base ob n : Nat} {f : Nat → List S} (h : OwnRows encS 2 107 104 w base ob n f) (hlo : lo < ob) : StepRows w lo ob n f := by
  refine ⟨fun p hp => ?_, hlo, h.size⟩
  obtain ⟨v, h1, _, h3⟩ := h.at hp
  obtain ⟨a, c, b, rfl, _, _, h5, h6⟩ := slAt_own lenS h3
  exact ⟨a, c, b, 0, h1, h5, fun hp => by have := h6 hp; have := h.lt; omega⟩

/-- The world within Reach. -/
structure QW (w w2 wr : World) (SB n : Nat) (L : List Int) (v : Value) : Prop where
  below : Below w.heap.size w wr
  oth : ∀ b, b < w2.heap.size → b ≠ SB → wr.heap[b]? = w2.heap[b]?
  size : w2.heap.size ≤ wr.heap.size
  seen : wr.rowIs SB 4 n (fun j => .bool (decide ((j : Int) ∈ L)))
  own : wr.ownsRow w2.heap.size 3 1 v L.length (L.flatMap encI)
  sb : w.heap.size ≤ SB
  sb2 : SB < w2.heap.size
theorem QW.row {w w2 wr : World} {SB n : Nat} {L : List Int} {v : Value} {ob : Nat} {f : Nat → List S} (h : QW w w2 wr SB n L v) (hr : StepRows w2 SB ob n f) {p : Nat} (hp : p < n) :
    ∃ a c b off, wr.cell? ⟨ob, p, none⟩ = some (.slice a (f p).length c) ∧ SlAt encS 2 w2 a b off (f p) ∧ (0 < (f p).length → b ≠ SB) := by
  obtain ⟨a, c, b, off, h1, h2, h3⟩ := hr.at_ p hp
  refine ⟨a, c, b, off, ?_, h2, fun hp => by have := h3 hp; omega⟩
  rw [World.cell?_of_block (w := w2) (a := ⟨ob, p, none⟩) (h.oth ob hr.lt (by have := hr.lo; omega))]
  exact h1
theorem QW.sl {w w2 wr : World} {SB n : Nat} {L : List Int} {v : Value} (h : QW w w2 wr SB n L v) {a : Option Addr} {b off : Nat} {xs : List S} (hS : SlAt encS 2 w2 a b off xs) (hb : 0 < xs.length → b ≠ SB) : SlAt encS 2 wr a b off xs :=
  ⟨hS.ad, fun hp => Nat.lt_of_lt_of_le (hS.lt hp) h.size, fun i x hx j u hu => by
    have hp : 0 < xs.length := by have := (List.getElem?_eq_some_iff.1 hx).1; omega
    rw [World.cell?_of_block (w := w2) (a := ⟨b, off + i * 2 + j, none⟩) (h.oth b (hS.lt hp) (hb hp))]
    exact hS.cell i x hx j u hu⟩
theorem QW.push {w w2 wr w1 : World} {SB n : Nat} {L : List Int} {v v' : Value} {t : Nat} (h : QW w w2 wr SB n L v) {o1 : Obj} (hown : w1.ownsRow w2.heap.size 3 1 v' (L ++ [(t : Int)]).length ((L ++ [(t : Int)]).flatMap encI))
    (hg : ((wr.setCell ⟨SB, t, none⟩ (.bool true)).alloc o1).grownBy w1 v.ownBlock) : QW w w2 w1 SB n (L ++ [(t : Int)]) v' := by
  have hlt := h.seen.lt
  have hsb := h.sb; have hsb2 := h.sb2; have hsz := h.size
  have hse := ((h.seen.set t (.bool true)).alloc o1)
  have hnb : ∀ b, b < w2.heap.size → some b ≠ v.ownBlock := fun b hb e => by have := (h.own.lt b e.symm).1; omega
  have hb : w1.heap[SB]? = _ := hg.block SB (by simp [World.setCell]; omega) (hnb SB hsb2)
  have hgs := hg.size
  refine ⟨?_, fun b hb hne => ?_, by simp [World.setCell] at hgs; omega, (hse.of_block hb).congr (fun i _ => ?_), hown, hsb, hsb2⟩
  · exact ((h.below.setCell hsb _).alloc (by simp [World.setCell]; omega) o1).grown hg (by simp [World.setCell]; omega) (fun k hk => by have := (h.own.lt k hk).1; omega)
  · rw [hg.block b (by simp [World.setCell]; omega) (hnb b hb), Below.heap_alloc _ _ _ (by simp [World.setCell]; omega), Below.heap_setCell _ _ _ _ hne]
    exact h.oth b hb hne
  · by_cases hi : i = t
    · subst hi; simp
    · rw [if_neg hi]; congr 1; simp only [List.mem_append, List.mem_singleton]
      have : ¬ ((i : Int) = (t : Int)) := by omega
      simp [this]

/-- What Reach answers. -/
def ReachPost (s : Lts) (w : World) (e : Ending) (w' : World) : Prop :=
  ∃ rb n : Nat, s.st = (n : Int) ∧ e = .returned (.slice (some ⟨rb, 0, none⟩) n n) ∧ w'.rowIs rb 4 n (fun j => .bool (decide ((j : Int) ∈ reachL s.norm))) ∧ w.heap.size ≤ rb ∧ Below w.heap.size w w'

end Go.Proofs.YtdhloijdefnkpaaGreatDoor

namespace Go.Proofs.YtdhloijdefnkpaaGreatDoor
open Go.RowKit Pl

/-- Rows of steps, as they lie in a world. -/
structure StepsIn (w : World) (ob n : Nat) (f : Nat → List S) : Prop where
  at_ : ∀ p, p < n → ∃ a c b off, w.cell? ⟨ob, p, none⟩ = some (.slice a (f p).length c) ∧ SlAt encS 2 w a b off (f p)
  lt : ob < w.heap.size
theorem StepsIn.below {w w' : World} {ob n : Nat} {f : Nat → List S} (h : StepsIn w ob n f) (hB : Below w.heap.size w w') : StepsIn w' ob n f :=
  ⟨fun p hp => by
    obtain ⟨a, c, b, off, h1, h2⟩ := h.at_ p hp
    exact ⟨a, c, b, off, by rw [hB.cell (p := ⟨ob, p, none⟩) h.lt]; exact h1, h2.below hB (Nat.le_refl _)⟩, Nat.lt_of_lt_of_le h.lt hB.size⟩
theorem StepsIn.of {w : World} {base ob n : Nat} {f : Nat → List S} (h : OwnRows encS 2 107 104 w base ob n f) : StepsIn w ob n f := by
  refine ⟨fun p hp => ?_, h.size⟩
  obtain ⟨v, h1, _, h3⟩ := h.at hp
  obtain ⟨a, c, b, rfl, _, _, h5, _⟩ := slAt_own lenS h3
  exact ⟨a, c, b, 0, h1, h5⟩
/-- The silent steps stand ahead. -/
theorem outs_zero {s : Lts} (hr : s.Right) (hs : Srt ltE s.es) {x : Int} {r : Nat} {y : S} (hy : (s.outs x)[r]? = some y) (h0 : y.1 ≠ 0) : ∀ z ∈ s.outs x, z.1 = 0 → z ∈ (s.outs x).take r := by
  intro z hz hz0
  obtain ⟨j, hj⟩ := List.getElem?_of_mem hz
  by_cases hjr : j < r
  · exact List.mem_of_getElem? (show ((s.outs x).take r)[j]? = some z by rw [List.getElem?_take, if_pos hjr]; exact hj)
  · exfalso
    have hyr := offB_false.1 (hr.edges _ (mem_outs.1 (List.mem_of_getElem? hy)))
    simp only at hyr
    rcases Nat.eq_or_lt_of_le (Nat.le_of_not_lt hjr) with e | hlt
    · subst e; rw [hy] at hj; cases hj; exact h0 hz0
    · obtain ⟨h3, h4⟩ := List.getElem?_eq_some_iff.1 hy
      obtain ⟨h5, h6⟩ := List.getElem?_eq_some_iff.1 hj
      have h7 := List.pairwise_iff_getElem.1 (outs_srt hs x) r j h3 h5 hlt
      rw [h4, h6] at h7
      have h8 := (ltS_iff _ _).1 h7
      omega

set_option maxRecDepth 100000 in
set_option maxHeartbeats 4000000 in
theorem refFrom_any {s : Lts} (hr : s.Right) (hsr : Srt ltE s.es) {n q : Nat} (hn : s.st = (n : Int)) (hq : q < n) {w : World} {ob c : Nat} (hR : StepsIn w ob n (fun p => s.outs (p : Int))) :
    Calls Tryz.prog 112 #[.slice (some ⟨ob, 0, none⟩) n c, .int .i64 q] w fun e w' => ∃ rb, e = .returned (.slice (some ⟨rb, 0, none⟩) n n) ∧ w'.rowIs rb 4 n (fun j => .bool (decide ((j : Int) ∈ reachL (tauOf s (q : Int))))) ∧ w.heap.size ≤ rb ∧ Below w.heap.size w w' := by
  have hst := hr.st0
  have hn1 : n ≤ 1000 := by omega
  have hRT := tauOf_right (q := (q : Int)) hr (by omega) (by omega)
  have hmk := run_make_row' (P := Tryz.prog) 32 4 (.bool false) 1 Tryz.underlying32 (by kernel_rfl) rfl .i64 .i64 n (by omega) (by omega)
  have hbfs : Bfs (tauOf s q) [(q : Int)] 0 := Bfs.start hRT (by show s.st ≠ 0; omega)
  have hqI : (q : Int) < (n : Int) := by omega
  have HR := Lib.hid hr; have HSRT := Lib.hid hsr; have HN := Lib.hid hn; have HRT := Lib.hid hRT; have HBF := Lib.hid hbfs; have HRW := Lib.hid hR
  clear hr hsr hn hRT hbfs hR hst
  go_enter Tryz.func112, Tryz.ntmps112
  go_upto_region 2 with fail
  obtain ⟨w2, hw2⟩ : ∃ w2, w2 = w.alloc (Obj.cells (madeCells #[.bool false] n) 4) := ⟨_, rfl⟩
  have hrow : w2.rowIs w.heap.size 4 n (fun _ => .bool false) := by rw [hw2]; exact World.rowIs_made w (.bool false) n 4
  have hbw : Below w.heap.size w w2 := by rw [hw2]; exact (Below.refl _ _).alloc (Nat.le_refl _) _
  rw [← hw2]
  obtain ⟨SB, hSB⟩ : ∃ SB, SB = w.heap.size := ⟨_, rfl⟩
  rw [← hSB] at hrow ⊢
  have c1 := hrow.cell hq
  have f1 := hrow.frozen q
  have hl1 := hrow.lt
  have hqw : QW w w2 ((w2.setCell ⟨SB, q, none⟩ (.bool true)).alloc (.cells #[.int .i64 q] 3)) SB n [(q : Int)] (.slice (some ⟨w2.heap.size, 0, none⟩) 1 1) := by
    have hlit := World.ownsRow_lit (e := 3) (base := w2.heap.size) (w2.setCell ⟨SB, q, none⟩ (.bool true)) #[.int .i64 q] 1 (size := 1) (by rw [size_setCell]; exact Nat.le_refl _) (by unfold maxLen; omega) rfl
    rw [size_setCell] at hlit
    refine ⟨(hbw.setCell (by show w.heap.size ≤ SB; omega) _).alloc (by rw [size_setCell]; exact hbw.size) _, fun b hb hne => by rw [Below.heap_alloc _ _ _ (by rw [size_setCell]; exact hb), Below.heap_setCell _ _ _ _ hne], by simp [World.setCell], ((hrow.set q _).alloc _).congr (fun i _ => ?_), hlit, by omega, hl1⟩
    by_cases hi : i = q
    · subst hi; simp
    · rw [if_neg hi]
      have : ¬ ((i : Int) = (q : Int)) := by omega
      simp [this]
  have HQ := Lib.hid hqw; have HSB := Lib.hid hSB
  have hsb1 := hl1
  clear hw2 hrow hbw hqw hmk hSB
  go_wp2_with fail
  clear c1 f1 hl1
  go_loopw [6, 7] (fun v6 v7 wr => ∃ (L : List Int) (i : Nat) (a : Option Addr) (c : Nat), v6 = .slice a L.length c ∧ v7 = .int .i64 i ∧ i ≤ L.length ∧ Bfs (tauOf s q) L i ∧ QW w w2 wr SB n L (.slice a L.length c))
    (fun _ v7 _ => n - (intOf v7).toNat)
  case atStart => exact ⟨[(q : Int)], 0, _, _, rfl, rfl, by simp, HBF.out, HQ.out⟩
  case round =>
    obtain ⟨L, i, a, c, rfl, rfl, hiL, hbf, hqw⟩ := hrel
    have hLn : L.length ≤ n := by have := hbf.len; have h2 : (tauOf s q).st = (n : Int) := HN.out; rw [h2] at this; simpa using this
    have HB := Lib.hid hbf; have HW := Lib.hid hqw
    clear hbf hqw HBF HQ
    by_cases hlt : i < L.length
    · obtain ⟨x, hx⟩ := getElem?_of_lt hlt
      obtain ⟨ga, gc, g, hv, _, _, hsl, _⟩ := slAt_own lenI HW.out.own
      simp only [Value.slice.injEq] at hv
      obtain ⟨rfl, _, rfl⟩ := hv
      obtain rfl := hsl.ad (by omega)
      have hcx := hsl.ci hx
      have hgl := hsl.lt (by omega)
      simp only [Nat.zero_add] at hcx
      have hix : (i : Int) < (L.length : Int) := by omega
      have hxr := HB.out.rng x (List.mem_of_getElem? hx)
      obtain ⟨xn, rfl⟩ : ∃ xn : Nat, x = (xn : Int) := ⟨x.toNat, by omega⟩
      have hxn : xn < n := by have := HN.out; have h2 : (tauOf s q).st = s.st := rfl; omega
      have hxn' : (xn : Int) < (n : Int) := by omega
      obtain ⟨ra, rc, rb, ro, hrc0, hrs0⟩ := HRW.out.at_ xn hxn
      have hobl := HRW.out.lt
      have hrc : wr.cell? ⟨ob, xn, none⟩ = some (.slice ra (s.outs (xn : Int)).length rc) := by rw [HW.out.below.cell (p := ⟨ob, xn, none⟩) hobl]; exact hrc0
      have hobr : ob < wr.heap.size := by have := HW.out.below.size; omega
      have HX := Lib.hid hx; have HRS := Lib.hid hrs0
      have hsslen : (s.outs (xn : Int)).length ≤ 10000 := outs_len HR.out (xn : Int)
      clear hsl hx hxr hrc0 hrs0 hobl
      obtain ⟨ss, hss⟩ : ∃ ss, ss = s.outs (xn : Int) := ⟨_, rfl⟩
      rw [← hss] at hrc HRS hsslen
      have HSS := Lib.hid hss
      clear hss
      go_wp2_with fail
      clear hcx hrc
      go_loopw [6, 9] (fun v6 v9 wr => ∃ (L : List Int) (r : Nat) (a : Option Addr) (c : Nat), v6 = .slice a L.length c ∧ v9 = .int .i64 r ∧ r ≤ ss.length ∧ Bfs (tauOf s q) L i ∧ L[i]? = some (xn : Int) ∧ (∀ y ∈ ss.take r, y.1 = 0 → y.2 ∈ L) ∧ QW w w2 wr SB n L (.slice a L.length c))
        (fun _ v9 _ => ss.length - (intOf v9).toNat)
      case atStart => exact ⟨L, 0, _, _, rfl, rfl, by simp, HB.out, HX.out, by simp, HW.out⟩
      case round =>
        obtain ⟨M, r, a3, c3, rfl, rfl, hrl, hbf, hMx, hty, hqw⟩ := hrel
        have HB2 := Lib.hid hbf; have HW2 := Lib.hid hqw; have HMX := Lib.hid hMx; have HTY := Lib.hid hty
        clear hbf hqw hMx hty HB HW
        by_cases hltr : r < ss.length
        · obtain ⟨y, hy⟩ := getElem?_of_lt hltr
          have hss' := HRS.out.below HW2.out.below (Nat.le_refl _)
          obtain rfl := hss'.ad (by omega)
          have d0 := hss'.s0 hy; have d1 := hss'.s1 hy
          have hbl := hss'.lt (by omega)
          have hym : y ∈ s.outs (xn : Int) := by rw [← HSS.out]; exact List.mem_of_getElem? hy
          have hyr := offB_false.1 (HR.out.edges _ (mem_outs.1 hym))
          simp only at hyr
          obtain ⟨y1, y2⟩ := y
          obtain ⟨t, ht⟩ : ∃ t : Nat, y2 = (t : Int) := ⟨y2.toNat, by simp only at hyr; omega⟩
          subst ht
          simp only at d0 d1 hyr
          have htn : t < n := by have := HN.out; omega
          have htn' : (t : Int) < (n : Int) := by omega
          have hct : wr.cell? ⟨SB, t, none⟩ = some (.bool (decide ((t : Int) ∈ M))) := HW2.out.seen.cell htn
          have hft : wr.frozen? ⟨SB, t, none⟩ = false := HW2.out.seen.frozen t
          have hsb : SB < wr.heap.size := HW2.out.seen.lt
          have hrlt : (r : Int) < (ss.length : Int) := by omega
          have hrS : rb ≠ SB := by have := HRS.out.lt (by omega); have := HSB.out; omega
          have HY := Lib.hid hy; have HYM := Lib.hid hym
          clear hss' hy hym hyr
          by_cases hy0 : y1 = 0
          · subst hy0
            by_cases hin : (t : Int) ∈ M
            · have hd : decide ((t : Int) ∈ M) = true := by simp [hin]
              rw [hd] at hct
              have HIN := Lib.hid hin
              clear hd hin
              go_wp2_with fail
              go_roundw
              case rel => exact ⟨M, r + 1, _, _, rfl, by go_num, by omega, HB2.out, HMX.out, by
                intro y hy h0
                rw [take_snoc HY.out] at hy
                rcases List.mem_append.1 hy with h1 | h1
                · exact HTY.out y h1 h0
                · simp at h1; subst h1; exact HIN.out, HW2.out⟩
              case measure => simp [intOf]; omega
            · have hd : decide ((t : Int) ∈ M) = false := by simp [hin]
              rw [hd] at hct
              have HIN := Lib.hid hin
              clear hd hin
              have hML : M.length ≤ n := by have := HB2.out.len; have h2 : (tauOf s q).st = (n : Int) := HN.out; rw [h2] at this; simpa using this
              have hszr := HW2.out.size
              go_wp2_with (at_builtin; go_must (refine wpList_app1 rfl _ _ _ rfl rowI (Below.refl _ _) (by simp [World.setCell]; omega) rfl (World.ownsRow.alloc (ownsRow_setCell_below HW2.out.own (a := ⟨SB, t, none⟩) hsb1 (.bool true)) _) ⟨wr.heap.size, 0, none⟩ 1 1 [.int .i64 t] rfl rfl (cells1 (by simp [go_sem, World.setCell])) (by simp [Value.oneCell']) (by decide) (by omega) (by unfold maxLen; omega) ?_); intro g2 cap2 w7 hown7 _ hg7)
              have hpush := QW.push (v' := .slice (some ⟨g2, 0, none⟩) (M.length + 1) cap2) HW2.out (by rw [List.length_append, List.flatMap_append]; exact hown7) hg7
              have hbp := Bfs.push HRT.out HB2.out HMX.out (mem_tauOf.2 ⟨HYM.out, rfl⟩) HIN.out
              have HP := Lib.hid hpush; have HBP := Lib.hid hbp
              clear hpush hbp hown7 hg7
              go_roundw
              case rel => exact ⟨M ++ [(t : Int)], r + 1, _, _, by rw [List.length_append]; rfl, by go_num, by omega, HBP.out, by
                rw [List.getElem?_append_left (by have := (List.getElem?_eq_some_iff.1 HMX.out).1; omega)]; exact HMX.out, by
                intro y hy h0
                rw [take_snoc HY.out] at hy
                rcases List.mem_append.1 hy with h1 | h1
                · exact List.mem_append_left _ (HTY.out y h1 h0)
                · simp at h1; subst h1; simp, by rw [List.length_append]; exact HP.out⟩
              case measure => simp [intOf]; omega
          · have hb0 : (y1 == 0) = false := by simp [hy0]
            have hall : ∀ y ∈ (tauOf s q).outs (xn : Int), y.2 ∈ M := by
              intro y hy
              have h1 := mem_tauOf.1 hy
              refine HTY.out y ?_ h1.2
              have h2 := outs_zero HR.out HSRT.out (x := (xn : Int)) (r := r) (y := (y1, (t : Int))) (by rw [← HSS.out]; exact HY.out) hy0 y h1.1 h1.2
              rw [HSS.out]; exact h2
            have hnx := Bfs.next HB2.out HMX.out hall
            have hiM : i < M.length := (List.getElem?_eq_some_iff.1 HMX.out).1
            have hMn : M.length ≤ n := by have := HB2.out.len; have h2 : (tauOf s q).st = (n : Int) := HN.out; rw [h2] at this; simpa using this
            have HNX := Lib.hid hnx
            clear hall hnx HTY hy0
            go_wp2_with fail
            go_roundw
            case rel => exact ⟨M, i + 1, _, _, rfl, by go_num, by omega, HNX.out, HW2.out⟩
            case measure => simp [intOf]; omega
        · have hall : ∀ y ∈ (tauOf s q).outs (xn : Int), y.2 ∈ M := by
            intro y hy
            have h1 := mem_tauOf.1 hy
            have := HTY.out
            rw [List.take_of_length_le (by omega), HSS.out] at this
            exact this y h1.1 h1.2
          have hnx := Bfs.next HB2.out HMX.out hall
          have hMn : M.length ≤ n := by have := HB2.out.len; have h2 : (tauOf s q).st = (n : Int) := HN.out; rw [h2] at this; simpa using this
          have hiM : i < M.length := (List.getElem?_eq_some_iff.1 HMX.out).1
          have HNX := Lib.hid hnx
          have hrr : ss.length = r := by omega
          clear hall hnx HTY
          go_wp2_with fail
          go_roundw
          case rel => exact ⟨M, i + 1, _, _, rfl, by go_num, by omega, HNX.out, HW2.out⟩
          case measure => simp [intOf]; omega
    · obtain rfl : i = L.length := by omega
      go_wp2_with fail
      go_ret
      exact ⟨SB, rfl, HW.out.seen.congr (fun j _ => by
        have : decide ((j : Int) ∈ L) = decide ((j : Int) ∈ reachL (tauOf s (q : Int))) := by
          rw [Bool.eq_iff_iff]; simp only [decide_eq_true_eq]
          rw [HB.out.all, mem_reachL HRT.out (by show s.st ≠ 0; have := HN.out; omega)]
        rw [this]), by have := HW.out.sb; omega, HW.out.below⟩
end Go.Proofs.YtdhloijdefnkpaaGreatDoor

namespace Go.Proofs.YtdhloijdefnkpaaGreatDoor
open Go.RowKit Pl

set_option maxRecDepth 100000 in
theorem refSame7_any {a1 a2 : Option Addr} {b1 o1 c1 b2 o2 c2 : Nat} {xs ys : List Int} {w : World} (h1 : SlAt encI 1 w a1 b1 o1 xs) (h2 : SlAt encI 1 w a2 b2 o2 ys) (hx : xs.length ≤ 4611686018427387904) (hy : ys.length ≤ 4611686018427387904) :
    Calls Tryz.prog 76 #[.slice a1 xs.length c1, .slice a2 ys.length c2] w fun e w' => e = .returned (.bool (decide (xs = ys))) ∧ ∃ n, w' = w.drewN n := by
  by_cases hl : xs.length = ys.length
  · have hlB : ((xs.length : Int) != (ys.length : Int)) = false := by simp [hl]
    have HL := Lib.hid hl; clear hl
    go_enter Tryz.func76, Tryz.ntmps76
    go_wp2
    go_loopw [5] (fun i wr => ∃ k m : Nat, k ≤ xs.length ∧ i = .int .i64 k ∧ (∀ j, j < k → xs[j]? = ys[j]?) ∧ wr = w.drewN m)
      (fun i _ => xs.length - (intOf i).toNat)
    case atStart => exact ⟨0, 0, Nat.zero_le _, rfl, by intro j hj; omega, rfl⟩
    case round =>
      obtain ⟨k, m, hk, rfl, heq, rfl⟩ := hrel
      have HE := Lib.hid heq; clear heq
      by_cases hlt : k < xs.length
      · have hlt2 : k < ys.length := by rw [← HL.out]; exact hlt
        obtain ⟨x, hxk⟩ := getElem?_of_lt hlt
        obtain ⟨y, hyk⟩ := getElem?_of_lt hlt2
        obtain rfl := h1.ad (by omega)
        obtain rfl := h2.ad (by omega)
        have hc0 := h1.ci hxk
        have hc1 := h2.ci hyk
        have hi1 : (k : Int) < (xs.length : Int) := by omega
        have hi2 : (k : Int) < (ys.length : Int) := by omega
        have HX := Lib.hid hxk; have HY := Lib.hid hyk
        clear h1 h2 hxk hyk
        by_cases hxy : x = y
        · have hb : (x != y) = false := by simp [hxy]
          have HXY := Lib.hid hxy; clear hxy
          go_wp2_with fail
          go_quiet (fail)
          go_wp2
          go_roundw
          case rel => exact ⟨k + 1, _, by omega, by go_num, by
            intro j hj
            by_cases hjk : j = k
            · subst hjk; rw [HX.out, HY.out, HXY.out]
            · exact HE.out j (by omega), rfl⟩
          case measure => simp [intOf]; omega
        · have hb : (x != y) = true := by simp [hxy]
          have HXY := Lib.hid hxy; clear hxy
          go_wp2_with fail
          go_quiet (fail)
          go_wp2
          go_ret
          refine ⟨?_, _, World.drewN_drewN _ _ _⟩
          have : xs ≠ ys := fun e => HXY.out (by have h1 := HX.out; have h2 := HY.out; rw [e, h2] at h1; simpa using h1.symm)
          simp [this]
      · clear h1 h2
        have hkk : k = xs.length := by omega
        go_wp2
        go_ret
        refine ⟨?_, _, rfl⟩
        have : xs = ys := eq_upto HL.out (by rw [← hkk]; exact HE.out)
        simp [this]
  · have hlB : ((xs.length : Int) != (ys.length : Int)) = true := by simp; omega
    go_enter Tryz.func76, Tryz.ntmps76
    go_wp2
    go_ret
    have : xs ≠ ys := fun e => hl (by rw [e])
    exact ⟨by simp [this], 0, rfl⟩
end Go.Proofs.YtdhloijdefnkpaaGreatDoor

namespace Go.Proofs.YtdhloijdefnkpaaGreatDoor
open Go.RowKit Pl

/-- A row of ints, of a call's own. -/
def RIg (v : Value) (n : Nat) (xs : List Int) : Rw := ⟨3, 1, v, n, xs.flatMap encI⟩
theorem flatI (l : List Int) : l.flatMap encI = l.map (fun x => Value.int .i64 x) := by
  induction l with
  | nil => rfl
  | cons x l ih => rw [List.flatMap_cons, List.map_cons, ih]; rfl
theorem flatI_set (l : List Int) (j : Nat) (x : Int) : (l.flatMap encI).set j (.int .i64 x) = (l.set j x).flatMap encI := by rw [flatI, flatI, List.map_set]
theorem flatI_get {l : List Int} {j : Nat} {x : Int} (h : l[j]? = some x) : (l.flatMap encI)[j]? = some (.int .i64 x) := by rw [flatI, List.getElem?_map, h]; rfl

namespace Pl
/-- The number of a step by a label into a class. -/
def sgv (C : List Int) (x : S) : Int := x.1 * 1001 + atL C x.2
/-- A number put at its place in a rising list. -/
theorem srt_put {O : List Int} {v : Int} {k : Nat} (h : Srt ltI O) (hl : ∀ j x, O[j]? = some x → j < k → x < v) (hr : ∀ j x, O[j]? = some x → k ≤ j → v < x) : Srt ltI (O.take k ++ v :: O.drop k) := by
  unfold Srt at h ⊢
  have hsp : (O.take k ++ O.drop k).Pairwise (fun a b => ltI a b = true) := by rw [List.take_append_drop]; exact h
  rw [List.pairwise_append] at hsp ⊢
  refine ⟨hsp.1, List.pairwise_cons.2 ⟨fun x hx => ?_, hsp.2.1⟩, fun a ha b hb => ?_⟩
  · obtain ⟨j, hj⟩ := List.getElem?_of_mem hx
    rw [List.getElem?_drop] at hj
    have := hr _ _ hj (by omega)
    simp [ltI, this]
  · obtain ⟨j, hj⟩ := List.getElem?_of_mem ha
    have hjk : j < k := by
      have := (List.getElem?_eq_some_iff.1 hj).1
      simp at this; omega
    rw [List.getElem?_take, if_pos hjk] at hj
    have h1 := hl _ _ hj hjk
    rcases List.mem_cons.1 hb with rfl | hb
    · simp [ltI, h1]
    · exact hsp.2.2 a (List.mem_of_getElem? (show (O.take k)[j]? = some a by rw [List.getElem?_take, if_pos hjk]; exact hj)) b hb
theorem nf_put {O L : List Int} {v : Int} {k : Nat} (h : O = nf ltI L) (hl : ∀ j x, O[j]? = some x → j < k → x < v) (hr : ∀ j x, O[j]? = some x → k ≤ j → v < x) : O.take k ++ v :: O.drop k = nf ltI (L ++ [v]) := by
  refine srt_ext stoI _ _ (srt_put (by rw [h]; exact srt_nf stoI L) hl hr) (srt_nf stoI _) (fun x => ?_)
  rw [mem_nf stoI, List.mem_append, List.mem_cons, List.mem_append, List.mem_singleton, ← mem_nf stoI x L, ← h]
  have : x ∈ O ↔ x ∈ O.take k ∨ x ∈ O.drop k := by rw [← List.mem_append, List.take_append_drop]
  rw [this]
  constructor
  · rintro (h1 | h1 | h1)
    · exact .inl (.inl h1)
    · exact .inr h1
    · exact .inl (.inr h1)
  · rintro ((h1 | h1) | h1)
    · exact .inl h1
    · exact .inr (.inr h1)
    · exact .inr (.inl h1)
theorem nf_had {O L : List Int} {v : Int} (h : O = nf ltI L) (hv : v ∈ O) : O = nf ltI (L ++ [v]) := by
  refine srt_ext stoI _ _ (by rw [h]; exact srt_nf stoI L) (srt_nf stoI _) (fun x => ?_)
  rw [mem_nf stoI, List.mem_append, List.mem_singleton, ← mem_nf stoI x L, ← h]
  constructor
  · exact .inl
  · rintro (h1 | rfl)
    · exact h1
    · exact hv
theorem put_set {O : List Int} {k : Nat} {x y : Int} (R : List Int) (h : k ≤ O.length) : (O.take k ++ x :: R).set k y = O.take k ++ y :: R := by
  have hl : (O.take k).length = k := by rw [List.length_take]; omega
  rw [List.set_append_right _ _ (by omega), hl, Nat.sub_self, List.set_cons_zero]
theorem put_get {O : List Int} {k : Nat} (x : Int) (R : List Int) (h : k ≤ O.length) : (O.take k ++ x :: R)[k]? = some x := by
  have hl : (O.take k).length = k := by rw [List.length_take]; omega
  rw [List.getElem?_append_right (by omega), hl, Nat.sub_self, List.getElem?_cons_zero]
theorem put_shift {O : List Int} {j : Nat} {y : Int} (h : O[j]? = some y) : O.take (j + 1) ++ y :: O.drop (j + 1) = O.take j ++ y :: O.drop j := by
  obtain ⟨h1, h2⟩ := List.getElem?_eq_some_iff.1 h
  rw [take_snoc h, List.append_assoc, ← h2, List.drop_eq_getElem_cons h1]
  rfl
theorem srt_lt {O : List Int} (h : Srt ltI O) {i j : Nat} {x y : Int} (hi : O[i]? = some x) (hj : O[j]? = some y) (hij : i < j) : x < y := by
  obtain ⟨h1, h2⟩ := List.getElem?_eq_some_iff.1 hi
  obtain ⟨h3, h4⟩ := List.getElem?_eq_some_iff.1 hj
  have := List.pairwise_iff_getElem.1 h i j h1 h3 hij
  rw [h2, h4] at this
  simpa [ltI] using this
end Pl

set_option maxRecDepth 100000 in
set_option maxHeartbeats 4000000 in
theorem refSig_any {w : World} {xs : List S} {C : List Int} {a ca : Option Addr} {b off c cb co cc : Nat} (hS : SlAt encS 2 w a b off xs) (hC : SlAt encI 1 w ca cb co C) (hxl : xs.length ≤ 20000) (hcl : C.length ≤ 1000) (hx : ∀ x ∈ xs, 0 ≤ x.1 ∧ x.1 ≤ 201 ∧ 0 ≤ x.2 ∧ x.2 < (C.length : Int)) (hcr : ∀ x ∈ C, 0 ≤ x ∧ x ≤ 1000) :
    Calls Tryz.prog 75 #[.slice a xs.length c, .slice ca C.length cc] w fun e w' => ∃ v, e = .returned v ∧ w'.ownsRow w.heap.size 3 1 v (nf ltI (xs.map (sgv C))).length ((nf ltI (xs.map (sgv C))).flatMap encI) ∧ Below w.heap.size w w' := by
  obtain ⟨xl, hxle⟩ : ∃ xl, xl = xs.length := ⟨_, rfl⟩
  obtain ⟨cl, hcle⟩ : ∃ cl, cl = C.length := ⟨_, rfl⟩
  rw [← hxle, ← hcle]
  rw [← hxle] at hxl; rw [← hcle] at hcl
  have HXL := Lib.hid hxle; have HCL := Lib.hid hcle
  have HS := Lib.hid hS; have HC := Lib.hid hC; have HX := Lib.hid hx; have HCR := Lib.hid hcr
  have HR0 : RowKit.Hid (Rws w w [RIg (.slice none 0 0) 0 []]) := Lib.hid ((Rws.nil (Below.refl w.heap.size w)).addNil 3 1)
  clear hS hC hx hcr hxle hcle
  go_enter Tryz.func75, Tryz.ntmps75
  go_wp2_with fail
  go_loopw [5, 6, 7, 8, 9] (fun v5 v6 _ _ _ wr => ∃ (i m : Nat) (oa : Option Addr) (oc : Nat) (O : List Int), v6 = .int .i64 i ∧ i ≤ xl ∧ v5 = .slice oa m oc ∧ m = O.length ∧ O = nf ltI ((xs.take i).map (sgv C)) ∧ Rws w wr [RIg (.slice oa m oc) m O]) (fun _ v6 _ _ _ _ => xl - (intOf v6).toNat)
  case atStart => exact ⟨0, 0, none, 0, [], rfl, Nat.zero_le _, rfl, rfl, rfl, HR0.out⟩
  case round =>
    obtain ⟨i, m, oa, oc, O, rfl, hi, rfl, hml, hO, hR⟩ := hrel
    have HM := Lib.hid hml; have HO := Lib.hid hO; have HR := Lib.hid hR
    have hmi : m ≤ i := by
      rw [hml, hO]
      refine Nat.le_trans (length_nf (lt := ltI) _) ?_
      rw [List.length_map, List.length_take]; omega
    clear HR0 hml hO hR
    by_cases hlt : i < xl
    · have hiI : (i : Int) < (xl : Int) := by omega
      obtain ⟨x, hxi⟩ := getElem?_of_lt (xs := xs) (i := i) (by have := HXL.out; omega)
      have hxm := HX.out x (List.mem_of_getElem? hxi)
      have hS := HS.out.below HR.out.bel (Nat.le_refl _)
      obtain rfl := hS.ad (by have := HXL.out; omega)
      have d0 := hS.s0 hxi; have d1 := hS.s1 hxi
      have dl := hS.lt (by have := HXL.out; omega)
      obtain ⟨x1, x2⟩ := x
      simp only at hxm d0 d1
      obtain ⟨t, rfl⟩ := Int.eq_ofNat_of_zero_le hxm.2.2.1
      have htc : t < cl := by have := HCL.out; omega
      have htI : (t : Int) < (cl : Int) := by omega
      obtain ⟨y, hy⟩ := getElem?_of_lt (xs := C) (i := t) (by have := HCL.out; omega)
      have hyr := HCR.out y (List.mem_of_getElem? hy)
      have hC := HC.out.below HR.out.bel (Nat.le_refl _)
      obtain rfl := hC.ad (by have := HCL.out; omega)
      have g0 := hC.ci hy
      have gl := hC.lt (by have := HCL.out; omega)
      have hay : atL C (t : Int) = y := by unfold atL; rw [List.getD_eq_getElem?_getD]; simp [hy]
      obtain ⟨V, hV⟩ : ∃ V, x1 * 1001 + y = V := ⟨_, rfl⟩
      have hVr : 0 ≤ V ∧ V ≤ 300000 := by omega
      have HNF : RowKit.Hid ((xs.take (i + 1)).map (sgv C) = (xs.take i).map (sgv C) ++ [V]) := Lib.hid (by rw [take_snoc hxi, List.map_append, ← hV]; simp [sgv, hay])
      have hx1 : 0 ≤ x1 ∧ x1 ≤ 201 := ⟨hxm.1, hxm.2.1⟩
      clear hxi hxm hS hy hC hay
      go_wp2_with fail
      go_quiet (fail)
      go_wp2_with fail
      clear d0 d1 dl g0 gl hV
      go_loopw [8] (fun v8 wk => ∃ k : Nat, v8 = .int .i64 k ∧ k ≤ m ∧ (∀ j x, O[j]? = some x → k ≤ j → V < x) ∧ Rws w wk [RIg (.slice oa m oc) m O]) (fun v8 _ => (intOf v8).toNat)
      case atStart => exact ⟨m, rfl, Nat.le_refl _, fun j x hj hm => by have := (List.getElem?_eq_some_iff.1 hj).1; have := HM.out; omega, HR.out.drewN _⟩
      case round =>
        obtain ⟨k, rfl, hk, hgt, hR⟩ := hrel
        have HGT := Lib.hid hgt; have HRK := Lib.hid hR
        clear hgt hR HR
        rcases Nat.eq_zero_or_pos k with rfl | hk0
        · have HIN : RowKit.Hid (O.take 0 ++ V :: O.drop 0 = nf ltI ((xs.take (i + 1)).map (sgv C))) := Lib.hid (by rw [HNF.out]; exact nf_put HO.out (fun j x _ h => by omega) HGT.out)
          have hws := HRK.out.bel.size
          obtain ⟨lw, hlw⟩ : ∃ lw, lw = wr := ⟨_, rfl⟩
          subst hlw
          have HOWN : RowKit.Hid (∀ o : Obj, (lw.alloc o).ownsRow w.heap.size 3 1 (.slice oa m oc) m (O.flatMap encI)) := Lib.hid (fun o => (HRK.out.alloc o).get (i := 0) rfl)
          go_upto_region 11 with (at_builtin; refine wpList_lie rfl _ _ _ rfl rowI (base := w.heap.size) (by simp; omega) rfl (HOWN.out _) ⟨lw.heap.size, 0, none⟩ 1 1 [.int .i64 0] rfl rfl (cells1 (by simp [go_sem])) (by simp [Value.oneCell']) (by decide) (by omega) (by unfold maxLen; omega) lw.heap.size (by simp) ?_; intro g2 cap2 w7 hown7 hg7 hl7 hlt7)
          have hr7 : Rws w w7 [RIg (.slice (some ⟨g2, 0, none⟩) (m + 1) cap2) (m + 1) (O.take m ++ (0 : Int) :: O.drop m)] := by
            have h := HRK.out.grown (w2 := lw.alloc (.cells #[.int .i64 0] 3)) ((Below.refl _ _).alloc (Nat.le_refl _) _) 0 rfl hown7 hg7 (fun g hg => by simp only [Value.ownBlock, Option.some.injEq] at hg; subst hg; exact hl7)
            have e : O.take m ++ (0 : Int) :: O.drop m = O ++ [0] := by rw [HM.out, List.take_length, List.drop_length]
            rw [e]
            show Rws w w7 [⟨3, 1, _, _, (O ++ [0]).flatMap encI⟩]
            rw [List.flatMap_append]
            exact h
          have HR7 := Lib.hid hr7
          clear hr7 hown7 hg7 hl7 hlt7 HOWN
          go_wp2_with fail
          go_loopw [9] (fun v9 wj => ∃ (j : Nat) (x : Int), v9 = .int .i64 j ∧ 0 ≤ j ∧ j ≤ m ∧ Rws w wj [RIg (.slice (some ⟨g2, 0, none⟩) (m + 1) cap2) (m + 1) (O.take j ++ x :: O.drop j)]) (fun v9 _ => (intOf v9).toNat)
          case atStart => exact ⟨m, 0, by go_num, by omega, Nat.le_refl _, HR7.out⟩
          case round =>
            obtain ⟨j, x, rfl, hjk, hjm, hR⟩ := hrel
            have HRJ := Lib.hid hR
            clear hR HR7
            have hml := HM.out
            have hgl := HRJ.out.lt (i := 0) rfl
            have hgl2 := hgl.2
            have hfz := HRJ.out.fz (i := 0) rfl j
            have hcj := HRJ.out.cell (i := 0) rfl (flatI_get (put_get x (O.drop j) (show j ≤ O.length by omega)))
            clear hgl
            by_cases hj : 0 < j
            · obtain ⟨j, rfl⟩ : ∃ j', j = j' + 1 := ⟨j - 1, by omega⟩
              obtain ⟨y, hy⟩ := getElem?_of_lt (xs := O) (i := j) (by omega)
              have y0 := HRJ.out.cell (i := 0) rfl (flatI_get (show (O.take (j + 1) ++ x :: O.drop (j + 1))[j]? = some y by rw [List.getElem?_append_left (by rw [List.length_take]; omega), List.getElem?_take, if_pos (by omega)]; exact hy))
              have hst := HRJ.out.set 0 rfl (j + 1) (.int .i64 y)
              rw [flatI_set, put_set _ (by omega), put_shift hy] at hst
              have HST : RowKit.Hid (Rws w (wr.setCell ⟨g2, j + 1, none⟩ (.int .i64 y)) [RIg (.slice (some ⟨g2, 0, none⟩) (m + 1) cap2) (m + 1) (O.take j ++ y :: O.drop j)]) := Lib.hid hst
              have hjI : (j : Int) < (m : Int) := by omega
              clear hst hy hml
              go_wp2_with fail
              go_roundw
              case rel => exact ⟨j, y, by go_num, by omega, by omega, HST.out⟩
              case measure => simp [intOf] <;> omega
            · obtain rfl : 0 = j := by omega
              have hst := HRJ.out.set 0 rfl (0) (.int .i64 V)
              rw [flatI_set, put_set _ (by omega), HIN.out] at hst
              have HST : RowKit.Hid (Rws w (wr.setCell ⟨g2, 0, none⟩ (.int .i64 V)) [RIg (.slice (some ⟨g2, 0, none⟩) (m + 1) cap2) (m + 1) (nf ltI ((xs.take (i + 1)).map (sgv C)))]) := Lib.hid hst
              have HML : RowKit.Hid (m + 1 = (nf ltI ((xs.take (i + 1)).map (sgv C))).length) := Lib.hid (by rw [← HIN.out, List.length_append, List.length_cons, List.length_take, List.length_drop]; omega)
              clear hst hml
              go_wp2_with fail
              go_roundw
              case rel => exact ⟨i + 1, m + 1, _, _, _, by go_num, by omega, rfl, HML.out, rfl, HST.out⟩
              case measure => simp [intOf] <;> omega
        · obtain ⟨k, rfl⟩ : ∃ k', k = k' + 1 := ⟨k - 1, by omega⟩
          obtain ⟨z, hz⟩ := getElem?_of_lt (xs := O) (i := k) (by have := HM.out; omega)
          obtain ⟨g, cap, hv, hc1, hc2, hg1, hg2⟩ := HRK.out.form (i := 0) rfl (by omega)
          simp only [Value.slice.injEq] at hv
          obtain ⟨rfl, _, rfl⟩ := hv
          have z0 := HRK.out.cell (i := 0) rfl (flatI_get hz)
          have hkm : (k : Int) < (m : Int) := by omega
          have HZ := Lib.hid hz
          clear hz hc1 hg1
          by_cases hzv : V < z
          · have HGT2 : RowKit.Hid (∀ j x, O[j]? = some x → k ≤ j → V < x) := Lib.hid (fun j x hj h => by
              rcases Nat.eq_or_lt_of_le h with e | e
              · subst e; rw [HZ.out] at hj; cases hj; exact hzv
              · exact HGT.out j x hj (by omega))
            go_wp2_with fail
            go_roundw
            case rel => exact ⟨k, by go_num, by omega, HGT2.out, HRK.out⟩
            case measure => simp [intOf] <;> omega
          · by_cases hze : z = V
            · subst hze
              have HIN : RowKit.Hid (O = nf ltI ((xs.take (i + 1)).map (sgv C))) := Lib.hid (by rw [HNF.out]; exact nf_had HO.out (List.mem_of_getElem? HZ.out))
              clear hzv
              go_wp2_with fail
              go_roundw
              case rel => exact ⟨i + 1, m, _, _, O, by go_num, by omega, rfl, HM.out, HIN.out, HRK.out⟩
              case measure => simp [intOf] <;> omega
            · have hzl : z < V := by omega
              have HIN : RowKit.Hid (O.take (k + 1) ++ V :: O.drop (k + 1) = nf ltI ((xs.take (i + 1)).map (sgv C))) := Lib.hid (by
                rw [HNF.out]
                refine nf_put HO.out (fun j x hj h => ?_) HGT.out
                rcases Nat.eq_or_lt_of_le (show j ≤ k by omega) with e | e
                · subst e; rw [HZ.out] at hj; cases hj; exact hzl
                · have := srt_lt (by rw [HO.out]; exact srt_nf stoI _) hj HZ.out e; omega)
              have hzb : (z == V) = false := by simp [hze]
              clear hzv hze
              have hws := HRK.out.bel.size
              obtain ⟨lw, hlw⟩ : ∃ lw, lw = wr := ⟨_, rfl⟩
              subst hlw
              have HOWN : RowKit.Hid (∀ o : Obj, (lw.alloc o).ownsRow w.heap.size 3 1 (.slice (some ⟨g, 0, none⟩) m oc) m (O.flatMap encI)) := Lib.hid (fun o => (HRK.out.alloc o).get (i := 0) rfl)
              go_upto_region 11 with (at_builtin; refine wpList_lie rfl _ _ _ rfl rowI (base := w.heap.size) (by simp; omega) rfl (HOWN.out _) ⟨lw.heap.size, 0, none⟩ 1 1 [.int .i64 0] rfl rfl (cells1 (by simp [go_sem])) (by simp [Value.oneCell']) (by decide) (by omega) (by unfold maxLen; omega) lw.heap.size (by simp) ?_; intro g2 cap2 w7 hown7 hg7 hl7 hlt7)
              have hr7 : Rws w w7 [RIg (.slice (some ⟨g2, 0, none⟩) (m + 1) cap2) (m + 1) (O.take m ++ (0 : Int) :: O.drop m)] := by
                have h := HRK.out.grown (w2 := lw.alloc (.cells #[.int .i64 0] 3)) ((Below.refl _ _).alloc (Nat.le_refl _) _) 0 rfl hown7 hg7 (fun g hg => by simp only [Value.ownBlock, Option.some.injEq] at hg; subst hg; exact hl7)
                have e : O.take m ++ (0 : Int) :: O.drop m = O ++ [0] := by rw [HM.out, List.take_length, List.drop_length]
                rw [e]
                show Rws w w7 [⟨3, 1, _, _, (O ++ [0]).flatMap encI⟩]
                rw [List.flatMap_append]
                exact h
              have HR7 := Lib.hid hr7
              clear hr7 hown7 hg7 hl7 hlt7 HOWN
              go_wp2_with fail
              go_loopw [9] (fun v9 wj => ∃ (j : Nat) (x : Int), v9 = .int .i64 j ∧ (k + 1) ≤ j ∧ j ≤ m ∧ Rws w wj [RIg (.slice (some ⟨g2, 0, none⟩) (m + 1) cap2) (m + 1) (O.take j ++ x :: O.drop j)]) (fun v9 _ => (intOf v9).toNat)
              case atStart => exact ⟨m, 0, by go_num, by omega, Nat.le_refl _, HR7.out⟩
              case round =>
                obtain ⟨j, x, rfl, hjk, hjm, hR⟩ := hrel
                have HRJ := Lib.hid hR
                clear hR HR7
                have hml := HM.out
                have hgl := HRJ.out.lt (i := 0) rfl
                have hgl2 := hgl.2
                have hfz := HRJ.out.fz (i := 0) rfl j
                have hcj := HRJ.out.cell (i := 0) rfl (flatI_get (put_get x (O.drop j) (show j ≤ O.length by omega)))
                clear hgl
                by_cases hj : (k + 1) < j
                · obtain ⟨j, rfl⟩ : ∃ j', j = j' + 1 := ⟨j - 1, by omega⟩
                  obtain ⟨y, hy⟩ := getElem?_of_lt (xs := O) (i := j) (by omega)
                  have y0 := HRJ.out.cell (i := 0) rfl (flatI_get (show (O.take (j + 1) ++ x :: O.drop (j + 1))[j]? = some y by rw [List.getElem?_append_left (by rw [List.length_take]; omega), List.getElem?_take, if_pos (by omega)]; exact hy))
                  have hst := HRJ.out.set 0 rfl (j + 1) (.int .i64 y)
                  rw [flatI_set, put_set _ (by omega), put_shift hy] at hst
                  have HST : RowKit.Hid (Rws w (wr.setCell ⟨g2, j + 1, none⟩ (.int .i64 y)) [RIg (.slice (some ⟨g2, 0, none⟩) (m + 1) cap2) (m + 1) (O.take j ++ y :: O.drop j)]) := Lib.hid hst
                  have hjI : (j : Int) < (m : Int) := by omega
                  clear hst hy hml
                  go_wp2_with fail
                  go_roundw
                  case rel => exact ⟨j, y, by go_num, by omega, by omega, HST.out⟩
                  case measure => simp [intOf] <;> omega
                · obtain rfl : (k + 1) = j := by omega
                  have hst := HRJ.out.set 0 rfl ((k + 1)) (.int .i64 V)
                  rw [flatI_set, put_set _ (by omega), HIN.out] at hst
                  have HST : RowKit.Hid (Rws w (wr.setCell ⟨g2, (k + 1), none⟩ (.int .i64 V)) [RIg (.slice (some ⟨g2, 0, none⟩) (m + 1) cap2) (m + 1) (nf ltI ((xs.take (i + 1)).map (sgv C)))]) := Lib.hid hst
                  have HML : RowKit.Hid (m + 1 = (nf ltI ((xs.take (i + 1)).map (sgv C))).length) := Lib.hid (by rw [← HIN.out, List.length_append, List.length_cons, List.length_take, List.length_drop]; omega)
                  clear hst hml
                  go_wp2_with fail
                  go_roundw
                  case rel => exact ⟨i + 1, m + 1, _, _, _, by go_num, by omega, rfl, HML.out, rfl, HST.out⟩
                  case measure => simp [intOf] <;> omega
    · obtain rfl : xl = i := by omega
      have HFN : RowKit.Hid (O = nf ltI (xs.map (sgv C))) := Lib.hid (by have := HO.out; rw [List.take_of_length_le (by rw [HXL.out]; exact Nat.le_refl _)] at this; exact this)
      go_wp2_with fail
      go_ret
      refine ⟨_, rfl, ?_, HR.out.bel⟩
      rw [← HFN.out, ← HM.out]
      exact HR.out.get (i := 0) rfl
end Go.Proofs.YtdhloijdefnkpaaGreatDoor

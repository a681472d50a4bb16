/-
  Lemmas.
-/
import Derived.Test.YtbaccmlfnbgehaaGreatDoorRefOut
import Derived.Test.YtbaccmlfnbgehaaGreatDoorGPlB
import Derived.Test.YtbaccmlfnbgehaaGreatDoorGTold
import Derived.Test.YtbaccmlfnbgehaaGreatDoorGPl6
import Derived.Test.YtbaccmlfnbgehaaGreatDoorGBrQ
set_option maxHeartbeats 4000000
set_option maxRecDepth 100000
open List renaming getElem?_eq_some_iff → l0, mem_of_getElem? → l1, length_append → l3, getElem?_append_left → l5, mem_append → l6, flatMap_append → l7
open Nat renaming le_refl → l2, lt_of_lt_of_le → l4, zero_add → l8
open Go.Proofs.Tryz
namespace Go.Proofs.YtbaccmlfnbgehaaGreatDoor
open Go.RowKit Pl
structure StepRows (w : World) (lo ob n : Nat) (f : Nat -> List S) : Prop where
  at_ : ∀ p, p < n -> ∃ a c b off, w.cell? ⟨ob, p, none⟩ = some (.slice a (f p).length c) /\ SlAt encS 2 w a b off (f p) /\ (0 < (f p).length -> lo < b)
  lo : lo < ob
  lt : ob < w.heap.size
theorem StepRows.of {w : World} {lo base ob n : Nat} {f : Nat -> List S} (h : OwnRows encS 2 115 113 w base ob n f) (hlo : lo < ob) : StepRows w lo ob n f := by
 refine ⟨fun p hp => ?_, hlo, h.size⟩
 obtain ⟨v, h1, _, h3⟩ := h.at hp
 obtain ⟨a, c, b, rfl, _, _, h5, h6⟩ := j0d k1p h3
 exact ⟨a, c, b, 0, h1, h5, fun hp => by have := h6 hp; have := h.lt; omega⟩
structure QW (w w2 wr : World) (SB n : Nat) (L : List Int) (v : Value) : Prop where
  below : Below w.heap.size w wr
  oth : ∀ b, b < w2.heap.size -> b ≠ SB -> wr.heap[b]? = w2.heap[b]?
  size : w2.heap.size <= wr.heap.size
  seen : wr.rowIs SB 4 n (fun j => .bool (decide ((j : Int) ∈ L)))
  own : wr.ownsRow w2.heap.size 3 1 v L.length (L.flatMap encI)
  sb : w.heap.size <= SB
  sb2 : SB < w2.heap.size
theorem QW.row {w w2 wr : World} {SB n : Nat} {L : List Int} {v : Value} {ob : Nat} {f : Nat -> List S} (h : QW w w2 wr SB n L v) (hr : StepRows w2 SB ob n f) {p : Nat} (hp : p < n) :
    ∃ a c b off, wr.cell? ⟨ob, p, none⟩ = some (.slice a (f p).length c) /\ SlAt encS 2 w2 a b off (f p) /\ (0 < (f p).length -> b ≠ SB) := by
 obtain ⟨a, c, b, off, h1, h2, h3⟩ := hr.at_ p hp
 refine ⟨a, c, b, off, ?_, h2, fun hp => by have := h3 hp; omega⟩
 rw [World.cell?_of_block (w := w2) (a := ⟨ob, p, none⟩) (h.oth ob hr.lt (by have := hr.lo; omega))]
 exact h1
theorem QW.sl {w w2 wr : World} {SB n : Nat} {L : List Int} {v : Value} (h : QW w w2 wr SB n L v) {a : Option Addr} {b off : Nat} {xs : List S} (hS : SlAt encS 2 w2 a b off xs) (hb : 0 < xs.length -> b ≠ SB) : SlAt encS 2 wr a b off xs :=
  ⟨hS.ad, fun hp => l4 (hS.lt hp) h.size, fun i x hx j u hu => by
    have hp : 0 < xs.length := by have := (l0.1 hx).1; omega
    rw [World.cell?_of_block (w := w2) (a := ⟨b, off + i * 2 + j, none⟩) (h.oth b (hS.lt hp) (hb hp))]
    exact hS.cell i x hx j u hu⟩
theorem QW.push {w w2 wr w1 : World} {SB n : Nat} {L : List Int} {v v' : Value} {t : Nat} (h : QW w w2 wr SB n L v) {o1 : Obj} (hown : w1.ownsRow w2.heap.size 3 1 v' (L ++ [(t : Int)]).length ((L ++ [(t : Int)]).flatMap encI))
    (hg : ((wr.setCell ⟨SB, t, none⟩ (.bool true)).alloc o1).grownBy w1 v.ownBlock) : QW w w2 w1 SB n (L ++ [(t : Int)]) v' := by
 have hlt := h.seen.lt
 have hsb := h.sb; have hsb2 := h.sb2; have hsz := h.size
 have hse := ((h.seen.set t (.bool true)).alloc o1)
 have hnb : ∀ b, b < w2.heap.size -> some b ≠ v.ownBlock := fun b hb e => by have := (h.own.lt b e.symm).1; omega
 have hb : w1.heap[SB]? = _ := hg.block SB (by simp [World.setCell]; omega) (hnb SB hsb2)
 have hgs := hg.size
 refine ⟨?_, fun b hb hne => ?_, by simp [World.setCell] at hgs; omega, (hse.of_block hb).congr (fun i _ => ?_), hown, hsb, hsb2⟩
 · exact ((h.below.setCell hsb _).alloc (by simp [World.setCell]; omega) o1).grown hg (by simp [World.setCell]; omega) (fun k hk => by have := (h.own.lt k hk).1; omega)
 · rw [hg.block b (by simp [World.setCell]; omega) (hnb b hb), Below.heap_alloc _ _ _ (by simp [World.setCell]; omega), Below.heap_setCell _ _ _ _ hne]
   exact h.oth b hb hne
 · by_cases hi : i = t
   · subst hi; simp
   · rw [if_neg hi]; congr 1; simp only [l6, List.mem_singleton]
     have : ¬ ((i : Int) = (t : Int)) := by omega
     simp [this]
end Go.Proofs.YtbaccmlfnbgehaaGreatDoor
namespace Go.Proofs.YtbaccmlfnbgehaaGreatDoor
open Go.RowKit Pl
open Lib (hid)
structure StepsIn (w : World) (ob n : Nat) (f : Nat -> List S) : Prop where
  at_ : ∀ p, p < n -> ∃ a c b off, w.cell? ⟨ob, p, none⟩ = some (.slice a (f p).length c) /\ SlAt encS 2 w a b off (f p)
  lt : ob < w.heap.size
theorem StepsIn.below {w w' : World} {ob n : Nat} {f : Nat -> List S} (h : StepsIn w ob n f) (hB : Below w.heap.size w w') : StepsIn w' ob n f :=
  ⟨fun p hp => by
    obtain ⟨a, c, b, off, h1, h2⟩ := h.at_ p hp
    exact ⟨a, c, b, off, by rw [hB.cell (p := ⟨ob, p, none⟩) h.lt]; exact h1, h2.below hB (l2 _)⟩, l4 h.lt hB.size⟩
theorem StepsIn.of {w : World} {base ob n : Nat} {f : Nat -> List S} (h : OwnRows encS 2 115 113 w base ob n f) : StepsIn w ob n f := by
 refine ⟨fun p hp => ?_, h.size⟩
 obtain ⟨v, h1, _, h3⟩ := h.at hp
 obtain ⟨a, c, b, rfl, _, _, h5, _⟩ := j0d k1p h3
 exact ⟨a, c, b, 0, h1, h5⟩
theorem p2x {s : Lts} (hr : s.Right) (hs : Srt ltE s.es) {x : Int} {r : Nat} {y : S} (hy : (s.outs x)[r]? = some y) (h0 : y.1 ≠ 0) : ∀ z ∈ s.outs x, z.1 = 0 -> z ∈ (s.outs x).take r := by
 intro z hz hz0
 obtain ⟨j, hj⟩ := List.getElem?_of_mem hz
 by_cases hjr : j < r
 · exact l1 (show ((s.outs x).take r)[j]? = some z by rw [List.getElem?_take, if_pos hjr]; exact hj)
 · (
 exfalso
 have hyr := j0g.1 (hr.edges _ (j0s.1 (l1 hy)))
 simp only at hyr
 rcases Nat.eq_or_lt_of_le (Nat.le_of_not_lt hjr) with e | hlt
 · subst e; rw [hy] at hj; cases hj; exact h0 hz0
 · (
 obtain ⟨h3, h4⟩ := l0.1 hy
 obtain ⟨h5, h6⟩ := l0.1 hj
 have h7 := List.pairwise_iff_getElem.1 (x0s hs x) r j h3 h5 hlt
 rw [h4, h6] at h7
 have h8 := (x0g _ _).1 h7
 omega))
theorem x1u {s : Lts} (hr : s.Right) (hsr : Srt ltE s.es) {n q : Nat} (hn : s.st = (n : Int)) (hq : q < n) {w : World} {ob c : Nat} (hR : StepsIn w ob n (fun p => s.outs (p : Int))) :
    Calls prog 94 #[.slice (some ⟨ob, 0, none⟩) n c, .int .i64 q] w fun e w' => ∃ rb, e = .returned (.slice (some ⟨rb, 0, none⟩) n n) /\ w'.rowIs rb 4 n (fun j => .bool (decide ((j : Int) ∈ reachL (tauOf s (q : Int))))) /\ w.heap.size <= rb /\ Below w.heap.size w w' := by
 have hst := hr.st0
 have hn1 : n <= 1000 := by omega
 have hRT := z0q (q := (q : Int)) hr (by omega) (by omega)
 have hmk := run_make_row' (P := prog) 57 4 (.bool false) 1 underlying57 (by kernel_rfl) rfl .i64 .i64 n (by omega) (by omega)
 have hbfs : Bfs (tauOf s q) [(q : Int)] 0 := Bfs.start hRT (by show s.st ≠ 0; omega)
 have hqI : (q : Int) < (n : Int) := by omega
 have HR := hid hr; have HSRT := hid hsr; have HN := hid hn; have HRT := hid hRT; have HBF := hid hbfs; have HRW := hid hR
 clear hr hsr hn hRT hbfs hR hst
 go_enter func94, ntmps94
 go_upto_region 2 with fail
 obtain ⟨w2, hw2⟩ : ∃ w2, w2 = w.alloc (Obj.cells (madeCells #[.bool false] n) 4) := ⟨_, rfl⟩
 have hrow : w2.rowIs w.heap.size 4 n (fun _ => .bool false) := by rw [hw2]; exact World.rowIs_made w (.bool false) n 4
 have hbw : Below w.heap.size w w2 := by rw [hw2]; exact (Below.refl _ _).alloc (l2 _) _
 rw [<- hw2]
 obtain ⟨SB, hSB⟩ : ∃ SB, SB = w.heap.size := ⟨_, rfl⟩
 rw [<- hSB] at hrow ⊢
 have c1 := hrow.cell hq
 have f1 := hrow.frozen q
 have hl1 := hrow.lt
 have hqw : QW w w2 ((w2.setCell ⟨SB, q, none⟩ (.bool true)).alloc (.cells #[.int .i64 q] 3)) SB n [(q : Int)] (.slice (some ⟨w2.heap.size, 0, none⟩) 1 1) := by (
 have hlit := World.ownsRow_lit (e := 3) (base := w2.heap.size) (w2.setCell ⟨SB, q, none⟩ (.bool true)) #[.int .i64 q] 1 (size := 1) (by rw [size_setCell]; exact l2 _) (by unfold maxLen; omega) rfl
 rw [size_setCell] at hlit
 refine ⟨(hbw.setCell (by show w.heap.size <= SB; omega) _).alloc (by rw [size_setCell]; exact hbw.size) _, fun b hb hne => by rw [Below.heap_alloc _ _ _ (by rw [size_setCell]; exact hb), Below.heap_setCell _ _ _ _ hne], by simp [World.setCell], ((hrow.set q _).alloc _).congr (fun i _ => ?_), hlit, by omega, hl1⟩
 by_cases hi : i = q
 · subst hi; simp
 · rw [if_neg hi]
   have : ¬ ((i : Int) = (q : Int)) := by omega
   simp [this])
 have HQ := hid hqw; have HSB := hid hSB
 have hsb1 := hl1
 clear hw2 hrow hbw hqw hmk hSB
 go_wp2_with fail
 clear c1 f1 hl1
 go_loopw [6, 7] (fun v6 v7 wr => ∃ (L : List Int) (i : Nat) (a : Option Addr) (c : Nat), v6 = .slice a L.length c /\ v7 = .int .i64 i /\ i <= L.length /\ Bfs (tauOf s q) L i /\ QW w w2 wr SB n L (.slice a L.length c))
   (fun _ v7 _ => n - (intOf v7).toNat)
 case atStart => exact ⟨[(q : Int)], 0, _, _, rfl, rfl, by simp, HBF.out, HQ.out⟩
 case round => (
 obtain ⟨L, i, a, c, rfl, rfl, hiL, hbf, hqw⟩ := hrel
 have hLn : L.length <= n := by have := hbf.len; have h2 : (tauOf s q).st = (n : Int) := HN.out; rw [h2] at this; simpa using this
 have HB := hid hbf; have HW := hid hqw
 clear hbf hqw HBF HQ
 by_cases hlt : i < L.length
 · (
 obtain ⟨x, hx⟩ := j0a hlt
 obtain ⟨ga, gc, g, hv, _, _, hsl, _⟩ := j0d p0v HW.out.own
 simp only [Value.slice.injEq] at hv
 obtain ⟨rfl, _, rfl⟩ := hv
 obtain rfl := hsl.ad (by omega)
 have hcx := hsl.ci hx
 have hgl := hsl.lt (by omega)
 simp only [l8] at hcx
 have hix : (i : Int) < (L.length : Int) := by omega
 have hxr := HB.out.rng x (l1 hx)
 obtain ⟨xn, rfl⟩ : ∃ xn : Nat, x = (xn : Int) := ⟨x.toNat, by omega⟩
 have hxn : xn < n := by have := HN.out; have h2 : (tauOf s q).st = s.st := rfl; omega
 have hxn' : (xn : Int) < (n : Int) := by omega
 obtain ⟨ra, rc, rb, ro, hrc0, hrs0⟩ := HRW.out.at_ xn hxn
 have hobl := HRW.out.lt
 have hrc : wr.cell? ⟨ob, xn, none⟩ = some (.slice ra (s.outs (xn : Int)).length rc) := by rw [HW.out.below.cell (p := ⟨ob, xn, none⟩) hobl]; exact hrc0
 have hobr : ob < wr.heap.size := by have := HW.out.below.size; omega
 have HX := hid hx; have HRS := hid hrs0
 have hsslen : (s.outs (xn : Int)).length <= 10000 := q0c HR.out (xn : Int)
 clear hsl hx hxr hrc0 hrs0 hobl
 obtain ⟨ss, hss⟩ : ∃ ss, ss = s.outs (xn : Int) := ⟨_, rfl⟩
 rw [<- hss] at hrc HRS hsslen
 have HSS := hid hss
 clear hss
 go_wp2_with fail
 clear hcx hrc
 go_loopw [6, 9] (fun v6 v9 wr => ∃ (L : List Int) (r : Nat) (a : Option Addr) (c : Nat), v6 = .slice a L.length c /\ v9 = .int .i64 r /\ r <= ss.length /\ Bfs (tauOf s q) L i /\ L[i]? = some (xn : Int) /\ (∀ y ∈ ss.take r, y.1 = 0 -> y.2 ∈ L) /\ QW w w2 wr SB n L (.slice a L.length c))
   (fun _ v9 _ => ss.length - (intOf v9).toNat)
 case atStart => exact ⟨L, 0, _, _, rfl, rfl, by simp, HB.out, HX.out, by simp, HW.out⟩
 case round => (
 obtain ⟨M, r, a3, c3, rfl, rfl, hrl, hbf, hMx, hty, hqw⟩ := hrel
 have HB2 := hid hbf; have HW2 := hid hqw; have HMX := hid hMx; have HTY := hid hty
 clear hbf hqw hMx hty HB HW
 by_cases hltr : r < ss.length
 · (
 obtain ⟨y, hy⟩ := j0a hltr
 have hss' := HRS.out.below HW2.out.below (l2 _)
 obtain rfl := hss'.ad (by omega)
 have d0 := hss'.s0 hy; have d1 := hss'.s1 hy
 have hbl := hss'.lt (by omega)
 have hym : y ∈ s.outs (xn : Int) := by rw [<- HSS.out]; exact l1 hy
 have hyr := j0g.1 (HR.out.edges _ (j0s.1 hym))
 simp only at hyr
 obtain ⟨y1, y2⟩ := y
 obtain ⟨t, ht⟩ : ∃ t : Nat, y2 = (t : Int) := ⟨y2.toNat, by simp only at hyr; omega⟩
 subst ht
 simp only at d0 d1 hyr
 have htn : t < n := by have := HN.out; omega
 have htn' : (t : Int) < (n : Int) := by omega
 have hct : wr.cell? ⟨SB, t, none⟩ = some (.bool (decide ((t : Int) ∈ M))) := HW2.out.seen.cell htn
 have hft : wr.frozen? ⟨SB, t, none⟩ = false := HW2.out.seen.frozen t
 have hsb : SB < wr.heap.size := HW2.out.seen.lt
 have hrlt : (r : Int) < (ss.length : Int) := by omega
 have hrS : rb ≠ SB := by have := HRS.out.lt (by omega); have := HSB.out; omega
 have HY := hid hy; have HYM := hid hym
 clear hss' hy hym hyr
 by_cases hy0 : y1 = 0
 · (
 subst hy0
 by_cases hin : (t : Int) ∈ M
 · (
 have hd : decide ((t : Int) ∈ M) = true := by simp [hin]
 rw [hd] at hct
 have HIN := hid hin
 clear hd hin
 go_wp2_with fail
 go_roundw
 case rel => exact ⟨M, r + 1, _, _, rfl, by go_num, by omega, HB2.out, HMX.out, by (
 intro y hy h0
 rw [take_snoc HY.out] at hy
 rcases l6.1 hy with h1 | h1
 · exact HTY.out y h1 h0
 · simp at h1; subst h1; exact HIN.out), HW2.out⟩
 case measure => simp [intOf]; omega)
 · (
 have hd : decide ((t : Int) ∈ M) = false := by simp [hin]
 rw [hd] at hct
 have HIN := hid hin
 clear hd hin
 have hML : M.length <= n := by have := HB2.out.len; have h2 : (tauOf s q).st = (n : Int) := HN.out; rw [h2] at this; simpa using this
 have hszr := HW2.out.size
 go_wp2_with (at_builtin; go_must (refine k0i rfl _ _ _ rfl p2q (Below.refl _ _) (by simp [World.setCell]; omega) rfl (World.ownsRow.alloc (ownsRow_setCell_below HW2.out.own (a := ⟨SB, t, none⟩) hsb1 (.bool true)) _) ⟨wr.heap.size, 0, none⟩ 1 1 [.int .i64 t] rfl rfl (k0c (by simp [go_sem, World.setCell])) (by simp [Value.oneCell']) (by decide) (by omega) (by unfold maxLen; omega) ?_); intro g2 cap2 w7 hown7 _ hg7)
 have hpush := QW.push (v' := .slice (some ⟨g2, 0, none⟩) (M.length + 1) cap2) HW2.out (by rw [l3, l7]; exact hown7) hg7
 have hbp := Bfs.push HRT.out HB2.out HMX.out (v0e.2 ⟨HYM.out, rfl⟩) HIN.out
 have HP := hid hpush; have HBP := hid hbp
 clear hpush hbp hown7 hg7
 go_roundw
 case rel => exact ⟨M ++ [(t : Int)], r + 1, _, _, by rw [l3]; rfl, by go_num, by omega, HBP.out, by
   rw [l5 (by have := (l0.1 HMX.out).1; omega)]; exact HMX.out, by
   intro y hy h0
   rw [take_snoc HY.out] at hy
   rcases l6.1 hy with h1 | h1
   · exact List.mem_append_left _ (HTY.out y h1 h0)
   · simp at h1; subst h1; simp, by rw [l3]; exact HP.out⟩
 case measure => simp [intOf]; omega))
 · (
 have hb0 : (y1 == 0) = false := by simp [hy0]
 have hall : ∀ y ∈ (tauOf s q).outs (xn : Int), y.2 ∈ M := by (
 intro y hy
 have h1 := v0e.1 hy
 refine HTY.out y ?_ h1.2
 have h2 := p2x HR.out HSRT.out (x := (xn : Int)) (r := r) (y := (y1, (t : Int))) (by rw [<- HSS.out]; exact HY.out) hy0 y h1.1 h1.2
 rw [HSS.out]; exact h2)
 have hnx := Bfs.next HB2.out HMX.out hall
 have hiM : i < M.length := (l0.1 HMX.out).1
 have hMn : M.length <= n := by have := HB2.out.len; have h2 : (tauOf s q).st = (n : Int) := HN.out; rw [h2] at this; simpa using this
 have HNX := hid hnx
 clear hall hnx HTY hy0
 go_wp2_with fail
 go_roundw
 case rel => exact ⟨M, i + 1, _, _, rfl, by go_num, by omega, HNX.out, HW2.out⟩
 case measure => simp [intOf]; omega))
 · (
 have hall : ∀ y ∈ (tauOf s q).outs (xn : Int), y.2 ∈ M := by (
 intro y hy
 have h1 := v0e.1 hy
 have := HTY.out
 rw [List.take_of_length_le (by omega), HSS.out] at this
 exact this y h1.1 h1.2)
 have hnx := Bfs.next HB2.out HMX.out hall
 have hMn : M.length <= n := by have := HB2.out.len; have h2 : (tauOf s q).st = (n : Int) := HN.out; rw [h2] at this; simpa using this
 have hiM : i < M.length := (l0.1 HMX.out).1
 have HNX := hid hnx
 have hrr : ss.length = r := by omega
 clear hall hnx HTY
 go_wp2_with fail
 go_roundw
 case rel => exact ⟨M, i + 1, _, _, rfl, by go_num, by omega, HNX.out, HW2.out⟩
 case measure => simp [intOf]; omega)))
 · (
 obtain rfl : i = L.length := by omega
 go_wp2_with fail
 go_ret
 exact ⟨SB, rfl, HW.out.seen.congr (fun j _ => by (
 have : decide ((j : Int) ∈ L) = decide ((j : Int) ∈ reachL (tauOf s (q : Int))) := by
   rw [Bool.eq_iff_iff]; simp only [decide_eq_true_eq]
   rw [HB.out.all, j1b HRT.out (by show s.st ≠ 0; have := HN.out; omega)]
 rw [this])), by have := HW.out.sb; omega, HW.out.below⟩))
end Go.Proofs.YtbaccmlfnbgehaaGreatDoor
namespace Go.Proofs.YtbaccmlfnbgehaaGreatDoor
open Go.RowKit Pl
open Lib (hid)
theorem k3l : IsRow prog 31 57 1 24 (.slice none 0 0) := k0h underlying31 (by kernel_rfl) rfl (by decide)
structure LsB (B : Nat) (w0 wr : World) (n : Nat) (G : Nat -> Nat -> Bool) (v : Value) (vs : List Value) : Prop where
  bel : Below B w0 wr
  own : wr.ownsRow B 57 1 v vs.length (vs.flatMap encV)
  rows : ∀ (j : Nat) (x : Value), vs[j]? = some x -> ∃ b, x = .slice (some ⟨b, 0, none⟩) n n /\ B <= b /\ wr.rowIs b 4 n (fun q => .bool (G j q))
section
variable {B : Nat} {w0 wr w' wb : World} {n : Nat} {G : Nat -> Nat -> Bool} {v v' x : Value} {vs : List Value}
theorem LsB.call (h : LsB B w0 wr n G v vs) (hB0 : B <= wr.heap.size) (hB : Below wr.heap.size wr w') : LsB B w0 w' n G v vs :=
  ⟨h.bel.trans (hB.mono hB0), own_below h.own hB, fun j x hx => by
    obtain ⟨b, h1, h2, h3⟩ := h.rows j x hx
    exact ⟨b, h1, h2, h3.of_block (hB.block _ h3.lt)⟩⟩
theorem LsB.push {b : Nat} (h : LsB B w0 wr n G v vs) (hB0 : B <= wr.heap.size) (hbb : B <= b) (hx : wr.rowIs b 4 n (fun q => .bool (G vs.length q)))
    (hown : w'.ownsRow B 57 1 v' (vs.length + 1) (vs.flatMap encV ++ [.slice (some ⟨b, 0, none⟩) n n])) (hg : wr.grownBy w' v.ownBlock) : LsB B w0 w' n G v' (vs ++ [.slice (some ⟨b, 0, none⟩) n n]) := by
 have hrow : ∀ {c : Nat} {f : Nat -> Value}, wr.rowIs c 4 n f -> w'.rowIs c 4 n f := fun {c f} hc => by (
 refine hc.of_block (hg.block c hc.lt (fun e => ?_))
 obtain ⟨cs, h1, _⟩ := hc
 rcases h.own.2 with ⟨h2, _⟩ | ⟨gg, cap, cur, hv, _, hgg, _⟩
 · rw [h2] at e; cases e
 · rw [hv] at e; simp only [Value.ownBlock, Option.some.injEq] at e; subst e; rw [hgg] at h1; simp at h1)
 refine ⟨h.bel.grown hg hB0 (fun k e => (h.own.lt k e).1), ?_, fun j y hy => ?_⟩
 · rw [l7, l3]; exact hown
 · (
 rcases Nat.lt_or_ge j vs.length with hj | hj
 · rw [l5 hj] at hy
   obtain ⟨c, h1, h2, h3⟩ := h.rows j y hy
   exact ⟨c, h1, h2, hrow h3⟩
 · have hq2 : j = vs.length := by have := (l0.1 hy).1; simp at this; omega
   subst hq2
   simp at hy
   subst hy
   exact ⟨b, rfl, hbb, hrow hx⟩)
end
structure BoolsIn (w : World) (lb n : Nat) (G : Nat -> Nat -> Bool) : Prop where
  at_ : ∀ p, p < n -> ∃ b, w.cell? ⟨lb, p, none⟩ = some (.slice (some ⟨b, 0, none⟩) n n) /\ w.rowIs b 4 n (fun q => .bool (G p q))
  lt : 0 < n -> lb < w.heap.size
theorem BoolsIn.below {w w' : World} {lb n : Nat} {G : Nat -> Nat -> Bool} (h : BoolsIn w lb n G) (hB : Below w.heap.size w w') : BoolsIn w' lb n G :=
  ⟨fun p hp => by
    obtain ⟨b, h1, h2⟩ := h.at_ p hp
    exact ⟨b, by rw [hB.cell (p := ⟨lb, p, none⟩) (h.lt (by omega))]; exact h1, h2.of_block (hB.block _ h2.lt)⟩, fun hn => l4 (h.lt hn) hB.size⟩
noncomputable def silG (s : Lts) (p q : Nat) : Bool := decide ((q : Int) ∈ reachL (tauOf s.norm (p : Int)))
theorem x0p {s : Lts} {n : Nat} (hr : s.Right) (hn : s.st = (n : Int)) {a : Option Addr} {b off c : Nat} {w : World} (hS : SlAt encE 3 w a b off s.es) (hc : s.es.length <= c) (hcm : c <= maxLen) :
    Calls prog 29 #[.agg #[.int .i64 s.st, .int .i64 s.lb, .int .i64 s.s0, .slice a s.es.length c]] w fun e w' => ∃ la lb lc, e = .returned (.slice la n lc) /\ (0 < n -> la = some ⟨lb, 0, none⟩) /\ BoolsIn w' lb n (silG s) /\ Below w.heap.size w w' := by
 have hst := hr.st0
 have hn1 : n <= 1000 := by omega
 have hB0 := (Below.refl w.heap.size w).alloc (l2 _) (Obj.cells #[.int .i64 s.st, .int .i64 s.lb, .int .i64 s.s0, .slice a s.es.length c] 24)
 have hbx := heap_alloc_new w (Obj.cells #[.int .i64 s.st, .int .i64 s.lb, .int .i64 s.s0, .slice a s.es.length c] 24)
 have HO := hid (u0y hr (hS.below hB0 (l2 _)) hc hcm)
 obtain ⟨el, hel⟩ : ∃ el, el = s.es.length := ⟨_, rfl⟩
 rw [hn, <- hel] at HO hB0 hbx
 rw [hn, <- hel]
 have HB0 := hid hB0; have HBX := hid hbx; have HR := hid hr; have HN := hid hn
 clear hB0 hbx hr hn hS hc hcm hst hel
 go_enter func29, ntmps29
 go_wp2_with fail
 refine HO.out.mono ?_
 rintro e w2 ⟨ob, n', base, hn', rfl, hrows, hob, hB2⟩
 obtain rfl : n = n' := by have := HN.out; omega
 have hx2 := (hB2.block w.heap.size (by simp)).trans HBX.out
 have HX2 := hid hx2; have HB2 := hid (HB0.out.trans (hB2.mono (by simp))); have HRW := hid (StepsIn.of hrows)
 have hup : LsB w2.heap.size w2 w2 n (silG s) (.slice none 0 0) [] := ⟨Below.refl _ _, ⟨by simp, .inl ⟨rfl, rfl⟩⟩, by simp⟩
 have HUP := hid hup
 clear hrows hob hB2 hx2 hn' hup HO HB0 HBX
 go_wp2_with fail
 go_loopw [4, 5] (fun v4 v5 wr => ∃ (k : Nat) (vs : List Value), v5 = .int .i64 k /\ k <= n /\ vs.length = k /\ LsB w2.heap.size w2 wr n (silG s) v4 vs) (fun _ v5 _ => n - (intOf v5).toNat)
 case atStart => exact ⟨0, [], rfl, Nat.zero_le _, rfl, HUP.out⟩
 case round => (
 obtain ⟨k, vs, rfl, hk, hvl, hup⟩ := hrel
 have HU := hid hup; have HVL := hid hvl
 have hsz := hup.bel.size
 have hxr := (hup.bel.block w.heap.size (Array.getElem?_eq_some_iff.1 HX2.out).1).trans HX2.out
 have x0 : wr.cell? ⟨w.heap.size, 0, none⟩ = some (.int .i64 n) := by simp [World.cell?, hxr]
 have xl := (Array.getElem?_eq_some_iff.1 hxr).1
 clear hup hvl HUP hxr
 by_cases hlt : k < n
 · (
 have hkI : (k : Int) < (n : Int) := by omega
 have hfr := x1u (s := s.norm) (c := n) HR.out.norm (x0d y0k _) (n := n) (q := k) HN.out hlt (HRW.out.below HU.out.bel)
 have HFR := hid hfr
 clear hfr
 go_wp2_with fail
 refine HFR.out.mono ?_
 rintro e w5 ⟨rb, rfl, hrow, hrb, hB5⟩
 have hu5 := HU.out.call hsz hB5
 have hs5 := hB5.size
 have HU5 := hid hu5; have HRO := hid hrow
 have hrbl := hrow.lt
 clear hu5 hrow hB5 HU HFR x0 xl
 go_wp2_with (at_builtin; refine j0u rfl _ _ 31 rfl k3l (base := w2.heap.size) (by simp; omega) rfl (own_below HU5.out.own ((Below.refl w5.heap.size w5).alloc (l2 _) _)) ⟨w5.heap.size, 0, none⟩ 1 1 [.slice (some ⟨rb, 0, none⟩) n n] rfl rfl (k0c (by simp [go_sem])) (by simp [Value.oneCell']) (by omega) (by rw [HVL.out]; omega) (by unfold maxLen; rw [HVL.out]; omega) _ rfl ?_; intro g cap w6 hown6 hg6 _ _)
 have hba := (Below.refl w5.heap.size w5).alloc (l2 _) (.cells #[.slice (some ⟨rb, 0, none⟩) n n] 57)
 have hnx := (HU5.out.call (by omega) hba).push (v' := .slice (some ⟨g, 0, none⟩) (vs.length + 1) cap) (b := rb) (by simp; omega) (by omega) (by rw [HVL.out]; exact HRO.out.of_block (hba.block _ hrbl)) hown6 hg6
 have HNX := hid hnx
 clear hnx hown6 hg6 HU5 hba
 go_roundw
 case rel => exact ⟨k + 1, vs ++ [.slice (some ⟨rb, 0, none⟩) n n], by go_num, by omega, by simp [HVL.out], HNX.out⟩
 case measure => simp [intOf]; omega)
 · (
 obtain rfl : n = k := by omega
 obtain ⟨va, vc, vb, rfl, _, _, hvs, _⟩ := j0d lenV HU.out.own
 have hfin : (0 < n -> va = some ⟨vb, 0, none⟩) /\ BoolsIn wr vb n (silG s) := by (
 have hl := HVL.out
 refine ⟨fun h => hvs.ad (by omega), fun p hp => ?_, fun h => hvs.lt (by omega)⟩
 obtain ⟨x, hx⟩ := j0a (xs := vs) (i := p) (by omega)
 obtain ⟨b2, rfl, _, h3⟩ := HU.out.rows p x hx
 have := hvs.cv hx
 simp only [l8] at this
 exact ⟨b2, this, h3⟩)
 have HFN := hid hfin
 rw [HVL.out]
 clear hvs hfin
 go_wp2_with fail
 go_ret
 exact ⟨va, vb, vc, rfl, HFN.out.1, HFN.out.2, HB2.out.trans (HU.out.bel.mono HB2.out.size)⟩))
end Go.Proofs.YtbaccmlfnbgehaaGreatDoor

/-
  Lemmas.
-/
import Derived.Test.YtjchdegapadepaaGreatDoorRefOut
import Derived.Test.YtjchdegapadepaaGreatDoorGPl3
import Derived.Test.YtjchdegapadepaaGreatDoorGFrs
import Derived.Test.YtjchdegapadepaaGreatDoorGPl6
import Derived.Test.YtjchdegapadepaaGreatDoorGCanon
set_option maxHeartbeats 4000000
set_option maxRecDepth 100000
namespace Go.Proofs.YtjchdegapadepaaGreatDoor
open Go.RowKit Pl
open Lib (hid)
structure StepRows (w : World) (lo ob n : Nat) (f : Nat -> List S) : Prop where
  at_ : ∀ p, p < n -> ∃ a c b off, w.cell? ⟨ob, p, none⟩ = some (.slice a (f p).length c) /\ SlAt encS 2 w a b off (f p) /\ (0 < (f p).length -> lo < b)
  lo : lo < ob
  lt : ob < w.heap.size
theorem StepRows.of {w : World} {lo base ob n : Nat} {f : Nat -> List S} (h : OwnRows encS 2 80 60 w base ob n f) (hlo : lo < ob) : StepRows w lo ob n f := by
 refine ⟨fun p hp => ?_, hlo, h.size⟩
 obtain ⟨v, h1, _, h3⟩ := h.at hp
 obtain ⟨a, c, b, rfl, _, _, h5, h6⟩ := j0f k1c h3
 exact ⟨a, c, b, 0, h1, h5, fun hp => by have := h6 hp; have := h.lt; omega⟩
structure QW (w w2 wr : World) (SB n : Nat) (L : List Int) (v : Value) : Prop where
  below : Below w.heap.size w wr
  oth : ∀ b, b < w2.heap.size -> b ≠ SB -> wr.heap[b]? = w2.heap[b]?
  size : w2.heap.size <= wr.heap.size
  seen : wr.rowIs SB 4 n (fun j => .bool (decide ((j : Int) ∈ L)))
  own : wr.ownsRow w2.heap.size 3 1 v L.length (L.flatMap encI)
  sb : w.heap.size <= SB
  sb2 : SB < w2.heap.size
theorem QW.row {w w2 wr : World} {SB n : Nat} {L : List Int} {v : Value} {ob : Nat} {f : Nat -> List S} (h : QW w w2 wr SB n L v) (hr : StepRows w2 SB ob n f) {p : Nat} (hp : p < n) :
    ∃ a c b off, wr.cell? ⟨ob, p, none⟩ = some (.slice a (f p).length c) /\ SlAt encS 2 w2 a b off (f p) /\ (0 < (f p).length -> b ≠ SB) := by
 obtain ⟨a, c, b, off, h1, h2, h3⟩ := hr.at_ p hp
 refine ⟨a, c, b, off, ?_, h2, fun hp => by have := h3 hp; omega⟩
 rw [World.cell?_of_block (w := w2) (a := ⟨ob, p, none⟩) (h.oth ob hr.lt (by have := hr.lo; omega))]
 exact h1
theorem QW.sl {w w2 wr : World} {SB n : Nat} {L : List Int} {v : Value} (h : QW w w2 wr SB n L v) {a : Option Addr} {b off : Nat} {xs : List S} (hS : SlAt encS 2 w2 a b off xs) (hb : 0 < xs.length -> b ≠ SB) : SlAt encS 2 wr a b off xs :=
  ⟨hS.ad, fun hp => Nat.lt_of_lt_of_le (hS.lt hp) h.size, fun i x hx j u hu => by
    have hp : 0 < xs.length := by have := (List.getElem?_eq_some_iff.1 hx).1; omega
    rw [World.cell?_of_block (w := w2) (a := ⟨b, off + i * 2 + j, none⟩) (h.oth b (hS.lt hp) (hb hp))]
    exact hS.cell i x hx j u hu⟩
theorem QW.push {w w2 wr w1 : World} {SB n : Nat} {L : List Int} {v v' : Value} {t : Nat} (h : QW w w2 wr SB n L v) {o1 : Obj} (hown : w1.ownsRow w2.heap.size 3 1 v' (L ++ [(t : Int)]).length ((L ++ [(t : Int)]).flatMap encI))
    (hg : ((wr.setCell ⟨SB, t, none⟩ (.bool true)).alloc o1).grownBy w1 v.ownBlock) : QW w w2 w1 SB n (L ++ [(t : Int)]) v' := by
 have hlt := h.seen.lt
 have hsb := h.sb; have hsb2 := h.sb2; have hsz := h.size
 have hse := ((h.seen.set t (.bool true)).alloc o1)
 have hnb : ∀ b, b < w2.heap.size -> some b ≠ v.ownBlock := fun b hb e => by have := (h.own.lt b e.symm).1; omega
 have hb : w1.heap[SB]? = _ := hg.block SB (by simp [World.setCell]; omega) (hnb SB hsb2)
 have hgs := hg.size
 refine ⟨?_, fun b hb hne => ?_, by simp [World.setCell] at hgs; omega, (hse.of_block hb).congr (fun i _ => ?_), hown, hsb, hsb2⟩
 · exact ((h.below.setCell hsb _).alloc (by simp [World.setCell]; omega) o1).grown hg (by simp [World.setCell]; omega) (fun k hk => by have := (h.own.lt k hk).1; omega)
 · rw [hg.block b (by simp [World.setCell]; omega) (hnb b hb), Below.heap_alloc _ _ _ (by simp [World.setCell]; omega), Below.heap_setCell _ _ _ _ hne]
   exact h.oth b hb hne
 · by_cases hi : i = t
   · subst hi; simp
   · rw [if_neg hi]; congr 1; simp only [List.mem_append, List.mem_singleton]
     have : ¬ ((i : Int) = (t : Int)) := by omega
     simp [this]
def ReachPost (s : Lts) (w : World) (e : Ending) (w' : World) : Prop :=
  ∃ rb n : Nat, s.st = (n : Int) /\ e = .returned (.slice (some ⟨rb, 0, none⟩) n n) /\ w'.rowIs rb 4 n (fun j => .bool (decide ((j : Int) ∈ reachL s.norm))) /\ w.heap.size <= rb /\ Below w.heap.size w w'
theorem p1n {s : Lts} (h0 : s.st = 0) (v : Value) {w : World} :
    Calls Tryz.prog 22 #[.agg #[.int .i64 s.st, .int .i64 s.lb, .int .i64 s.s0, v]] w (ReachPost s w) := by
 have hmk := run_make_row' (P := Tryz.prog) 52 4 (.bool false) 1 Tryz.underlying52 (by kernel_rfl) rfl .i64 .i64 0 (by omega) (by omega)
 rw [show ((0 : Nat) : Int) = 0 from rfl] at hmk
 have H0 := hid h0
 rw [h0]
 clear h0
 go_enter Tryz.func22, Tryz.ntmps22
 go_wp2
 go_ret
 have hr := (World.rowIs_made (w.alloc (.cells #[.int .i64 0, .int .i64 s.lb, .int .i64 s.s0, v] 24)) (.bool false) 0 4).congr (g := fun j => .bool (decide ((j : Int) ∈ reachL s.norm))) (fun i hi => by omega)
 rw [show (w.alloc (.cells #[.int .i64 0, .int .i64 s.lb, .int .i64 s.s0, v] 24)).heap.size = w.heap.size + 1 by simp] at hr
 exact ⟨w.heap.size + 1, 0, by rw [H0.out]; rfl, rfl, hr, by omega, ((Below.refl _ _).alloc (Nat.le_refl _) _).alloc (by simp) _⟩
theorem x1p {s : Lts} (hr : s.Right) (h0 : s.st ≠ 0) {a : Option Addr} {b off c : Nat} {w : World} (hS : SlAt encE 3 w a b off s.es) (hc : s.es.length <= c) (hcm : c <= maxLen) :
    Calls Tryz.prog 22 #[.agg #[.int .i64 s.st, .int .i64 s.lb, .int .i64 s.s0, .slice a s.es.length c]] w (ReachPost s w) := by
 have hst := hr.st0
 obtain ⟨n, hn⟩ : ∃ n : Nat, s.st = (n : Int) := ⟨s.st.toNat, by omega⟩
 obtain ⟨z, hz⟩ : ∃ z : Nat, s.s0 = (z : Int) := ⟨s.s0.toNat, by omega⟩
 have hzn : z < n := by omega
 have hn1 : n <= 1000 := by omega
 have hnz : ((n : Int) == 0) = false := by simp; omega
 have hmk := run_make_row' (P := Tryz.prog) 52 4 (.bool false) 1 Tryz.underlying52 (by kernel_rfl) rfl .i64 .i64 n (by omega) (by omega)
 have hB0 := (Below.refl w.heap.size w).alloc (Nat.le_refl _) (Obj.cells #[.int .i64 n, .int .i64 s.lb, .int .i64 z, .slice a s.es.length c] 24)
 have hrow := World.rowIs_made (w.alloc (Obj.cells #[.int .i64 n, .int .i64 s.lb, .int .i64 z, .slice a s.es.length c] 24)) (.bool false) n 4
 have hbx := heap_alloc_new w (Obj.cells #[.int .i64 n, .int .i64 s.lb, .int .i64 z, .slice a s.es.length c] 24)
 have hB1 := hB0.alloc (by simp) (Obj.cells (madeCells #[.bool false] n) 4)
 have hout := x0z hr (hS.below hB1 (Nat.le_refl _)) hc hcm
 rw [hn, hz] at hout
 have HOUT := hid hout; have HR := hid hr; have HN := hid hn; have HZ := hid hz; have HB1 := hid hB1; have HROW := hid hrow; have HBX := hid hbx
 have H0 : Hid (s.norm.st ≠ 0) := hid h0
 rw [hn, hz]
 obtain ⟨el, hel⟩ : ∃ el, el = s.es.length := ⟨_, rfl⟩
 rw [<- hel] at HOUT HB1 HROW HBX ⊢
 clear hout hr hB0 hB1 hrow hbx hS hst hn hz hc hcm hel h0
 go_enter Tryz.func22, Tryz.ntmps22
 go_wp2_with fail
 refine HOUT.out.mono ?_
 rintro e w2 ⟨ob, n', base, hn', rfl, hrows, hob, hB2⟩
 obtain rfl : n = n' := by have := HN.out; omega
 have hs2 := hB2.size
 simp at hob hs2
 have hsr := StepRows.of (lo := w.heap.size + 1) hrows (by omega)
 have hseen : w2.rowIs (w.heap.size + 1) 4 n (fun _ => .bool false) := by
   have h := HROW.out.of_block (hB2.block _ (by simp))
   simpa using h
 have hbx2 : w2.heap[w.heap.size]? = some (.cells #[.int .i64 n, .int .i64 s.lb, .int .i64 z, .slice a el c] 24 (0, 0)) := by
   rw [hB2.block _ (by simp; omega), Below.heap_alloc _ _ _ (by simp)]; exact HBX.out
 have x0 : w2.cell? ⟨w.heap.size, 2, none⟩ = some (.int .i64 z) := by simp [World.cell?, hbx2]
 have x1 : w2.heap.size > w.heap.size + 1 := by omega
 have hl0 : w.heap.size < w2.heap.size := by omega
 obtain ⟨SB, hSB⟩ : ∃ SB, SB = w.heap.size + 1 := ⟨_, rfl⟩
 have hBw : Below w.heap.size w w2 := HB1.out.trans (hB2.mono (by simp; omega))
 rw [<- hSB] at hsr hseen ⊢
 have hsb1 : SB < w2.heap.size := by omega
 have hsb0 : w.heap.size <= SB := by omega
 have hsb3 : SB ≠ w.heap.size := by omega
 have hzn' : (z : Int) < (n : Int) := by omega
 have c1 := hseen.cell hzn
 have f1 := hseen.frozen z
 have HSR := hid hsr; have HSE := hid hseen; have HBW := hid hBw; have HSB := hid hSB
 clear hmk hrows hsr hseen hB2 hbx2 hBw hSB hn' HOUT HB1 HROW HBX x1 hob hs2
 go_wp2_with fail
 have hqw : QW w w2 ((w2.setCell ⟨SB, z, none⟩ (.bool true)).alloc (.cells #[.int .i64 z] 3)) SB n [(z : Int)] (.slice (some ⟨w2.heap.size, 0, none⟩) 1 1) := by (
 have hlit := World.ownsRow_lit (e := 3) (base := w2.heap.size) (w2.setCell ⟨SB, z, none⟩ (.bool true)) #[.int .i64 z] 1 (size := 1) (by rw [size_setCell]; exact Nat.le_refl _) (by unfold maxLen; omega) rfl
 rw [size_setCell] at hlit
 refine ⟨(HBW.out.setCell (by show w.heap.size <= SB; omega) _).alloc (by rw [size_setCell]; exact HBW.out.size) _, fun b hb hne => by rw [Below.heap_alloc _ _ _ (by rw [size_setCell]; exact hb), Below.heap_setCell _ _ _ _ hne], by simp [World.setCell], ((HSE.out.set z _).alloc _).congr (fun i _ => ?_), hlit, hsb0, hsb1⟩
 by_cases hi : i = z
 · subst hi; simp
 · rw [if_neg hi]
   have : ¬ ((i : Int) = (z : Int)) := by omega
   simp [this])
 have hbfs : Bfs s.norm [(z : Int)] 0 := by have := Bfs.start HR.out.norm H0.out; rw [show s.norm.s0 = (z : Int) from HZ.out] at this; exact this
 have HQ := hid hqw; have HBF := hid hbfs
 clear hqw hbfs c1 f1 x0
 go_loopw [5, 6] (fun v5 v6 wr => ∃ (L : List Int) (i : Nat) (a : Option Addr) (c : Nat), v5 = .slice a L.length c /\ v6 = .int .i64 i /\ i <= L.length /\ Bfs s.norm L i /\ QW w w2 wr SB n L (.slice a L.length c))
   (fun _ v6 _ => n - (intOf v6).toNat)
 case atStart => exact ⟨[(z : Int)], 0, _, _, rfl, rfl, by simp, HBF.out, HQ.out⟩
 case round => (
 obtain ⟨L, i, a, c, rfl, rfl, hiL, hbf, hqw⟩ := hrel
 have hLn : L.length <= n := by have := hbf.len; rw [show s.norm.st = (n : Int) from HN.out] at this; simpa using this
 have HB := hid hbf; have HW := hid hqw
 clear hbf hqw HBF HQ
 by_cases hlt : i < L.length
 · (
 obtain ⟨x, hx⟩ := j0a hlt
 obtain ⟨ga, gc, g, hv, _, _, hsl, _⟩ := j0f k0v HW.out.own
 simp only [Value.slice.injEq] at hv
 obtain ⟨rfl, _, rfl⟩ := hv
 obtain rfl := hsl.ad (by omega)
 have hcx := hsl.ci hx
 have hgl := hsl.lt (by omega)
 simp only [Nat.zero_add] at hcx
 have hix : (i : Int) < (L.length : Int) := by omega
 have hxr := HB.out.rng x (List.mem_of_getElem? hx)
 obtain ⟨xn, rfl⟩ : ∃ xn : Nat, x = (xn : Int) := ⟨x.toNat, by omega⟩
 have hxn : xn < n := by have := HN.out; have h2 : s.norm.st = s.st := rfl; omega
 have hxn' : (xn : Int) < (n : Int) := by omega
 obtain ⟨ra, rc, rb, ro, hrc, hrs, hrb⟩ := HW.out.row HSR.out hxn
 have hobr : ob < wr.heap.size := by have := HSR.out.lt; have := HW.out.size; omega
 have HX := hid hx; have HRS := hid hrs; have HRB := hid hrb
 have hsslen : (s.norm.outs (xn : Int)).length <= 10000 := p0d HR.out.norm (xn : Int)
 clear hsl hx hxr hrs hrb
 obtain ⟨ss, hss⟩ : ∃ ss, ss = s.norm.outs (xn : Int) := ⟨_, rfl⟩
 rw [<- hss] at hrc HRS HRB hsslen
 have HSS := hid hss
 clear hss
 go_wp2_with fail
 clear hcx hrc
 go_loopw [5, 8] (fun v5 v8 wr => ∃ (L : List Int) (r : Nat) (a : Option Addr) (c : Nat), v5 = .slice a L.length c /\ v8 = .int .i64 r /\ r <= ss.length /\ Bfs s.norm L i /\ L[i]? = some (xn : Int) /\ (∀ y ∈ ss.take r, y.2 ∈ L) /\ QW w w2 wr SB n L (.slice a L.length c))
   (fun _ v8 _ => ss.length - (intOf v8).toNat)
 case atStart => exact ⟨L, 0, _, _, rfl, rfl, by simp, HB.out, HX.out, by simp, HW.out⟩
 case round => (
 obtain ⟨M, r, a3, c3, rfl, rfl, hrl, hbf, hMx, hty, hqw⟩ := hrel
 have HB2 := hid hbf; have HW2 := hid hqw; have HMX := hid hMx; have HTY := hid hty
 clear hbf hqw hMx hty HB HW
 by_cases hltr : r < ss.length
 · (
 obtain ⟨y, hy⟩ := j0a hltr
 have hss' := HW2.out.sl HRS.out HRB.out
 obtain rfl := hss'.ad (by omega)
 have d1 := hss'.s1 hy
 have hbl := hss'.lt (by omega)
 have hym : y ∈ s.norm.outs (xn : Int) := by rw [<- HSS.out]; exact List.mem_of_getElem? hy
 have hyr := j0e.1 (HR.out.norm.edges _ (j0j.1 hym))
 have hst2 : s.norm.st = s.st := rfl
 simp only at hyr
 obtain ⟨y1, y2⟩ := y
 obtain ⟨t, ht⟩ : ∃ t : Nat, y2 = (t : Int) := ⟨y2.toNat, by simp only at hyr; omega⟩
 subst ht
 simp only at d1 hyr
 have htn : t < n := by have := HN.out; omega
 have htn' : (t : Int) < (n : Int) := by omega
 have hct : wr.cell? ⟨SB, t, none⟩ = some (.bool (decide ((t : Int) ∈ M))) := HW2.out.seen.cell htn
 have hft : wr.frozen? ⟨SB, t, none⟩ = false := HW2.out.seen.frozen t
 have hsb : SB < wr.heap.size := HW2.out.seen.lt
 have hrlt : (r : Int) < (ss.length : Int) := by omega
 have hrS := HRB.out (by omega)
 have HY := hid hy; have HYM := hid hym
 clear hss' hy hym hyr hst2
 by_cases hin : (t : Int) ∈ M
 · (
 have hd : decide ((t : Int) ∈ M) = true := by simp [hin]
 rw [hd] at hct
 have HIN := hid hin
 clear hd hin
 go_wp2
 go_roundw
 case rel => exact ⟨M, r + 1, _, _, rfl, by go_num, by omega, HB2.out, HMX.out, by (
 intro y hy
 rw [take_snoc HY.out] at hy
 rcases List.mem_append.1 hy with h1 | h1
 · exact HTY.out y h1
 · simp at h1; subst h1; exact HIN.out), HW2.out⟩
 case measure => simp [intOf]; omega)
 · (
 have hd : decide ((t : Int) ∈ M) = false := by simp [hin]
 rw [hd] at hct
 have HIN := hid hin
 clear hd hin
 have hML : M.length <= n := by have := HB2.out.len; rw [show s.norm.st = (n : Int) from HN.out] at this; simpa using this
 have hszr := HW2.out.size
 go_wp2_with (at_builtin; go_must (refine k0d rfl _ _ _ rfl v0u (Below.refl _ _) (by simp [World.setCell]; omega) rfl (World.ownsRow.alloc (ownsRow_setCell_below HW2.out.own (a := ⟨SB, t, none⟩) hsb1 (.bool true)) _) ⟨wr.heap.size, 0, none⟩ 1 1 [.int .i64 t] rfl rfl (k0i (by simp [go_sem, World.setCell])) (by simp [Value.oneCell']) (by decide) (by omega) (by unfold maxLen; omega) ?_); intro g2 cap2 w7 hown7 _ hg7)
 have hpush := QW.push (v' := .slice (some ⟨g2, 0, none⟩) (M.length + 1) cap2) HW2.out (by rw [List.length_append, List.flatMap_append]; exact hown7) hg7
 have hbp := Bfs.push HR.out.norm HB2.out HMX.out HYM.out HIN.out
 have HP := hid hpush; have HBP := hid hbp
 clear hpush hbp hown7 hg7
 go_roundw
 case rel => exact ⟨M ++ [(t : Int)], r + 1, _, _, by rw [List.length_append]; rfl, by go_num, by omega, HBP.out, by
   rw [List.getElem?_append_left (by have := (List.getElem?_eq_some_iff.1 HMX.out).1; omega)]; exact HMX.out, by
   intro y hy
   rw [take_snoc HY.out] at hy
   rcases List.mem_append.1 hy with h1 | h1
   · exact List.mem_append_left _ (HTY.out y h1)
   · simp at h1; subst h1; simp, by rw [List.length_append]; exact HP.out⟩
 case measure => simp [intOf]; omega))
 · (
 have hall : ∀ y ∈ s.norm.outs (xn : Int), y.2 ∈ M := by (
 intro y hy
 have := HTY.out
 rw [List.take_of_length_le (by omega), HSS.out] at this
 exact this y hy)
 have hnx := Bfs.next HB2.out HMX.out hall
 have hMn : M.length <= n := by have := HB2.out.len; rw [show s.norm.st = (n : Int) from HN.out] at this; simpa using this
 have hiM : i < M.length := (List.getElem?_eq_some_iff.1 HMX.out).1
 have HNX := hid hnx
 clear hall hnx HTY
 go_wp2
 go_roundw
 case rel => exact ⟨M, i + 1, _, _, rfl, by go_num, by omega, HNX.out, HW2.out⟩
 case measure => simp [intOf]; omega)))
 · (
 obtain rfl : i = L.length := by omega
 go_wp2
 go_ret
 exact ⟨SB, n, HN.out, rfl, HW.out.seen.congr (fun j _ => by (
 have : decide ((j : Int) ∈ L) = decide ((j : Int) ∈ reachL s.norm) := by
   rw [Bool.eq_iff_iff]; simp only [decide_eq_true_eq]
   rw [HB.out.all, k0p HR.out.norm H0.out]
 rw [this])), hsb0, HW.out.below⟩))
theorem p1o {s : Lts} (hr : s.Right) {a : Option Addr} {b off c : Nat} {w : World} (hS : SlAt encE 3 w a b off s.es) (hc : s.es.length <= c) (hcm : c <= maxLen) :
    Calls Tryz.prog 22 #[.agg #[.int .i64 s.st, .int .i64 s.lb, .int .i64 s.s0, .slice a s.es.length c]] w (ReachPost s w) := by
 by_cases h0 : s.st = 0
 · exact p1n h0 _
 · exact x1p hr h0 hS hc hcm
end Go.Proofs.YtjchdegapadepaaGreatDoor
namespace Go.Proofs.YtjchdegapadepaaGreatDoor
open Go.RowKit Pl
open Lib (hid)
structure StepsIn (w : World) (ob n : Nat) (f : Nat -> List S) : Prop where
  at_ : ∀ p, p < n -> ∃ a c b off, w.cell? ⟨ob, p, none⟩ = some (.slice a (f p).length c) /\ SlAt encS 2 w a b off (f p)
  lt : ob < w.heap.size
theorem StepsIn.below {w w' : World} {ob n : Nat} {f : Nat -> List S} (h : StepsIn w ob n f) (hB : Below w.heap.size w w') : StepsIn w' ob n f :=
  ⟨fun p hp => by
    obtain ⟨a, c, b, off, h1, h2⟩ := h.at_ p hp
    exact ⟨a, c, b, off, by rw [hB.cell (p := ⟨ob, p, none⟩) h.lt]; exact h1, h2.below hB (Nat.le_refl _)⟩, Nat.lt_of_lt_of_le h.lt hB.size⟩
theorem StepsIn.of {w : World} {base ob n : Nat} {f : Nat -> List S} (h : OwnRows encS 2 80 60 w base ob n f) : StepsIn w ob n f := by
 refine ⟨fun p hp => ?_, h.size⟩
 obtain ⟨v, h1, _, h3⟩ := h.at hp
 obtain ⟨a, c, b, rfl, _, _, h5, _⟩ := j0f k1c h3
 exact ⟨a, c, b, 0, h1, h5⟩
theorem p2l {s : Lts} (hr : s.Right) (hs : Srt ltE s.es) {x : Int} {r : Nat} {y : S} (hy : (s.outs x)[r]? = some y) (h0 : y.1 ≠ 0) : ∀ z ∈ s.outs x, z.1 = 0 -> z ∈ (s.outs x).take r := by
 intro z hz hz0
 obtain ⟨j, hj⟩ := List.getElem?_of_mem hz
 by_cases hjr : j < r
 · exact List.mem_of_getElem? (show ((s.outs x).take r)[j]? = some z by rw [List.getElem?_take, if_pos hjr]; exact hj)
 · (
 exfalso
 have hyr := j0e.1 (hr.edges _ (j0j.1 (List.mem_of_getElem? hy)))
 simp only at hyr
 rcases Nat.eq_or_lt_of_le (Nat.le_of_not_lt hjr) with e | hlt
 · subst e; rw [hy] at hj; cases hj; exact h0 hz0
 · (
 obtain ⟨h3, h4⟩ := List.getElem?_eq_some_iff.1 hy
 obtain ⟨h5, h6⟩ := List.getElem?_eq_some_iff.1 hj
 have h7 := List.pairwise_iff_getElem.1 (x0k hs x) r j h3 h5 hlt
 rw [h4, h6] at h7
 have h8 := (k0q _ _).1 h7
 omega))
theorem x1s {s : Lts} (hr : s.Right) (hsr : Srt ltE s.es) {n q : Nat} (hn : s.st = (n : Int)) (hq : q < n) {w : World} {ob c : Nat} (hR : StepsIn w ob n (fun p => s.outs (p : Int))) :
    Calls Tryz.prog 44 #[.slice (some ⟨ob, 0, none⟩) n c, .int .i64 q] w fun e w' => ∃ rb, e = .returned (.slice (some ⟨rb, 0, none⟩) n n) /\ w'.rowIs rb 4 n (fun j => .bool (decide ((j : Int) ∈ reachL (tauOf s (q : Int))))) /\ w.heap.size <= rb /\ Below w.heap.size w w' := by
 have hst := hr.st0
 have hn1 : n <= 1000 := by omega
 have hRT := z0e (q := (q : Int)) hr (by omega) (by omega)
 have hmk := run_make_row' (P := Tryz.prog) 52 4 (.bool false) 1 Tryz.underlying52 (by kernel_rfl) rfl .i64 .i64 n (by omega) (by omega)
 have hbfs : Bfs (tauOf s q) [(q : Int)] 0 := Bfs.start hRT (by show s.st ≠ 0; omega)
 have hqI : (q : Int) < (n : Int) := by omega
 have HR := hid hr; have HSRT := hid hsr; have HN := hid hn; have HRT := hid hRT; have HBF := hid hbfs; have HRW := hid hR
 clear hr hsr hn hRT hbfs hR hst
 go_enter Tryz.func44, Tryz.ntmps44
 go_upto_region 2 with fail
 obtain ⟨w2, hw2⟩ : ∃ w2, w2 = w.alloc (Obj.cells (madeCells #[.bool false] n) 4) := ⟨_, rfl⟩
 have hrow : w2.rowIs w.heap.size 4 n (fun _ => .bool false) := by rw [hw2]; exact World.rowIs_made w (.bool false) n 4
 have hbw : Below w.heap.size w w2 := by rw [hw2]; exact (Below.refl _ _).alloc (Nat.le_refl _) _
 rw [<- hw2]
 obtain ⟨SB, hSB⟩ : ∃ SB, SB = w.heap.size := ⟨_, rfl⟩
 rw [<- hSB] at hrow ⊢
 have c1 := hrow.cell hq
 have f1 := hrow.frozen q
 have hl1 := hrow.lt
 have hqw : QW w w2 ((w2.setCell ⟨SB, q, none⟩ (.bool true)).alloc (.cells #[.int .i64 q] 3)) SB n [(q : Int)] (.slice (some ⟨w2.heap.size, 0, none⟩) 1 1) := by (
 have hlit := World.ownsRow_lit (e := 3) (base := w2.heap.size) (w2.setCell ⟨SB, q, none⟩ (.bool true)) #[.int .i64 q] 1 (size := 1) (by rw [size_setCell]; exact Nat.le_refl _) (by unfold maxLen; omega) rfl
 rw [size_setCell] at hlit
 refine ⟨(hbw.setCell (by show w.heap.size <= SB; omega) _).alloc (by rw [size_setCell]; exact hbw.size) _, fun b hb hne => by rw [Below.heap_alloc _ _ _ (by rw [size_setCell]; exact hb), Below.heap_setCell _ _ _ _ hne], by simp [World.setCell], ((hrow.set q _).alloc _).congr (fun i _ => ?_), hlit, by omega, hl1⟩
 by_cases hi : i = q
 · subst hi; simp
 · rw [if_neg hi]
   have : ¬ ((i : Int) = (q : Int)) := by omega
   simp [this])
 have HQ := hid hqw; have HSB := hid hSB
 have hsb1 := hl1
 clear hw2 hrow hbw hqw hmk hSB
 go_wp2_with fail
 clear c1 f1 hl1
 go_loopw [6, 7] (fun v6 v7 wr => ∃ (L : List Int) (i : Nat) (a : Option Addr) (c : Nat), v6 = .slice a L.length c /\ v7 = .int .i64 i /\ i <= L.length /\ Bfs (tauOf s q) L i /\ QW w w2 wr SB n L (.slice a L.length c))
   (fun _ v7 _ => n - (intOf v7).toNat)
 case atStart => exact ⟨[(q : Int)], 0, _, _, rfl, rfl, by simp, HBF.out, HQ.out⟩
 case round => (
 obtain ⟨L, i, a, c, rfl, rfl, hiL, hbf, hqw⟩ := hrel
 have hLn : L.length <= n := by have := hbf.len; have h2 : (tauOf s q).st = (n : Int) := HN.out; rw [h2] at this; simpa using this
 have HB := hid hbf; have HW := hid hqw
 clear hbf hqw HBF HQ
 by_cases hlt : i < L.length
 · (
 obtain ⟨x, hx⟩ := j0a hlt
 obtain ⟨ga, gc, g, hv, _, _, hsl, _⟩ := j0f k0v HW.out.own
 simp only [Value.slice.injEq] at hv
 obtain ⟨rfl, _, rfl⟩ := hv
 obtain rfl := hsl.ad (by omega)
 have hcx := hsl.ci hx
 have hgl := hsl.lt (by omega)
 simp only [Nat.zero_add] at hcx
 have hix : (i : Int) < (L.length : Int) := by omega
 have hxr := HB.out.rng x (List.mem_of_getElem? hx)
 obtain ⟨xn, rfl⟩ : ∃ xn : Nat, x = (xn : Int) := ⟨x.toNat, by omega⟩
 have hxn : xn < n := by have := HN.out; have h2 : (tauOf s q).st = s.st := rfl; omega
 have hxn' : (xn : Int) < (n : Int) := by omega
 obtain ⟨ra, rc, rb, ro, hrc0, hrs0⟩ := HRW.out.at_ xn hxn
 have hobl := HRW.out.lt
 have hrc : wr.cell? ⟨ob, xn, none⟩ = some (.slice ra (s.outs (xn : Int)).length rc) := by rw [HW.out.below.cell (p := ⟨ob, xn, none⟩) hobl]; exact hrc0
 have hobr : ob < wr.heap.size := by have := HW.out.below.size; omega
 have HX := hid hx; have HRS := hid hrs0
 have hsslen : (s.outs (xn : Int)).length <= 10000 := p0d HR.out (xn : Int)
 clear hsl hx hxr hrc0 hrs0 hobl
 obtain ⟨ss, hss⟩ : ∃ ss, ss = s.outs (xn : Int) := ⟨_, rfl⟩
 rw [<- hss] at hrc HRS hsslen
 have HSS := hid hss
 clear hss
 go_wp2_with fail
 clear hcx hrc
 go_loopw [6, 9] (fun v6 v9 wr => ∃ (L : List Int) (r : Nat) (a : Option Addr) (c : Nat), v6 = .slice a L.length c /\ v9 = .int .i64 r /\ r <= ss.length /\ Bfs (tauOf s q) L i /\ L[i]? = some (xn : Int) /\ (∀ y ∈ ss.take r, y.1 = 0 -> y.2 ∈ L) /\ QW w w2 wr SB n L (.slice a L.length c))
   (fun _ v9 _ => ss.length - (intOf v9).toNat)
 case atStart => exact ⟨L, 0, _, _, rfl, rfl, by simp, HB.out, HX.out, by simp, HW.out⟩
 case round => (
 obtain ⟨M, r, a3, c3, rfl, rfl, hrl, hbf, hMx, hty, hqw⟩ := hrel
 have HB2 := hid hbf; have HW2 := hid hqw; have HMX := hid hMx; have HTY := hid hty
 clear hbf hqw hMx hty HB HW
 by_cases hltr : r < ss.length
 · (
 obtain ⟨y, hy⟩ := j0a hltr
 have hss' := HRS.out.below HW2.out.below (Nat.le_refl _)
 obtain rfl := hss'.ad (by omega)
 have d0 := hss'.s0 hy; have d1 := hss'.s1 hy
 have hbl := hss'.lt (by omega)
 have hym : y ∈ s.outs (xn : Int) := by rw [<- HSS.out]; exact List.mem_of_getElem? hy
 have hyr := j0e.1 (HR.out.edges _ (j0j.1 hym))
 simp only at hyr
 obtain ⟨y1, y2⟩ := y
 obtain ⟨t, ht⟩ : ∃ t : Nat, y2 = (t : Int) := ⟨y2.toNat, by simp only at hyr; omega⟩
 subst ht
 simp only at d0 d1 hyr
 have htn : t < n := by have := HN.out; omega
 have htn' : (t : Int) < (n : Int) := by omega
 have hct : wr.cell? ⟨SB, t, none⟩ = some (.bool (decide ((t : Int) ∈ M))) := HW2.out.seen.cell htn
 have hft : wr.frozen? ⟨SB, t, none⟩ = false := HW2.out.seen.frozen t
 have hsb : SB < wr.heap.size := HW2.out.seen.lt
 have hrlt : (r : Int) < (ss.length : Int) := by omega
 have hrS : rb ≠ SB := by have := HRS.out.lt (by omega); have := HSB.out; omega
 have HY := hid hy; have HYM := hid hym
 clear hss' hy hym hyr
 by_cases hy0 : y1 = 0
 · (
 subst hy0
 by_cases hin : (t : Int) ∈ M
 · (
 have hd : decide ((t : Int) ∈ M) = true := by simp [hin]
 rw [hd] at hct
 have HIN := hid hin
 clear hd hin
 go_wp2_with fail
 go_roundw
 case rel => exact ⟨M, r + 1, _, _, rfl, by go_num, by omega, HB2.out, HMX.out, by (
 intro y hy h0
 rw [take_snoc HY.out] at hy
 rcases List.mem_append.1 hy with h1 | h1
 · exact HTY.out y h1 h0
 · simp at h1; subst h1; exact HIN.out), HW2.out⟩
 case measure => simp [intOf]; omega)
 · (
 have hd : decide ((t : Int) ∈ M) = false := by simp [hin]
 rw [hd] at hct
 have HIN := hid hin
 clear hd hin
 have hML : M.length <= n := by have := HB2.out.len; have h2 : (tauOf s q).st = (n : Int) := HN.out; rw [h2] at this; simpa using this
 have hszr := HW2.out.size
 go_wp2_with (at_builtin; go_must (refine k0d rfl _ _ _ rfl v0u (Below.refl _ _) (by simp [World.setCell]; omega) rfl (World.ownsRow.alloc (ownsRow_setCell_below HW2.out.own (a := ⟨SB, t, none⟩) hsb1 (.bool true)) _) ⟨wr.heap.size, 0, none⟩ 1 1 [.int .i64 t] rfl rfl (k0i (by simp [go_sem, World.setCell])) (by simp [Value.oneCell']) (by decide) (by omega) (by unfold maxLen; omega) ?_); intro g2 cap2 w7 hown7 _ hg7)
 have hpush := QW.push (v' := .slice (some ⟨g2, 0, none⟩) (M.length + 1) cap2) HW2.out (by rw [List.length_append, List.flatMap_append]; exact hown7) hg7
 have hbp := Bfs.push HRT.out HB2.out HMX.out (z0v.2 ⟨HYM.out, rfl⟩) HIN.out
 have HP := hid hpush; have HBP := hid hbp
 clear hpush hbp hown7 hg7
 go_roundw
 case rel => exact ⟨M ++ [(t : Int)], r + 1, _, _, by rw [List.length_append]; rfl, by go_num, by omega, HBP.out, by
   rw [List.getElem?_append_left (by have := (List.getElem?_eq_some_iff.1 HMX.out).1; omega)]; exact HMX.out, by
   intro y hy h0
   rw [take_snoc HY.out] at hy
   rcases List.mem_append.1 hy with h1 | h1
   · exact List.mem_append_left _ (HTY.out y h1 h0)
   · simp at h1; subst h1; simp, by rw [List.length_append]; exact HP.out⟩
 case measure => simp [intOf]; omega))
 · (
 have hb0 : (y1 == 0) = false := by simp [hy0]
 have hall : ∀ y ∈ (tauOf s q).outs (xn : Int), y.2 ∈ M := by (
 intro y hy
 have h1 := z0v.1 hy
 refine HTY.out y ?_ h1.2
 have h2 := p2l HR.out HSRT.out (x := (xn : Int)) (r := r) (y := (y1, (t : Int))) (by rw [<- HSS.out]; exact HY.out) hy0 y h1.1 h1.2
 rw [HSS.out]; exact h2)
 have hnx := Bfs.next HB2.out HMX.out hall
 have hiM : i < M.length := (List.getElem?_eq_some_iff.1 HMX.out).1
 have hMn : M.length <= n := by have := HB2.out.len; have h2 : (tauOf s q).st = (n : Int) := HN.out; rw [h2] at this; simpa using this
 have HNX := hid hnx
 clear hall hnx HTY hy0
 go_wp2_with fail
 go_roundw
 case rel => exact ⟨M, i + 1, _, _, rfl, by go_num, by omega, HNX.out, HW2.out⟩
 case measure => simp [intOf]; omega))
 · (
 have hall : ∀ y ∈ (tauOf s q).outs (xn : Int), y.2 ∈ M := by (
 intro y hy
 have h1 := z0v.1 hy
 have := HTY.out
 rw [List.take_of_length_le (by omega), HSS.out] at this
 exact this y h1.1 h1.2)
 have hnx := Bfs.next HB2.out HMX.out hall
 have hMn : M.length <= n := by have := HB2.out.len; have h2 : (tauOf s q).st = (n : Int) := HN.out; rw [h2] at this; simpa using this
 have hiM : i < M.length := (List.getElem?_eq_some_iff.1 HMX.out).1
 have HNX := hid hnx
 have hrr : ss.length = r := by omega
 clear hall hnx HTY
 go_wp2_with fail
 go_roundw
 case rel => exact ⟨M, i + 1, _, _, rfl, by go_num, by omega, HNX.out, HW2.out⟩
 case measure => simp [intOf]; omega)))
 · (
 obtain rfl : i = L.length := by omega
 go_wp2_with fail
 go_ret
 exact ⟨SB, rfl, HW.out.seen.congr (fun j _ => by (
 have : decide ((j : Int) ∈ L) = decide ((j : Int) ∈ reachL (tauOf s (q : Int))) := by
   rw [Bool.eq_iff_iff]; simp only [decide_eq_true_eq]
   rw [HB.out.all, k0p HRT.out (by show s.st ≠ 0; have := HN.out; omega)]
 rw [this])), by have := HW.out.sb; omega, HW.out.below⟩))
end Go.Proofs.YtjchdegapadepaaGreatDoor
namespace Go.Proofs.YtjchdegapadepaaGreatDoor
open Go.RowKit Pl
theorem p1m {a1 a2 : Option Addr} {b1 o1 c1 b2 o2 c2 : Nat} {xs ys : List Int} {w : World} (h1 : SlAt encI 1 w a1 b1 o1 xs) (h2 : SlAt encI 1 w a2 b2 o2 ys) (hx : xs.length <= 4611686018427387904) (hy : ys.length <= 4611686018427387904) :
    Calls Tryz.prog 81 #[.slice a1 xs.length c1, .slice a2 ys.length c2] w fun e w' => e = .returned (.bool (decide (xs = ys))) /\ ∃ n, w' = w.drewN n := by
 by_cases hl : xs.length = ys.length
 · have hlB : ((xs.length : Int) != (ys.length : Int)) = false := by simp [hl]
   have HL := Lib.hid hl; clear hl
   go_enter Tryz.func81, Tryz.ntmps81
   go_wp2
   go_loopw [5] (fun i wr => ∃ k m : Nat, k <= xs.length /\ i = .int .i64 k /\ (∀ j, j < k -> xs[j]? = ys[j]?) /\ wr = w.drewN m)
     (fun i _ => xs.length - (intOf i).toNat)
   case atStart => exact ⟨0, 0, Nat.zero_le _, rfl, by intro j hj; omega, rfl⟩
   case round =>
     obtain ⟨k, m, hk, rfl, heq, rfl⟩ := hrel
     have HE := Lib.hid heq; clear heq
     by_cases hlt : k < xs.length
     · have hlt2 : k < ys.length := by rw [<- HL.out]; exact hlt
       obtain ⟨x, hxk⟩ := j0a hlt
       obtain ⟨y, hyk⟩ := j0a hlt2
       obtain rfl := h1.ad (by omega)
       obtain rfl := h2.ad (by omega)
       have hc0 := h1.ci hxk
       have hc1 := h2.ci hyk
       have hi1 : (k : Int) < (xs.length : Int) := by omega
       have hi2 : (k : Int) < (ys.length : Int) := by omega
       have HX := Lib.hid hxk; have HY := Lib.hid hyk
       clear h1 h2 hxk hyk
       by_cases hxy : x = y
       · have hb : (x != y) = false := by simp [hxy]
         have HXY := Lib.hid hxy; clear hxy
         go_wp2_with fail
         go_quiet (fail)
         go_wp2
         go_roundw
         case rel => exact ⟨k + 1, _, by omega, by go_num, by
           intro j hj
           by_cases hjk : j = k
           · subst hjk; rw [HX.out, HY.out, HXY.out]
           · exact HE.out j (by omega), rfl⟩
         case measure => simp [intOf]; omega
       · have hb : (x != y) = true := by simp [hxy]
         have HXY := Lib.hid hxy; clear hxy
         go_wp2_with fail
         go_quiet (fail)
         go_wp2
         go_ret
         refine ⟨?_, _, World.drewN_drewN _ _ _⟩
         have : xs ≠ ys := fun e => HXY.out (by have h1 := HX.out; have h2 := HY.out; rw [e, h2] at h1; simpa using h1.symm)
         simp [this]
     · clear h1 h2
       have hkk : k = xs.length := by omega
       go_wp2
       go_ret
       refine ⟨?_, _, rfl⟩
       have : xs = ys := y1p HL.out (by rw [<- hkk]; exact HE.out)
       simp [this]
 · have hlB : ((xs.length : Int) != (ys.length : Int)) = true := by simp; omega
   go_enter Tryz.func81, Tryz.ntmps81
   go_wp2
   go_ret
   have : xs ≠ ys := fun e => hl (by rw [e])
   exact ⟨by simp [this], 0, rfl⟩
end Go.Proofs.YtjchdegapadepaaGreatDoor

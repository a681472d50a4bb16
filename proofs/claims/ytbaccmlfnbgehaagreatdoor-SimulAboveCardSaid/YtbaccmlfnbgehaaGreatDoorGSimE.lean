/-
  Lemmas.
-/
import Derived.Test.YtbaccmlfnbgehaaGreatDoorGRefReach
import Derived.Test.YtbaccmlfnbgehaaGreatDoorGNew
import Derived.WalkMore
import Derived.Deep.LoopGhost
namespace Go.Proofs.YtbaccmlfnbgehaaGreatDoor
open Go.RowKit Pl
open Lib (hid)
attribute [local go_sem ↓] Go.wp_at_zero Go.wp_at_succ
structure RelR (w : World) (ob n : Nat) (R : Nat → Nat → Bool) : Prop where
  row : ∀ p, p < n → RowAt w ob (p * 5) (R p)
theorem RelR.below {w w' : World} {ob n : Nat} {R : Nat → Nat → Bool} (h : RelR w ob n R) (hB : Below w.heap.size w w') : RelR w' ob n R := ⟨fun p hp => (h.row p hp).below hB⟩
def stepD (s : Lts) (R : Nat → Nat → Bool) (q : Nat) (x : S) : Bool := (s.outs (q : Int)).any (fun y => decide (y.1 = x.1) && R x.2.toNat y.2.toNat)
def doesB (s : Lts) (R : Nat → Nat → Bool) (p q : Nat) : Bool := (s.outs (p : Int)).all (stepD s R q)
theorem stepD_iff {s : Lts} (hr : s.Right) {n : Nat} (hn : s.st = (n : Int)) (hn3 : n ≤ 300) (R : Nat → Nat → Bool) (q : Nat) (l : Int) (t : Nat) : stepD s R q (l, (t : Int)) = true ↔ ∃ i, i < 320 ∧ rowL (s.outs (q : Int)) l i = true ∧ R t i = true := by
  unfold stepD rowL
  simp only [List.any_eq_true, Bool.and_eq_true, decide_eq_true_eq, Int.toNat_natCast]
  constructor
  · rintro ⟨y, hy, h1, h2⟩
    have hyr := offB_false.1 (hr.edges _ (mem_outs.1 hy))
    obtain ⟨y1, y2⟩ := y
    simp only at hyr h1 h2
    obtain ⟨i, rfl⟩ := Int.eq_ofNat_of_zero_le hyr.2.2.2.2.1
    subst h1
    exact ⟨i, by omega, hy, h2⟩
  · rintro ⟨i, _, h1, h2⟩
    exact ⟨(l, (i : Int)), h1, rfl, h2⟩
set_option maxRecDepth 100000 in
set_option maxHeartbeats 4000000 in
theorem does_any {w0 w : World} {gb tb base ob n : Nat} {s : Lts} {R : Nat → Nat → Bool} (h : GraphAt w0 gb s) (hB : Below w0.heap.size w0 w) (hT : TabOf w gb tb s base) (hn : s.st = (n : Int)) (hn3 : n ≤ 300) (hR : RelR w ob n R) (p : Nat) {q : Nat} (hq : q < n) :
    Calls Tryz.prog 102 #[.pointer (some ⟨tb, 0, none⟩), .int .i64 p, .int .i64 q, .slice (some ⟨ob, 0, none⟩) n n] w fun e w' => e = .returned (.bool (doesB s R p q)) ∧ Below w.heap.size w w' := by
  obtain ⟨ms, da, db, dc, hblk, hms, hml, hmaps⟩ := hT.ex
  obtain ⟨mb, hmq, hLM⟩ := hmaps q (by omega)
  obtain ⟨f, nm, hm, h1, h2, h3⟩ := hLM.ex
  have hml' : ms.length = n := by omega
  obtain rfl := hms.ad (by omega)
  rw [hml'] at hblk
  have t0 : w.cell? ⟨tb, 0, none⟩ = some (.pointer (some ⟨gb, 0, none⟩)) := by simp [World.cell?, hblk]
  have t1 : w.cell? ⟨tb, 1, none⟩ = some (.slice (some ⟨db, 0, none⟩) n dc) := by simp [World.cell?, hblk]
  have tl := (Array.getElem?_eq_some_iff.1 hblk).1
  have c5 := hms.cv hmq
  have l5 := hms.lt (by omega)
  simp only [Nat.zero_add] at c5
  have hlook : ∀ w' : World, w'.heap[mb]? = w.heap[mb]? → ∀ l, okI l → (Instr.lookup 193 (.map (some mb)) (.int .i64 l) false).run Tryz.prog w' = .ok (((f l).map encP).getD (.pointer none)) w' := fun w' hb l hl =>
    (hm.of_block (w' := w') hb).look encInt Tryz.underlying193 (zeroPtr w') (x := l) hl false
  have hmlt := hm.lt
  have hrow : ∀ l b, f l = some b → RowAt w b 0 (rowL (s.outs (q : Int)) l) := fun l b e => (h1 l b e).2.2.1
  have hqI : (q : Int) < (n : Int) := by omega
  have HEA := hid (each_any h hB (p : Int))
  have HH := hid h; have HB := hid hB; have HR := hid hR; have HL := hid hlook; have HROW := hid hrow; have HNO := hid h2; have HT0 := hid t0; have HT1 := hid t1; have HC5 := hid c5; have HN := hid hn
  clear h hB hT hR hblk hms hml hmaps hmq hLM hm h1 h2 h3 hlook hrow t1 c5
  go_enter Tryz.func102, Tryz.ntmps102
  go_wp2_with fail
  refine (HEA.out).mono ?_
  rintro e wb ⟨⟨a2, c2, b2, off2, rfl, hc2, hm2, hss⟩, hBb⟩
  have HSS := hid hss
  have hsl : (s.outs (p : Int)).length ≤ 10000 := outs_len HH.out.right _
  have HBb := hid hBb
  clear hss hBb hc2 hm2 HEA t0
  go_wp2_with fail
  go_loopw [10, 11, 19] (fun _ _ v19 wr => ∃ k : Nat, v19 = .int .i64 k ∧ k ≤ (s.outs (p : Int)).length ∧ (∀ x ∈ (s.outs (p : Int)).take k, stepD s R q x = true) ∧ Below w.heap.size w wr)
    (fun _ _ v19 _ => (s.outs (p : Int)).length - (intOf v19).toNat)
  case atStart => exact ⟨0, rfl, Nat.zero_le _, by simp, HBb.out⟩
  case round =>
    obtain ⟨k, rfl, hk, hall, hbr⟩ := hrel
    have HALL := hid hall; have HBR := hid hbr
    have hsz := hbr.size
    clear hall hbr HBb
    by_cases hlt : k < (s.outs (p : Int)).length
    · obtain ⟨y, hy⟩ := getElem?_of_lt hlt
      have hss := HSS.out.below (HB.out.trans (HBR.out.mono HB.out.size)) (Nat.le_refl _)
      obtain rfl := hss.ad (by omega)
      have d0 := hss.s0 hy; have d1 := hss.s1 hy
      have dl := hss.lt (by omega)
      have hyr := offB_false.1 (HH.out.right.edges _ (mem_outs.1 (List.mem_of_getElem? hy)))
      have hlb := HH.out.right.st0
      have hst := HN.out
      obtain ⟨y1, y2⟩ := y
      simp only at hyr d0 d1
      obtain ⟨t, rfl⟩ := Int.eq_ofNat_of_zero_le hyr.2.2.2.2.1
      have htn : t < n := by omega
      have htI : (t : Int) < (n : Int) := by omega
      have hok : okI y1 := WalkArith.wf_i64 (by omega)
      have hkI : (k : Int) < ((s.outs (p : Int)).length : Int) := by omega
      have HY := hid hy; have HOK := hid hok
      clear hy hss hyr hlb hst hok
      go_upto_region 4 with fail
      obtain ⟨W, hW⟩ : ∃ W, W = wr.alloc (.cells #[.int .i64 y1, .int .i64 t] 115) := ⟨_, rfl⟩
      have hBW : Below w.heap.size w W := by rw [hW]; exact HBR.out.alloc hsz _
      have hws : wr.heap.size < W.heap.size := by rw [hW]; simp
      have hwz : W.heap.size = wr.heap.size + 1 := by rw [hW]; simp
      have s0 : W.cell? ⟨wr.heap.size, 0, none⟩ = some (.int .i64 y1) := by rw [hW]; simp
      have s1 : W.cell? ⟨wr.heap.size, 1, none⟩ = some (.int .i64 t) := by rw [hW]; simp
      rw [← hW]
      obtain ⟨v, hv⟩ : ∃ v, v = ((f y1).map encP).getD (.pointer none) := ⟨_, rfl⟩
      have hkeep : ∀ w', Below W.heap.size W w' → (w'.cell? ⟨tb, 1, none⟩ = some (.slice (some ⟨db, 0, none⟩) n dc) ∧ w'.cell? ⟨db, q, none⟩ = some (.map (some mb)) ∧ w'.cell? ⟨wr.heap.size, 0, none⟩ = some (.int .i64 y1) ∧ w'.cell? ⟨wr.heap.size, 1, none⟩ = some (.int .i64 t) ∧ (Instr.lookup 193 (.map (some mb)) (.int .i64 y1) false).run Tryz.prog w' = .ok v w') := fun w' h => by
        have h' := hBW.trans (h.mono hBW.size)
        exact ⟨by rw [h'.cell (p := ⟨tb, 1, none⟩) tl]; exact HT1.out, by rw [h'.cell (p := ⟨db, q, none⟩) l5]; exact HC5.out, by rw [h.cell (p := ⟨wr.heap.size, 0, none⟩) hws]; exact s0, by rw [h.cell (p := ⟨wr.heap.size, 1, none⟩) hws]; exact s1, by rw [hv]; exact HL.out _ (h'.block _ hmlt) y1 HOK.out⟩
      have HK := hid hkeep; have HBW := hid hBW; have HV := hid hv
      clear hkeep hBW hW s0 s1 hv d0 d1 HBR
      go_region_held3 (fun w' => w'.cell? ⟨tb, 1, none⟩ = some (.slice (some ⟨db, 0, none⟩) n dc) ∧ w'.cell? ⟨db, q, none⟩ = some (.map (some mb)) ∧ w'.cell? ⟨wr.heap.size, 0, none⟩ = some (.int .i64 y1) ∧ w'.cell? ⟨wr.heap.size, 1, none⟩ = some (.int .i64 t) ∧ (Instr.lookup 193 (.map (some mb)) (.int .i64 y1) false).run Tryz.prog w' = .ok v w')
        (first | exact HK.out _ (Below.refl _ _).drew | exact HK.out _ ((Below.refl _ _).drew.alloc (by simp) _))
        (fail)
      have HBD := hid HBW.out.drew
      have q1 : W.drew.cell? ⟨wr.heap.size, 1, none⟩ = some (.int .i64 t) := (HK.out _ (Below.refl _ _).drew).2.2.2.1
      have zW : W.drew.heap.size = wr.heap.size + 1 := hwz
      have hSI := stepD_iff HH.out.right HN.out hn3 R q y1 t
      have HSI := hid hSI
      have hv := HV.out
      clear HK HBW HV hSI HT1 HC5
      have hbad : stepD s R q (y1, (t : Int)) = false → doesB s R p q = false := fun h => by
        unfold doesB
        rw [List.all_eq_false]
        exact ⟨_, List.mem_of_getElem? HY.out, by simp [h]⟩
      have HBAD := hid hbad
      clear hbad
      rcases hfy : f y1 with _ | b
      · rw [hfy] at hv
        replace hv : v = .pointer none := hv
        subst hv
        have hb2 : doesB s R p q = false := HBAD.out (by
          rw [Bool.eq_false_iff]; intro hh
          obtain ⟨i, _, h1, _⟩ := HSI.out.1 hh
          unfold rowL at h1
          exact HNO.out y1 hfy _ (by simpa using h1))
        have HB2 := hid hb2
        clear hb2 HBAD HSI HNO hfy
        go_wp2_with fail
        go_ret
        exact ⟨by rw [HB2.out]; rfl, (by first | exact HBD.out | exact HBD.out.drew)⟩
      · rw [hfy] at hv
        replace hv : v = .pointer (some ⟨b, 0, none⟩) := hv
        subst hv
        have hm := rowMeets_any ((HROW.out y1 b hfy).below HBD.out) ((HR.out.row t htn).below HBD.out)
        have HM := hid hm
        clear hm hfy HROW HNO
        go_wp2_with fail
        refine HM.out.mono ?_
        rintro e w5 ⟨m, rfl, hiff, u, rfl⟩
        have hbe : Below w.heap.size w (W.drew.drewN u) := ⟨HBD.out.os, HBD.out.tape, HBD.out.output, HBD.out.size, HBD.out.block⟩
        have HBE := hid hbe
        have hms : m = stepD s R q (y1, (t : Int)) := by rw [Bool.eq_iff_iff, hiff, HSI.out]
        have HMS := hid hms
        clear hbe hms hiff HM HBD HSI
        cases m
        · have hb2 := HBAD.out HMS.out.symm
          have HB2 := hid hb2
          clear hb2 HBAD HMS
          go_wp2_with fail
          go_ret
          exact ⟨by rw [HB2.out]; rfl, ⟨HBE.out.os, HBE.out.tape, HBE.out.output, HBE.out.size, HBE.out.block⟩⟩
        · have hnx : ∀ x ∈ (s.outs (p : Int)).take (k + 1), stepD s R q x = true := fun x hx => by
            rw [take_snoc HY.out] at hx
            rcases List.mem_append.1 hx with h | h
            · exact HALL.out x h
            · simp at h; subst h; exact HMS.out.symm
          have HNX := hid hnx
          clear hnx HBAD HMS HALL
          go_wp2_with fail
          go_roundw
          case rel => exact ⟨k + 1, by go_num, by omega, HNX.out, ⟨HBE.out.os, HBE.out.tape, HBE.out.output, HBE.out.size, HBE.out.block⟩⟩
          case measure => simp [intOf]; omega
    · have hke : k = (s.outs (p : Int)).length := by omega
      have hall : doesB s R p q = true := by
        unfold doesB
        rw [List.all_eq_true]
        have := HALL.out
        rw [hke, List.take_length] at this; exact this
      have HALL2 := hid hall
      clear hall HALL
      go_wp2_with fail
      go_ret
      exact ⟨by rw [HALL2.out]; rfl, HBR.out⟩
end Go.Proofs.YtbaccmlfnbgehaaGreatDoor
namespace Go.Proofs.YtbaccmlfnbgehaaGreatDoor
open Go.RowKit Pl
def IsSim (s : Lts) (n : Nat) (S : Nat → Nat → Bool) : Prop := ∀ p q, p < n → q < n → S p q = true → doesB s S p q = true
theorem doesB_mono {s : Lts} (hr : s.Right) {n : Nat} (hn : s.st = (n : Int)) {S R : Nat → Nat → Bool} (h : ∀ p q, p < n → q < n → S p q = true → R p q = true) {p q : Nat} (hd : doesB s S p q = true) : doesB s R p q = true := by
  unfold doesB stepD at *
  rw [List.all_eq_true] at *
  intro x hx
  have h1 := hd x hx
  rw [List.any_eq_true] at *
  obtain ⟨y, hy, h2⟩ := h1
  refine ⟨y, hy, ?_⟩
  rw [Bool.and_eq_true] at *
  have hx2 := offB_false.1 (hr.edges _ (mem_outs.1 hx))
  have hy2 := offB_false.1 (hr.edges _ (mem_outs.1 hy))
  simp only at hx2 hy2
  exact ⟨h2.1, h _ _ (by omega) (by omega) h2.2⟩
structure Left (s : Lts) (n : Nat) (R : Nat → Nat → Bool) : Prop where
  rng : ∀ a i, a < n → R a i = true → i < n
  sim : ∀ S, IsSim s n S → ∀ a i, a < n → i < n → S a i = true → R a i = true
structure Great (s : Lts) (n : Nat) (R : Nat → Nat → Bool) : Prop where
  left : Left s n R
  does : ∀ a i, a < n → R a i = true → doesB s R a i = true
def dropR (R : Nat → Nat → Bool) (p i : Nat) : Nat → Nat → Bool := fun a => if a = p then dropF (R p) i else R a
def putR (R : Nat → Nat → Bool) (p i : Nat) : Nat → Nat → Bool := fun a => if a = p then putF (R p) i else R a
theorem dropR_true {R : Nat → Nat → Bool} {p i a j : Nat} : dropR R p i a j = true ↔ R a j = true ∧ ¬ (a = p ∧ j = i) := by
  unfold dropR dropF
  by_cases h : a = p
  · subst h; simp
  · simp [h]
/-! counting the pairs that are left -/
def sumN (n : Nat) (f : Nat → Nat) : Nat := ((List.range n).map f).sum
theorem sumN_succ (n : Nat) (f : Nat → Nat) : sumN (n + 1) f = sumN n f + f n := by unfold sumN; rw [List.range_succ]; simp
theorem sumN_congr {f g : Nat → Nat} : ∀ {n : Nat}, (∀ a, a < n → f a = g a) → sumN n f = sumN n g
  | 0, _ => rfl
  | n + 1, h => by rw [sumN_succ, sumN_succ, sumN_congr (fun a ha => h a (by omega)), h n (by omega)]
theorem sumN_upd {f g : Nat → Nat} {p : Nat} : ∀ {n : Nat}, p < n → (∀ a, a ≠ p → f a = g a) → f p + 1 = g p → sumN n f + 1 = sumN n g
  | 0, h, _, _ => by omega
  | n + 1, hp, h, hpp => by
    rw [sumN_succ, sumN_succ]
    by_cases e : p = n
    · subst e
      rw [sumN_congr (fun a ha => h a (by omega))]; omega
    · have := sumN_upd (n := n) (by omega) h hpp
      rw [h n (by omega)]; omega
theorem sumN_le {f : Nat → Nat} {m : Nat} : ∀ {n : Nat}, (∀ a, a < n → f a ≤ m) → sumN n f ≤ n * m
  | 0, _ => by simp [sumN]
  | n + 1, h => by
    rw [sumN_succ, Nat.succ_mul]
    have := sumN_le (n := n) (fun a ha => h a (by omega))
    have := h n (by omega)
    omega
def cntR (n : Nat) (R : Nat → Nat → Bool) : Nat := sumN n (fun a => sumN n (fun i => if R a i = true then 1 else 0))
theorem cntR_le (n : Nat) (R : Nat → Nat → Bool) : cntR n R ≤ n * n := sumN_le (fun a _ => by
  have := sumN_le (n := n) (f := fun i => if R a i = true then 1 else 0) (m := 1) (fun i _ => by by_cases h : R a i = true <;> simp [h])
  omega)
theorem cntR_drop {n : Nat} {R : Nat → Nat → Bool} {p i : Nat} (hp : p < n) (hi : i < n) (h : R p i = true) : cntR n (dropR R p i) + 1 = cntR n R := by
  unfold cntR
  refine sumN_upd hp (fun a ha => sumN_congr (fun j _ => ?_)) (sumN_upd hi (fun j hj => ?_) ?_)
  · unfold dropR; rw [if_neg ha]
  · unfold dropR dropF; rw [if_pos rfl]; simp [hj]
  · unfold dropR dropF; rw [if_pos rfl]; simp [h]
structure R4 (s : Lts) (n : Nat) (R : Nat → Nat → Bool) (K c p : Nat) : Prop where
  left : Left s n R
  cnt : c + cntR n R = K
  zero : c = 0 → ∀ a, a < p → ∀ i, R a i = true → doesB s R a i = true
structure R5 (s : Lts) (n : Nat) (R : Nat → Nat → Bool) (K c p : Nat) (L : List Nat) (m : Nat) : Prop where
  left : Left s n R
  cnt : c + cntR n R = K
  here : ∀ i, R p i = true → i ∈ L
  rest : ∀ j i, m ≤ j → L[j]? = some i → R p i = true
  nod : L.Nodup
  zero : c = 0 → (∀ a, a < p → ∀ i, R a i = true → doesB s R a i = true) ∧ ∀ j i, j < m → L[j]? = some i → doesB s R p i = true
theorem R4.open {s : Lts} {n : Nat} {R : Nat → Nat → Bool} {K c p : Nat} (h : R4 s n R K c p) (hp : p < n) (hn3 : n ≤ 300) : R5 s n R K c p (idsN (R p) 320) 0 :=
  ⟨h.left, h.cnt, fun i hi => by
    have := h.left.rng p i hp hi
    unfold idsN; rw [List.mem_filter, List.mem_range]; exact ⟨by omega, hi⟩,
   fun j i _ hj => by have := List.mem_of_getElem? hj; unfold idsN at this; exact (List.mem_filter.1 this).2,
   (List.nodup_range).sublist List.filter_sublist, fun e => ⟨h.zero e, fun j i hj => by omega⟩⟩
theorem R5.keep {s : Lts} {n : Nat} {R : Nat → Nat → Bool} {K c p : Nat} {L : List Nat} {m i : Nat} (h : R5 s n R K c p L m) (hi : L[m]? = some i) (hd : doesB s R p i = true) : R5 s n R K c p L (m + 1) :=
  ⟨h.left, h.cnt, h.here, fun j i hj => h.rest j i (by omega), h.nod, fun e => ⟨(h.zero e).1, fun j i' hj hi' => by
    by_cases e2 : j = m
    · subst e2; rw [hi] at hi'; cases hi'; exact hd
    · exact (h.zero e).2 j i' (by omega) hi'⟩⟩
theorem R5.drop {s : Lts} (hr : s.Right) {n : Nat} (hn : s.st = (n : Int)) {R : Nat → Nat → Bool} {K c p : Nat} {L : List Nat} {m i : Nat} (h : R5 s n R K c p L m) (hp : p < n) (hi : L[m]? = some i) (hd : doesB s R p i = false) : R5 s n (dropR R p i) K (c + 1) p L (m + 1) := by
  have hR := h.rest m i (Nat.le_refl _) hi
  have hin := h.left.rng p i hp hR
  refine ⟨⟨fun a j ha hj => h.left.rng a j ha (dropR_true.1 hj).1, fun S hS a j ha hj hSa => dropR_true.2 ⟨h.left.sim S hS a j ha hj hSa, ?_⟩⟩, ?_, fun j hj => h.here j (dropR_true.1 hj).1, fun j k hj hk => dropR_true.2 ⟨h.rest j k (by omega) hk, ?_⟩, h.nod, fun e => by omega⟩
  · rintro ⟨rfl, rfl⟩
    have := doesB_mono hr hn (h.left.sim S hS) (hS _ _ ha hj hSa)
    rw [hd] at this; cases this
  · have := cntR_drop hp hin hR
    have := h.cnt
    omega
  · rintro ⟨_, rfl⟩
    have h1 := (List.getElem?_eq_some_iff.1 hi).1
    have := (List.getElem?_inj h1 h.nod).1 (hi.trans hk.symm)
    omega
theorem R5.done {s : Lts} {n : Nat} {R : Nat → Nat → Bool} {K c p : Nat} {L : List Nat} (h : R5 s n R K c p L L.length) : R4 s n R K c (p + 1) :=
  ⟨h.left, h.cnt, fun e a ha i hi => by
    by_cases e2 : a = p
    · subst e2
      obtain ⟨j, hj⟩ := List.getElem?_of_mem (h.here i hi)
      exact (h.zero e).2 j i (List.getElem?_eq_some_iff.1 hj).1 hj
    · exact (h.zero e).1 a (by omega) i hi⟩
def fullR (n p q : Nat) : Nat → Nat → Bool := fun a i => decide (i < n ∧ (a < p ∨ (a = p ∧ i < q)))
theorem fullR_put {n p q : Nat} (hq : q < n) : putR (fullR n p q) p q = fullR n p (q + 1) := by
  funext a i
  unfold putR putF fullR
  rw [Bool.eq_iff_iff]
  by_cases h : a = p
  · subst h; simp; omega
  · simp [h]
theorem fullR_next (n p : Nat) : fullR n p n = fullR n (p + 1) 0 := by
  funext a i
  unfold fullR
  rw [Bool.eq_iff_iff]
  simp; omega
theorem left_full (s : Lts) (n : Nat) : Left s n (fullR n n 0) := ⟨fun a i _ h => by unfold fullR at h; simp at h; omega, fun S _ a i ha hi _ => by unfold fullR; simp; omega⟩
theorem RelR.set {w : World} {ob n : Nat} {R : Nat → Nat → Bool} (h : RelR w ob n R) {p i : Nat} (hp : p < n) (hi : i < 320) {F : Nat → Bool} (hF : ∀ j, j ≠ i / 64 → wj F j = wj (R p) j) :
    RelR (w.setCell ⟨ob, p * 5 + i / 64, none⟩ (.int .u64 (wj F (i / 64) : Nat))).drew ob n (fun a => if a = p then F else R a) := ⟨fun a ha j hj => by
  by_cases e : a = p
  · subst e
    rw [if_pos rfl]
    by_cases e2 : j = i / 64
    · subst e2; exact World.cell?_setCell_same _ _ _ (h.row a ha (i / 64) hj)
    · rw [hF j e2]
      exact (World.cell?_setCell_other _ _ _ _ (by intro h; simp at h <;> omega)).trans (h.row a ha j hj)
  · rw [if_neg e]
    exact (World.cell?_setCell_other _ _ _ _ (by intro h; simp at h <;> omega)).trans (h.row a ha j hj)⟩
end Go.Proofs.YtbaccmlfnbgehaaGreatDoor
namespace Go.Proofs.YtbaccmlfnbgehaaGreatDoor
open Go.RowKit Pl
open Lib (hid)
structure AW (w1 wr : World) (n : Nat) (R : Nat → Nat → Bool) : Prop where
  rel : RelR wr w1.heap.size n R
  blk : RowBlk wr w1.heap.size
  bel : Below w1.heap.size w1 wr
theorem RowBlk.lt {w : World} {b : Nat} (h : RowBlk w b) : b < w.heap.size := by obtain ⟨c, h⟩ := h; exact (Array.getElem?_eq_some_iff.1 h).1
theorem AW.call {w1 wr w' : World} {n : Nat} {R : Nat → Nat → Bool} (h : AW w1 wr n R) (hB : Below wr.heap.size wr w') : AW w1 w' n R :=
  ⟨h.rel.below hB, h.blk.of_block (hB.block _ h.blk.lt), h.bel.trans (hB.mono h.bel.size)⟩
theorem AW.put {w1 wr : World} {n : Nat} {R : Nat → Nat → Bool} (h : AW w1 wr n R) {p i : Nat} (hp : p < n) (hi : i < 320) : AW w1 (wr.setCell ⟨w1.heap.size, p * 5 + i / 64, none⟩ (.int .u64 (wj (putF (R p) i) (i / 64) : Nat))).drew n (putR R p i) :=
  ⟨h.rel.set hp hi (fun _ hj => wj_put_ne _ hj), h.blk.set _ _, (h.bel.setCell (Nat.le_refl _) _).drew⟩
theorem AW.drop {w1 wr : World} {n : Nat} {R : Nat → Nat → Bool} (h : AW w1 wr n R) {p i : Nat} (hp : p < n) (hi : i < 320) : AW w1 (wr.setCell ⟨w1.heap.size, p * 5 + i / 64, none⟩ (.int .u64 (wj (dropF (R p) i) (i / 64) : Nat))).drew n (dropR R p i) :=
  ⟨h.rel.set hp hi (fun _ hj => wj_drop_ne _ hj), h.blk.set _ _, (h.bel.setCell (Nat.le_refl _) _).drew⟩
theorem SlAt.oth {α : Type} {enc : α → List Value} {m : Nat} {w w' : World} {a : Option Addr} {b off : Nat} {xs : List α} (h : SlAt enc m w a b off xs) (hb : w'.heap[b]? = w.heap[b]?) (hs : w.heap.size ≤ w'.heap.size) : SlAt enc m w' a b off xs :=
  ⟨h.ad, fun hp => Nat.lt_of_lt_of_le (h.lt hp) hs, fun i x hx j u hu => by
    rw [World.cell?_of_block (w := w) (a := ⟨b, off + i * m + j, none⟩) hb]; exact h.cell i x hx j u hu⟩
theorem intsOf_at {L : List Nat} {m i : Nat} (h : L[m]? = some i) : (intsOf L)[m]? = some (i : Int) := by unfold intsOf; rw [List.getElem?_map, h]; rfl
theorem AW.congr {w1 wr : World} {n : Nat} {R R' : Nat → Nat → Bool} (h : AW w1 wr n R) (e : R = R') : AW w1 wr n R' := e ▸ h
def zRow : Value := .agg #[.int .u64 0, .int .u64 0, .int .u64 0, .int .u64 0, .int .u64 0]
theorem rowRow : IsRow Tryz.prog 75 80 5 40 zRow := isRow_of Tryz.underlying75 (by kernel_rfl) rfl (by decide)
theorem fullR_none (n : Nat) : fullR n 0 0 = fun _ _ => false := by
  funext a i
  unfold fullR
  simp
theorem aw_made {w2 w3 : World} {n : Nat} (hown : w3.ownsRow w2.heap.size 80 5 (.slice (some ⟨w2.heap.size, 0, none⟩) n n) n (madeCells zRow.cells (n * 5)).toList) (hg : w2.grownBy w3 none) : AW w2 w3 n (fullR n 0 0) := by
  have hB : Below w2.heap.size w2 w3 := (Below.refl _ _).grown hg (Nat.le_refl _) (fun k e => by cases e)
  rcases hown.2 with ⟨h, _⟩ | ⟨g, cap, cur, hv, _, hgg, _, _, hcs, htk⟩
  · cases h
  · injection hv with h1 h2 h3
    injection h1 with h1
    injection h1 with h1
    subst h1
    refine ⟨⟨fun p hp j hj => ?_⟩, ⟨cur, hgg⟩, hB⟩
    rw [fullR_none, wj_none]
    have hk : p * 5 + j < n * 5 := by omega
    have h5 : cur.toList[p * 5 + j]? = (madeCells zRow.cells (n * 5)).toList[p * 5 + j]? := by
      rw [← htk, List.getElem?_take, if_pos hk]
    have h6 : (madeCells zRow.cells (n * 5))[p * 5 + j]? = some (.int .u64 0) := by
      have hz : ∀ m, m < 5 → zRow.cells[m]! = .int .u64 0 := fun m hm => by
        have : m = 0 ∨ m = 1 ∨ m = 2 ∨ m = 3 ∨ m = 4 := by omega
        rcases this with rfl | rfl | rfl | rfl | rfl <;> rfl
      have hsz : zRow.cells.size = 5 := rfl
      unfold madeCells
      rw [Array.getElem?_map, Array.getElem?_range, if_pos hk]
      simp only [Option.map_some, hsz]
      rw [hz _ (Nat.mod_lt _ (by decide))]
    have h7 : cur[p * 5 + j]? = some (.int .u64 0) := by
      rw [← Array.getElem?_toList, h5, Array.getElem?_toList]; exact h6
    simp [World.cell?, hgg, h7]
set_option maxRecDepth 100000 in
set_option maxHeartbeats 4000000 in
theorem above_any {p : Addr} {n : Nat} {lb s0 : Int} {es : List E} (h : Lts.Right ⟨n, lb, s0, es⟩) (hn3 : n ≤ 300) {a : Option Addr} {b off c : Nat} {w : World} (hG : GErr 15 p w) (hT : Tab w) (hS : SlAt encE 3 w a b off es) :
    Calls Tryz.prog 35 #[.agg #[.int .i64 n, .int .i64 lb, .int .i64 s0, .slice a es.length c]] w fun e w' =>
      ∃ ob R, e = .returned (.tuple #[.slice (some ⟨ob, 0, none⟩) n n, .nilIface]) ∧ RelR w' ob n R ∧ RowBlk w' ob ∧ w.heap.size ≤ ob ∧ Great ⟨n, lb, s0, nf ltE es⟩ n R ∧ Below w.heap.size w w' := by
  have hB0 := (Below.refl w.heap.size w).alloc (Nat.le_refl _) (Obj.cells #[.int .i64 n, .int .i64 lb, .int .i64 s0, .slice a es.length c] 24)
  have hbx := heap_alloc_new w (Obj.cells #[.int .i64 n, .int .i64 lb, .int .i64 s0, .slice a es.length c] 24)
  have hN := new_ok (s := ⟨n, lb, s0, es⟩) (c := c) h (hG.below hB0) (hS.below hB0 (Nat.le_refl _))
  simp only [Lts.norm] at hN
  have hT0 := hT.below hB0
  have hR := h.norm
  have hR : Lts.Right ⟨n, lb, s0, nf ltE es⟩ := hR
  obtain ⟨s, hs⟩ : ∃ s : Lts, s = ⟨n, lb, s0, nf ltE es⟩ := ⟨_, rfl⟩
  have hst : s.st = (n : Int) := by rw [hs]
  rw [← hs] at hN hR ⊢
  have HRS := hid hR
  have HN := hid hN; have HB0 := hid hB0; have HBX := hid hbx; have HT := hid hT0; have HST := hid hst
  clear hN hB0 hbx hT hT0 hS hG h hs hst hR
  have hnI : decide ((300 : Int) < (n : Int)) = false := by simp; omega
  obtain ⟨ti, hti, htz, htsz, htb⟩ := rowRow.info
  go_enter Tryz.func35, Tryz.ntmps35
  go_wp2_with fail
  go_step3
  go_wp2_with fail
  refine HN.out.mono ?_
  rintro e w1 ⟨gb, rfl, hGr, hB1, _⟩
  have HB1 := hid (HB0.out.trans (hB1.mono (by simp)))
  have hx1 := (hB1.block w.heap.size (by simp)).trans HBX.out
  have HT1 := hid (HT.out.below hB1)
  have HGR := hid hGr; have HX1 := hid hx1
  have x0 : w1.cell? ⟨w.heap.size, 0, none⟩ = some (.int .i64 n) := by simp [World.cell?, hx1]
  have xl := (Array.getElem?_eq_some_iff.1 hx1).1
  clear hB1 hGr hx1 HBX HN HB0 HT
  go_wp2_with fail
  refine (newTable_any HGR.out (by rw [HST.out]; omega)).mono ?_
  rintro e w2 ⟨rfl, hTO, hB2⟩
  have hx2 := (hB2.block w.heap.size xl).trans HX1.out
  have y0 : w2.cell? ⟨w.heap.size, 0, none⟩ = some (.int .i64 n) := by simp [World.cell?, hx2]
  have yl := (Array.getElem?_eq_some_iff.1 hx2).1
  have HB2 := hid (HB1.out.trans (hB2.mono HB1.out.size))
  have HTO := hid hTO; have HG2 := hid (HGR.out.below hB2); have HT2 := hid (HT1.out.below hB2)
  clear hTO hB2 hx2 x0 xl HX1 HB1 HT1 HGR
  go_wp2_with (at_make; refine wpList_make_full _ rfl _ _ 75 rfl w2.heap.size 80 ti zRow 5 Tryz.underlying75 hti htz htsz .i64 .i64 (n : Int) (n : Int) n rfl rfl rfl rfl (by rw [htb]; omega) (by unfold maxLen; omega) (Nat.le_refl _) ?_; intro w3 hown3 hg3)
  have hAW0 := aw_made hown3 hg3
  have HA0 := hid hAW0
  clear hown3 hg3 hAW0 hti htz htsz htb y0 yl
  go_loopw [8, 9, 37] (fun _ _ v37 wr => ∃ k : Nat, v37 = .int .i64 k ∧ k ≤ n ∧ AW w2 wr n (fullR n k 0)) (fun _ _ v37 _ => n - (intOf v37).toNat)
  case atStart => exact ⟨0, rfl, Nat.zero_le _, HA0.out⟩
  case round =>
    obtain ⟨k, rfl, hk, haw⟩ := hrel
    have HAK := hid haw
    clear haw HA0
    by_cases hlt : k < n
    · have hkI : (k : Int) < (n : Int) := by omega
      go_wp2_with fail
      go_loopw [9, 42] (fun _ v42 wr => ∃ j : Nat, v42 = .int .i64 j ∧ j ≤ n ∧ AW w2 wr n (fullR n k j)) (fun _ v42 _ => n - (intOf v42).toNat)
      case atStart => exact ⟨0, rfl, Nat.zero_le _, HAK.out⟩
      case round =>
        obtain ⟨j, rfl, hj, haw⟩ := hrel
        have HAJ := hid haw
        have hobl := haw.blk.lt
        clear haw HAK
        by_cases hjl : j < n
        · have hjI : (j : Int) < (n : Int) := by omega
          have HP := hid (put_any (HAJ.out.rel.row k hlt) (fun j => HAJ.out.blk.thawed _) (show j < 320 by omega))
          go_wp2_with fail
          refine HP.out.mono ?_
          rintro e w4 ⟨rfl, hw4⟩
          have ha4 := (HAJ.out.put hlt (show j < 320 by omega)).congr (fullR_put hjl)
          rw [← hw4] at ha4
          have HA4 := hid ha4
          clear ha4 hw4 HP HAJ hobl
          go_wp2_with fail
          go_roundw
          case rel => exact ⟨j + 1, by go_num, by omega, HA4.out⟩
          case measure => simp [intOf]; omega
        · obtain rfl : j = n := by omega
          have HAJ2 := hid (HAJ.out.congr (fullR_next j k))
          clear HAJ
          go_wp2_with fail
          go_roundw
          case rel => exact ⟨k + 1, by go_num, by omega, HAJ2.out⟩
          case measure => simp [intOf]; omega
    · obtain rfl : n = k := by omega
      have hn2 : n * n ≤ 90000 := Nat.mul_le_mul hn3 hn3
      clear hnI
      go_wp2_with fail
      go_step3
      go_wp2_with fail
      go_loopg [10, 11, 13] (cntR n (fullR n n 0)) (fun g _ _ _ wr => ∃ R, g = cntR n R ∧ AW w2 wr n R ∧ Left s n R)
      case atStart => exact ⟨_, rfl, HAK.out, left_full s n⟩
      case round =>
        obtain ⟨R0, hgk, haw, hleft⟩ := hrel
        have HA0 := hid haw; have HLF := hid hleft; have HGK := hid hgk
        have hob := haw.blk.lt
        clear haw hleft hgk HAK
        obtain ⟨K, hK⟩ : ∃ K, K = cntR n R0 := ⟨_, rfl⟩
        have hK9 : K ≤ 90000 := by rw [hK]; exact Nat.le_trans (cntR_le n R0) hn2
        have HK := hid hK
        clear hK
        go_wp2_with fail
        go_loopw [10, 11, 13, 54] (fun v10 _ _ v54 wr => ∃ (q c : Nat) (R : Nat → Nat → Bool), v54 = .int .i64 q ∧ v10 = .int .i64 c ∧ q ≤ n ∧ AW w2 wr n R ∧ R4 s n R K c q) (fun _ _ _ v54 _ => n - (intOf v54).toNat)
        case atStart => exact ⟨0, 0, R0, rfl, rfl, Nat.zero_le _, HA0.out, ⟨HLF.out, by rw [HK.out]; omega, fun _ a ha => by omega⟩⟩
        case round =>
          obtain ⟨q, c, R, rfl, rfl, hq, haw, h4⟩ := hrel
          have HA := hid haw; have H4 := hid h4
          have hob := haw.blk.lt
          have hcK : c ≤ K := by have := h4.cnt; omega
          clear haw h4 HA0 HLF
          by_cases hqn : q < n
          · have hqI : (q : Int) < (n : Int) := by omega
            have HID := hid (ids_any (HA.out.rel.row q hqn) (HT2.out.below HA.out.bel))
            obtain ⟨L, hL⟩ : ∃ L, L = idsN (R q) 320 := ⟨_, rfl⟩
            have H5 := hid (H4.out.open hqn hn3)
            have hLl : L.length ≤ 320 := by rw [hL]; exact idsN_le _ _
            rw [← hL] at H5
            clear H4
            go_wp2_with fail
            refine HID.out.mono ?_
            unfold IdsPost
            rw [← hL]
            rintro e wa ⟨v, rfl, hown, hBa⟩
            obtain ⟨ia, ic, ib, rfl, _, _, hsl, hib⟩ := slAt_own lenI hown
            rw [intsOf_len] at hib ⊢
            have HSL := hid hsl; have HA5 := hid (HA.out.call hBa)
            have HIB : Hid (0 < L.length → ib ≠ w2.heap.size) := hid (fun h => by have := hib h; omega)
            clear hown hBa hsl hib hL HID HA
            go_wp2_with fail
            go_loopw [10, 13, 62] (fun v10 _ v62 wr => ∃ (m c : Nat) (R : Nat → Nat → Bool), v62 = .int .i64 m ∧ v10 = .int .i64 c ∧ m ≤ L.length ∧ AW w2 wr n R ∧ R5 s n R K c q L m ∧ SlAt encI 1 wr ia ib 0 (intsOf L)) (fun _ _ v62 _ => L.length - (intOf v62).toNat)
            case atStart => exact ⟨0, c, R, rfl, rfl, Nat.zero_le _, HA5.out, H5.out, HSL.out⟩
            case round =>
              obtain ⟨m, c, R, rfl, rfl, hm, haw, h5, hsl⟩ := hrel
              have HA := hid haw; have H5 := hid h5; have HSL := hid hsl
              have hob := haw.blk.lt
              have hcK : c ≤ K := by have := h5.cnt; omega
              clear haw h5 hsl HA5
              by_cases hmL : m < L.length
              · obtain ⟨i, hi⟩ := getElem?_of_lt hmL
                have hsl := HSL.out
                have hil : 0 < (intsOf L).length := by rw [intsOf_len]; omega
                obtain rfl := hsl.ad hil
                have c0 := hsl.ci (intsOf_at hi)
                have cl := hsl.lt hil
                simp only [Nat.zero_add] at c0
                have hin : i < n := H5.out.left.rng q i hqn (H5.out.rest m i (Nat.le_refl _) hi)
                have hmI : (m : Int) < (L.length : Int) := by omega
                have hne : ib ≠ w2.heap.size := HIB.out (by omega)
                have HI := hid hi
                have HD := hid (does_any HG2.out HA.out.bel (HTO.out.below HA.out.bel) HST.out hn3 HA.out.rel q hin)
                clear hsl hil hi
                go_wp2_with fail
                refine HD.out.mono ?_
                rintro e w5 ⟨rfl, hB5⟩
                have hsl5 := HSL.out.below hB5 (Nat.le_refl _)
                have ha5 := HA.out.call hB5
                have hob5 := ha5.blk.lt
                have HS5 := hid hsl5; have HA5 := hid ha5
                clear hsl5 ha5 hB5 HD HSL HA c0 cl
                obtain ⟨d, hd⟩ : ∃ d, d = doesB s R q i := ⟨_, rfl⟩
                rw [← hd]
                have HDD := hid hd
                clear hd
                cases d
                · have HDR := hid (drop_any (HA5.out.rel.row q hqn) (fun j => HA5.out.blk.thawed _) (show i < 320 by omega))
                  go_wp2_with fail
                  refine HDR.out.mono ?_
                  rintro e w6 ⟨rfl, hw6⟩
                  have ha6 := HA5.out.drop hqn (show i < 320 by omega)
                  have hsl6 : SlAt encI 1 w6 (some ⟨ib, 0, none⟩) ib 0 (intsOf L) := HS5.out.oth (by rw [hw6]; exact Below.heap_setCell _ _ _ _ hne) (by rw [hw6]; show _ ≤ (World.setCell _ _ _).heap.size; rw [size_setCell]; exact Nat.le_refl _)
                  rw [← hw6] at ha6
                  have h6 := H5.out.drop HRS.out HST.out hqn HI.out HDD.out.symm
                  have HA6 := hid ha6; have HS6 := hid hsl6; have H6 := hid h6
                  clear ha6 hsl6 hw6 h6 HDR HA5 HS5 H5
                  go_wp2_with fail
                  go_roundw
                  case rel => exact ⟨m + 1, c + 1, dropR R q i, by go_num, by go_num, by omega, HA6.out, H6.out, HS6.out⟩
                  case measure => simp [intOf]; omega
                · have H6 := hid (H5.out.keep HI.out HDD.out.symm)
                  clear H5
                  go_wp2_with fail
                  go_roundw
                  case rel => exact ⟨m + 1, c, R, by go_num, rfl, by omega, HA5.out, H6.out, HS5.out⟩
                  case measure => simp [intOf]; omega
              · obtain rfl : m = L.length := by omega
                have H6 := hid H5.out.done
                clear H5
                go_wp2_with fail
                go_roundw
                case rel => exact ⟨q + 1, c, R, by go_num, rfl, by omega, HA.out, H6.out⟩
                case measure => simp [intOf]; omega
          · obtain rfl : n = q := by omega
            by_cases hc : c = 0
            · subst hc
              have HGT : Hid (Great s n R) := hid ⟨H4.out.left, fun a i ha => H4.out.zero rfl a ha i⟩
              clear H4
              go_wp2_with fail
              try rw [Exit.noGoto_ret]
              go_ret2
              exact ⟨_, R, rfl, HA.out.rel, HA.out.blk, HB2.out.size, HGT.out, HB2.out.trans (HA.out.bel.mono HB2.out.size)⟩
            · have hcb : ((c : Int) == 0) = false := by simp; omega
              have hmeas : cntR n R < gk := by have := H4.out.cnt; rw [HGK.out, ← HK.out]; omega
              go_wp2_with fail
              go_roundg (cntR n R)
              case rel => exact ⟨R, rfl, HA.out, H4.out.left⟩
              case measure => exact hmeas
end Go.Proofs.YtbaccmlfnbgehaaGreatDoor

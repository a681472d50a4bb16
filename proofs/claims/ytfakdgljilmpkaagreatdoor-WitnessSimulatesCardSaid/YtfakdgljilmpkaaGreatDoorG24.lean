/-
  simul: table.does: whether a state can take every step of another, as the rows say.
  simul, plain: relations, simulations; how pairs are dropped, round by round.
-/
import Derived.Test.YtfakdgljilmpkaaGreatDoorSimD
namespace Go.Proofs.YtfakdgljilmpkaaGreatDoor
open Go.RowKit Pl

attribute [local go_sem ↓] Go.wp_at_zero Go.wp_at_succ

/-- Rows of bits, one of each state, in one block. -/
structure RelR (w : World) (ob n : Nat) (R : Nat → Nat → Bool) : Prop where
  row : ∀ p, p < n → RowAt w ob (p * 5) (R p)
theorem RelR.below {w w' : World} {ob n : Nat} {R : Nat → Nat → Bool} (h : RelR w ob n R) (hB : Below w.heap.size w w') : RelR w' ob n R := ⟨fun p hp => (h.row p hp).below hB⟩

def stepD (s : Lts) (R : Nat → Nat → Bool) (q : Nat) (x : S) : Bool := (s.outs (q : Int)).any (fun y => decide (y.1 = x.1) && R x.2.toNat y.2.toNat)
def doesB (s : Lts) (R : Nat → Nat → Bool) (p q : Nat) : Bool := (s.outs (p : Int)).all (stepD s R q)

theorem stepD_iff {s : Lts} (hr : s.Right) {n : Nat} (hn : s.st = (n : Int)) (hn3 : n ≤ 300) (R : Nat → Nat → Bool) (q : Nat) (l : Int) (t : Nat) : stepD s R q (l, (t : Int)) = true ↔ ∃ i, i < 320 ∧ rowL (s.outs (q : Int)) l i = true ∧ R t i = true := by
  unfold stepD rowL
  simp only [List.any_eq_true, Bool.and_eq_true, decide_eq_true_eq, Int.toNat_natCast]
  constructor
  · rintro ⟨y, hy, h1, h2⟩
    have hyr := offB_false.1 (hr.edges _ (mem_outs.1 hy))
    obtain ⟨y1, y2⟩ := y
    simp only at hyr h1 h2
    obtain ⟨i, rfl⟩ := Int.eq_ofNat_of_zero_le hyr.2.2.2.2.1
    subst h1
    exact ⟨i, by omega, hy, h2⟩
  · rintro ⟨i, _, h1, h2⟩
    exact ⟨(l, (i : Int)), h1, rfl, h2⟩

set_option maxRecDepth 100000 in
set_option maxHeartbeats 4000000 in
theorem does_any {w0 w : World} {gb tb base ob n : Nat} {s : Lts} {R : Nat → Nat → Bool} (h : GraphAt w0 gb s) (hB : Below w0.heap.size w0 w) (hT : TabOf w gb tb s base) (hn : s.st = (n : Int)) (hn3 : n ≤ 300) (hR : RelR w ob n R) (p : Nat) {q : Nat} (hq : q < n) :
    Calls Tryz.prog 113 #[.pointer (some ⟨tb, 0, none⟩), .int .i64 p, .int .i64 q, .slice (some ⟨ob, 0, none⟩) n n] w fun e w' => e = .returned (.bool (doesB s R p q)) ∧ Below w.heap.size w w' := by
  obtain ⟨ms, da, db, dc, hblk, hms, hml, hmaps⟩ := hT.ex
  obtain ⟨mb, hmq, hLM⟩ := hmaps q (by omega)
  obtain ⟨f, nm, hm, h1, h2, h3⟩ := hLM.ex
  have hml' : ms.length = n := by omega
  obtain rfl := hms.ad (by omega)
  rw [hml'] at hblk
  have t0 : w.cell? ⟨tb, 0, none⟩ = some (.pointer (some ⟨gb, 0, none⟩)) := by simp [World.cell?, hblk]
  have t1 : w.cell? ⟨tb, 1, none⟩ = some (.slice (some ⟨db, 0, none⟩) n dc) := by simp [World.cell?, hblk]
  have tl := (Array.getElem?_eq_some_iff.1 hblk).1
  have c5 := hms.cv hmq
  have l5 := hms.lt (by omega)
  simp only [Nat.zero_add] at c5
  have hlook : ∀ w' : World, w'.heap[mb]? = w.heap[mb]? → ∀ l, okI l → (Instr.lookup 226 (.map (some mb)) (.int .i64 l) false).run Tryz.prog w' = .ok (((f l).map encP).getD (.pointer none)) w' := fun w' hb l hl =>
    (hm.of_block (w' := w') hb).look encInt Tryz.underlying226 (zeroPtr w') (x := l) hl false
  have hmlt := hm.lt
  have hrow : ∀ l b, f l = some b → RowAt w b 0 (rowL (s.outs (q : Int)) l) := fun l b e => (h1 l b e).2.2.1
  have hqI : (q : Int) < (n : Int) := by omega
  have HEA := Lib.hid (each_any h hB (p : Int))
  have HH := Lib.hid h; have HB := Lib.hid hB; have HR := Lib.hid hR; have HL := Lib.hid hlook; have HROW := Lib.hid hrow; have HNO := Lib.hid h2; have HT0 := Lib.hid t0; have HT1 := Lib.hid t1; have HC5 := Lib.hid c5; have HN := Lib.hid hn
  clear h hB hT hR hblk hms hml hmaps hmq hLM hm h1 h2 h3 hlook hrow t1 c5
  go_enter Tryz.func113, Tryz.ntmps113
  go_wp2_with fail
  refine (HEA.out).mono ?_
  rintro e wb ⟨⟨a2, c2, b2, off2, rfl, hc2, hm2, hss⟩, hBb⟩
  have HSS := Lib.hid hss
  have hsl : (s.outs (p : Int)).length ≤ 10000 := outs_len HH.out.right _
  have HBb := Lib.hid hBb
  clear hss hBb hc2 hm2 HEA t0
  go_wp2_with fail
  go_loopw [10, 11, 19] (fun _ _ v19 wr => ∃ k : Nat, v19 = .int .i64 k ∧ k ≤ (s.outs (p : Int)).length ∧ (∀ x ∈ (s.outs (p : Int)).take k, stepD s R q x = true) ∧ Below w.heap.size w wr)
    (fun _ _ v19 _ => (s.outs (p : Int)).length - (intOf v19).toNat)
  case atStart => exact ⟨0, rfl, Nat.zero_le _, by simp, HBb.out⟩
  case round =>
    obtain ⟨k, rfl, hk, hall, hbr⟩ := hrel
    have HALL := Lib.hid hall; have HBR := Lib.hid hbr
    have hsz := hbr.size
    clear hall hbr HBb
    by_cases hlt : k < (s.outs (p : Int)).length
    · obtain ⟨y, hy⟩ := getElem?_of_lt hlt
      have hss := HSS.out.below (HB.out.trans (HBR.out.mono HB.out.size)) (Nat.le_refl _)
      obtain rfl := hss.ad (by omega)
      have d0 := hss.s0 hy; have d1 := hss.s1 hy
      have dl := hss.lt (by omega)
      have hyr := offB_false.1 (HH.out.right.edges _ (mem_outs.1 (List.mem_of_getElem? hy)))
      have hlb := HH.out.right.st0
      have hst := HN.out
      obtain ⟨y1, y2⟩ := y
      simp only at hyr d0 d1
      obtain ⟨t, rfl⟩ := Int.eq_ofNat_of_zero_le hyr.2.2.2.2.1
      have htn : t < n := by omega
      have htI : (t : Int) < (n : Int) := by omega
      have hok : okI y1 := WalkArith.wf_i64 (by omega)
      have hkI : (k : Int) < ((s.outs (p : Int)).length : Int) := by omega
      have HY := Lib.hid hy; have HOK := Lib.hid hok
      clear hy hss hyr hlb hst hok
      go_upto_region 4 with fail
      obtain ⟨W, hW⟩ : ∃ W, W = wr.alloc (.cells #[.int .i64 y1, .int .i64 t] 101) := ⟨_, rfl⟩
      have hBW : Below w.heap.size w W := by rw [hW]; exact HBR.out.alloc hsz _
      have hws : wr.heap.size < W.heap.size := by rw [hW]; simp
      have hwz : W.heap.size = wr.heap.size + 1 := by rw [hW]; simp
      have s0 : W.cell? ⟨wr.heap.size, 0, none⟩ = some (.int .i64 y1) := by rw [hW]; simp
      have s1 : W.cell? ⟨wr.heap.size, 1, none⟩ = some (.int .i64 t) := by rw [hW]; simp
      rw [← hW]
      obtain ⟨v, hv⟩ : ∃ v, v = ((f y1).map encP).getD (.pointer none) := ⟨_, rfl⟩
      have hkeep : ∀ w', Below W.heap.size W w' → (w'.cell? ⟨tb, 1, none⟩ = some (.slice (some ⟨db, 0, none⟩) n dc) ∧ w'.cell? ⟨db, q, none⟩ = some (.map (some mb)) ∧ w'.cell? ⟨wr.heap.size, 0, none⟩ = some (.int .i64 y1) ∧ w'.cell? ⟨wr.heap.size, 1, none⟩ = some (.int .i64 t) ∧ (Instr.lookup 226 (.map (some mb)) (.int .i64 y1) false).run Tryz.prog w' = .ok v w') := fun w' h => by
        have h' := hBW.trans (h.mono hBW.size)
        exact ⟨by rw [h'.cell (p := ⟨tb, 1, none⟩) tl]; exact HT1.out, by rw [h'.cell (p := ⟨db, q, none⟩) l5]; exact HC5.out, by rw [h.cell (p := ⟨wr.heap.size, 0, none⟩) hws]; exact s0, by rw [h.cell (p := ⟨wr.heap.size, 1, none⟩) hws]; exact s1, by rw [hv]; exact HL.out _ (h'.block _ hmlt) y1 HOK.out⟩
      have HK := Lib.hid hkeep; have HBW := Lib.hid hBW; have HV := Lib.hid hv
      clear hkeep hBW hW s0 s1 hv d0 d1 HBR
      go_region_held3 (fun w' => w'.cell? ⟨tb, 1, none⟩ = some (.slice (some ⟨db, 0, none⟩) n dc) ∧ w'.cell? ⟨db, q, none⟩ = some (.map (some mb)) ∧ w'.cell? ⟨wr.heap.size, 0, none⟩ = some (.int .i64 y1) ∧ w'.cell? ⟨wr.heap.size, 1, none⟩ = some (.int .i64 t) ∧ (Instr.lookup 226 (.map (some mb)) (.int .i64 y1) false).run Tryz.prog w' = .ok v w')
        (first | exact HK.out _ (Below.refl _ _).drew | exact HK.out _ ((Below.refl _ _).drew.alloc (by simp) _))
        (fail)
      have HBD := Lib.hid HBW.out.drew
      have q1 : W.drew.cell? ⟨wr.heap.size, 1, none⟩ = some (.int .i64 t) := (HK.out _ (Below.refl _ _).drew).2.2.2.1
      have zW : W.drew.heap.size = wr.heap.size + 1 := hwz
      have hSI := stepD_iff HH.out.right HN.out hn3 R q y1 t
      have HSI := Lib.hid hSI
      have hv := HV.out
      clear HK HBW HV hSI HT1 HC5
      have hbad : stepD s R q (y1, (t : Int)) = false → doesB s R p q = false := fun h => by
        unfold doesB
        rw [List.all_eq_false]
        exact ⟨_, List.mem_of_getElem? HY.out, by simp [h]⟩
      have HBAD := Lib.hid hbad
      clear hbad
      rcases hfy : f y1 with _ | b
      · rw [hfy] at hv
        replace hv : v = .pointer none := hv
        subst hv
        have hb2 : doesB s R p q = false := HBAD.out (by
          rw [Bool.eq_false_iff]; intro hh
          obtain ⟨i, _, h1, _⟩ := HSI.out.1 hh
          unfold rowL at h1
          exact HNO.out y1 hfy _ (by simpa using h1))
        have HB2 := Lib.hid hb2
        clear hb2 HBAD HSI HNO hfy
        go_wp2_with fail
        go_ret
        exact ⟨by rw [HB2.out]; rfl, (by first | exact HBD.out | exact HBD.out.drew)⟩
      · rw [hfy] at hv
        replace hv : v = .pointer (some ⟨b, 0, none⟩) := hv
        subst hv
        have hm := rowMeets_any ((HROW.out y1 b hfy).below HBD.out) ((HR.out.row t htn).below HBD.out)
        have HM := Lib.hid hm
        clear hm hfy HROW HNO
        go_wp2_with fail
        refine HM.out.mono ?_
        rintro e w5 ⟨m, rfl, hiff, u, rfl⟩
        have hbe : Below w.heap.size w (W.drew.drewN u) := ⟨HBD.out.os, HBD.out.tape, HBD.out.output, HBD.out.size, HBD.out.block⟩
        have HBE := Lib.hid hbe
        have hms : m = stepD s R q (y1, (t : Int)) := by rw [Bool.eq_iff_iff, hiff, HSI.out]
        have HMS := Lib.hid hms
        clear hbe hms hiff HM HBD HSI
        cases m
        · have hb2 := HBAD.out HMS.out.symm
          have HB2 := Lib.hid hb2
          clear hb2 HBAD HMS
          go_wp2_with fail
          go_ret
          exact ⟨by rw [HB2.out]; rfl, ⟨HBE.out.os, HBE.out.tape, HBE.out.output, HBE.out.size, HBE.out.block⟩⟩
        · have hnx : ∀ x ∈ (s.outs (p : Int)).take (k + 1), stepD s R q x = true := fun x hx => by
            rw [take_snoc HY.out] at hx
            rcases List.mem_append.1 hx with h | h
            · exact HALL.out x h
            · simp at h; subst h; exact HMS.out.symm
          have HNX := Lib.hid hnx
          clear hnx HBAD HMS HALL
          go_wp2_with fail
          go_roundw
          case rel => exact ⟨k + 1, by go_num, by omega, HNX.out, ⟨HBE.out.os, HBE.out.tape, HBE.out.output, HBE.out.size, HBE.out.block⟩⟩
          case measure => simp [intOf]; omega
    · have hke : k = (s.outs (p : Int)).length := by omega
      have hall : doesB s R p q = true := by
        unfold doesB
        rw [List.all_eq_true]
        have := HALL.out
        rw [hke, List.take_length] at this; exact this
      have HALL2 := Lib.hid hall
      clear hall HALL
      go_wp2_with fail
      go_ret
      exact ⟨by rw [HALL2.out]; rfl, HBR.out⟩
end Go.Proofs.YtfakdgljilmpkaaGreatDoor

namespace Go.Proofs.YtfakdgljilmpkaaGreatDoor
open Go.RowKit Pl

/-- A simulation among the first n states: whoever stands above does what the other does. -/
def IsSim (s : Lts) (n : Nat) (S : Nat → Nat → Bool) : Prop := ∀ p q, p < n → q < n → S p q = true → doesB s S p q = true

theorem doesB_mono {s : Lts} (hr : s.Right) {n : Nat} (hn : s.st = (n : Int)) {S R : Nat → Nat → Bool} (h : ∀ p q, p < n → q < n → S p q = true → R p q = true) {p q : Nat} (hd : doesB s S p q = true) : doesB s R p q = true := by
  unfold doesB stepD at *
  rw [List.all_eq_true] at *
  intro x hx
  have h1 := hd x hx
  rw [List.any_eq_true] at *
  obtain ⟨y, hy, h2⟩ := h1
  refine ⟨y, hy, ?_⟩
  rw [Bool.and_eq_true] at *
  have hx2 := offB_false.1 (hr.edges _ (mem_outs.1 hx))
  have hy2 := offB_false.1 (hr.edges _ (mem_outs.1 hy))
  simp only at hx2 hy2
  exact ⟨h2.1, h _ _ (by omega) (by omega) h2.2⟩

/-- What stays true of the pairs that are left. -/
structure Left (s : Lts) (n : Nat) (R : Nat → Nat → Bool) : Prop where
  rng : ∀ a i, a < n → R a i = true → i < n
  sim : ∀ S, IsSim s n S → ∀ a i, a < n → i < n → S a i = true → R a i = true
/-- The greatest simulation. -/
structure Great (s : Lts) (n : Nat) (R : Nat → Nat → Bool) : Prop where
  left : Left s n R
  does : ∀ a i, a < n → R a i = true → doesB s R a i = true

def dropR (R : Nat → Nat → Bool) (p i : Nat) : Nat → Nat → Bool := fun a => if a = p then dropF (R p) i else R a
def putR (R : Nat → Nat → Bool) (p i : Nat) : Nat → Nat → Bool := fun a => if a = p then putF (R p) i else R a
theorem dropR_true {R : Nat → Nat → Bool} {p i a j : Nat} : dropR R p i a j = true ↔ R a j = true ∧ ¬ (a = p ∧ j = i) := by
  unfold dropR dropF
  by_cases h : a = p
  · subst h; simp
  · simp [h]

/-! counting the pairs that are left -/
def sumN (n : Nat) (f : Nat → Nat) : Nat := ((List.range n).map f).sum
theorem sumN_succ (n : Nat) (f : Nat → Nat) : sumN (n + 1) f = sumN n f + f n := by unfold sumN; rw [List.range_succ]; simp
theorem sumN_congr {f g : Nat → Nat} : ∀ {n : Nat}, (∀ a, a < n → f a = g a) → sumN n f = sumN n g
  | 0, _ => rfl
  | n + 1, h => by rw [sumN_succ, sumN_succ, sumN_congr (fun a ha => h a (by omega)), h n (by omega)]
theorem sumN_upd {f g : Nat → Nat} {p : Nat} : ∀ {n : Nat}, p < n → (∀ a, a ≠ p → f a = g a) → f p + 1 = g p → sumN n f + 1 = sumN n g
  | 0, h, _, _ => by omega
  | n + 1, hp, h, hpp => by
    rw [sumN_succ, sumN_succ]
    by_cases e : p = n
    · subst e
      rw [sumN_congr (fun a ha => h a (by omega))]; omega
    · have := sumN_upd (n := n) (by omega) h hpp
      rw [h n (by omega)]; omega
theorem sumN_le {f : Nat → Nat} {m : Nat} : ∀ {n : Nat}, (∀ a, a < n → f a ≤ m) → sumN n f ≤ n * m
  | 0, _ => by simp [sumN]
  | n + 1, h => by
    rw [sumN_succ, Nat.succ_mul]
    have := sumN_le (n := n) (fun a ha => h a (by omega))
    have := h n (by omega)
    omega
def cntR (n : Nat) (R : Nat → Nat → Bool) : Nat := sumN n (fun a => sumN n (fun i => if R a i = true then 1 else 0))
theorem cntR_le (n : Nat) (R : Nat → Nat → Bool) : cntR n R ≤ n * n := sumN_le (fun a _ => by
  have := sumN_le (n := n) (f := fun i => if R a i = true then 1 else 0) (m := 1) (fun i _ => by by_cases h : R a i = true <;> simp [h])
  omega)
theorem cntR_drop {n : Nat} {R : Nat → Nat → Bool} {p i : Nat} (hp : p < n) (hi : i < n) (h : R p i = true) : cntR n (dropR R p i) + 1 = cntR n R := by
  unfold cntR
  refine sumN_upd hp (fun a ha => sumN_congr (fun j _ => ?_)) (sumN_upd hi (fun j hj => ?_) ?_)
  · unfold dropR; rw [if_neg ha]
  · unfold dropR dropF; rw [if_pos rfl]; simp [hj]
  · unfold dropR dropF; rw [if_pos rfl]; simp [h]

/-- Within a round: the rows before p are done, c pairs dropped. -/
structure R4 (s : Lts) (n : Nat) (R : Nat → Nat → Bool) (K c p : Nat) : Prop where
  left : Left s n R
  cnt : c + cntR n R = K
  zero : c = 0 → ∀ a, a < p → ∀ i, R a i = true → doesB s R a i = true
/-- .. of row p, whose states were L, the first m done. -/
structure R5 (s : Lts) (n : Nat) (R : Nat → Nat → Bool) (K c p : Nat) (L : List Nat) (m : Nat) : Prop where
  left : Left s n R
  cnt : c + cntR n R = K
  here : ∀ i, R p i = true → i ∈ L
  rest : ∀ j i, m ≤ j → L[j]? = some i → R p i = true
  nod : L.Nodup
  zero : c = 0 → (∀ a, a < p → ∀ i, R a i = true → doesB s R a i = true) ∧ ∀ j i, j < m → L[j]? = some i → doesB s R p i = true

theorem R4.open {s : Lts} {n : Nat} {R : Nat → Nat → Bool} {K c p : Nat} (h : R4 s n R K c p) (hp : p < n) (hn3 : n ≤ 300) : R5 s n R K c p (idsN (R p) 320) 0 :=
  ⟨h.left, h.cnt, fun i hi => by
    have := h.left.rng p i hp hi
    unfold idsN; rw [List.mem_filter, List.mem_range]; exact ⟨by omega, hi⟩,
   fun j i _ hj => by have := List.mem_of_getElem? hj; unfold idsN at this; exact (List.mem_filter.1 this).2,
   (List.nodup_range).sublist List.filter_sublist, fun e => ⟨h.zero e, fun j i hj => by omega⟩⟩
theorem R5.keep {s : Lts} {n : Nat} {R : Nat → Nat → Bool} {K c p : Nat} {L : List Nat} {m i : Nat} (h : R5 s n R K c p L m) (hi : L[m]? = some i) (hd : doesB s R p i = true) : R5 s n R K c p L (m + 1) :=
  ⟨h.left, h.cnt, h.here, fun j i hj => h.rest j i (by omega), h.nod, fun e => ⟨(h.zero e).1, fun j i' hj hi' => by
    by_cases e2 : j = m
    · subst e2; rw [hi] at hi'; cases hi'; exact hd
    · exact (h.zero e).2 j i' (by omega) hi'⟩⟩
theorem R5.drop {s : Lts} (hr : s.Right) {n : Nat} (hn : s.st = (n : Int)) {R : Nat → Nat → Bool} {K c p : Nat} {L : List Nat} {m i : Nat} (h : R5 s n R K c p L m) (hp : p < n) (hi : L[m]? = some i) (hd : doesB s R p i = false) : R5 s n (dropR R p i) K (c + 1) p L (m + 1) := by
  have hR := h.rest m i (Nat.le_refl _) hi
  have hin := h.left.rng p i hp hR
  refine ⟨⟨fun a j ha hj => h.left.rng a j ha (dropR_true.1 hj).1, fun S hS a j ha hj hSa => dropR_true.2 ⟨h.left.sim S hS a j ha hj hSa, ?_⟩⟩, ?_, fun j hj => h.here j (dropR_true.1 hj).1, fun j k hj hk => dropR_true.2 ⟨h.rest j k (by omega) hk, ?_⟩, h.nod, fun e => by omega⟩
  · rintro ⟨rfl, rfl⟩
    have := doesB_mono hr hn (h.left.sim S hS) (hS _ _ ha hj hSa)
    rw [hd] at this; cases this
  · have := cntR_drop hp hin hR
    have := h.cnt
    omega
  · rintro ⟨_, rfl⟩
    have h1 := (List.getElem?_eq_some_iff.1 hi).1
    have := (List.getElem?_inj h1 h.nod).1 (hi.trans hk.symm)
    omega
theorem R5.done {s : Lts} {n : Nat} {R : Nat → Nat → Bool} {K c p : Nat} {L : List Nat} (h : R5 s n R K c p L L.length) : R4 s n R K c (p + 1) :=
  ⟨h.left, h.cnt, fun e a ha i hi => by
    by_cases e2 : a = p
    · subst e2
      obtain ⟨j, hj⟩ := List.getElem?_of_mem (h.here i hi)
      exact (h.zero e).2 j i (List.getElem?_eq_some_iff.1 hj).1 hj
    · exact (h.zero e).1 a (by omega) i hi⟩

def fullR (n p q : Nat) : Nat → Nat → Bool := fun a i => decide (i < n ∧ (a < p ∨ (a = p ∧ i < q)))
theorem fullR_put {n p q : Nat} (hq : q < n) : putR (fullR n p q) p q = fullR n p (q + 1) := by
  funext a i
  unfold putR putF fullR
  rw [Bool.eq_iff_iff]
  by_cases h : a = p
  · subst h; simp; omega
  · simp [h]
theorem fullR_next (n p : Nat) : fullR n p n = fullR n (p + 1) 0 := by
  funext a i
  unfold fullR
  rw [Bool.eq_iff_iff]
  simp; omega
theorem left_full (s : Lts) (n : Nat) : Left s n (fullR n n 0) := ⟨fun a i _ h => by unfold fullR at h; simp at h; omega, fun S _ a i ha hi _ => by unfold fullR; simp; omega⟩

/-- The rows in memory after one word of them is set. -/
theorem RelR.set {w : World} {ob n : Nat} {R : Nat → Nat → Bool} (h : RelR w ob n R) {p i : Nat} (hp : p < n) (hi : i < 320) {F : Nat → Bool} (hF : ∀ j, j ≠ i / 64 → wj F j = wj (R p) j) :
    RelR (w.setCell ⟨ob, p * 5 + i / 64, none⟩ (.int .u64 (wj F (i / 64) : Nat))).drew ob n (fun a => if a = p then F else R a) := ⟨fun a ha j hj => by
  by_cases e : a = p
  · subst e
    rw [if_pos rfl]
    by_cases e2 : j = i / 64
    · subst e2; exact World.cell?_setCell_same _ _ _ (h.row a ha (i / 64) hj)
    · rw [hF j e2]
      exact (World.cell?_setCell_other _ _ _ _ (by intro h; simp at h <;> omega)).trans (h.row a ha j hj)
  · rw [if_neg e]
    exact (World.cell?_setCell_other _ _ _ _ (by intro h; simp at h <;> omega)).trans (h.row a ha j hj)⟩
end Go.Proofs.YtfakdgljilmpkaaGreatDoor

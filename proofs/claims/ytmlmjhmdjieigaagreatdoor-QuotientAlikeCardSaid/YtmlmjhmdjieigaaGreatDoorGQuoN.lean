/-
  quotient.by and Branching.
  Plain: quotients by branching bisimilarity: a state and its state of the quotient are together in their union; no two states of a quotient are.
-/
import Derived.Test.YtmlmjhmdjieigaaGreatDoorQuoM
import Derived.Test.YtmlmjhmdjieigaaGreatDoorGQuoB
import Derived.Test.YtmlmjhmdjieigaaGreatDoorGBrV
namespace Go.Proofs.YtmlmjhmdjieigaaGreatDoor
open Go.RowKit Pl

/-- What the quotient by branching bisimilarity answers. -/
def QuoBra (s : Lts) (n : Nat) (w : World) (e : Ending) (w' : World) : Prop :=
  ∃ C : Nat → Int, (BrBig s n C ∧ canon (fl n C) = fl n C) ∧ QuoPostI s.norm n C w e w'

set_option maxRecDepth 100000 in
set_option maxHeartbeats 4000000 in
theorem quoByB_any {p : Addr} {s : Lts} {n : Nat} (h : s.Right) (hn : s.st = (n : Int)) (hn0 : 0 < n) (hb : n * s.es.length ≤ 10000) {a : Option Addr} {b off c : Nat} {w : World} (hG : GErr 10 p w) (htab : Lib.TabIs Tryz.prog w "internal/strconv.uint64pow10" .u64 Lib.pow10Tab) (hel : s.es.length ≤ 900) (hS : SlAt encE 3 w a b off s.es) :
    Calls Tryz.prog 71 #[.agg #[.int .i64 s.st, .int .i64 s.lb, .int .i64 s.s0, .slice a s.es.length c], .func (.func 9) #[] #[], .bool true] w (QuoBra s n w) := by
  have hst := h.st0
  have hn1 : n ≤ 1000 := by omega
  have hB0 := ((Below.refl w.heap.size w).alloc (Nat.le_refl _) (Obj.cells #[.int .i64 s.st, .int .i64 s.lb, .int .i64 s.s0, .slice a s.es.length c] 24)).alloc (by simp) (Obj.cells #[.int .i64 0, .int .i64 0, .int .i64 0, .slice none 0 0] 24)
  have hx0 := (((Below.refl _ _).alloc (Nat.le_refl _) (Obj.cells #[.int .i64 0, .int .i64 0, .int .i64 0, .slice none 0 0] 24)).block w.heap.size (by simp)).trans (heap_alloc_new w (Obj.cells #[.int .i64 s.st, .int .i64 s.lb, .int .i64 s.s0, .slice a s.es.length c] 24))
  have hy0 := heap_alloc_at (w.alloc (Obj.cells #[.int .i64 s.st, .int .i64 s.lb, .int .i64 s.s0, .slice a s.es.length c] 24)) (Obj.cells #[.int .i64 0, .int .i64 0, .int .i64 0, .slice none 0 0] 24) (w.heap.size + 1) (by simp)
  have HCK := Lib.hid (check_ok h a b off c _ (hG.below hB0) (hS.below hB0 (Nat.le_refl _)))
  have HB0 := Lib.hid hB0; have HX0 := Lib.hid hx0; have HY0 := Lib.hid hy0; have HS := Lib.hid hS; have HG := Lib.hid hG; have HT := Lib.hid (Lib.tabBelow_of_tabIs htab); have HEL9 := Lib.hid hel
  have HR := Lib.hid h; have HN := Lib.hid hn; have HBB := Lib.hid hb
  clear hB0 hx0 hy0 hS hG h hn hb hst htab hel
  go_enter Tryz.func71, Tryz.ntmps71
  go_wp2_with fail
  refine HCK.out.mono ?_
  rintro e w1 ⟨rfl, hB1⟩
  have hx1 := (hB1.block w.heap.size (by simp; omega)).trans HX0.out
  have HB1 := Lib.hid (HB0.out.trans (hB1.mono (by simp; omega))); have HX1 := Lib.hid hx1
  have HY1 := Lib.hid ((hB1.block (w.heap.size + 1) (by simp)).trans HY0.out)
  obtain ⟨x0, x1, x2, x3, x4⟩ := sys9 hx1
  have HCL := Lib.hid (brClasses_any (c := c) HR.out HN.out HEL9.out (HG.out.below HB1.out) (HT.out _ HB1.out) (HS.out.below HB1.out (Nat.le_refl _)))
  clear hB1 hx1 HB0 HX0 HY0 HCK
  go_wp2_with fail
  refine HCL.out.mono ?_
  unfold BrPost
  rintro e w2 ⟨R, ca, cb, cc, hres, rfl, hown, hos, hB2⟩
  obtain ⟨C, hbig, rfl, hcan, hrng⟩ := hres.big HR.out HN.out
  have hcl : (fl n C).length = n := fl_len _ _
  have hclb : clB (n : Int) (fl n C) = true := by unfold clB; rw [hcan, hcl]; simp
  have hwf : ∀ x ∈ fl n C, (Lit.int .i64 x).wf = true := fun x hx => by
    obtain ⟨j, hj, rfl⟩ := List.mem_map.1 hx
    have h2 := hrng j (List.mem_range.1 hj)
    exact WalkArith.wf_i64 (by omega)
  have hx2 := (hB2.block w.heap.size x4).trans HX1.out
  have hb2 := HB1.out.trans (hB2.mono HB1.out.size)
  have HY2 := Lib.hid ((hB2.block (w.heap.size + 1) (Array.getElem?_eq_some_iff.1 HY1.out).1).trans HY1.out)
  have HOF := Lib.hid (quoOfI_any (c := c) (cc := cc) HR.out HN.out hn0 (HG.out.below hb2) (HS.out.below hb2 (Nat.le_refl _)) hos hclb hwf HBB.out)
  have HB2 := Lib.hid hb2; have HBIG : RowKit.Hid (BrBig s n C ∧ canon (fl n C) = fl n C) := Lib.hid ⟨hbig, hcan⟩
  clear x0 x1 x2 x3 x4
  obtain ⟨x0, x1, x2, x3, x4⟩ := sys9 hx2
  clear hB2 hx2 hb2 hos hclb hwf hcl hown hbig hcan hrng hres HB1 HX1 HY1 HCL
  go_wp2_with fail
  refine HOF.out.mono ?_
  unfold QuoPostI
  rintro e w3 ⟨ea, ta, eb, ec, tb, tc, rfl, hes, hto, heb, htb, hB3⟩
  have hy3 := (hB3.block (w.heap.size + 1) (Array.getElem?_eq_some_iff.1 HY2.out).1).trans HY2.out
  have hb3 := HB2.out.trans (hB3.mono HB2.out.size)
  obtain ⟨Q, hQ⟩ : ∃ Q, Q = quoSI true s.norm (fl n C) := ⟨_, rfl⟩
  rw [← hQ] at hes heb ⊢
  obtain ⟨T, hT⟩ : ∃ T, T = fl n (fun j => toI (quoD s.norm (fl n C)) (C j)) := ⟨_, rfl⟩
  rw [← hT] at hto
  have HQ := Lib.hid hQ; have HT := Lib.hid hT; have HES := Lib.hid hes; have HTO := Lib.hid hto; have HB3 := Lib.hid hb3; have HY3 := Lib.hid hy3
  obtain ⟨y0, y1, y2, y3, y4⟩ := sys9 hy3
  have yf0 : w3.frozen? ⟨w.heap.size + 1, 0, none⟩ = false := by simp [World.frozen?, hy3]
  have yf1 : w3.frozen? ⟨w.heap.size + 1, 1, none⟩ = false := by simp [World.frozen?, hy3]
  have yf2 : w3.frozen? ⟨w.heap.size + 1, 2, none⟩ = false := by simp [World.frozen?, hy3]
  have yf3 : w3.frozen? ⟨w.heap.size + 1, 3, none⟩ = false := by simp [World.frozen?, hy3]
  have hw2 : w.heap.size + 1 < w2.heap.size := (Array.getElem?_eq_some_iff.1 HY2.out).1
  clear hQ hT hes hto hB3 hb3 hy3 HOF HY2 HB2 x0 x1 x2 x3 x4
  go_wp2_with fail
  have hEB : 0 < Q.es.length → eb ≠ w.heap.size + 1 := fun h => by have := heb h; omega
  have hTB : 0 < T.length → tb ≠ w.heap.size + 1 := fun h => by have := htb hn0; omega
  refine bodyPost_ret (v := .tuple #[.agg #[.int .i64 Q.st, .int .i64 Q.lb, .int .i64 Q.s0, .slice ea Q.es.length ec], .slice ta n tc, .nilIface]) (by simp [results, Tryz.results71, go_sem, y0, y1, y2, y3]) rfl ⟨C, HBIG.out, ea, ta, eb, ec, tb, tc, by rw [← HQ.out], ?_, ?_, fun h => ?_, fun h => ?_, ?_⟩
  · rw [← HQ.out]
    exact (((HES.out.setOther hEB _).setOther hEB _).setOther hEB _).setOther hEB _
  · rw [← HT.out]
    exact (((HTO.out.setOther hTB _).setOther hTB _).setOther hTB _).setOther hTB _
  · rw [← HQ.out] at h; have := heb h; omega
  · have := htb h; omega
  · exact (((HB3.out.setCell (by show w.heap.size ≤ w.heap.size + 1; omega) _).setCell (by show w.heap.size ≤ w.heap.size + 1; omega) _).setCell (by show w.heap.size ≤ w.heap.size + 1; omega) _).setCell (by show w.heap.size ≤ w.heap.size + 1; omega) _

set_option maxRecDepth 100000 in
set_option maxHeartbeats 4000000 in
theorem quoBranching_any {p : Addr} {s : Lts} {n : Nat} (h : s.Right) (hn : s.st = (n : Int)) (hn0 : 0 < n) (hb : n * s.es.length ≤ 10000) {a : Option Addr} {b off c : Nat} {w : World} (hG : GErr 10 p w) (htab : Lib.TabIs Tryz.prog w "internal/strconv.uint64pow10" .u64 Lib.pow10Tab) (hel : s.es.length ≤ 900) (hS : SlAt encE 3 w a b off s.es) :
    Calls Tryz.prog 35 #[.agg #[.int .i64 s.st, .int .i64 s.lb, .int .i64 s.s0, .slice a s.es.length c]] w (QuoBra s n w) := by
  have hB0 := ((Below.refl w.heap.size w).alloc (Nat.le_refl _) (Obj.cells #[.int .i64 s.st, .int .i64 s.lb, .int .i64 s.s0, .slice a s.es.length c] 24)).alloc (by simp) (Obj.cells #[.int .i64 0, .int .i64 0, .int .i64 0, .slice none 0 0] 24)
  have hy0 := heap_alloc_at (w.alloc (Obj.cells #[.int .i64 s.st, .int .i64 s.lb, .int .i64 s.s0, .slice a s.es.length c] 24)) (Obj.cells #[.int .i64 0, .int .i64 0, .int .i64 0, .slice none 0 0] 24) (w.heap.size + 1) (by simp)
  have HBY := Lib.hid (quoByB_any (c := c) h hn hn0 hb (hG.below hB0) (Lib.tabBelow_of_tabIs htab _ hB0) hel (hS.below hB0 (Nat.le_refl _)))
  have HB0 := Lib.hid hB0; have HY0 := Lib.hid hy0
  clear hB0 hy0 hS hG h hn hb htab hel
  go_enter Tryz.func35, Tryz.ntmps35
  go_wp2_with fail
  refine HBY.out.mono ?_
  unfold QuoBra QuoPostI
  rintro e w3 ⟨C, hbig, ea, ta, eb, ec, tb, tc, rfl, hes, hto, heb, htb, hB3⟩
  have hy3 := (hB3.block (w.heap.size + 1) (by simp)).trans HY0.out
  have hb3 := HB0.out.trans (hB3.mono (by simp; omega))
  simp only [World.size_alloc] at heb htb
  obtain ⟨Q, hQ⟩ : ∃ Q, Q = quoSI true s.norm (fl n C) := ⟨_, rfl⟩
  rw [← hQ] at hes heb ⊢
  obtain ⟨T, hT⟩ : ∃ T, T = fl n (fun j => toI (quoD s.norm (fl n C)) (C j)) := ⟨_, rfl⟩
  rw [← hT] at hto
  have HQ := Lib.hid hQ; have HT := Lib.hid hT; have HES := Lib.hid hes; have HTO := Lib.hid hto; have HB3 := Lib.hid hb3; have HY3 := Lib.hid hy3; have HBIG := Lib.hid hbig
  obtain ⟨y0, y1, y2, y3, y4⟩ := sys9 hy3
  have yf0 : w3.frozen? ⟨w.heap.size + 1, 0, none⟩ = false := by simp [World.frozen?, hy3]
  have yf1 : w3.frozen? ⟨w.heap.size + 1, 1, none⟩ = false := by simp [World.frozen?, hy3]
  have yf2 : w3.frozen? ⟨w.heap.size + 1, 2, none⟩ = false := by simp [World.frozen?, hy3]
  have yf3 : w3.frozen? ⟨w.heap.size + 1, 3, none⟩ = false := by simp [World.frozen?, hy3]
  clear hQ hT hes hto hB3 hb3 hy3 HBY HY0 HB0 hbig
  go_wp2_with fail
  have hEB : 0 < Q.es.length → eb ≠ w.heap.size + 1 := fun h => by have := heb h; omega
  have hTB : 0 < T.length → tb ≠ w.heap.size + 1 := fun h => by have := htb hn0; omega
  refine bodyPost_ret (v := .tuple #[.agg #[.int .i64 Q.st, .int .i64 Q.lb, .int .i64 Q.s0, .slice ea Q.es.length ec], .slice ta n tc, .nilIface]) (by simp [results, Tryz.results35, go_sem, y0, y1, y2, y3]) rfl ⟨C, HBIG.out, ea, ta, eb, ec, tb, tc, by rw [← HQ.out], ?_, ?_, fun h => ?_, fun h => ?_, ?_⟩
  · rw [← HQ.out]
    exact (((HES.out.setOther hEB _).setOther hEB _).setOther hEB _).setOther hEB _
  · rw [← HT.out]
    exact (((HTO.out.setOther hTB _).setOther hTB _).setOther hTB _).setOther hTB _
  · rw [← HQ.out] at h; have := heb h; omega
  · have := htb h; omega
  · exact (((HB3.out.setCell (by show w.heap.size ≤ w.heap.size + 1; omega) _).setCell (by show w.heap.size ≤ w.heap.size + 1; omega) _).setCell (by show w.heap.size ≤ w.heap.size + 1; omega) _).setCell (by show w.heap.size ≤ w.heap.size + 1; omega) _
end Go.Proofs.YtmlmjhmdjieigaaGreatDoor

namespace Go.Proofs.YtmlmjhmdjieigaaGreatDoor
open Go.RowKit Pl

section
variable {s : Lts} {n : Nat} {C : Nat → Int}
/-- A step that is not inert is one of the quotient. -/
theorem quo_down (hr : s.Right) (hn : s.st = (n : Int)) (hn0 : 0 < n) (h : Still s n C) {inert : Bool} {p t i : Nat} {l : Int} (hp : p < n) (hi : toI (quoD s (fl n C)) (C p) = (i : Int)) (hs : stp s p l t) (hk : ¬ (l = 0 ∧ C t = C p)) : ∃ j : Nat, toI (quoD s (fl n C)) (C t) = (j : Int) ∧ j < (quoD s (fl n C)).length ∧ stp (quoSI inert s (fl n C)) i l j := by
  obtain ⟨hm, q, hq, hqr, e⟩ := quo_rep hr hn hn0 hi
  obtain ⟨q0, u, h1, h2, h3, h4⟩ := (h p q hp hq e.symm _ _ (.here hs hk)).way
  have hreach : ∀ x, Via s (fun x => C x = C q) q x → (x : Int) ∈ reachL s := fun x hv => by
    induction hv with
    | refl _ => exact hqr
    | tail _ h5 _ ih => exact quo_step hr hn hn0 ih h5
  have h5 := hreach q0 h1
  have hq0 := (stp_lt hr hn h2).1; have hu := (stp_lt hr hn h2).2.1
  have k := toI_in (quo_in (L := fl n C) (quo_step hr hn hn0 h5 h2))
  have k0 := quo_in (L := fl n C) h5
  rw [atLF hu] at k
  rw [atLF hq0] at k0
  refine ⟨_, by rw [← h3]; exact k.1, k.2, (stp_quo hr hn hn0).2 ⟨q0, u, hq0, hu, h5, h2, by rw [h1.last, e]; exact hi, k.1, ?_⟩⟩
  rintro ⟨_, h6, h7⟩
  have e6 : C q0 = C u := by
    have ku := quo_in (L := fl n C) (quo_step hr hn hn0 h5 h2)
    rw [atLF hu] at ku
    exact toI_inj k0 ku (by rw [k.1, h1.last, e, hi, h7])
  exact h4 ⟨h6, by rw [← e6, h1.last]⟩
/-- A step of the quotient is met behind inert ones. -/
theorem quo_up (hr : s.Right) (hn : s.st = (n : Int)) (hn0 : 0 < n) (h : Still s n C) {p i j : Nat} {l : Int} (hp : p < n) (hi : toI (quoD s (fl n C)) (C p) = (i : Int)) (hs : stp (quoSI true s (fl n C)) i l j) : ∃ q0 t : Nat, Via s (fun x => C x = C p) p q0 ∧ stp s q0 l t ∧ toI (quoD s (fl n C)) (C t) = (j : Int) := by
  obtain ⟨x, t, hx, ht, hxr, h1, e1, e2, hk⟩ := (stp_quo hr hn hn0).1 hs
  obtain ⟨hm, _⟩ := quo_rep hr hn hn0 hi
  have m2 := quo_in (L := fl n C) hxr
  rw [atLF hx] at m2
  have hC : C x = C p := toI_inj m2 hm (by rw [e1, hi])
  have hno : ¬ (l = 0 ∧ C t = C x) := fun k => hk ⟨rfl, k.1, by
    have e3 : toI (quoD s (fl n C)) (C t) = (i : Int) := by rw [k.2]; exact e1
    omega⟩
  obtain ⟨q0, u, h2, h3, h4, _⟩ := (h x p hx hp hC l _ (.here h1 hno)).way
  exact ⟨q0, u, h2, h3, by rw [h4]; exact e2⟩
theorem quo_next (hr : s.Right) (hn : s.st = (n : Int)) (hn0 : 0 < n) (h : Still s n C) {p t i : Nat} {l : Int} (hp : p < n) (hi : toI (quoD s (fl n C)) (C p) = (i : Int)) (hs : stp s p l t) : ∃ j : Nat, toI (quoD s (fl n C)) (C t) = (j : Int) := by
  by_cases hk : l = 0 ∧ C t = C p
  · exact ⟨i, by rw [hk.2]; exact hi⟩
  · obtain ⟨j, h1, _⟩ := quo_down hr hn hn0 h (inert := true) hp hi hs hk
    exact ⟨j, h1⟩
/-- No two states of a branching quotient are together. -/
theorem quo_apart_br (hr : s.Right) (hn : s.st = (n : Int)) (hn0 : 0 < n) (h : BrBig s n C) {K : Nat → Int} {m : Nat} (hm : (quoSI true s (fl n C)).st = (m : Int)) (hQ : (quoSI true s (fl n C)).Right) (hK : Still (quoSI true s (fl n C)) m K) {i j p q : Nat} (hp : p < n) (hq : q < n) (hi : toI (quoD s (fl n C)) (C p) = (i : Int)) (hj : toI (quoD s (fl n C)) (C q) = (j : Int)) (e : K i = K j) : C p = C q := by
  have lt : ∀ {x y : Nat} {c : Int}, toI (quoD s (fl n C)) c = (x : Int) → x < m := fun {x y c} hx => by
    have h2 : ((quoD s (fl n C)).length : Int) = (m : Int) := hm
    unfold toI at hx
    split at hx
    · rename_i hc
      have := List.idxOf_lt_length_of_mem hc
      omega
    · omega
  -- a way of the quotient, from a state of the system
  have way : ∀ {X : Nat → Prop} {a b : Nat}, Via (quoSI true s (fl n C)) X a b → ∀ u, u < n → toI (quoD s (fl n C)) (C u) = (a : Int) → ∃ v, v < n ∧ toI (quoD s (fl n C)) (C v) = (b : Int) ∧ Via s (fun x => x < n ∧ ∃ y : Nat, X y ∧ toI (quoD s (fl n C)) (C x) = (y : Int)) u v := by
    intro X a b hv
    induction hv with
    | refl hX => exact fun u hu ha => ⟨u, hu, ha, .refl ⟨hu, a, hX, ha⟩⟩
    | @tail b c h1 h2 h3 ih =>
      intro u hu ha
      obtain ⟨v, hv, hb, h4⟩ := ih u hu ha
      obtain ⟨q0, t, h5, h6, h7⟩ := quo_up hr hn hn0 h.still hv hb h2
      have ht := (stp_lt hr hn h6).2.1
      have h8 := (h5.lt hr hn hv).1
      have key : ∀ z, Via s (fun x => x < n ∧ C x = C v) v z → Via s (fun x => x < n ∧ ∃ y : Nat, X y ∧ toI (quoD s (fl n C)) (C x) = (y : Int)) u z := fun z hz => by
        induction hz with
        | refl _ => exact h4
        | tail _ k2 k3 kih => exact .tail kih k2 ⟨k3.1, b, h1.last, by rw [k3.2]; exact hb⟩
      exact ⟨t, ht, h7, .tail (key q0 h8) h6 ⟨ht, c, h3, h7⟩⟩
  have fw : ∀ p q, p < n → q < n → (∃ i j : Nat, toI (quoD s (fl n C)) (C p) = (i : Int) ∧ toI (quoD s (fl n C)) (C q) = (j : Int) ∧ K i = K j) → ∀ l p', p' < n → stp s p l p' →
      (l = 0 ∧ ∃ i j : Nat, toI (quoD s (fl n C)) (C p') = (i : Int) ∧ toI (quoD s (fl n C)) (C q) = (j : Int) ∧ K i = K j) ∨ ∃ q0 q', Via s (fun x => x < n ∧ ∃ i j : Nat, toI (quoD s (fl n C)) (C p) = (i : Int) ∧ toI (quoD s (fl n C)) (C x) = (j : Int) ∧ K i = K j) q q0 ∧ q' < n ∧ stp s q0 l q' ∧ ∃ i j : Nat, toI (quoD s (fl n C)) (C p') = (i : Int) ∧ toI (quoD s (fl n C)) (C q') = (j : Int) ∧ K i = K j := by
    rintro p q hp hq ⟨i, j, hi, hj, e⟩ l p' hp' hs
    by_cases hk : l = 0 ∧ C p' = C p
    · exact .inl ⟨hk.1, i, j, by rw [hk.2]; exact hi, hj, e⟩
    · obtain ⟨i', h1, _, h2⟩ := quo_down hr hn hn0 h.still (inert := true) hp hi hs hk
      rcases (hK.br hQ hm).fwd i j (lt (y := 0) hi) (lt (y := 0) hj) e l i' (lt (y := 0) h1) h2 with ⟨h3, h4⟩ | ⟨j0, j', h3, h4, h5, h6⟩
      · exact .inl ⟨h3, i', j, h1, hj, h4⟩
      · obtain ⟨v, hv, hb, h7⟩ := way h3 q hq hj
        obtain ⟨q0, t, h8, h9, h10⟩ := quo_up hr hn hn0 h.still hv hb h5
        have h11 := (h8.lt hr hn hv).1
        have hX : ∀ x, (x < n ∧ ∃ y : Nat, (y < m ∧ K i = K y) ∧ toI (quoD s (fl n C)) (C x) = (y : Int)) → x < n ∧ ∃ i j : Nat, toI (quoD s (fl n C)) (C p) = (i : Int) ∧ toI (quoD s (fl n C)) (C x) = (j : Int) ∧ K i = K j := fun x ⟨hx, y, hy, hxy⟩ => ⟨hx, i, y, hi, hxy, hy.2⟩
        have key : ∀ z, Via s (fun x => x < n ∧ C x = C v) v z → Via s (fun x => x < n ∧ ∃ i j : Nat, toI (quoD s (fl n C)) (C p) = (i : Int) ∧ toI (quoD s (fl n C)) (C x) = (j : Int) ∧ K i = K j) q z := fun z hz => by
          induction hz with
          | refl _ => exact h7.mono hX
          | tail _ k2 k3 kih => exact .tail kih k2 ⟨k3.1, i, j0, hi, by rw [k3.2]; exact hb, h3.last.2⟩
        exact .inr ⟨q0, t, key q0 h11, (stp_lt hr hn h9).2.1, h9, i', j', h1, h10, h6⟩
  refine h.all (fun p q => ∃ i j : Nat, toI (quoD s (fl n C)) (C p) = (i : Int) ∧ toI (quoD s (fl n C)) (C q) = (j : Int) ∧ K i = K j) ⟨fw, fun p q hp hq ⟨i, j, hi, hj, e⟩ l q' hq' hs => ?_⟩ p q hp hq ⟨i, j, hi, hj, e⟩
  rcases fw q p hq hp ⟨j, i, hj, hi, e.symm⟩ l q' hq' hs with ⟨h1, a, b, h2, h3, h4⟩ | ⟨q0, t, h1, h2, h3, a, b, h4, h5, h6⟩
  · exact .inl ⟨h1, b, a, h3, h2, h4.symm⟩
  · exact .inr ⟨q0, t, h1.mono (fun x ⟨hx, a, b, k1, k2, k3⟩ => ⟨hx, b, a, k2, k1, k3.symm⟩), h2, h3, b, a, h5, h4, h6.symm⟩
/-- .. of a strong one. -/
theorem quo_apart_st (hr : s.Right) (hn : s.st = (n : Int)) (hn0 : 0 < n) (h : Big s n C) {K : Nat → Int} (hK : Big (quoSI false s (fl n C)) (quoD s (fl n C)).length K) {i j p q : Nat} (hp : p < n) (hq : q < n) (hi : toI (quoD s (fl n C)) (C p) = (i : Int)) (hj : toI (quoD s (fl n C)) (C q) = (j : Int)) (e : K i = K j) : C p = C q := by
  have lt : ∀ {x : Nat} {c : Int}, toI (quoD s (fl n C)) c = (x : Int) → x < (quoD s (fl n C)).length := fun {x c} hx => by
    unfold toI at hx
    split at hx
    · rename_i hc
      have := List.idxOf_lt_length_of_mem hc
      omega
    · omega
  have down : ∀ {p i : Nat} {l : Int} {p' : Nat}, p < n → p' < n → toI (quoD s (fl n C)) (C p) = (i : Int) → stp s p l p' → ∃ i' : Nat, toI (quoD s (fl n C)) (C p') = (i' : Int) ∧ stp (quoSI false s (fl n C)) i l i' := by
    intro p i l p' hp hp' hi hs
    obtain ⟨hm, q, hq, hqr, e⟩ := quo_rep hr hn hn0 hi
    obtain ⟨u, hu, h1, h2⟩ := (h.bis p q hp hq e.symm).1 l p' hp' hs
    have k := toI_in (quo_in (L := fl n C) (quo_step hr hn hn0 hqr h1))
    rw [atLF hu, ← h2] at k
    exact ⟨_, k.1, (stp_quo hr hn hn0).2 ⟨q, u, hq, hu, hqr, h1, by rw [e]; exact hi, by rw [← h2]; exact k.1, by simp⟩⟩
  have up : ∀ {p i j : Nat} {l : Int}, p < n → toI (quoD s (fl n C)) (C p) = (i : Int) → stp (quoSI false s (fl n C)) i l j → ∃ p', p' < n ∧ stp s p l p' ∧ toI (quoD s (fl n C)) (C p') = (j : Int) := by
    intro p i j l hp hi hs
    obtain ⟨x, t, hx, ht, hxr, h1, e1, e2, _⟩ := (stp_quo hr hn hn0).1 hs
    obtain ⟨hm, _⟩ := quo_rep hr hn hn0 hi
    have m2 := quo_in (L := fl n C) hxr
    rw [atLF hx] at m2
    have hC : C x = C p := toI_inj m2 hm (by rw [e1, hi])
    obtain ⟨u, hu, h3, h4⟩ := (h.bis x p hx hp hC).1 l t ht h1
    exact ⟨u, hu, h3, by rw [← h4]; exact e2⟩
  refine h.all (fun p q => ∃ i j : Nat, toI (quoD s (fl n C)) (C p) = (i : Int) ∧ toI (quoD s (fl n C)) (C q) = (j : Int) ∧ K i = K j) (fun p q hp hq ⟨i, j, hi, hj, e⟩ => ⟨fun l p' hp' hs => ?_, fun l q' hq' hs => ?_⟩) p q hp hq ⟨i, j, hi, hj, e⟩
  · obtain ⟨i', h1, h2⟩ := down hp hp' hi hs
    obtain ⟨j', _, h3, h4⟩ := (hK.bis i j (lt hi) (lt hj) e).1 l i' (lt h1) h2
    obtain ⟨q', hq', h5, h6⟩ := up hq hj h3
    exact ⟨q', hq', h5, i', j', h1, h6, h4⟩
  · obtain ⟨j', h1, h2⟩ := down hq hq' hj hs
    obtain ⟨i', _, h3, h4⟩ := (hK.bis i j (lt hi) (lt hj) e).2 l j' (lt h1) h2
    obtain ⟨p', hp', h5, h6⟩ := up hp hi h3
    exact ⟨p', hp', h5, i', j', h6, h1, h4⟩
end
end Go.Proofs.YtmlmjhmdjieigaaGreatDoor

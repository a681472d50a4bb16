/-
  Lemmas.
-/
import Derived.Test.YtbaccmlfnbgehaaGreatDoorGForms
import Derived.Test.YtbaccmlfnbgehaaGreatDoorGSimQ
import Derived.Test.YtbaccmlfnbgehaaGreatDoorRefOut
import Derived.Test.YtbaccmlfnbgehaaGreatDoorGRefReach
namespace Go.Proofs.YtbaccmlfnbgehaaGreatDoor
open Go.RowKit Pl
open Lib (hid)
namespace Pl
structure R6 (s : Lts) (n : Nat) (R : Nat → Nat → Bool) (K c p q : Nat) : Prop where
  left : Left s n R
  cnt : c + cntR n R = K
  zero : c = 0 → ∀ a i, (a < p ∨ (a = p ∧ i < q)) → R a i = true → doesB s R a i = true
variable {s : Lts} {n : Nat} {R : Nat → Nat → Bool} {K c p q : Nat}
theorem R6.keep (h : R6 s n R K c p q) (hd : R p q = true → doesB s R p q = true) : R6 s n R K c p (q + 1) :=
  ⟨h.left, h.cnt, fun e a i hai hR => by
    by_cases e2 : a = p ∧ i = q
    · obtain ⟨rfl, rfl⟩ := e2; exact hd hR
    · exact h.zero e a i (by omega) hR⟩
theorem R6.drop (h : R6 s n R K c p q) (hr : s.Right) (hn : s.st = (n : Int)) (hp : p < n) (hq : q < n) (hR : R p q = true) (hd : doesB s R p q = false) : R6 s n (dropR R p q) K (c + 1) p (q + 1) := by
  refine ⟨⟨fun a j ha hj => h.left.rng a j ha (dropR_true.1 hj).1, fun S hS a j ha hj hSa => dropR_true.2 ⟨h.left.sim S hS a j ha hj hSa, ?_⟩⟩, ?_, fun e => by omega⟩
  · rintro ⟨rfl, rfl⟩
    have := doesB_mono hr hn (h.left.sim S hS) (hS _ _ ha hj hSa)
    rw [hd] at this; cases this
  · have := cntR_drop hp hq hR
    have := h.cnt
    omega
theorem R6.next (h : R6 s n R K c p n) (hp : p < n) : R6 s n R K c (p + 1) 0 :=
  ⟨h.left, h.cnt, fun e a i hai hR => by
    by_cases e2 : a = p
    · subst e2; exact h.zero e a i (.inr ⟨rfl, h.left.rng a i hp hR⟩) hR
    · exact h.zero e a i (.inl (by omega)) hR⟩
theorem R6.done (h : R6 s n R K 0 n 0) : Great s n R := ⟨h.left, fun a i ha hR => h.zero rfl a i (.inl ha) hR⟩
def allR (n : Nat) : Nat → Nat → Bool := fun _ i => decide (i < n)
theorem left_all (s : Lts) (n : Nat) : Left s n (allR n) := ⟨fun a i _ h => by simpa [allR] using h, fun S _ a i _ hi _ => by simpa [allR] using hi⟩
end Pl
def rowB17 (n : Nat) (b : Nat) : Value := .slice (some ⟨b, 0, none⟩) n n
structure BG (B : Nat) (w0 wr : World) (n : Nat) (G : Nat → Nat → Bool) (v : Value) (bs : List Nat) : Prop where
  bel : Below B w0 wr
  own : wr.ownsRow B 57 1 v bs.length (bs.map (rowB17 n))
  rows : ∀ (j b : Nat), bs[j]? = some b → B ≤ b ∧ wr.rowIs b 4 n (fun q => .bool (G j q))
  inc : bs.Pairwise (· < ·)
section
variable {B : Nat} {w0 wr w' : World} {n : Nat} {G : Nat → Nat → Bool} {v v' : Value} {bs : List Nat}
theorem BG.call (h : BG B w0 wr n G v bs) (hB0 : B ≤ wr.heap.size) (hB : Below wr.heap.size wr w') : BG B w0 w' n G v bs :=
  ⟨h.bel.trans (hB.mono hB0), own_below h.own hB, fun j b hb => ⟨(h.rows j b hb).1, (h.rows j b hb).2.of_block (hB.block _ (h.rows j b hb).2.lt)⟩, h.inc⟩
theorem BG.notV (h : BG B w0 wr n G v bs) {b : Nat} {f : Nat → Value} (hr : wr.rowIs b 4 n f) : v.ownBlock ≠ some b := fun e => by
  obtain ⟨cs, h1, _⟩ := hr
  rcases h.own.2 with ⟨h2, _⟩ | ⟨gg, cap, cur, hv, _, hgg, _⟩
  · rw [h2] at e; cases e
  · rw [hv] at e; simp only [Value.ownBlock, Option.some.injEq] at e; subst e; rw [hgg] at h1; simp at h1
theorem BG.push (h : BG B w0 wr n G v bs) (hB0 : B ≤ wr.heap.size) {b : Nat} (hbb : B ≤ b) (hlt : ∀ x ∈ bs, x < b) (hx : wr.rowIs b 4 n (fun q => .bool (G bs.length q)))
    (hown : w'.ownsRow B 57 1 v' (bs.length + 1) (bs.map (rowB17 n) ++ [rowB17 n b])) (hg : wr.grownBy w' v.ownBlock) : BG B w0 w' n G v' (bs ++ [b]) := by
  have hrow : ∀ {c : Nat} {f : Nat → Value}, wr.rowIs c 4 n f → w'.rowIs c 4 n f := fun {c f} hc => hc.of_block (hg.block c hc.lt (fun e => h.notV hc e.symm))
  refine ⟨h.bel.grown hg hB0 (fun k e => (h.own.lt k e).1), ?_, fun j y hy => ?_, ?_⟩
  · rw [List.map_append, List.length_append]; exact hown
  · rcases Nat.lt_or_ge j bs.length with hj | hj
    · rw [List.getElem?_append_left hj] at hy
      exact ⟨(h.rows j y hy).1, hrow (h.rows j y hy).2⟩
    · have hq2 : j = bs.length := by have := (List.getElem?_eq_some_iff.1 hy).1; simp at this; omega
      subst hq2
      simp at hy
      subst hy
      exact ⟨hbb, hrow hx⟩
  · rw [List.pairwise_append]
    exact ⟨h.inc, List.pairwise_singleton _ _, fun x hx y hy => by
      have e : y = b := by simpa using hy
      rw [e]; exact hlt x hx⟩
theorem BG.inj (h : BG B w0 wr n G v bs) {i j b : Nat} (hi : bs[i]? = some b) (hj : bs[j]? = some b) : i = j := by
  have hp := List.pairwise_iff_getElem.1 h.inc
  obtain ⟨hil, hib⟩ := List.getElem?_eq_some_iff.1 hi
  obtain ⟨hjl, hjb⟩ := List.getElem?_eq_some_iff.1 hj
  rcases Nat.lt_trichotomy i j with h1 | h1 | h1
  · have := hp i j hil hjl h1; omega
  · exact h1
  · have := hp j i hjl hil h1; omega
theorem BG.drop (h : BG B w0 wr n G v bs) {p q b : Nat} (hb : bs[p]? = some b) (hq : q < n) : BG B w0 (wr.setCell ⟨b, q, none⟩ (.bool false)) n (dropR G p q) v bs := by
  obtain ⟨h1, h2⟩ := h.rows p b hb
  refine ⟨h.bel.setCell h1 _, own_set1 h.own (p := ⟨b, q, none⟩) (fun g hg e => h.notV h2 (by rw [hg]; exact congrArg some e)) _, fun j c hc => ⟨(h.rows j c hc).1, ?_⟩, h.inc⟩
  by_cases e : j = p
  · subst e
    rw [hb] at hc; cases hc
    refine (h2.set q (.bool false)).congr (fun i _ => ?_)
    unfold dropR dropF
    rw [if_pos rfl]
    by_cases e2 : i = q
    · subst e2; simp
    · rw [if_neg e2]; simp [e2]
  · have hne : c ≠ b := fun e2 => by subst e2; exact e (h.inj hc hb)
    refine ((h.rows j c hc).2.of_block (Below.heap_setCell _ _ _ _ hne)).congr (fun i _ => ?_)
    unfold dropR
    rw [if_neg e]
theorem BG.cell (h : BG B w0 wr n G v bs) {p b : Nat} (hb : bs[p]? = some b) : ∃ vb vc, v = .slice (some ⟨vb, 0, none⟩) bs.length vc ∧ wr.cell? ⟨vb, p, none⟩ = some (.slice (some ⟨b, 0, none⟩) n n) ∧ vb < wr.heap.size := by
  have hl := (List.getElem?_eq_some_iff.1 hb).1
  have ho : wr.ownsRow B 57 1 v (bs.map (rowB17 n)).length ((bs.map (rowB17 n)).flatMap encV) := by
    have e : (bs.map (rowB17 n)).flatMap encV = bs.map (rowB17 n) := by
      generalize bs.map (rowB17 n) = l
      induction l with
      | nil => rfl
      | cons x l ih => rw [List.flatMap_cons, ih]; rfl
    rw [e, List.length_map]; exact h.own
  obtain ⟨va, vc, vb, hv, _, _, hvs, _⟩ := slAt_own lenV ho
  rw [List.length_map] at hv
  have had := hvs.ad (by rw [List.length_map]; omega)
  subst had
  have hc := hvs.cv (i := p) (x := rowB17 n b) (by rw [List.getElem?_map, hb]; rfl)
  simp only [Nat.zero_add] at hc
  exact ⟨vb, vc, hv, hc, World.block_lt_of_cell? _ _ hc⟩
theorem BG.sl (h : BG B w0 wr n G v bs) (hl : bs.length = n) : ∃ va vc, v = .slice va n vc := by
  have ho := h.own
  rw [hl] at ho
  rcases ho.2 with ⟨h1, h0⟩ | ⟨g, c', _, h1, _⟩
  · exact ⟨none, 0, by rw [h1, h0]⟩
  · exact ⟨_, _, h1⟩
theorem BG.bools (h : BG B w0 wr n G v bs) (hl : bs.length = n) (hn : 0 < n) : ∃ vb vc, v = .slice (some ⟨vb, 0, none⟩) n vc ∧ BoolsIn wr vb n G := by
  obtain ⟨b0, hb0⟩ := getElem?_of_lt (xs := bs) (i := 0) (by omega)
  obtain ⟨vb, vc, hv, _, hlt⟩ := h.cell hb0
  refine ⟨vb, vc, by rw [hl] at hv; exact hv, fun p hp => ?_, fun _ => hlt⟩
  obtain ⟨b, hb⟩ := getElem?_of_lt (xs := bs) (i := p) (by omega)
  obtain ⟨vb2, vc2, hv2, hc, _⟩ := h.cell hb
  rw [hv] at hv2
  simp only [Value.slice.injEq, Option.some.injEq, Addr.mk.injEq, and_true, true_and] at hv2
  rw [← hv2.1] at hc
  exact ⟨b, hc, (h.rows p b hb).2⟩
end
def Ab17 (s : Lts) (n : Nat) (w : World) (e : Ending) (w' : World) : Prop :=
  ∃ (R : Nat → Nat → Bool) (la : Option Addr) (lb lc : Nat), e = .returned (.slice la n lc) ∧ Great s.norm n R ∧ (0 < n → la = some ⟨lb, 0, none⟩) ∧ BoolsIn w' lb n R ∧ Below w.heap.size w w'
set_option maxRecDepth 100000 in
set_option maxHeartbeats 16000000 in
theorem above17r_any {s : Lts} {n : Nat} (hr : s.Right) (hn : s.st = (n : Int)) (hn3 : n ≤ 300) {a : Option Addr} {b off c : Nat} {w : World} (hS : SlAt encE 3 w a b off s.es) (hc : s.es.length ≤ c) (hcm : c ≤ maxLen) :
    Calls Tryz.prog 9 #[.agg #[.int .i64 s.st, .int .i64 s.lb, .int .i64 s.s0, .slice a s.es.length c]] w (Ab17 s n w) := by
  have hmk := run_make_row' (P := Tryz.prog) 57 4 (.bool false) 1 Tryz.underlying57 (by kernel_rfl) rfl .i64 .i64 n (by omega) (by omega)
  have hB0 := (Below.refl w.heap.size w).alloc (Nat.le_refl _) (Obj.cells #[.int .i64 s.st, .int .i64 s.lb, .int .i64 s.s0, .slice a s.es.length c] 24)
  have hbx := heap_alloc_new w (Obj.cells #[.int .i64 s.st, .int .i64 s.lb, .int .i64 s.s0, .slice a s.es.length c] 24)
  have HO := hid (refOut_any hr (hS.below hB0 (Nat.le_refl _)) hc hcm)
  obtain ⟨el, hel⟩ : ∃ el, el = s.es.length := ⟨_, rfl⟩
  rw [hn, ← hel] at HO hB0 hbx
  rw [hn, ← hel]
  have HB0 := hid hB0; have HBX := hid hbx; have HR := hid hr; have HN := hid hn
  clear hB0 hbx hr hn hS hc hcm hel
  go_enter Tryz.func9, Tryz.ntmps9
  go_wp2_with fail
  refine HO.out.mono ?_
  rintro e w2 ⟨ob, n', base, hn', rfl, hrows, hob, hB2⟩
  obtain rfl : n = n' := by have := HN.out; omega
  have hx2 := (hB2.block w.heap.size (by simp)).trans HBX.out
  have HX2 := hid hx2; have HB2 := hid (HB0.out.trans (hB2.mono (by simp))); have HRW := hid (StepsIn.of hrows)
  have hup : BG w2.heap.size w2 w2 n (allR n) (.slice none 0 0) [] := ⟨Below.refl _ _, ⟨by simp, .inl ⟨rfl, rfl⟩⟩, by simp, .nil⟩
  have HUP := hid hup
  have HX : Hid (∀ V, Below w2.heap.size w2 V → V.cell? ⟨w.heap.size, 0, none⟩ = some (.int .i64 n) ∧ w.heap.size < V.heap.size) := hid (fun V hV => by
    have h := (hV.block w.heap.size (Array.getElem?_eq_some_iff.1 HX2.out).1).trans HX2.out
    exact ⟨by simp [World.cell?, h], (Array.getElem?_eq_some_iff.1 h).1⟩)
  clear hrows hob hB2 hx2 hn' hup HO HB0 HBX
  go_wp2_with fail
  go_loopw [4, 5, 6, 7] (fun v4 v5 _ _ wr => ∃ (k : Nat) (bs : List Nat), v5 = .int .i64 k ∧ k ≤ n ∧ bs.length = k ∧ BG w2.heap.size w2 wr n (allR n) v4 bs) (fun _ v5 _ _ _ => n - (intOf v5).toNat)
  case atStart => exact ⟨0, [], rfl, Nat.zero_le _, rfl, HUP.out⟩
  case round => as_aux_lemma =>
    obtain ⟨k, bs, rfl, hk, hvl, hup⟩ := hrel
    have HU := hid hup; have HVL := hid hvl
    have hsz := hup.bel.size
    obtain ⟨x0, xl⟩ := HX.out _ hup.bel
    clear hup hvl HUP
    by_cases hlt : k < n
    · have hkI : (k : Int) < (n : Int) := by omega
      obtain ⟨wo, rfl⟩ : ∃ wo, wo = wr := ⟨_, rfl⟩
      have hmade := World.rowIs_made wo (.bool false) n 4
      obtain ⟨w5, hw5⟩ : ∃ w5, w5 = wo.alloc (.cells (madeCells #[.bool false] n) 4) := ⟨_, rfl⟩
      have hb5 : Below wo.heap.size wo w5 := by rw [hw5]; exact (Below.refl _ _).alloc (Nat.le_refl _) _
      rw [← hw5] at hmade
      have HMD := hid hmade; have HB5 := hid hb5; have HW5 := hid hw5
      clear hmade hb5 hw5
      go_upto_region 7 with fail
      rw [← HW5.out]
      obtain ⟨rb, hrb⟩ : ∃ rb, rb = wo.heap.size := ⟨_, rfl⟩
      rw [← hrb] at HMD ⊢
      have HRB := hid hrb
      clear x0 xl hrb
      go_wp2_with fail
      go_loopw [7] (fun v7 wx => ∃ q : Nat, v7 = .int .i64 q ∧ q ≤ n ∧ wx.rowIs rb 4 n (fun j => .bool (decide (j < q))) ∧ Below wo.heap.size wo wx) (fun v7 _ => n - (intOf v7).toNat)
      case atStart => exact ⟨0, rfl, Nat.zero_le _, by simpa using HMD.out, HB5.out⟩
      case round =>
        obtain ⟨q, rfl, hq, hrow, hB⟩ := hrel
        obtain ⟨x0, xl⟩ := HX.out _ (HU.out.bel.trans (hB.mono hsz))
        have hl := hrow.lt
        by_cases hqn : q < n
        · have hqI : (q : Int) < (n : Int) := by omega
          have c0 := hrow.cell hqn
          have f0 := hrow.frozen q
          have hs := hrow.set q (.bool true)
          have HS2 := hid (hs.congr (g := fun j => .bool (decide (j < q + 1))) (fun j _ => by
            by_cases e : j = q
            · subst e; simp
            · rw [if_neg e]
              congr 1
              rw [decide_eq_decide]; omega))
          have HB := hid (hB.setCell (p := ⟨rb, q, none⟩) (by rw [HRB.out]; exact Nat.le_refl _) (.bool true))
          clear hrow hB hs
          go_wp2_with fail
          go_roundw
          case rel => exact ⟨q + 1, by go_num, by omega, HS2.out, HB.out⟩
          case measure => simp [intOf]; omega
        · obtain rfl : n = q := by omega
          have hu5 := HU.out.call hsz hB
          have hs5 := hB.size
          have HU5 := hid hu5; have HRO := hid hrow
          have HLT : Hid (∀ x ∈ bs, x < rb) := hid (fun x hx => by
            obtain ⟨j, hj⟩ := List.getElem?_of_mem hx
            rw [HRB.out]; exact (HU.out.rows j x hj).2.lt)
          have hrbl := hrow.lt
          clear hu5 hrow hB
          go_wp2_with (at_builtin; refine wpList_lies rfl _ _ 31 rfl rowBBS (base := w2.heap.size) (by simp; omega) rfl (own_below HU5.out.own ((Below.refl wr.heap.size wr).alloc (Nat.le_refl _) _)) ⟨wr.heap.size, 0, none⟩ 1 1 [.slice (some ⟨rb, 0, none⟩) n n] rfl rfl (cells1 (by simp [go_sem])) (by simp [Value.oneCell']) (by omega) (by rw [HVL.out]; omega) (by unfold maxLen; rw [HVL.out]; omega) _ rfl ?_; intro g cap w6 hown6 hg6 _ _)
          have hba := (Below.refl wr.heap.size wr).alloc (Nat.le_refl _) (.cells #[.slice (some ⟨rb, 0, none⟩) n n] 57)
          have hnx := (HU5.out.call (by omega) hba).push (v' := .slice (some ⟨g, 0, none⟩) (bs.length + 1) cap) (b := rb) (by simp; omega) (by rw [HRB.out]; exact hsz) HLT.out (HRO.out.of_block (hba.block _ hrbl)) hown6 hg6
          have HNX := hid hnx
          clear hnx hown6 hg6 hba x0 xl
          go_roundw
          case rel => exact ⟨k + 1, bs ++ [rb], by go_num, by omega, by simp [HVL.out], HNX.out⟩
          case measure => simp [intOf]; omega
    · obtain rfl : n = k := by omega
      clear hmk
      obtain ⟨va, vc, rfl⟩ := HU.out.sl HVL.out
      go_wp2_with fail
      clear x0 xl
      go_loopg [8, 9, 10] (cntR n (allR n) + 1) (fun g v8 _ _ wr => ∃ (R : Nat → Nat → Bool) (gb : Bool), v8 = .bool gb ∧ g = cntR n R + (if gb then 1 else 0) ∧ BG w2.heap.size w2 wr n R (.slice va n vc) bs ∧ Left s.norm n R ∧ (gb = false → ∀ a i, a < n → R a i = true → doesB s.norm R a i = true))
      case atStart => exact ⟨_, true, rfl, rfl, HU.out, left_all _ n, fun h => by cases h⟩
      case round =>
        obtain ⟨R0, gb, rfl, hgk, hbg, hleft, hdoes⟩ := hrel
        have HA0 := hid hbg; have HLF := hid hleft; have HGK := hid hgk; have HDS := hid hdoes
        clear hbg hleft hgk hdoes
        obtain rfl | rfl : gb = false ∨ gb = true := by cases gb; exact .inl rfl; exact .inr rfl
        · have hfin : ∃ lb, (0 < n → va = some ⟨lb, 0, none⟩) ∧ BoolsIn wr lb n R0 := by
            by_cases h0 : 0 < n
            · obtain ⟨vb, vc2, hv, hb⟩ := HA0.out.bools HVL.out h0
              simp only [Value.slice.injEq] at hv
              exact ⟨vb, fun _ => hv.1, hb⟩
            · exact ⟨0, fun h => absurd h h0, fun p hp => absurd hp (by omega), fun h => absurd h h0⟩
          obtain ⟨lb, hl1, hl2⟩ := hfin
          have HL1 := hid hl1; have HL2 := hid hl2
          have HGT : Hid (Great s.norm n R0) := hid ⟨HLF.out, HDS.out rfl⟩
          clear hl1 hl2
          have HRES : Hid (Ab17 s n w (.returned (.slice va n vc)) wr) := hid ⟨R0, va, lb, vc, rfl, HGT.out, HL1.out, HL2.out, HB2.out.trans (HA0.out.bel.mono HB2.out.size)⟩
          go_wp2_with fail
          go_ret
          exact HRES.out
        · obtain ⟨K, hK⟩ : ∃ K, K = cntR n R0 := ⟨_, rfl⟩
          have HK := hid hK
          clear hK
          go_wp2_with fail
          go_loopw [8, 9, 10] (fun v8 v9 _ wr => ∃ (p c : Nat) (R : Nat → Nat → Bool), v9 = .int .i64 p ∧ v8 = .bool (decide (0 < c)) ∧ p ≤ n ∧ BG w2.heap.size w2 wr n R (.slice va n vc) bs ∧ R6 s.norm n R K c p 0) (fun _ v9 _ _ => n - (intOf v9).toNat)
          case atStart => exact ⟨0, 0, R0, rfl, rfl, Nat.zero_le _, HA0.out, ⟨HLF.out, by rw [HK.out]; omega, fun _ a i h => by omega⟩⟩
          case round =>
            obtain ⟨p, c, R, rfl, rfl, hp, hbg, h6⟩ := hrel
            have HA := hid hbg; have H6 := hid h6
            obtain ⟨x0, xl⟩ := HX.out _ hbg.bel
            clear hbg h6
            by_cases hpn : p < n
            · have hpI : (p : Int) < (n : Int) := by omega
              obtain ⟨b, hb⟩ := getElem?_of_lt (xs := bs) (i := p) (by rw [HVL.out]; exact hpn)
              have HB := hid hb
              clear hb
              go_wp2_with fail
              clear x0 xl
              go_loopw [8, 10] (fun v8 v10 wr => ∃ (q c : Nat) (R : Nat → Nat → Bool), v10 = .int .i64 q ∧ v8 = .bool (decide (0 < c)) ∧ q ≤ n ∧ BG w2.heap.size w2 wr n R (.slice va n vc) bs ∧ R6 s.norm n R K c p q) (fun _ v10 _ => n - (intOf v10).toNat)
              case atStart => exact ⟨0, c, R, rfl, rfl, Nat.zero_le _, HA.out, H6.out⟩
              case round => as_aux_lemma =>
                obtain ⟨q, c, R, rfl, rfl, hq, hbg, h6⟩ := hrel
                have HA := hid hbg; have H6 := hid h6
                obtain ⟨x0, xl⟩ := HX.out _ hbg.bel
                by_cases hqn : q < n
                · have hqI : (q : Int) < (n : Int) := by omega
                  obtain ⟨vb, vc2, hv, hbi⟩ := hbg.bools HVL.out (by omega)
                  simp only [Value.slice.injEq] at hv
                  obtain ⟨rfl, _, rfl⟩ := hv
                  obtain ⟨vb2, vc3, hv2, c0, cl⟩ := hbg.cell HB.out
                  simp only [Value.slice.injEq, Option.some.injEq, Addr.mk.injEq, and_true] at hv2
                  rw [← hv2.1] at c0 cl
                  have d0 := (hbg.rows p b HB.out).2.cell hqn
                  have dl := (hbg.rows p b HB.out).2.lt
                  have df := (hbg.rows p b HB.out).2.frozen q
                  obtain ⟨rv, hrv⟩ : ∃ rv, rv = R p q := ⟨_, rfl⟩
                  rw [← hrv] at d0
                  have HRV := hid hrv
                  have hme := meets17_any (oc := n) (ic := vc) HR.out.norm HN.out (HRW.out.below hbg.bel) hbi hpn hqn
                  have HME := hid hme
                  obtain ⟨dv, hdv⟩ : ∃ dv, dv = doesB s.norm R p q := ⟨_, rfl⟩
                  rw [← hdv] at HME
                  have HDV := hid hdv
                  clear hbg h6 hbi hv2 hrv hme hdv
                  obtain rfl | rfl : rv = false ∨ rv = true := by cases rv; exact .inl rfl; exact .inr rfl
                  · have HK6 := hid (H6.out.keep (fun h => by rw [← HRV.out] at h; cases h))
                    go_wp2_with fail
                    go_roundw
                    case rel => exact ⟨q + 1, c, R, by go_num, rfl, by omega, HA.out, HK6.out⟩
                    case measure => simp [intOf]; omega
                  · go_wp2_with fail
                    refine HME.out.mono ?_
                    rintro e w7 ⟨rfl, m7, rfl⟩
                    have HA7 := hid (HA.out.call HA.out.bel.size (bdrew (n := m7) (Below.refl _ _)))
                    obtain rfl | rfl : dv = false ∨ dv = true := by cases dv; exact .inl rfl; exact .inr rfl
                    · have HK6 := hid (H6.out.drop HR.out.norm HN.out hpn hqn HRV.out.symm HDV.out.symm)
                      have HA8 := hid (HA7.out.drop HB.out hqn)
                      go_wp2_with fail
                      go_roundw
                      case rel => exact ⟨q + 1, c + 1, _, by go_num, by simp, by omega, HA8.out, HK6.out⟩
                      case measure => simp [intOf]; omega
                    · have HK6 := hid (H6.out.keep (fun _ => HDV.out.symm))
                      go_wp2_with fail
                      go_roundw
                      case rel => exact ⟨q + 1, c, R, by go_num, rfl, by omega, HA7.out, HK6.out⟩
                      case measure => simp [intOf]; omega
                · obtain rfl : n = q := by omega
                  have HK6 := hid (H6.out.next hpn)
                  clear hbg h6
                  go_wp2_with fail
                  go_roundw
                  case rel => exact ⟨p + 1, c, R, by go_num, rfl, by omega, HA.out, HK6.out⟩
                  case measure => simp [intOf]; omega
            · obtain rfl : n = p := by omega
              have hcK := H6.out.cnt
              have hmeas : cntR n R + (if decide (0 < c) then 1 else 0) < gk := by
                rw [HGK.out, ← HK.out]
                by_cases h0 : 0 < c
                · simp [h0]; omega
                · simp [h0]; omega
              have HDN : Hid (decide (0 < c) = false → ∀ a i, a < n → R a i = true → doesB s.norm R a i = true) := hid (fun h a i ha hR => H6.out.zero (by simp at h; omega) a i (.inl ha) hR)
              obtain ⟨mv, hmv⟩ : ∃ mv, mv = cntR n R + (if decide (0 < c) then 1 else 0) := ⟨_, rfl⟩
              rw [← hmv] at hmeas
              have HMV := hid hmv
              obtain ⟨gc, hgc⟩ : ∃ gc, gc = decide (0 < c) := ⟨_, rfl⟩
              rw [← hgc] at HDN HMV ⊢
              clear hmv hgc hcK
              go_wp2_with fail
              go_roundg mv
              case rel => exact ⟨R, gc, rfl, HMV.out, HA.out, H6.out.left, HDN.out⟩
              case measure => exact hmeas
end Go.Proofs.YtbaccmlfnbgehaaGreatDoor

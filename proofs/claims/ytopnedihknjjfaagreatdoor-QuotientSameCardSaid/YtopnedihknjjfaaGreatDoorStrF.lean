/-
  strong.play.blocks: the blocks of each heap.
-/
import Derived.Test.YtopnedihknjjfaaGreatDoorGParI
import Derived.Deep.RegionHeld3
namespace Go.Proofs.YtopnedihknjjfaaGreatDoor
open Go.RowKit Pl

theorem below_two {a b c : World} (h : Below a.heap.size a b) (k : Below b.heap.size b c) : Below a.heap.size a c := h.trans (k.mono h.size)

namespace Pl
/-- A block's heap. -/
def hbk (el hp : Nat → Nat) (bl : List B3) (b : Nat) : Nat := hp (el (bl.getD b (0, 0, 0)).1)
/-- The first blocks of a heap. -/
def bksOf (el hp : Nat → Nat) (bl : List B3) (k h : Nat) : List Nat := (List.range k).filter (fun b => decide (hbk el hp bl b = h))
theorem bks_step (el hp : Nat → Nat) (bl : List B3) (k : Nat) : upd (fun h => (bksOf el hp bl k h).map Int.ofNat) (hbk el hp bl k) ((bksOf el hp bl k (hbk el hp bl k)).map Int.ofNat ++ [(k : Int)]) = fun h => (bksOf el hp bl (k + 1) h).map Int.ofNat := by
  funext h
  unfold upd bksOf
  rw [List.range_succ, List.filter_append]
  by_cases e : h = hbk el hp bl k
  · rw [if_pos e]; subst e; simp
  · rw [if_neg e]
    have : ¬ hbk el hp bl k = h := fun e2 => e e2.symm
    simp [this]
theorem bks_len (el hp : Nat → Nat) (bl : List B3) (k h : Nat) : (bksOf el hp bl k h).length ≤ k := by
  unfold bksOf
  have := List.length_filter_le (fun b => decide (hbk el hp bl b = h)) (List.range k)
  simpa using this
theorem mem_bks {el hp : Nat → Nat} {bl : List B3} {k h b : Nat} : b ∈ bksOf el hp bl k h ↔ b < k ∧ hbk el hp bl b = h := by unfold bksOf; simp
theorem PI.hbk {n : Nat} {el pl inn hp : Nat → Nat} {bl : List B3} (h : PI n el pl inn bl) {b : Nat} (hb : b < bl.length) : ∃ p, p < n ∧ inn p = b ∧ Pl.hbk el hp bl b = hp p := by
  have hx : bl[b]? = some bl[b] := List.getElem?_eq_getElem hb
  obtain ⟨h1, h2, h3⟩ := h.blk b _ hx
  refine ⟨el bl[b].1, (h.hel _ (by omega)).1, h.cov b _ _ hx (Nat.le_refl _) h1, ?_⟩
  unfold Pl.hbk
  rw [List.getD_eq_getElem?_getD, hx]; rfl
end Pl

section
variable {w0 w : World} {s : Lts} {K : PK} {S : SK} {n : Nat} {el pl inn : Nat → Nat} {bl : List B3} {hp ga : Nat → Nat} {sz : List Int} {tl : List Value} {rest : List Rw}

/-- What blocks answers. -/
def BlocksPost (w0 : World) (K : PK) (S : SK) (n : Nat) (el pl inn : Nat → Nat) (bl : List B3) (hp ga : Nat → Nat) (sz : List Int) (tl : List Value) (rest : List Rw) (w : World) (e : Ending) (w' : World) : Prop :=
  ∃ (ob : Nat) (vs : Nat → Value), e = .returned (.slice (some ⟨ob, 0, none⟩) sz.length sz.length) ∧
    Rws w0 w' (FR ob sz.length vs (fun h => (bksOf el hp bl bl.length h).map Int.ofNat) ++ (PR K n el pl inn bl ++ (SR S K.pb n hp ga sz tl ++ rest))) ∧ w0.heap.size ≤ w.heap.size

set_option maxRecDepth 100000 in
set_option maxHeartbeats 4000000 in
theorem blocks_any (h : SW w0 w s K S n el pl inn bl hp ga sz tl rest) (hz : sz.length ≤ 1000) (hz0 : 0 < sz.length) (hh : ∀ p, p < n → hp p < sz.length) :
    Calls Tryz.prog 122 #[.pointer (some ⟨S.xb, 0, none⟩)] w (BlocksPost w0 K S n el pl inn bl hp ga sz tl rest w) := by
  have H := Lib.hid h; have HH := Lib.hid hh
  have hn1 := h.par.n1
  have hfew := h.par.pi.few
  have hlo0 := h.par.rws.bel.size
  obtain ⟨c0, c1, c2, c3, c4, c5, c6, xl⟩ := h.run.sCells
  obtain ⟨m, hm⟩ : ∃ m, m = sz.length := ⟨_, rfl⟩
  obtain ⟨bm, hbm⟩ : ∃ bm, bm = bl.length := ⟨_, rfl⟩
  rw [← hm] at hz hz0 c3
  rw [← hbm] at hfew
  have hmk := run_make_row' (P := Tryz.prog) 91 27 (.slice none 0 0) 24 Tryz.underlying91 (by kernel_rfl) rfl .i64 .i64 m (by omega) (by omega)
  have h1 := h.par.rws.frMade (m := m) (by unfold maxLen; omega)
  have H1 := Lib.hid h1
  have hpb := parBlocks_any (H1.out.sub (List.sublist_append_right _ _))
  rw [← hbm] at hpb
  have HPB := Lib.hid hpb
  obtain ⟨ob, hob⟩ : ∃ ob, ob = w.heap.size := ⟨_, rfl⟩
  rw [← hob] at H1
  have HM := Lib.hid hm; have HBM := Lib.hid hbm
  clear h hh h1 hpb hm hbm c0 c2 c4 c5 c6
  go_enter Tryz.func122, Tryz.ntmps122
  go_wp2_with fail
  refine HPB.out.mono ?_
  rintro e w1 ⟨rfl, rfl⟩
  rw [← hob]
  obtain ⟨V, hV⟩ : ∃ V, V = w.alloc (.cells (madeCells #[.slice none 0 0] m) 27) := ⟨_, rfl⟩
  rw [← hV] at H1 ⊢
  clear hV hob hmk c1 c3 xl HPB
  go_wp2_with fail
  go_loopw [4, 5, 17] (fun _ _ v17 wr => ∃ (k : Nat) (vs : Nat → Value), v17 = .int .i64 k ∧ k ≤ bm ∧ Rws w0 wr (FR ob m vs (fun h => (bksOf el hp bl k h).map Int.ofNat) ++ (PR K n el pl inn bl ++ (SR S K.pb n hp ga sz tl ++ rest)))) (fun _ _ v17 _ => bm - (intOf v17).toNat)
  case atStart => exact ⟨0, _, rfl, Nat.zero_le _, H1.out⟩
  case round =>
    obtain ⟨k, vs, rfl, hk, hrw⟩ := hrel
    have HR := Lib.hid hrw
    clear hrw H1
    by_cases hkb : k < bm
    · have hx : bl[k]? = some (bl.getD k (0, 0, 0)) := by rw [List.getD_eq_getElem?_getD, List.getElem?_eq_getElem (by have := HBM.out; omega)]; rfl
      obtain ⟨x, hxx⟩ : ∃ x, x = bl.getD k (0, 0, 0) := ⟨_, rfl⟩
      rw [← hxx] at hx
      obtain ⟨b1, b2, b3⟩ := H.out.par.pi.blk k x hx
      have hel := (H.out.par.pi.hel x.1 (by omega)).1
      have hhb : hbk el hp bl k = hp (el x.1) := by unfold hbk; rw [← hxx]
      have hhm := HH.out _ hel
      rw [← HM.out] at hhm
      have KEEP : RowKit.Hid (∀ W, Below wr.heap.size wr W → W.cell? ⟨S.xb, 1, none⟩ = some (.pointer (some ⟨K.pb, 0, none⟩)) ∧ W.cell? ⟨S.xb, 2, none⟩ = some (.slice (some ⟨S.hb, 0, none⟩) n n) ∧ W.cell? ⟨S.hb, el x.1, none⟩ = some (.int .i64 (hp (el x.1) : Int)) ∧ Below wr.heap.size wr W) := Lib.hid (fun W hW => by
        have h1 := (HR.out.call hW).sub ((List.sublist_append_right _ _).trans (List.sublist_append_right _ _))
        have h2 := h1.sCells
        exact ⟨h2.2.1, h2.2.2.1, h1.sHp hel, hW⟩)
      have CF : RowKit.Hid (∀ W, Below wr.heap.size wr W → Calls Tryz.prog 155 #[.pointer (some ⟨K.pb, 0, none⟩), .int .i64 k] W fun e w' => e = .returned (.int .i64 (el x.1 : Int)) ∧ Below W.heap.size W w') := Lib.hid (fun W hW =>
        parFirst_any (rest := SR S K.pb n hp ga sz tl ++ rest) ⟨(HR.out.call hW).sub (List.sublist_append_right _ _), H.out.par.pi, hn1⟩ hx)
      have xl := (HR.out.sub ((List.sublist_append_right _ _).trans (List.sublist_append_right _ _))).sCells.2.2.2.2.2.2.2
      have HHB := Lib.hid hhb
      obtain ⟨ev, hev⟩ : ∃ ev, ev = el x.1 := ⟨_, rfl⟩
      rw [← hev] at KEEP CF hel hhm HHB
      obtain ⟨hv, hhv⟩ : ∃ hv, hv = hp ev := ⟨_, rfl⟩
      rw [← hhv] at KEEP hhm HHB
      have hkI : (k : Int) < (bm : Int) := by omega
      have heI : (ev : Int) < (n : Int) := by omega
      have hhI : (hv : Int) < (m : Int) := by omega
      have B0 := Lib.hid (Below.refl wr.heap.size wr).drew
      clear hx hxx b1 b2 b3 hhb hev hhv
      go_wp2_with fail
      go_region_held3 (fun W => W.cell? ⟨S.xb, 1, none⟩ = some (.pointer (some ⟨K.pb, 0, none⟩)) ∧ W.cell? ⟨S.xb, 2, none⟩ = some (.slice (some ⟨S.hb, 0, none⟩) n n) ∧ W.cell? ⟨S.hb, ev, none⟩ = some (.int .i64 (hv : Int)) ∧ Below wr.heap.size wr W)
        (first | (exact KEEP.out _ B0.out) | (go_split_ands; exact KEEP.out _ (below_two (by assumption) (by assumption))))
        ((go_at_call 155; go_split_ands; refine (CF.out _ (by assumption)).mono ?_; rintro e w1 ⟨rfl, hB⟩))
      have HB1 : RowKit.Hid (Below wr.heap.size wr w1) := Lib.hid (by go_split_ands; assumption)
      go_split_ands
      have HR1 := Lib.hid (HR.out.call HB1.out)
      have hown0 := (HR1.out.alloc (.cells #[.int .i64 (k : Int)] 3)).frOwn (l := hv) hhm
      have HOWN := Lib.hid hown0
      have HG : RowKit.Hid (∀ (w8 : World) (g cap : Nat), w8.ownsRow w0.heap.size 3 1 (.slice (some ⟨g, 0, none⟩) (((bksOf el hp bl k hv).map Int.ofNat).length + 1) cap) (((bksOf el hp bl k hv).map Int.ofNat).length + 1) (((bksOf el hp bl k hv).map Int.ofNat).flatMap encI ++ [.int .i64 (k : Int)]) →
          (w1.alloc (.cells #[.int .i64 (k : Int)] 3)).grownBy w8 (vs hv).ownBlock → ((vs hv).ownBlock = some g ∨ w1.heap.size ≤ g) →
          w8.cell? ⟨ob, hv, none⟩ = some (vs hv) ∧ w8.frozen? ⟨ob, hv, none⟩ = false ∧ ob < w8.heap.size ∧ Rws w0 (w8.setCell ⟨ob, hv, none⟩ (.slice (some ⟨g, 0, none⟩) (((bksOf el hp bl k hv).map Int.ofNat).length + 1) cap)) (FR ob m (upd vs hv (.slice (some ⟨g, 0, none⟩) (((bksOf el hp bl k hv).map Int.ofNat).length + 1) cap)) (fun h => (bksOf el hp bl (k + 1) h).map Int.ofNat) ++ (PR K n el pl inn bl ++ (SR S K.pb n hp ga sz tl ++ rest)))) := Lib.hid (fun w8 g cap ho hg hl => by
        have h2 := HR1.out.frGrow ((Below.refl w1.heap.size w1).alloc (Nat.le_refl _) _) hhm (v' := .slice (some ⟨g, 0, none⟩) (((bksOf el hp bl k hv).map Int.ofNat).length + 1) cap) (ys := (bksOf el hp bl k hv).map Int.ofNat ++ [(k : Int)]) (by rw [List.length_append, List.flatMap_append]; exact ho) hg (fun g' hg' => by simp only [Value.ownBlock, Option.some.injEq] at hg'; subst hg'; exact hl)
        have e := bks_step el hp bl k
        rw [HHB.out] at e
        rw [e] at h2
        exact h2)
      obtain ⟨q0, q1, q2, q3⟩ := HR1.out.frCell (l := hv) hhm
      have hbl := bks_len el hp bl k hv
      have hlo := HR1.out.bel.size
      have hlm : ((bksOf el hp bl k hv).map Int.ofNat).length = (bksOf el hp bl k hv).length := List.length_map ..
      rw [hlm] at HG HOWN
      obtain ⟨wl, hwl⟩ : ∃ wl, wl = (bksOf el hp bl k hv).length := ⟨_, rfl⟩
      rw [← hwl] at HG HOWN hbl
      obtain ⟨v, hvv⟩ : ∃ v, v = vs hv := ⟨_, rfl⟩
      rw [← hvv] at q0 HG HOWN
      rename_i x1 x2 x3
      clear x1 x2 x3 KEEP CF B0 hown0 hlm hwl hvv xl hel HR HB1
      go_wp2_with (at_builtin; refine wpList_lie rfl _ _ _ rfl rowI (base := w0.heap.size) (by simp; omega) rfl HOWN.out ⟨w1.heap.size, 0, none⟩ 1 1 [.int .i64 (k : Int)] rfl rfl (cells1 (by simp [go_sem])) (by simp [Value.oneCell']) (by decide) (by omega) (by unfold maxLen; omega) w1.heap.size (by simp) ?_; intro g cap w7 hown7 hg7 hl7 hlt7; obtain ⟨p0, p1, p2, p3⟩ := HG.out w7 g cap hown7 hg7 hl7)
      have HZ := Lib.hid p3
      clear p0 p1 p2 p3 hown7 hg7 hl7 hlt7 hlo HOWN HG q0 q1 q2 q3 HR1
      go_roundw
      case rel => exact ⟨k + 1, _, by go_num, by omega, HZ.out⟩
      case measure => simp [intOf]; omega
    · obtain rfl : k = bm := by omega
      have hr := HR.out
      rw [HBM.out] at hr
      have HR2 := Lib.hid hr
      clear hr HR
      go_wp2_with fail
      go_ret
      unfold BlocksPost
      rw [← HM.out]
      exact ⟨ob, vs, rfl, HR2.out, hlo0⟩
end
end Go.Proofs.YtopnedihknjjfaaGreatDoor

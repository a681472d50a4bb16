/-
  refine.Partition: own, asked, Size, Blocks, Block, row, First, Len.
  refine.Partition: swap, Mark.
-/
import Derived.Test.YtfakdgljilmpkaaGreatDoorG34
import Derived.BigRegion
import Derived.Deep.QuietTactic
import Derived.BigQuiet
import Derived.IntWalk
import Derived.Outline
namespace Go.Proofs.YtfakdgljilmpkaaGreatDoor
open Go.RowKit Pl

theorem bdrewP {w0 w : World} {B : Nat} (h : Below B w0 w) (n : Nat) : Below B w0 (w.drewN n) := ⟨h.os, h.tape, h.output, h.size, h.block⟩

section
variable {w0 w : World} {K : PK} {n : Nat} {el pl inn : Nat → Nat} {bl : List B3} {rest : List Rw}

set_option maxRecDepth 100000 in
theorem parOwn_any (w : World) (b : Nat) : Calls Tryz.prog 100 #[.pointer (some ⟨b, 0, none⟩)] w fun e w' => e = .returned (.pointer (some ⟨b, 0, none⟩)) ∧ w = w' := by
  go_enter Tryz.func100, Tryz.ntmps100
  go_wp2_with fail
  go_ret
  exact ⟨rfl, rfl⟩

set_option maxRecDepth 100000 in
theorem asked_ok (w : World) (b i n : Nat) (hi : i < n) : Calls Tryz.prog 139 #[.pointer (some ⟨b, 0, none⟩), .int .i64 i, .int .i64 n] w fun e w' => e = .returned .nilIface ∧ w = w' := by
  have h1 : ¬ (n : Int) ≤ (i : Int) := by omega
  go_enter Tryz.func139, Tryz.ntmps139
  go_wp2_with fail
  go_ret
  exact ⟨rfl, rfl⟩

set_option maxRecDepth 100000 in
theorem parSize_any (h : Rws w0 w (PR K n el pl inn bl ++ rest)) : Calls Tryz.prog 158 #[.pointer (some ⟨K.pb, 0, none⟩)] w fun e w' => e = .returned (.int .i64 n) ∧ w = w' := by
  obtain ⟨c0, c1, c2, c3⟩ := h.pCells
  have l0 := h.pLts.1
  clear h
  go_enter Tryz.func158, Tryz.ntmps158
  go_wp2_with fail
  refine (parOwn_any w K.pb).mono ?_
  rintro e w1 ⟨rfl, rfl⟩
  go_wp2_with fail
  go_ret
  exact ⟨rfl, rfl⟩

set_option maxRecDepth 100000 in
theorem parBlocks_any (h : Rws w0 w (PR K n el pl inn bl ++ rest)) : Calls Tryz.prog 117 #[.pointer (some ⟨K.pb, 0, none⟩)] w fun e w' => e = .returned (.int .i64 bl.length) ∧ w = w' := by
  obtain ⟨c0, c1, c2, c3⟩ := h.pCells
  have l0 := h.pLts.1
  obtain ⟨m, hm⟩ : ∃ m, m = bl.length := ⟨_, rfl⟩
  rw [← hm] at c3 ⊢
  clear h hm
  go_enter Tryz.func117, Tryz.ntmps117
  go_wp2_with fail
  refine (parOwn_any w K.pb).mono ?_
  rintro e w1 ⟨rfl, rfl⟩
  go_wp2_with fail
  go_ret
  exact ⟨rfl, rfl⟩

set_option maxRecDepth 100000 in
theorem parRow_any' (h : Rws w0 w (PR K n el pl inn bl ++ rest)) (_hn : n ≤ 1000) {b : Nat} {x : B3} (hx : bl[b]? = some x) (b1 : x.1 < x.2.1) (b2 : x.2.1 ≤ n) : Calls Tryz.prog 138 #[.pointer (some ⟨K.pb, 0, none⟩), .int .i64 b] w fun e w' =>
    e = .returned (.slice (some ⟨K.eb, x.1, none⟩) (x.2.1 - x.1) (x.2.1 - x.1)) ∧ Below w.heap.size w w' := by
  obtain ⟨c0, c1, c2, c3⟩ := h.pCells
  obtain ⟨l0, l1, l2, l3, l4⟩ := h.pLts
  obtain ⟨d0, d1, d2⟩ := h.pBl hx
  obtain ⟨k0, k1, k2, k3⟩ := h.pCaps
  have hbl := (List.getElem?_eq_some_iff.1 hx).1
  obtain ⟨m, hm⟩ : ∃ m, m = bl.length := ⟨_, rfl⟩
  rw [← hm] at c3 hbl
  obtain ⟨x1, x2, x3⟩ := x
  simp only at d0 d1 d2 b1 b2 ⊢
  have q1 : (b : Int) < (m : Int) := by omega
  have q2 : (x1 : Int) ≤ (x2 : Int) := by omega
  have q3 : (x2 : Int) ≤ (K.ce : Int) := by omega
  have q4 : x1 < x2 := by omega
  clear h hx hm k0 k1 k2 k3
  go_enter Tryz.func138, Tryz.ntmps138
  go_wp2_with fail
  go_quiet (fail)
  go_wp2_with fail
  go_ret
  exact ⟨rfl, bdrewP ((Below.refl _ _).alloc (Nat.le_refl _) _) _⟩

theorem parRow_any (h : PW w0 w K n el pl inn bl rest) {b : Nat} {x : B3} (hx : bl[b]? = some x) : Calls Tryz.prog 138 #[.pointer (some ⟨K.pb, 0, none⟩), .int .i64 b] w fun e w' =>
    e = .returned (.slice (some ⟨K.eb, x.1, none⟩) (x.2.1 - x.1) (x.2.1 - x.1)) ∧ Below w.heap.size w w' := by
  obtain ⟨b1, b2, b3⟩ := h.pi.blk b x hx
  exact parRow_any' h.rws h.n1 hx b1 b2

theorem rowE0 {el : Nat → Nat} {x : B3} (h : x.1 < x.2.1) : (elRow el x)[0]? = some (el x.1) := by
  unfold elRow
  obtain ⟨m, hm⟩ : ∃ m, x.2.1 - x.1 = m + 1 := ⟨x.2.1 - x.1 - 1, by omega⟩
  rw [hm]; simp [List.range'_succ]

set_option maxRecDepth 100000 in
theorem parFirst_any (h : PW w0 w K n el pl inn bl rest) {b : Nat} {x : B3} (hx : bl[b]? = some x) : Calls Tryz.prog 118 #[.pointer (some ⟨K.pb, 0, none⟩), .int .i64 b] w fun e w' =>
    e = .returned (.int .i64 (el x.1 : Int)) ∧ Below w.heap.size w w' := by
  obtain ⟨b1, b2, b3⟩ := h.pi.blk b x hx
  have HR := Lib.hid (parRow_any h hx)
  have H := Lib.hid h
  obtain ⟨x1, x2, x3⟩ := x
  simp only at b1 b2 b3 HR ⊢
  have q4 : 0 < x2 - x1 := by omega
  have q5 : x1 < n := by omega
  clear h hx b1 b2 b3
  go_enter Tryz.func118, Tryz.ntmps118
  go_wp2_with fail
  refine HR.out.mono ?_
  rintro e w1 ⟨rfl, hB⟩
  have h1 := H.out.rws.call hB
  have c0 := h1.pEl q5
  have l0 := h1.pLts.2.1
  have HB := Lib.hid hB
  clear h1 hB
  go_wp2_with fail
  go_ret
  exact ⟨rfl, HB.out⟩

set_option maxRecDepth 100000 in
theorem parLen_any (h : PW w0 w K n el pl inn bl rest) {b : Nat} {x : B3} (hx : bl[b]? = some x) : Calls Tryz.prog 98 #[.pointer (some ⟨K.pb, 0, none⟩), .int .i64 b] w fun e w' =>
    e = .returned (.int .i64 ((memN n inn b).length : Int)) ∧ Below w.heap.size w w' := by
  have HR := Lib.hid (parRow_any h hx)
  rw [h.pi.rowE_len hx]
  clear h hx
  go_enter Tryz.func98, Tryz.ntmps98
  go_wp2_with fail
  refine HR.out.mono ?_
  rintro e w1 ⟨rfl, hB⟩
  have HB := Lib.hid hB
  clear hB
  go_wp2_with fail
  go_ret
  exact ⟨rfl, HB.out⟩
end
end Go.Proofs.YtfakdgljilmpkaaGreatDoor

namespace Go.Proofs.YtfakdgljilmpkaaGreatDoor
open Go.RowKit Pl

section
variable {w0 w : World} {K : PK} {n : Nat} {el pl inn : Nat → Nat} {bl : List B3} {rest : List Rw}

set_option maxRecDepth 100000 in
set_option maxHeartbeats 2000000 in
theorem swap_any (h : Rws w0 w (PR K n el pl inn bl ++ rest)) {i k : Nat} (hi : i < n) (hk : k < n) (hei : el i < n) (hek : el k < n) :
    Calls Tryz.prog 167 #[.pointer (some ⟨K.pb, 0, none⟩), .int .i64 i, .int .i64 k] w fun e w' => e = .returned (.tuple #[]) ∧ Rws w0 w' (PR K n (swE el i k) (swP el pl i k) inn bl ++ rest) := by
  obtain ⟨c0, c1, c2, c3⟩ := h.pCells
  obtain ⟨l0, l1, l2, l3, l4⟩ := h.pLts
  have d1 := h.pEl hi; have d2 := h.pEl hk
  have f1 := (h.pFz i).2.1; have f2 := (h.pFz k).2.1
  obtain ⟨n1, n2, n3, n4, n5, n6, n7, n8, n9, n10⟩ := h.pNe
  obtain ⟨a, ha⟩ : ∃ a, a = el i := ⟨_, rfl⟩
  obtain ⟨b, hb⟩ : ∃ b, b = el k := ⟨_, rfl⟩
  have hiI : (i : Int) < (n : Int) := by omega
  have hkI : (k : Int) < (n : Int) := by omega
  have haI : (a : Int) < (n : Int) := by omega
  have hbI : (b : Int) < (n : Int) := by omega
  have h1 : Rws w0 ((w.setCell ⟨K.eb, i, none⟩ (.int .i64 (b : Int))).setCell ⟨K.eb, k, none⟩ (.int .i64 (a : Int))).drew (PR K n (swE el i k) pl inn bl ++ rest) := by
    have := ((h.pSetEl i b).pSetEl k a).drew
    rw [ha, hb] at this ⊢
    exact this
  have g1 : swE el i k i = b := by
    unfold swE upd
    by_cases e : i = k
    · subst e; simp [hb]
    · simp [e, hb]
  have g2 : swE el i k k = a := by unfold swE upd; simp [ha]
  rw [← ha] at d1; rw [← hb] at d2
  have d3 := (h.pSetEl i b).pEl hk
  have f3 := ((h.pSetEl i b).pFz k).2.1
  obtain ⟨u, hu⟩ : ∃ u, u = upd el i b k := ⟨_, rfl⟩
  rw [← hu] at d3
  have H1 := Lib.hid h1; have G1 := Lib.hid g1; have G2 := Lib.hid g2
  have HA := Lib.hid ha; have HB := Lib.hid hb
  have han : a < n := by omega
  have hbn : b < n := by omega
  clear h h1 g1 g2 ha hb hei hek c1 c2 c3 hu
  go_enter Tryz.func167, Tryz.ntmps167
  go_wp2_with fail
  go_region
  obtain ⟨W, hW⟩ : ∃ W, W = ((w.setCell ⟨K.eb, i, none⟩ (.int .i64 (b : Int))).setCell ⟨K.eb, k, none⟩ (.int .i64 (a : Int))).drew := ⟨_, rfl⟩
  rw [← hW] at H1 ⊢
  clear hW c0 l0 l1 l2 l3 l4 d1 d2 d3 f1 f2 f3
  obtain ⟨c0, c1, c2, c3⟩ := H1.out.pCells
  obtain ⟨l0, l1, l2, l3, l4⟩ := H1.out.pLts
  have d1 := H1.out.pEl hi; have d2 := H1.out.pEl hk
  rw [G1.out] at d1; rw [G2.out] at d2
  have e1 := H1.out.pPl han; have e2 := H1.out.pPl hbn
  have f1 := (H1.out.pFz a).2.2.1; have f2 := (H1.out.pFz b).2.2.1
  have e3 := (H1.out.pSetPl b i).pPl han
  have f3 := ((H1.out.pSetPl b i).pFz a).2.2.1
  obtain ⟨v, hv⟩ : ∃ v, v = upd pl b i a := ⟨_, rfl⟩
  rw [← hv] at e3
  have h2 : Rws w0 ((W.setCell ⟨K.qb, b, none⟩ (.int .i64 (i : Int))).setCell ⟨K.qb, a, none⟩ (.int .i64 (k : Int))).drew (PR K n (swE el i k) (swP el pl i k) inn bl ++ rest) := by
    unfold swP
    rw [← HA.out, ← HB.out]
    exact ((H1.out.pSetPl b i).pSetPl a k).drew
  have H2 := Lib.hid h2
  clear c2 c3 l3 l4 hv h2 H1 HA HB G1 G2
  go_wp2_with fail
  go_region
  go_end0
  exact ⟨rfl, H2.out⟩
end
end Go.Proofs.YtfakdgljilmpkaaGreatDoor

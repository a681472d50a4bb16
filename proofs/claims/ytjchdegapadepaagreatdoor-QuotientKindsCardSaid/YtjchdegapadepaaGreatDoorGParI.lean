/-
  Lemmas.
-/
import Derived.Test.YtjchdegapadepaaGreatDoorGSameInts
import Derived.Test.YtjchdegapadepaaGreatDoorGParD
import Derived.Test.YtjchdegapadepaaGreatDoorGOrder
import Derived.Test.YtjchdegapadepaaGreatDoorGFrs
set_option maxRecDepth 100000
namespace Go.Proofs.YtjchdegapadepaaGreatDoor
open Go.RowKit Pl
open Lib (hid)
def ParZ (w : World) (pb : Nat) : Prop := ∃ qb bb, ∃ (ia : Option Addr) (ic : Nat), w.heap[pb]? = some (.cells #[.slice none 0 0, .slice (some ⟨qb, 0, none⟩) 0 0, .slice ia 0 ic, .slice (some ⟨bb, 0, none⟩) 0 0] 145 (0, 0))
theorem ParZ.below {w w' : World} {pb : Nat} (h : ParZ w pb) (hB : Below w.heap.size w w') : ParZ w' pb := by
 obtain ⟨qb, bb, ia, ic, h⟩ := h
 exact ⟨qb, bb, ia, ic, by rw [hB.block _ (Array.getElem?_eq_some_iff.1 h).1]; exact h⟩
set_option maxHeartbeats 2000000 in
theorem u1c {w : World} {zb zc : Nat} :
    Calls Tryz.prog 113 #[.slice (some ⟨zb, 0, none⟩) 0 zc] w fun e w' => ∃ pb, e = .returned (.tuple #[.pointer (some ⟨pb, 0, none⟩), .nilIface]) /\ ParZ w' pb /\ Below w.heap.size w w' /\ w.heap.size <= pb := by
 have HCA : Hid (∀ W, Calls Tryz.prog 37 #[.slice (some ⟨zb, 0, none⟩) 0 zc] W fun e w' => ∃ v, e = .returned v /\ w'.ownsRow W.heap.size 3 1 v 0 [] /\ Below W.heap.size W w') := hid (fun W => by
   have := p0v (xs := []) (a := some ⟨zb, 0, none⟩) (c := zc) (w := W) (b := 0) (off := 0) (k0m _ _ _ _) (by simp) (by simp)
   exact this)
 have HTO : Hid (∀ W, Calls Tryz.prog 61 #[.slice (some ⟨zb, 0, none⟩) 0 zc] W fun e w' => e = .returned (.int .i64 0) /\ Below W.heap.size W w') := hid (fun W => by
   have := q0d (xs := []) (a := some ⟨zb, 0, none⟩) (c := zc) (w := W) (b := 0) (off := 0) (k0m _ _ _ _) (by simp) (by simp)
   exact this)
 have hmk : ∀ w, (Instr.makeSlice 27 (.int .i64 0) (.int .i64 0)).run Tryz.prog w = .ok (.slice (some ⟨w.heap.size, 0, none⟩) 0 0) (w.alloc (.cells #[] 3)) := fun _ => by kernel_rfl
 have hmk1 : ∀ w, (Instr.makeSlice 143 (.int .i64 0) (.int .i64 0)).run Tryz.prog w = .ok (.slice (some ⟨w.heap.size, 0, none⟩) 0 0) (w.alloc (.cells #[] 208)) := fun _ => by kernel_rfl
 go_enter Tryz.func113, Tryz.ntmps113
 go_upto_region 3 with fail
 go_cut [4] from 13 to 19 (fun s4 wx => ∃ (pb qb : Nat) (ia : Option Addr) (ic : Nat), s4 = .pointer (some ⟨pb, 0, none⟩) /\ wx.heap[pb]? = some (.cells #[.slice none 0 0, .slice (some ⟨qb, 0, none⟩) 0 0, .slice ia 0 ic, .slice none 0 0] 145 (0, 0)) /\ Below w.heap.size w wx /\ w.heap.size <= pb)
 case first => (
 go_region_with (go_at_call 37; refine (HCA.out _).mono ?_; rintro e w' ⟨v, rfl, hown, hB⟩; obtain ⟨ia, ic, _, rfl, _, _, _, _⟩ := j0f (enc := encI) (xs := []) k0v hown)
 all_goals
   go_wp2_with fail
   go_meet
 · exact ⟨_, _, ia, ic, rfl, j0d _ _ _ (by simp), ((Below.refl w.heap.size w).drew.trans hB |>.alloc (by have := hB.size; exact this) _).alloc (by have := hB.size; simp; exact Nat.le_succ_of_le this) _, by have := hB.size; simp at this; omega⟩
 · have hz : w.heap.size <= w'.heap.size := by have := hB.size; simp at this; omega
   exact ⟨_, _, ia, ic, rfl, j0d _ _ _ (by simp), (((Below.refl w.heap.size w).alloc (Nat.le_refl _) _).drew.trans (hB.mono (by simp))).alloc hz _, hz⟩)
 case rest => (
 obtain ⟨pb, qb, ia, ic, rfl, hblk, hbw, hlo⟩ := hcut
 have HT := hid (HTO.out wc)
 have HBW := hid hbw
 clear hbw HTO HCA hmk
 go_wp2_with fail
 refine HT.out.mono ?_
 rintro e w1 ⟨rfl, hB1⟩
 have hb1 := (hB1.block pb (Array.getElem?_eq_some_iff.1 hblk).1).trans hblk
 have c3 : w1.cell? ⟨pb, 3, none⟩ = some (.slice none 0 0) := by simp [World.cell?, hb1]
 have f3 : w1.frozen? ⟨pb, 3, none⟩ = false := by simp [World.frozen?, hb1]
 have l0 := (Array.getElem?_eq_some_iff.1 hb1).1
 have h2 := heap_setCell_same w1 pb 3 _ _ (.slice (some ⟨w1.heap.size, 0, none⟩) 0 0) hb1
 have hz : w.heap.size <= w1.heap.size := by omega
 have HB1 := hid (((HBW.out.trans (hB1.mono HBW.out.size)).setCell (p := ⟨pb, 3, none⟩) hlo (.slice (some ⟨w1.heap.size, 0, none⟩) 0 0)).alloc (by rw [size_setCell]; exact hz) (.cells #[] 208))
 have h3 := (Below.heap_alloc (w1.setCell ⟨pb, 3, none⟩ (.slice (some ⟨w1.heap.size, 0, none⟩) 0 0)) (.cells #[] 208) pb (by rw [size_setCell]; exact l0)).trans h2
 have H3 := hid h3
 clear hblk hb1 h2 h3 hB1 HT HBW
 go_upto_region 5 with fail
 obtain ⟨U, hU⟩ : ∃ U, U = (w1.setCell ⟨pb, 3, none⟩ (.slice (some ⟨w1.heap.size, 0, none⟩) 0 0)).alloc (.cells #[] 208) := ⟨_, rfl⟩
 obtain ⟨bb, hbb⟩ : ∃ bb, bb = w1.heap.size := ⟨_, rfl⟩
 rw [<- hU] at H3 HB1 ⊢
 rw [<- hbb] at H3
 clear hU hbb c3 f3 l0
 have c3 : U.cell? ⟨pb, 3, none⟩ = some (.slice (some ⟨bb, 0, none⟩) 0 0) := by simp [World.cell?, H3.out]
 have l0 := (Array.getElem?_eq_some_iff.1 H3.out).1
 go_wp2_with fail
 refine wp_loop_rounds 1 ?_
 rw [rounds_succ]
 go_wp2_with fail
 go_ret2
 exact ⟨pb, rfl, ⟨qb, bb, ia, ic, H3.out⟩, HB1.out, hlo⟩)
theorem u1d {w0 w : World} {rest : List Rw} (h : Rws w0 w rest) {n : Nat} (hn0 : 0 < n) (hn : n <= 1000) :
    Calls Tryz.prog 91 #[.int .i64 n] w fun e w' => ∃ K : PK, e = .returned (.tuple #[.pointer (some ⟨K.pb, 0, none⟩), .nilIface]) /\ PW w0 w' K n id id z0 [(0, n, 0)] rest := by
 have hmk := run_make_row' (P := Tryz.prog) 27 3 (.int .i64 0) 8 Tryz.underlying27 (by kernel_rfl) rfl .i64 .i64 n (by omega) (by omega)
 have h1 : ¬ ((n : Int) < 0) := by omega
 have h2 : decide ((1000 : Int) < (n : Int)) = false := by simp; omega
 have HC : Hid (Calls Tryz.prog 113 #[.slice (some ⟨w.heap.size, 0, none⟩) n n] (w.alloc (.cells (madeCells #[.int .i64 0] n) 3)) fun e w' => ∃ K : PK, e = .returned (.tuple #[.pointer (some ⟨K.pb, 0, none⟩), .nilIface]) /\ PW w0 w' K n id id z0 [(0, n, 0)] rest) := by (
 have hs := h.addLit (madeCells #[.int .i64 0] n) 3 (k := 1) (n := n) (by unfold maxLen; omega) (by simp [size_madeCells])
 rw [q2e] at hs
 obtain ⟨za, zc, zb, hv, _, _, hsl, _⟩ := hs.sl (i := 0) (ys := flN n z0) rfl k0v (k0j n z0).symm
 simp only [Value.slice.injEq] at hv
 obtain ⟨rfl, _, rfl⟩ := hv
 have := hsl.ad (by rw [k0j]; exact hn0)
 simp only [Option.some.injEq, Addr.mk.injEq, and_true] at this
 subst this
 exact hid (p2i (hs.sub (List.sublist_cons_self _ _)) hn0 hn (zc := n) hsl))
 clear h
 go_enter Tryz.func91, Tryz.ntmps91
 go_wp2_with fail
 refine HC.out.mono ?_
 rintro e w1 ⟨K, rfl, hP⟩
 have HP := hid hP
 clear hP
 go_wp2_with fail
 go_ret2
 exact ⟨K, rfl, HP.out⟩
theorem x1z (w : World) :
    Calls Tryz.prog 91 #[.int .i64 0] w fun e w' => ∃ pb, e = .returned (.tuple #[.pointer (some ⟨pb, 0, none⟩), .nilIface]) /\ ParZ w' pb /\ Below w.heap.size w w' /\ w.heap.size <= pb := by
 have hmk : ∀ w, (Instr.makeSlice 27 (.int .i64 0) (.int .i64 0)).run Tryz.prog w = .ok (.slice (some ⟨w.heap.size, 0, none⟩) 0 0) (w.alloc (.cells #[] 3)) := fun _ => by kernel_rfl
 go_enter Tryz.func91, Tryz.ntmps91
 go_wp2_with fail
 refine u1c.mono ?_
 rintro e w1 ⟨pb, rfl, hP, hB, hlo⟩
 have HP := hid hP; have HB := hid (((Below.refl w.heap.size w).alloc (Nat.le_refl _) (.cells #[] 3)).trans (hB.mono (by simp)))
 have hl : w.heap.size <= pb := by simp at hlo; omega
 clear hP hB hlo
 go_wp2_with fail
 go_ret2
 exact ⟨pb, rfl, HP.out, HB.out, hl⟩
end Go.Proofs.YtjchdegapadepaaGreatDoor
namespace Go.Proofs.YtjchdegapadepaaGreatDoor
open Go.RowKit Pl
theorem j0w {w : World} {p : Addr} (a : Addr) (v : Value) (h : a.block ≠ p.block) : (w.setCell p v).cell? a = w.cell? a := World.cell?_of_block (Below.heap_setCell _ _ _ _ h)
structure SK where
  xb : Nat
  gb : Nat
  hb : Nat
  qb : Nat
  sa : Option Addr
  sc : Nat
  ta : Option Addr
  tc : Nat
def SR (S : SK) (pb n : Nat) (hp ga : Nat -> Nat) (sz : List Int) (tl : List Value) : List Rw :=
  [⟨101, 7, .slice (some ⟨S.xb, 0, none⟩) 1 1, 1, [.pointer (some ⟨S.gb, 0, none⟩), .pointer (some ⟨pb, 0, none⟩), .slice (some ⟨S.hb, 0, none⟩) n n, .slice S.sa sz.length S.sc, .slice none 0 0, .slice S.ta tl.length S.tc, .slice (some ⟨S.qb, 0, none⟩) n n]⟩,
   ⟨3, 1, .slice (some ⟨S.hb, 0, none⟩) n n, n, (flN n hp).flatMap encI⟩,
   ⟨3, 1, .slice (some ⟨S.qb, 0, none⟩) n n, n, (flN n ga).flatMap encI⟩,
   ⟨3, 1, .slice S.sa sz.length S.sc, sz.length, sz.flatMap encI⟩,
   ⟨27, 1, .slice S.ta tl.length S.tc, tl.length, tl.flatMap encV⟩]
structure SW (w0 w : World) (s : Lts) (K : PK) (S : SK) (n : Nat) (el pl inn : Nat -> Nat) (bl : List B3) (hp ga : Nat -> Nat) (sz : List Int) (tl : List Value) (rest : List Rw) : Prop where
  par : PW w0 w K n el pl inn bl (SR S K.pb n hp ga sz tl ++ rest)
  gr : GraphAt w0 S.gb s
  st : s.st = (n : Int)
section
variable {w0 w w' : World} {s : Lts} {K : PK} {S : SK} {n : Nat} {el pl inn : Nat -> Nat} {bl : List B3} {hp ga : Nat -> Nat} {sz : List Int} {tl : List Value} {rest : List Rw} {pb : Nat}
theorem SW.call (h : SW w0 w s K S n el pl inn bl hp ga sz tl rest) (hB : Below w.heap.size w w') : SW w0 w' s K S n el pl inn bl hp ga sz tl rest := ⟨⟨h.par.rws.call hB, h.par.pi, h.par.n1⟩, h.gr, h.st⟩
theorem SW.run (h : SW w0 w s K S n el pl inn bl hp ga sz tl rest) : Rws w0 w (SR S K.pb n hp ga sz tl ++ rest) := h.par.rws.sub (List.sublist_append_right _ _)
theorem Rws.sCells (h : Rws w0 w (SR S pb n hp ga sz tl ++ rest)) :
    w.cell? ⟨S.xb, 0, none⟩ = some (.pointer (some ⟨S.gb, 0, none⟩)) /\ w.cell? ⟨S.xb, 1, none⟩ = some (.pointer (some ⟨pb, 0, none⟩)) /\ w.cell? ⟨S.xb, 2, none⟩ = some (.slice (some ⟨S.hb, 0, none⟩) n n) /\ w.cell? ⟨S.xb, 3, none⟩ = some (.slice S.sa sz.length S.sc) /\
    w.cell? ⟨S.xb, 4, none⟩ = some (.slice none 0 0) /\ w.cell? ⟨S.xb, 5, none⟩ = some (.slice S.ta tl.length S.tc) /\ w.cell? ⟨S.xb, 6, none⟩ = some (.slice (some ⟨S.qb, 0, none⟩) n n) /\ S.xb < w.heap.size :=
  ⟨h.cell (i := 0) rfl rfl, h.cell (i := 0) rfl rfl, h.cell (i := 0) rfl rfl, h.cell (i := 0) rfl rfl, h.cell (i := 0) rfl rfl, h.cell (i := 0) rfl rfl, h.cell (i := 0) rfl rfl, (h.lt (i := 0) rfl).2⟩
theorem Rws.sLts (h : Rws w0 w (SR S pb n hp ga sz tl ++ rest)) : S.hb < w.heap.size /\ S.qb < w.heap.size := ⟨(h.lt (i := 1) rfl).2, (h.lt (i := 2) rfl).2⟩
theorem Rws.sHp (h : Rws w0 w (SR S pb n hp ga sz tl ++ rest)) {i : Nat} (hi : i < n) : w.cell? ⟨S.hb, i, none⟩ = some (.int .i64 (hp i : Int)) := h.cell (i := 1) rfl (v0g _ hi)
theorem Rws.sGa (h : Rws w0 w (SR S pb n hp ga sz tl ++ rest)) {i : Nat} (hi : i < n) : w.cell? ⟨S.qb, i, none⟩ = some (.int .i64 (ga i : Int)) := h.cell (i := 2) rfl (v0g _ hi)
theorem Rws.sFz (h : Rws w0 w (SR S pb n hp ga sz tl ++ rest)) (j : Nat) : w.frozen? ⟨S.xb, j, none⟩ = false /\ w.frozen? ⟨S.hb, j, none⟩ = false /\ w.frozen? ⟨S.qb, j, none⟩ = false :=
  ⟨h.fz (i := 0) rfl j, h.fz (i := 1) rfl j, h.fz (i := 2) rfl j⟩
theorem Rws.swap {A B C : List Rw} (h : Rws w0 w (A ++ (B ++ C))) : Rws w0 w (B ++ (A ++ C)) := h.perm (by
  rw [<- List.append_assoc, <- List.append_assoc]
  exact (List.perm_append_comm).append_right C)
end
namespace Pl
def stepsTo (s : Lts) (L : List Nat) : List S := L.flatMap (fun t : Nat => s.ins (t : Int))
theorem v1j (M : List S) (l : Int) (y : S) : withL l (M ++ [y]) = if y.1 = l then withL l M ++ [y.2] else withL l M := by
 unfold withL
 rw [List.filter_append, List.map_append]
 by_cases h : y.1 = l
 · rw [if_pos h]; simp [h]
 · rw [if_neg h]; simp [h]
theorem j2p (M : List S) (lN : Nat) (t : Int) : upd (fun l : Nat => withL (l : Int) M) lN (withL (lN : Int) M ++ [t]) = fun l : Nat => withL (l : Int) (M ++ [((lN : Int), t)]) := by
 funext l
 unfold upd
 rw [v1j]
 by_cases h : l = lN
 · subst h; rw [if_pos rfl, if_pos rfl]
 · rw [if_neg h, if_neg (by simp only; omega)]
theorem k1x (M : List S) (l : Int) : (withL l M).length <= M.length := by
 unfold withL; rw [List.length_map]; exact List.length_filter_le _ _
theorem x0l {M : List S} {l t : Int} : t ∈ withL l M ↔ (l, t) ∈ M := by
 unfold withL
 simp only [List.mem_map, List.mem_filter, beq_iff_eq]
 constructor
 · rintro ⟨y, ⟨hy, rfl⟩, rfl⟩; exact hy
 · intro h; exact ⟨_, ⟨h, rfl⟩, rfl⟩
theorem z0g {s : Lts} (h : s.Right) (L : List Nat) : (stepsTo s L).length <= L.length * 10000 := by
 unfold stepsTo
 induction L with
 | nil => simp
 | cons x l ih => (
 rw [List.flatMap_cons, List.length_append, List.length_cons, Nat.add_mul]
 have := v0b h (x : Int)
 omega)
theorem p1d (s : Lts) {L : List Nat} {i t : Nat} (h : L[i]? = some t) : stepsTo s (L.take (i + 1)) = stepsTo s (L.take i) ++ s.ins (t : Int) := by
 unfold stepsTo
 rw [take_snoc h, List.flatMap_append]; simp
theorem q0b {s : Lts} {n : Nat} {L : List Nat} (hL : ∀ t ∈ L, t < n) {l : Int} {p : Nat} : (p : Int) ∈ withL l (stepsTo s L) ↔ intoX s n l (· ∈ L) p := by
 rw [x0l]
 unfold stepsTo intoX
 simp only [List.mem_flatMap]
 constructor
 · rintro ⟨t, ht, h⟩
   exact ⟨t, hL t ht, ht, k1a.1 h⟩
 · rintro ⟨t, _, ht, h⟩
   exact ⟨t, ht, k1a.2 h⟩
theorem x0a {s : Lts} (hr : s.Right) {n : Nat} (hn : s.st = (n : Int)) {L : List Nat} {y : S} (h : y ∈ stepsTo s L) : 0 <= y.1 /\ y.1 < s.lb /\ ∃ p : Nat, p < n /\ y.2 = (p : Int) := by
 unfold stepsTo at h
 obtain ⟨t, _, ht⟩ := List.mem_flatMap.1 h
 have := j0e.1 (hr.edges _ (k1a.1 ht))
 simp only at this
 exact ⟨this.2.2.1, this.2.2.2.1, y.2.toNat, by omega, by omega⟩
end Pl
end Go.Proofs.YtjchdegapadepaaGreatDoor

/-
  Lemmas.
-/
import Derived.Test.YtbaccmlfnbgehaaGreatDoorGBrQ
import Derived.Test.YtbaccmlfnbgehaaGreatDoorGRws
import Derived.Laws.BitsAllLaws
import Derived.IntWalk
import Derived.BigRegion
import Derived.Deep.QuietTactic
import Derived.BigQuiet
import Derived.Outline
import Derived.Deep.Cut
import Derived.Test.YtbaccmlfnbgehaaGreatDoorGTauJ
set_option maxRecDepth 100000
open Int renaming toNat_natCast → l0, eq_ofNat_of_zero_le → l4
open List renaming getElem?_append_right → l1, length_append → l2, take_append_drop → l5, flatMap_append → l6, any_eq_true → l7, length_map → l8, mem_filter → l9, mem_map → m1
open Bool renaming or_eq_true → l3, or_assoc → m0
open Go.Proofs.Tryz
namespace Go.Proofs.YtbaccmlfnbgehaaGreatDoor
open Go.RowKit Pl
namespace Pl
def orF (F G : Nat -> Bool) (x : Nat) : Bool := F x || G x
theorem wj_or (F G : Nat -> Bool) (j : Nat) : wj F j ||| wj G j = wj (orF F G) j := by
 refine Nat.eq_of_testBit_eq fun k => ?_
 rw [Nat.testBit_or, q0i, q0i, q0i]
 unfold orF
 cases decide (k < 64) <;> simp
def wds (n : Nat) : Nat := (n + 63) / 64
theorem u2d (n : Nat) : n <= 64 * wds n := by unfold wds; omega
theorem k2q {n i : Nat} (h : i < n) : i / 64 < wds n := by unfold wds; omega
theorem p0g {n : Nat} (h : n <= 1000) : wds n <= 16 := by unfold wds; omega
theorem z0j {F : Nat -> Bool} {n : Nat} (h : ∀ x, F x = true -> x < n) : idsN F (64 * wds n) = idsN F n := by
 have h1 := u2d n
 obtain ⟨d, hd⟩ : ∃ d, 64 * wds n = n + d := ⟨64 * wds n - n, by omega⟩
 rw [hd]
 exact y0e d (fun k _ => by (
 cases e : F (n + k) with
 | false => rfl
 | true => exact absurd (h _ e) (by omega)))
end Pl
def BitRow (w : World) (b W : Nat) (F : Nat -> Bool) : Prop := w.rowIs b 78 W (fun j => .int .u64 (wj F j : Nat))
section
variable {w w' : World} {b W : Nat} {F G : Nat -> Bool}
theorem BitRow.lt (h : BitRow w b W F) : b < w.heap.size := World.rowIs.lt h
theorem BitRow.cell (h : BitRow w b W F) {j : Nat} (hj : j < W) : w.cell? ⟨b, j, none⟩ = some (.int .u64 (wj F j : Nat)) := World.rowIs.cell h hj
theorem BitRow.frozen (h : BitRow w b W F) (j : Nat) : w.frozen? ⟨b, j, none⟩ = false := World.rowIs.frozen h j
theorem BitRow.of_block (h : BitRow w b W F) (e : w'.heap[b]? = w.heap[b]?) : BitRow w' b W F := World.rowIs.of_block h e
theorem BitRow.below (h : BitRow w b W F) (hB : Below w.heap.size w w') : BitRow w' b W F := h.of_block (hB.block b h.lt)
theorem BitRow.congr (h : BitRow w b W F) (e : ∀ x, x < 64 * W -> F x = G x) : BitRow w b W G :=
  World.rowIs.congr h (fun j hj => by rw [k2n (fun k hk => e (64 * j + k) (by omega))])
theorem BitRow.put (h : BitRow w b W F) (i : Nat) : BitRow (w.setCell ⟨b, i / 64, none⟩ (.int .u64 (wj (putF F i) (i / 64) : Nat))) b W (putF F i) :=
  (World.rowIs.set h (i / 64) _).congr (fun j _ => by
    by_cases e : j = i / 64
    · subst e; rw [if_pos rfl]
    · rw [if_neg e, k2m F e])
theorem BitRow.made (w : World) (W : Nat) : BitRow (w.alloc (.cells (madeCells #[.int .u64 0] W) 78)) w.heap.size W (fun _ => false) :=
  (World.rowIs_made w (.int .u64 0) W 78).congr (fun j _ => by rw [u2r]; rfl)
end
structure Chg (w w' : World) (b : Nat) : Prop where
  oth : ∀ g, g ≠ b -> g < w.heap.size -> w'.heap[g]? = w.heap[g]?
  size : w'.heap.size = w.heap.size
  bel : ∀ B, B <= b -> Below B w w'
section
variable {w w' w'' : World} {b : Nat}
theorem Chg.refl (w : World) (b : Nat) : Chg w w b := ⟨fun _ _ _ => rfl, rfl, fun _ _ => Below.refl _ _⟩
theorem Chg.trans (h : Chg w w' b) (h' : Chg w' w'' b) : Chg w w'' b :=
  ⟨fun g hg hl => (h'.oth g hg (by rw [h.size]; exact hl)).trans (h.oth g hg hl), h'.size.trans h.size, fun B hB => (h.bel B hB).trans (h'.bel B hB)⟩
theorem Chg.set (h : Chg w w' b) (j : Nat) (v : Value) : Chg w (w'.setCell ⟨b, j, none⟩ v) b :=
  ⟨fun g hg hl => (Below.heap_setCell _ _ _ _ hg).trans (h.oth g hg hl), by rw [size_setCell]; exact h.size, fun B hB => (h.bel B hB).setCell hB _⟩
theorem Chg.drewN (h : Chg w w' b) (m : Nat) : Chg w (w'.drewN m) b := ⟨h.oth, h.size, fun B hB => j0q (h.bel B hB)⟩
theorem Chg.drew (h : Chg w w' b) : Chg w w'.drew b := ⟨h.oth, h.size, fun B hB => (h.bel B hB).drew⟩
end
end Go.Proofs.YtbaccmlfnbgehaaGreatDoor
namespace Go.Proofs.YtbaccmlfnbgehaaGreatDoor
open Go.RowKit Pl
open Lib (hid)
theorem p0u (w : World) {n : Nat} (hn : n <= 100000) :
    Calls prog 133 #[.int .i64 n] w fun e w' => e = .returned (.slice (some ⟨w.heap.size, 0, none⟩) (wds n) (wds n)) /\ BitRow w' w.heap.size (wds n) (fun _ => false) /\ Below w.heap.size w w' /\ w'.heap.size = w.heap.size + 1 := by
 have hwn : wds n <= 100000 := by unfold wds; omega
 have hmk := run_make_row' (P := prog) 124 78 (.int .u64 0) 8 underlying124 (by kernel_rfl) rfl .i64 .i64 (wds n) (by omega) (by omega)
 have hq : ((n : Int) + 64 - 1) / 64 = ((wds n : Nat) : Int) := by unfold wds; omega
 obtain ⟨W, hW⟩ : ∃ W, W = wds n := ⟨_, rfl⟩
 rw [<- hW] at hmk hq ⊢
 clear hW
 go_enter func133, ntmps133
 go_wp2_with fail
 go_ret
 exact ⟨rfl, BitRow.made w W, (Below.refl _ _).alloc (Nat.le_refl _) _, by simp⟩
theorem z0y {w : World} {b W : Nat} {F : Nat -> Bool} (h : BitRow w b W F) {i : Nat} (hi : i / 64 < W) (hi2 : i <= 1000000) :
    Calls prog 153 #[.slice (some ⟨b, 0, none⟩) W W, .int .i64 i] w fun e w' => e = .returned (.tuple #[]) /\ BitRow w' b W (putF F i) /\ Chg w w' b := by
 have hP := hid (h.put i)
 have hc := h.cell hi
 have hr := k3g F i
 have hl := x1n F (i / 64)
 have hfz := h.frozen (i / 64)
 obtain ⟨x, hx⟩ : ∃ x, x = wj F (i / 64) := ⟨_, rfl⟩
 obtain ⟨y, hy⟩ : ∃ y, y = wj (putF F i) (i / 64) := ⟨_, rfl⟩
 rw [<- hx] at hc hr hl
 rw [<- hy] at hr hP
 have hk64 : i % 64 < 64 := Nat.mod_lt _ (by decide)
 obtain ⟨j, hj⟩ : ∃ j, j = i / 64 := ⟨_, rfl⟩
 obtain ⟨k, hk⟩ : ∃ k, k = i % 64 := ⟨_, rfl⟩
 rw [<- hj] at hc hfz hP hi
 rw [<- hk] at hr hk64
 have e1 : (i : Int) / 64 = (j : Int) := by omega
 have e2 : (i : Int) % 64 = (k : Int) := by omega
 have hj5 : (j : Int) < (W : Int) := by omega
 have hb := World.block_lt_of_cell? _ _ hc
 have HR := hid hr; have HL := hid hl
 clear hr hl hx hj hk h hy
 go_enter func153, ntmps153
 go_region
 go_end0
 have h3 := u64_or_nat x (2 ^ k) HL.out (v1b hk64)
 rw [HR.out] at h3
 rw [y2a hk64, h3]
 exact ⟨rfl, hP.out, ((Chg.refl w b).set j _).drew⟩
def joinG (F G : Nat -> Bool) (k j : Nat) : Nat := if j < k then wj (orF F G) j else wj F j
theorem v0s {w : World} {b b2 W : Nat} {F G : Nat -> Bool} (h : BitRow w b W F) (h2 : BitRow w b2 W G) (hne : b ≠ b2) (hW : W <= 100) :
    Calls prog 134 #[.slice (some ⟨b, 0, none⟩) W W, .slice (some ⟨b2, 0, none⟩) W W] w fun e w' => e = .returned (.tuple #[]) /\ BitRow w' b W (orF F G) /\ Chg w w' b := by
 have h0 : w.rowIs b 78 W (fun j => .int .u64 (joinG F G 0 j : Nat)) := World.rowIs.congr h (fun j _ => by unfold joinG; simp)
 have H0 := hid h0; have H2 := hid h2
 clear h h2 h0
 go_enter func134, ntmps134
 go_wp2_with fail
 go_loopw [4, 5, 8] (fun _ _ v8 wr => ∃ k : Nat, v8 = .int .i64 k /\ k <= W /\ wr.rowIs b 78 W (fun j => .int .u64 (joinG F G k j : Nat)) /\ Chg w wr b) (fun _ _ v8 _ => W - (intOf v8).toNat)
 case atStart => exact ⟨0, rfl, Nat.zero_le _, H0.out, Chg.refl _ _⟩
 case round => (
 obtain ⟨k, rfl, hk, hrow, hch⟩ := hrel
 have HROW := hid hrow; have HCH := hid hch
 clear hrow hch H0
 by_cases hlt : k < W
 · (
 have h2r : BitRow wr b2 W G := H2.out.of_block (HCH.out.oth b2 (Ne.symm hne) H2.out.lt)
 have c2 := h2r.cell hlt
 have b2l := h2r.lt
 have c1' := HROW.out.cell hlt
 have fz := HROW.out.frozen k
 have bl := HROW.out.lt
 have hg : joinG F G k k = wj F k := by unfold joinG; simp
 rw [hg] at c1'
 have hor := wj_or F G k
 have hl1 := x1n F k; have hl2 := x1n G k
 have hstep : wr.setCell ⟨b, k, none⟩ (.int .u64 (wj (orF F G) k : Nat)) |>.rowIs b 78 W (fun j => .int .u64 (joinG F G (k + 1) j : Nat)) := (HROW.out.set k _).congr (fun j _ => by (
 unfold joinG
 by_cases e : j = k
 · subst e; rw [if_pos rfl, if_pos (by omega)]
 · rw [if_neg e]
   by_cases e2 : j < k
   · rw [if_pos e2, if_pos (by omega)]
   · rw [if_neg e2, if_neg (by omega)]))
 obtain ⟨x, hx⟩ : ∃ x, x = wj F k := ⟨_, rfl⟩
 obtain ⟨y, hy⟩ : ∃ y, y = wj G k := ⟨_, rfl⟩
 obtain ⟨z, hz⟩ : ∃ z, z = wj (orF F G) k := ⟨_, rfl⟩
 rw [<- hx] at c1' hor hl1; rw [<- hy] at c2 hor hl2; rw [<- hz] at hor hstep
 have hand := u64_or_nat x y hl1 hl2
 rw [hor] at hand
 have HST := hid hstep
 have hkI : (k : Int) < (W : Int) := by omega
 clear h2r hg hor hl1 hl2 hx hy hz hstep
 go_wp2_with fail
 go_roundw
 case rel => exact ⟨k + 1, by go_num, by omega, HST.out, HCH.out.set k _⟩
 case measure => simp [intOf]; omega)
 · (
 obtain rfl : k = W := by omega
 have hr : BitRow wr b k (orF F G) := HROW.out.congr (fun j hj => by unfold joinG; rw [if_pos hj])
 have HR := hid hr
 clear hr
 go_wp2_with fail
 go_end0
 exact ⟨rfl, HR.out, HCH.out⟩))
def IdsW (w : World) (F : Nat -> Bool) (W : Nat) (e : Ending) (w' : World) : Prop := ∃ v, e = .returned v /\ w'.ownsRow w.heap.size 3 1 v (intsOf (idsN F (64 * W))).length ((intsOf (idsN F (64 * W))).flatMap encI) /\ Below w.heap.size w w'
set_option maxHeartbeats 2000000 in
theorem z0i {w : World} {b W : Nat} {F : Nat -> Bool} (h : BitRow w b W F) (hW : W <= 100) (hT : Tab w) :
    Calls prog 91 #[.slice (some ⟨b, 0, none⟩) W W] w (IdsW w F W) := by
 have H := hid h; have HT := hid hT
 have hbl := h.lt
 clear h hT
 go_enter func91, ntmps91
 go_wp2_with fail
 go_loopw [3, 4, 5, 8] (fun v3 _ _ v7 wr => ∃ j : Nat, v7 = .int .i64 j /\ j <= W /\ wr.ownsRow w.heap.size 3 1 v3 (intsOf (idsN F (64 * j))).length ((intsOf (idsN F (64 * j))).flatMap encI) /\ Below w.heap.size w wr) (fun _ _ _ v7 _ => W - (intOf v7).toNat)
 case atStart => exact ⟨0, rfl, by omega, ⟨by simp [idsN, intsOf], .inl ⟨rfl, by simp [idsN, intsOf]⟩⟩, Below.refl _ _⟩
 case round => (
 obtain ⟨j, rfl, hj, hown, hB⟩ := hrel
 have HOWN := hid hown; have HB := hid hB
 have hszr := hB.size
 clear hown hB
 by_cases hlt : j < W
 · (
 have c1 := (H.out.below HB.out).cell hlt
 have hxb := q0i F j
 have hxl := x1n F j
 obtain ⟨x0, hx0⟩ : ∃ x0, x0 = wj F j := ⟨_, rfl⟩
 rw [<- hx0] at c1 hxl
 have hb0 : ∀ k, x0.testBit k = (decide (0 <= k /\ k < 64) && F (64 * j + k)) := fun k => by rw [hx0, q0i]; simp
 have hjI : (j : Int) < (W : Int) := by omega
 have hbr : b < wr.heap.size := by omega
 have HXB := hid hb0; have HXL := hid hxl
 clear hxb hxl hx0 hb0
 go_wp2_with fail
 go_loopw [3, 5] (fun v3 v5 wx => ∃ (x t : Nat), v5 = .int .u64 x /\ x < 2 ^ 64 /\ t <= 64 /\ (∀ k, x.testBit k = (decide (t <= k /\ k < 64) && F (64 * j + k))) /\ wx.ownsRow w.heap.size 3 1 v3 (intsOf (idsN F (64 * j + t))).length ((intsOf (idsN F (64 * j + t))).flatMap encI) /\ Below w.heap.size w wx) (fun _ v5 _ => (intOf v5).toNat)
 case atStart => exact ⟨x0, 0, rfl, HXL.out, by omega, HXB.out, HOWN.out, HB.out⟩
 case round => (
 obtain ⟨x, t, rfl, hxl, ht, hxb, hown, hB⟩ := hrel
 have HXL2 := hid (show x < 18446744073709551616 from hxl); have HXB2 := hid hxb; have HO2 := hid hown; have HB2 := hid hB
 have hsz2 := hB.size
 clear hxl hxb hown hB HXB HXL c1
 by_cases hx0 : x = 0
 · (
 subst hx0
 have hend := z2v ht HXB2.out
 have HEND := hid hend
 have hown2 : wr.ownsRow w.heap.size 3 1 u3 (intsOf (idsN F (64 * (j + 1)))).length ((intsOf (idsN F (64 * (j + 1)))).flatMap encI) := by rw [HEND.out]; exact HO2.out
 have HO3 := hid hown2
 clear hend hown2
 go_wp2_with fail
 go_roundw
 case rel => exact ⟨j + 1, by go_num, by omega, HO3.out, HB2.out⟩
 case measure => simp [intOf]; omega)
 · (
 obtain ⟨s1, s2, s3, s4⟩ := q2t ht HXL2.out HXB2.out hx0
 have htz := k3i (HT.out.below HB2.out) hx0 HXL2.out
 obtain ⟨c, hc⟩ : ∃ c, c = Lib.ctz 64 x := ⟨_, rfl⟩
 rw [<- hc] at s1 s2 s3 s4 htz
 have hne : ((x : Int) != 0) = true := by simp [hx0]
 have hand := u64_and_nat x (x - 1) HXL2.out (by have := HXL2.out; omega)
 have hsub : IntKind.u64.wrap ((x : Int) - 1) = ((x - 1 : Nat) : Int) := by
   have := HXL2.out
   rw [IntKind.wrap_u64]; omega
 have hlt2 : x &&& (x - 1) < x := by
   have := Nat.and_le_right (n := x) (m := x - 1)
   omega
 obtain ⟨y, hy⟩ : ∃ y, y = x &&& (x - 1) := ⟨_, rfl⟩
 rw [<- hy] at s4 hand hlt2
 have hyl : y < 2 ^ 64 := by have := HXL2.out; show y < 18446744073709551616; omega
 have hlen : (intsOf (idsN F (64 * j + t))).length <= 6400 := by rw [j0p]; have := p0q F (64 * j + t); omega
 have s3' : intsOf (idsN F (64 * j + (c + 1))) = intsOf (idsN F (64 * j + t)) ++ [((64 * j + c : Nat) : Int)] := by rw [s3]; unfold intsOf; simp
 have hcI : (j : Int) * 64 + (c : Int) = ((64 * j + c : Nat) : Int) := by omega
 have HS3 := hid s3'; have HS4 := hid s4; have HTZ := hid htz; have HYL := hid hyl; have HCI := hid hcI; have HLT2 := hid hlt2
 have hc64 : (c : Int) < 64 := by omega
 clear s3 s3' s4 htz hyl hc hy hx0 hcI hlt2
 go_wp2_with fail
 refine HTZ.out.mono ?_
 rintro e w5 ⟨rfl, rfl⟩
 go_wp2_with (at_builtin; refine k0i rfl _ _ _ rfl p2q (Below.refl _ _) (by simp; omega) rfl (HO2.out.alloc _) ⟨wr.heap.size, 0, none⟩ 1 1 [.int .i64 ((j : Int) * 64 + (c : Int))] rfl rfl (k0c (by simp [go_sem])) (by simp [Value.oneCell']) (by decide) (by omega) (by unfold maxLen; omega) ?_; intro g cap w7 hown7 _ hg7)
 have hb7 : Below w.heap.size w w7 := (HB2.out.alloc hsz2 _).grown hg7 (by simp; omega) (fun k hk => (HO2.out.lt k hk).1)
 rw [HCI.out] at hown7
 have hown8 : w7.ownsRow w.heap.size 3 1 (.slice (some ⟨g, 0, none⟩) ((intsOf (idsN F (64 * j + t))).length + 1) cap) (intsOf (idsN F (64 * j + (c + 1)))).length ((intsOf (idsN F (64 * j + (c + 1)))).flatMap encI) := by
   rw [HS3.out, l2, l6]; exact hown7
 have HO8 := hid hown8; have HB7 := hid hb7
 clear hown7 hown8 hg7 hb7
 go_roundw
 case rel => exact ⟨y, c + 1, rfl, HYL.out, by omega, HS4.out, HO8.out, HB7.out⟩
 case measure => simp [intOf]; exact HLT2.out)))
 · obtain rfl : j = W := by omega
   go_wp2_with fail
   go_ret
   exact ⟨_, rfl, HOWN.out, HB.out⟩)
theorem j2q (w : World) :
    Calls prog 91 #[.slice none 0 0] w fun e w' => e = .returned (.slice none 0 0) /\ w' = w := by
 go_enter func91, ntmps91
 go_wp2_with fail
 go_loopw [3, 4, 5, 8] (fun v3 _ _ v8 wr => v3 = .slice none 0 0 /\ v8 = .int .i64 0 /\ wr = w) (fun _ _ _ _ _ => 0)
 case atStart => exact ⟨rfl, rfl, rfl⟩
 case round => (
 obtain ⟨rfl, rfl, rfl⟩ := hrel
 go_wp2_with fail
 go_ret
 exact ⟨rfl, rfl⟩)
theorem q1o (w : World) {n i : Nat} (hn : n <= 100000) (hi : i < n) :
    Calls prog 155 #[.int .i64 n, .int .i64 i] w fun e w' => e = .returned (.slice (some ⟨w.heap.size, 0, none⟩) (wds n) (wds n)) /\ BitRow w' w.heap.size (wds n) (fun x => decide (x = i)) /\ Below w.heap.size w w' /\ w'.heap.size = w.heap.size + 1 := by
 have HN := hid (p0u w hn)
 have hiw := k2q hi
 obtain ⟨W, hW⟩ : ∃ W, W = wds n := ⟨_, rfl⟩
 rw [<- hW] at HN hiw ⊢
 clear hW
 go_enter func155, ntmps155
 go_wp2_with fail
 refine HN.out.mono ?_
 rintro e w1 ⟨rfl, hrow, hB1, hs1⟩
 have HP := hid (z0y hrow hiw (by omega)); have HB1 := hid hB1; have HS1 := hid hs1
 clear hrow hB1 hs1 HN
 go_wp2_with fail
 refine HP.out.mono ?_
 rintro e w2 ⟨rfl, hrow2, hch⟩
 have HR := hid (hrow2.congr (G := fun x => decide (x = i)) (fun x _ => by simp [putF])); have HB2 := hid (HB1.out.trans (hch.bel _ (Nat.le_refl _))); have HS2 := hid (hch.size.trans HS1.out)
 clear hrow2 hch HP
 go_wp2_with fail
 go_ret
 exact ⟨rfl, HR.out, HB2.out, HS2.out⟩
end Go.Proofs.YtbaccmlfnbgehaaGreatDoor
namespace Go.Proofs.YtbaccmlfnbgehaaGreatDoor
open Go.RowKit Pl
section
variable {s : Lts} {n : Nat} {f : Nat -> Int} {D : List Nat}
structure BlkO (s : Lts) (n : Nat) (f : Nat -> Int) (D : List Nat) : Prop where
  right : s.Right
  st : s.st = (n : Int)
  cyc : Cyc s n f
  ord : OrdL (col s (fl n (clf n f))) (dist (fl n f)).length D
  all : ∀ k, k < (dist (fl n f)).length -> k ∈ D
def blkO (n : Nat) (f : Nat -> Int) (k : Nat) : List Nat := clsM (fl n (clf n f)) n k
def ordO (n : Nat) (f : Nat -> Int) (D : List Nat) : List Nat := D.flatMap (blkO n f)
def offO (n : Nat) (f : Nat -> Int) (D : List Nat) (d : Nat) : Nat := (ordO n f (D.take d)).length
theorem p0b {x k : Nat} : x ∈ blkO n f k ↔ x < n /\ asF n f x = k := by
 unfold blkO
 rw [q0f]
 constructor
 · rintro ⟨h1, h2⟩
   rw [j0t _ h1, x0e h1] at h2
   simp only [Option.some.injEq] at h2
   exact ⟨h1, by omega⟩
 · rintro ⟨h1, rfl⟩
   exact ⟨h1, by rw [j0t _ h1, x0e h1]⟩
theorem k1m {x : Nat} {L : List Nat} : x ∈ ordO n f L ↔ x < n /\ asF n f x ∈ L := by
 unfold ordO
 rw [List.mem_flatMap]
 constructor
 · rintro ⟨k, hk, hx⟩
   obtain ⟨h1, rfl⟩ := p0b.1 hx
   exact ⟨h1, hk⟩
 · rintro ⟨h1, h2⟩
   exact ⟨_, h2, p0b.2 ⟨h1, rfl⟩⟩
theorem u2i (n : Nat) (f : Nat -> Int) (D : List Nat) : (D.flatMap fun k : Nat => memK (fl n (clf n f)) n (k : Int)) = (ordO n f D).map Int.ofNat := x2d _ _ _
theorem BlkO.nodup (h : BlkO s n f D) : D.Nodup := h.ord.nodup
theorem BlkO.rng (h : BlkO s n f D) {k : Nat} (hk : k ∈ D) : k < (dist (fl n f)).length := h.ord.rng k hk
theorem BlkO.len (h : BlkO s n f D) : (ordO n f D).length = n := by
 have h1 := flat_le (fl n (clf n f)) n h.nodup
 have h2 := u1d (C := fl n (clf n f)) (n := n) (M := (dist (fl n f)).length) (fun x hx => u2o hx) h.all
 rw [u2i, l8] at h1 h2
 omega
theorem BlkO.blk_pos (h : BlkO s n f D) {k : Nat} (hk : k ∈ D) : 0 < (blkO n f k).length := by
 have := v1r (u1j (h.rng hk))
 rw [v1t, l8] at this
 exact this
theorem v0d : offO n f D 0 = 0 := by simp [offO, ordO]
theorem p1p {d k : Nat} (hd : D[d]? = some k) : D.take (d + 1) = D.take d ++ [k] := by rw [List.take_add_one, hd]; rfl
theorem q0p {d k : Nat} (hd : D[d]? = some k) : ordO n f (D.take (d + 1)) = ordO n f (D.take d) ++ blkO n f k := by
 rw [p1p hd]; simp [ordO]
theorem q2c {d k : Nat} (hd : D[d]? = some k) : offO n f D (d + 1) = offO n f D d + (blkO n f k).length := by
 unfold offO; rw [q0p hd, l2]
theorem x0a {d k : Nat} (hd : D[d]? = some k) : ordO n f D = ordO n f (D.take d) ++ (blkO n f k ++ ordO n f (D.drop (d + 1))) := by
 have h2 : ordO n f D = ordO n f (D.take (d + 1)) ++ ordO n f (D.drop (d + 1)) := by
   unfold ordO
   rw [<- l6, l5]
 rw [h2, q0p hd, List.append_assoc]
theorem j3g {d k j : Nat} (hd : D[d]? = some k) (hj : j < (blkO n f k).length) : (ordO n f D)[offO n f D d + j]? = (blkO n f k)[j]? := by
 rw [x0a hd]
 unfold offO
 rw [l1 (by omega), Nat.add_sub_cancel_left, List.getElem?_append_left hj]
theorem BlkO.more (h : BlkO s n f D) {d : Nat} (hd : offO n f D d < n) : ∃ k, D[d]? = some k := by
 by_cases hl : d < D.length
 · exact ⟨D[d], List.getElem?_eq_getElem hl⟩
 · exfalso
   have := h.len
   unfold offO at hd
   rw [List.take_of_length_le (by omega)] at hd
   omega
theorem BlkO.off_le (h : BlkO s n f D) {d k : Nat} (hd : D[d]? = some k) : offO n f D d + (blkO n f k).length <= n := by
 have h1 := h.len
 rw [x0a hd, l2, l2] at h1
 unfold offO
 omega
theorem BlkO.next (h : BlkO s n f D) {d k y : Nat} (hd : D[d]? = some k) (hy : (ordO n f D)[offO n f D d + (blkO n f k).length]? = some y) : y < n /\ asF n f y ≠ k := by
 rw [x0a hd] at hy
 unfold offO at hy
 rw [l1 (by omega), Nat.add_sub_cancel_left, l1 (by omega), Nat.sub_self] at hy
 have h1 := k1m.1 (List.mem_of_getElem? hy)
 refine ⟨h1.1, fun e => ?_⟩
 rw [e] at h1
 have h2 := h.nodup
 rw [show D = D.take (d + 1) ++ D.drop (d + 1) from (l5 _ _).symm, List.nodup_append] at h2
 exact h2.2.2 k (by rw [p1p hd]; simp) k h1.2 rfl
theorem BlkO.ahead (h : BlkO s n f D) {d k p t : Nat} (hd : D[d]? = some k) (hp : p < n) (hpk : asF n f p = k) (hs : tau s p t) (hne : asF n f t ≠ k) : t ∈ ordO n f (D.take d) := by
 have hl := z0r h.right h.st hs
 refine k1m.2 ⟨hl.2.1, ?_⟩
 have h1 : tau (col s (fl n (clf n f))) k (asF n f t) := (u2v h.right h.st).2 ⟨p, t, hp, hl.2.1, hs, hpk, rfl, fun e => hne e.2.symm⟩
 exact h.ord.ahead (x1c h.right h.st) (p1g _ _) d k _ hd h1
theorem BlkO.same (h : BlkO s n f D) {x y : Nat} (hx : x < n) (hy : y < n) (e : asF n f x = asF n f y) : TR s x y /\ TR s y x := (v2u h.cyc hx hy).1 e
theorem BlkO.of_ord {g : Nat -> Int} (hr : s.Right) (hn : s.st = (n : Int)) (hf : Cyc s n f) (hg : Cyc s n g) (hD : OrdL (col s (fl n (clf n g))) (dist (fl n (clf n g))).length D) (hall : ∀ k, k < (dist (fl n (clf n g))).length -> k ∈ D) :
    BlkO s n f D /\ fl n (clf n g) = fl n (clf n f) := by
 have e : fl n (clf n g) = fl n (clf n f) := by rw [<- p0p, <- p0p]; exact hg.unique hf
 rw [e, p0o] at hD hall
 exact ⟨⟨hr, hn, hf, hD, hall⟩, e⟩
end
theorem p0r {s : Lts} {p t : Nat} {l : Int} : stp s.norm p l t ↔ stp s p l t := by
 unfold stp Lts.norm
 simp only
 rw [p0j y0k]
end Go.Proofs.YtbaccmlfnbgehaaGreatDoor
namespace Go.Proofs.YtbaccmlfnbgehaaGreatDoor
open Go.RowKit Pl
namespace Pl
def silT (n : Nat) (f : Nat -> Int) (F : Nat -> Nat -> Bool) (q : Nat) (T : List Int) (x : Nat) : Bool := T.any (fun t => !decide (asF n f t.toNat = asF n f q) && F t.toNat x)
def silB (s : Lts) (n : Nat) (f : Nat -> Int) (F : Nat -> Nat -> Bool) (q x : Nat) : Bool := decide (x = q) || silT n f F q (withL 0 (s.outs (q : Int))) x
def silR (s : Lts) (n : Nat) (f : Nat -> Int) (F : Nat -> Nat -> Bool) (L : List Nat) (x : Nat) : Bool := L.any (fun q => silB s n f F q x)
def silW (s : Lts) (n : Nat) (f : Nat -> Int) (F : Nat -> Nat -> Bool) (L : List Nat) (q : Nat) (T : List Int) (x : Nat) : Bool := putF (silR s n f F L) q x || silT n f F q T x
section
variable {s : Lts} {n : Nat} {f : Nat -> Int} {F : Nat -> Nat -> Bool} {D : List Nat}
theorem y2l (L : List Nat) (q : Nat) : silW s n f F L q [] = putF (silR s n f F L) q := by funext x; simp [silW, silT]
theorem p2j (L : List Nat) (q : Nat) {T : List Int} {t : Int} (h : asF n f t.toNat = asF n f q) : silW s n f F L q (T ++ [t]) = silW s n f F L q T := by
 funext x; simp [silW, silT, h]
theorem p2k (L : List Nat) (q : Nat) {T : List Int} {t : Int} (h : asF n f t.toNat ≠ asF n f q) : silW s n f F L q (T ++ [t]) = orF (silW s n f F L q T) (F t.toNat) := by
 funext x; simp [silW, silT, orF, h, m0]
theorem p2l (L : List Nat) (q : Nat) : silW s n f F L q (withL 0 (s.outs (q : Int))) = silR s n f F (L ++ [q]) := by
 funext x; simp [silW, silR, silB, putF, m0]
theorem y2m : silR s n f F [] = fun _ => false := by funext x; simp [silR]
theorem z0h {q x : Nat} : silT n f F q (withL 0 (s.outs (q : Int))) x = true ↔ ∃ t : Int, (0, t) ∈ s.outs (q : Int) /\ asF n f t.toNat ≠ asF n f q /\ F t.toNat x = true := by
 unfold silT withL
 rw [l7]
 constructor
 · (
 rintro ⟨t, h1, h2⟩
 obtain ⟨⟨a, b⟩, h3, rfl⟩ := m1.1 h1
 have h4 := l9.1 h3
 simp only [beq_iff_eq] at h4
 obtain ⟨h4, rfl⟩ := h4
 simp only [Bool.and_eq_true, Bool.not_eq_true', decide_eq_false_iff_not] at h2
 exact ⟨b, h4, h2.1, h2.2⟩)
 · rintro ⟨t, h1, h2, h3⟩
   exact ⟨t, m1.2 ⟨(0, t), l9.2 ⟨h1, by simp⟩, rfl⟩, by simp [h2, h3]⟩
theorem y2n {g : Lts} (h : BlkO s n f D) (hg : ∀ p t : Nat, (0, (t : Int)) ∈ g.outs (p : Int) ↔ tau s p t) (hgr : g.Right) {d k : Nat} (hd : D[d]? = some k) (hF : ∀ t, t ∈ ordO n f (D.take d) -> ∀ x, F t x = true ↔ TR s t x) {p : Nat} (hp : p < n) (hpk : asF n f p = k) (x : Nat) :
    silR g n f F (blkO n f k) x = true ↔ TR s p x := by
 unfold silR
 rw [l7]
 constructor
 · (
 rintro ⟨q, hq, h1⟩
 obtain ⟨hqn, hqk⟩ := p0b.1 hq
 have hpq := (h.same hp hqn (by rw [hpk, hqk])).1
 unfold silB at h1
 rw [l3] at h1
 rcases h1 with h1 | h1
 · rw [decide_eq_true_eq] at h1; subst h1; exact hpq
 · (
 obtain ⟨t, h2, h3, h4⟩ := z0h.1 h1
 have h5 := j0g.1 (hgr.edges _ (j0s.1 h2))
 simp only at h5
 obtain ⟨t, rfl⟩ := l4 h5.2.2.2.2.1
 simp only [l0] at h3 h4
 have h6 := (hg q t).1 h2
 have h7 := h.ahead hd hqn hqk h6 (by rw [<- hqk]; exact h3)
 exact (hpq.tail h6).trans ((hF t h7 x).1 h4)))
 · (
 intro ht
 induction ht with
 | refl => exact ⟨p, p0b.2 ⟨hp, hpk⟩, by simp [silB]⟩
 | @tail y x h1 h2 ih => (
 have hl := x0l h.right h.st h2
 obtain ⟨q, hq, h3⟩ := ih
 obtain ⟨hqn, hqk⟩ := p0b.1 hq
 have leave : asF n f y = k -> ∃ q, q ∈ blkO n f k /\ silB g n f F q x = true := fun hy => by (
 by_cases hx : asF n f x = k
 · exact ⟨x, p0b.2 ⟨hl.2, hx⟩, by simp [silB]⟩
 · (
 refine ⟨y, p0b.2 ⟨hl.1, hy⟩, ?_⟩
 unfold silB
 rw [l3]
 right
 refine z0h.2 ⟨(x : Int), (hg y x).2 h2, by simp only [l0]; rw [hy]; exact hx, ?_⟩
 simp only [l0]
 exact (hF x (h.ahead hd hl.1 hy h2 hx) x).2 .refl))
 have h3' := h3
 unfold silB at h3
 rw [l3] at h3
 rcases h3 with h3 | h3
 · rw [decide_eq_true_eq] at h3; subst h3; exact leave hqk
 · (
 obtain ⟨t, h4, h5, h6⟩ := z0h.1 h3
 have h7 := j0g.1 (hgr.edges _ (j0s.1 h4))
 simp only at h7
 obtain ⟨t, rfl⟩ := l4 h7.2.2.2.2.1
 simp only [l0] at h5 h6
 have h8 := (hg q t).1 h4
 have h9 := h.ahead hd hqn hqk h8 (by rw [<- hqk]; exact h5)
 refine ⟨q, hq, ?_⟩
 unfold silB
 rw [l3]
 right
 exact z0h.2 ⟨(t : Int), h4, by simp only [l0]; exact h5, by simp only [l0]; exact (hF t h9 x).2 (((hF t h9 y).1 h6).tail h2)⟩)))
end
end Pl
end Go.Proofs.YtbaccmlfnbgehaaGreatDoor

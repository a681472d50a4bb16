/-
  weak: rows of bits: newRow, put, join, ids, newRowOf.
  Plain: the blocks of tauscc.Order's list: each cycle's states stand one behind the other, behind all that silent steps lead to from them.
  Plain: what weak.silent gathers for a cycle is what comes from each of its states by silent steps.
-/
import Derived.Test.YtdhloijdefnkpaaGreatDoorGWkL
import Derived.Laws.BitsAllLaws
import Derived.IntWalk
import Derived.BigRegion
import Derived.Deep.QuietTactic
import Derived.BigQuiet
import Derived.Outline
import Derived.Deep.Cut
import Derived.Test.YtdhloijdefnkpaaGreatDoorGTauJ
import Derived.Test.YtdhloijdefnkpaaGreatDoorGBrT
namespace Go.Proofs.YtdhloijdefnkpaaGreatDoor
open Go.RowKit Pl

set_option maxRecDepth 100000 in
theorem newRow_any (w : World) {n : Nat} (hn : n ≤ 100000) :
    Calls Tryz.prog 61 #[.int .i64 n] w fun e w' => e = .returned (.slice (some ⟨w.heap.size, 0, none⟩) (wds n) (wds n)) ∧ BitRow w' w.heap.size (wds n) (fun _ => false) ∧ Below w.heap.size w w' ∧ w'.heap.size = w.heap.size + 1 := by
  have hwn : wds n ≤ 100000 := by unfold wds; omega
  have hmk := run_make_row' (P := Tryz.prog) 65 101 (.int .u64 0) 8 Tryz.underlying65 (by kernel_rfl) rfl .i64 .i64 (wds n) (by omega) (by omega)
  have hq : ((n : Int) + 64 - 1) / 64 = ((wds n : Nat) : Int) := by unfold wds; omega
  obtain ⟨W, hW⟩ : ∃ W, W = wds n := ⟨_, rfl⟩
  rw [← hW] at hmk hq ⊢
  clear hW
  go_enter Tryz.func61, Tryz.ntmps61
  go_wp2_with fail
  go_ret
  exact ⟨rfl, BitRow.made w W, (Below.refl _ _).alloc (Nat.le_refl _) _, by simp⟩

set_option maxRecDepth 100000 in
theorem putW_any {w : World} {b W : Nat} {F : Nat → Bool} (h : BitRow w b W F) {i : Nat} (hi : i / 64 < W) (hi2 : i ≤ 1000000) :
    Calls Tryz.prog 64 #[.slice (some ⟨b, 0, none⟩) W W, .int .i64 i] w fun e w' => e = .returned (.tuple #[]) ∧ BitRow w' b W (putF F i) ∧ Chg w w' b := by
  have hP := Lib.hid (h.put i)
  have hc := h.cell hi
  have hr := wj_put F i
  have hl := wj_lt F (i / 64)
  have hfz := h.frozen (i / 64)
  obtain ⟨x, hx⟩ : ∃ x, x = wj F (i / 64) := ⟨_, rfl⟩
  obtain ⟨y, hy⟩ : ∃ y, y = wj (putF F i) (i / 64) := ⟨_, rfl⟩
  rw [← hx] at hc hr hl
  rw [← hy] at hr hP
  have hk64 : i % 64 < 64 := Nat.mod_lt _ (by decide)
  obtain ⟨j, hj⟩ : ∃ j, j = i / 64 := ⟨_, rfl⟩
  obtain ⟨k, hk⟩ : ∃ k, k = i % 64 := ⟨_, rfl⟩
  rw [← hj] at hc hfz hP hi
  rw [← hk] at hr hk64
  have e1 : (i : Int) / 64 = (j : Int) := by omega
  have e2 : (i : Int) % 64 = (k : Int) := by omega
  have hj5 : (j : Int) < (W : Int) := by omega
  have hb := World.block_lt_of_cell? _ _ hc
  have HR := Lib.hid hr; have HL := Lib.hid hl
  clear hr hl hx hj hk h hy
  go_enter Tryz.func64, Tryz.ntmps64
  go_region
  go_end0
  have h3 := u64_or_nat x (2 ^ k) HL.out (pow_lt64 hk64)
  rw [HR.out] at h3
  rw [wrap_pow hk64, h3]
  exact ⟨rfl, hP.out, ((Chg.refl w b).set j _).drew⟩

/-- A row under way. -/
def joinG (F G : Nat → Bool) (k j : Nat) : Nat := if j < k then wj (orF F G) j else wj F j
set_option maxRecDepth 100000 in
theorem joinW_any {w : World} {b b2 W : Nat} {F G : Nat → Bool} (h : BitRow w b W F) (h2 : BitRow w b2 W G) (hne : b ≠ b2) (hW : W ≤ 100) :
    Calls Tryz.prog 62 #[.slice (some ⟨b, 0, none⟩) W W, .slice (some ⟨b2, 0, none⟩) W W] w fun e w' => e = .returned (.tuple #[]) ∧ BitRow w' b W (orF F G) ∧ Chg w w' b := by
  have h0 : w.rowIs b 101 W (fun j => .int .u64 (joinG F G 0 j : Nat)) := World.rowIs.congr h (fun j _ => by unfold joinG; simp)
  have H0 := Lib.hid h0; have H2 := Lib.hid h2
  clear h h2 h0
  go_enter Tryz.func62, Tryz.ntmps62
  go_wp2_with fail
  go_loopw [4, 5, 8] (fun _ _ v8 wr => ∃ k : Nat, v8 = .int .i64 k ∧ k ≤ W ∧ wr.rowIs b 101 W (fun j => .int .u64 (joinG F G k j : Nat)) ∧ Chg w wr b) (fun _ _ v8 _ => W - (intOf v8).toNat)
  case atStart => exact ⟨0, rfl, Nat.zero_le _, H0.out, Chg.refl _ _⟩
  case round =>
    obtain ⟨k, rfl, hk, hrow, hch⟩ := hrel
    have HROW := Lib.hid hrow; have HCH := Lib.hid hch
    clear hrow hch H0
    by_cases hlt : k < W
    · have h2r : BitRow wr b2 W G := H2.out.of_block (HCH.out.oth b2 (Ne.symm hne) H2.out.lt)
      have c2 := h2r.cell hlt
      have b2l := h2r.lt
      have c1' := HROW.out.cell hlt
      have fz := HROW.out.frozen k
      have bl := HROW.out.lt
      have hg : joinG F G k k = wj F k := by unfold joinG; simp
      rw [hg] at c1'
      have hor := wj_or F G k
      have hl1 := wj_lt F k; have hl2 := wj_lt G k
      have hstep : wr.setCell ⟨b, k, none⟩ (.int .u64 (wj (orF F G) k : Nat)) |>.rowIs b 101 W (fun j => .int .u64 (joinG F G (k + 1) j : Nat)) := (HROW.out.set k _).congr (fun j _ => by
        unfold joinG
        by_cases e : j = k
        · subst e; rw [if_pos rfl, if_pos (by omega)]
        · rw [if_neg e]
          by_cases e2 : j < k
          · rw [if_pos e2, if_pos (by omega)]
          · rw [if_neg e2, if_neg (by omega)])
      obtain ⟨x, hx⟩ : ∃ x, x = wj F k := ⟨_, rfl⟩
      obtain ⟨y, hy⟩ : ∃ y, y = wj G k := ⟨_, rfl⟩
      obtain ⟨z, hz⟩ : ∃ z, z = wj (orF F G) k := ⟨_, rfl⟩
      rw [← hx] at c1' hor hl1; rw [← hy] at c2 hor hl2; rw [← hz] at hor hstep
      have hand := u64_or_nat x y hl1 hl2
      rw [hor] at hand
      have HST := Lib.hid hstep
      have hkI : (k : Int) < (W : Int) := by omega
      clear h2r hg hor hl1 hl2 hx hy hz hstep
      go_wp2_with fail
      go_roundw
      case rel => exact ⟨k + 1, by go_num, by omega, HST.out, HCH.out.set k _⟩
      case measure => simp [intOf]; omega
    · obtain rfl : k = W := by omega
      have hr : BitRow wr b k (orF F G) := HROW.out.congr (fun j hj => by unfold joinG; rw [if_pos hj])
      have HR := Lib.hid hr
      clear hr
      go_wp2_with fail
      go_end0
      exact ⟨rfl, HR.out, HCH.out⟩

def IdsW (w : World) (F : Nat → Bool) (W : Nat) (e : Ending) (w' : World) : Prop := ∃ v, e = .returned v ∧ w'.ownsRow w.heap.size 3 1 v (intsOf (idsN F (64 * W))).length ((intsOf (idsN F (64 * W))).flatMap encI) ∧ Below w.heap.size w w'
set_option maxRecDepth 100000 in
set_option maxHeartbeats 2000000 in
theorem idsW_any {w : World} {b W : Nat} {F : Nat → Bool} (h : BitRow w b W F) (hW : W ≤ 100) (hT : Tab w) :
    Calls Tryz.prog 30 #[.slice (some ⟨b, 0, none⟩) W W] w (IdsW w F W) := by
  have H := Lib.hid h; have HT := Lib.hid hT
  have hbl := h.lt
  clear h hT
  go_enter Tryz.func30, Tryz.ntmps30
  go_wp2_with fail
  go_loopw [3, 4, 5, 8] (fun v3 _ _ v7 wr => ∃ j : Nat, v7 = .int .i64 j ∧ j ≤ W ∧ wr.ownsRow w.heap.size 3 1 v3 (intsOf (idsN F (64 * j))).length ((intsOf (idsN F (64 * j))).flatMap encI) ∧ Below w.heap.size w wr) (fun _ _ _ v7 _ => W - (intOf v7).toNat)
  case atStart => exact ⟨0, rfl, by omega, ⟨by simp [idsN, intsOf], .inl ⟨rfl, by simp [idsN, intsOf]⟩⟩, Below.refl _ _⟩
  case round =>
    obtain ⟨j, rfl, hj, hown, hB⟩ := hrel
    have HOWN := Lib.hid hown; have HB := Lib.hid hB
    have hszr := hB.size
    clear hown hB
    by_cases hlt : j < W
    · have c1 := (H.out.below HB.out).cell hlt
      have hxb := wj_bit F j
      have hxl := wj_lt F j
      obtain ⟨x0, hx0⟩ : ∃ x0, x0 = wj F j := ⟨_, rfl⟩
      rw [← hx0] at c1 hxl
      have hb0 : ∀ k, x0.testBit k = (decide (0 ≤ k ∧ k < 64) && F (64 * j + k)) := fun k => by rw [hx0, wj_bit]; simp
      have hjI : (j : Int) < (W : Int) := by omega
      have hbr : b < wr.heap.size := by omega
      have HXB := Lib.hid hb0; have HXL := Lib.hid hxl
      clear hxb hxl hx0 hb0
      go_wp2_with fail
      go_loopw [3, 5] (fun v3 v5 wx => ∃ (x t : Nat), v5 = .int .u64 x ∧ x < 2 ^ 64 ∧ t ≤ 64 ∧ (∀ k, x.testBit k = (decide (t ≤ k ∧ k < 64) && F (64 * j + k))) ∧ wx.ownsRow w.heap.size 3 1 v3 (intsOf (idsN F (64 * j + t))).length ((intsOf (idsN F (64 * j + t))).flatMap encI) ∧ Below w.heap.size w wx) (fun _ v5 _ => (intOf v5).toNat)
      case atStart => exact ⟨x0, 0, rfl, HXL.out, by omega, HXB.out, HOWN.out, HB.out⟩
      case round =>
        obtain ⟨x, t, rfl, hxl, ht, hxb, hown, hB⟩ := hrel
        have HXL2 := Lib.hid (show x < 18446744073709551616 from hxl); have HXB2 := Lib.hid hxb; have HO2 := Lib.hid hown; have HB2 := Lib.hid hB
        have hsz2 := hB.size
        clear hxl hxb hown hB HXB HXL c1
        by_cases hx0 : x = 0
        · subst hx0
          have hend := idsN_end ht HXB2.out
          have HEND := Lib.hid hend
          have hown2 : wr.ownsRow w.heap.size 3 1 u3 (intsOf (idsN F (64 * (j + 1)))).length ((intsOf (idsN F (64 * (j + 1)))).flatMap encI) := by rw [HEND.out]; exact HO2.out
          have HO3 := Lib.hid hown2
          clear hend hown2
          go_wp2_with fail
          go_roundw
          case rel => exact ⟨j + 1, by go_num, by omega, HO3.out, HB2.out⟩
          case measure => simp [intOf]; omega
        · obtain ⟨s1, s2, s3, s4⟩ := idsN_step ht HXL2.out HXB2.out hx0
          have htz := tz_any (HT.out.below HB2.out) hx0 HXL2.out
          obtain ⟨c, hc⟩ : ∃ c, c = Lib.ctz 64 x := ⟨_, rfl⟩
          rw [← hc] at s1 s2 s3 s4 htz
          have hne : ((x : Int) != 0) = true := by simp [hx0]
          have hand := u64_and_nat x (x - 1) HXL2.out (by have := HXL2.out; omega)
          have hsub : IntKind.u64.wrap ((x : Int) - 1) = ((x - 1 : Nat) : Int) := by
            have := HXL2.out
            rw [IntKind.wrap_u64]; omega
          have hlt2 : x &&& (x - 1) < x := by
            have := Nat.and_le_right (n := x) (m := x - 1)
            omega
          obtain ⟨y, hy⟩ : ∃ y, y = x &&& (x - 1) := ⟨_, rfl⟩
          rw [← hy] at s4 hand hlt2
          have hyl : y < 2 ^ 64 := by have := HXL2.out; show y < 18446744073709551616; omega
          have hlen : (intsOf (idsN F (64 * j + t))).length ≤ 6400 := by rw [intsOf_len]; have := idsN_le F (64 * j + t); omega
          have s3' : intsOf (idsN F (64 * j + (c + 1))) = intsOf (idsN F (64 * j + t)) ++ [((64 * j + c : Nat) : Int)] := by rw [s3]; unfold intsOf; simp
          have hcI : (j : Int) * 64 + (c : Int) = ((64 * j + c : Nat) : Int) := by omega
          have HS3 := Lib.hid s3'; have HS4 := Lib.hid s4; have HTZ := Lib.hid htz; have HYL := Lib.hid hyl; have HCI := Lib.hid hcI; have HLT2 := Lib.hid hlt2
          have hc64 : (c : Int) < 64 := by omega
          clear s3 s3' s4 htz hyl hc hy hx0 hcI hlt2
          go_wp2_with fail
          refine HTZ.out.mono ?_
          rintro e w5 ⟨rfl, rfl⟩
          go_wp2_with (at_builtin; refine wpList_app1 rfl _ _ _ rfl rowI (Below.refl _ _) (by simp; omega) rfl (HO2.out.alloc _) ⟨wr.heap.size, 0, none⟩ 1 1 [.int .i64 ((j : Int) * 64 + (c : Int))] rfl rfl (cells1 (by simp [go_sem])) (by simp [Value.oneCell']) (by decide) (by omega) (by unfold maxLen; omega) ?_; intro g cap w7 hown7 _ hg7)
          have hb7 : Below w.heap.size w w7 := (HB2.out.alloc hsz2 _).grown hg7 (by simp; omega) (fun k hk => (HO2.out.lt k hk).1)
          rw [HCI.out] at hown7
          have hown8 : w7.ownsRow w.heap.size 3 1 (.slice (some ⟨g, 0, none⟩) ((intsOf (idsN F (64 * j + t))).length + 1) cap) (intsOf (idsN F (64 * j + (c + 1)))).length ((intsOf (idsN F (64 * j + (c + 1)))).flatMap encI) := by
            rw [HS3.out, List.length_append, List.flatMap_append]; exact hown7
          have HO8 := Lib.hid hown8; have HB7 := Lib.hid hb7
          clear hown7 hown8 hg7 hb7
          go_roundw
          case rel => exact ⟨y, c + 1, rfl, HYL.out, by omega, HS4.out, HO8.out, HB7.out⟩
          case measure => simp [intOf]; exact HLT2.out
    · obtain rfl : j = W := by omega
      go_wp2_with fail
      go_ret
      exact ⟨_, rfl, HOWN.out, HB.out⟩

set_option maxRecDepth 100000 in
theorem idsNil_any (w : World) :
    Calls Tryz.prog 30 #[.slice none 0 0] w fun e w' => e = .returned (.slice none 0 0) ∧ w' = w := by
  go_enter Tryz.func30, Tryz.ntmps30
  go_wp2_with fail
  go_loopw [3, 4, 5, 8] (fun v3 _ _ v8 wr => v3 = .slice none 0 0 ∧ v8 = .int .i64 0 ∧ wr = w) (fun _ _ _ _ _ => 0)
  case atStart => exact ⟨rfl, rfl, rfl⟩
  case round =>
    obtain ⟨rfl, rfl, rfl⟩ := hrel
    go_wp2_with fail
    go_ret
    exact ⟨rfl, rfl⟩

set_option maxRecDepth 100000 in
theorem newRowOf_any (w : World) {n i : Nat} (hn : n ≤ 100000) (hi : i < n) :
    Calls Tryz.prog 66 #[.int .i64 n, .int .i64 i] w fun e w' => e = .returned (.slice (some ⟨w.heap.size, 0, none⟩) (wds n) (wds n)) ∧ BitRow w' w.heap.size (wds n) (fun x => decide (x = i)) ∧ Below w.heap.size w w' ∧ w'.heap.size = w.heap.size + 1 := by
  have HN := Lib.hid (newRow_any w hn)
  have hiw := wds_lt hi
  obtain ⟨W, hW⟩ : ∃ W, W = wds n := ⟨_, rfl⟩
  rw [← hW] at HN hiw ⊢
  clear hW
  go_enter Tryz.func66, Tryz.ntmps66
  go_wp2_with fail
  refine HN.out.mono ?_
  rintro e w1 ⟨rfl, hrow, hB1, hs1⟩
  have HP := Lib.hid (putW_any hrow hiw (by omega)); have HB1 := Lib.hid hB1; have HS1 := Lib.hid hs1
  clear hrow hB1 hs1 HN
  go_wp2_with fail
  refine HP.out.mono ?_
  rintro e w2 ⟨rfl, hrow2, hch⟩
  have HR := Lib.hid (hrow2.congr (G := fun x => decide (x = i)) (fun x _ => by simp [putF])); have HB2 := Lib.hid (HB1.out.trans (hch.bel _ (Nat.le_refl _))); have HS2 := Lib.hid (hch.size.trans HS1.out)
  clear hrow2 hch HP
  go_wp2_with fail
  go_ret
  exact ⟨rfl, HR.out, HB2.out, HS2.out⟩
end Go.Proofs.YtdhloijdefnkpaaGreatDoor

namespace Go.Proofs.YtdhloijdefnkpaaGreatDoor
open Go.RowKit Pl

section
variable {s : Lts} {n : Nat} {f : Nat → Int} {D : List Nat}

/-- What Order's list is made of. -/
structure BlkO (s : Lts) (n : Nat) (f : Nat → Int) (D : List Nat) : Prop where
  right : s.Right
  st : s.st = (n : Int)
  cyc : Cyc s n f
  ord : OrdL (col s (fl n (clf n f))) (dist (fl n f)).length D
  all : ∀ k, k < (dist (fl n f)).length → k ∈ D
/-- A block. -/
def blkO (n : Nat) (f : Nat → Int) (k : Nat) : List Nat := clsM (fl n (clf n f)) n k
/-- The list. -/
def ordO (n : Nat) (f : Nat → Int) (D : List Nat) : List Nat := D.flatMap (blkO n f)
/-- Where a block begins. -/
def offO (n : Nat) (f : Nat → Int) (D : List Nat) (d : Nat) : Nat := (ordO n f (D.take d)).length

theorem mem_blkO {x k : Nat} : x ∈ blkO n f k ↔ x < n ∧ asF n f x = k := by
  unfold blkO
  rw [mem_clsM]
  constructor
  · rintro ⟨h1, h2⟩
    rw [fl_get _ h1, asF_eq h1] at h2
    simp only [Option.some.injEq] at h2
    exact ⟨h1, by omega⟩
  · rintro ⟨h1, rfl⟩
    exact ⟨h1, by rw [fl_get _ h1, asF_eq h1]⟩
theorem mem_ordO {x : Nat} {L : List Nat} : x ∈ ordO n f L ↔ x < n ∧ asF n f x ∈ L := by
  unfold ordO
  rw [List.mem_flatMap]
  constructor
  · rintro ⟨k, hk, hx⟩
    obtain ⟨h1, rfl⟩ := mem_blkO.1 hx
    exact ⟨h1, hk⟩
  · rintro ⟨h1, h2⟩
    exact ⟨_, h2, mem_blkO.2 ⟨h1, rfl⟩⟩
theorem ordO_K (n : Nat) (f : Nat → Int) (D : List Nat) : (D.flatMap fun k : Nat => memK (fl n (clf n f)) n (k : Int)) = (ordO n f D).map Int.ofNat := flat_N _ _ _
theorem BlkO.nodup (h : BlkO s n f D) : D.Nodup := h.ord.nodup
theorem BlkO.rng (h : BlkO s n f D) {k : Nat} (hk : k ∈ D) : k < (dist (fl n f)).length := h.ord.rng k hk
theorem BlkO.len (h : BlkO s n f D) : (ordO n f D).length = n := by
  have h1 := flat_le (fl n (clf n f)) n h.nodup
  have h2 := flat_all (C := fl n (clf n f)) (n := n) (M := (dist (fl n f)).length) (fun x hx => cls_in hx) h.all
  rw [ordO_K, List.length_map] at h1 h2
  omega
theorem BlkO.blk_pos (h : BlkO s n f D) {k : Nat} (hk : k ∈ D) : 0 < (blkO n f k).length := by
  have := memK_pos (cls_onto (h.rng hk))
  rw [memK_N, List.length_map] at this
  exact this
theorem offO_zero : offO n f D 0 = 0 := by simp [offO, ordO]
theorem take_succ {d k : Nat} (hd : D[d]? = some k) : D.take (d + 1) = D.take d ++ [k] := by rw [List.take_add_one, hd]; rfl
theorem ordO_succ {d k : Nat} (hd : D[d]? = some k) : ordO n f (D.take (d + 1)) = ordO n f (D.take d) ++ blkO n f k := by
  rw [take_succ hd]; simp [ordO]
theorem offO_succ {d k : Nat} (hd : D[d]? = some k) : offO n f D (d + 1) = offO n f D d + (blkO n f k).length := by
  unfold offO; rw [ordO_succ hd, List.length_append]
theorem ordO_split {d k : Nat} (hd : D[d]? = some k) : ordO n f D = ordO n f (D.take d) ++ (blkO n f k ++ ordO n f (D.drop (d + 1))) := by
  have h2 : ordO n f D = ordO n f (D.take (d + 1)) ++ ordO n f (D.drop (d + 1)) := by
    unfold ordO
    rw [← List.flatMap_append, List.take_append_drop]
  rw [h2, ordO_succ hd, List.append_assoc]
theorem ordO_at {d k j : Nat} (hd : D[d]? = some k) (hj : j < (blkO n f k).length) : (ordO n f D)[offO n f D d + j]? = (blkO n f k)[j]? := by
  rw [ordO_split hd]
  unfold offO
  rw [List.getElem?_append_right (by omega), Nat.add_sub_cancel_left, List.getElem?_append_left hj]
theorem BlkO.more (h : BlkO s n f D) {d : Nat} (hd : offO n f D d < n) : ∃ k, D[d]? = some k := by
  by_cases hl : d < D.length
  · exact ⟨D[d], List.getElem?_eq_getElem hl⟩
  · exfalso
    have := h.len
    unfold offO at hd
    rw [List.take_of_length_le (by omega)] at hd
    omega
theorem BlkO.off_le (h : BlkO s n f D) {d k : Nat} (hd : D[d]? = some k) : offO n f D d + (blkO n f k).length ≤ n := by
  have h1 := h.len
  rw [ordO_split hd, List.length_append, List.length_append] at h1
  unfold offO
  omega
theorem BlkO.next (h : BlkO s n f D) {d k y : Nat} (hd : D[d]? = some k) (hy : (ordO n f D)[offO n f D d + (blkO n f k).length]? = some y) : y < n ∧ asF n f y ≠ k := by
  rw [ordO_split hd] at hy
  unfold offO at hy
  rw [List.getElem?_append_right (by omega), Nat.add_sub_cancel_left, List.getElem?_append_right (by omega), Nat.sub_self] at hy
  have h1 := mem_ordO.1 (List.mem_of_getElem? hy)
  refine ⟨h1.1, fun e => ?_⟩
  rw [e] at h1
  have h2 := h.nodup
  rw [show D = D.take (d + 1) ++ D.drop (d + 1) from (List.take_append_drop _ _).symm, List.nodup_append] at h2
  exact h2.2.2 k (by rw [take_succ hd]; simp) k h1.2 rfl
theorem BlkO.ahead (h : BlkO s n f D) {d k p t : Nat} (hd : D[d]? = some k) (hp : p < n) (hpk : asF n f p = k) (hs : tau s p t) (hne : asF n f t ≠ k) : t ∈ ordO n f (D.take d) := by
  have hl := stp_lt h.right h.st hs
  refine mem_ordO.2 ⟨hl.2.1, ?_⟩
  have h1 : tau (col s (fl n (clf n f))) k (asF n f t) := (stp_col h.right h.st).2 ⟨p, t, hp, hl.2.1, hs, hpk, rfl, fun e => hne e.2.symm⟩
  exact h.ord.ahead (col_right h.right h.st) (col_srt _ _) d k _ hd h1
theorem blkO_len_le (k : Nat) : (blkO n f k).length ≤ n := by
  have := memK_len (fl n (clf n f)) n (k : Int)
  rw [memK_N, List.length_map] at this
  exact this
theorem asF_clf {x y : Nat} (hx : x < n) (hy : y < n) : clf n f x = clf n f y ↔ asF n f x = asF n f y := by
  rw [asF_eq hx, asF_eq hy]; omega
/-- One block alone: all of them come from one another. -/
theorem BlkO.same (h : BlkO s n f D) {x y : Nat} (hx : x < n) (hy : y < n) (e : asF n f x = asF n f y) : TR s x y ∧ TR s y x := (asF_same h.cyc hx hy).1 e
/-- Cycles and Order speak of one numbering. -/
theorem BlkO.of_ord {g : Nat → Int} (hr : s.Right) (hn : s.st = (n : Int)) (hf : Cyc s n f) (hg : Cyc s n g) (hD : OrdL (col s (fl n (clf n g))) (dist (fl n (clf n g))).length D) (hall : ∀ k, k < (dist (fl n (clf n g))).length → k ∈ D) :
    BlkO s n f D ∧ fl n (clf n g) = fl n (clf n f) := by
  have e : fl n (clf n g) = fl n (clf n f) := by rw [← canon_fl, ← canon_fl]; exact hg.unique hf
  rw [e, dist_clf_len] at hD hall
  exact ⟨⟨hr, hn, hf, hD, hall⟩, e⟩
end
theorem stp_normO {s : Lts} {p t : Nat} {l : Int} : stp s.norm p l t ↔ stp s p l t := by
  unfold stp Lts.norm
  simp only
  rw [mem_nf stoE]
end Go.Proofs.YtdhloijdefnkpaaGreatDoor

namespace Go.Proofs.YtdhloijdefnkpaaGreatDoor
open Go.RowKit Pl
namespace Pl
/-- What one state of the cycle gives. -/
def silT (n : Nat) (f : Nat → Int) (F : Nat → Nat → Bool) (q : Nat) (T : List Int) (x : Nat) : Bool := T.any (fun t => !decide (asF n f t.toNat = asF n f q) && F t.toNat x)
def silB (s : Lts) (n : Nat) (f : Nat → Int) (F : Nat → Nat → Bool) (q x : Nat) : Bool := decide (x = q) || silT n f F q (withL 0 (s.outs (q : Int))) x
def silR (s : Lts) (n : Nat) (f : Nat → Int) (F : Nat → Nat → Bool) (L : List Nat) (x : Nat) : Bool := L.any (fun q => silB s n f F q x)
/-- A row under way: the states L are in, of q's silent steps the ends T. -/
def silW (s : Lts) (n : Nat) (f : Nat → Int) (F : Nat → Nat → Bool) (L : List Nat) (q : Nat) (T : List Int) (x : Nat) : Bool := putF (silR s n f F L) q x || silT n f F q T x
section
variable {s : Lts} {n : Nat} {f : Nat → Int} {F : Nat → Nat → Bool} {D : List Nat}
theorem silW_nil (L : List Nat) (q : Nat) : silW s n f F L q [] = putF (silR s n f F L) q := by funext x; simp [silW, silT]
theorem silW_skip (L : List Nat) (q : Nat) {T : List Int} {t : Int} (h : asF n f t.toNat = asF n f q) : silW s n f F L q (T ++ [t]) = silW s n f F L q T := by
  funext x; simp [silW, silT, h]
theorem silW_join (L : List Nat) (q : Nat) {T : List Int} {t : Int} (h : asF n f t.toNat ≠ asF n f q) : silW s n f F L q (T ++ [t]) = orF (silW s n f F L q T) (F t.toNat) := by
  funext x; simp [silW, silT, orF, h, Bool.or_assoc]
theorem silW_done (L : List Nat) (q : Nat) : silW s n f F L q (withL 0 (s.outs (q : Int))) = silR s n f F (L ++ [q]) := by
  funext x; simp [silW, silR, silB, putF, Bool.or_assoc]
theorem silR_nil : silR s n f F [] = fun _ => false := by funext x; simp [silR]
theorem mem_silT {q x : Nat} : silT n f F q (withL 0 (s.outs (q : Int))) x = true ↔ ∃ t : Int, (0, t) ∈ s.outs (q : Int) ∧ asF n f t.toNat ≠ asF n f q ∧ F t.toNat x = true := by
  unfold silT withL
  rw [List.any_eq_true]
  constructor
  · rintro ⟨t, h1, h2⟩
    obtain ⟨⟨a, b⟩, h3, rfl⟩ := List.mem_map.1 h1
    have h4 := List.mem_filter.1 h3
    simp only [beq_iff_eq] at h4
    obtain ⟨h4, rfl⟩ := h4
    simp only [Bool.and_eq_true, Bool.not_eq_true', decide_eq_false_iff_not] at h2
    exact ⟨b, h4, h2.1, h2.2⟩
  · rintro ⟨t, h1, h2, h3⟩
    exact ⟨t, List.mem_map.2 ⟨(0, t), List.mem_filter.2 ⟨h1, by simp⟩, rfl⟩, by simp [h2, h3]⟩
/-- The gathered row, seen from each state of the cycle. -/
theorem silR_blk {g : Lts} (h : BlkO s n f D) (hg : ∀ p t : Nat, (0, (t : Int)) ∈ g.outs (p : Int) ↔ tau s p t) (hgr : g.Right) {d k : Nat} (hd : D[d]? = some k) (hF : ∀ t, t ∈ ordO n f (D.take d) → ∀ x, F t x = true ↔ TR s t x) {p : Nat} (hp : p < n) (hpk : asF n f p = k) (x : Nat) :
    silR g n f F (blkO n f k) x = true ↔ TR s p x := by
  unfold silR
  rw [List.any_eq_true]
  constructor
  · rintro ⟨q, hq, h1⟩
    obtain ⟨hqn, hqk⟩ := mem_blkO.1 hq
    have hpq := (h.same hp hqn (by rw [hpk, hqk])).1
    unfold silB at h1
    rw [Bool.or_eq_true] at h1
    rcases h1 with h1 | h1
    · rw [decide_eq_true_eq] at h1; subst h1; exact hpq
    · obtain ⟨t, h2, h3, h4⟩ := mem_silT.1 h1
      have h5 := offB_false.1 (hgr.edges _ (mem_outs.1 h2))
      simp only at h5
      obtain ⟨t, rfl⟩ := Int.eq_ofNat_of_zero_le h5.2.2.2.2.1
      simp only [Int.toNat_natCast] at h3 h4
      have h6 := (hg q t).1 h2
      have h7 := h.ahead hd hqn hqk h6 (by rw [← hqk]; exact h3)
      exact (hpq.tail h6).trans ((hF t h7 x).1 h4)
  · intro ht
    induction ht with
    | refl => exact ⟨p, mem_blkO.2 ⟨hp, hpk⟩, by simp [silB]⟩
    | @tail y x h1 h2 ih =>
      have hl := tau_lt h.right h.st h2
      obtain ⟨q, hq, h3⟩ := ih
      obtain ⟨hqn, hqk⟩ := mem_blkO.1 hq
      have leave : asF n f y = k → ∃ q, q ∈ blkO n f k ∧ silB g n f F q x = true := fun hy => by
        by_cases hx : asF n f x = k
        · exact ⟨x, mem_blkO.2 ⟨hl.2, hx⟩, by simp [silB]⟩
        · refine ⟨y, mem_blkO.2 ⟨hl.1, hy⟩, ?_⟩
          unfold silB
          rw [Bool.or_eq_true]
          right
          refine mem_silT.2 ⟨(x : Int), (hg y x).2 h2, by simp only [Int.toNat_natCast]; rw [hy]; exact hx, ?_⟩
          simp only [Int.toNat_natCast]
          exact (hF x (h.ahead hd hl.1 hy h2 hx) x).2 .refl
      have h3' := h3
      unfold silB at h3
      rw [Bool.or_eq_true] at h3
      rcases h3 with h3 | h3
      · rw [decide_eq_true_eq] at h3; subst h3; exact leave hqk
      · obtain ⟨t, h4, h5, h6⟩ := mem_silT.1 h3
        have h7 := offB_false.1 (hgr.edges _ (mem_outs.1 h4))
        simp only at h7
        obtain ⟨t, rfl⟩ := Int.eq_ofNat_of_zero_le h7.2.2.2.2.1
        simp only [Int.toNat_natCast] at h5 h6
        have h8 := (hg q t).1 h4
        have h9 := h.ahead hd hqn hqk h8 (by rw [← hqk]; exact h5)
        refine ⟨q, hq, ?_⟩
        unfold silB
        rw [Bool.or_eq_true]
        right
        exact mem_silT.2 ⟨(t : Int), h4, by simp only [Int.toNat_natCast]; exact h5, by simp only [Int.toNat_natCast]; exact (hF t h9 x).2 (((hF t h9 y).1 h6).tail h2)⟩
end
end Pl
end Go.Proofs.YtdhloijdefnkpaaGreatDoor

/-
  Lemmas.
-/
import Derived.Test.YtbaccmlfnbgehaaGreatDoorGCardBase
import Derived.Test.YtbaccmlfnbgehaaGreatDoorTold
import Derived.Stop.LaidTwo
import Derived.Test.YtbaccmlfnbgehaaGreatDoorGKit
import Derived.Test.YtbaccmlfnbgehaaGreatDoorGPlB
import Derived.Laws.BitsAllLaws
import Derived.IntWalk
import Derived.BigRegion
import Derived.Deep.QuietTactic
import Derived.BigQuiet
import Derived.Outline
import Derived.Deep.Cut
import Derived.Test.YtbaccmlfnbgehaaGreatDoorGRows2
import Derived.Shelf.Spec.TrailingZeros
namespace Go.Proofs.YtbaccmlfnbgehaaGreatDoor
open Go.ChangeShapes Go.WideShapes Go.ChangeAt Go.RowKit Go.Lib
theorem GErr.uniq {g : Nat} {p q : Addr} {W : World} (h : GErr g p W) (h' : GErr g q W) : p = q := by
  have h1 := h.cell
  rw [h'.cell] at h1
  simp only [Option.some.injEq, Value.iface.injEq, Value.pointer.injEq, true_and] at h1
  exact h1.symm
theorem sent_pair {n0 n1 : String} {g0 g1 : Nat} {d0 d1 : List UInt8} {W : World} (h : laidMet Tryz.prog [(n0, .iface "*errors.errorString" (.ptr (.agg [.lit (.string d0)]))), (n1, .iface "*errors.errorString" (.ptr (.agg [.lit (.string d1)])))] W)
    (hg0 : Tryz.prog.globalNamed n0 = some g0) (ht0 : (Tryz.prog.globals[g0]?).map (·.type) = some 47) (hg1 : Tryz.prog.globalNamed n1 = some g1) (ht1 : (Tryz.prog.globals[g1]?).map (·.type) = some 47) :
    ∃ a0 a1, GErr g0 a0 W ∧ GErr g1 a1 W ∧ a0 ≠ a1 ∧ (∃ c t, W.heap[a0.block]? = some (.cells c t (0, 0))) ∧ (∃ c t, W.heap[a1.block]? = some (.cells c t (0, 0))) := by
  obtain ⟨a0, a1, s0, s1, c0, c1, t0, t1, hv0, hv1, _, _, _, _, _, _, hne, hb0, hb1⟩ := laid_sentinels2 (g0 := g0) (g1 := g1) h hg0 ht0 hg1 ht1 Tryz.underlying47 row_es Tryz.underlying278 Tryz.underlying296 rfl rfl Tryz.underlying9 (by kernel_rfl) (by kernel_rfl)
  have hcell0 := World.var?_cell (g := g0) hg0 hv0 0
  have hcell0 : W.cell? ⟨g0, 0, none⟩ = some (.iface 278 (.pointer (some a0))) := by simpa using hcell0
  have hcell1 := World.var?_cell (g := g1) hg1 hv1 0
  have hcell1 : W.cell? ⟨g1, 0, none⟩ = some (.iface 278 (.pointer (some a1))) := by simpa using hcell1
  exact ⟨a0, a1, ⟨World.block_lt_of_cell? _ _ hcell0, hcell0⟩, ⟨World.block_lt_of_cell? _ _ hcell1, hcell1⟩, hne, ⟨c0, t0, hb0⟩, ⟨c1, t1, hb1⟩⟩
theorem sent_first {gk gj : Nat} {p : Addr} {W : World} (hk : GErr gk p W) (h : ∃ a0 a1, GErr gj a0 W ∧ GErr gk a1 W ∧ a0 ≠ a1 ∧ (∃ c t, W.heap[a0.block]? = some (.cells c t (0, 0))) ∧ (∃ c t, W.heap[a1.block]? = some (.cells c t (0, 0)))) : SentQ gj p W ∧ ∃ c t, W.heap[p.block]? = some (.cells c t (0, 0)) := by
  obtain ⟨a0, a1, h0, h1, hne, ⟨c, t, hb⟩, hc⟩ := h
  obtain rfl := hk.uniq h1
  exact ⟨⟨a0, c, t, h0, hne, hb⟩, hc⟩
end Go.Proofs.YtbaccmlfnbgehaaGreatDoor
namespace Go.Proofs.YtbaccmlfnbgehaaGreatDoor
open Go.RowKit Pl
def RowAt (w : World) (b off : Nat) (F : Nat → Bool) : Prop := ∀ j, j < 5 → w.cell? ⟨b, off + j, none⟩ = some (.int .u64 (wj F j : Nat))
set_option maxRecDepth 100000 in
theorem has_any {w : World} {b off : Nat} {F : Nat → Bool} (h : RowAt w b off F) {i : Nat} (hi : i < 320) :
    Calls Tryz.prog 37 #[.pointer (some ⟨b, off, none⟩), .int .i64 i] w fun e w' => e = .returned (.bool (F i)) ∧ w = w' := by
  have hc := h (i / 64) (by omega)
  have hr := wj_has F i
  have hl := wj_lt F (i / 64)
  obtain ⟨x, hx⟩ : ∃ x, x = wj F (i / 64) := ⟨_, rfl⟩
  rw [← hx] at hc hr hl
  obtain ⟨j, hj⟩ : ∃ j, j = i / 64 := ⟨_, rfl⟩
  obtain ⟨k, hk⟩ : ∃ k, k = i % 64 := ⟨_, rfl⟩
  rw [← hj] at hc
  rw [← hk] at hr
  have e1 : (i : Int) / 64 = (j : Int) := by omega
  have e2 : (i : Int) % 64 = (k : Int) := by omega
  have hj5 : (j : Int) < 5 := by omega
  have hb := World.block_lt_of_cell? _ _ hc
  have HR := Lib.hid hr; have HL := Lib.hid hl
  clear hr hl hx hj hk h
  go_enter Tryz.func37, Tryz.ntmps37
  go_upto_region 1 with fail
  go_wp2_with fail
  go_ret
  refine ⟨ret_b ?_, rfl⟩
  have h1 : (x : Int) / 2 ^ k = ((x >>> k : Nat) : Int) := by rw [Nat.shiftRight_eq_div_pow]; simp
  have h2 : x >>> k < 18446744073709551616 := by
    rw [Nat.shiftRight_eq_div_pow]
    exact Nat.lt_of_le_of_lt (Nat.div_le_self _ _) HL.out
  have h3 := u64_and_nat (x >>> k) 1 h2 (by decide)
  rw [h1]
  rw [show ((1 : Nat) : Int) = 1 from rfl] at h3
  rw [h3, HR.out]
  cases F i <;> rfl
theorem pow_lt64 {k : Nat} (h : k < 64) : 2 ^ k < 18446744073709551616 := Nat.lt_of_lt_of_le (Nat.pow_lt_pow_right (by decide) h) (by decide)
theorem wrap_pow {k : Nat} (h : k < 64) : IntKind.u64.wrap ((2 : Int) ^ k) = ((2 ^ k : Nat) : Int) := by
  have h1 := pow_lt64 h
  have h2 : ((2 : Int) ^ k) = ((2 ^ k : Nat) : Int) := by simp
  rw [h2, IntKind.wrap_u64]
  obtain ⟨y, hy⟩ : ∃ y, y = 2 ^ k := ⟨_, rfl⟩
  rw [← hy] at h1 ⊢
  omega
set_option maxRecDepth 100000 in
theorem put_any {w : World} {b off : Nat} {F : Nat → Bool} (h : RowAt w b off F) (hf : ∀ j, w.frozen? ⟨b, off + j, none⟩ = false) {i : Nat} (hi : i < 320) :
    Calls Tryz.prog 101 #[.pointer (some ⟨b, off, none⟩), .int .i64 i] w fun e w' => e = .returned (.tuple #[]) ∧ w' = (w.setCell ⟨b, off + i / 64, none⟩ (.int .u64 (wj (putF F i) (i / 64) : Nat))).drew := by
  have hc := h (i / 64) (by omega)
  have hr := wj_put F i
  have hl := wj_lt F (i / 64)
  have hfz := hf (i / 64)
  obtain ⟨x, hx⟩ : ∃ x, x = wj F (i / 64) := ⟨_, rfl⟩
  obtain ⟨y, hy⟩ : ∃ y, y = wj (putF F i) (i / 64) := ⟨_, rfl⟩
  rw [← hx] at hc hr hl
  rw [← hy] at hr ⊢
  have hk64 : i % 64 < 64 := Nat.mod_lt _ (by decide)
  obtain ⟨j, hj⟩ : ∃ j, j = i / 64 := ⟨_, rfl⟩
  obtain ⟨k, hk⟩ : ∃ k, k = i % 64 := ⟨_, rfl⟩
  rw [← hj] at hc hfz ⊢
  rw [← hk] at hr hk64
  have e1 : (i : Int) / 64 = (j : Int) := by omega
  have e2 : (i : Int) % 64 = (k : Int) := by omega
  have hj5 : (j : Int) < 5 := by omega
  have hb := World.block_lt_of_cell? _ _ hc
  have HR := Lib.hid hr; have HL := Lib.hid hl
  clear hr hl hx hj hk h hf hy
  go_enter Tryz.func101, Tryz.ntmps101
  go_region
  go_end0
  have h3 := u64_or_nat x (2 ^ k) HL.out (pow_lt64 hk64)
  rw [HR.out] at h3
  exact ⟨rfl, by rw [wrap_pow hk64, h3]⟩
set_option maxRecDepth 100000 in
theorem drop_any {w : World} {b off : Nat} {F : Nat → Bool} (h : RowAt w b off F) (hf : ∀ j, w.frozen? ⟨b, off + j, none⟩ = false) {i : Nat} (hi : i < 320) :
    Calls Tryz.prog 103 #[.pointer (some ⟨b, off, none⟩), .int .i64 i] w fun e w' => e = .returned (.tuple #[]) ∧ w' = (w.setCell ⟨b, off + i / 64, none⟩ (.int .u64 (wj (dropF F i) (i / 64) : Nat))).drew := by
  have hc := h (i / 64) (by omega)
  have hr := wj_drop F i
  have hl := wj_lt F (i / 64)
  have hfz := hf (i / 64)
  obtain ⟨x, hx⟩ : ∃ x, x = wj F (i / 64) := ⟨_, rfl⟩
  obtain ⟨y, hy⟩ : ∃ y, y = wj (dropF F i) (i / 64) := ⟨_, rfl⟩
  rw [← hx] at hc hr hl
  rw [← hy] at hr ⊢
  have hk64 : i % 64 < 64 := Nat.mod_lt _ (by decide)
  obtain ⟨j, hj⟩ : ∃ j, j = i / 64 := ⟨_, rfl⟩
  obtain ⟨k, hk⟩ : ∃ k, k = i % 64 := ⟨_, rfl⟩
  rw [← hj] at hc hfz ⊢
  rw [← hk] at hr hk64
  have e1 : (i : Int) / 64 = (j : Int) := by omega
  have e2 : (i : Int) % 64 = (k : Int) := by omega
  have hj5 : (j : Int) < 5 := by omega
  have hb := World.block_lt_of_cell? _ _ hc
  have HR := Lib.hid hr; have HL := Lib.hid hl
  clear hr hl hx hj hk h hf hy
  go_enter Tryz.func103, Tryz.ntmps103
  go_region
  go_end0
  have h3 := u64_andNot_nat x (2 ^ k) HL.out (pow_lt64 hk64)
  rw [HR.out] at h3
  exact ⟨rfl, by rw [wrap_pow hk64, h3]⟩
end Go.Proofs.YtbaccmlfnbgehaaGreatDoor
namespace Go.Proofs.YtbaccmlfnbgehaaGreatDoor
open Go.RowKit Pl
open Lib (hid)
theorem RowAt.below {w w' : World} {b off : Nat} {F : Nat → Bool} (h : RowAt w b off F) (hB : Below w.heap.size w w') : RowAt w' b off F := fun j hj => by
  have hc := h j hj
  rw [hB.cell (p := ⟨b, off + j, none⟩) (World.block_lt_of_cell? _ _ hc)]; exact hc
theorem RowAt.lt {w : World} {b off : Nat} {F : Nat → Bool} (h : RowAt w b off F) : b < w.heap.size := World.block_lt_of_cell? _ _ (h 0 (by decide))
theorem RowAt.of_block {w w' : World} {b off : Nat} {F : Nat → Bool} (h : RowAt w b off F) (hb : w'.heap[b]? = w.heap[b]?) : RowAt w' b off F := fun j hj =>
  (World.cell?_of_block (a := ⟨b, off + j, none⟩) hb).trans (h j hj)
def Tab (w : World) : Prop := Go.Proofs.TabAt 12 Lib.deBruijn64tab w
theorem Tab.below {w w' : World} (h : Tab w) (hB : Below w.heap.size w w') : Tab w' := fun j hj => by
  have hc := h j hj
  rw [hB.cell (p := ⟨12, j, none⟩) (World.block_lt_of_cell? _ _ hc)]; exact hc
set_option maxRecDepth 100000 in
set_option maxHeartbeats 1000000 in
theorem tz_any {w : World} (hT : Tab w) {x : Nat} (h0 : x ≠ 0) (hx : x < 18446744073709551616) :
    Calls Tryz.prog 104 #[.int .u64 x] w fun e w' => e = .returned (.int .i64 (Lib.ctz 64 x)) ∧ w = w' := by
  obtain ⟨hlow, hk⟩ := Lib.lowest_bit 64 x h0 hx
  obtain ⟨hi, htab⟩ := Lib.deBruijn64_at _ hk
  have hcell := hT _ hi
  rw [htab] at hcell
  have key := Go.Proofs.tz64_key x _ hx h0 hlow
  have hx0 : ((x : Int) == 0) = false := by simp; omega
  obtain ⟨k, hkk⟩ : ∃ k, k = Lib.ctz 64 x := ⟨_, rfl⟩
  rw [← hkk] at hcell hk key hi ⊢
  obtain ⟨idx, hidx⟩ : ∃ idx, idx = 2 ^ k * 285870213051353865 % 18446744073709551616 / 288230376151711744 := ⟨_, rfl⟩
  rw [← hidx] at hcell key hi
  have HKEY := hid key
  clear key hidx hlow htab hx h0 hkk hT
  go_enter Tryz.func104, Tryz.ntmps104
  go_wp2_with (simp only [HKEY.out])
  go_ret
  exact ⟨rfl, rfl⟩
def MeetsPost (w : World) (F G : Nat → Bool) (e : Ending) (w' : World) : Prop := ∃ m : Bool, e = .returned (.bool m) ∧ (m = true ↔ ∃ i, i < 320 ∧ F i = true ∧ G i = true) ∧ ∃ u, w' = w.drewN u
set_option maxRecDepth 100000 in
theorem rowMeets_any {w : World} {b off b2 off2 : Nat} {F G : Nat → Bool} (h : RowAt w b off F) (h2 : RowAt w b2 off2 G) :
    Calls Tryz.prog 149 #[.pointer (some ⟨b, off, none⟩), .pointer (some ⟨b2, off2, none⟩)] w (MeetsPost w F G) := by
  have hb := h.lt; have hb2 := h2.lt
  have H := hid h; have H2 := hid h2
  clear h h2
  go_enter Tryz.func149, Tryz.ntmps149
  go_wp2_with fail
  go_loopw [5, 6, 8] (fun _ _ v8 wr => ∃ j u : Nat, v8 = .int .i64 j ∧ j ≤ 5 ∧ wr = w.drewN u ∧ (∀ i, i < 64 * j → ¬ (F i = true ∧ G i = true))) (fun _ _ v8 _ => 5 - (intOf v8).toNat)
  case atStart => exact ⟨0, 0, rfl, by omega, rfl, fun i hi => by omega⟩
  case round =>
    obtain ⟨j, u, rfl, hj, rfl, hno⟩ := hrel
    have HNO := hid hno
    clear hno
    by_cases hlt : j < 5
    · have c1 := H.out j hlt
      have c2 := H2.out j hlt
      have hm := wj_meets F G j
      have l1 := wj_lt F j; have l2 := wj_lt G j
      obtain ⟨x, hx⟩ : ∃ x, x = wj F j := ⟨_, rfl⟩
      obtain ⟨y, hy⟩ : ∃ y, y = wj G j := ⟨_, rfl⟩
      rw [← hx] at c1 hm l1; rw [← hy] at c2 hm l2
      have hand := u64_and_nat x y l1 l2
      obtain ⟨z, hz⟩ : ∃ z, z = x &&& y := ⟨_, rfl⟩
      rw [← hz] at hm hand
      have HM := hid hm
      have hjI : (j : Int) < 5 := by omega
      clear hm l1 l2 hx hy hz
      by_cases hz0 : z = 0
      · have hb0 : ((z : Int) != 0) = false := by simp [hz0]
        have hno2 : ∀ i, i < 64 * (j + 1) → ¬ (F i = true ∧ G i = true) := fun i hi hfg => by
          by_cases e : i < 64 * j
          · exact HNO.out i e hfg
          · exact (HM.out.2 ⟨i - 64 * j, by omega, by rw [show 64 * j + (i - 64 * j) = i by omega]; exact hfg.1, by rw [show 64 * j + (i - 64 * j) = i by omega]; exact hfg.2⟩) hz0
        have HNO2 := hid hno2
        clear hno2 hz0
        go_wp2_with fail
        go_quiet (fail)
        go_wp2_with fail
        go_roundw
        case rel => exact ⟨j + 1, _, by go_num, by omega, rfl, HNO2.out⟩
        case measure => simp [intOf]; omega
      · have hb0 : ((z : Int) != 0) = true := by simp [hz0]
        obtain ⟨k, hk, h1, h2⟩ := HM.out.1 hz0
        have hex : ∃ i, i < 320 ∧ F i = true ∧ G i = true := ⟨64 * j + k, by omega, h1, h2⟩
        have HEX := hid hex
        clear hz0 h1 h2 hex
        go_wp2_with fail
        go_quiet (fail)
        go_wp2_with fail
        go_ret
        exact ⟨true, rfl, ⟨fun _ => HEX.out, fun _ => rfl⟩, _, rfl⟩
    · have hj5 : 5 = j := by omega
      have HJ := hid hj5
      obtain rfl : j = 5 := by omega
      clear hj5
      go_wp2_with fail
      go_ret
      refine ⟨false, rfl, ⟨(fun h => by cases h), ?_⟩, _, rfl⟩
      rintro ⟨i, hi, hfg⟩
      exact absurd hfg (HNO.out i (by omega))
def intsOf (L : List Nat) : List Int := L.map Int.ofNat
theorem intsOf_len (L : List Nat) : (intsOf L).length = L.length := by simp [intsOf]
theorem own_drewS {w : World} {base : Nat} {e : TypeId} {k n m : Nat} {v : Value} {xs : List Value} (h : w.ownsRow base e k v n xs) : (w.drewN m).ownsRow base e k v n xs := h
def IdsPost (w : World) (F : Nat → Bool) (e : Ending) (w' : World) : Prop := ∃ v, e = .returned v ∧ w'.ownsRow w.heap.size 3 1 v (intsOf (idsN F 320)).length ((intsOf (idsN F 320)).flatMap encI) ∧ Below w.heap.size w w'
set_option maxRecDepth 100000 in
set_option maxHeartbeats 2000000 in
theorem ids_any {w : World} {b off : Nat} {F : Nat → Bool} (h : RowAt w b off F) (hT : Tab w) :
    Calls Tryz.prog 36 #[.pointer (some ⟨b, off, none⟩)] w (IdsPost w F) := by
  have H := hid h; have HT := hid hT
  have hbl := h.lt
  clear h hT
  go_enter Tryz.func36, Tryz.ntmps36
  go_wp2_with fail
  go_loopw [3, 4, 5, 7] (fun v3 _ _ v7 wr => ∃ j : Nat, v7 = .int .i64 j ∧ j ≤ 5 ∧ wr.ownsRow w.heap.size 3 1 v3 (intsOf (idsN F (64 * j))).length ((intsOf (idsN F (64 * j))).flatMap encI) ∧ Below w.heap.size w wr) (fun _ _ _ v7 _ => 5 - (intOf v7).toNat)
  case atStart => exact ⟨0, rfl, by omega, ⟨by simp [idsN, intsOf], .inl ⟨rfl, by simp [idsN, intsOf]⟩⟩, Below.refl _ _⟩
  case round =>
    obtain ⟨j, rfl, hj, hown, hB⟩ := hrel
    have HOWN := hid hown; have HB := hid hB
    have hszr := hB.size
    clear hown hB
    by_cases hlt : j < 5
    · have c1 := (H.out.below HB.out) j hlt
      have hxb := wj_bit F j
      have hxl := wj_lt F j
      obtain ⟨x0, hx0⟩ : ∃ x0, x0 = wj F j := ⟨_, rfl⟩
      rw [← hx0] at c1 hxl
      have hb0 : ∀ k, x0.testBit k = (decide (0 ≤ k ∧ k < 64) && F (64 * j + k)) := fun k => by rw [hx0, wj_bit]; simp
      have hjI : (j : Int) < 5 := by omega
      have hbr : b < wr.heap.size := by omega
      have HXB := hid hb0; have HXL := hid hxl
      have HBD := hid (fun u => bdrew (n := u) HB.out)
      have HOD := hid (fun u => own_drewS (m := u) HOWN.out)
      clear hxb hxl hx0 hb0
      go_wp2_with fail
      go_quiet (fail)
      go_wp2_with fail
      go_loopw [3, 5] (fun v3 v5 wx => ∃ (x t : Nat), v5 = .int .u64 x ∧ x < 2 ^ 64 ∧ t ≤ 64 ∧ (∀ k, x.testBit k = (decide (t ≤ k ∧ k < 64) && F (64 * j + k))) ∧ wx.ownsRow w.heap.size 3 1 v3 (intsOf (idsN F (64 * j + t))).length ((intsOf (idsN F (64 * j + t))).flatMap encI) ∧ Below w.heap.size w wx) (fun _ v5 _ => (intOf v5).toNat)
      case atStart => exact ⟨x0, 0, rfl, HXL.out, by omega, HXB.out, HOD.out _, HBD.out _⟩
      case round =>
        obtain ⟨x, t, rfl, hxl, ht, hxb, hown, hB⟩ := hrel
        have HXL2 := hid (show x < 18446744073709551616 from hxl); have HXB2 := hid hxb; have HO2 := hid hown; have HB2 := hid hB
        have hsz2 := hB.size
        clear hxl hxb hown hB HOD HBD HXB HXL c1
        by_cases hx0 : x = 0
        · subst hx0
          have hend := idsN_end ht HXB2.out
          have HEND := hid hend
          have hown2 : wr.ownsRow w.heap.size 3 1 u3 (intsOf (idsN F (64 * (j + 1)))).length ((intsOf (idsN F (64 * (j + 1)))).flatMap encI) := by rw [HEND.out]; exact HO2.out
          have HO3 := hid hown2
          clear hend hown2
          go_wp2_with fail
          go_roundw
          case rel => exact ⟨j + 1, by go_num, by omega, HO3.out, HB2.out⟩
          case measure => simp [intOf]; omega
        · obtain ⟨s1, s2, s3, s4⟩ := idsN_step ht HXL2.out HXB2.out hx0
          have htz := tz_any (HT.out.below HB2.out) hx0 HXL2.out
          obtain ⟨c, hc⟩ : ∃ c, c = Lib.ctz 64 x := ⟨_, rfl⟩
          rw [← hc] at s1 s2 s3 s4 htz
          have hne : ((x : Int) != 0) = true := by simp [hx0]
          have hand := u64_and_nat x (x - 1) HXL2.out (by have := HXL2.out; omega)
          have hsub : IntKind.u64.wrap ((x : Int) - 1) = ((x - 1 : Nat) : Int) := by
            have := HXL2.out
            rw [IntKind.wrap_u64]; omega
          have hlt2 : x &&& (x - 1) < x := by
            have := Nat.and_le_right (n := x) (m := x - 1)
            omega
          obtain ⟨y, hy⟩ : ∃ y, y = x &&& (x - 1) := ⟨_, rfl⟩
          rw [← hy] at s4 hand hlt2
          have hyl : y < 2 ^ 64 := by have := HXL2.out; show y < 18446744073709551616; omega
          have hlen : (intsOf (idsN F (64 * j + t))).length ≤ 320 := by rw [intsOf_len]; have := idsN_le F (64 * j + t); omega
          have s3' : intsOf (idsN F (64 * j + (c + 1))) = intsOf (idsN F (64 * j + t)) ++ [((64 * j + c : Nat) : Int)] := by rw [s3]; unfold intsOf; simp
          have hcI : (j : Int) * 64 + (c : Int) = ((64 * j + c : Nat) : Int) := by omega
          have HS3 := hid s3'; have HS4 := hid s4; have HTZ := hid htz; have HYL := hid hyl; have HCI := hid hcI; have HLT2 := hid hlt2
          have hc64 : (c : Int) < 64 := by omega
          clear s3 s3' s4 htz hyl hc hy hx0 hcI hlt2
          go_wp2_with fail
          refine HTZ.out.mono ?_
          rintro e w5 ⟨rfl, rfl⟩
          go_wp2_with (at_builtin; refine wpList_app1 rfl _ _ _ rfl rowI (Below.refl _ _) (by simp; omega) rfl (HO2.out.alloc _) ⟨wr.heap.size, 0, none⟩ 1 1 [.int .i64 ((j : Int) * 64 + (c : Int))] rfl rfl (cells1 (by simp [go_sem])) (by simp [Value.oneCell']) (by decide) (by omega) (by unfold maxLen; omega) ?_; intro g cap w7 hown7 _ hg7)
          have hb7 : Below w.heap.size w w7 := (HB2.out.alloc hsz2 _).grown hg7 (by simp; omega) (fun k hk => (HO2.out.lt k hk).1)
          rw [HCI.out] at hown7
          have hown8 : w7.ownsRow w.heap.size 3 1 (.slice (some ⟨g, 0, none⟩) ((intsOf (idsN F (64 * j + t))).length + 1) cap) (intsOf (idsN F (64 * j + (c + 1)))).length ((intsOf (idsN F (64 * j + (c + 1)))).flatMap encI) := by
            rw [HS3.out, List.length_append, List.flatMap_append]; exact hown7
          have HO8 := hid hown8; have HB7 := hid hb7
          clear hown7 hown8 hg7 hb7
          go_roundw
          case rel => exact ⟨y, c + 1, rfl, HYL.out, by omega, HS4.out, HO8.out, HB7.out⟩
          case measure => simp [intOf]; exact HLT2.out
    · obtain rfl : j = 5 := by omega
      go_wp2_with fail
      go_ret
      exact ⟨_, rfl, HOWN.out, HB.out⟩
end Go.Proofs.YtbaccmlfnbgehaaGreatDoor

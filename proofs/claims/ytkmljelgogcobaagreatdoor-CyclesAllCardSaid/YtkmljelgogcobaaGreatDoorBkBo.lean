/-
  semblancebook.Book, lists of Bools: marks, the look whether they stand as they were, marks put, lists grown, the look at the marks.
-/
import Derived.Test.YtkmljelgogcobaaGreatDoorBkB
import Derived.Test.YtkmljelgogcobaaGreatDoorGRows2
import Derived.Deep.RegionHeld3
import Derived.Deep.QuietTactic
import Derived.BigQuiet
import Derived.IntWalk
namespace Go.Proofs.YtkmljelgogcobaaGreatDoor
open Go.RowKit Pl

theorem rowBB_bk : IsRow Tryz.prog 35 81 1 24 (.slice none 0 0) := isRow_of Tryz.underlying35 (by kernel_rfl) rfl (by decide)

set_option maxRecDepth 100000 in
set_option maxHeartbeats 4000000 in
theorem markB_any {w : World} {i k n : Nat} (hi : i ≤ 400) (hk : k ≤ 600000) (hn : n ≤ 600000) :
    Calls Tryz.prog 140 #[.int .i64 (i : Int), .int .i64 (k : Int), .int .i64 (n : Int)] w fun e w' => ∃ v, e = .returned v ∧ w'.ownsRow w.heap.size 4 1 v n ((mkG mB i k n).flatMap encB) ∧ Below w.heap.size w w' := by
  go_enter Tryz.func140, Tryz.ntmps140
  go_wp2_with fail
  go_loopw [7, 8] (fun v7 v8 wr => ∃ j : Nat, v8 = .int .i64 ((k : Int) + (j : Int)) ∧ j ≤ n ∧ Below w.heap.size w wr ∧ wr.ownsRow w.heap.size 4 1 v7 j ((mkG mB i k j).flatMap encB)) (fun _ v8 _ => k + n - (intOf v8).toNat)
  case atStart => exact ⟨0, by simp, Nat.zero_le _, Below.refl _ _, World.ownsRow_nil _ _ _ _⟩
  case round =>
    obtain ⟨j, rfl, hj, hB, hown⟩ := hrel
    have HB := Lib.hid hB; have HO := Lib.hid hown
    have hs := hB.size
    clear hB hown
    by_cases hlt : j < n
    · have hltI : (k : Int) + (j : Int) < (k : Int) + (n : Int) := by omega
      go_wp2_with (at_builtin; refine wpList_lies rfl _ _ 81 rfl rowB (base := w.heap.size) (by simp; omega) rfl (own_below HO.out ((Below.refl wr.heap.size wr).alloc (Nat.le_refl _) _)) ⟨wr.heap.size, 0, none⟩ 1 1 [.bool (((i : Int) + ((k : Int) + (j : Int))) % 2 == 0)] rfl rfl (cells1 (by simp [go_sem])) (by simp [Value.oneCell']) (by omega) (by omega) (by unfold maxLen; omega) _ rfl ?_; intro g cap w6 hown6 hg6 _ _)
      have hb6 := (HB.out.alloc HB.out.size _).grown hg6 (by simp; omega) (fun k hk => (HO.out.lt k hk).1)
      have HB6 := Lib.hid hb6
      have HO6 : RowKit.Hid (w6.ownsRow w.heap.size 4 1 (.slice (some ⟨g, 0, none⟩) (j + 1) cap) (j + 1) ((mkG mB i k (j + 1)).flatMap encB)) := Lib.hid (by
        rw [← mkG_snoc, List.flatMap_append]
        simpa [encB, mB_int] using hown6)
      clear hb6 hown6 hg6 HO HB
      go_roundw
      case rel => exact ⟨j + 1, by go_num, by omega, HB6.out, HO6.out⟩
      case measure => simp [intOf]; omega
    · obtain rfl : n = j := by omega
      go_wp2_with fail
      go_ret
      exact ⟨_, rfl, HO.out, HB.out⟩

set_option maxRecDepth 100000 in
set_option maxHeartbeats 4000000 in
theorem stillB_any {w : World} {bb n : Nat} {a a' : Option Addr} {ob ob' c c' : Nat} {vs us : List Value}
    (h0 : w.cell? ⟨bb, 6, none⟩ = some (.slice a n c)) (h1 : w.cell? ⟨bb, 7, none⟩ = some (.slice a' n c')) (hO : SlAt encV 1 w a ob 0 vs) (hP : SlAt encV 1 w a' ob' 0 us) (hvl : vs.length = n) (hul : us.length = n) (hn : n ≤ 400)
    (hR : ∀ (i : Nat) (v u : Value), vs[i]? = some v → us[i]? = some u → ∃ (xs : List Bool) (a1 : Option Addr) (b1 c1 : Nat) (a2 : Option Addr) (b2 c2 : Nat), v = .slice a1 xs.length c1 ∧ u = .slice a2 xs.length c2 ∧ SlAt encB 1 w a1 b1 0 xs ∧ SlAt encB 1 w a2 b2 0 xs ∧ xs.length ≤ 600000) :
    Calls Tryz.prog 68 #[.pointer (some ⟨bb, 0, none⟩)] w fun e w' => e = .returned (.bool true) ∧ ∃ m, w' = w.drewN m := by
  have HO := Lib.hid hO; have HP := Lib.hid hP; have HVL := Lib.hid hvl; have HUL := Lib.hid hul; have HR := Lib.hid hR
  clear hO hP hvl hul hR
  go_enter Tryz.func68, Tryz.ntmps68
  go_wp2_with fail
  go_loopw [3] (fun v3 wr => ∃ i m : Nat, i ≤ n ∧ v3 = .int .i64 i ∧ wr = w.drewN m) (fun v3 _ => n - (intOf v3).toNat)
  case atStart => exact ⟨0, 0, Nat.zero_le _, rfl, rfl⟩
  case round =>
    obtain ⟨i, m, hi, rfl, rfl⟩ := hrel
    by_cases hlt : i < n
    · obtain ⟨v, hv⟩ := getElem?_of_lt (xs := vs) (i := i) (by rw [HVL.out]; exact hlt)
      obtain ⟨u, hu⟩ := getElem?_of_lt (xs := us) (i := i) (by rw [HUL.out]; exact hlt)
      obtain ⟨xs, a1, b1, q1, a2, b2, q2, rfl, rfl, hs1, hs2, hxl⟩ := HR.out i v u hv hu
      have ha := HO.out.ad (by rw [HVL.out]; omega)
      have hb := HP.out.ad (by rw [HUL.out]; omega)
      subst ha hb
      have d0 := HO.out.cv hv
      have d1 := HP.out.cv hu
      rw [Nat.zero_add] at d0 d1
      have HSM : RowKit.Hid (∀ mm, Calls Tryz.prog 131 #[.slice a1 xs.length q1, .slice a2 xs.length q2] (w.drewN mm) fun e w' => e = .returned (.bool (decide (xs = xs))) ∧ ∃ n, w' = (w.drewN mm).drewN n) := Lib.hid (fun mm => sameBools_any (hs1.below (bdrew (Below.refl _ _)) (Nat.le_refl _)) (hs2.below (bdrew (Below.refl _ _)) (Nat.le_refl _)) (by omega) (by omega))
      have HSE : RowKit.Hid (decide (xs = xs) = true) := Lib.hid (by simp)
      have hin : (i : Int) < (n : Int) := by omega
      clear hs1 hs2 hv hu hxl
      generalize xs.length = z at *
      go_wp2_with fail
      go_region_held3 (fun V => V.cell? ⟨bb, 6, none⟩ = some (.slice (some ⟨ob, 0, none⟩) n c) ∧ V.cell? ⟨bb, 7, none⟩ = some (.slice (some ⟨ob', 0, none⟩) n c') ∧ V.cell? ⟨ob, i, none⟩ = some (.slice a1 z q1) ∧ V.cell? ⟨ob', i, none⟩ = some (.slice a2 z q2))
        (first | exact ⟨h0, h1, d0, d1⟩ | assumption)
        ((go_at_call 131; refine (HSM.out _).mono ?_; rintro e w7 ⟨rfl, mm, rfl⟩; rw [HSE.out]))
      go_wp2_with fail
      go_roundw
      case rel => exact ⟨i + 1, _, by omega, by go_num, by first | rfl | exact World.drewN_drewN _ _ _⟩
      case measure => simp [intOf]; omega
    · obtain rfl : n = i := by omega
      go_wp2_with fail
      go_ret
      exact ⟨rfl, m, rfl⟩

set_option maxRecDepth 100000 in
set_option maxHeartbeats 4000000 in
theorem markedB_any {w : World} {n : Nat} {a : Option Addr} {ob c : Nat} {vs : List Value} (hO : SlAt encV 1 w a ob 0 vs) (hvl : vs.length = n) (hn : n ≤ 400)
    (hR : ∀ (i : Nat) (v : Value), vs[i]? = some v → ∃ (z : Nat) (a1 : Option Addr) (b1 c1 : Nat), v = .slice a1 z c1 ∧ SlAt encB 1 w a1 b1 0 (mkG mB i 0 z) ∧ z ≤ 600000) :
    Calls Tryz.prog 101 #[.slice a n c] w fun e w' => e = .returned (.bool true) ∧ Below w.heap.size w w' := by
  have HO := Lib.hid hO; have HVL := Lib.hid hvl; have HR := Lib.hid hR
  clear hO hvl hR
  go_enter Tryz.func101, Tryz.ntmps101
  go_wp2_with fail
  go_loopw [3] (fun v3 wr => ∃ i : Nat, i ≤ n ∧ v3 = .int .i64 i ∧ Below w.heap.size w wr) (fun v3 _ => n - (intOf v3).toNat)
  case atStart => exact ⟨0, Nat.zero_le _, rfl, Below.refl _ _⟩
  case round =>
    obtain ⟨i, hi, rfl, hB⟩ := hrel
    by_cases hlt : i < n
    · obtain ⟨v, hv⟩ := getElem?_of_lt (xs := vs) (i := i) (by rw [HVL.out]; exact hlt)
      obtain ⟨z, a1, b1, q1, rfl, hs1, hxl⟩ := HR.out i v hv
      have ha := HO.out.ad (by rw [HVL.out]; omega)
      subst ha
      have hob := HO.out.lt (by rw [HVL.out]; omega)
      have d0 := (HO.out.below hB (Nat.le_refl _)).cv hv
      rw [Nat.zero_add] at d0
      have hob2 : ob < wr.heap.size := Nat.lt_of_lt_of_le hob hB.size
      have HMK := Lib.hid (fun (V : World) => markB_any (w := V) (i := i) (k := 0) (n := z) (by omega) (by omega) hxl)
      have hin : (i : Int) < (n : Int) := by omega
      have HS1 := Lib.hid (hs1.below hB (Nat.le_refl _))
      have HSM : RowKit.Hid (∀ (V : World) (v : Value) (base : Nat), Below wr.heap.size wr V → V.ownsRow base 4 1 v z ((mkG mB i 0 z).flatMap encB) → Calls Tryz.prog 131 #[.slice a1 z q1, v] V fun e w' => e = .returned (.bool true) ∧ ∃ n, w' = V.drewN n) := Lib.hid (fun V v base hV hv => by
        obtain ⟨a2, c2, b2, rfl, _, _, hs2, _⟩ := slAt_own lenB (xs := mkG mB i 0 z) (by rw [mkG_len]; exact hv)
        have := sameBools_any (c1 := q1) (c2 := c2) (HS1.out.below hV (Nat.le_refl _)) hs2 (by rw [mkG_len]; omega) (by rw [mkG_len]; omega)
        rw [mkG_len] at this
        rw [mkG_len]
        exact this.mono (by rintro e w7 ⟨rfl, mm, rfl⟩; exact ⟨by simp, mm, rfl⟩))
      have HB := Lib.hid hB
      have hdr : Below wr.heap.size wr wr.drew := (Below.refl _ _).drew
      have HKP : RowKit.Hid (∀ V, Below wr.heap.size wr V → V.cell? ⟨ob, i, none⟩ = some (.slice a1 z q1) ∧ ob < V.heap.size ∧ Below wr.heap.size wr V) := Lib.hid (fun V hV => ⟨by rw [hV.cell (p := ⟨ob, i, none⟩) hob2]; exact d0, Nat.lt_of_lt_of_le hob2 hV.size, hV⟩)
      clear hs1 hv hxl hB hob
      go_wp2_with fail
      go_region_held3 (fun V => V.cell? ⟨ob, i, none⟩ = some (.slice a1 z q1) ∧ ob < V.heap.size ∧ Below wr.heap.size wr V)
        (first | (exact HKP.out _ (by assumption)) | assumption)
        (first
          | (go_at_call 140; go_split_ands; refine (HMK.out _).mono ?_; rintro e w7 ⟨v7, rfl, hown7, hB7⟩; have hW7 : Below wr.heap.size wr w7 := Below.trans (by assumption) (hB7.mono (Below.size (by assumption))))
          | (go_at_call 131; go_split_ands; refine (HSM.out _ _ _ (by assumption) (by assumption)).mono ?_; rintro e w8 ⟨rfl, mm, rfl⟩; have hW8 : Below wr.heap.size wr _ := bdrew (n := mm) (by assumption)))
      all_goals go_split_ands
      all_goals go_wp2_with fail
      all_goals
        go_roundw
        case rel => exact ⟨i + 1, by omega, by go_num, HB.out.trans (Below.mono (by assumption) HB.out.size)⟩
        case measure => simp [intOf]; omega
    · obtain rfl : n = i := by omega
      go_wp2_with fail
      go_ret
      exact ⟨rfl, hB⟩
end Go.Proofs.YtkmljelgogcobaaGreatDoor

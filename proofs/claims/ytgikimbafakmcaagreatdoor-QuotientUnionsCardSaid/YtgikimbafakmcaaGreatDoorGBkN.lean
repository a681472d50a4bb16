/-
  Lemmas.
-/
import Derived.Test.YtgikimbafakmcaaGreatDoorGBkB
import Derived.Deep.QuietTactic
import Derived.BigQuiet
import Derived.IntWalk
import Derived.Test.YtgikimbafakmcaaGreatDoorGBkEp
import Derived.BigRegion
import Derived.Deep.RegionLaw
set_option maxHeartbeats 4000000
set_option maxRecDepth 100000
namespace Go.Proofs.YtgikimbafakmcaaGreatDoor
open Go.RowKit Pl
theorem stillTokens_nil {w : World} {bb : Nat} (h0 : w.cell? ⟨bb, 2, none⟩ = some (.slice none 0 0)) : Calls Tryz.prog 26 #[.pointer (some ⟨bb, 0, none⟩)] w fun e w' => e = .returned (.bool true) /\ w' = w := by
 go_enter Tryz.func26, Tryz.ntmps26
 go_wp2_with fail
 go_loopw [3] (fun v3 wr => v3 = .int .i64 0 /\ wr = w) (fun _ _ => 0)
 case atStart => exact ⟨rfl, rfl⟩
 case round => (
 obtain ⟨rfl, rfl⟩ := hrel
 go_wp2_with fail
 go_ret
 exact ⟨rfl, rfl⟩)
theorem putTokens_nil {w : World} {bb : Nat} (h0 : w.cell? ⟨bb, 2, none⟩ = some (.slice none 0 0)) : Calls Tryz.prog 37 #[.pointer (some ⟨bb, 0, none⟩)] w fun e w' => e = .returned (.tuple #[]) /\ w' = w := by
 go_enter Tryz.func37, Tryz.ntmps37
 go_wp2_with fail
 go_loopw [2] (fun v2 wr => v2 = .int .i64 0 /\ wr = w) (fun _ _ => 0)
 case atStart => exact ⟨rfl, rfl⟩
 case round => (
 obtain ⟨rfl, rfl⟩ := hrel
 go_wp2_with fail
 go_end0
 exact ⟨rfl, rfl⟩)
theorem growTokens_nil {w : World} {bb : Nat} (h0 : w.cell? ⟨bb, 2, none⟩ = some (.slice none 0 0)) : Calls Tryz.prog 48 #[.pointer (some ⟨bb, 0, none⟩)] w fun e w' => e = .returned (.slice none 0 0) /\ w' = w := by
 go_enter Tryz.func48, Tryz.ntmps48
 go_wp2_with fail
 go_loopw [3, 4] (fun v3 v4 wr => v3 = .slice none 0 0 /\ v4 = .int .i64 0 /\ wr = w) (fun _ _ _ => 0)
 case atStart => exact ⟨rfl, rfl, rfl⟩
 case round => (
 obtain ⟨rfl, rfl, rfl⟩ := hrel
 go_wp2_with fail
 go_ret
 exact ⟨rfl, rfl⟩)
theorem markedTokens_nil {w : World} : Calls Tryz.prog 59 #[.slice none 0 0] w fun e w' => e = .returned (.bool true) /\ w' = w := by
 go_enter Tryz.func59, Tryz.ntmps59
 go_wp2_with fail
 go_loopw [3] (fun v3 wr => v3 = .int .i64 0 /\ wr = w) (fun _ _ => 0)
 case atStart => exact ⟨rfl, rfl⟩
 case round => (
 obtain ⟨rfl, rfl⟩ := hrel
 go_wp2_with fail
 go_ret
 exact ⟨rfl, rfl⟩)
theorem stillTexts_nil {w : World} {bb : Nat} (h0 : w.cell? ⟨bb, 4, none⟩ = some (.slice none 0 0)) : Calls Tryz.prog 27 #[.pointer (some ⟨bb, 0, none⟩)] w fun e w' => e = .returned (.bool true) /\ w' = w := by
 go_enter Tryz.func27, Tryz.ntmps27
 go_wp2_with fail
 go_loopw [3] (fun v3 wr => v3 = .int .i64 0 /\ wr = w) (fun _ _ => 0)
 case atStart => exact ⟨rfl, rfl⟩
 case round => (
 obtain ⟨rfl, rfl⟩ := hrel
 go_wp2_with fail
 go_ret
 exact ⟨rfl, rfl⟩)
theorem putTexts_nil {w : World} {bb : Nat} (h0 : w.cell? ⟨bb, 4, none⟩ = some (.slice none 0 0)) : Calls Tryz.prog 38 #[.pointer (some ⟨bb, 0, none⟩)] w fun e w' => e = .returned (.tuple #[]) /\ w' = w := by
 go_enter Tryz.func38, Tryz.ntmps38
 go_wp2_with fail
 go_loopw [2] (fun v2 wr => v2 = .int .i64 0 /\ wr = w) (fun _ _ => 0)
 case atStart => exact ⟨rfl, rfl⟩
 case round => (
 obtain ⟨rfl, rfl⟩ := hrel
 go_wp2_with fail
 go_end0
 exact ⟨rfl, rfl⟩)
theorem growTexts_nil {w : World} {bb : Nat} (h0 : w.cell? ⟨bb, 4, none⟩ = some (.slice none 0 0)) : Calls Tryz.prog 49 #[.pointer (some ⟨bb, 0, none⟩)] w fun e w' => e = .returned (.slice none 0 0) /\ w' = w := by
 go_enter Tryz.func49, Tryz.ntmps49
 go_wp2_with fail
 go_loopw [3, 4] (fun v3 v4 wr => v3 = .slice none 0 0 /\ v4 = .int .i64 0 /\ wr = w) (fun _ _ _ => 0)
 case atStart => exact ⟨rfl, rfl, rfl⟩
 case round => (
 obtain ⟨rfl, rfl, rfl⟩ := hrel
 go_wp2_with fail
 go_ret
 exact ⟨rfl, rfl⟩)
theorem markedTexts_nil {w : World} : Calls Tryz.prog 60 #[.slice none 0 0] w fun e w' => e = .returned (.bool true) /\ w' = w := by
 go_enter Tryz.func60, Tryz.ntmps60
 go_wp2_with fail
 go_loopw [3] (fun v3 wr => v3 = .int .i64 0 /\ wr = w) (fun _ _ => 0)
 case atStart => exact ⟨rfl, rfl⟩
 case round => (
 obtain ⟨rfl, rfl⟩ := hrel
 go_wp2_with fail
 go_ret
 exact ⟨rfl, rfl⟩)
theorem stillNodes_nil {w : World} {bb : Nat} (h0 : w.cell? ⟨bb, 12, none⟩ = some (.slice none 0 0)) : Calls Tryz.prog 31 #[.pointer (some ⟨bb, 0, none⟩)] w fun e w' => e = .returned (.bool true) /\ w' = w := by
 go_enter Tryz.func31, Tryz.ntmps31
 go_wp2_with fail
 go_loopw [3] (fun v3 wr => v3 = .int .i64 0 /\ wr = w) (fun _ _ => 0)
 case atStart => exact ⟨rfl, rfl⟩
 case round => (
 obtain ⟨rfl, rfl⟩ := hrel
 go_wp2_with fail
 go_ret
 exact ⟨rfl, rfl⟩)
theorem putNodes_nil {w : World} {bb : Nat} (h0 : w.cell? ⟨bb, 12, none⟩ = some (.slice none 0 0)) : Calls Tryz.prog 42 #[.pointer (some ⟨bb, 0, none⟩)] w fun e w' => e = .returned (.tuple #[]) /\ w' = w := by
 go_enter Tryz.func42, Tryz.ntmps42
 go_wp2_with fail
 go_loopw [2] (fun v2 wr => v2 = .int .i64 0 /\ wr = w) (fun _ _ => 0)
 case atStart => exact ⟨rfl, rfl⟩
 case round => (
 obtain ⟨rfl, rfl⟩ := hrel
 go_wp2_with fail
 go_end0
 exact ⟨rfl, rfl⟩)
theorem growNodes_nil {w : World} {bb : Nat} (h0 : w.cell? ⟨bb, 12, none⟩ = some (.slice none 0 0)) : Calls Tryz.prog 53 #[.pointer (some ⟨bb, 0, none⟩)] w fun e w' => e = .returned (.slice none 0 0) /\ w' = w := by
 go_enter Tryz.func53, Tryz.ntmps53
 go_wp2_with fail
 go_loopw [3, 4] (fun v3 v4 wr => v3 = .slice none 0 0 /\ v4 = .int .i64 0 /\ wr = w) (fun _ _ _ => 0)
 case atStart => exact ⟨rfl, rfl, rfl⟩
 case round => (
 obtain ⟨rfl, rfl, rfl⟩ := hrel
 go_wp2_with fail
 go_ret
 exact ⟨rfl, rfl⟩)
theorem markedNodes_nil {w : World} : Calls Tryz.prog 64 #[.slice none 0 0] w fun e w' => e = .returned (.bool true) /\ w' = w := by
 go_enter Tryz.func64, Tryz.ntmps64
 go_wp2_with fail
 go_loopw [3] (fun v3 wr => v3 = .int .i64 0 /\ wr = w) (fun _ _ => 0)
 case atStart => exact ⟨rfl, rfl⟩
 case round => (
 obtain ⟨rfl, rfl⟩ := hrel
 go_wp2_with fail
 go_ret
 exact ⟨rfl, rfl⟩)
theorem stillPairs_nil {w : World} {bb : Nat} (h0 : w.cell? ⟨bb, 14, none⟩ = some (.slice none 0 0)) : Calls Tryz.prog 32 #[.pointer (some ⟨bb, 0, none⟩)] w fun e w' => e = .returned (.bool true) /\ w' = w := by
 go_enter Tryz.func32, Tryz.ntmps32
 go_wp2_with fail
 go_loopw [3] (fun v3 wr => v3 = .int .i64 0 /\ wr = w) (fun _ _ => 0)
 case atStart => exact ⟨rfl, rfl⟩
 case round => (
 obtain ⟨rfl, rfl⟩ := hrel
 go_wp2_with fail
 go_ret
 exact ⟨rfl, rfl⟩)
theorem putPairs_nil {w : World} {bb : Nat} (h0 : w.cell? ⟨bb, 14, none⟩ = some (.slice none 0 0)) : Calls Tryz.prog 43 #[.pointer (some ⟨bb, 0, none⟩)] w fun e w' => e = .returned (.tuple #[]) /\ w' = w := by
 go_enter Tryz.func43, Tryz.ntmps43
 go_wp2_with fail
 go_loopw [2] (fun v2 wr => v2 = .int .i64 0 /\ wr = w) (fun _ _ => 0)
 case atStart => exact ⟨rfl, rfl⟩
 case round => (
 obtain ⟨rfl, rfl⟩ := hrel
 go_wp2_with fail
 go_end0
 exact ⟨rfl, rfl⟩)
theorem growPairs_nil {w : World} {bb : Nat} (h0 : w.cell? ⟨bb, 14, none⟩ = some (.slice none 0 0)) : Calls Tryz.prog 54 #[.pointer (some ⟨bb, 0, none⟩)] w fun e w' => e = .returned (.slice none 0 0) /\ w' = w := by
 go_enter Tryz.func54, Tryz.ntmps54
 go_wp2_with fail
 go_loopw [3, 4] (fun v3 v4 wr => v3 = .slice none 0 0 /\ v4 = .int .i64 0 /\ wr = w) (fun _ _ _ => 0)
 case atStart => exact ⟨rfl, rfl, rfl⟩
 case round => (
 obtain ⟨rfl, rfl, rfl⟩ := hrel
 go_wp2_with fail
 go_ret
 exact ⟨rfl, rfl⟩)
theorem markedPairs_nil {w : World} : Calls Tryz.prog 65 #[.slice none 0 0] w fun e w' => e = .returned (.bool true) /\ w' = w := by
 go_enter Tryz.func65, Tryz.ntmps65
 go_wp2_with fail
 go_loopw [3] (fun v3 wr => v3 = .int .i64 0 /\ wr = w) (fun _ _ => 0)
 case atStart => exact ⟨rfl, rfl⟩
 case round => (
 obtain ⟨rfl, rfl⟩ := hrel
 go_wp2_with fail
 go_ret
 exact ⟨rfl, rfl⟩)
theorem stillLines_nil {w : World} {bb : Nat} (h0 : w.cell? ⟨bb, 18, none⟩ = some (.slice none 0 0)) : Calls Tryz.prog 34 #[.pointer (some ⟨bb, 0, none⟩)] w fun e w' => e = .returned (.bool true) /\ w' = w := by
 go_enter Tryz.func34, Tryz.ntmps34
 go_wp2_with fail
 go_loopw [3] (fun v3 wr => v3 = .int .i64 0 /\ wr = w) (fun _ _ => 0)
 case atStart => exact ⟨rfl, rfl⟩
 case round => (
 obtain ⟨rfl, rfl⟩ := hrel
 go_wp2_with fail
 go_ret
 exact ⟨rfl, rfl⟩)
theorem putLines_nil {w : World} {bb : Nat} (h0 : w.cell? ⟨bb, 18, none⟩ = some (.slice none 0 0)) : Calls Tryz.prog 45 #[.pointer (some ⟨bb, 0, none⟩)] w fun e w' => e = .returned (.tuple #[]) /\ w' = w := by
 go_enter Tryz.func45, Tryz.ntmps45
 go_wp2_with fail
 go_loopw [2] (fun v2 wr => v2 = .int .i64 0 /\ wr = w) (fun _ _ => 0)
 case atStart => exact ⟨rfl, rfl⟩
 case round => (
 obtain ⟨rfl, rfl⟩ := hrel
 go_wp2_with fail
 go_end0
 exact ⟨rfl, rfl⟩)
theorem growLines_nil {w : World} {bb : Nat} (h0 : w.cell? ⟨bb, 18, none⟩ = some (.slice none 0 0)) : Calls Tryz.prog 56 #[.pointer (some ⟨bb, 0, none⟩)] w fun e w' => e = .returned (.slice none 0 0) /\ w' = w := by
 go_enter Tryz.func56, Tryz.ntmps56
 go_wp2_with fail
 go_loopw [3, 4] (fun v3 v4 wr => v3 = .slice none 0 0 /\ v4 = .int .i64 0 /\ wr = w) (fun _ _ _ => 0)
 case atStart => exact ⟨rfl, rfl, rfl⟩
 case round => (
 obtain ⟨rfl, rfl, rfl⟩ := hrel
 go_wp2_with fail
 go_ret
 exact ⟨rfl, rfl⟩)
theorem markedLines_nil {w : World} : Calls Tryz.prog 67 #[.slice none 0 0] w fun e w' => e = .returned (.bool true) /\ w' = w := by
 go_enter Tryz.func67, Tryz.ntmps67
 go_wp2_with fail
 go_loopw [3] (fun v3 wr => v3 = .int .i64 0 /\ wr = w) (fun _ _ => 0)
 case atStart => exact ⟨rfl, rfl⟩
 case round => (
 obtain ⟨rfl, rfl⟩ := hrel
 go_wp2_with fail
 go_ret
 exact ⟨rfl, rfl⟩)
end Go.Proofs.YtgikimbafakmcaaGreatDoor
namespace Go.Proofs.YtgikimbafakmcaaGreatDoor
open Go.RowKit Pl
end Go.Proofs.YtgikimbafakmcaaGreatDoor
namespace Go.Proofs.YtgikimbafakmcaaGreatDoor
open Go.RowKit Pl
open Lib (hid)
def mkRow (i k : Nat) : List Int := [-1 - (i : Int), (k : Int)]
def RdR (w : World) (x : Value) (ys : List Int) : Prop := ∃ (a : Option Addr) (b off c : Nat), x = .slice a ys.length c /\ SlAt encI 1 w a b off ys /\ ys.length <= 600000
theorem RdR.below {w w' : World} {x : Value} {ys : List Int} (h : RdR w x ys) (hB : Below w.heap.size w w') : RdR w' x ys := by
 obtain ⟨a, b, off, c, h1, h2, h3⟩ := h
 exact ⟨a, b, off, c, h1, h2.below hB (Nat.le_refl _), h3⟩
theorem sameRows_any {w : World} {a1 a2 : Option Addr} {b1 o1 c1 b2 o2 c2 n : Nat} {vs us : List Value} (h1 : SlAt encV 1 w a1 b1 o1 vs) (h2 : SlAt encV 1 w a2 b2 o2 us) (hv : vs.length = n) (hu : us.length = n) (hn : n <= 600000)
    (hR : ∀ (j : Nat) (x y : Value), vs[j]? = some x -> us[j]? = some y -> ∃ ys, RdR w x ys /\ RdR w y ys) :
    Calls Tryz.prog 84 #[.slice a1 n c1, .slice a2 n c2] w fun e w' => e = .returned (.bool true) /\ ∃ m, w' = w.drewN m := by
 have HO := hid h1; have HP := hid h2; have HVL := hid hv; have HUL := hid hu; have HR := hid hR
 clear h1 h2 hv hu hR
 have hlB : ((n : Int) != (n : Int)) = false := by simp
 go_enter Tryz.func84, Tryz.ntmps84
 go_wp2_with fail
 go_loopw [5] (fun v5 wr => ∃ i m : Nat, i <= n /\ v5 = .int .i64 i /\ wr = w.drewN m) (fun v5 _ => n - (intOf v5).toNat)
 case atStart => exact ⟨0, 0, Nat.zero_le _, rfl, rfl⟩
 case round => (
 obtain ⟨i, m, hi, rfl, rfl⟩ := hrel
 by_cases hlt : i < n
 · (
 obtain ⟨v, hv⟩ := getElem?_of_lt (xs := vs) (i := i) (by rw [HVL.out]; exact hlt)
 obtain ⟨u, hu⟩ := getElem?_of_lt (xs := us) (i := i) (by rw [HUL.out]; exact hlt)
 obtain ⟨xs, ⟨x1, y1, of1, q1, rfl, hs1, hxl⟩, ⟨x2, y2, of2, q2, rfl, hs2, _⟩⟩ := HR.out i v u hv hu
 have ha := HO.out.ad (by rw [HVL.out]; omega)
 have hb := HP.out.ad (by rw [HUL.out]; omega)
 subst ha hb
 have d0 := HO.out.cv hv
 have d1 := HP.out.cv hu
 have HSM : Hid (∀ mm, Calls Tryz.prog 77 #[.slice x1 xs.length q1, .slice x2 xs.length q2] (w.drewN mm) fun e w' => e = .returned (.bool (decide (xs = xs))) /\ ∃ n, w' = (w.drewN mm).drewN n) := hid (fun mm => sameInts_any (hs1.below (bdrew (Below.refl _ _)) (Nat.le_refl _)) (hs2.below (bdrew (Below.refl _ _)) (Nat.le_refl _)) (by omega) (by omega))
 have HSE : Hid (decide (xs = xs) = true) := hid (by simp)
 have hin : (i : Int) < (n : Int) := by omega
 clear hs1 hs2 hv hu hxl
 generalize xs.length = z at *
 go_wp2_with fail
 go_region_held3 (fun V => V.cell? ⟨b1, o1 + i, none⟩ = some (.slice x1 z q1) /\ V.cell? ⟨b2, o2 + i, none⟩ = some (.slice x2 z q2))
   (first | exact ⟨d0, d1⟩ | assumption)
   ((go_at_call 77; refine (HSM.out _).mono ?_; rintro e w7 ⟨rfl, mm, rfl⟩; rw [HSE.out]))
 go_wp2_with fail
 go_roundw
 case rel => exact ⟨i + 1, _, by omega, by go_num, by first | rfl | exact World.drewN_drewN _ _ _⟩
 case measure => simp [intOf]; omega)
 · obtain rfl : n = i := by omega
   go_wp2_with fail
   go_ret
   exact ⟨rfl, m, rfl⟩)
def MkInR (N : List Rw) (i k : Nat) (cs : List Value) : Prop := ∀ (j : Nat) (x : Value), cs[j]? = some x -> ∃ r ∈ N, r.T = 3 /\ r.k = 1 /\ r.v = x /\ r.n = 2 /\ r.xs = (mkRow i (k + j)).flatMap encI
theorem MkInR.mono {N N' : List Rw} {i k : Nat} {cs : List Value} (h : MkInR N i k cs) (hs : ∀ r ∈ N, r ∈ N') : MkInR N' i k cs := fun j x hx => by
  obtain ⟨r, hr, y⟩ := h j x hx
  exact ⟨r, hs r hr, y⟩
theorem MkInR.nil (N : List Rw) (i k : Nat) : MkInR N i k [] := fun j x hx => by simp at hx
theorem MkInR.app {N : List Rw} {i k : Nat} {cs ds : List Value} (h : MkInR N i k cs) (h2 : MkInR N i (k + cs.length) ds) : MkInR N i k (cs ++ ds) := fun j x hx => by
  by_cases hj : j < cs.length
  · rw [List.getElem?_append_left hj] at hx; exact h j x hx
  · rw [List.getElem?_append_right (by omega)] at hx
    obtain ⟨r, h3, h4⟩ := h2 _ x hx
    rw [show k + cs.length + (j - cs.length) = k + j by omega] at h4
    exact ⟨r, h3, h4⟩
theorem MkInR.rd {N L : List Rw} {w0 w : World} {i k : Nat} {cs : List Value} (h : MkInR N i k cs) (hR : Rws w0 w L) (hs : ∀ r ∈ N, r ∈ L) {j : Nat} {x : Value} (hx : cs[j]? = some x) : RdR w x (mkRow i (k + j)) := by
 obtain ⟨r, h1, h2, h3, h4, h5, h6⟩ := h j x hx
 have ho := hR.own r (hs r h1)
 rw [h2, h3, h4, h5, h6] at ho
 obtain ⟨a, c, b, e1, _, _, e2, _⟩ := slAt_own (xs := mkRow i (k + j)) lenI ho
 exact ⟨a, b, 0, c, e1, e2, by unfold mkRow; simp⟩
theorem markR_any {w : World} {i k n : Nat} (hi : i <= 400) (hk : k <= 600000) (hn : n <= 600000) :
    Calls Tryz.prog 95 #[.int .i64 (i : Int), .int .i64 (k : Int), .int .i64 (n : Int)] w fun e w' => ∃ (v : Value) (cs : List Value) (N : List Rw), e = .returned v /\ cs.length = n /\ Rws w w' (⟨58, 1, v, n, cs⟩ :: N) /\ MkInR N i k cs := by
 go_enter Tryz.func95, Tryz.ntmps95
 go_wp2_with fail
 go_loopw [7, 8] (fun v7 v8 wr => ∃ (j : Nat) (cs : List Value) (N : List Rw), v8 = .int .i64 ((k : Int) + (j : Int)) /\ j <= n /\ cs.length = j /\ Rws w wr (⟨58, 1, v7, j, cs⟩ :: N) /\ MkInR N i k cs) (fun _ v8 _ => k + n - (intOf v8).toNat)
 case atStart => exact ⟨0, [], [], by simp, Nat.zero_le _, rfl, (Rws.nil (Below.refl _ _)).addNil _ _, MkInR.nil _ _ _⟩
 case round => (
 obtain ⟨j, cs, N, rfl, hj, hcl, hR, hM⟩ := hrel
 have HR := hid hR; have HM := hid hM; have HCL := hid hcl
 have hs := hR.bel.size
 clear hR hM hcl
 by_cases hlt : j < n
 · (
 have hltI : (k : Int) + (j : Int) < (k : Int) + (n : Int) := by omega
 have hR1 := HR.out.addLit #[.int .i64 (-1 - (i : Int)), .int .i64 ((k : Int) + (j : Int))] 3 (k := 1) (n := 2) (by unfold maxLen; omega) rfl
 have HR1 := hid hR1
 clear hR1
 go_wp2_with (at_builtin; refine wpList_lie rfl _ _ 32 rfl rowII_bk (base := w.heap.size) (by simp; omega) rfl ((HR1.out.alloc _).get (i := 1) rfl) ⟨wr.heap.size + 1, 0, none⟩ 1 1 [.slice (some ⟨wr.heap.size, 0, none⟩) 2 2] rfl rfl (cells1 (by simp [go_sem])) (by simp [Value.oneCell']) (by omega) (by dsimp only; omega) (by dsimp only; unfold maxLen; omega) (wr.heap.size + 1) (by simp) ?_; intro g cap w6 hown6 hg6 hgg6 _)
 have hR6 := HR1.out.grown ((Below.refl _ _).alloc (Nat.le_refl _) _) 1 rfl hown6 hg6 (fun b hb => by (
 simp only [Value.ownBlock, Option.some.injEq] at hb
 subst hb
 rcases hgg6 with h | h
 · exact .inl h
 · exact .inr (by simpa using h)))
 have HR6 : Hid (Rws w w6 (⟨58, 1, .slice (some ⟨g, 0, none⟩) (j + 1) cap, j + 1, cs ++ [.slice (some ⟨wr.heap.size, 0, none⟩) 2 2]⟩ :: (⟨3, 1, .slice (some ⟨wr.heap.size, 0, none⟩) 2 2, 2, [.int .i64 (-1 - (i : Int)), .int .i64 ((k : Int) + (j : Int))]⟩ :: N))) := hid (hR6.perm (List.Perm.swap _ _ _))
 have HM6 : Hid (MkInR (⟨3, 1, .slice (some ⟨wr.heap.size, 0, none⟩) 2 2, 2, [.int .i64 (-1 - (i : Int)), .int .i64 ((k : Int) + (j : Int))]⟩ :: N) i k (cs ++ [.slice (some ⟨wr.heap.size, 0, none⟩) 2 2])) := hid ((HM.out.mono (fun x hx => List.mem_cons_of_mem _ hx)).app (fun q x hx => by (
 have hq : q = 0 := by have := (List.getElem?_eq_some_iff.1 hx).1; simp at this; omega
 subst hq
 simp at hx
 subst hx
 refine ⟨_, List.mem_cons_self, rfl, rfl, rfl, rfl, ?_⟩
 rw [HCL.out]
 simp [mkRow, encI])))
 clear hown6 hg6 hgg6 hR6 HR1 HR HM
 go_roundw
 case rel => exact ⟨j + 1, _, _, by go_num, by omega, by simp [HCL.out], HR6.out, HM6.out⟩
 case measure => simp [intOf]; omega)
 · obtain rfl : n = j := by omega
   go_wp2_with fail
   go_ret
   exact ⟨_, cs, N, rfl, HCL.out, HR.out, HM.out⟩)
theorem stillR_any {w : World} {bb n : Nat} {a a' : Option Addr} {ob ob' c c' : Nat} {vs us : List Value}
    (h0 : w.cell? ⟨bb, 16, none⟩ = some (.slice a n c)) (h1 : w.cell? ⟨bb, 17, none⟩ = some (.slice a' n c')) (hO : SlAt encV 1 w a ob 0 vs) (hP : SlAt encV 1 w a' ob' 0 us) (hvl : vs.length = n) (hul : us.length = n) (hn : n <= 400)
    (hR : ∀ (i : Nat) (v u : Value), vs[i]? = some v -> us[i]? = some u -> ∃ (xs : List Value) (a1 : Option Addr) (b1 c1 : Nat) (a2 : Option Addr) (b2 c2 : Nat), v = .slice a1 xs.length c1 /\ u = .slice a2 xs.length c2 /\ SlAt encV 1 w a1 b1 0 xs /\ SlAt encV 1 w a2 b2 0 xs /\ xs.length <= 600000 /\ ∀ (j : Nat) (x : Value), xs[j]? = some x -> ∃ ys, RdR w x ys) :
    Calls Tryz.prog 33 #[.pointer (some ⟨bb, 0, none⟩)] w fun e w' => e = .returned (.bool true) /\ ∃ m, w' = w.drewN m := by
 have HO := hid hO; have HP := hid hP; have HVL := hid hvl; have HUL := hid hul; have HR := hid hR
 clear hO hP hvl hul hR
 go_enter Tryz.func33, Tryz.ntmps33
 go_wp2_with fail
 go_loopw [3] (fun v3 wr => ∃ i m : Nat, i <= n /\ v3 = .int .i64 i /\ wr = w.drewN m) (fun v3 _ => n - (intOf v3).toNat)
 case atStart => exact ⟨0, 0, Nat.zero_le _, rfl, rfl⟩
 case round => (
 obtain ⟨i, m, hi, rfl, rfl⟩ := hrel
 by_cases hlt : i < n
 · (
 obtain ⟨v, hv⟩ := getElem?_of_lt (xs := vs) (i := i) (by rw [HVL.out]; exact hlt)
 obtain ⟨u, hu⟩ := getElem?_of_lt (xs := us) (i := i) (by rw [HUL.out]; exact hlt)
 obtain ⟨xs, a1, b1, q1, a2, b2, q2, rfl, rfl, hs1, hs2, hxl, hrd⟩ := HR.out i v u hv hu
 have ha := HO.out.ad (by rw [HVL.out]; omega)
 have hb := HP.out.ad (by rw [HUL.out]; omega)
 subst ha hb
 have d0 := HO.out.cv hv
 have d1 := HP.out.cv hu
 rw [Nat.zero_add] at d0 d1
 have HSM : Hid (∀ mm, Calls Tryz.prog 84 #[.slice a1 xs.length q1, .slice a2 xs.length q2] (w.drewN mm) fun e w' => e = .returned (.bool true) /\ ∃ n, w' = (w.drewN mm).drewN n) := hid (fun mm => sameRows_any (hs1.below (bdrew (Below.refl _ _)) (Nat.le_refl _)) (hs2.below (bdrew (Below.refl _ _)) (Nat.le_refl _)) rfl rfl (by omega) (fun j x y hx hy => by (
 rw [hx] at hy
 cases hy
 obtain ⟨ys, h⟩ := hrd j x hx
 exact ⟨ys, h.below (bdrew (Below.refl _ _)), h.below (bdrew (Below.refl _ _))⟩)))
 have hin : (i : Int) < (n : Int) := by omega
 clear hs1 hs2 hv hu hxl hrd
 generalize xs.length = z at *
 go_wp2_with fail
 go_region_held3 (fun V => V.cell? ⟨bb, 16, none⟩ = some (.slice (some ⟨ob, 0, none⟩) n c) /\ V.cell? ⟨bb, 17, none⟩ = some (.slice (some ⟨ob', 0, none⟩) n c') /\ V.cell? ⟨ob, i, none⟩ = some (.slice a1 z q1) /\ V.cell? ⟨ob', i, none⟩ = some (.slice a2 z q2))
   (first | exact ⟨h0, h1, d0, d1⟩ | assumption)
   ((go_at_call 84; refine (HSM.out _).mono ?_; rintro e w7 ⟨rfl, mm, rfl⟩))
 go_wp2_with fail
 go_roundw
 case rel => exact ⟨i + 1, _, by omega, by go_num, by first | rfl | exact World.drewN_drewN _ _ _⟩
 case measure => simp [intOf]; omega)
 · obtain rfl : n = i := by omega
   go_wp2_with fail
   go_ret
   exact ⟨rfl, m, rfl⟩)
theorem markedR_any {w : World} {n : Nat} {a : Option Addr} {ob c : Nat} {vs : List Value} (hO : SlAt encV 1 w a ob 0 vs) (hvl : vs.length = n) (hn : n <= 400)
    (hR : ∀ (i : Nat) (v : Value), vs[i]? = some v -> ∃ (z : Nat) (a1 : Option Addr) (b1 c1 : Nat) (xs : List Value), v = .slice a1 z c1 /\ SlAt encV 1 w a1 b1 0 xs /\ xs.length = z /\ z <= 600000 /\ ∀ (j : Nat) (x : Value), xs[j]? = some x -> RdR w x (mkRow i j)) :
    Calls Tryz.prog 66 #[.slice a n c] w fun e w' => e = .returned (.bool true) /\ Below w.heap.size w w' := by
 have HO := hid hO; have HVL := hid hvl; have HR := hid hR
 clear hO hvl hR
 go_enter Tryz.func66, Tryz.ntmps66
 go_wp2_with fail
 go_loopw [3] (fun v3 wr => ∃ i : Nat, i <= n /\ v3 = .int .i64 i /\ Below w.heap.size w wr) (fun v3 _ => n - (intOf v3).toNat)
 case atStart => exact ⟨0, Nat.zero_le _, rfl, Below.refl _ _⟩
 case round => (
 obtain ⟨i, hi, rfl, hB⟩ := hrel
 by_cases hlt : i < n
 · (
 obtain ⟨v, hv⟩ := getElem?_of_lt (xs := vs) (i := i) (by rw [HVL.out]; exact hlt)
 obtain ⟨z, a1, b1, q1, xs, rfl, hs1, hxz, hxl, hrd⟩ := HR.out i v hv
 have ha := HO.out.ad (by rw [HVL.out]; omega)
 subst ha
 have hob := HO.out.lt (by rw [HVL.out]; omega)
 have d0 := (HO.out.below hB (Nat.le_refl _)).cv hv
 rw [Nat.zero_add] at d0
 have hob2 : ob < wr.heap.size := Nat.lt_of_lt_of_le hob hB.size
 have HMK := hid (fun (V : World) => markR_any (w := V) (i := i) (k := 0) (n := z) (by omega) (by omega) hxl)
 have hin : (i : Int) < (n : Int) := by omega
 have HS1 := hid (hs1.below hB (Nat.le_refl _))
 have HRD := hid (fun (j : Nat) (x : Value) (hx : xs[j]? = some x) => (hrd j x hx).below hB); have HXZ := hid hxz
 have HSM : Hid (∀ (U V : World) (v : Value) (cs : List Value) (N : List Rw), Below wr.heap.size wr U -> Below wr.heap.size wr V -> cs.length = z -> Rws U V (⟨58, 1, v, z, cs⟩ :: N) -> MkInR N i 0 cs -> Calls Tryz.prog 84 #[.slice a1 z q1, v] V fun e w' => e = .returned (.bool true) /\ ∃ n, w' = V.drewN n) := hid (fun U V v cs N hU hV hcz hR hM => by (
 obtain ⟨a2, c2, b2, rfl, _, _, hs2, _⟩ := hR.sl (i := 0) (enc := encV) (ys := cs) (by rw [flatV]; rfl) lenV hcz.symm
 rw [hcz]
 exact sameRows_any (HS1.out.below hV (Nat.le_refl _)) hs2 HXZ.out hcz hxl (fun j x y hx hy => ⟨mkRow i j, (HRD.out j x hx).below hV, by have := hM.rd hR (fun r hr => List.mem_cons_of_mem _ hr) hy; rwa [Nat.zero_add] at this⟩)))
 have HB := hid hB
 have hdr : Below wr.heap.size wr wr.drew := (Below.refl _ _).drew
 have HKP : Hid (∀ V, Below wr.heap.size wr V -> V.cell? ⟨ob, i, none⟩ = some (.slice a1 z q1) /\ ob < V.heap.size /\ Below wr.heap.size wr V) := hid (fun V hV => ⟨by rw [hV.cell (p := ⟨ob, i, none⟩) hob2]; exact d0, Nat.lt_of_lt_of_le hob2 hV.size, hV⟩)
 clear hs1 hv hB hob hxz hrd
 go_wp2_with fail
 go_region_held3 (fun V => V.cell? ⟨ob, i, none⟩ = some (.slice a1 z q1) /\ ob < V.heap.size /\ Below wr.heap.size wr V)
   (first | (exact HKP.out _ (by assumption)) | assumption)
   (first
     | (go_at_call 95; go_split_ands; refine (HMK.out _).mono ?_; rintro e w7 ⟨v7, cs7, N7, rfl, hcl7, hown7, hM7⟩; have hB7 := hown7.bel; have hW7 : Below wr.heap.size wr w7 := Below.trans (by assumption) (hB7.mono (Below.size (by assumption))))
     | (go_at_call 84; go_split_ands; refine (HSM.out _ _ _ _ _ (by assumption) (by assumption) hcl7 hown7 hM7).mono ?_; rintro e w8 ⟨rfl, mm, rfl⟩; have hW8 : Below wr.heap.size wr _ := bdrew (n := mm) (by assumption)))
 all_goals go_split_ands
 all_goals go_wp2_with fail
 all_goals (
 go_roundw
 case rel => exact ⟨i + 1, by omega, by go_num, HB.out.trans (Below.mono (by assumption) HB.out.size)⟩
 case measure => simp [intOf]; omega))
 · obtain rfl : n = i := by omega
   go_wp2_with fail
   go_ret
   exact ⟨rfl, hB⟩)
end Go.Proofs.YtgikimbafakmcaaGreatDoor

/-
  Lemmas.
-/
import Derived.Test.YtgikimbafakmcaaGreatDoorGBkBop
import Derived.BigRegion
import Derived.Test.YtgikimbafakmcaaGreatDoorGBkB
import Derived.Test.YtgikimbafakmcaaGreatDoorGGraphA
import Derived.Test.YtgikimbafakmcaaGreatDoorGSameInts
import Derived.Deep.RegionHeld3
import Derived.Deep.QuietTactic
import Derived.BigQuiet
import Derived.IntWalk
set_option maxHeartbeats 8000000
set_option maxRecDepth 100000
namespace Go.Proofs.YtgikimbafakmcaaGreatDoor
open Go.RowKit Pl
open Lib (hid)
theorem putE_any {w0 w : World} {bb : Nat} {cs : List Value} {o : Value} {ks rest : List Rw}
    (h : Rws w0 w (⟨44, 22, .slice (some ⟨bb, 0, none⟩) 1 1, 1, cs⟩ :: ⟨22, 1, o, ks.length, ks.map (·.v)⟩ :: (ks ++ rest))) (hc : cs[10]? = some o) (hK : ∀ r ∈ ks, r.T = 57 /\ r.k = 3 /\ r.n <= 500000) (hl : ks.length <= 400) :
    Calls Tryz.prog 41 #[.pointer (some ⟨bb, 0, none⟩)] w fun e w' => e = .returned (.tuple #[]) /\ Rws w0 w' (⟨44, 22, .slice (some ⟨bb, 0, none⟩) 1 1, 1, cs⟩ :: ⟨22, 1, o, ks.length, ks.map (·.v)⟩ :: (mkAll mE encE ks ++ rest)) := by
 obtain ⟨oa, oc, hov, hoa, _, _, _, _⟩ := h.shape (r := ⟨22, 1, o, ks.length, ks.map (·.v)⟩) (by simp)
 dsimp only at hov hoa
 subst hov
 obtain ⟨m, hm⟩ : ∃ m, m = ks.length := ⟨_, rfl⟩
 rw [<- hm] at h hl hc hoa ⊢
 have H := hid h; have HK := hid hK; have HM := hid hm; have HC := hid hc; have HOA := hid hoa
 have b0 := h.cell (i := 0) rfl hc
 have hbl := (h.lt (i := 0) rfl).2
 clear h hK hm hc hoa
 go_enter Tryz.func41, Tryz.ntmps41
 go_wp2_with fail
 clear b0 hbl
 go_loopw [2, 3, 4] (fun v2 _ _ wr => ∃ i : Nat, v2 = .int .i64 i /\ i <= m /\ Rws w0 wr (⟨44, 22, .slice (some ⟨bb, 0, none⟩) 1 1, 1, cs⟩ :: ⟨22, 1, .slice oa m oc, m, ks.map (·.v)⟩ :: (mkAt mE encE 3 ks i 0 ++ rest))) (fun v2 _ _ _ => m - (intOf v2).toNat)
 case atStart => exact ⟨0, rfl, Nat.zero_le _, by rw [mkAt_zero]; exact H.out⟩
 case round => (
 obtain ⟨i, rfl, hi, hRw⟩ := hrel
 have HRW := hid hRw
 have b0 := hRw.cell (i := 0) rfl HC.out
 have hbl := (hRw.lt (i := 0) rfl).2
 by_cases hlt : i < m
 · (
 obtain ⟨r, hr⟩ := getElem?_of_lt (xs := ks) (i := i) (by rw [<- HM.out]; exact hlt)
 obtain ⟨ob, rfl⟩ := HOA.out (by omega)
 have b1 := hRw.cell (i := 1) (j := i) (u := r.v) rfl (by simp [hr])
 have hrm := List.mem_of_getElem? hr
 obtain ⟨T, k, v, n, xs⟩ := r
 obtain ⟨rfl, rfl, hn⟩ := HK.out _ hrm
 obtain ⟨va, vc, hv, hva, _, _, _, hX⟩ := H.out.shape (r := ⟨57, 3, v, n, xs⟩) (by simp [hrm])
 dsimp only at b1 hn hv hva hX
 subst hv
 have hin : (i : Int) < (m : Int) := by omega
 have HMK := hid (markE_any (w := wr) (i := i) (k := 0) (n := n) (by omega) (by omega) (by omega))
 have HR := hid hr; have HVA := hid hva; have HX := hid hX
 clear hRw hrm hr hva hX
 go_wp2_with fail
 refine HMK.out.mono ?_
 rintro e w3 ⟨mv, rfl, hmo, hmB⟩
 have hR3 := HRW.out.add hmB hmo
 obtain ⟨ma, mc, hmv, hma, _, _, _, _⟩ := hR3.shape (r := ⟨57, 3, mv, n, (mkG mE i 0 n).flatMap encE⟩) (by simp)
 dsimp only at hmv hma
 subst hmv
 have HR3 := hid hR3; have HMA := hid hma
 clear hR3 hmo hmB hma HMK HRW b0 b1 hbl
 go_wp2_with fail
 go_loopw [4] (fun v4 wr => ∃ q : Nat, v4 = .int .i64 q /\ q <= n /\ Rws w0 wr (⟨57, 3, .slice ma n mc, n, (mkG mE i 0 n).flatMap encE⟩ :: ⟨44, 22, .slice (some ⟨bb, 0, none⟩) 1 1, 1, cs⟩ :: ⟨22, 1, .slice (some ⟨ob, 0, none⟩) m oc, m, ks.map (·.v)⟩ :: (mkAt mE encE 3 ks i q ++ rest))) (fun v4 _ => n - (intOf v4).toNat)
 case atStart => exact ⟨0, rfl, Nat.zero_le _, HR3.out⟩
 case round => (
 obtain ⟨q, rfl, hq, hRx⟩ := hrel
 by_cases hlq : q < n
 · (
 obtain ⟨mg, rfl⟩ := HMA.out (by omega)
 obtain ⟨vg, rfl⟩ := HVA.out (by omega)
 have b0 := hRx.cell (i := 1) rfl HC.out
 have b1 := hRx.cell (i := 2) (j := i) (u := .slice (some ⟨vg, 0, none⟩) n vc) rfl (by simp [HR.out])
 have hqn : (q : Int) < (n : Int) := by omega
 have m0 := hRx.cell (i := 0) (j := q * 3 + 0) rfl (getElem?_flatMap lenE (mkG mE i 0 n) q _ (mkG_get hlq) 0 _ rfl)
 obtain ⟨⟨u0, x0⟩, y0, z0⟩ := hRx.putOld (j := 0) HR.out HX.out hlq lenE (by decide)
 have m1 := hRx.cell (i := 0) (j := q * 3 + 1) rfl (getElem?_flatMap lenE (mkG mE i 0 n) q _ (mkG_get hlq) 1 _ rfl)
 obtain ⟨⟨u1, x1⟩, y1, z1⟩ := hRx.putOld (j := 1) HR.out HX.out hlq lenE (by decide)
 have m2 := hRx.cell (i := 0) (j := q * 3 + 2) rfl (getElem?_flatMap lenE (mkG mE i 0 n) q _ (mkG_get hlq) 2 _ rfl)
 obtain ⟨⟨u2, x2⟩, y2, z2⟩ := hRx.putOld (j := 2) HR.out HX.out hlq lenE (by decide)
 simp only [Nat.add_zero, Nat.zero_add, mE] at m0 x0 y0 m1 x1 y1 m2 x2 y2
 have HRX := hid hRx
 clear hRx HR3
 go_wp2_with fail
 go_region
 go_wp2_with fail
 go_roundw
 case rel => exact ⟨q + 1, by go_num, by omega, by have := HRX.out.putAt3 HR.out HX.out hlq lenE (show encE (mE i q) = [_, _, _] from rfl); have := this.drew; simpa [Nat.mul_one, mE] using this⟩
 case measure => simp [intOf]; omega)
 · (
 obtain rfl : n = q := by omega
 have HR4 : Hid (Rws w0 wr (⟨44, 22, .slice (some ⟨bb, 0, none⟩) 1 1, 1, cs⟩ :: ⟨22, 1, .slice (some ⟨ob, 0, none⟩) m oc, m, ks.map (·.v)⟩ :: (mkAt mE encE 3 ks (i + 1) 0 ++ rest))) := hid (by (
 have := hRx.sub (List.sublist_cons_self _ _)
 rw [mkAt_next HR.out HX.out] at this
 exact this))
 clear hRx
 go_wp2_with fail
 go_roundw
 case rel => exact ⟨i + 1, by go_num, by omega, HR4.out⟩
 case measure => simp [intOf]; omega)))
 · (
 obtain rfl : m = i := by omega
 clear hRw
 go_wp2_with fail
 go_end0
 refine ⟨rfl, ?_⟩
 have := HRW.out
 rw [mkAt_end (by rw [<- HM.out]; exact Nat.le_refl _)] at this
 exact this))
end Go.Proofs.YtgikimbafakmcaaGreatDoor
namespace Go.Proofs.YtgikimbafakmcaaGreatDoor
open Go.RowKit Pl
open Lib (hid)
theorem rowII_bk : IsRow Tryz.prog 32 58 1 24 (.slice none 0 0) := isRow_of Tryz.underlying32 (by kernel_rfl) rfl (by decide)
theorem markI_any {w : World} {i k n : Nat} (hi : i <= 400) (hk : k <= 600000) (hn : n <= 600000) :
    Calls Tryz.prog 87 #[.int .i64 (i : Int), .int .i64 (k : Int), .int .i64 (n : Int)] w fun e w' => ∃ v, e = .returned v /\ w'.ownsRow w.heap.size 3 1 v n ((mkG mI i k n).flatMap encI) /\ Below w.heap.size w w' := by
 go_enter Tryz.func87, Tryz.ntmps87
 go_wp2_with fail
 go_loopw [7, 8] (fun v7 v8 wr => ∃ j : Nat, v8 = .int .i64 ((k : Int) + (j : Int)) /\ j <= n /\ Below w.heap.size w wr /\ wr.ownsRow w.heap.size 3 1 v7 j ((mkG mI i k j).flatMap encI)) (fun _ v8 _ => k + n - (intOf v8).toNat)
 case atStart => exact ⟨0, by simp, Nat.zero_le _, Below.refl _ _, World.ownsRow_nil _ _ _ _⟩
 case round => (
 obtain ⟨j, rfl, hj, hB, hown⟩ := hrel
 have HB := hid hB; have HO := hid hown
 have hs := hB.size
 clear hB hown
 by_cases hlt : j < n
 · (
 have hltI : (k : Int) + (j : Int) < (k : Int) + (n : Int) := by omega
 go_wp2_with (at_builtin; refine wpList_lies rfl _ _ 58 rfl rowI (base := w.heap.size) (by simp; omega) rfl (own_below HO.out ((Below.refl wr.heap.size wr).alloc (Nat.le_refl _) _)) ⟨wr.heap.size, 0, none⟩ 1 1 [.int .i64 (-1000000 * (i : Int) - ((k : Int) + (j : Int)) - 7)] rfl rfl (cells1 (by simp [go_sem])) (by simp [Value.oneCell']) (by omega) (by omega) (by unfold maxLen; omega) _ rfl ?_; intro g cap w6 hown6 hg6 _ _)
 have hb6 := (HB.out.alloc HB.out.size _).grown hg6 (by simp; omega) (fun k hk => (HO.out.lt k hk).1)
 have HB6 := hid hb6
 have HO6 : Hid (w6.ownsRow w.heap.size 3 1 (.slice (some ⟨g, 0, none⟩) (j + 1) cap) (j + 1) ((mkG mI i k (j + 1)).flatMap encI)) := hid (by
   rw [<- mkG_snoc, List.flatMap_append]
   simpa [encI, mI] using hown6)
 clear hb6 hown6 hg6 HO HB
 go_roundw
 case rel => exact ⟨j + 1, by go_num, by omega, HB6.out, HO6.out⟩
 case measure => simp [intOf]; omega)
 · obtain rfl : n = j := by omega
   go_wp2_with fail
   go_ret
   exact ⟨_, rfl, HO.out, HB.out⟩)
theorem stillI_any {w : World} {bb n : Nat} {a a' : Option Addr} {ob ob' c c' : Nat} {vs us : List Value}
    (h0 : w.cell? ⟨bb, 0, none⟩ = some (.slice a n c)) (h1 : w.cell? ⟨bb, 1, none⟩ = some (.slice a' n c')) (hO : SlAt encV 1 w a ob 0 vs) (hP : SlAt encV 1 w a' ob' 0 us) (hvl : vs.length = n) (hul : us.length = n) (hn : n <= 400)
    (hR : ∀ (i : Nat) (v u : Value), vs[i]? = some v -> us[i]? = some u -> ∃ (xs : List Int) (a1 : Option Addr) (b1 c1 : Nat) (a2 : Option Addr) (b2 c2 : Nat), v = .slice a1 xs.length c1 /\ u = .slice a2 xs.length c2 /\ SlAt encI 1 w a1 b1 0 xs /\ SlAt encI 1 w a2 b2 0 xs /\ xs.length <= 600000) :
    Calls Tryz.prog 25 #[.pointer (some ⟨bb, 0, none⟩)] w fun e w' => e = .returned (.bool true) /\ ∃ m, w' = w.drewN m := by
 have HO := hid hO; have HP := hid hP; have HVL := hid hvl; have HUL := hid hul; have HR := hid hR
 clear hO hP hvl hul hR
 go_enter Tryz.func25, Tryz.ntmps25
 go_wp2_with fail
 go_loopw [3] (fun v3 wr => ∃ i m : Nat, i <= n /\ v3 = .int .i64 i /\ wr = w.drewN m) (fun v3 _ => n - (intOf v3).toNat)
 case atStart => exact ⟨0, 0, Nat.zero_le _, rfl, rfl⟩
 case round => (
 obtain ⟨i, m, hi, rfl, rfl⟩ := hrel
 by_cases hlt : i < n
 · (
 obtain ⟨v, hv⟩ := getElem?_of_lt (xs := vs) (i := i) (by rw [HVL.out]; exact hlt)
 obtain ⟨u, hu⟩ := getElem?_of_lt (xs := us) (i := i) (by rw [HUL.out]; exact hlt)
 obtain ⟨xs, a1, b1, q1, a2, b2, q2, rfl, rfl, hs1, hs2, hxl⟩ := HR.out i v u hv hu
 have ha := HO.out.ad (by rw [HVL.out]; omega)
 have hb := HP.out.ad (by rw [HUL.out]; omega)
 subst ha hb
 have d0 := HO.out.cv hv
 have d1 := HP.out.cv hu
 rw [Nat.zero_add] at d0 d1
 have HSM : Hid (∀ mm, Calls Tryz.prog 77 #[.slice a1 xs.length q1, .slice a2 xs.length q2] (w.drewN mm) fun e w' => e = .returned (.bool (decide (xs = xs))) /\ ∃ n, w' = (w.drewN mm).drewN n) := hid (fun mm => sameInts_any (hs1.below (bdrew (Below.refl _ _)) (Nat.le_refl _)) (hs2.below (bdrew (Below.refl _ _)) (Nat.le_refl _)) (by omega) (by omega))
 have HSE : Hid (decide (xs = xs) = true) := hid (by simp)
 have hin : (i : Int) < (n : Int) := by omega
 clear hs1 hs2 hv hu hxl
 generalize xs.length = z at *
 go_wp2_with fail
 go_region_held3 (fun V => V.cell? ⟨bb, 0, none⟩ = some (.slice (some ⟨ob, 0, none⟩) n c) /\ V.cell? ⟨bb, 1, none⟩ = some (.slice (some ⟨ob', 0, none⟩) n c') /\ V.cell? ⟨ob, i, none⟩ = some (.slice a1 z q1) /\ V.cell? ⟨ob', i, none⟩ = some (.slice a2 z q2))
   (first | exact ⟨h0, h1, d0, d1⟩ | assumption)
   ((go_at_call 77; refine (HSM.out _).mono ?_; rintro e w7 ⟨rfl, mm, rfl⟩; rw [HSE.out]))
 go_wp2_with fail
 go_roundw
 case rel => exact ⟨i + 1, _, by omega, by go_num, by first | rfl | exact World.drewN_drewN _ _ _⟩
 case measure => simp [intOf]; omega)
 · obtain rfl : n = i := by omega
   go_wp2_with fail
   go_ret
   exact ⟨rfl, m, rfl⟩)
theorem markedI_any {w : World} {n : Nat} {a : Option Addr} {ob c : Nat} {vs : List Value} (hO : SlAt encV 1 w a ob 0 vs) (hvl : vs.length = n) (hn : n <= 400)
    (hR : ∀ (i : Nat) (v : Value), vs[i]? = some v -> ∃ (z : Nat) (a1 : Option Addr) (b1 c1 : Nat), v = .slice a1 z c1 /\ SlAt encI 1 w a1 b1 0 (mkG mI i 0 z) /\ z <= 600000) :
    Calls Tryz.prog 58 #[.slice a n c] w fun e w' => e = .returned (.bool true) /\ Below w.heap.size w w' := by
 have HO := hid hO; have HVL := hid hvl; have HR := hid hR
 clear hO hvl hR
 go_enter Tryz.func58, Tryz.ntmps58
 go_wp2_with fail
 go_loopw [3] (fun v3 wr => ∃ i : Nat, i <= n /\ v3 = .int .i64 i /\ Below w.heap.size w wr) (fun v3 _ => n - (intOf v3).toNat)
 case atStart => exact ⟨0, Nat.zero_le _, rfl, Below.refl _ _⟩
 case round => (
 obtain ⟨i, hi, rfl, hB⟩ := hrel
 by_cases hlt : i < n
 · (
 obtain ⟨v, hv⟩ := getElem?_of_lt (xs := vs) (i := i) (by rw [HVL.out]; exact hlt)
 obtain ⟨z, a1, b1, q1, rfl, hs1, hxl⟩ := HR.out i v hv
 have ha := HO.out.ad (by rw [HVL.out]; omega)
 subst ha
 have hob := HO.out.lt (by rw [HVL.out]; omega)
 have d0 := (HO.out.below hB (Nat.le_refl _)).cv hv
 rw [Nat.zero_add] at d0
 have hob2 : ob < wr.heap.size := Nat.lt_of_lt_of_le hob hB.size
 have HMK := hid (fun (V : World) => markI_any (w := V) (i := i) (k := 0) (n := z) (by omega) (by omega) hxl)
 have hin : (i : Int) < (n : Int) := by omega
 have HS1 := hid (hs1.below hB (Nat.le_refl _))
 have HSM : Hid (∀ (V : World) (v : Value) (base : Nat), Below wr.heap.size wr V -> V.ownsRow base 3 1 v z ((mkG mI i 0 z).flatMap encI) -> Calls Tryz.prog 77 #[.slice a1 z q1, v] V fun e w' => e = .returned (.bool true) /\ ∃ n, w' = V.drewN n) := hid (fun V v base hV hv => by (
 obtain ⟨a2, c2, b2, rfl, _, _, hs2, _⟩ := slAt_own lenI (xs := mkG mI i 0 z) (by rw [mkG_len]; exact hv)
 have := sameInts_any (c1 := q1) (c2 := c2) (HS1.out.below hV (Nat.le_refl _)) hs2 (by rw [mkG_len]; omega) (by rw [mkG_len]; omega)
 rw [mkG_len] at this
 rw [mkG_len]
 exact this.mono (by rintro e w7 ⟨rfl, mm, rfl⟩; exact ⟨by simp, mm, rfl⟩)))
 have HB := hid hB
 have hdr : Below wr.heap.size wr wr.drew := (Below.refl _ _).drew
 have HKP : Hid (∀ V, Below wr.heap.size wr V -> V.cell? ⟨ob, i, none⟩ = some (.slice a1 z q1) /\ ob < V.heap.size /\ Below wr.heap.size wr V) := hid (fun V hV => ⟨by rw [hV.cell (p := ⟨ob, i, none⟩) hob2]; exact d0, Nat.lt_of_lt_of_le hob2 hV.size, hV⟩)
 clear hs1 hv hxl hB hob
 go_wp2_with fail
 go_region_held3 (fun V => V.cell? ⟨ob, i, none⟩ = some (.slice a1 z q1) /\ ob < V.heap.size /\ Below wr.heap.size wr V)
   (first | (exact HKP.out _ (by assumption)) | assumption)
   (first
     | (go_at_call 87; go_split_ands; refine (HMK.out _).mono ?_; rintro e w7 ⟨v7, rfl, hown7, hB7⟩; have hW7 : Below wr.heap.size wr w7 := Below.trans (by assumption) (hB7.mono (Below.size (by assumption))))
     | (go_at_call 77; go_split_ands; refine (HSM.out _ _ _ (by assumption) (by assumption)).mono ?_; rintro e w8 ⟨rfl, mm, rfl⟩; have hW8 : Below wr.heap.size wr _ := bdrew (n := mm) (by assumption)))
 all_goals go_split_ands
 all_goals go_wp2_with fail
 all_goals (
 go_roundw
 case rel => exact ⟨i + 1, by omega, by go_num, HB.out.trans (Below.mono (by assumption) HB.out.size)⟩
 case measure => simp [intOf]; omega))
 · obtain rfl : n = i := by omega
   go_wp2_with fail
   go_ret
   exact ⟨rfl, hB⟩)
end Go.Proofs.YtgikimbafakmcaaGreatDoor
namespace Go.Proofs.YtgikimbafakmcaaGreatDoor
open Go.RowKit Pl
open Lib (hid)
theorem oneI_bk (x : Int) : ∀ u ∈ encI x, u.oneCell' = true := by intro u hu; simp [encI] at hu; first | (subst hu; rfl) | (rcases hu with rfl | rfl <;> rfl) | (rcases hu with rfl | rfl | rfl <;> rfl)
theorem oneLI_bk {L : List Int} : ∀ u ∈ L.flatMap encI, u.oneCell' = true := fun u hu => by
  obtain ⟨x, _, hx⟩ := List.mem_flatMap.1 hu
  exact oneI_bk x u hx
theorem growI_any {w0 w : World} {bb : Nat} {cs : List Value} {o : Value} {ks rest : List Rw}
    (h : Rws w0 w (⟨44, 22, .slice (some ⟨bb, 0, none⟩) 1 1, 1, cs⟩ :: ⟨58, 1, o, ks.length, ks.map (·.v)⟩ :: (ks ++ rest))) (hc : cs[0]? = some o) (hK : ∀ (i : Nat) (r : Rw), ks[i]? = some r -> r.T = 3 /\ r.k = 1 /\ r.n <= 500000 /\ r.xs = (mkG mI i 0 r.n).flatMap encI) (hl : ks.length <= 400) :
    Calls Tryz.prog 47 #[.pointer (some ⟨bb, 0, none⟩)] w fun e w' => ∃ (gv : Value) (gs : List Value) (G : List Rw), e = .returned gv /\ gs.length = ks.length /\ Rws w0 w' (⟨58, 1, gv, ks.length, gs⟩ :: ⟨44, 22, .slice (some ⟨bb, 0, none⟩) 1 1, 1, cs⟩ :: ⟨58, 1, o, ks.length, ks.map (·.v)⟩ :: (G ++ rest)) /\ GrowOk 1 mI encI ks gs G ks.length := by
 obtain ⟨oa, oc, hov, hoa, _, _, _, _⟩ := h.shape (r := ⟨58, 1, o, ks.length, ks.map (·.v)⟩) (by simp)
 dsimp only at hov hoa
 subst hov
 obtain ⟨m, hm⟩ : ∃ m, m = ks.length := ⟨_, rfl⟩
 rw [<- hm] at h hl hc hoa ⊢
 have H := hid h; have HK := hid hK; have HM := hid hm; have HC := hid hc; have HOA := hid hoa
 have b0 := h.cell (i := 0) rfl hc
 have hbl := (h.lt (i := 0) rfl).2
 clear h hK hm hc hoa
 go_enter Tryz.func47, Tryz.ntmps47
 go_wp2_with fail
 clear b0 hbl
 go_loopw [3, 4, 5, 6] (fun v3 v4 _ _ wr => ∃ (i : Nat) (gs : List Value) (G : List Rw) (gv : Value), gv = v3 /\ v4 = .int .i64 i /\ i <= m /\ gs.length = i /\ Rws w0 wr (⟨58, 1, gv, i, gs⟩ :: ⟨44, 22, .slice (some ⟨bb, 0, none⟩) 1 1, 1, cs⟩ :: ⟨58, 1, .slice oa m oc, m, ks.map (·.v)⟩ :: (G ++ (ks.drop i ++ rest))) /\ GrowOk 1 mI encI ks gs G i) (fun _ v4 _ _ _ => m - (intOf v4).toNat)
 case atStart => exact ⟨0, [], [], _, rfl, rfl, Nat.zero_le _, rfl, H.out.addNil _ _, fun p _ hp => absurd hp (Nat.not_lt_zero _)⟩
 case round => (
 obtain ⟨i, gs, G, v3, rfl, rfl, hi, hgs, hRw, hok⟩ := hrel
 have b0 := hRw.cell (i := 1) rfl HC.out
 have hbl := (hRw.lt (i := 1) rfl).2
 have HGS := hid hgs; have HOK := hid hok
 clear hgs hok
 by_cases hlt : i < m
 · (
 obtain ⟨r, hr⟩ := getElem?_of_lt (xs := ks) (i := i) (by rw [<- HM.out]; exact hlt)
 obtain ⟨ob, rfl⟩ := HOA.out (by omega)
 have b1 := hRw.cell (i := 2) (j := i) (u := r.v) rfl (by simp [hr])
 obtain ⟨T, k, v, n, xs⟩ := r
 obtain ⟨rfl, rfl, hn, hxs⟩ := HK.out _ _ hr
 dsimp only at hxs hn b1
 subst hxs
 have hdrop : ks.drop i = ⟨3, 1, v, n, (mkG mI i 0 n).flatMap encI⟩ :: ks.drop (i + 1) := by
   obtain ⟨hl, he⟩ := List.getElem?_eq_some_iff.1 hr
   rw [List.drop_eq_getElem_cons hl, he]
 have hR0 : Rws w0 wr (⟨3, 1, v, n, (mkG mI i 0 n).flatMap encI⟩ :: ([] ++ (⟨58, 1, v3, i, gs⟩ :: ⟨44, 22, .slice (some ⟨bb, 0, none⟩) 1 1, 1, cs⟩ :: ⟨58, 1, .slice (some ⟨ob, 0, none⟩) m oc, m, ks.map (·.v)⟩ :: (G ++ (ks.drop (i + 1) ++ rest))))) := by (
 rw [hdrop] at hRw
 have hpm := List.perm_middle (a := (⟨3, 1, v, n, (mkG mI i 0 n).flatMap encI⟩ : Rw)) (l₁ := ⟨58, 1, v3, i, gs⟩ :: ⟨44, 22, .slice (some ⟨bb, 0, none⟩) 1 1, 1, cs⟩ :: ⟨58, 1, .slice (some ⟨ob, 0, none⟩) m oc, m, ks.map (·.v)⟩ :: G) (l₂ := ks.drop (i + 1) ++ rest)
 exact hRw.perm hpm)
 obtain ⟨va, vc, hv, _, _, _, _, _⟩ := hR0.shape (r := ⟨3, 1, v, n, (mkG mI i 0 n).flatMap encI⟩) (by simp)
 dsimp only at hv
 subst hv
 have hP0 := Pre.self hR0 (r := ⟨3, 1, .slice va n vc, n, (mkG mI i 0 n).flatMap encI⟩) (by simp)
 dsimp only at hP0
 have HR0 := hid hR0; have HP0 := hid hP0; have HR := hid hr
 have hin : (i : Int) < (m : Int) := by omega
 clear hRw hdrop hR0 hP0 hr
 go_wp2_with fail
 clear b0 b1 hbl
 go_loopw [5, 6] (fun v5 v6 wr => ∃ (t : Nat) (la : Option Addr) (lc : Nat) (E : List Rw), v6 = .int .i64 t /\ v5 = .slice la (n + t) lc /\ t <= 16 /\ Rws w0 wr (⟨3, 1, .slice la (n + t) lc, n + t, (mkG mI i 0 (n + t)).flatMap encI⟩ :: (E ++ (⟨58, 1, v3, i, gs⟩ :: ⟨44, 22, .slice (some ⟨bb, 0, none⟩) 1 1, 1, cs⟩ :: ⟨58, 1, .slice (some ⟨ob, 0, none⟩) m oc, m, ks.map (·.v)⟩ :: (G ++ (ks.drop (i + 1) ++ rest))))) /\ Pre (⟨3, 1, .slice la (n + t) lc, n + t, (mkG mI i 0 (n + t)).flatMap encI⟩ :: E) 1 (.slice va n vc) n ((mkG mI i 0 n).flatMap encI)) (fun _ v6 _ => 16 - (intOf v6).toNat)
 case atStart => exact ⟨0, va, vc, [], rfl, rfl, Nat.zero_le _, HR0.out, HP0.out⟩
 case round => (
 obtain ⟨t, la, lc, E, rfl, rfl, ht, hRx, hPx⟩ := hrel
 have HRX := hid hRx; have HPX := hid hPx
 clear hRx hPx HR0 HP0
 by_cases hlq : t < 16
 · (
 have htI : (t : Int) < 16 := by omega
 have HMK : Hid (Calls Tryz.prog 87 #[.int .i64 (i : Int), .int .i64 ((n + t : Nat) : Int), .int .i64 1] wr fun e w' => ∃ v, e = .returned v /\ w'.ownsRow wr.heap.size 3 1 v 1 ((mkG mI i (n + t) 1).flatMap encI) /\ Below wr.heap.size wr w') := hid (markI_any (n := 1) (by omega) (by omega) (by omega))
 go_wp2_with fail
 refine HMK.out.mono ?_
 rintro e w3 ⟨mv, rfl, hmo, hmB⟩
 obtain ⟨mg, mc, rfl, _⟩ := hmo.form (by omega)
 have hR3 := HRX.out.call hmB
 have HR3 := hid hR3; have HMO := hid hmo
 clear hmo hmB hR3 HMK
 go_wp2_with (at_builtin; refine wpList_two rfl _ _ 58 rfl rowI (base := w0.heap.size) rfl (HR3.out.get (i := 0) rfl) ⟨mg, 0, none⟩ 1 mc ((mkG mI i (n + t) 1).flatMap encI) rfl (by rw [length_flatMap lenI, mkG_len]) (HMO.out.cells rfl) oneLI_bk (by omega) (by dsimp only; omega) (by dsimp only; unfold maxLen; omega) ?_; intro g cap w4 htwo)
 obtain ⟨X, hR4, hpre⟩ := HR3.out.grow2 htwo
 have HR4 : Hid (Rws w0 w4 (⟨3, 1, .slice (some ⟨g, 0, none⟩) (n + (t + 1)) cap, n + (t + 1), (mkG mI i 0 (n + (t + 1))).flatMap encI⟩ :: ((X ++ E) ++ (⟨58, 1, v3, i, gs⟩ :: ⟨44, 22, .slice (some ⟨bb, 0, none⟩) 1 1, 1, cs⟩ :: ⟨58, 1, .slice (some ⟨ob, 0, none⟩) m oc, m, ks.map (·.v)⟩ :: (G ++ (ks.drop (i + 1) ++ rest)))))) := hid (by
   rw [<- List.flatMap_append, mkG_app0] at hR4
   rw [List.append_assoc]; exact hR4)
 have HP4 : Hid (Pre (⟨3, 1, .slice (some ⟨g, 0, none⟩) (n + (t + 1)) cap, n + (t + 1), (mkG mI i 0 (n + (t + 1))).flatMap encI⟩ :: (X ++ E)) 1 (.slice va n vc) n ((mkG mI i 0 n).flatMap encI)) := hid (by
   rw [<- List.flatMap_append, mkG_app0] at hpre
   exact HPX.out.swap hpre (fun x hx => hx))
 clear htwo hR4 hpre HR3 HMO HRX HPX
 go_wp2_with fail
 go_roundw
 case rel => exact ⟨t + 1, _, _, X ++ E, by go_num, rfl, by omega, HR4.out, HP4.out⟩
 case measure => simp [intOf]; omega)
 · (
 obtain rfl : t = 16 := by omega
 have HMK : Hid (Calls Tryz.prog 87 #[.int .i64 (i : Int), .int .i64 ((n + 16 : Nat) : Int), .int .i64 80] wr fun e w' => ∃ v, e = .returned v /\ w'.ownsRow wr.heap.size 3 1 v 80 ((mkG mI i (n + 16) 80).flatMap encI) /\ Below wr.heap.size wr w') := hid (markI_any (n := 80) (by omega) (by omega) (by omega))
 go_wp2_with fail
 refine HMK.out.mono ?_
 rintro e w3 ⟨mv, rfl, hmo, hmB⟩
 obtain ⟨mg, mc, rfl, _⟩ := hmo.form (by omega)
 have hR3 := HRX.out.call hmB
 have HR3 := hid hR3; have HMO := hid hmo
 clear hmo hmB hR3 HMK HRX
 go_wp2_with (first
   | (at_builtin; refine wpList_two rfl _ _ 58 rfl rowI (base := w0.heap.size) rfl (HR3.out.get (i := 0) rfl) ⟨mg, 0, none⟩ 80 mc ((mkG mI i (n + 16) 80).flatMap encI) rfl (by rw [length_flatMap lenI, mkG_len]) (HMO.out.cells rfl) oneLI_bk (by omega) (by dsimp only; omega) (by dsimp only; unfold maxLen; omega) ?_; intro g cap w4 htwo; (obtain ⟨X, hR4, hpre⟩ := HR3.out.grow2 htwo); (rw [<- List.flatMap_append, mkG_app0] at hR4 hpre); have HR4 : Hid (Rws w0 w4 (⟨58, 1, v3, i, gs⟩ :: ⟨44, 22, .slice (some ⟨bb, 0, none⟩) 1 1, 1, cs⟩ :: ⟨58, 1, .slice (some ⟨ob, 0, none⟩) m oc, m, ks.map (·.v)⟩ :: ((G ++ (⟨3, 1, .slice (some ⟨g, 0, none⟩) (n + 16 + 80) cap, n + 16 + 80, (mkG mI i 0 (n + 16 + 80)).flatMap encI⟩ :: (X ++ E))) ++ (ks.drop (i + 1) ++ rest)))) := hid (hR4.perm (by rw [<- List.append_assoc]; exact perm_rot (_ :: (X ++ E)) [⟨58, 1, v3, i, gs⟩, ⟨44, 22, .slice (some ⟨bb, 0, none⟩) 1 1, 1, cs⟩, ⟨58, 1, .slice (some ⟨ob, 0, none⟩) m oc, m, ks.map (·.v)⟩] G (ks.drop (i + 1) ++ rest))); have HPR := hid hpre; clear htwo hR4 hpre HR3 HMO)
   | (at_builtin; refine wpList_lie rfl _ _ 32 rfl rowII_bk (base := w0.heap.size) (by have := HR4.out.bel.size; simp; omega) rfl ((HR4.out.alloc _).get (i := 0) rfl) ⟨w4.heap.size, 0, none⟩ 1 1 [.slice (some ⟨g, 0, none⟩) (n + 16 + 80) cap] rfl rfl (cells1 (by simp [go_sem])) (by simp [Value.oneCell']) (by omega) (by dsimp only; omega) (by dsimp only; unfold maxLen; omega) w4.heap.size (by simp) ?_; intro g2 cap2 w6 hown6 hg6 hgg6 _))
 have HR6 : Hid (Rws w0 w6 (⟨58, 1, .slice (some ⟨g2, 0, none⟩) (i + 1) cap2, i + 1, gs ++ [.slice (some ⟨g, 0, none⟩) (n + 16 + 80) cap]⟩ :: ⟨44, 22, .slice (some ⟨bb, 0, none⟩) 1 1, 1, cs⟩ :: ⟨58, 1, .slice (some ⟨ob, 0, none⟩) m oc, m, ks.map (·.v)⟩ :: ((G ++ (⟨3, 1, .slice (some ⟨g, 0, none⟩) (n + 16 + 80) cap, n + 16 + 80, (mkG mI i 0 (n + 16 + 80)).flatMap encI⟩ :: (X ++ E))) ++ (ks.drop (i + 1) ++ rest)))) := hid (HR4.out.grown ((Below.refl w4.heap.size w4).alloc (Nat.le_refl _) _) 0 rfl hown6 hg6 (fun b hb => by simp only [Value.ownBlock, Option.some.injEq] at hb; subst hb; exact hgg6))
 clear hown6 hg6 hgg6
 go_wp2_with fail
 go_roundw
 case rel => exact ⟨i + 1, gs ++ [.slice (some ⟨g, 0, none⟩) (n + 16 + 80) cap], G ++ (⟨3, 1, .slice (some ⟨g, 0, none⟩) (n + 16 + 80) cap, n + 16 + 80, (mkG mI i 0 (n + 16 + 80)).flatMap encI⟩ :: (X ++ E)), _, rfl, by go_num, by omega, by simp [HGS.out], HR6.out, HOK.out.step HGS.out HR.out (by
   exact ⟨_, List.mem_cons_self, rfl, _, _, _, rfl, rfl, Nat.le_refl _, List.take_of_length_le (by rw [length_flatMap lenI, mkG_len]; exact Nat.le_refl _)⟩) (HPX.out.swap HPR.out (fun x hx => hx))⟩
 case measure => simp [intOf]; omega)))
 · (
 obtain rfl : m = i := by omega
 have HRW := hid hRw
 clear hRw
 go_wp2_with fail
 go_ret
 refine ⟨_, gs, G, rfl, HGS.out, ?_, HOK.out⟩
 have := HRW.out
 rw [List.drop_of_length_le (by rw [<- HM.out]; exact Nat.le_refl _)] at this
 exact this))
end Go.Proofs.YtgikimbafakmcaaGreatDoor
namespace Go.Proofs.YtgikimbafakmcaaGreatDoor
open Go.RowKit Pl
open Lib (hid)
theorem putI_any {w0 w : World} {bb : Nat} {cs : List Value} {o : Value} {ks rest : List Rw}
    (h : Rws w0 w (⟨44, 22, .slice (some ⟨bb, 0, none⟩) 1 1, 1, cs⟩ :: ⟨58, 1, o, ks.length, ks.map (·.v)⟩ :: (ks ++ rest))) (hc : cs[0]? = some o) (hK : ∀ r ∈ ks, r.T = 3 /\ r.k = 1 /\ r.n <= 500000) (hl : ks.length <= 400) :
    Calls Tryz.prog 36 #[.pointer (some ⟨bb, 0, none⟩)] w fun e w' => e = .returned (.tuple #[]) /\ Rws w0 w' (⟨44, 22, .slice (some ⟨bb, 0, none⟩) 1 1, 1, cs⟩ :: ⟨58, 1, o, ks.length, ks.map (·.v)⟩ :: (mkAll mI encI ks ++ rest)) := by
 obtain ⟨oa, oc, hov, hoa, _, _, _, _⟩ := h.shape (r := ⟨58, 1, o, ks.length, ks.map (·.v)⟩) (by simp)
 dsimp only at hov hoa
 subst hov
 obtain ⟨m, hm⟩ : ∃ m, m = ks.length := ⟨_, rfl⟩
 rw [<- hm] at h hl hc hoa ⊢
 have H := hid h; have HK := hid hK; have HM := hid hm; have HC := hid hc; have HOA := hid hoa
 have b0 := h.cell (i := 0) rfl hc
 have hbl := (h.lt (i := 0) rfl).2
 clear h hK hm hc hoa
 go_enter Tryz.func36, Tryz.ntmps36
 go_wp2_with fail
 clear b0 hbl
 go_loopw [2, 3, 4] (fun v2 _ _ wr => ∃ i : Nat, v2 = .int .i64 i /\ i <= m /\ Rws w0 wr (⟨44, 22, .slice (some ⟨bb, 0, none⟩) 1 1, 1, cs⟩ :: ⟨58, 1, .slice oa m oc, m, ks.map (·.v)⟩ :: (mkAt mI encI 1 ks i 0 ++ rest))) (fun v2 _ _ _ => m - (intOf v2).toNat)
 case atStart => exact ⟨0, rfl, Nat.zero_le _, by rw [mkAt_zero]; exact H.out⟩
 case round => (
 obtain ⟨i, rfl, hi, hRw⟩ := hrel
 have HRW := hid hRw
 have b0 := hRw.cell (i := 0) rfl HC.out
 have hbl := (hRw.lt (i := 0) rfl).2
 by_cases hlt : i < m
 · (
 obtain ⟨r, hr⟩ := getElem?_of_lt (xs := ks) (i := i) (by rw [<- HM.out]; exact hlt)
 obtain ⟨ob, rfl⟩ := HOA.out (by omega)
 have b1 := hRw.cell (i := 1) (j := i) (u := r.v) rfl (by simp [hr])
 have hrm := List.mem_of_getElem? hr
 obtain ⟨T, k, v, n, xs⟩ := r
 obtain ⟨rfl, rfl, hn⟩ := HK.out _ hrm
 obtain ⟨va, vc, hv, hva, _, _, _, hX⟩ := H.out.shape (r := ⟨3, 1, v, n, xs⟩) (by simp [hrm])
 dsimp only at b1 hn hv hva hX
 subst hv
 have hin : (i : Int) < (m : Int) := by omega
 have HMK := hid (markI_any (w := wr) (i := i) (k := 0) (n := n) (by omega) (by omega) (by omega))
 have HR := hid hr; have HVA := hid hva; have HX := hid hX
 clear hRw hrm hr hva hX
 go_wp2_with fail
 refine HMK.out.mono ?_
 rintro e w3 ⟨mv, rfl, hmo, hmB⟩
 have hR3 := HRW.out.add hmB hmo
 obtain ⟨ma, mc, hmv, hma, _, _, _, _⟩ := hR3.shape (r := ⟨3, 1, mv, n, (mkG mI i 0 n).flatMap encI⟩) (by simp)
 dsimp only at hmv hma
 subst hmv
 have HR3 := hid hR3; have HMA := hid hma
 clear hR3 hmo hmB hma HMK HRW b0 b1 hbl
 go_wp2_with fail
 go_loopw [4] (fun v4 wr => ∃ q : Nat, v4 = .int .i64 q /\ q <= n /\ Rws w0 wr (⟨3, 1, .slice ma n mc, n, (mkG mI i 0 n).flatMap encI⟩ :: ⟨44, 22, .slice (some ⟨bb, 0, none⟩) 1 1, 1, cs⟩ :: ⟨58, 1, .slice (some ⟨ob, 0, none⟩) m oc, m, ks.map (·.v)⟩ :: (mkAt mI encI 1 ks i q ++ rest))) (fun v4 _ => n - (intOf v4).toNat)
 case atStart => exact ⟨0, rfl, Nat.zero_le _, HR3.out⟩
 case round => (
 obtain ⟨q, rfl, hq, hRx⟩ := hrel
 by_cases hlq : q < n
 · (
 obtain ⟨mg, rfl⟩ := HMA.out (by omega)
 obtain ⟨vg, rfl⟩ := HVA.out (by omega)
 have b0 := hRx.cell (i := 1) rfl HC.out
 have b1 := hRx.cell (i := 2) (j := i) (u := .slice (some ⟨vg, 0, none⟩) n vc) rfl (by simp [HR.out])
 have hqn : (q : Int) < (n : Int) := by omega
 have m0 := hRx.cell (i := 0) (j := q * 1 + 0) rfl (getElem?_flatMap lenI (mkG mI i 0 n) q _ (mkG_get hlq) 0 _ rfl)
 obtain ⟨⟨u0, x0⟩, y0, z0⟩ := hRx.putOld (j := 0) HR.out HX.out hlq lenI (by decide)
 simp only [Nat.mul_one, Nat.add_zero, Nat.zero_add, mI] at m0 x0 y0
 have HRX := hid hRx
 clear hRx HR3
 go_wp2_with fail
 go_region
 go_wp2_with fail
 go_roundw
 case rel => exact ⟨q + 1, by go_num, by omega, by have := HRX.out.putAt1 HR.out HX.out hlq lenI (show encI (mI i q) = [_] from rfl); have := this.drew; simpa [Nat.mul_one, mI] using this⟩
 case measure => simp [intOf]; omega)
 · (
 obtain rfl : n = q := by omega
 have HR4 : Hid (Rws w0 wr (⟨44, 22, .slice (some ⟨bb, 0, none⟩) 1 1, 1, cs⟩ :: ⟨58, 1, .slice (some ⟨ob, 0, none⟩) m oc, m, ks.map (·.v)⟩ :: (mkAt mI encI 1 ks (i + 1) 0 ++ rest))) := hid (by (
 have := hRx.sub (List.sublist_cons_self _ _)
 rw [mkAt_next HR.out HX.out] at this
 exact this))
 clear hRx
 go_wp2_with fail
 go_roundw
 case rel => exact ⟨i + 1, by go_num, by omega, HR4.out⟩
 case measure => simp [intOf]; omega)))
 · (
 obtain rfl : m = i := by omega
 clear hRw
 go_wp2_with fail
 go_end0
 refine ⟨rfl, ?_⟩
 have := HRW.out
 rw [mkAt_end (by rw [<- HM.out]; exact Nat.le_refl _)] at this
 exact this))
end Go.Proofs.YtgikimbafakmcaaGreatDoor

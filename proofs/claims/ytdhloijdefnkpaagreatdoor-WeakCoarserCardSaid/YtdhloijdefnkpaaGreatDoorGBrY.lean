/-
  strconv.AppendInt at base 10, by the shelf's contract.
  branching.text: a signature's text.
-/
import Derived.Test.YtdhloijdefnkpaaGreatDoorShelf
import Derived.Test.YtdhloijdefnkpaaGreatDoorGBrL
import Derived.Shelf.Strconv.AppendIntPublic10
import Derived.Lib.AppendIntMem
import Derived.Lib.ItoaLen
import Derived.Test.YtdhloijdefnkpaaGreatDoorGWkC
import Derived.Test.YtdhloijdefnkpaaGreatDoorGTauJ
import Derived.Lib.Slices
import Derived.Laws.IdiomStrings
import Derived.Deep.RegionHeldLaw
import Derived.Deep.RegionHeld3
import Derived.BigQuiet
import Derived.Deep.Cut
import Derived.Deep.CutRange
namespace Go.Proofs.YtdhloijdefnkpaaGreatDoor
open Go.RowKit Go.Shelf

theorem rowU8 : IsRow Tryz.prog 112 5 1 1 (.int .u8 0) := isRow_of Tryz.underlying112 (by kernel_rfl) rfl (by decide)
def okIB (x : Int) : Prop := -9223372036854775808 ≤ x ∧ x ≤ 9223372036854775807

/-- strconv.AppendInt at base 10. -/
theorem appInt_any (B n : Nat) {i : Int} (hi : okIB i) (sv : Value) (xs : List Value) (w : World) (hown : w.ownsRow B 5 1 sv n xs) (hBw : B ≤ w.heap.size) (hlim : n ≤ 100000000)
    (htab : Lib.TabBelow Tryz.prog B w "internal/strconv.uint64pow10" .u64 Lib.pow10Tab) :
    Calls Tryz.prog 128 #[sv, .int .i64 i, .int .i64 10] w fun e w' => ∃ v', e = .returned v' ∧ w'.ownsRow B 5 1 v' (n + (Lib.itoa i).length) (xs ++ Lib.byteCells (Lib.itoa i)) ∧ Below B w w' ∧ Lib.OthersKept 5 none w w' := by
  have h := Any.strconv_AppendInt_10 Tryz.appI B n i hi.1 hi.2 sv xs w hown hBw (by omega) htab
  change Calls Tryz.prog 128 _ _ _ at h
  refine h.mono ?_
  rintro e w' ⟨v', rfl, h1, h2, h3⟩
  exact ⟨v', rfl, h1, h2, h3⟩

end Go.Proofs.YtdhloijdefnkpaaGreatDoor

namespace Go.Proofs.YtdhloijdefnkpaaGreatDoor
open Go.RowKit Pl

theorem textB_snoc {L : List S} {k : Nat} {y : S} (cl : Int) (h : L[k]? = some y) : textB cl (L.take (k + 1)) = textB cl (L.take k) ++ (32 :: (Lib.itoa y.1 ++ 32 :: Lib.itoa y.2)) := by
  unfold textB
  rw [take_snoc h, List.flatMap_append]
  simp [Pl.stepT]
theorem textB_pos (cl : Int) (L : List S) : 0 < (textB cl L).length := by
  unfold textB Lib.itoa
  rw [List.length_append]
  split
  · simp; omega
  · have := List.length_pos_iff.2 (dec_ne cl.toNat); omega
theorem byteCells_app (a b : List UInt8) : Lib.byteCells (a ++ b) = Lib.byteCells a ++ Lib.byteCells b := by simp [Lib.byteCells]
/-- A box stays where a row of bytes grows. -/
theorem box_kept {w w' : World} {nb : Nat} {c : Array Value} (h : Lib.OthersKept 5 none w w') (hb : w.heap[nb]? = some (.cells c 107 (0, 0))) : w'.heap[nb]? = some (.cells c 107 (0, 0)) :=
  h nb _ hb (by simp) (fun c2 fz e => by injection e with _ e2 _; exact absurd e2 (by decide))

theorem _root_.Go.World.ownsRow.congrL {w : World} {base : Nat} {e : TypeId} {k n : Nat} {v : Value} {xs ys : List Value} (h : w.ownsRow base e k v n xs) (e2 : xs = ys) : w.ownsRow base e k v n ys := e2 ▸ h
set_option maxRecDepth 100000 in
set_option maxHeartbeats 8000000 in
theorem text_any {w : World} {cl : Int} (hcl : okIB cl) {a : Option Addr} {b off c n : Nat} {L : List S} (hS : SlAt encS 2 w a b off L) (hn : L.length = n) (hn1 : n ≤ 100000) (hL : ∀ x ∈ L, okIB x.1 ∧ okIB x.2)
    (htab : Lib.TabIs Tryz.prog w "internal/strconv.uint64pow10" .u64 Lib.pow10Tab) :
    Calls Tryz.prog 97 #[.int .i64 cl, .slice a n c] w fun e w' => e = .returned (.string ⟨(textB cl L).toArray⟩) ∧ Below w.heap.size w w' := by
  have HT := Lib.hid (Lib.tabBelow_of_tabIs htab)
  have HS := Lib.hid hS; have HN := Lib.hid hn; have HL := Lib.hid hL
  have HA0 := Lib.hid (appInt_any w.heap.size 0 hcl (.slice none 0 0) [] w (World.ownsRow_nil _ _ _ _) (Nat.le_refl _) (Nat.zero_le _) HT.out)
  clear htab hS hn hL
  go_enter Tryz.func97, Tryz.ntmps97
  go_wp2_with fail
  refine HA0.out.mono ?_
  rintro e w1 ⟨v1, rfl, hown1, hB1, _⟩
  have hown1' : w1.ownsRow w.heap.size 5 1 v1 (textB cl (L.take 0)).length (Lib.byteCells (textB cl (L.take 0))) := by
    have e : textB cl (L.take 0) = Lib.itoa cl := by unfold textB; simp
    rw [e]
    simpa using hown1
  have HO1 := Lib.hid hown1'; have HB1 := Lib.hid hB1
  clear hown1 hown1' hB1 HA0
  go_wp2_with fail
  go_loopw [5, 7, 12] (fun v5 _ v12 wr => ∃ (k nn : Nat), v12 = .int .i64 k ∧ k ≤ n ∧ nn = (textB cl (L.take k)).length ∧ nn ≤ 30 + 50 * k ∧ wr.ownsRow w.heap.size 5 1 v5 nn (Lib.byteCells (textB cl (L.take k))) ∧ Below w.heap.size w wr) (fun _ _ v12 _ => n - (intOf v12).toNat)
  case atStart =>
    have e : textB cl (L.take 0) = Lib.itoa cl := by unfold textB; simp
    have h20 := Lib.itoa_length_le cl hcl.1 hcl.2
    rw [← e] at h20
    exact ⟨0, (textB cl (L.take 0)).length, rfl, Nat.zero_le _, rfl, by omega, HO1.out, HB1.out⟩
  case round =>
    obtain ⟨k, nn, rfl, hk, hnn, hnl, hown, hB⟩ := hrel
    have HOW := Lib.hid hown; have HB := Lib.hid hB; have HNN := Lib.hid hnn
    have hws := hB.size
    clear hown hB hnn HO1 HB1
    by_cases hkn : k < n
    · obtain ⟨y, hy⟩ := getElem?_of_lt (xs := L) (i := k) (by have := HN.out; omega)
      have hs := HS.out.below HB.out (Nat.le_refl _)
      obtain rfl := hs.ad (by have := HN.out; omega)
      have d0 := hs.s0 hy; have d1 := hs.s1 hy
      have dl := hs.lt (by have := HN.out; omega)
      have HY := Lib.hid hy
      have hok := HL.out y (List.mem_of_getElem? hy)
      obtain ⟨y1, y2⟩ := y
      simp only at d0 d1 hok
      have hkI : (k : Int) < (n : Int) := by omega
      clear hs hy
      have hbw : Below w.heap.size w (wr.alloc (.cells #[.int .i64 y1, .int .i64 y2] 107)) := HB.out.alloc hws _
      have HX := Lib.hid (heap_alloc_new wr (.cells #[.int .i64 y1, .int .i64 y2] 107))
      have HBW := Lib.hid hbw
      have HOW1 := Lib.hid (HOW.out.alloc (.cells #[.int .i64 y1, .int .i64 y2] 107))
      have hnb : ∀ g, u5.ownBlock = some g → g ≠ wr.heap.size := fun g hg => by have := (HOW.out.lt g hg).2; omega
      have HNB := Lib.hid hnb
      have hszU : (wr.alloc (.cells #[.int .i64 y1, .int .i64 y2] 107)).heap.size = wr.heap.size + 1 := by simp
      have HSZ := Lib.hid hszU
      have hl1 := Lib.itoa_length_le y1 hok.1.1 hok.1.2
      have hl2 := Lib.itoa_length_le y2 hok.2.1 hok.2.2
      have HOK1 := Lib.hid hok.1; have HOK2 := Lib.hid hok.2
      clear hbw hnb hszU hok
      go_upto_region 5 with fail
      obtain ⟨U, hU⟩ : ∃ U, U = wr.alloc (.cells #[.int .i64 y1, .int .i64 y2] 107) := ⟨_, rfl⟩
      rw [← hU] at HX HBW HOW1 HSZ ⊢
      obtain ⟨nb, hnb⟩ : ∃ nb, nb = wr.heap.size := ⟨_, rfl⟩
      rw [← hnb] at HX HNB HSZ ⊢
      have hu0 : w.heap.size ≤ nb := by omega
      clear hU hnb d0 d1 dl HB HOW
      have g0 : U.cell? ⟨nb, 0, none⟩ = some (.int .i64 y1) := by simp [World.cell?, HX.out]
      have g1 : U.cell? ⟨nb, 1, none⟩ = some (.int .i64 y2) := by simp [World.cell?, HX.out]
      have gl : nb < U.heap.size := by have := HSZ.out; omega
      have hU1 : w.heap.size ≤ U.heap.size := by omega
      go_cut [5] from 13 to 28 (fun s5 wx => wx.ownsRow w.heap.size 5 1 s5 (nn + 1 + (Lib.itoa y1).length) (Lib.byteCells (textB cl (L.take k) ++ (32 :: Lib.itoa y1))) ∧ Below w.heap.size w wx ∧ wx.heap[nb]? = some (.cells #[.int .i64 y1, .int .i64 y2] 107 (0, 0)))
      case first =>
        go_region_law (first
          | (refine step_app1 rfl _ _ _ rfl rowU8 rfl (World.ownsRow.drew (HOW1.out.alloc _)) ⟨U.heap.size, 0, none⟩ 1 1 [.int .u8 32] rfl rfl (cells1 (by simp [go_sem])) (by simp [Value.oneCell']) (by decide) (by omega) (by unfold maxLen; omega) (by simp; omega) ?_; intro g3 cap3 w3 hown3 hg3; have hx3 := (hg3.block nb (by simp; omega) (fun e => HNB.out nb e.symm rfl)).trans ((Below.heap_alloc U (.cells #[.int .u8 32] 5) nb gl).trans HX.out); have k0 : w3.cell? ⟨nb, 0, none⟩ = some (.int .i64 y1) := by { simp [World.cell?, hx3] }; have kl := (Array.getElem?_eq_some_iff.1 hx3).1)
          | (go_simp; go_at_call 128; refine (appInt_any w.heap.size (nn + 1) HOK1.out _ _ w3 hown3 (by have h := ((bdrew (n := 1) (HBW.out.alloc hU1 (.cells #[.int .u8 32] 5))).grown hg3 (by simp [World.drewN]; omega) (fun k hk => (HOW1.out.lt k hk).1)).size; omega) (by omega) (HT.out.on ((bdrew (n := 1) (HBW.out.alloc hU1 (.cells #[.int .u8 32] 5))).grown hg3 (by simp [World.drewN]; omega) (fun k hk => (HOW1.out.lt k hk).1)))).mono ?_; rintro e w4 ⟨v4, rfl, hown4, hB4, hk4⟩))
        all_goals
          go_wp2_with fail
          go_meet
        all_goals
          have hb3 := (bdrew (n := 1) (HBW.out.alloc hU1 (.cells #[.int .u8 32] 5))).grown hg3 (by simp [World.drewN]; omega) (fun k hk => (HOW1.out.lt k hk).1)
          exact ⟨by rw [byteCells_app, show (32 :: Lib.itoa y1) = [32] ++ Lib.itoa y1 from rfl, byteCells_app, ← List.append_assoc]; exact hown4, hb3.trans hB4, box_kept hk4 hx3⟩
      case rest =>
        obtain ⟨hown4, hb4, hx4⟩ := hcut
        have hnc : ∀ g, u5.ownBlock = some g → g ≠ nb := fun g hg e => by
          rcases hown4.2 with ⟨h5, _⟩ | ⟨g2, cap, cur, h5, _, hgg, _⟩
          · rw [h5] at hg; cases hg
          · rw [h5] at hg
            simp only [Value.ownBlock, Option.some.injEq] at hg
            rw [hg, e, hx4] at hgg
            have := Option.some.inj hgg
            injection this with _ e2 _
            exact absurd e2 (by decide)
        obtain ⟨n1, hn1e⟩ : ∃ n1, n1 = nn + 1 + (Lib.itoa y1).length := ⟨_, rfl⟩
        rw [← hn1e] at hown4
        have HN1 := Lib.hid hn1e
        have hn1l : n1 ≤ nn + 22 := by omega
        have HOC := Lib.hid hown4; have HNC := Lib.hid hnc; have HBC := Lib.hid hb4; have HXC := Lib.hid hx4
        have hC1 := hb4.size
        have glc := (Array.getElem?_eq_some_iff.1 hx4).1
        have HTS := Lib.hid (textB_snoc cl HY.out)
        have g1 : wc.cell? ⟨nb, 1, none⟩ = some (.int .i64 y2) := by simp [World.cell?, hx4]
        clear hown4 hnc hb4 hx4 hn1e HX HBW HOW1 HSZ HNB gl hU1
        go_wp2_with fail
        go_region_law (first
          | (refine step_app1 rfl _ _ _ rfl rowU8 rfl (World.ownsRow.drew (HOC.out.alloc _)) ⟨wc.heap.size, 0, none⟩ 1 1 [.int .u8 32] rfl rfl (cells1 (by simp [go_sem])) (by simp [Value.oneCell']) (by decide) (by omega) (by unfold maxLen; omega) (by simp; omega) ?_; intro g3 cap3 w3 hown3 hg3; have hx3 := (hg3.block nb (by simp; omega) (fun e => HNC.out nb e.symm rfl)).trans ((Below.heap_alloc wc (.cells #[.int .u8 32] 5) nb glc).trans HXC.out); have k0 : w3.cell? ⟨nb, 1, none⟩ = some (.int .i64 y2) := by { simp [World.cell?, hx3] }; have kl := (Array.getElem?_eq_some_iff.1 hx3).1)
          | (go_simp; go_at_call 128; refine (appInt_any w.heap.size (n1 + 1) HOK2.out _ _ w3 hown3 (by have h := ((bdrew (n := 1) (HBC.out.alloc hC1 (.cells #[.int .u8 32] 5))).grown hg3 (by simp [World.drewN]; omega) (fun k hk => (HOC.out.lt k hk).1)).size; omega) (by omega) (HT.out.on ((bdrew (n := 1) (HBC.out.alloc hC1 (.cells #[.int .u8 32] 5))).grown hg3 (by simp [World.drewN]; omega) (fun k hk => (HOC.out.lt k hk).1)))).mono ?_; rintro e w4 ⟨v5, rfl, hown5, hB5, hk5⟩))
        all_goals
          have hb5 := ((bdrew (n := 1) (HBC.out.alloc hC1 (.cells #[.int .u8 32] 5))).grown hg3 (by simp [World.drewN]; omega) (fun k hk => (HOC.out.lt k hk).1)).trans hB5
          have HO5 := Lib.hid hown5; have HB5 := Lib.hid hb5
          clear hown5 hb5 hB5 hk5 hown3 hg3 hx3 k0 kl HXC HOC HBC g1
          go_wp2_with fail
          go_roundw
          case rel => exact ⟨k + 1, n1 + 1 + (Lib.itoa y2).length, by go_num, by omega, by rw [HTS.out, HN1.out, HNN.out]; simp; omega, by have := HN1.out; omega, by rw [HTS.out]; refine HO5.out.congrL ?_; simp [Lib.byteCells], HB5.out⟩
          case measure => simp [intOf]; omega
    · obtain rfl : k = n := by omega
      have e0 : L.take k = L := List.take_of_length_le (by have := HN.out; omega)
      have hown := HOW.out
      rw [HNN.out, e0] at hown
      obtain ⟨l, hl⟩ : ∃ l, l = textB cl L := ⟨_, rfl⟩
      rw [← hl] at hown
      have HLB := Lib.hid hl
      have hown0 := Lib.hid hown
      clear hl hown HOW
      rcases hown0.out.2 with ⟨hv0, hn0⟩ | ⟨g, cap, cur, rfl, _⟩
      · have h1 := textB_pos cl L
        rw [← HLB.out] at h1
        omega
      · have hcv := run_convert_bytes_back (P := Tryz.prog) wr 112 9 5 ⟨g, 0, none⟩ cap l Tryz.underlying112 Tryz.underlying5 Tryz.underlying9 (fun j hj => hown0.out.cells (g := g) rfl j _ (by simp [Lib.byteCells, hj]))
        go_wp2_with fail
        go_ret
        rw [← HLB.out]
        exact ⟨rfl, HB.out⟩
end Go.Proofs.YtdhloijdefnkpaaGreatDoor

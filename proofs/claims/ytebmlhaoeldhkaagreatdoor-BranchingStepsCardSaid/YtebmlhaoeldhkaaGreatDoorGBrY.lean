/-
 Lemmas.
-/
import Derived.Test.YtebmlhaoeldhkaaGreatDoorShelf
import Derived.Test.YtebmlhaoeldhkaaGreatDoorGPl12
import Derived.Shelf.Strconv.AppendIntPublic10
import Derived.Lib.AppendIntMem
import Derived.Lib.ItoaLen
import Derived.Test.YtebmlhaoeldhkaaGreatDoorGBrQ
import Derived.Test.YtebmlhaoeldhkaaGreatDoorGTauJ
import Derived.Lib.Slices
import Derived.Laws.IdiomStrings
import Derived.Deep.RegionHeldLaw
import Derived.Deep.RegionHeld3
import Derived.BigQuiet
import Derived.Deep.Cut
import Derived.Deep.CutRange
import Derived.Test.YtebmlhaoeldhkaaGreatDoorGCanon
import Derived.Test.YtebmlhaoeldhkaaGreatDoorGPl3
import Derived.Test.YtebmlhaoeldhkaaGreatDoorGGraphA
import Derived.Test.YtebmlhaoeldhkaaGreatDoorGBrS
import Derived.Test.YtebmlhaoeldhkaaGreatDoorGTauG
import Derived.Test.YtebmlhaoeldhkaaGreatDoorTauK
set_option maxHeartbeats 16000000
set_option maxRecDepth 100000
namespace Go.Proofs.YtebmlhaoeldhkaaGreatDoor
open Go.RowKit Go.Shelf
theorem rowU8 : IsRow Tryz.prog 211 5 1 1 (.int .u8 0) := isRow_of Tryz.underlying211 (by kernel_rfl) rfl (by decide)
def okIB (x : Int) : Prop := -9223372036854775808 <= x /\ x <= 9223372036854775807
theorem appInt_any (B n : Nat) {i : Int} (hi : okIB i) (sv : Value) (xs : List Value) (w : World) (hown : w.ownsRow B 5 1 sv n xs) (hBw : B <= w.heap.size) (hlim : n <= 100000000)
   (htab : Lib.TabBelow Tryz.prog B w "internal/strconv.uint64pow10" .u64 Lib.pow10Tab) :
   Calls Tryz.prog 176 #[sv, .int .i64 i, .int .i64 10] w fun e w' => ∃ v', e = .returned v' /\ w'.ownsRow B 5 1 v' (n + (Lib.itoa i).length) (xs ++ Lib.byteCells (Lib.itoa i)) /\ Below B w w' /\ Lib.OthersKept 5 none w w' := by
 have h := Any.strconv_AppendInt_10 Tryz.appI B n i hi.1 hi.2 sv xs w hown hBw (by omega) htab
 change Calls Tryz.prog 176 _ _ _ at h
 refine h.mono ?_
 rintro e w' ⟨v', rfl, h1, h2, h3⟩
 exact ⟨v', rfl, h1, h2, h3⟩
end Go.Proofs.YtebmlhaoeldhkaaGreatDoor
namespace Go.Proofs.YtebmlhaoeldhkaaGreatDoor
open Go.RowKit Pl
open Lib (hid)
theorem textB_snoc {L : List S} {k : Nat} {y : S} (cl : Int) (h : L[k]? = some y) : textB cl (L.take (k + 1)) = textB cl (L.take k) ++ (32 :: (Lib.itoa y.1 ++ 32 :: Lib.itoa y.2)) := by
 unfold textB
 rw [take_snoc h, List.flatMap_append]
 simp [Pl.stepT]
theorem textB_pos (cl : Int) (L : List S) : 0 < (textB cl L).length := by
 unfold textB Lib.itoa
 rw [List.length_append]
 split
 · simp; omega
 · have := List.length_pos_iff.2 (dec_ne cl.toNat); omega
theorem byteCells_app (a b : List UInt8) : Lib.byteCells (a ++ b) = Lib.byteCells a ++ Lib.byteCells b := by simp [Lib.byteCells]
theorem box_kept {w w' : World} {nb : Nat} {c : Array Value} (h : Lib.OthersKept 5 none w w') (hb : w.heap[nb]? = some (.cells c 117 (0, 0))) : w'.heap[nb]? = some (.cells c 117 (0, 0)) :=
 h nb _ hb (by simp) (fun c2 fz e => by injection e with _ e2 _; exact absurd e2 (by decide))
theorem _root_.Go.World.ownsRow.congrL {w : World} {base : Nat} {e : TypeId} {k n : Nat} {v : Value} {xs ys : List Value} (h : w.ownsRow base e k v n xs) (e2 : xs = ys) : w.ownsRow base e k v n ys := e2 ▸ h
theorem text_any {w : World} {cl : Int} (hcl : okIB cl) {a : Option Addr} {b off c n : Nat} {L : List S} (hS : SlAt encS 2 w a b off L) (hn : L.length = n) (hn1 : n <= 100000) (hL : ∀ x ∈ L, okIB x.1 /\ okIB x.2)
   (htab : Lib.TabIs Tryz.prog w "internal/strconv.uint64pow10" .u64 Lib.pow10Tab) :
   Calls Tryz.prog 133 #[.int .i64 cl, .slice a n c] w fun e w' => e = .returned (.string ⟨(textB cl L).toArray⟩) /\ Below w.heap.size w w' := by
 have HT := hid (Lib.tabBelow_of_tabIs htab)
 have HS := hid hS; have HN := hid hn; have HL := hid hL
 have HA0 := hid (appInt_any w.heap.size 0 hcl (.slice none 0 0) [] w (World.ownsRow_nil _ _ _ _) (Nat.le_refl _) (Nat.zero_le _) HT.out)
 clear htab hS hn hL
 go_enter Tryz.func133, Tryz.ntmps133
 go_wp2_with fail
 refine HA0.out.mono ?_
 rintro e w1 ⟨v1, rfl, hown1, hB1, _⟩
 have hown1' : w1.ownsRow w.heap.size 5 1 v1 (textB cl (L.take 0)).length (Lib.byteCells (textB cl (L.take 0))) := by
   have e : textB cl (L.take 0) = Lib.itoa cl := by unfold textB; simp
   rw [e]
   simpa using hown1
 have HO1 := hid hown1'; have HB1 := hid hB1
 clear hown1 hown1' hB1 HA0
 go_wp2_with fail
 go_loopw [5, 7, 12] (fun v5 _ v12 wr => ∃ (k nn : Nat), v12 = .int .i64 k /\ k <= n /\ nn = (textB cl (L.take k)).length /\ nn <= 30 + 50 * k /\ wr.ownsRow w.heap.size 5 1 v5 nn (Lib.byteCells (textB cl (L.take k))) /\ Below w.heap.size w wr) (fun _ _ v12 _ => n - (intOf v12).toNat)
 case atStart =>
   have e : textB cl (L.take 0) = Lib.itoa cl := by unfold textB; simp
   have h20 := Lib.itoa_length_le cl hcl.1 hcl.2
   rw [<- e] at h20
   exact ⟨0, (textB cl (L.take 0)).length, rfl, Nat.zero_le _, rfl, by omega, HO1.out, HB1.out⟩
 case round =>
   obtain ⟨k, nn, rfl, hk, hnn, hnl, hown, hB⟩ := hrel
   have HOW := hid hown; have HB := hid hB; have HNN := hid hnn
   have hws := hB.size
   clear hown hB hnn HO1 HB1
   by_cases hkn : k < n
   · obtain ⟨y, hy⟩ := getElem?_of_lt (xs := L) (i := k) (by have := HN.out; omega)
     have hs := HS.out.below HB.out (Nat.le_refl _)
     obtain rfl := hs.ad (by have := HN.out; omega)
     have d0 := hs.s0 hy; have d1 := hs.s1 hy
     have dl := hs.lt (by have := HN.out; omega)
     have HY := hid hy
     have hok := HL.out y (List.mem_of_getElem? hy)
     obtain ⟨y1, y2⟩ := y
     simp only at d0 d1 hok
     have hkI : (k : Int) < (n : Int) := by omega
     clear hs hy
     have hbw : Below w.heap.size w (wr.alloc (.cells #[.int .i64 y1, .int .i64 y2] 117)) := HB.out.alloc hws _
     have HX := hid (heap_alloc_new wr (.cells #[.int .i64 y1, .int .i64 y2] 117))
     have HBW := hid hbw
     have HOW1 := hid (HOW.out.alloc (.cells #[.int .i64 y1, .int .i64 y2] 117))
     have hnb : ∀ g, u5.ownBlock = some g -> g ≠ wr.heap.size := fun g hg => by have := (HOW.out.lt g hg).2; omega
     have HNB := hid hnb
     have hszU : (wr.alloc (.cells #[.int .i64 y1, .int .i64 y2] 117)).heap.size = wr.heap.size + 1 := by simp
     have HSZ := hid hszU
     have hl1 := Lib.itoa_length_le y1 hok.1.1 hok.1.2
     have hl2 := Lib.itoa_length_le y2 hok.2.1 hok.2.2
     have HOK1 := hid hok.1; have HOK2 := hid hok.2
     clear hbw hnb hszU hok
     go_upto_region 5 with fail
     obtain ⟨U, hU⟩ : ∃ U, U = wr.alloc (.cells #[.int .i64 y1, .int .i64 y2] 117) := ⟨_, rfl⟩
     rw [<- hU] at HX HBW HOW1 HSZ ⊢
     obtain ⟨nb, hnb⟩ : ∃ nb, nb = wr.heap.size := ⟨_, rfl⟩
     rw [<- hnb] at HX HNB HSZ ⊢
     have hu0 : w.heap.size <= nb := by omega
     clear hU hnb d0 d1 dl HB HOW
     have g0 : U.cell? ⟨nb, 0, none⟩ = some (.int .i64 y1) := by simp [World.cell?, HX.out]
     have g1 : U.cell? ⟨nb, 1, none⟩ = some (.int .i64 y2) := by simp [World.cell?, HX.out]
     have gl : nb < U.heap.size := by have := HSZ.out; omega
     have hU1 : w.heap.size <= U.heap.size := by omega
     go_cut [5] from 13 to 28 (fun s5 wx => wx.ownsRow w.heap.size 5 1 s5 (nn + 1 + (Lib.itoa y1).length) (Lib.byteCells (textB cl (L.take k) ++ (32 :: Lib.itoa y1))) /\ Below w.heap.size w wx /\ wx.heap[nb]? = some (.cells #[.int .i64 y1, .int .i64 y2] 117 (0, 0)))
     case first =>
       go_region_law (first
         | (refine step_app1 rfl _ _ _ rfl rowU8 rfl (World.ownsRow.drew (HOW1.out.alloc _)) ⟨U.heap.size, 0, none⟩ 1 1 [.int .u8 32] rfl rfl (cells1 (by simp [go_sem])) (by simp [Value.oneCell']) (by decide) (by omega) (by unfold maxLen; omega) (by simp; omega) ?_; intro g3 cap3 w3 hown3 hg3; have hx3 := (hg3.block nb (by simp; omega) (fun e => HNB.out nb e.symm rfl)).trans ((Below.heap_alloc U (.cells #[.int .u8 32] 5) nb gl).trans HX.out); have k0 : w3.cell? ⟨nb, 0, none⟩ = some (.int .i64 y1) := by { simp [World.cell?, hx3] }; have kl := (Array.getElem?_eq_some_iff.1 hx3).1)
         | (go_simp; go_at_call 176; refine (appInt_any w.heap.size (nn + 1) HOK1.out _ _ w3 hown3 (by have h := ((bdrew (n := 1) (HBW.out.alloc hU1 (.cells #[.int .u8 32] 5))).grown hg3 (by simp [World.drewN]; omega) (fun k hk => (HOW1.out.lt k hk).1)).size; omega) (by omega) (HT.out.on ((bdrew (n := 1) (HBW.out.alloc hU1 (.cells #[.int .u8 32] 5))).grown hg3 (by simp [World.drewN]; omega) (fun k hk => (HOW1.out.lt k hk).1)))).mono ?_; rintro e w4 ⟨v4, rfl, hown4, hB4, hk4⟩))
       all_goals
         go_wp2_with fail
         go_meet
       all_goals
         have hb3 := (bdrew (n := 1) (HBW.out.alloc hU1 (.cells #[.int .u8 32] 5))).grown hg3 (by simp [World.drewN]; omega) (fun k hk => (HOW1.out.lt k hk).1)
         exact ⟨by rw [byteCells_app, show (32 :: Lib.itoa y1) = [32] ++ Lib.itoa y1 from rfl, byteCells_app, <- List.append_assoc]; exact hown4, hb3.trans hB4, box_kept hk4 hx3⟩
     case rest =>
       obtain ⟨hown4, hb4, hx4⟩ := hcut
       have hnc : ∀ g, u5.ownBlock = some g -> g ≠ nb := fun g hg e => by
         rcases hown4.2 with ⟨h5, _⟩ | ⟨g2, cap, cur, h5, _, hgg, _⟩
         · rw [h5] at hg; cases hg
         · rw [h5] at hg
           simp only [Value.ownBlock, Option.some.injEq] at hg
           rw [hg, e, hx4] at hgg
           have := Option.some.inj hgg
           injection this with _ e2 _
           exact absurd e2 (by decide)
       obtain ⟨n1, hn1e⟩ : ∃ n1, n1 = nn + 1 + (Lib.itoa y1).length := ⟨_, rfl⟩
       rw [<- hn1e] at hown4
       have HN1 := hid hn1e
       have hn1l : n1 <= nn + 22 := by omega
       have HOC := hid hown4; have HNC := hid hnc; have HBC := hid hb4; have HXC := hid hx4
       have hC1 := hb4.size
       have glc := (Array.getElem?_eq_some_iff.1 hx4).1
       have HTS := hid (textB_snoc cl HY.out)
       have g1 : wc.cell? ⟨nb, 1, none⟩ = some (.int .i64 y2) := by simp [World.cell?, hx4]
       clear hown4 hnc hb4 hx4 hn1e HX HBW HOW1 HSZ HNB gl hU1
       go_wp2_with fail
       go_region_law (first
         | (refine step_app1 rfl _ _ _ rfl rowU8 rfl (World.ownsRow.drew (HOC.out.alloc _)) ⟨wc.heap.size, 0, none⟩ 1 1 [.int .u8 32] rfl rfl (cells1 (by simp [go_sem])) (by simp [Value.oneCell']) (by decide) (by omega) (by unfold maxLen; omega) (by simp; omega) ?_; intro g3 cap3 w3 hown3 hg3; have hx3 := (hg3.block nb (by simp; omega) (fun e => HNC.out nb e.symm rfl)).trans ((Below.heap_alloc wc (.cells #[.int .u8 32] 5) nb glc).trans HXC.out); have k0 : w3.cell? ⟨nb, 1, none⟩ = some (.int .i64 y2) := by { simp [World.cell?, hx3] }; have kl := (Array.getElem?_eq_some_iff.1 hx3).1)
         | (go_simp; go_at_call 176; refine (appInt_any w.heap.size (n1 + 1) HOK2.out _ _ w3 hown3 (by have h := ((bdrew (n := 1) (HBC.out.alloc hC1 (.cells #[.int .u8 32] 5))).grown hg3 (by simp [World.drewN]; omega) (fun k hk => (HOC.out.lt k hk).1)).size; omega) (by omega) (HT.out.on ((bdrew (n := 1) (HBC.out.alloc hC1 (.cells #[.int .u8 32] 5))).grown hg3 (by simp [World.drewN]; omega) (fun k hk => (HOC.out.lt k hk).1)))).mono ?_; rintro e w4 ⟨v5, rfl, hown5, hB5, hk5⟩))
       all_goals
         have hb5 := ((bdrew (n := 1) (HBC.out.alloc hC1 (.cells #[.int .u8 32] 5))).grown hg3 (by simp [World.drewN]; omega) (fun k hk => (HOC.out.lt k hk).1)).trans hB5
         have HO5 := hid hown5; have HB5 := hid hb5
         clear hown5 hb5 hB5 hk5 hown3 hg3 hx3 k0 kl HXC HOC HBC g1
         go_wp2_with fail
         go_roundw
         case rel => exact ⟨k + 1, n1 + 1 + (Lib.itoa y2).length, by go_num, by omega, by rw [HTS.out, HN1.out, HNN.out]; simp; omega, by have := HN1.out; omega, by rw [HTS.out]; refine HO5.out.congrL ?_; simp [Lib.byteCells], HB5.out⟩
         case measure => simp [intOf]; omega
   · obtain rfl : k = n := by omega
     have e0 : L.take k = L := List.take_of_length_le (by have := HN.out; omega)
     have hown := HOW.out
     rw [HNN.out, e0] at hown
     obtain ⟨l, hl⟩ : ∃ l, l = textB cl L := ⟨_, rfl⟩
     rw [<- hl] at hown
     have HLB := hid hl
     have hown0 := hid hown
     clear hl hown HOW
     rcases hown0.out.2 with ⟨hv0, hn0⟩ | ⟨g, cap, cur, rfl, _⟩
     · have h1 := textB_pos cl L
       rw [<- HLB.out] at h1
       omega
     · have hcv := run_convert_bytes_back (P := Tryz.prog) wr 211 9 5 ⟨g, 0, none⟩ cap l Tryz.underlying211 Tryz.underlying5 Tryz.underlying9 (fun j hj => hown0.out.cells (g := g) rfl j _ (by simp [Lib.byteCells, hj]))
       go_wp2_with fail
       go_ret
       rw [<- HLB.out]
       exact ⟨rfl, HB.out⟩
end Go.Proofs.YtebmlhaoeldhkaaGreatDoor
namespace Go.Proofs.YtebmlhaoeldhkaaGreatDoor
open Go.RowKit Pl
theorem rowIs_sl {w : World} {b n : Nat} {f : Nat -> Int} (h : w.rowIs b 3 n (fun i => .int .i64 (f i))) : SlAt encI 1 w (some ⟨b, 0, none⟩) b 0 (fl n f) where
 ad _ := rfl
 lt _ := h.lt
 cell := by
   intro i x hx j u hu
   have hi : i < n := by have := (List.getElem?_eq_some_iff.1 hx).1; rwa [fl_len] at this
   rw [fl_get f hi] at hx
   cases hx
   match j, hu with
   | 0, hu => simp [encI] at hu; subst hu; simpa using h.cell hi
theorem fl_getD {n i : Nat} {G : Nat -> Int} (hi : i < n) : (fl n G).getD i 0 = G i := by
 rw [List.getD_eq_getElem?_getD, fl_get G hi]; rfl
theorem rowAtK_all {n i : Nat} {G : Nat -> Int} (hi : i < n) : rowAtK (fl n G) n i = .int .i64 (clf n G i) := by
 unfold rowAtK clf
 rw [if_pos hi, fl_getD hi]
end Go.Proofs.YtebmlhaoeldhkaaGreatDoor
namespace Go.Proofs.YtebmlhaoeldhkaaGreatDoor
open Go.RowKit Pl
open Lib (hid)
theorem textB_len {cl : Int} (hcl : okIB cl) : ∀ L : List S, (∀ x ∈ L, okIB x.1 /\ okIB x.2) -> (textB cl L).length <= 30 + 50 * L.length
 | [], _ => by
   have h1 := Lib.itoa_length_le cl hcl.1 hcl.2
   unfold textB
   simp only [List.flatMap_nil, List.append_nil, List.length_nil]
   omega
 | x :: L, h => by
   have ih := textB_len hcl L (fun y hy => h y (List.mem_cons_of_mem _ hy))
   have h0 := h x (by simp)
   have h1 := Lib.itoa_length_le x.1 h0.1.1 h0.1.2
   have h2 := Lib.itoa_length_le x.2 h0.2.1 h0.2.2
   unfold textB at ih ⊢
   rw [List.length_append] at ih ⊢
   have e : (Pl.stepT x).length = (Lib.itoa x.1).length + (Lib.itoa x.2).length + 2 := by unfold Pl.stepT; simp; omega
   rw [List.flatMap_cons, List.length_append, List.length_cons, e]
   omega
theorem part_any {w : World} {gb : Nat} {t : Lts} {m : Nat} (hg : GraphAt w gb t) (hr : t.Right) (hn : t.st = (m : Int)) (hs : Srt ltE t.es) {D : List Nat} (hD : OrdL t m D) (hDl : D.length = m) (hall : ∀ k, k < m -> k ∈ D) (he : t.es.length <= 900)
   {oa : Option Addr} {ob oo oc : Nat} (hO : SlAt encI 1 w oa ob oo (D.map Int.ofNat)) (htab : Lib.TabIs Tryz.prog w "internal/strconv.uint64pow10" .u64 Lib.pow10Tab) :
   Calls Tryz.prog 46 #[.pointer (some ⟨gb, 0, none⟩), .slice oa m oc] w fun e w' => ∃ (cb : Nat) (C : Nat -> Int), e = .returned (.slice (some ⟨cb, 0, none⟩) m m) /\ SlAt encI 1 w' (some ⟨cb, 0, none⟩) cb 0 (fl m C) /\ Rounds t m C /\ Still t m C /\ (∀ p, p < m -> 0 <= C p /\ C p <= (m : Int)) /\ Below w.heap.size w w' := by
 have hm1 : m <= 1000 := by have := hr.st0; omega
 have hlb : t.lb <= 1000 := by have := hr.st0; omega
 have hmk := run_make_row' (P := Tryz.prog) 31 3 (.int .i64 0) 8 Tryz.underlying31 (by kernel_rfl) rfl .i64 .i64 m (by omega) (by omega)
 have hmm := @run_makeMap Tryz.prog
 have hgs := getStates_any hg
 rw [hn] at hgs
 have HG := hid hg; have HR := hid hr; have HN := hid hn; have HSR := hid hs; have HD := hid hD; have HDL := hid hDl; have HALL := hid hall; have HE := hid he; have HO := hid hO; have HGS := hid hgs; have HT := hid (Lib.tabBelow_of_tabIs htab)
 clear hg hr hn hs hD hDl hall he hO hgs htab
 go_enter Tryz.func46, Tryz.ntmps46
 go_wp2_with fail
 refine HGS.out.mono ?_
 rintro e w1 ⟨rfl, hB1⟩
 have hrw := World.rowIs_made w1 (.int .i64 0) m 3
 have hb1 := (hB1.alloc hB1.size (.cells (madeCells #[.int .i64 0] m) 3))
 have HRW := hid hrw; have HB1 := hid hb1
 have hTB : w.heap.size <= w1.heap.size := hB1.size
 clear hrw hb1 hB1 HGS
 go_wp2_with fail
 go_loopg [5, 6, 7, 8, 9, 10, 11, 12] (m + 1) (fun g v5 _ _ _ _ _ _ _ wr => ∃ (cb : Nat) (C : Nat -> Int), m + 1 <= g + (dist (fl m C)).length /\ v5 = .slice (some ⟨cb, 0, none⟩) m m /\ wr.rowIs cb 3 m (fun i => .int .i64 (C i)) /\ Rounds t m C /\ canon (fl m C) = fl m C /\ (∀ p, p < m -> 0 <= C p /\ C p <= (m : Int)) /\ Below w.heap.size w wr)
 case atStart => exact ⟨w1.heap.size, fun _ => 0, by omega, rfl, HRW.out, .zero, canon_zeroB m, fun p hp => by simp only; omega, HB1.out⟩
 case round =>
   obtain ⟨cb, C, hgk, rfl, hrow, hro, hca, hCr, hB⟩ := hrel
   obtain ⟨W, hW⟩ : ∃ W, W = wr := ⟨_, rfl⟩
   subst hW
   have HRO := hid hro; have HCA := hid hca; have HCR := hid hCr; have HB := hid hB; have HROW := hid hrow
   have hws := hB.size
   have hcl := hrow.lt
   clear hro hca hCr hB hrow HRW HB1
   have hq0 := Below.refl W.heap.size W
   have hq1 := hq0.alloc (Nat.le_refl _) (.map #[] 0)
   have hq2 := hq1.alloc (by simp) (.cells (madeCells #[.int .i64 0] m) 3)
   have hom := (OMap.made (enck := encTx) (ok := okTx) (encv := encNv) W).of_block (((Below.refl _ _).alloc (Nat.le_refl _) (.cells (madeCells #[.int .i64 0] m) 3)).block W.heap.size (by simp))
   have hnx := World.rowIs_made (W.alloc (.map #[] 0)) (.int .i64 0) m 3
   have HSG := hid (sig_any (cc := m) (oc := oc) (HG.out.below (HB.out.trans (hq2.mono hws))) HR.out HN.out HSR.out HD.out HDL.out HALL.out HE.out (C := C) ((rowIs_sl HROW.out).below hq2 (Nat.le_refl _)) (HO.out.below (HB.out.trans (hq2.mono hws)) (Nat.le_refl _)))
   have HQ2 := hid hq2; have HOM := hid hom; have HNX := hid hnx
   rw [show (W.alloc (.map #[] 0)).heap.size = W.heap.size + 1 by simp] at HNX
   clear hq0 hq1 hq2 hom hnx
   go_wp2_with fail
   refine HSG.out.mono ?_
   rintro e w2 ⟨tb, base, F, rfl, hrows, htb, hbase, hB2, hF⟩
   have HRWS := hid hrows
   have HFS := hid hF
   have hsz2 : (((W.alloc (.map #[] 0)).alloc (.cells (madeCells #[.int .i64 0] m) 3))).heap.size = W.heap.size + 2 := by simp
   have hw2 := hB2.size
   rw [hsz2] at htb hw2
   have hbw2 := HQ2.out.trans (hB2.mono (by rw [hsz2]; omega))
   have hom2 := HOM.out.of_block (hB2.block W.heap.size (by rw [hsz2]; omega))
   have hnx2 := HNX.out.of_block (hB2.block (W.heap.size + 1) (by rw [hsz2]; omega))
   obtain ⟨G, hG⟩ : ∃ G, G = cdG m C F := ⟨_, rfl⟩
   obtain ⟨T, hT⟩ : ∃ T, T = txtL m C F := ⟨_, rfl⟩
   obtain ⟨L, hL⟩ : ∃ L, L = fl m G := ⟨_, rfl⟩
   have HLL : Hid (L.length = m) := hid (by rw [hL, fl_len])
   have HGT : Hid (∀ p, p < m -> textB (C p) (F p) ∈ T /\ codeT T (textB (C p) (F p)) = G p) := hid (fun p hp => by rw [hT, hG]; exact ⟨txtL_mem hp, rfl⟩)
   have HLG : Hid (∀ p, p < m -> L[p]? = some (G p)) := hid (fun p hp => by rw [hL]; exact fl_get G hp)
   have HNB : Hid (NextB t m C (clf m G)) := hid (next_text (fun p hp => hF p hp) (fun p q hp hq => by rw [hG]; exact cdG_eq hp hq))
   have HLE := hid hL
   have HOM2 : Hid (OMap w2 W.heap.size encTx okTx encNv (numT T (dist (L.take 0))) (dist (L.take 0)).length) := hid (by
     have h := hom2.congr (g := numT T []) (fun z => (numT_nil T z).symm)
     simpa [dist] using h)
   have HNX2 : Hid (w2.rowIs (W.heap.size + 1) 3 m (rowAtK L 0)) := hid (hnx2.congr (fun i _ => by unfold rowAtK; simp))
   have HBW2 := hid hbw2
   obtain ⟨ab, hab⟩ : ∃ ab, ab = W.heap.size := ⟨_, rfl⟩
   obtain ⟨nb, hnb⟩ : ∃ nb, nb = W.heap.size + 1 := ⟨_, rfl⟩
   have hablo : W.heap.size <= ab := by omega
   have hnblo : W.heap.size <= nb := by omega
   have hant : ab < tb := by omega
   have hnnt : nb < tb := by omega
   have hanb : ab ≠ nb := by omega
   rw [<- hab] at HOM2; rw [<- hnb] at HNX2
   have htbb := hrows.lt
   have HCW : Hid (SlAt encI 1 W (some ⟨cb, 0, none⟩) cb 0 (fl m C)) := hid (rowIs_sl HROW.out)
   have HTW := hid (HT.out.on HB.out)
   have HCO : Hid (∀ p, p < m -> okIB (C p)) := hid (fun p hp => by have := HCR.out p hp; unfold okIB; omega)
   have HFO : Hid (∀ p, p < m -> (F p).length <= 900 /\ ∀ x ∈ F p, okIB x.1 /\ okIB x.2) := hid (fun p hp => by
     refine ⟨Nat.le_trans (hF p hp).len HE.out, fun x hx => ?_⟩
     obtain ⟨h1, h2, q, hq, h3⟩ := (hF p hp).rng HR.out HN.out hx
     have h4 := HCO.out q hq
     rw [<- h3] at h4
     exact ⟨by unfold okIB; omega, h4⟩)
   rw [hsz2] at *
   have HABE := hid hab; have HNBE := hid hnb
   clear hab hnb hrows hF hsz2 hw2 hbw2 hom2 hnx2 hG hT hL hB2 HOM HNX HQ2 HSG
   go_wp2_with fail
   rw [<- HNBE.out, <- HABE.out]
   clear HNBE HABE
   go_loopw [8, 9, 10, 11, 12, 25] (fun _ _ _ _ _ v25 wx => ∃ i : Nat, v25 = .int .i64 i /\ i <= m /\ OMap wx ab encTx okTx encNv (numT T (dist (L.take i))) (dist (L.take i)).length /\ wx.rowIs nb 3 m (rowAtK L i) /\ OwnRows encS 2 117 78 wx base tb m F /\ Below W.heap.size W wx) (fun _ _ _ _ _ v25 _ => m - (intOf v25).toNat)
   case atStart => exact ⟨0, rfl, Nat.zero_le _, HOM2.out, HNX2.out, HRWS.out, HBW2.out⟩
   case round =>
     obtain ⟨i, rfl, hi, hom, hnx, hrw, hBx⟩ := hrel
     have HOM := hid hom; have HNX := hid hnx; have HRX := hid hrw; have HBX := hid hBx
     have hwx := hBx.size
     have hml := hom.lt
     have hnl := hnx.lt
     have htl := hrw.size
     clear hom hnx hrw hBx HOM2 HNX2 HRWS HBW2
     by_cases him : i < m
     · obtain ⟨v, hv, hvf, hvo⟩ := HRX.out.at him
       obtain ⟨va, vc, vb, rfl, _, _, hsl, _⟩ := slAt_own lenS hvo
       have hcs := (HCW.out.below HBX.out (Nat.le_refl _)).ci (fl_get C him)
       simp only [Nat.zero_add] at hcs
       have hcb : cb < wr.heap.size := by omega
       have hfo := HFO.out i him
       have htx := text_any (c := vc) (HCO.out i him) hsl rfl (by omega) hfo.2 (HTW.out _ (HBX.out.mono hws))
       have htl2 := textB_len (HCO.out i him) (F i) hfo.2
       have hgt := HGT.out i him
       have hlg := HLG.out i him
       obtain ⟨y, hy⟩ : ∃ y, y = textB (C i) (F i) := ⟨_, rfl⟩
       obtain ⟨x, hx⟩ : ∃ x, x = G i := ⟨_, rfl⟩
       rw [<- hy] at htx hgt htl2
       rw [<- hx] at hgt hlg
       have HOKT : Hid (okTx y) := hid (by unfold okTx; omega)
       have HTX := hid htx; have HLG2 := hid hlg; have HYT := hid hgt.1; have HYC := hid hgt.2
       obtain ⟨fi, hfi⟩ : ∃ fi, fi = (F i).length := ⟨_, rfl⟩
       rw [<- hfi] at hv HTX
       obtain ⟨ci, hci⟩ : ∃ ci, ci = C i := ⟨_, rfl⟩
       rw [<- hci] at hcs HTX
       have hnf := HNX.out.frozen i
       have hnc := HNX.out.cell him
       have hiI : (i : Int) < (m : Int) := by omega
       clear hvf hvo hsl hfo htx htl2 hgt hlg hy hx hfi hci
       go_wp2_with fail
       refine HTX.out.mono ?_
       rintro e w5 ⟨rfl, hB5⟩
       have HOM5 := hid (HOM.out.of_block (hB5.block _ hml)); have HNX5 := hid (HNX.out.of_block (hB5.block _ hnl)); have HRX5 := hid (HRX.out.call hB5); have HBX5 := hid (HBX.out.trans (hB5.mono hwx))
       have hw5 := HBX5.out.size
       have hnl5 := HNX5.out.lt
       have hnf := HNX5.out.frozen i
       have hnc := HNX5.out.cell him
       clear hB5 HOM HNX HRX HBX HTX hv hcs
       by_cases hin : x ∈ dist (L.take i)
       · have HNF : Hid (numT T (dist (L.take i)) y = some ((dist (L.take i)).idxOf x : Int)) := hid (by unfold numT; rw [if_pos ⟨HYT.out, by rw [HYC.out]; exact hin⟩, HYC.out])
         have hd : dist (L.take (i + 1)) = dist (L.take i) := by rw [take_snoc HLG2.out, dist_snoc]; unfold addN; rw [if_pos hin]
         have hrw := (HNX5.out.set i (.int .i64 ((dist (L.take (i + 1))).idxOf x : Int))).congr (fun j _ => rowAtK_step HLG2.out j)
         rw [hd] at hrw
         have HD2 := hid hd; have HRW2 := hid hrw
         obtain ⟨z, hz⟩ : ∃ z : Nat, z = (dist (L.take i)).idxOf x := ⟨_, rfl⟩
         rw [<- hz] at HNF HRW2
         clear hin hd hrw hz
         go_wp2_with (at_lookup; refine wpList_olook_ok rfl _ _ 148 rfl encTxt Tryz.underlying148 (zeroNum _) rfl HOM5.out y HOKT.out rfl ?_; rw [HNF.out]; simp only [Option.map_some, Option.getD_some, Option.isSome_some, encNv])
         go_roundw
         case rel => exact ⟨i + 1, by go_num, by omega, by rw [HD2.out]; exact HOM5.out.of_block (Below.heap_setCell _ _ _ _ hanb), HRW2.out, HRX5.out.setOther (by show nb ≠ tb; omega) (by show nb < base; omega) _, HBX5.out.setCell hnblo _⟩
         case measure => simp [intOf]; omega
       · have HNF : Hid (numT T (dist (L.take i)) y = none) := hid (by unfold numT; rw [if_neg]; rintro ⟨_, h⟩; rw [HYC.out] at h; exact hin h)
         have hd : dist (L.take (i + 1)) = dist (L.take i) ++ [x] := by rw [take_snoc HLG2.out, dist_snoc]; unfold addN; rw [if_neg hin]
         have hix : (dist (L.take (i + 1))).idxOf x = (dist (L.take i)).length := by rw [hd, List.idxOf_append]; simp [hin]
         have HIX := hid hix
         have HPU : Hid (∀ z, (if z = y then some ((dist (L.take i)).length : Int) else numT T (dist (L.take i)) z) = numT T (dist (L.take (i + 1))) z) := hid (fun z => by
           rw [hd, <- HYC.out]
           exact numT_push HYT.out (by rw [HYC.out]; exact hin) z)
         have HDL2 : Hid ((dist (L.take (i + 1))).length = (dist (L.take i)).length + 1) := hid (by rw [hd]; simp)
         obtain ⟨dn, hdn⟩ : ∃ dn, dn = (dist (L.take i)).length := ⟨_, rfl⟩
         have hom5 := HOM5.out
         rw [<- hdn] at hom5 HIX HPU HDL2
         have HOM6 := hid hom5
         have hdl : dn <= 1000 := by rw [hdn]; have := dist_len (L.take i); rw [List.length_take] at this; omega
         have hln := HOM6.out.len Tryz.underlying148 3
         clear hin hd hix hdn hom5 HOM5
         go_wp2_with (first
           | (at_lookup; refine wpList_olook_ok rfl _ _ 148 rfl encTxt Tryz.underlying148 (zeroNum _) rfl HOM6.out y HOKT.out rfl ?_; rw [HNF.out]; simp only [Option.map_none, Option.getD_none, Option.isSome_none])
           | (at_mapUpdate; refine wpList_oput rfl _ _ _ 148 rfl encTxt Tryz.underlying148 rfl HOM6.out y HOKT.out rfl (dn : Int) rfl ?_; rw [HNF.out]; intro w6 hom6 hg6 hf6 hs6; have hnf6 := (hf6 ⟨nb, i, none⟩).trans hnf; have hnx6 := HNX5.out.of_block (hg6.block nb hnl5 (fun e => hanb (Option.some.inj e).symm)); have hnc6 := hnx6.cell him; have hnl6 := hnx6.lt; have hrw6 := HRX5.out.kept (fun b hb hbl => hg6.block b hbl (fun e => by have := Option.some.inj e; omega)); have hbx6 := HBX5.out.grown hg6 hw5 (fun k hk => by have := Option.some.inj hk; omega); have HX6 := hid hnx6; have HR6 := hid hrw6; have HB6 := hid hbx6; have HO6 := hid hom6; clear hnx6 hrw6 hbx6 hom6 hg6 hf6 hs6 hnf hnc HNX5 HRX5 HBX5))
         go_roundw
         case rel => exact ⟨i + 1, by go_num, by omega, by rw [HDL2.out]; exact (HO6.out.congr HPU.out).of_block (Below.heap_setCell _ _ _ _ hanb), (HX6.out.set i (.int .i64 (dn : Int))).congr (fun j _ => by have h := rowAtK_step HLG2.out j; rw [HIX.out] at h; exact h), HR6.out.setOther (by show nb ≠ tb; omega) (by show nb < base; omega) _, HB6.out.setCell hnblo _⟩
         case measure => simp [intOf]; omega
     · obtain rfl : m = i := by omega
       have hnx2 : wr.rowIs nb 3 m (fun j => .int .i64 (clf m G j)) := HNX.out.congr (fun j hj => by rw [HLE.out]; exact rowAtK_all hj)
       have hsl := rowIs_sl hnx2
       have hcs := HCW.out.below HBX.out (Nat.le_refl _)
       have heq := slicesEqual_any (c1 := m) (c2 := m) hsl hcs (by rw [fl_len]; omega) (by rw [fl_len]; omega)
       rw [fl_len, fl_len] at heq
       have HEQ := hid heq; have HNX2 := hid hnx2; have HCS := hid hcs
       have hbz := HB.out.trans (HBX.out.mono hws)
       have HBZ := hid hbz
       have hcn : canon (fl m (clf m G)) = fl m (clf m G) := by rw [<- canon_fl, canon_canon]
       have HCN := hid hcn
       clear hnx2 hsl hcs heq hbz hcn HOM HNX HRX
       by_cases he : fl m (clf m G) = fl m C
       · have hde : decide (fl m (clf m G) = fl m C) = true := by simp [he]
         rw [hde] at HEQ
         have HEE := hid he
         clear hde he
         go_wp2_with fail
         refine HEQ.out.mono ?_
         rintro e w7 ⟨rfl, q7, rfl⟩
         go_wp2_with fail
         go_ret
         exact ⟨cb, C, rfl, HCS.out.below (bdrew (Below.refl wr.heap.size wr)) (Nat.le_refl _), HRO.out, still_done HNB.out HEE.out, HCR.out, bdrew HBZ.out⟩
       · have hde : decide (fl m (clf m G) = fl m C) = false := by simp [he]
         rw [hde] at HEQ
         have hmore := next_more HNB.out HCA.out HCN.out he
         have hle : (dist (fl m (clf m G))).length <= m := by have := dist_len (fl m (clf m G)); rw [fl_len] at this; exact this
         clear hde he
         go_wp2_with fail
         refine HEQ.out.mono ?_
         rintro e w7 ⟨rfl, q7, rfl⟩
         go_wp2_with fail
         go_roundg (gk - 1)
         case rel => exact ⟨nb, clf m G, by omega, rfl, HNX2.out, .step HRO.out HNB.out, HCN.out, fun p hp => by have h1 := clf_rng (f := G) hp; have h2 := dist_len (fl m G); rw [fl_len] at h2; omega, bdrew HBZ.out⟩
         case measure => omega
end Go.Proofs.YtebmlhaoeldhkaaGreatDoor

/-
  Lemmas.
-/
import Derived.Test.YtgikimbafakmcaaGreatDoorGLaidQun
import Derived.Test.YtgikimbafakmcaaGreatDoorGParA
import Derived.Deep.RegionHeld3
import Derived.Deep.Cut
import Derived.Deep.CutRange
import Derived.Test.YtgikimbafakmcaaGreatDoorGFault
import Derived.Outline
open List renaming getElem_toArray -> qga, getElem_cons_zero -> qgz, getElem_cons_succ -> qgs, setIfInBounds_toArray -> qgt, set_cons_zero -> qgx, set_cons_succ -> qgy
set_option maxHeartbeats 2000000
set_option maxRecDepth 100000
namespace Go.Proofs.YtgikimbafakmcaaGreatDoor
open Go.RowKit Pl
open Lib (hid)
def MarkPost (w0 : World) (K : PK) (n : Nat) (inn pl : Nat -> Nat) (bl : List B3) (rest : List Rw) (e : Nat) (r : Ending) (w' : World) : Prop :=
  ∃ (m : Bool) (el' pl' : Nat -> Nat) (bl' : List B3), r = .returned (.tuple #[.bool m, .nilIface]) /\ PW w0 w' K n el' pl' inn bl' rest /\ bl'.length = bl.length /\ ∀ z, z < n -> (Mkd pl' inn bl' z ↔ Mkd pl inn bl z ∨ z = e)
section
variable {w0 w : World} {K : PK} {n : Nat} {el pl inn : Nat -> Nat} {bl : List B3} {rest : List Rw}
theorem mark_any (h : PW w0 w K n el pl inn bl rest) {e : Nat} (he : e < n) :
    Calls Tryz.prog 157 #[.pointer (some ⟨K.pb, 0, none⟩), .int .i64 e] w (MarkPost w0 K n inn pl bl rest e) := by
 have H := hid h
 obtain ⟨c0, c1, c2, c3⟩ := h.rws.pCells
 obtain ⟨l0, l1, l2, l3, l4⟩ := h.rws.pLts
 obtain ⟨x, hx, hp1, hp2⟩ := h.pi.hin e he
 obtain ⟨b1, b2, b3⟩ := h.pi.blk _ x hx
 have d1 := h.rws.pPl he; have d2 := h.rws.pIn he
 obtain ⟨g0, g1, g2⟩ := h.rws.pBl hx
 have hin := h.pi.lt he
 have hpn := (h.pi.hpl e he).1
 have hpe := (h.pi.hpl e he).2
 have hn := h.n1
 have hmk := h.pi.mark he hx
 have hif := mkd_iff (pl := pl) hx
 have HX := hid hx; have HMK := hid hmk; have HIF := hid hif; have HPE := hid hpe
 obtain ⟨i, hi⟩ : ∃ i, i = inn e := ⟨_, rfl⟩
 obtain ⟨p, hp⟩ : ∃ p, p = pl e := ⟨_, rfl⟩
 obtain ⟨m, hm⟩ : ∃ m, m = bl.length := ⟨_, rfl⟩
 rw [<- hi] at hin d2 g0 g1 g2; rw [<- hp] at d1 hp1 hp2 hpn; rw [<- hm] at c3 hin
 have HI := hid hi; have HP := hid hp
 have heI : (e : Int) < (n : Int) := by omega
 have hiI : (i : Int) < (m : Int) := by omega
 have hS := hid (parSize_any h.rws)
 have hA := hid (asked_ok w K.pb e n he)
 obtain ⟨x1, x2, x3⟩ := x
 simp only at g0 g1 g2 hp1 hp2 b1 b2 b3
 clear h hx hmk hif hpe hi hp hm
 by_cases hlt : p < x1 + x3
 · have hb : decide ((p : Int) < (x1 : Int) + (x3 : Int)) = true := by simp; omega
   go_enter Tryz.func157, Tryz.ntmps157
   go_wp2_with fail
   refine hS.out.mono ?_
   rintro e w1 ⟨rfl, rfl⟩
   go_wp2_with fail
   refine hA.out.mono ?_
   rintro e w1 ⟨rfl, rfl⟩
   go_wp2_with fail
   go_quiet (fail)
   go_wp2_with fail
   go_quiet (fail)
   go_wp2_with fail
   go_ret2
   refine ⟨false, el, pl, bl, rfl, ⟨(H.out.rws.drewN _).drewN _, H.out.pi, H.out.n1⟩, rfl, fun z hz => ⟨fun h => .inl h, ?_⟩⟩
   rintro (h | rfl)
   · exact h
   · exact HIF.out.2 (by rw [<- HP.out]; exact hlt)
 · have hb : decide ((p : Int) < (x1 : Int) + (x3 : Int)) = false := by simp; omega
   obtain ⟨hpi, hmk⟩ := HMK.out (by rw [<- HP.out]; simp only; omega)
   rw [<- HP.out, <- HI.out] at hpi
   rw [<- HP.out, <- HI.out] at hmk
   simp only at hpi hmk
   have HPI := hid hpi; have HMK2 := hid hmk
   clear hpi hmk HMK
   go_enter Tryz.func157, Tryz.ntmps157
   go_wp2_with fail
   refine hS.out.mono ?_
   rintro e w1 ⟨rfl, rfl⟩
   go_wp2_with fail
   refine hA.out.mono ?_
   rintro e w1 ⟨rfl, rfl⟩
   go_wp2_with fail
   go_quiet (fail)
   obtain ⟨v1, hv1⟩ : ∃ v1, v1 = w.drewN nq := ⟨_, rfl⟩
   have HV1 := hid (H.out.rws.drewN nq)
   rw [<- hv1] at HV1 ⊢
   clear hv1 c0 c1 c2 c3 d1 d2 g0 g1 g2 l0 l1 l2 l3 l4 hS hA
   have hbi : bl[i]? = some (x1, x2, x3) := by rw [HI.out]; exact HX.out
   obtain ⟨c0, c1, c2, c3⟩ := HV1.out.pCells
   obtain ⟨l0, l1, l2, l3, l4⟩ := HV1.out.pLts
   have d1 := HV1.out.pPl he
   obtain ⟨g0, g1, g2⟩ := HV1.out.pBl hbi
   rw [<- HP.out] at d1
   simp only at g0 g1 g2
   have HBI := hid hbi
   clear hbi
   go_wp2_with fail
   go_quiet (fail)
   obtain ⟨v2, hv2⟩ : ∃ v2, v2 = v1.drewN nq := ⟨_, rfl⟩
   have HV2 := hid (HV1.out.drewN nq)
   rw [<- hv2] at HV2 ⊢
   clear hv2 c0 c1 c2 c3 d1 g0 g1 g2 l0 l1 l2 l3 l4
   have HV3 := hid HV2.out.drew
   obtain ⟨c0, c1, c2, c3⟩ := HV2.out.pCells
   obtain ⟨l0, l1, l2, l3, l4⟩ := HV2.out.pLts
   have d1 := HV2.out.pPl he
   obtain ⟨g0, g1, g2⟩ := HV2.out.pBl HBI.out
   rw [<- HP.out] at d1
   simp only at g0 g1 g2
   go_upto_region 7 with fail
   clear hb
   go_cut [] from 45 to 62 (fun wx => Rws w0 wx (PR K n (swE el p (x1 + x3)) (swP el pl p (x1 + x3)) inn bl ++ rest))
   case first =>
     have hk1 : x1 + x3 < n := by omega
     have hep : el p < n := by have := HPE.out; rw [<- HP.out] at this; omega
     have hek : el (x1 + x3) < n := (H.out.pi.hel _ hk1).1
     have HCAST : Hid (IntKind.i64.wrap ((x1 : Int) + (x3 : Int)) = ((x1 + x3 : Nat) : Int)) := hid (by rw [IntWalk.i64_in _ (by omega)]; omega)
     have KEEP : Hid (∀ W, Rws w0 W (PR K n (swE el p (x1 + x3)) (swP el pl p (x1 + x3)) inn bl ++ rest) ->
         W.cell? ⟨K.pb, 1, none⟩ = some (.slice (some ⟨K.qb, 0, none⟩) n K.cq) /\ W.cell? ⟨K.bb, i * 3, none⟩ = some (.int .i64 x1) /\ W.cell? ⟨K.bb, i * 3 + 2, none⟩ = some (.int .i64 x3)) :=
       hid (fun W hW => ⟨hW.pCells.2.1, (hW.pBl HBI.out).1, (hW.pBl HBI.out).2.2⟩)
     refine wp_region_held_drew (S := (fun W => W.cell? ⟨K.pb, 1, none⟩ = some (.slice (some ⟨K.qb, 0, none⟩) n K.cq) /\ W.cell? ⟨K.bb, i * 3, none⟩ = some (.int .i64 x1) /\ W.cell? ⟨K.bb, i * 3 + 2, none⟩ = some (.int .i64 x3))) (by kernel_rfl) (by (try dsimp only); go_keep) (fun hHeld => ?_)
     refine qT 0 (v := ?_) ?_ ?_
     rotate_left
     · intro w hSw; (try dsimp only at hSw); go_simp; try with_reducible rfl
     try simp only [qga, qgz, Act.put, qgt, qgx, qgy]
     refine qT 1 (v := ?_) ?_ ?_
     rotate_left
     · intro w hSw; (try dsimp only at hSw); go_simp; try with_reducible rfl
     try simp only [qga, qgz, qgs, Act.put, qgt, qgx, qgy]
     refine qT 2 (v := ?_) ?_ ?_
     rotate_left
     · intro w hSw; (try dsimp only at hSw); go_simp; try with_reducible rfl
     try simp only [qga, qgz, qgs, Act.put, qgt, qgx, qgy]
     refine qT 3 (v := ?_) ?_ ?_
     rotate_left
     · intro w hSw; (try dsimp only at hSw); go_simp; try with_reducible rfl
     try simp only [qga, qgz, qgs, Act.put, qgt, qgx, qgy]
     refine qT 4 (v := ?_) ?_ ?_
     rotate_left
     · intro w hSw; (try dsimp only at hSw); go_simp; try with_reducible rfl
     try simp only [qga, qgz, qgs, Act.put, qgt, qgx, qgy]
     refine qT 5 (v := ?_) ?_ ?_
     rotate_left
     · intro w hSw; (try dsimp only at hSw); go_simp; try with_reducible rfl
     try simp only [qga, qgz, qgs, Act.put, qgt, qgx, qgy]
     refine qT 6 (v := ?_) ?_ ?_
     rotate_left
     · intro w hSw; (try dsimp only at hSw); go_simp; try with_reducible rfl
     try simp only [qga, qgz, qgs, Act.put, qgt, qgx, qgy]
     refine qT 8 (v := ?_) ?_ ?_
     rotate_left
     · intro w hSw; (try dsimp only at hSw); go_simp; try with_reducible rfl
     try simp only [qga, qgz, qgs, Act.put, qgt, qgx, qgy]
     refine qT 9 (v := ?_) ?_ ?_
     rotate_left
     · intro w hSw; (try dsimp only at hSw); go_simp; try with_reducible rfl
     try simp only [qga, qgz, qgs, Act.put, qgt, qgx, qgy]
     refine qT 10 (v := ?_) ?_ ?_
     rotate_left
     · intro w hSw; (try dsimp only at hSw); go_simp; try with_reducible rfl
     try simp only [qga, qgz, qgs, Act.put, qgt, qgx, qgy]
     refine qT 11 (v := ?_) ?_ ?_
     rotate_left
     · intro w hSw; (try dsimp only at hSw); go_simp; try with_reducible rfl
     try simp only [qga, qgz, qgs, Act.put, qgt, qgx, qgy]
     refine qT 12 (v := ?_) ?_ ?_
     rotate_left
     · intro w hSw; (try dsimp only at hSw); go_simp; try with_reducible rfl
     try simp only [qga, qgz, qgs, Act.put, qgt, qgx, qgy]
     refine qT 13 (v := ?_) ?_ ?_
     rotate_left
     · intro w hSw; (try dsimp only at hSw); go_simp; try with_reducible rfl
     try simp only [qga, qgz, qgs, Act.put, qgt, qgx, qgy]
     refine qT 14 (v := ?_) ?_ ?_
     rotate_left
     · intro w hSw; (try dsimp only at hSw); go_simp; try with_reducible rfl
     try simp only [qga, qgz, qgs, Act.put, qgt, qgx, qgy]
     refine qT 15 (v := ?_) ?_ ?_
     rotate_left
     · intro w hSw; (try dsimp only at hSw); go_simp; try with_reducible rfl
     try simp only [qga, qgz, qgs, Act.put, qgt, qgx, qgy]
     refine qT 16 (v := ?_) ?_ ?_
     rotate_left
     · intro w hSw; (try dsimp only at hSw); go_simp; try with_reducible rfl
     try simp only [qga, qgz, qgs, Act.put, qgt, qgx, qgy]
     refine wpAnyH_ready (rs := [7]) (by kernel_rfl) (by simp) ?_
     refine AllReadyH.cons rfl (fun K hK => ?_) AllReadyH.nil
     go_simp
     refine hK.out _ _ (by (try dsimp only); go_keep) (fun hHeld => ?_)
     clear hK K
     try simp only [qga, qgz, qgs, Act.put, qgt, qgx, qgy]
     refine wpAnyH_ready (rs := [17]) (by kernel_rfl) (by simp) ?_
     refine AllReadyH.cons rfl (fun K hK => ?_) AllReadyH.nil
     go_simp
     go_at_call 172
     rw [HCAST.out]
     refine (swap_any HV3.out hpn hk1 hep hek).mono ?_
     rintro e w' ⟨rfl, hrw⟩
     refine hK.out _ _ (by (try dsimp only); exact KEEP.out _ hrw) (fun hHeld => ?_)
     clear hK K
     try simp only [qga, qgz, qgs, Act.put, qgt, qgx, qgy]
     refine wpAnyH_done (by kernel_rfl) ?_ _
     go_wp2_with fail
     go_meet
     exact hrw
   case rest =>
     have HC := hid hcut
     obtain ⟨a0, a1, a2⟩ := hcut.pBl HBI.out
     simp only at a0 a1 a2
     have al := hcut.pLts.2.2.2.2
     have af := (hcut.pFz (i * 3 + 2)).2.2.2.2
     clear hcut c0 c1 c2 c3 d1 g0 g1 g2 l0 l1 l2 l3 l4
     go_wp2_with fail
     go_ret2
     have h2 := HC.out.pSetBl (y := (x1, x2, x3 + 1)) HBI.out 2 (.int .i64 ((x3 + 1 : Nat) : Int)) (by decide) rfl
     refine ⟨true, _, _, _, rfl, ⟨h2, HPI.out, H.out.n1⟩, by simp, HMK2.out⟩
end
end Go.Proofs.YtgikimbafakmcaaGreatDoor
namespace Go.Proofs.YtgikimbafakmcaaGreatDoor
open Go.RowKit Pl
open Lib (hid)
theorem cmpt_snoc {α : Type} [DecidableEq α] : ∀ (l : List α) (x y : α), cmpt (l ++ [x, y]) = cmpt (l ++ [x]) ++ (if x = y then [] else [y])
  | [], x, y => by
    by_cases h : x = y <;> simp [cmpt, h]
  | [a], x, y => by
    by_cases h : x = y <;> by_cases h' : a = x <;> simp [cmpt, h, h'] <;> (try subst h) <;> simp_all
  | a :: b :: l, x, y => by
    have ih := cmpt_snoc (b :: l) x y
    simp only [List.cons_append] at ih ⊢
    unfold cmpt
    split
    · exact ih
    · rw [ih]; simp
theorem cmpt_take {α : Type} [DecidableEq α] {xs : List α} {p : Nat} {x y : α} (hx : xs[p]? = some x) (hy : xs[p + 1]? = some y) : cmpt (xs.take (p + 2)) = cmpt (xs.take (p + 1)) ++ (if x = y then [] else [y]) := by
 rw [take_snoc hy, take_snoc hx, List.append_assoc]
 exact cmpt_snoc _ _ _
theorem zeroCells_one (z : Array Value) (n : Nat) (h : ∀ v ∈ z.toList, v.oneCell' = true) : ∀ v ∈ (Builtin.zeroCells z n).toList, v.oneCell' = true := by
 intro v hv
 unfold Builtin.zeroCells at hv
 rw [Array.toList_map] at hv
 obtain ⟨i, hi, rfl⟩ := List.mem_map.1 hv
 simp at hi
 have hz : 0 < z.size := by (
 rcases Nat.eq_zero_or_pos z.size with h0 | h0
 · simp [h0] at hi
 · exact h0)
 have hm : i % z.size < z.size := Nat.mod_lt _ hz
 simp only [getElem!_pos z (i % z.size) hm]
 exact h _ (by simp)
theorem clearE {w : World} {base g n cap : Nat} {ys : List E} (h : w.ownsRow base 57 3 (.slice (some ⟨g, 0, none⟩) n cap) ys.length (ys.flatMap encE)) (hn : n = ys.length) (kk c : Nat) (hk : kk < n) :
    ∃ w1, (∀ ty, (Builtin.clear_ #[22] ty #[.slice (some ⟨g, kk * 3, none⟩) (n - kk) c]).run Tryz.prog w = .ok (.tuple #[]) w1) /\
      w1.ownsRow base 57 3 (.slice (some ⟨g, 0, none⟩) kk cap) kk ((ys.take kk).flatMap encE) /\ ∀ {w0 : World}, Below base w0 w -> Below base w0 w1 := by
 subst hn
 rcases h.2 with ⟨h', _⟩ | ⟨g', cap', cur, h', hb, hg, hnc, hcm, hcs, htake⟩
 · simp at h'
 · (
 simp only [Value.slice.injEq, Option.some.injEq, Addr.mk.injEq, and_true, true_and] at h'
 obtain ⟨rfl, rfl⟩ := h'
 obtain ⟨m, hm⟩ : ∃ m, ys.length - kk = m + 1 := ⟨ys.length - kk - 1, by omega⟩
 rw [hm]
 obtain ⟨zs, hzs⟩ : ∃ zs, zs = (Builtin.zeroCells #[.int .i64 0, .int .i64 0, .int .i64 0] (m + 1)).toList := ⟨_, rfl⟩
 have hz : zs.length = (m + 1) * 3 := by rw [hzs, Array.length_toList, size_zeroCells]; rfl
 have hst := run_storeCells_at Tryz.prog g (kk * 3) 57 zs 0 cur w hg (by rw [hz]; omega) (by rw [hzs]; exact zeroCells_one _ _ (by simp [Value.oneCell']))
 simp only [Nat.add_zero] at hst
 obtain ⟨F, hF⟩ : ∃ F, F = (cur.toList.take (kk * 3) ++ zs ++ cur.toList.drop (kk * 3 + zs.length)).toArray := ⟨_, rfl⟩
 rw [<- hF] at hst
 refine ⟨w.setRow g F, fun ty => ?_, ⟨?_, .inr ⟨g, cap, F, rfl, hb, setRow_heap w g cur _ _ _ hg, by omega, hcm, ?_, ?_⟩⟩, fun {w0} hB => ?_⟩
 · rw [hzs] at hst
   simp only [Builtin.clear_]
   simp [run_underlying Tryz.underlying22, Value.cells, hst]
 · rw [length_flatMap lenE, List.length_take, Nat.min_eq_left (by omega)]
 · rw [hF]
   simp only [List.size_toArray, List.length_append, List.length_take, List.length_drop, Array.length_toList, hz, hcs]
   omega
 · (
 rw [hF, List.append_assoc, List.take_append_of_le_length (by simp; omega), List.take_take, Nat.min_self]
 have : (cur.toList.take (ys.length * 3)).take (kk * 3) = ((ys.flatMap encE)).take (kk * 3) := by rw [htake]
 rw [List.take_take, Nat.min_eq_left (by omega)] at this
 rw [this]
 have h2 := List.take_append_drop kk ys
 have h3 : ys.flatMap encE = (ys.take kk).flatMap encE ++ (ys.drop kk).flatMap encE := by rw [<- List.flatMap_append, h2]
 rw [h3, List.take_append_of_le_length (by rw [length_flatMap lenE]; simp; omega), List.take_of_length_le (by rw [length_flatMap lenE]; simp; omega)])
 · exact hB.trans ⟨rfl, rfl, rfl, by simp [World.setRow], fun k hk => setRow_other w g k _ (by omega)⟩)
theorem compactE_any {g n cap base : Nat} {xs : List E} {w : World} (hown : w.ownsRow base 57 3 (.slice (some ⟨g, 0, none⟩) n cap) xs.length (xs.flatMap encE)) (hn : n = xs.length) (hl : xs.length <= 1000000) (hbg : base <= g) (hcap : n <= cap) :
    Calls Tryz.prog 153 #[.slice (some ⟨g, 0, none⟩) n cap] w fun e w' => ∃ m, e = .returned (.slice (some ⟨g, 0, none⟩) m cap) /\ w'.ownsRow base 57 3 (.slice (some ⟨g, 0, none⟩) m cap) (cmpt xs).length ((cmpt xs).flatMap encE) /\ m = (cmpt xs).length /\ Below base w w' := by
 subst hn
 by_cases h2 : xs.length < 2
 · have hc : cmpt xs = xs := by
     match xs, h2 with
     | [], _ => rfl
     | [x], _ => rfl
   have H := hid hc; have HO := hid hown; clear hc hown
   go_enter Tryz.func153, Tryz.ntmps153
   go_wp2
   go_ret
   exact ⟨_, rfl, by rw [H.out]; exact HO.out, by rw [H.out], Below.refl _ _⟩
 · have HO := hid hown; clear hown
   have hbase := HO.out.lt g rfl
   go_enter Tryz.func153, Tryz.ntmps153
   go_wp2
   go_loopw [3] (fun i wr => ∃ q m : Nat, q + 1 <= xs.length /\ i = .int .i64 (q + 1) /\ cmpt (xs.take (q + 1)) = xs.take (q + 1) /\ wr = w.drewN m)
     (fun i _ => xs.length - (intOf i).toNat)
   case atStart => exact ⟨0, 0, by omega, rfl, by
     match xs, h2 with
     | x :: l, _ => rfl
     | [], h2 => simp at h2, rfl⟩
   case round =>
     obtain ⟨q, m, hq, rfl, hcm, rfl⟩ := hrel
     have HC := hid hcm; clear hcm
     by_cases hlt : q + 1 < xs.length
     · obtain ⟨x, hx⟩ := getElem?_of_lt (show q < xs.length by omega)
       obtain ⟨y, hy⟩ := getElem?_of_lt hlt
       have hS := slAt_row lenE HO.out
       have c0 := hS.e0 hx; have c1 := hS.e1 hx; have c2 := hS.e2 hx
       have d0 := hS.e0 hy; have d1 := hS.e1 hy; have d2 := hS.e2 hy
       simp only [Nat.zero_add] at c0 c1 c2 d0 d1 d2
       have heq := fun w => eqlE y x w
       have hgd := guardE
       have HX := hid hx; have HY := hid hy
       clear hS hx hy
       have hi1 : (q : Int) + 1 < (xs.length : Int) := by omega
       have hi2 : (q : Int) < (xs.length : Int) := by omega
       by_cases hxy : y = x
       · have hb : decide (y = x) = true := by simp [hxy]
         have HE := hid hxy; clear hxy
         go_wp2_with fail
         go_quiet (fail)
         go_wp2
         have hHk : cmpt (xs.take (q + 2)) = xs.take (q + 1) := by
           rw [cmpt_take HX.out HY.out, HC.out, if_pos HE.out.symm, List.append_nil]
         have HK := hid hHk; clear hHk
         clear c0 c1 c2 d0 d1 d2 heq hb
         go_loopw [3, 5] (fun i3 i5 wr => ∃ (kk r : Nat) (ys : List E), i3 = .int .i64 kk /\ i5 = .int .i64 (r + 1) /\ q + 1 + r + 1 <= xs.length /\ ys.length = xs.length /\
             wr.ownsRow base 57 3 (.slice (some ⟨g, 0, none⟩) xs.length cap) ys.length (ys.flatMap encE) /\ ys.take kk = cmpt (xs.take (q + 1 + r + 1)) /\ kk <= q + 1 + r /\ (∀ j, q + 1 + r <= j -> ys[j]? = xs[j]?) /\ Below base w wr)
           (fun _ i5 _ => xs.length - (intOf i5).toNat)
         case atStart => exact ⟨q + 1, 0, xs, by go_num, rfl, by omega, rfl, HO.out, HK.out.symm, by omega, fun _ _ => rfl, below_drewN (Below.refl _ _) _⟩
         case round =>
           obtain ⟨kk, r, ys, rfl, rfl, hr, hyl, hown, htk, hkk, hsame, hB⟩ := hrel
           have hsz := hB.size
           have HT := hid htk; have HS := hid hsame; have HW := hid hown; have HYL := hid hyl
           clear htk hsame hown hyl
           by_cases hrt : q + 1 + r + 1 < xs.length
           · obtain ⟨u, hu⟩ := getElem?_of_lt (show q + 1 + r < xs.length by omega)
             obtain ⟨v, hv⟩ := getElem?_of_lt hrt
             have hS := slAt_row lenE (show wr.ownsRow base 57 3 (.slice (some ⟨g, 0, none⟩) xs.length cap) ys.length (ys.flatMap encE) from HW.out)
             have hu' : ys[q + 1 + r]? = some u := by rw [HS.out _ (Nat.le_refl _), hu]
             have hv' : ys[q + 1 + r + 1]? = some v := by rw [HS.out _ (by omega), hv]
             have c0 := hS.e0 hu'; have c1 := hS.e1 hu'; have c2 := hS.e2 hu'
             have d0 := hS.e0 hv'; have d1 := hS.e1 hv'; have d2 := hS.e2 hv'
             simp only [Nat.zero_add] at c0 c1 c2 d0 d1 d2
             rw [show (q + 1 + r) * 3 = (q + 1) * 3 + r * 3 by omega] at c0 c1 c2
             rw [show (q + 1 + r + 1) * 3 = (q + 1) * 3 + (r + 1) * 3 by omega] at d0 d1 d2
             have heq := fun w => neqE v u w
             have HU := hid hu; have HV := hid hv
             have hkl : kk < ys.length := by rw [HYL.out]; omega
             obtain ⟨z, hz⟩ := getElem?_of_lt hkl
             have k0 := hS.e0 hz; have k1 := hS.e1 hz; have k2 := hS.e2 hz
             simp only [Nat.zero_add] at k0 k1 k2
             have f0 : wr.frozen? ⟨g, kk * 3, none⟩ = false := row_frozen HW.out _
             have f1 : wr.frozen? ⟨g, kk * 3 + 1, none⟩ = false := row_frozen HW.out _
             have f2 : wr.frozen? ⟨g, kk * 3 + 2, none⟩ = false := row_frozen HW.out _
             clear hS hu hv hu' hv' hz
             have hi3 : (kk : Int) < (xs.length : Int) := by omega
             have hi4 : (r : Int) + 1 < (xs.length : Int) - (q + 1) := by omega
             have hi5 : (r : Int) < (xs.length : Int) - (q + 1) := by omega
             by_cases huv : v = u
             · have hb : decide (v = u) = true := by simp [huv]
               have HE := hid huv; clear huv
               go_wp2_with fail
               go_quiet (fail)
               go_wp2
               go_roundw
               case rel => exact ⟨kk, r + 1, ys, rfl, by go_num, by omega, HYL.out, HW.out, by
                 rw [HT.out, show q + 1 + (r + 1) + 1 = q + 1 + r + 2 by omega, cmpt_take HU.out HV.out, if_pos HE.out.symm, List.append_nil], by omega, fun j hj => HS.out j (by omega), below_drewN hB _⟩
               case measure => simp [intOf]; omega
             · have hb : decide (v = u) = false := by simp [huv]
               have HE := hid huv; clear huv
               go_wp2_with fail
               go_quiet (fail)
               go_wp2
               go_roundw
               case rel =>
                 refine ⟨kk + 1, r + 1, ys.set kk v, by go_num, by go_num, by omega, by rw [List.length_set]; exact HYL.out, ?_, by
                   rw [show q + 1 + (r + 1) + 1 = q + 1 + r + 2 by omega, cmpt_take HU.out HV.out, if_neg (fun e => HE.out e.symm), <- HT.out]
                   rw [take_snoc (i := kk) (x := v) (by rw [List.getElem?_set, if_pos rfl, if_pos hkl]), List.take_set_of_le (Nat.le_refl _)], by omega, fun j hj => by
                   rw [List.getElem?_set, if_neg (by omega)]; exact HS.out j (by omega), ?_⟩
                 · exact ownE_set (w := wr.drewN nq) (x := v) HW.out HYL.out.symm kk hkl
                 · exact below_set3 (below_drewN hB _) hbg
               case measure => simp [intOf]; omega
           · have hend : q + 1 + r + 1 = xs.length := by omega
             obtain ⟨w1, hcl, hown1, hB1⟩ := clearE (show wr.ownsRow base 57 3 (.slice (some ⟨g, 0, none⟩) xs.length cap) ys.length (ys.flatMap encE) from HW.out) HYL.out.symm kk (cap - kk) (by omega)
             have hlen : (ys.take kk).length = kk := by rw [List.length_take, HYL.out]; omega
             have HE2 := hid hend; have HO1 := hid hown1; have HLN := hid hlen; have HB1 := hB1 hB
             clear hend hown1 hlen hB1
             have hk1 : (kk : Int) < (cap : Int) := by omega
             go_wp2
             go_ret
             have ht := HT.out
             rw [HE2.out, List.take_of_length_le (Nat.le_refl _)] at ht
             exact ⟨kk, rfl, by rw [<- ht, HLN.out]; exact HO1.out, by rw [<- ht, HLN.out], HB1⟩
       · have hb : decide (y = x) = false := by simp [hxy]
         have HE := hid hxy; clear hxy
         go_wp2_with fail
         go_quiet (fail)
         go_wp2
         go_roundw
         case rel => exact ⟨q + 1, _, by omega, by go_num, by
           rw [show q + 1 + 1 = q + 2 by omega, cmpt_take HX.out HY.out, if_neg (fun e => HE.out e.symm), HC.out, take_snoc HY.out], rfl⟩
         case measure => simp [intOf]; omega
     · have hend : xs.take (q + 1) = xs := List.take_of_length_le (by omega)
       have H := hid hend; clear hend
       go_wp2
       go_ret
       have hc := HC.out
       rw [H.out] at hc
       exact ⟨_, rfl, by rw [hc]; exact HO.out, by rw [hc], below_drewN (Below.refl _ _) _⟩
end Go.Proofs.YtgikimbafakmcaaGreatDoor

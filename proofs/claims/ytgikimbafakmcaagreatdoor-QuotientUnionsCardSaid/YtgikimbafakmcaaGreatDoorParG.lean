/-
  Lemmas.
-/
import Derived.Test.YtgikimbafakmcaaGreatDoorGParA
import Derived.Deep.Cut
import Derived.Deep.CutRange
set_option maxRecDepth 100000
namespace Go.Proofs.YtgikimbafakmcaaGreatDoor
open Go.RowKit Pl
open Lib (hid)
theorem asNil_any (w : World) (v : Value) : Calls Tryz.prog 73 #[.nilIface, v] w fun e w' => e = .returned (.bool false) /\ w = w' := by
 go_enter Tryz.func73, Tryz.ntmps73
 go_wp2_with fail
 go_ret
 exact ⟨rfl, rfl⟩
theorem PR.grow (K : PK) (n : Nat) (el pl inn : Nat -> Nat) (bl : List B3) (W : B3) (g c : Nat) (rest : List Rw) :
    ((PR K n el pl inn bl ++ rest).set 4 ⟨237, 3, .slice (some ⟨g, 0, none⟩) (bl.length + 1) c, bl.length + 1, bl.flatMap encT ++ [.int .i64 (W.1 : Int), .int .i64 (W.2.1 : Int), .int .i64 (W.2.2 : Int)]⟩).set 0
      ⟨209, 4, .slice (some ⟨K.pb, 0, none⟩) 1 1, 1, [.slice (some ⟨K.eb, 0, none⟩) n K.ce, .slice (some ⟨K.qb, 0, none⟩) n K.cq, .slice (some ⟨K.ib, 0, none⟩) n K.ci, .slice (some ⟨g, 0, none⟩) (bl.length + 1) c]⟩ =
    PR { K with bb := g, cb := c } n el pl inn (bl ++ [W]) ++ rest := by
 unfold PR
 rw [List.length_append, List.flatMap_append]
 rfl
section
variable {w0 w w1 w2 : World} {K : PK} {n : Nat} {el pl inn : Nat -> Nat} {bl : List B3} {rest : List Rw}
theorem Rws.pGrow (h : Rws w0 w (PR K n el pl inn bl ++ rest)) {m : Nat} (hm : m = bl.length) (hB2 : Below w.heap.size w w2) (W : B3) {g c : Nat} (ho : w1.ownsRow w0.heap.size 237 3 (.slice (some ⟨g, 0, none⟩) (m + 1) c) (m + 1) (bl.flatMap encT ++ [.int .i64 (W.1 : Int), .int .i64 (W.2.1 : Int), .int .i64 (W.2.2 : Int)]))
    (hg : w2.grownBy w1 (Value.slice (some ⟨K.bb, 0, none⟩) m K.cb).ownBlock) (hh : (Value.slice (some ⟨K.bb, 0, none⟩) m K.cb).ownBlock = some g ∨ w.heap.size <= g) :
    w1.cell? ⟨K.pb, 3, none⟩ = some (.slice (some ⟨K.bb, 0, none⟩) m K.cb) /\ w1.frozen? ⟨K.pb, 3, none⟩ = false /\ K.pb < w1.heap.size /\
      Rws w0 (w1.setCell ⟨K.pb, 3, none⟩ (.slice (some ⟨g, 0, none⟩) (m + 1) c)) (PR { K with bb := g, cb := c } n el pl inn (bl ++ [W]) ++ rest) := by
 subst hm
 have hs := h.grown hB2 4 rfl ho hg (fun g' hg' => by simp only [Value.ownBlock, Option.some.injEq] at hg'; subst hg'; exact hh)
 have h2 := hs.set 0 rfl 3 (.slice (some ⟨g, 0, none⟩) (bl.length + 1) c)
 have h3 := PR.grow K n el pl inn bl W g c rest
 refine ⟨hs.cell (i := 0) rfl rfl, hs.fz (i := 0) rfl 3, (hs.lt (i := 0) rfl).2, ?_⟩
 rw [<- h3]
 exact h2
end
def innK (n : Nat) (pl inn : Nat -> Nat) (m lo k : Nat) : Nat -> Nat := fun e => if e < n /\ lo <= pl e /\ pl e < lo + k then m else inn e
theorem innK_zero (n : Nat) (pl inn : Nat -> Nat) (m lo : Nat) : innK n pl inn m lo 0 = inn := by
 funext e
 unfold innK
 rw [if_neg (by omega)]
theorem innK_step {n : Nat} {el pl inn : Nat -> Nat} {bl : List B3} (h : PI n el pl inn bl) {m lo k : Nat} (hk : lo + k < n) : upd (innK n pl inn m lo k) (el (lo + k)) m = innK n pl inn m lo (k + 1) := by
 funext e
 obtain ⟨h1, h2⟩ := h.hel (lo + k) hk
 unfold upd innK
 by_cases e1 : e = el (lo + k)
 · rw [if_pos e1, if_pos ⟨by rw [e1]; exact h1, by rw [e1, h2]; omega, by rw [e1, h2]; omega⟩]
 · (
 rw [if_neg e1]
 by_cases e2 : e < n /\ lo <= pl e /\ pl e < lo + k
 · rw [if_pos e2, if_pos ⟨e2.1, e2.2.1, by omega⟩]
 · (
 rw [if_neg e2, if_neg]
 rintro ⟨a1, a2, a3⟩
 exact e2 ⟨a1, a2, by (
 rcases Nat.lt_or_ge (pl e) (lo + k) with h3 | h3
 · exact h3
 · exact absurd (by rw [show lo + k = pl e by omega, (h.hpl e a1).2] : e = el (lo + k)) e1)⟩))
def SplitPost (w0 : World) (K : PK) (n : Nat) (el pl inn : Nat -> Nat) (bl : List B3) (rest : List Rw) (b : Nat) (r : Ending) (w' : World) : Prop :=
  ∃ (K' : PK) (inn' : Nat -> Nat) (bl' : List B3) (v1 v2 : Value), r = .returned (.tuple #[v1, v2, .nilIface]) /\ PW w0 w' K' n el pl inn' bl' rest /\ Spl n pl inn inn' bl bl' b /\ K'.pb = K.pb
section
variable {w0 w : World} {K : PK} {n : Nat} {el pl inn : Nat -> Nat} {bl : List B3} {rest : List Rw}
set_option maxHeartbeats 4000000 in
theorem parSplit_any (h : PW w0 w K n el pl inn bl rest) {b : Nat} (hb : b < bl.length) :
    Calls Tryz.prog 159 #[.pointer (some ⟨K.pb, 0, none⟩), .int .i64 b] w (SplitPost w0 K n el pl inn bl rest b) := by
 obtain ⟨x, hx⟩ : ∃ x, bl[b]? = some x := ⟨_, List.getElem?_eq_getElem hb⟩
 obtain ⟨b1, b2, b3⟩ := h.pi.blk b x hx
 have hn := h.n1
 have hfew := h.pi.few
 have hBk := hid (parBlocks_any h.rws)
 have hA := hid (asked_ok w K.pb b bl.length hb)
 have H := hid h; have HX := hid hx; have HB := hid hb
 have h1 := hid (h.rws.alloc (.cells #[.pointer none] 69))
 have SP0 := hid (h.pi.split0 hx)
 have SP1 := hid (fun inn' h0 h1 hi => h.pi.split1 (inn' := inn') hx h0 h1 hi)
 obtain ⟨m, hm⟩ : ∃ m, m = bl.length := ⟨_, rfl⟩
 obtain ⟨c0, c1, c2, c3⟩ := h1.out.pCells
 obtain ⟨l0, l1, l2, l3, l4⟩ := h1.out.pLts
 obtain ⟨g0, g1, g2⟩ := h1.out.pBl hx
 have gf := (h1.out.pFz (b * 3 + 2)).2.2.2.2
 have hcb := h1.out.pCaps.2.2.2
 rw [<- hm] at c3 hcb hb hfew hBk hA
 have HM := hid hm
 have hbI : (b : Int) < (m : Int) := by omega
 obtain ⟨x1, x2, x3⟩ := x
 simp only at g0 g1 g2 b1 b2 b3
 have w1 : IntKind.i64.wrap ((x2 : Int) - (x1 : Int)) = ((x2 - x1 : Nat) : Int) := by rw [IntWalk.i64_in _ (by omega)]; omega
 have w2 : IntKind.i64.wrap (((x2 - x1 : Nat) : Int) - (x3 : Int)) = ((x2 - x1 - x3 : Nat) : Int) := by rw [IntWalk.i64_in _ (by omega)]; omega
 obtain ⟨o, ho⟩ : ∃ o, o = x2 - x1 - x3 := ⟨_, rfl⟩
 obtain ⟨d, hd⟩ : ∃ d, d = x2 - x1 := ⟨_, rfl⟩
 rw [<- hd] at w1; rw [<- ho, <- hd] at w2
 have HO := hid ho; have HD := hid hd
 clear h hx hm ho hd
 obtain ⟨W, hW⟩ : ∃ W, W = w.alloc (.cells #[.pointer none] 69) := ⟨_, rfl⟩
 rw [<- hW] at h1 c0 c1 c2 c3 l0 l1 l2 l3 l4 g0 g1 g2 gf
 have HW := hid hW
 clear hW
 go_enter Tryz.func159, Tryz.ntmps159
 go_wp2_with fail
 refine hBk.out.mono ?_
 rintro e w1 ⟨rfl, rfl⟩
 go_wp2_with fail
 refine hA.out.mono ?_
 rintro e w1 ⟨rfl, rfl⟩
 go_wp2_with fail
 rw [<- HW.out]
 refine (asNil_any _ _).mono ?_
 rintro e w1 ⟨rfl, rfl⟩
 clear hBk hA
 go_wp2_with fail
 go_quiet (fail)
 have HV := hid ((h1.out.drewN nq).pSetBl (y := (x1, x2, 0)) HX.out 2 (.int .i64 0) (by decide) rfl)
 have vf0 : (W.drewN nq).frozen? ⟨K.bb, b * 3 + 2, none⟩ = false := gf
 by_cases h0 : x3 = 0 ∨ o = 0
 · (
 have hsp := SP0.out (by (
 have := HO.out
 show x3 = 0 ∨ x2 = x1 + x3
 omega))
 have HSP := hid hsp
 have hfin : Hid (SplitPost w0 K n el pl inn bl rest b (.returned (.tuple #[.int .i64 0, .bool false, .nilIface])) ((W.drewN nq).setCell ⟨K.bb, b * 3 + 2, none⟩ (.int .i64 0))) :=
   hid ⟨K, inn, _, _, _, rfl, ⟨HV.out, HSP.out.1, hn⟩, HSP.out.2, rfl⟩
 clear hsp HV SP0 SP1 HSP
 by_cases h3 : x3 = 0
 · have h3b : ((x3 : Int) == 0) = true := by simp [h3]
   clear h0 h3
   go_wp2_with fail
   go_ret3
   exact hfin.out
 · (
 have h3b : ((x3 : Int) == 0) = false := by simp [h3]
 have h4b : ((o : Int) == 0) = true := by simp; omega
 clear h0 h3
 go_wp2_with fail
 go_ret3
 exact hfin.out))
 · (
 have h3b : ((x3 : Int) == 0) = false := by simp; omega
 have h4b : ((o : Int) == 0) = false := by simp; omega
 have h3p : 0 < x3 := by omega
 have h4p : 0 < o := by omega
 have hlt : x1 + x3 < x2 := by have := HO.out; omega
 have hod : o = x2 - x1 - x3 := HO.out
 have HOD := hid hod
 have w3 : IntKind.i64.wrap ((x1 : Int) + (x3 : Int)) = ((x1 + x3 : Nat) : Int) := by rw [IntWalk.i64_in _ (by omega)]; omega
 obtain ⟨md, hmd⟩ : ∃ md, md = x1 + x3 := ⟨_, rfl⟩
 rw [<- hmd] at w3 hlt
 have HMD := hid hmd
 clear h0 hod hmd SP0
 go_upto_region 10 with fail
 obtain ⟨V, hV⟩ : ∃ V, V = (W.drewN nq).setCell ⟨K.bb, b * 3 + 2, none⟩ (.int .i64 0) := ⟨_, rfl⟩
 rw [<- hV] at HV ⊢
 clear hV vf0 c0 c1 c2 c3 l0 l1 l2 l3 l4 g0 g1 g2 gf h1
 have hbl0 : (bl.set b (x1, x2, 0))[b]? = some (x1, x2, 0) := by
   have := (List.getElem?_eq_some_iff.1 HX.out).1
   rw [List.getElem?_set]; simp [this]
 have HBL0 := hid hbl0
 obtain ⟨c0, c1, c2, c3⟩ := HV.out.pCells
 obtain ⟨l0, l1, l2, l3, l4⟩ := HV.out.pLts
 obtain ⟨g0, g1, g2⟩ := HV.out.pBl hbl0
 have gf0 := (HV.out.pFz (b * 3)).2.2.2.2
 have gf1 := (HV.out.pFz (b * 3 + 1)).2.2.2.2
 rw [List.length_set, <- HM.out] at c3
 simp only at g0 g1 g2
 have hA2 := hid (HV.out.alloc (.cells #[.int .i64 x1, .int .i64 md, .int .i64 0] 237))
 clear hbl0
 go_upto_region 12 with fail
 by_cases hle : x3 <= o
 · (
 have hleI : (x3 : Int) <= (o : Int) := by omega
 go_upto_region 16 with fail
 obtain ⟨U, hU⟩ : ∃ U, U = (V.setCell ⟨K.bb, b * 3, none⟩ (.int .i64 md)).alloc (.cells #[.int .i64 x1, .int .i64 md, .int .i64 0] 237) := ⟨_, rfl⟩
 have HU : Hid (Rws w0 ((V.setCell ⟨K.bb, b * 3, none⟩ (.int .i64 md)).alloc (.cells #[.int .i64 x1, .int .i64 md, .int .i64 0] 237)) (PR K n el pl inn (bl.set b (oldB (x1, x2, x3))) ++ rest)) := hid (by (
 have h1 := (HV.out.pSetBl (y := (md, x2, 0)) HBL0.out 0 (.int .i64 md) (by decide) rfl).alloc (.cells #[.int .i64 x1, .int .i64 md, .int .i64 0] 237)
 rw [List.set_set] at h1
 have e : oldB (x1, x2, x3) = (md, x2, 0) := by unfold oldB; rw [if_pos (by have := HOD.out; simp only; omega), HMD.out]
 rw [e]; exact h1))
 have HN : Hid (((V.setCell ⟨K.bb, b * 3, none⟩ (.int .i64 md)).alloc (.cells #[.int .i64 x1, .int .i64 md, .int .i64 0] 237)).heap[V.heap.size]? = some (.cells #[.int .i64 (newB (x1, x2, x3)).1, .int .i64 (newB (x1, x2, x3)).2.1, .int .i64 (newB (x1, x2, x3)).2.2] 237 (0, 0))) := hid (by (
 have e : newB (x1, x2, x3) = (x1, md, 0) := by unfold newB; rw [if_pos (by have := HOD.out; simp only; omega), HMD.out]
 rw [e]
 exact heap_alloc_at _ _ _ (by rw [size_setCell])))
 rw [<- hU] at HU HN ⊢
 clear hU
 obtain ⟨BL, hBL⟩ : ∃ BL, BL = bl.set b (oldB (x1, x2, x3)) := ⟨_, rfl⟩
 have hBm : m = BL.length := by rw [hBL, List.length_set, HM.out]
 rw [<- hBL] at HU SP1
 obtain ⟨y, hy⟩ : ∃ y, y = newB (x1, x2, x3) := ⟨_, rfl⟩
 rw [<- hy] at HN SP1
 have HY := hid hy; have HBL := hid hBL; have HBM := hid hBm
 obtain ⟨y1, y2, y3⟩ := y
 have hyr : y1 < y2 /\ y2 <= n /\ y3 = 0 /\ x1 <= y1 /\ y2 <= x2 := by (
 have h1 := HY.out; have h2 := HMD.out
 unfold newB at h1
 dsimp only at h1
 split at h1 <;> (simp only [Prod.mk.injEq] at h1; omega))
 obtain ⟨hy1, hy2, rfl, hy3, hy4⟩ := hyr
 have m0 : U.cell? ⟨V.heap.size, 0, none⟩ = some (.int .i64 (y1 : Int)) := by simp [World.cell?, HN.out]
 have m1 : U.cell? ⟨V.heap.size, 1, none⟩ = some (.int .i64 (y2 : Int)) := by simp [World.cell?, HN.out]
 have m2 : U.cell? ⟨V.heap.size, 2, none⟩ = some (.int .i64 0) := by simp [World.cell?, HN.out]
 have ml := (Array.getElem?_eq_some_iff.1 HN.out).1
 obtain ⟨nb, hnb⟩ : ∃ nb, nb = V.heap.size := ⟨_, rfl⟩
 rw [<- hnb] at m0 m1 m2 ml ⊢
 clear c0 c1 c2 c3 l0 l1 l2 l3 l4 g0 g1 g2 gf0 gf1 hBm hBL hy hnb HN hA2 HV HBL0
 obtain ⟨c0, c1, c2, c3⟩ := HU.out.pCells
 obtain ⟨l0, l1, l2, l3, l4⟩ := HU.out.pLts
 rw [<- HBM.out] at c3
 have hown0 := (HU.out.alloc (.cells #[.int .i64 y1, .int .i64 y2, .int .i64 0] 237)).drew.get (i := 4) rfl
 dsimp only at hown0
 rw [<- HBM.out] at hown0
 have HOWN := hid hown0
 have hBU := ((Below.refl U.heap.size U).alloc (Nat.le_refl _) (.cells #[.int .i64 y1, .int .i64 y2, .int .i64 0] 237)).drew
 have HBU := hid hBU
 have hlo := HU.out.bel.size
 clear hown0 hBU c0 c1 c2 l1 l2 l3 l4
 go_region_law (first
   | (refine step_lie rfl _ _ _ rfl rowT (base := w0.heap.size) (by simp; omega) rfl HOWN.out ⟨U.heap.size, 0, none⟩ 1 1 [.int .i64 (y1 : Int), .int .i64 (y2 : Int), .int .i64 0] rfl rfl (cells3 (by simp [go_sem]) (by simp [go_sem]) (by simp [go_sem])) (by simp [Value.oneCell']) (by decide) (by omega) (by unfold maxLen; omega) U.heap.size (by simp) ?_; intro g cap w7 hown7 hg7 hl7 hlt7; obtain ⟨q0, q1, q2, q3⟩ := HU.out.pGrow HBM.out HBU.out (y1, y2, 0) hown7 hg7 hl7))
 all_goals (
 have HZ := hid q3
 clear q0 q1 q2 q3 hown7 hg7 hl7 hlt7 c3 l0 m0 m1 m2 ml hlo HOWN HBU HU
 obtain ⟨Z, hZ⟩ : ∃ Z, Z = w7.setCell ⟨K.pb, 3, none⟩ (.slice (some ⟨g, 0, none⟩) (m + 1) cap) := ⟨_, rfl⟩
 rw [<- hZ] at HZ ⊢
 clear hZ
 obtain ⟨K', hK'⟩ : ∃ K' : PK, K' = { K with bb := g, cb := cap } := ⟨_, rfl⟩
 rw [<- hK'] at HZ
 have e1 : K.pb = K'.pb := by rw [hK']
 have e2 : g = K'.bb := by rw [hK']
 have e3 : cap = K'.cb := by rw [hK']
 have E1 := hid e1
 have hxm : (BL ++ [(y1, y2, 0)])[m]? = some (y1, y2, 0) := by rw [HBM.out, List.getElem?_append_right (Nat.le_refl _)]; simp
 have HROW := hid (parRow_any' HZ.out hn hxm hy1 hy2)
 have hlen : (BL ++ [(y1, y2, 0)]).length = m + 1 := by rw [List.length_append, <- HBM.out]; rfl
 have HLEN := hid hlen
 obtain ⟨c0, c1, c2, c3⟩ := HZ.out.pCells
 have l0 := HZ.out.pLts.1
 rw [hlen] at c3
 simp only at HROW
 rw [e1]
 clear hxm hlen hK' e1 e2 e3
 go_wp2_with fail
 refine HROW.out.mono ?_
 rintro e w8 ⟨rfl, hB8⟩
 have HZ8 := hid (HZ.out.call hB8)
 obtain ⟨L, hL⟩ : ∃ L, L = y2 - y1 := ⟨_, rfl⟩
 rw [<- hL]
 have HL := hid hL
 clear hB8 HROW HZ c0 c1 c2 c3 l0 hL
 go_wp2_with fail
 go_loopw [15, 107] (fun _ v107 wr => ∃ k : Nat, v107 = .int .i64 k /\ k <= L /\ Rws w0 wr (PR K' n el pl (innK n pl inn m y1 k) (BL ++ [(y1, y2, 0)]) ++ rest)) (fun _ v107 _ => L - (intOf v107).toNat)
 case atStart => exact ⟨0, rfl, Nat.zero_le _, by rw [innK_zero]; exact HZ8.out⟩
 case round => (
 obtain ⟨k, rfl, hk, hrw⟩ := hrel
 have HR := hid hrw
 clear hrw HZ8
 obtain ⟨c0, c1, c2, c3⟩ := HR.out.pCells
 obtain ⟨l0, l1, l2, l3, l4⟩ := HR.out.pLts
 rw [HLEN.out] at c3
 by_cases hkl : k < L
 · (
 have hyk : y1 + k < n := by have := HL.out; omega
 have d1 := HR.out.pEl hyk
 have hen := (H.out.pi.hel _ hyk).1
 have d2 := HR.out.pIn hen
 have f2 := (HR.out.pFz (el (y1 + k))).2.2.2.1
 have h9 := HR.out.pSetIn (el (y1 + k)) m
 rw [innK_step H.out.pi hyk] at h9
 have H9 := hid h9.drew
 obtain ⟨ev, hev⟩ : ∃ ev, ev = el (y1 + k) := ⟨_, rfl⟩
 obtain ⟨iv, hiv⟩ : ∃ iv, iv = innK n pl inn m y1 k ev := ⟨_, rfl⟩
 rw [<- hev] at d1 d2 f2 H9 hen
 rw [<- hiv] at d2
 have hkI : (k : Int) < (L : Int) := by omega
 have heI : (ev : Int) < (n : Int) := by omega
 clear h9 hev hiv
 go_wp2_with fail
 go_region
 go_wp2_with fail
 go_roundw
 case rel => exact ⟨k + 1, by go_num, by omega, H9.out⟩
 case measure => simp [intOf]; omega)
 · (
 obtain rfl : k = L := by omega
 have hsp := SP1.out (innK n pl inn m y1 k) (by omega) (by have := HMD.out; omega) (fun e he => by (
 have hLe := HL.out
 unfold innK
 rw [show y1 + k = y2 by omega, <- HM.out]
 by_cases hc : y1 <= pl e /\ pl e < y2
 · have hcov := H.out.pi.cov b (x1, x2, x3) (pl e) HX.out (by simp only; omega) (by simp only; omega)
   rw [(H.out.pi.hpl e he).2] at hcov
   rw [if_pos ⟨he, hc⟩, if_pos ⟨hcov, hc⟩]
 · rw [if_neg (fun h => hc h.2), if_neg (fun h => hc h.2)]))
 have HSP := hid hsp
 clear hsp SP1 c0 c1 c2
 go_wp2_with fail
 go_ret3
 exact ⟨K', _, _, _, _, rfl, ⟨HR.out, HSP.out.1, hn⟩, HSP.out.2, E1.out.symm⟩))))
 · (
 have hleI : ¬ (x3 : Int) <= (o : Int) := by omega
 go_upto_region 16 with fail
 obtain ⟨U, hU⟩ : ∃ U, U = (V.setCell ⟨K.bb, b * 3 + 1, none⟩ (.int .i64 md)).alloc (.cells #[.int .i64 md, .int .i64 x2, .int .i64 0] 237) := ⟨_, rfl⟩
 have HU : Hid (Rws w0 ((V.setCell ⟨K.bb, b * 3 + 1, none⟩ (.int .i64 md)).alloc (.cells #[.int .i64 md, .int .i64 x2, .int .i64 0] 237)) (PR K n el pl inn (bl.set b (oldB (x1, x2, x3))) ++ rest)) := hid (by (
 have h1 := (HV.out.pSetBl (y := (x1, md, 0)) HBL0.out 1 (.int .i64 md) (by decide) rfl).alloc (.cells #[.int .i64 md, .int .i64 x2, .int .i64 0] 237)
 rw [List.set_set] at h1
 have e : oldB (x1, x2, x3) = (x1, md, 0) := by unfold oldB; rw [if_neg (by have := HOD.out; simp only; omega), HMD.out]
 rw [e]; exact h1))
 have HN : Hid (((V.setCell ⟨K.bb, b * 3 + 1, none⟩ (.int .i64 md)).alloc (.cells #[.int .i64 md, .int .i64 x2, .int .i64 0] 237)).heap[V.heap.size]? = some (.cells #[.int .i64 (newB (x1, x2, x3)).1, .int .i64 (newB (x1, x2, x3)).2.1, .int .i64 (newB (x1, x2, x3)).2.2] 237 (0, 0))) := hid (by (
 have e : newB (x1, x2, x3) = (md, x2, 0) := by unfold newB; rw [if_neg (by have := HOD.out; simp only; omega), HMD.out]
 rw [e]
 exact heap_alloc_at _ _ _ (by rw [size_setCell])))
 rw [<- hU] at HU HN ⊢
 clear hU
 obtain ⟨BL, hBL⟩ : ∃ BL, BL = bl.set b (oldB (x1, x2, x3)) := ⟨_, rfl⟩
 have hBm : m = BL.length := by rw [hBL, List.length_set, HM.out]
 rw [<- hBL] at HU SP1
 obtain ⟨y, hy⟩ : ∃ y, y = newB (x1, x2, x3) := ⟨_, rfl⟩
 rw [<- hy] at HN SP1
 have HY := hid hy; have HBL := hid hBL; have HBM := hid hBm
 obtain ⟨y1, y2, y3⟩ := y
 have hyr : y1 < y2 /\ y2 <= n /\ y3 = 0 /\ x1 <= y1 /\ y2 <= x2 := by (
 have h1 := HY.out; have h2 := HMD.out
 unfold newB at h1
 dsimp only at h1
 split at h1 <;> (simp only [Prod.mk.injEq] at h1; omega))
 obtain ⟨hy1, hy2, rfl, hy3, hy4⟩ := hyr
 have m0 : U.cell? ⟨V.heap.size, 0, none⟩ = some (.int .i64 (y1 : Int)) := by simp [World.cell?, HN.out]
 have m1 : U.cell? ⟨V.heap.size, 1, none⟩ = some (.int .i64 (y2 : Int)) := by simp [World.cell?, HN.out]
 have m2 : U.cell? ⟨V.heap.size, 2, none⟩ = some (.int .i64 0) := by simp [World.cell?, HN.out]
 have ml := (Array.getElem?_eq_some_iff.1 HN.out).1
 obtain ⟨nb, hnb⟩ : ∃ nb, nb = V.heap.size := ⟨_, rfl⟩
 rw [<- hnb] at m0 m1 m2 ml ⊢
 clear c0 c1 c2 c3 l0 l1 l2 l3 l4 g0 g1 g2 gf0 gf1 hBm hBL hy hnb HN hA2 HV HBL0
 obtain ⟨c0, c1, c2, c3⟩ := HU.out.pCells
 obtain ⟨l0, l1, l2, l3, l4⟩ := HU.out.pLts
 rw [<- HBM.out] at c3
 have hown0 := (HU.out.alloc (.cells #[.int .i64 y1, .int .i64 y2, .int .i64 0] 237)).drew.get (i := 4) rfl
 dsimp only at hown0
 rw [<- HBM.out] at hown0
 have HOWN := hid hown0
 have hBU := ((Below.refl U.heap.size U).alloc (Nat.le_refl _) (.cells #[.int .i64 y1, .int .i64 y2, .int .i64 0] 237)).drew
 have HBU := hid hBU
 have hlo := HU.out.bel.size
 clear hown0 hBU c0 c1 c2 l1 l2 l3 l4
 go_region_law (first
   | (refine step_lie rfl _ _ _ rfl rowT (base := w0.heap.size) (by simp; omega) rfl HOWN.out ⟨U.heap.size, 0, none⟩ 1 1 [.int .i64 (y1 : Int), .int .i64 (y2 : Int), .int .i64 0] rfl rfl (cells3 (by simp [go_sem]) (by simp [go_sem]) (by simp [go_sem])) (by simp [Value.oneCell']) (by decide) (by omega) (by unfold maxLen; omega) U.heap.size (by simp) ?_; intro g cap w7 hown7 hg7 hl7 hlt7; obtain ⟨q0, q1, q2, q3⟩ := HU.out.pGrow HBM.out HBU.out (y1, y2, 0) hown7 hg7 hl7))
 all_goals (
 have HZ := hid q3
 clear q0 q1 q2 q3 hown7 hg7 hl7 hlt7 c3 l0 m0 m1 m2 ml hlo HOWN HBU HU
 obtain ⟨Z, hZ⟩ : ∃ Z, Z = w7.setCell ⟨K.pb, 3, none⟩ (.slice (some ⟨g, 0, none⟩) (m + 1) cap) := ⟨_, rfl⟩
 rw [<- hZ] at HZ ⊢
 clear hZ
 obtain ⟨K', hK'⟩ : ∃ K' : PK, K' = { K with bb := g, cb := cap } := ⟨_, rfl⟩
 rw [<- hK'] at HZ
 have e1 : K.pb = K'.pb := by rw [hK']
 have e2 : g = K'.bb := by rw [hK']
 have e3 : cap = K'.cb := by rw [hK']
 have E1 := hid e1
 have hxm : (BL ++ [(y1, y2, 0)])[m]? = some (y1, y2, 0) := by rw [HBM.out, List.getElem?_append_right (Nat.le_refl _)]; simp
 have HROW := hid (parRow_any' HZ.out hn hxm hy1 hy2)
 have hlen : (BL ++ [(y1, y2, 0)]).length = m + 1 := by rw [List.length_append, <- HBM.out]; rfl
 have HLEN := hid hlen
 obtain ⟨c0, c1, c2, c3⟩ := HZ.out.pCells
 have l0 := HZ.out.pLts.1
 rw [hlen] at c3
 simp only at HROW
 rw [e1]
 clear hxm hlen hK' e1 e2 e3
 go_wp2_with fail
 refine HROW.out.mono ?_
 rintro e w8 ⟨rfl, hB8⟩
 have HZ8 := hid (HZ.out.call hB8)
 obtain ⟨L, hL⟩ : ∃ L, L = y2 - y1 := ⟨_, rfl⟩
 rw [<- hL]
 have HL := hid hL
 clear hB8 HROW HZ c0 c1 c2 c3 l0 hL
 go_wp2_with fail
 go_loopw [15, 107] (fun _ v107 wr => ∃ k : Nat, v107 = .int .i64 k /\ k <= L /\ Rws w0 wr (PR K' n el pl (innK n pl inn m y1 k) (BL ++ [(y1, y2, 0)]) ++ rest)) (fun _ v107 _ => L - (intOf v107).toNat)
 case atStart => exact ⟨0, rfl, Nat.zero_le _, by rw [innK_zero]; exact HZ8.out⟩
 case round => (
 obtain ⟨k, rfl, hk, hrw⟩ := hrel
 have HR := hid hrw
 clear hrw HZ8
 obtain ⟨c0, c1, c2, c3⟩ := HR.out.pCells
 obtain ⟨l0, l1, l2, l3, l4⟩ := HR.out.pLts
 rw [HLEN.out] at c3
 by_cases hkl : k < L
 · (
 have hyk : y1 + k < n := by have := HL.out; omega
 have d1 := HR.out.pEl hyk
 have hen := (H.out.pi.hel _ hyk).1
 have d2 := HR.out.pIn hen
 have f2 := (HR.out.pFz (el (y1 + k))).2.2.2.1
 have h9 := HR.out.pSetIn (el (y1 + k)) m
 rw [innK_step H.out.pi hyk] at h9
 have H9 := hid h9.drew
 obtain ⟨ev, hev⟩ : ∃ ev, ev = el (y1 + k) := ⟨_, rfl⟩
 obtain ⟨iv, hiv⟩ : ∃ iv, iv = innK n pl inn m y1 k ev := ⟨_, rfl⟩
 rw [<- hev] at d1 d2 f2 H9 hen
 rw [<- hiv] at d2
 have hkI : (k : Int) < (L : Int) := by omega
 have heI : (ev : Int) < (n : Int) := by omega
 clear h9 hev hiv
 go_wp2_with fail
 go_region
 go_wp2_with fail
 go_roundw
 case rel => exact ⟨k + 1, by go_num, by omega, H9.out⟩
 case measure => simp [intOf]; omega)
 · (
 obtain rfl : k = L := by omega
 have hsp := SP1.out (innK n pl inn m y1 k) (by omega) (by have := HMD.out; omega) (fun e he => by (
 have hLe := HL.out
 unfold innK
 rw [show y1 + k = y2 by omega, <- HM.out]
 by_cases hc : y1 <= pl e /\ pl e < y2
 · have hcov := H.out.pi.cov b (x1, x2, x3) (pl e) HX.out (by simp only; omega) (by simp only; omega)
   rw [(H.out.pi.hpl e he).2] at hcov
   rw [if_pos ⟨he, hc⟩, if_pos ⟨hcov, hc⟩]
 · rw [if_neg (fun h => hc h.2), if_neg (fun h => hc h.2)]))
 have HSP := hid hsp
 clear hsp SP1 c0 c1 c2
 go_wp2_with fail
 go_ret3
 exact ⟨K', _, _, _, _, rfl, ⟨HR.out, HSP.out.1, hn⟩, HSP.out.2, E1.out.symm⟩)))))
end
end Go.Proofs.YtgikimbafakmcaaGreatDoor

/-
  Lemmas.
-/
import Derived.Test.YtgikimbafakmcaaGreatDoorGStrE
import Derived.Test.YtgikimbafakmcaaGreatDoorGStrC
import Derived.Test.YtgikimbafakmcaaGreatDoorGFault
import Derived.Deep.RegionHeld3
import Derived.Deep.RegionHeldLaw
import Derived.Deep.RegionWith
import Derived.Deep.OwnRows
import Derived.IntWalk
import Derived.Deep.Cut
import Derived.Deep.CutRange
import Derived.Deep.RegionLaw
set_option maxHeartbeats 4000000
set_option maxRecDepth 100000
namespace Go.Proofs.YtgikimbafakmcaaGreatDoor
open Go.RowKit Pl
open Lib (hid)
section
variable {w0 w : World} {s : Lts} {K : PK} {S : SK} {n : Nat} {el pl inn : Nat -> Nat} {bl : List B3} {hp ga : Nat -> Nat} {sz : List Int} {tl : List Value} {rest : List Rw}
theorem lessS_any (h : SW w0 w s K S n el pl inn bl hp ga sz tl rest) {a b cb : Nat} (ha : a < bl.length) (hb : b < bl.length) (hc : w.cell? ⟨cb, 0, none⟩ = some (.pointer (some ⟨S.xb, 0, none⟩))) :
    Calls Tryz.prog 129 #[.int .i64 a, .int .i64 b, .pointer (some ⟨cb, 0, none⟩)] w fun e w' => e = .returned (.int .i64 (((memN n inn a).length : Int) - ((memN n inn b).length : Int))) /\ Below w.heap.size w w' := by
 have H := hid h; have HC := hid hc
 have hn1 := h.par.n1
 have la := memN_le (n := n) inn a
 have lb := memN_le (n := n) inn b
 have hxa : bl[a]? = some bl[a] := List.getElem?_eq_getElem ha
 have hxb : bl[b]? = some bl[b] := List.getElem?_eq_getElem hb
 have cbl := World.block_lt_of_cell? _ _ hc
 have xl := h.run.sCells.2.2.2.2.2.2.2
 have KEEP : Hid (∀ W, Below w.heap.size w W -> W.cell? ⟨cb, 0, none⟩ = some (.pointer (some ⟨S.xb, 0, none⟩)) /\ W.cell? ⟨S.xb, 1, none⟩ = some (.pointer (some ⟨K.pb, 0, none⟩)) /\ Below w.heap.size w W) := hid (fun W hW => by
   have h2 := (H.out.call hW).run.sCells
   exact ⟨(hW.cell (p := ⟨cb, 0, none⟩) cbl).trans HC.out, h2.2.1, hW⟩)
 have CA : Hid (∀ W, Below w.heap.size w W -> Calls Tryz.prog 130 #[.pointer (some ⟨K.pb, 0, none⟩), .int .i64 a] W fun e w' => e = .returned (.int .i64 ((memN n inn a).length : Int)) /\ Below W.heap.size W w') := hid (fun W hW =>
   parLen_any (H.out.call hW).par hxa)
 have CB : Hid (∀ W, Below w.heap.size w W -> Calls Tryz.prog 130 #[.pointer (some ⟨K.pb, 0, none⟩), .int .i64 b] W fun e w' => e = .returned (.int .i64 ((memN n inn b).length : Int)) /\ Below W.heap.size W w') := hid (fun W hW =>
   parLen_any (H.out.call hW).par hxb)
 obtain ⟨ma, hma⟩ : ∃ ma, ma = (memN n inn a).length := ⟨_, rfl⟩
 obtain ⟨mb, hmb⟩ : ∃ mb, mb = (memN n inn b).length := ⟨_, rfl⟩
 rw [<- hma] at CA la ⊢; rw [<- hmb] at CB lb ⊢
 have hw : IntKind.i64.wrap ((ma : Int) - (mb : Int)) = (ma : Int) - (mb : Int) := IntWalk.i64_in _ (by omega)
 have B0 := hid (Below.refl w.heap.size w).drew
 clear h hc ha hb hxa hxb hma hmb
 go_enter Tryz.func129, Tryz.ntmps129
 go_wp2_with fail
 go_region_held3 (fun W => W.cell? ⟨cb, 0, none⟩ = some (.pointer (some ⟨S.xb, 0, none⟩)) /\ W.cell? ⟨S.xb, 1, none⟩ = some (.pointer (some ⟨K.pb, 0, none⟩)) /\ Below w.heap.size w W)
   (first | (exact KEEP.out _ B0.out) | (go_split_ands; exact KEEP.out _ (below_two (by assumption) (by assumption))))
   (first
     | (go_at_call_of 130 (Value.int .i64 (a : Int)); go_split_ands; refine (CA.out _ (by assumption)).mono ?_; rintro e w1 ⟨rfl, hB⟩)
     | (go_at_call_of 130 (Value.int .i64 (b : Int)); go_split_ands; refine (CB.out _ (by assumption)).mono ?_; rintro e w1 ⟨rfl, hB⟩))
 all_goals (
 go_split_ands
 go_wp2_with fail
 go_ret
 exact ⟨rfl, by assumption⟩)
def MinPost (f : Nat -> Nat) (xs : List Nat) (w : World) (e : Ending) (w' : World) : Prop := ∃ m, m ∈ xs /\ e = .returned (.int .i64 (m : Int)) /\ (∀ x ∈ xs, f m <= f x) /\ Below w.heap.size w w'
theorem minFunc_any {f : Nat -> Nat} {xs : List Nat} {a : Option Addr} {b c : Nat} {w : World} (hS : SlAt encI 1 w a b 0 (xs.map Int.ofNat)) (h0 : 0 < xs.length) (hl : xs.length <= 1000000) (hf : ∀ x ∈ xs, f x <= 1000000) {cb : Nat}
    (hK : ∀ W x y, Below w.heap.size w W -> x ∈ xs -> y ∈ xs -> Calls Tryz.prog 129 #[.int .i64 (x : Int), .int .i64 (y : Int), .pointer (some ⟨cb, 0, none⟩)] W fun e w' => e = .returned (.int .i64 ((f x : Int) - (f y : Int))) /\ Below W.heap.size W w') :
    Calls Tryz.prog 128 #[.slice a xs.length c, .func (.func 129) #[] #[.pointer (some ⟨cb, 0, none⟩)]] w (MinPost f xs w) := by
 have hpos : 0 < (xs.map Int.ofNat).length := by rw [List.length_map]; exact h0
 obtain rfl := hS.ad hpos
 have bl := hS.lt hpos
 obtain ⟨x0, hx0⟩ : ∃ x0, xs[0]? = some x0 := ⟨_, List.getElem?_eq_getElem h0⟩
 have d0 := hS.ci (i := 0) (x := (x0 : Int)) (by rw [List.getElem?_map, hx0]; rfl)
 simp only [Nat.add_zero] at d0
 have HS := hid hS; have HK := hid hK; have HF := hid hf; have HX0 := hid hx0
 obtain ⟨m, hm⟩ : ∃ m, m = xs.length := ⟨_, rfl⟩
 rw [<- hm] at h0 hl ⊢
 have HM := hid hm
 have hmI : ¬ ((m : Int) < 1) := by omega
 clear hS hK hf hx0 hm hpos
 go_enter Tryz.func128, Tryz.ntmps128
 go_wp2_with fail
 clear d0
 go_loopw [5, 6] (fun v5 v6 wr => ∃ (k q : Nat), v6 = .int .i64 k /\ v5 = .int .i64 (q : Int) /\ 1 <= k /\ k <= m /\ q ∈ xs /\ (∀ x ∈ xs.take k, f q <= f x) /\ Below w.heap.size w wr) (fun _ v6 _ => m - (intOf v6).toNat)
 case atStart => exact ⟨1, x0, rfl, rfl, Nat.le_refl _, by omega, List.mem_of_getElem? HX0.out, fun x hx => by (
 have e : xs.take 1 = [x0] := by rw [take_snoc (i := 0) HX0.out]; simp
 rw [e] at hx
 simp at hx; subst hx; exact Nat.le_refl _), Below.refl _ _⟩
 case round => (
 obtain ⟨k, q, rfl, rfl, hk1, hk, hq, hmin, hB⟩ := hrel
 have HQ := hid hq; have HMIN := hid hmin; have HB := hid hB
 clear hq hmin
 by_cases hkm : k < m
 · (
 obtain ⟨x, hx⟩ : ∃ x, xs[k]? = some x := ⟨_, List.getElem?_eq_getElem (by have := HM.out; omega)⟩
 have hsl := HS.out.below hB (Nat.le_refl _)
 have d0 := hsl.ci (i := k) (x := (x : Int)) (by rw [List.getElem?_map, hx]; rfl)
 simp only [Nat.zero_add] at d0
 have dl : b < wr.heap.size := Nat.lt_of_lt_of_le bl hB.size
 have hxm := List.mem_of_getElem? hx
 have HC := hid (HK.out wr x q hB hxm HQ.out)
 have HXM := hid hxm
 have HT := hid (take_snoc hx)
 have hfx := HF.out x hxm
 have hfq := HF.out q HQ.out
 have hkI : (k : Int) < (m : Int) := by omega
 have hwr0 := hB.size
 obtain ⟨fx, hfxe⟩ : ∃ fx, fx = f x := ⟨_, rfl⟩
 obtain ⟨fq, hfqe⟩ : ∃ fq, fq = f q := ⟨_, rfl⟩
 rw [<- hfxe] at HC hfx; rw [<- hfqe] at HC hfq
 have HFX := hid hfxe; have HFQ := hid hfqe
 clear hx hsl hxm hB hfxe hfqe
 by_cases hlt : fx < fq
 · (
 have hltI : (fx : Int) - (fq : Int) < 0 := by omega
 have hd : decide ((fx : Int) - (fq : Int) < 0) = true := by simp; omega
 go_wp2_with fail
 refine HC.out.mono ?_
 rintro e w2 ⟨rfl, hB2⟩
 have HB2 := hid (HB.out.trans (hB2.mono hwr0))
 have e0 : w2.cell? ⟨b, k, none⟩ = some (.int .i64 (x : Int)) := by rw [hB2.cell (p := ⟨b, k, none⟩) dl]; exact d0
 have el : b < w2.heap.size := Nat.lt_of_lt_of_le dl hB2.size
 have HMN : Hid (∀ z ∈ xs.take (k + 1), f x <= f z) := hid (fun z hz => by (
 rw [HT.out] at hz
 rcases List.mem_append.1 hz with hz | hz
 · have := HMIN.out z hz; have h1 := HFX.out; have h2 := HFQ.out; omega
 · simp at hz; subst hz; exact Nat.le_refl _))
 clear hB2 HC d0 HMIN
 go_wp2_with fail
 go_roundw
 case rel => exact ⟨k + 1, x, by go_num, rfl, by omega, by omega, HXM.out, HMN.out, HB2.out⟩
 case measure => simp [intOf]; omega)
 · (
 have hltI : ¬ ((fx : Int) - (fq : Int) < 0) := by omega
 have hd : decide ((fx : Int) - (fq : Int) < 0) = false := by simp; omega
 go_wp2_with fail
 refine HC.out.mono ?_
 rintro e w2 ⟨rfl, hB2⟩
 have HB2 := hid (HB.out.trans (hB2.mono hwr0))
 have HMN : Hid (∀ z ∈ xs.take (k + 1), f q <= f z) := hid (fun z hz => by (
 rw [HT.out] at hz
 rcases List.mem_append.1 hz with hz | hz
 · exact HMIN.out z hz
 · simp at hz; subst hz; have h1 := HFX.out; have h2 := HFQ.out; omega))
 clear hB2 HC d0 HMIN
 go_wp2_with fail
 go_roundw
 case rel => exact ⟨k + 1, q, by go_num, rfl, by omega, by omega, HQ.out, HMN.out, HB2.out⟩
 case measure => simp [intOf]; omega))
 · (
 obtain rfl : k = m := by omega
 have hmn := HMIN.out
 rw [HM.out, List.take_length] at hmn
 have HMN := hid hmn
 clear hmn HMIN
 go_wp2_with fail
 go_ret
 exact ⟨q, HQ.out, rfl, HMN.out, HB.out⟩))
end
end Go.Proofs.YtgikimbafakmcaaGreatDoor
namespace Go.Proofs.YtgikimbafakmcaaGreatDoor
open Go.RowKit Pl
open Lib (hid)
namespace Pl
theorem another {l : List Nat} (hn : l.Nodup) (h2 : 2 <= l.length) {b : Nat} : ∃ c, c ∈ l /\ c ≠ b := by
 apply Classical.byContradiction
 intro h
 have := nodup_le (l := l) (m := [b]) hn (fun x hx => by (
 rcases Classical.em (x = b) with e | e
 · simp [e]
 · exact absurd ⟨x, hx, e⟩ h))
 simp at this; omega
theorem bks_nodup (el hp : Nat -> Nat) (bl : List B3) (k h : Nat) : (bksOf el hp bl k h).Nodup := List.Pairwise.filter _ List.nodup_range
end Pl
section
variable {w0 w : World} {s : Lts} {K : PK} {S : SK} {n : Nat} {el pl inn : Nat -> Nat} {bl : List B3} {hp ga : Nat -> Nat} {sz : List Int} {tl : List Value} {rest : List Rw}
def SmallPost (w0 : World) (K : PK) (S : SK) (n : Nat) (el pl inn : Nat -> Nat) (bl : List B3) (hp ga : Nat -> Nat) (sz : List Int) (tl : List Value) (rest : List Rw) (e : Ending) (w' : World) : Prop :=
  (e = .returned (.slice none 0 0) /\ (∀ h, h < sz.length -> (bksOf el hp bl bl.length h).length < 2) /\ Rws w0 w' (PR K n el pl inn bl ++ (SR S K.pb n hp ga sz tl ++ rest))) ∨
  ∃ b c g cap : Nat, e = .returned (.slice (some ⟨g, 0, none⟩) (memN n inn b).length cap) /\ b < bl.length /\ c < bl.length /\ b ≠ c /\ hbk el hp bl b = hbk el hp bl c /\ (memN n inn b).length <= (memN n inn c).length /\ 0 < (memN n inn b).length /\
    Rws w0 w' (⟨3, 1, .slice (some ⟨g, 0, none⟩) (memN n inn b).length cap, (memN n inn b).length, ((memN n inn b).map Int.ofNat).flatMap encI⟩ :: (PR K n el pl inn bl ++ (SR S K.pb n hp ga sz tl ++ rest)))
theorem smallest_any (h : SW w0 w s K S n el pl inn bl hp ga sz tl rest) (hz : sz.length <= 1000) (hz0 : 0 < sz.length) (hh : ∀ p, p < n -> hp p < sz.length) :
    Calls Tryz.prog 110 #[.pointer (some ⟨S.xb, 0, none⟩)] w (SmallPost w0 K S n el pl inn bl hp ga sz tl rest) := by
 have H := hid h
 have hn1 := h.par.n1
 have hfew := h.par.pi.few
 have hb := h.par.rws.addLit #[.pointer (some ⟨S.xb, 0, none⟩)] 161 (k := 1) (n := 1) (by unfold maxLen; omega) rfl
 have hsw : SW w0 (w.alloc (.cells #[.pointer (some ⟨S.xb, 0, none⟩)] 161)) s K S n el pl inn bl hp ga sz tl (⟨161, 1, .slice (some ⟨w.heap.size, 0, none⟩) 1 1, 1, [.pointer (some ⟨S.xb, 0, none⟩)]⟩ :: rest) := ⟨⟨hb.dig, h.par.pi, hn1⟩, h.gr, h.st⟩
 have HB := hid (blocks_any hsw hz hz0 hh)
 obtain ⟨cb, hcb⟩ : ∃ cb, cb = w.heap.size := ⟨_, rfl⟩
 rw [<- hcb] at HB
 obtain ⟨m, hm⟩ : ∃ m, m = sz.length := ⟨_, rfl⟩
 rw [<- hm] at hz hz0
 have HM := hid hm
 clear h hb hsw hh hm
 go_enter Tryz.func110, Tryz.ntmps110
 go_wp2_with fail
 refine HB.out.mono ?_
 unfold BlocksPost
 rw [<- HM.out]
 rintro e w2 ⟨ob, vs, rfl, hr2, _⟩
 have HR2 := hid hr2
 rw [<- hcb]
 have c0 : w2.cell? ⟨cb, 0, none⟩ = some (.pointer (some ⟨S.xb, 0, none⟩)) := (hr2.sub ((List.sublist_append_right _ _).trans ((List.sublist_append_right _ _).trans (List.sublist_append_right _ _)))).cell (i := 0) rfl rfl
 have cl := World.block_lt_of_cell? _ _ c0
 clear hr2 hcb HB
 go_wp2_with fail
 go_loopw [4, 5, 6, 7, 11] (fun _ _ _ _ v11 wr => ∃ k : Nat, v11 = .int .i64 k /\ k <= m /\ wr = w2 /\ ∀ h, h < k -> (bksOf el hp bl bl.length h).length < 2) (fun _ _ _ _ v11 _ => m - (intOf v11).toNat)
 case atStart => exact ⟨0, rfl, Nat.zero_le _, rfl, fun h hh => by omega⟩
 case round => (
 obtain ⟨k, rfl, hk, rfl, hno⟩ := hrel
 have HNO := hid hno
 clear hno
 by_cases hkm : k < m
 · (
 obtain ⟨q0, _, ql, _⟩ := HR2.out.frCell (l := k) hkm
 obtain ⟨xa, xc, xb0, hxv, _, _, hxs, _⟩ := slAt_own lenI (HR2.out.frOwn (l := k) hkm)
 have hbl := bks_len el hp bl bl.length k
 have hlm : ((bksOf el hp bl bl.length k).map Int.ofNat).length = (bksOf el hp bl bl.length k).length := List.length_map ..
 rw [hlm] at hxv
 rw [hxv] at q0
 have HXS := hid hxs
 obtain ⟨X, hX⟩ : ∃ X, X = bksOf el hp bl bl.length k := ⟨_, rfl⟩
 rw [<- hX] at q0 hbl HXS
 have HX := hid hX
 have hkI : (k : Int) < (m : Int) := by omega
 clear hxv hxs hlm hX
 by_cases h2 : X.length < 2
 · (
 have h2I : (X.length : Int) < 2 := by omega
 have hn2 : ∀ h, h < k + 1 -> (bksOf el hp bl bl.length h).length < 2 := fun h hh => by (
 by_cases e : h = k
 · subst e; rw [<- HX.out]; exact h2
 · exact HNO.out h (by omega))
 have HN2 := hid hn2
 clear hn2
 go_wp2_with fail
 go_roundw
 case rel => exact ⟨k + 1, by go_num, by omega, trivial, HN2.out⟩
 case measure => simp [intOf]; omega)
 · (
 have h2I : ¬ (X.length : Int) < 2 := by omega
 have hX0 : 0 < X.length := by omega
 have SWW : Hid (∀ V, Below wr.heap.size wr V -> SW w0 V s K S n el pl inn bl hp ga sz tl (⟨161, 1, .slice (some ⟨cb, 0, none⟩) 1 1, 1, [.pointer (some ⟨S.xb, 0, none⟩)]⟩ :: rest)) := hid (fun V hV =>
   ⟨⟨(HR2.out.call hV).sub (List.sublist_append_right _ _), H.out.par.pi, hn1⟩, H.out.gr, H.out.st⟩)
 have hxr : ∀ x ∈ X, x < bl.length := fun x hx => by rw [HX.out] at hx; exact (mem_bks.1 hx).1
 have HMF := hid (minFunc_any (f := fun b => (memN n inn b).length) (xs := X) (c := xc) (cb := cb) HXS.out hX0 (by omega) (fun x _ => Nat.le_trans (memN_le _ _) (by omega)) (fun V x y hV hx hy =>
   lessS_any (SWW.out V hV) (hxr x hx) (hxr y hy) ((hV.cell (p := ⟨cb, 0, none⟩) cl).trans c0)))
 have HXR := hid hxr
 clear hxr
 go_wp2_with fail
 refine HMF.out.mono ?_
 unfold MinPost
 rintro e w3 ⟨b, hbx, rfl, hmin, hB3⟩
 have hbl2 := HXR.out b hbx
 have hsw3 := SWW.out w3 hB3
 have HMB := hid (members_any hsw3.par hbl2)
 have c1 : w3.cell? ⟨cb, 0, none⟩ = some (.pointer (some ⟨S.xb, 0, none⟩)) := (hB3.cell (p := ⟨cb, 0, none⟩) cl).trans c0
 have cl1 := World.block_lt_of_cell? _ _ c1
 obtain ⟨_, x1, _, _, _, _, _, xl⟩ := hsw3.run.sCells
 have HSW3 := hid hsw3; have HMIN := hid hmin; have HBX := hid hbx
 clear hmin hbx hB3 hsw3 c0 cl q0 ql HMF SWW
 go_wp2_with fail
 refine HMB.out.mono ?_
 unfold MembersPost
 rintro e w4 ⟨v, rfl, hown, hB4⟩
 have hpos : 0 < (memN n inn b).length := by
   obtain ⟨p, hp1, hp2, _⟩ := HSW3.out.par.pi.hbk (hp := hp) hbl2
   exact List.length_pos_of_mem (mem_memN.2 ⟨hp1, hp2⟩)
 have hadd := HSW3.out.par.rws.add hB4 hown
 have hlm : ((memN n inn b).map Int.ofNat).length = (memN n inn b).length := List.length_map ..
 rw [hlm] at hadd hown
 obtain ⟨g, cap, rfl, _, _⟩ := hown.form hpos
 obtain ⟨c, hc1, hc2⟩ := another (b := b) (by rw [HX.out]; exact bks_nodup el hp bl bl.length k : X.Nodup) (by omega)
 have hcb2 := HBX.out; have hcc2 := hc1
 rw [HX.out] at hcb2 hcc2
 have hfin : SmallPost w0 K S n el pl inn bl hp ga sz tl rest (.returned (.slice (some ⟨g, 0, none⟩) (memN n inn b).length cap)) w4 := .inr ⟨b, c, g, cap, rfl, hbl2, HXR.out c hc1, fun e => hc2 e.symm, by rw [(mem_bks.1 hcb2).2, (mem_bks.1 hcc2).2], HMIN.out c hc1, hpos,
   hadd.sub (.cons_cons _ ((List.Sublist.refl _).append ((List.Sublist.refl _).append (List.sublist_cons_self _ _))))⟩
 have HFIN := hid hfin
 clear hpos hadd hlm hown hc1 hc2 hcb2 hcc2 hfin hB4 HMB x1 xl c1 cl1
 go_wp2_with fail
 go_ret
 exact HFIN.out))
 · (
 obtain rfl : k = m := by omega
 have hfin : SmallPost w0 K S n el pl inn bl hp ga sz tl rest (.returned (.slice none 0 0)) wr := .inl ⟨rfl, by rw [<- HM.out]; exact HNO.out, HR2.out.sub (((List.Sublist.refl _).append ((List.Sublist.refl _).append (List.sublist_cons_self _ _))).trans (List.sublist_append_right _ _))⟩
 have HFIN := hid hfin
 clear hfin HNO
 go_wp2_with fail
 go_ret
 exact HFIN.out))
end
end Go.Proofs.YtgikimbafakmcaaGreatDoor
namespace Go.Proofs.YtgikimbafakmcaaGreatDoor
open Go.RowKit Pl
theorem check_ok {p : Addr} {s : Lts} (h : s.Right) (a : Option Addr) (b off c : Nat) (w : World) (hG : GErr 0 p w) (hS : SlAt encE 3 w a b off s.es) :
    Calls Tryz.prog 19 #[.agg #[.int .i64 s.st, .int .i64 s.lb, .int .i64 s.s0, .slice a s.es.length c]] w fun e w' => e = .returned .nilIface /\ Below w.heap.size w w' := by
 refine (check_body s.st s.lb s.s0 a b off c s.es w hG h.head hS).mono ?_
 rintro e w' ⟨h1, h2⟩
 have : s.es.all (fun x => !offB s.st s.lb x) = true := by rw [List.all_eq_true]; intro x hx; simp [h.edges x hx]
 unfold CheckPost at h1
 rw [this] at h1
 exact ⟨h1, h2⟩
theorem check_no {p : Addr} {s : Lts} (h : ¬ s.Right) (a : Option Addr) (b off c : Nat) (w : World) (hG : GErr 0 p w) (hS : SlAt encE 3 w a b off s.es) :
    Calls Tryz.prog 19 #[.agg #[.int .i64 s.st, .int .i64 s.lb, .int .i64 s.s0, .slice a s.es.length c]] w fun e w' =>
      ∃ v, e = .returned v /\ FaultAt w' v ⟨#[115, 121, 115, 116, 101, 109]⟩ (.iface 270 (.pointer (some p))) /\ Below w.heap.size w w' := by
 by_cases hh : HeadBad s.st s.lb s.s0 s.es.length
 · exact check_head s.st s.lb s.s0 a s.es.length c w hG hh
 · (
 refine (check_body s.st s.lb s.s0 a b off c s.es w hG hh hS).mono ?_
 rintro e w' ⟨h1, h2⟩
 have : s.es.all (fun x => !offB s.st s.lb x) = false := by
   rw [Bool.eq_false_iff]; intro ha; rw [List.all_eq_true] at ha
   exact h ⟨hh, fun x hx => by simpa using ha x hx⟩
 unfold CheckPost at h1
 rw [this] at h1
 obtain ⟨v, h1, h3⟩ := h1
 exact ⟨v, h1, h3, h2⟩)
end Go.Proofs.YtgikimbafakmcaaGreatDoor
namespace Go.Proofs.YtgikimbafakmcaaGreatDoor
open Go.RowKit Pl
theorem key1_any (x : E) (W : World) : Calls Tryz.prog 140 #[.agg #[.int .i64 x.1, .int .i64 x.2.1, .int .i64 x.2.2]] W fun e w' => e = .returned (.int .i64 x.1) /\ w' = W.alloc (.cells #[.int .i64 x.1, .int .i64 x.2.1, .int .i64 x.2.2] 57) := by
 go_enter Tryz.func140, Tryz.ntmps140
 go_wp2
 go_ret
 exact ⟨rfl, rfl⟩
theorem key4_any (x : E) (W : World) : Calls Tryz.prog 146 #[.agg #[.int .i64 x.1, .int .i64 x.2.1, .int .i64 x.2.2]] W fun e w' => e = .returned (.int .i64 x.2.2) /\ w' = W.alloc (.cells #[.int .i64 x.1, .int .i64 x.2.1, .int .i64 x.2.2] 57) := by
 go_enter Tryz.func146, Tryz.ntmps146
 go_wp2
 go_ret
 exact ⟨rfl, rfl⟩
theorem step2_any (x : E) (W : World) : Calls Tryz.prog 141 #[.agg #[.int .i64 x.1, .int .i64 x.2.1, .int .i64 x.2.2]] W fun e w' => e = .returned (.agg #[.int .i64 x.2.1, .int .i64 x.2.2]) /\ w' = (W.alloc (.cells #[.int .i64 x.1, .int .i64 x.2.1, .int .i64 x.2.2] 57)).alloc (.cells #[.int .i64 x.2.1, .int .i64 x.2.2] 129) := by
 go_enter Tryz.func141, Tryz.ntmps141
 go_wp2
 exact bodyPost_ret (v := .agg #[.int .i64 x.2.1, .int .i64 x.2.2]) (by simp [results, Tryz.results141, go_sem]) rfl ⟨rfl, rfl⟩
theorem step5_any (x : E) (W : World) : Calls Tryz.prog 147 #[.agg #[.int .i64 x.1, .int .i64 x.2.1, .int .i64 x.2.2]] W fun e w' => e = .returned (.agg #[.int .i64 x.2.1, .int .i64 x.1]) /\ w' = (W.alloc (.cells #[.int .i64 x.1, .int .i64 x.2.1, .int .i64 x.2.2] 57)).alloc (.cells #[.int .i64 x.2.1, .int .i64 x.1] 129) := by
 go_enter Tryz.func147, Tryz.ntmps147
 go_wp2
 exact bodyPost_ret (v := .agg #[.int .i64 x.2.1, .int .i64 x.1]) (by simp [results, Tryz.results147, go_sem]) rfl ⟨rfl, rfl⟩
structure NR (w wr : World) (n : Nat) (fr : Nat -> Int) (va : Value) (ss : List S) : Prop where
  below : Below w.heap.size w wr
  b0 : wr.heap[w.heap.size]? = some (.cells #[.slice none 0 0, .slice none 0 0] 215 (0, 0))
  b1 : wr.rowIs (w.heap.size + 1) 3 (n + 1) (fun j => .int .i64 (fr j))
  b2 : wr.heap[w.heap.size + 2]? = some (.cells #[va, .slice (some ⟨w.heap.size + 1, 0, none⟩) (n + 1) (n + 1)] 215 (0, 0))
  all : wr.ownsRow (w.heap.size + 3) 129 2 va ss.length (ss.flatMap encS)
  size : w.heap.size + 3 <= wr.heap.size
section
variable {w wr : World} {n : Nat} {fr : Nat -> Int} {va : Value} {ss : List S}
theorem NR.alloc (h : NR w wr n fr va ss) (o : Obj) : NR w (wr.alloc o) n fr va ss :=
  ⟨h.below.alloc (by have := h.size; omega) o, by rw [Below.heap_alloc _ _ _ (by have := h.size; omega)]; exact h.b0, h.b1.alloc o,
    by rw [Below.heap_alloc _ _ _ (by have := h.size; omega)]; exact h.b2, h.all.alloc o, by have := h.size; simp; omega⟩
theorem NR.drewN (h : NR w wr n fr va ss) (m : Nat) : NR w (wr.drewN m) n fr va ss :=
  ⟨below_drewN h.below m, h.b0, h.b1, h.b2, h.all, h.size⟩
theorem NR.setFrom (h : NR w wr n fr va ss) (j : Nat) (v : Int) : NR w (wr.setCell ⟨w.heap.size + 1, j, none⟩ (.int .i64 v)) n (fun i => if i = j then v else fr i) va ss :=
  ⟨h.below.setCell (by show w.heap.size <= w.heap.size + 1; omega) _, by rw [Below.heap_setCell _ _ _ _ (by show w.heap.size ≠ w.heap.size + 1; omega)]; exact h.b0,
    (h.b1.set j _).congr (fun i _ => by split <;> rfl), by rw [Below.heap_setCell _ _ _ _ (by show w.heap.size + 2 ≠ w.heap.size + 1; omega)]; exact h.b2,
    ownsRow_setCell_below h.all (by show w.heap.size + 1 < w.heap.size + 3; omega) _, by have := h.size; simpa [World.setCell] using this⟩
theorem NR.setAll (h : NR w wr n fr va ss) {w1 : World} {va' : Value} {ss' : List S} (hown : w1.ownsRow (w.heap.size + 3) 129 2 va' ss'.length (ss'.flatMap encS)) (hg : wr.grownBy w1 va.ownBlock) :
    NR w (w1.setCell ⟨w.heap.size + 2, 0, none⟩ va') n fr va' ss' := by
 have hs := h.size
 have hb : ∀ k, k < w.heap.size + 3 -> w1.heap[k]? = wr.heap[k]? := fun k hk => hg.block k (by omega) (fun e => by have := (h.all.lt k e.symm).1; omega)
 have hs1 := hg.size
 refine ⟨(h.below.grown hg (by omega) (fun k hk => by have := (h.all.lt k hk).1; omega)).setCell (by show w.heap.size <= w.heap.size + 2; omega) _, ?_, ?_, ?_, ownsRow_setCell_below hown (by show w.heap.size + 2 < w.heap.size + 3; omega) _, ?_⟩
 · rw [Below.heap_setCell _ _ _ _ (by show w.heap.size ≠ w.heap.size + 2; omega), hb _ (by omega)]; exact h.b0
 · exact (h.b1.of_block (hb _ (by omega))).setOther (by show w.heap.size + 1 ≠ w.heap.size + 2; omega) _
 · have := h.b2
   rw [<- hb _ (by omega)] at this
   simp only [World.setCell, Array.getElem?_modify, if_true, this]
   rfl
 · have := h.size; simp [World.setCell]; omega
theorem NR.congr {fr' : Nat -> Int} (h : NR w wr n fr va ss) (e : ∀ i, fr i = fr' i) : NR w wr n fr' va ss := by
 have : fr = fr' := funext e
 rw [<- this]; exact h
theorem NR.c0 (h : NR w wr n fr va ss) : wr.cell? ⟨w.heap.size + 2, 0, none⟩ = some va := by simp [World.cell?, h.b2]
theorem NR.c1 (h : NR w wr n fr va ss) : wr.cell? ⟨w.heap.size + 2, 1, none⟩ = some (.slice (some ⟨w.heap.size + 1, 0, none⟩) (n + 1) (n + 1)) := by simp [World.cell?, h.b2]
theorem NR.fz (h : NR w wr n fr va ss) (j : Nat) : wr.frozen? ⟨w.heap.size + 2, j, none⟩ = false := by simp [World.frozen?, h.b2]
theorem NR.keep (h : NR w wr n fr va ss) {w1 : World} (hg : wr.grownBy w1 va.ownBlock) : w1.cell? ⟨w.heap.size + 1 + 1, 0, none⟩ = some va /\ w1.frozen? ⟨w.heap.size + 1 + 1, 0, none⟩ = false := by
 have hb : w1.heap[w.heap.size + 2]? = wr.heap[w.heap.size + 2]? := hg.block _ (by have := h.size; omega) (fun e => by have := (h.all.lt _ e.symm).1; omega)
 exact ⟨by rw [World.cell?_of_block (w := wr) (a := ⟨w.heap.size + 1 + 1, 0, none⟩) hb]; exact h.c0, by rw [World.frozen?_of_block (w := wr) (a := ⟨w.heap.size + 1 + 1, 0, none⟩) hb]; exact h.fz 0⟩
theorem NR.d0 (h : NR w wr n fr va ss) : wr.cell? ⟨w.heap.size, 0, none⟩ = some (.slice none 0 0) := by simp [World.cell?, h.b0]
theorem NR.d1 (h : NR w wr n fr va ss) : wr.cell? ⟨w.heap.size, 1, none⟩ = some (.slice none 0 0) := by simp [World.cell?, h.b0]
theorem NR.dz (h : NR w wr n fr va ss) (j : Nat) : wr.frozen? ⟨w.heap.size, j, none⟩ = false := by simp [World.frozen?, h.b0]
end
theorem NR.start (w : World) (n : Nat) (fr : Nat -> Int) (hf : ∀ i, fr i = 0) :
    NR w (((w.alloc (Obj.cells #[Value.slice none 0 0, Value.slice none 0 0] 215)).alloc (Obj.cells (madeCells #[Value.int IntKind.i64 0] (n + 1)) 3)).alloc (Obj.cells #[Value.slice none 0 0, Value.slice (some ⟨w.heap.size + 1, 0, none⟩) (n + 1) (n + 1)] 215)) n fr (.slice none 0 0) [] := by
 refine ⟨((((Below.refl _ _).alloc (Nat.le_refl _) _).alloc (by simp) _).alloc (by simp; omega) _), ?_, ?_, ?_, World.ownsRow_nil _ _ _ _, by simp⟩
 · rw [Below.heap_alloc _ _ _ (by simp; omega), Below.heap_alloc _ _ _ (by simp), heap_alloc_new]
 · have := (World.rowIs_made (w.alloc (Obj.cells #[Value.slice none 0 0, Value.slice none 0 0] 215)) (.int .i64 0) (n + 1) 3).alloc (Obj.cells #[Value.slice none 0 0, Value.slice (some ⟨w.heap.size + 1, 0, none⟩) (n + 1) (n + 1)] 215)
   refine (by simpa using this : World.rowIs _ (w.heap.size + 1) _ _ _).congr (fun i _ => by rw [hf])
 · simpa using heap_alloc_new ((w.alloc (Obj.cells #[Value.slice none 0 0, Value.slice none 0 0] 215)).alloc (Obj.cells (madeCells #[Value.int IntKind.i64 0] (n + 1)) 3)) (Obj.cells #[Value.slice none 0 0, Value.slice (some ⟨w.heap.size + 1, 0, none⟩) (n + 1) (n + 1)] 215)
def cntk (key : E -> Int) (l : List E) (i : Nat) : Int := (l.filter (fun x => key x + 1 == (i : Int))).length
theorem cntk_snoc (key : E -> Int) (l : List E) (x : E) (i : Nat) : cntk key (l ++ [x]) i = cntk key l i + if key x + 1 = (i : Int) then 1 else 0 := by
 unfold cntk
 rw [List.filter_append]
 by_cases h : key x + 1 = (i : Int) <;> simp [h]
theorem cntk_le (key : E -> Int) (l : List E) (i : Nat) : 0 <= cntk key l i /\ cntk key l i <= l.length := by
 unfold cntk
 have := List.length_filter_le (fun x => key x + 1 == (i : Int)) l
 omega
def frOf (key : E -> Int) (xs : List E) (k : Nat) (i : Nat) : Int := if i <= k then ((xs.filter (fun x => decide (key x < (i : Int)))).length : Int) else cntk key xs i
theorem frOf_zero (key : E -> Int) {xs : List E} (h : ∀ x ∈ xs, 0 <= key x) (i : Nat) : frOf key xs 0 i = cntk key xs i := by
 unfold frOf
 split
 · (
 have : i = 0 := by omega
 subst this
 unfold cntk
 congr 1
 have h1 : xs.filter (fun x => decide (key x < ((0 : Nat) : Int))) = [] := by
   rw [List.filter_eq_nil_iff]; intro x hx; have := h x hx; simp; omega
 have h2 : xs.filter (fun x => key x + 1 == ((0 : Nat) : Int)) = [] := by
   rw [List.filter_eq_nil_iff]; intro x hx; have := h x hx; simp; omega
 rw [h1, h2])
 · rfl
theorem pre_succ (key : E -> Int) (k : Nat) : ∀ xs : List E, ((xs.filter (fun x => decide (key x < ((k + 1 : Nat) : Int)))).length : Int) = cntk key xs (k + 1) + (xs.filter (fun x => decide (key x < (k : Int)))).length
  | [] => by simp [cntk]
  | x :: xs => by
    have ih := pre_succ key k xs
    unfold cntk at *
    simp only [List.filter_cons]
    by_cases h1 : key x < (k : Int)
    · have b1 : decide (key x < (k : Int)) = true := by simp [h1]
      have b2 : decide (key x < ((k + 1 : Nat) : Int)) = true := by simp; omega
      have b3 : (key x + 1 == ((k + 1 : Nat) : Int)) = false := by simp; omega
      simp only [b1, b2, b3, if_true, Bool.false_eq_true, if_false, List.length_cons]; omega
    · have b1 : decide (key x < (k : Int)) = false := by simp; omega
      by_cases h2 : key x < ((k + 1 : Nat) : Int)
      · have b2 : decide (key x < ((k + 1 : Nat) : Int)) = true := by simp; omega
        have b3 : (key x + 1 == ((k + 1 : Nat) : Int)) = true := by simp; omega
        simp only [b1, b2, b3, if_true, Bool.false_eq_true, if_false, List.length_cons]; omega
      · have b2 : decide (key x < ((k + 1 : Nat) : Int)) = false := by simp; omega
        have b3 : (key x + 1 == ((k + 1 : Nat) : Int)) = false := by simp; omega
        simp only [b1, b2, b3, Bool.false_eq_true, if_false]; omega
theorem frOf_step (key : E -> Int) (xs : List E) (k : Nat) : frOf key xs (k + 1) (k + 1) = frOf key xs k (k + 1) + frOf key xs k k := by
 unfold frOf
 rw [if_pos (Nat.le_refl _), if_neg (by omega), if_pos (Nat.le_refl _)]
 exact pre_succ key k xs
theorem frOf_bd (key : E -> Int) (xs : List E) (k i : Nat) : 0 <= frOf key xs k i /\ frOf key xs k i <= xs.length := by
 unfold frOf
 split
 · have := List.length_filter_le (fun x => decide (key x < (i : Int))) xs; omega
 · exact cntk_le _ _ _
theorem frOf_next (key : E -> Int) (xs : List E) (k i : Nat) : (if i = k + 1 then frOf key xs k (k + 1) + frOf key xs k k else frOf key xs k i) = frOf key xs (k + 1) i := by
 by_cases h : i = k + 1
 · subst h; rw [if_pos rfl, frOf_step]
 · rw [if_neg h]; unfold frOf
   by_cases h2 : i <= k
   · rw [if_pos h2, if_pos (by omega)]
   · rw [if_neg h2, if_neg (by omega)]
end Go.Proofs.YtgikimbafakmcaaGreatDoor
